import Derived.Laws.Externs
import Derived.Test.YtiihiifcnkfjoaaDoorSxG7
/-
  The library's slices.Index and slices.Contains of whole numbers.
-/
namespace Go.Proofs.YtiihiifcnkfjoaaDoor.Sx
open Go Go.Proofs
set_option maxRecDepth 100000
set_option linter.unusedSimpArgs false
set_option linter.unusedVariables false

def sIndex : Spec := fun args h nx K => ∃ v l k, args = [v, .int .i64 k] ∧ rdL h v l ∧ l.length ≤ 1000000000 ∧ K (.ret (.int .i64 (findI k l))) h nx
theorem sIndex_ok : SpecOK Tryd.prog 67 sIndex := by
  refine specOK_read2 (fn := Tryd.f67) rfl rfl rfl T_ok (SP := []) noSP 0 _ ?_
  rintro args h nx K ⟨v, l, k, rfl, hv, hn, hk⟩
  obtain ⟨b, c, told⟩ := told_L1 (rest := [.int .i64 k]) hv ⟨trivial, trivial⟩
  refine ⟨_, _, told, by simp [Tryd.f67], fun o => o = .ret (.int .i64 (findI k l)), ?_, ?_⟩
  · rintro o rfl; exact ⟨trivial, hk⟩
  intro cx hcx
  clear hk told hv
  show W _ _ _ _ 0
  have hE := mkE' (fn := Tryd.f67) (R := fun o _ _ => o = .ret (.int .i64 (findI k l))) hcx noSP
  have ew : ∀ {τ : Nat → Nat} {h' : Hp}, wkE τ h' (.ro b l.length 1 (gl l)) (.ro b l.length 1 (gl l)) := ⟨rfl, rfl, rfl, fun i c hi hc => gl_ro⟩
  refine vc_sound hE 40 _ _ _ 0 ?_
  refine W_loop (fun r σ h => ∃ j : Nat, r = l.length - j ∧ j ≤ l.length ∧ (∀ i, i < j → l.getD i 0 ≠ k) ∧ σ = [(0, .slice 2000 0 l.length c), (1, .int .i64 k), (7, .int .i64 l.length), (8, .int .i64 j)] ∧ h = [(2000, .ro b l.length 1 (gl l))]) l.length ⟨0, rfl, by omega, fun k hk => by omega, rfl, rfl⟩ (tau []) ⟨rfl, (by repeat' (first | exact rfl | exact trivial | assumption | refine ⟨?_, ?_⟩)), ew, trivial⟩ 30 ?_
  rintro r σ h1 ⟨j, rfl, hj, hall, rfl, rfl⟩
  refine vc_sound hE 60 _ _ _ 30 ?_
  (refine (?_ : br _ _ _); refine br_dec (fun q => ?_) (fun q => ?_))
  · have hlt : (j : Int) < (l.length : Int) := q
    have hjn : j < l.length := by omega
    have hw : IntKind.i64.wrap ((j : Int) + 1) = ((j + 1 : Nat) : Int) := by simp [IntKind.wrap_i64]; omega
    have hz : addI 0 ((j : Int)).toNat = j := by rw [Int.toNat_natCast, addI_eq, Nat.zero_add]
    (refine (?_ : chk _ _); refine chk_ok (show (decide ((0 : Int) ≤ (j : Int)) && decide ((j : Int) < (l.length : Int))) = true by simp only [Bool.and_eq_true, decide_eq_true_eq]; omega) ?_)
    (refine (?_ : chk _ _); refine chk_ok rfl ?_)
    (refine (?_ : chk _ _); refine chk_ok (Nat.ble_eq_true_of_le (show addI 0 ((j : Int)).toNat * 1 + 0 + 1 ≤ l.length * 1 by rw [hz]; omega)) ?_)
    (refine (?_ : br _ _ _); refine br_eq (fun e => ?_) (fun e => ?_))
    · have e : k = l.getD (addI 0 ((j : Int)).toNat) 0 := e
      rw [hz] at e
      obtain ⟨e1, e2⟩ := ixZ_at hjn hall e.symm
      exact outI (by unfold findI; rw [if_pos e2, e1])
    · have e : k ≠ l.getD (addI 0 ((j : Int)).toNat) 0 := e
      rw [hz] at e
      refine ⟨l.length - (j + 1), _, _, by omega, ⟨j + 1, rfl, by omega, fun i hi => ?_, rfl, rfl⟩, tau [], rfl, (by repeat' (first | exact rfl | exact trivial | assumption | refine ⟨?_, ?_⟩)), ew, trivial⟩
      by_cases hkj : i = j
      · subst hkj; exact Ne.symm e
      · exact hall i (by omega)
  · have hlt : ¬ (j : Int) < (l.length : Int) := q
    refine outI ?_
    unfold findI
    rw [if_neg (ixZ_no fun i hi => hall i (by omega))]

def sContains : Spec := fun args h nx K => ∃ v l k, args = [v, .int .i64 k] ∧ rdL h v l ∧ l.length ≤ 1000000000 ∧ K (.ret (.bool (decide (k ∈ l)))) h nx
theorem sContains_ok : SpecOK Tryd.prog 48 sContains := by
  refine specOK_read2 (fn := Tryd.f48) rfl rfl rfl T_ok (SP := [(67, sIndex)]) (consSP sIndex_ok noSP) 100 _ ?_
  rintro args h nx K ⟨v, l, k, rfl, hv, hn, hk⟩
  obtain ⟨b, c, told⟩ := told_L1 (rest := [.int .i64 k]) hv ⟨trivial, trivial⟩
  refine ⟨_, _, told, by simp [Tryd.f48], fun o => o = .ret (.bool (decide (k ∈ l))), ?_, ?_⟩
  · rintro o rfl; exact ⟨trivial, hk⟩
  intro cx hcx
  refine ⟨_, l, k, rfl, .inr ⟨2000, 0, c, b, l.length, gl l, rfl, rfl, by omega, fun j hj => by rw [Nat.zero_add]; rfl⟩, hn, ?_⟩
  exact outB (decide_eq_decide.2 (findI_ge))
end Go.Proofs.YtiihiifcnkfjoaaDoor.Sx

/-
  The library's product of two words, where both are small; the order of two products.
-/
namespace Go.Proofs.YtiihiifcnkfjoaaDoor.Sx
open Go Go.Proofs
set_option maxRecDepth 100000
set_option linter.unusedSimpArgs false
set_option linter.unusedVariables false

theorem and32 {n : Nat} (h : n ≤ 65535) : IntKind.u64.wrap ((BitVec.ofInt 64 (n : Int) &&& BitVec.ofInt 64 4294967295).toNat) = (n : Int) := by
  have e : (BitVec.ofInt 64 (n : Int) &&& BitVec.ofInt 64 4294967295).toNat = n := by
    rw [BitVec.toNat_and]
    have e1 : (BitVec.ofInt 64 (n : Int)).toNat = n := by rw [BitVec.ofInt_natCast, BitVec.toNat_ofNat]; omega
    have e2 : (BitVec.ofInt 64 (4294967295 : Int)).toNat = 2 ^ 32 - 1 := by decide
    rw [e1, e2, Nat.and_two_pow_sub_one_eq_mod]
    omega
  rw [e]
  simp only [IntKind.wrap_u64]; omega
theorem shr32 {a : Int} (h0 : 0 ≤ a) (h : a ≤ 4294967295) : a.fdiv (2 ^ (min (32 : Int).toNat 64)) = 0 := by
  have : (2 : Int) ^ (min (32 : Int).toNat 64) = 4294967296 := by decide
  rw [this, Int.fdiv_eq_ediv_of_nonneg _ (by omega)]
  omega
def sMulS : Spec := fun args h nx K => ∃ a b : Nat, args = [.int .u64 a, .int .u64 b] ∧ a ≤ 65535 ∧ b ≤ 65535 ∧ K (.ret (.tup [.int .u64 0, .int .u64 (a * b : Nat)])) h nx
theorem sMulS_ok : SpecOK Tryd.prog 74 sMulS := by
  refine specOK_pure (fn := Tryd.f74) rfl rfl rfl T_ok (SP := []) noSP [] trivial 0 _ ?_
  rintro args h nx K ⟨a, b, rfl, ha, hb, hk⟩
  refine ⟨trivial, by repeat constructor, by simp [Tryd.f74], fun o => o = .ret (.tup [.int .u64 0, .int .u64 (a * b : Nat)]), ?_, ?_⟩
  · rintro o rfl; exact ⟨⟨trivial, trivial, trivial⟩, hk⟩
  intro c hc
  show W _ _ _ _ 0
  have hE := mkE' (fn := Tryd.f74) (R := fun o _ _ => o = .ret (.tup [.int .u64 0, .int .u64 (a * b : Nat)])) hc noSP
  have hA := and32 ha
  have hB := and32 hb
  have hAs := shr32 (a := (a : Int)) (by omega) (by omega)
  have hBs := shr32 (a := (b : Int)) (by omega) (by omega)
  have hab : a * b ≤ 65535 * 65535 := Nat.mul_le_mul ha hb
  have hw : IntKind.u64.wrap ((a : Int) * (b : Int)) = ((a * b : Nat) : Int) := by rw [← Int.natCast_mul]; simp only [IntKind.wrap_u64]; omega
  refine W_seq (nx := 0) ?_
  refine W_to (nx := 0) [(0, .int .u64 a), (1, .int .u64 b)] [] 30 ?_ ?_
  · refine vc_sound hE 20 _ _ _ 30 ?_
    exact ⟨tau [], rfl, (by repeat' (first | exact rfl | exact trivial | assumption | refine ⟨?_, ?_⟩)), trivial⟩
  refine W_seq (nx := 30) ?_
  refine W_to (nx := 30) [(0, .int .u64 a), (1, .int .u64 b), (6, .int .u64 a)] [] 30 ?_ ?_
  · refine vc_sound hE 20 _ _ _ 30 ?_
    exact ⟨tau [], rfl, (by repeat' (first | exact rfl | exact trivial | assumption | refine ⟨?_, ?_⟩)), trivial⟩
  refine W_seq (nx := 30) ?_
  refine W_to (nx := 30) [(0, .int .u64 a), (1, .int .u64 b), (6, .int .u64 a), (7, .int .u64 0)] [] 30 ?_ ?_
  · refine vc_sound hE 20 _ _ _ 30 ?_
    exact ⟨tau [], rfl, (by repeat' (first | exact rfl | exact trivial | assumption | refine ⟨?_, ?_⟩)), trivial⟩
  have z0 : IntKind.u64.wrap 0 = 0 := by decide
  have zs : (0 : Int).fdiv (2 ^ (min (32 : Int).toNat 64)) = 0 := shr32 (by omega) (by omega)
  have hs : ((a * b : Nat) : Int).fdiv (2 ^ (min (32 : Int).toNat 64)) = 0 := shr32 (by omega) (by omega)
  have h11 : IntKind.u64.wrap (IntKind.u64.wrap (0 * (b : Int)) + ((a * b : Nat) : Int).fdiv (2 ^ (min (32 : Int).toNat 64))) = 0 := by rw [hs, Int.zero_mul, z0]; exact z0
  have h9 : IntKind.u64.wrap (0 + IntKind.u64.wrap ((a : Int) * 0)) = 0 := by rw [Int.mul_zero, z0]; exact z0
  have h10 : IntKind.u64.wrap (IntKind.u64.wrap (IntKind.u64.wrap (0 * 0) + 0) + (0 : Int).fdiv (2 ^ (min (32 : Int).toNat 64))) = 0 := by rw [zs]; decide
  have hm : IntKind.u64.wrap ((BitVec.ofInt 64 0 &&& BitVec.ofInt 64 4294967295).toNat) = 0 := by decide
  refine W_seq (nx := 30) ?_
  refine W_to (nx := 30) [(0, .int .u64 a), (1, .int .u64 b), (6, .int .u64 a), (7, .int .u64 0), (8, .int .u64 b)] [] 30 ?_ ?_
  · refine vc_sound hE 30 _ _ _ 30 ?_
    exact ⟨tau [], rfl, (by repeat' (first | exact rfl | exact trivial | assumption | refine ⟨?_, ?_⟩)), trivial⟩
  refine W_seq (nx := 30) ?_
  refine W_to (nx := 30) [(0, .int .u64 a), (1, .int .u64 b), (6, .int .u64 a), (7, .int .u64 0), (8, .int .u64 b), (9, .int .u64 0)] [] 30 ?_ ?_
  · refine vc_sound hE 30 _ _ _ 30 ?_
    exact ⟨tau [], rfl, (by repeat' (first | exact rfl | exact trivial | assumption | refine ⟨?_, ?_⟩)), trivial⟩
  refine W_seq (nx := 30) ?_
  refine W_to (nx := 30) [(0, .int .u64 a), (1, .int .u64 b), (6, .int .u64 a), (7, .int .u64 0), (8, .int .u64 b), (9, .int .u64 0), (10, .int .u64 (a * b : Nat))] [] 30 ?_ ?_
  · refine vc_sound hE 30 _ _ _ 30 ?_
    exact ⟨tau [], rfl, (by repeat' (first | exact rfl | exact trivial | assumption | refine ⟨?_, ?_⟩)), trivial⟩
  refine W_seq (nx := 30) ?_
  refine W_to (nx := 30) [(0, .int .u64 a), (1, .int .u64 b), (6, .int .u64 a), (7, .int .u64 0), (9, .int .u64 0), (11, .int .u64 0)] [] 30 ?_ ?_
  · refine vc_sound hE 30 _ _ _ 30 ?_
    exact ⟨tau [], rfl, (by repeat' (first | exact rfl | exact trivial | assumption | refine ⟨?_, ?_⟩)), trivial⟩
  refine W_seq (nx := 30) ?_
  refine W_to (nx := 30) [(0, .int .u64 a), (1, .int .u64 b), (6, .int .u64 a), (7, .int .u64 0), (9, .int .u64 0), (11, .int .u64 0), (12, .int .u64 0)] [] 30 ?_ ?_
  · refine vc_sound hE 30 _ _ _ 30 ?_
    exact ⟨tau [], rfl, (by repeat' (first | exact rfl | exact trivial | assumption | refine ⟨?_, ?_⟩)), trivial⟩
  refine W_seq (nx := 30) ?_
  refine W_to (nx := 30) [(0, .int .u64 a), (1, .int .u64 b), (6, .int .u64 a), (7, .int .u64 0), (9, .int .u64 0), (12, .int .u64 0), (13, .int .u64 0)] [] 30 ?_ ?_
  · refine vc_sound hE 30 _ _ _ 30 ?_
    exact ⟨tau [], rfl, (by repeat' (first | exact rfl | exact trivial | assumption | refine ⟨?_, ?_⟩)), trivial⟩
  refine W_seq (nx := 30) ?_
  refine W_to (nx := 30) [(0, .int .u64 a), (1, .int .u64 b), (7, .int .u64 0), (9, .int .u64 0), (12, .int .u64 0), (13, .int .u64 0)] [] 30 ?_ ?_
  · refine vc_sound hE 30 _ _ _ 30 ?_
    exact ⟨tau [], rfl, (by repeat' (first | exact rfl | exact trivial | assumption | refine ⟨?_, ?_⟩)), trivial⟩
  refine W_seq (nx := 30) ?_
  refine W_to (nx := 30) [(0, .int .u64 a), (1, .int .u64 b), (4, .int .u64 0)] [] 30 ?_ ?_
  · refine vc_sound hE 30 _ _ _ 30 ?_
    exact ⟨tau [], rfl, (by repeat' (first | exact rfl | exact trivial | assumption | refine ⟨?_, ?_⟩)), trivial⟩
  refine vc_sound hE 30 _ _ _ 30 ?_
  show Out.ret (.tup [.int .u64 0, .int .u64 (IntKind.u64.wrap ((a : Int) * (b : Int)))]) = _
  rw [hw]
end Go.Proofs.YtiihiifcnkfjoaaDoor.Sx

/-
  The library's cmp.Compare, cmp.Or; the order of two products.
-/
namespace Go.Proofs.YtiihiifcnkfjoaaDoor.Sx
open Go Go.Proofs
set_option maxRecDepth 100000
set_option linter.unusedSimpArgs false
set_option linter.unusedVariables false

def sNaNu : Spec := fun args h nx K => ∃ x : Int, args = [.int .u64 x] ∧ K (.ret (.bool false)) h nx
theorem sNaNu_ok : SpecOK Tryd.prog 79 sNaNu := by
  refine specOK_pure (fn := Tryd.f79) rfl rfl rfl T_ok (SP := []) noSP [] trivial 60 _ ?_
  rintro args h nx K ⟨x, rfl, hk⟩
  refine ⟨trivial, by repeat constructor, by simp [Tryd.f79], fun o => o = .ret (.bool false), ?_, ?_⟩
  · rintro o rfl; exact ⟨trivial, hk⟩
  intro c hc
  exact outB (by simp)
def cmpI (x y : Int) : Int := if x < y then -1 else if y < x then 1 else 0
def sCmpU : Spec := fun args h nx K => ∃ x y : Int, args = [.int .u64 x, .int .u64 y] ∧ K (.ret (.int .i64 (cmpI x y))) h nx
theorem sCmpU_ok : SpecOK Tryd.prog 76 sCmpU := by
  refine specOK_pure (fn := Tryd.f76) rfl rfl rfl T_ok (SP := [(79, sNaNu)]) (consSP sNaNu_ok noSP) [] trivial 100 _ ?_
  rintro args h nx K ⟨x, y, rfl, hk⟩
  refine ⟨trivial, by repeat constructor, by simp [Tryd.f76], fun o => o = .ret (.int .i64 (cmpI x y)), ?_, ?_⟩
  · rintro o rfl; exact ⟨trivial, hk⟩
  intro c hc
  refine ⟨x, rfl, ?_⟩
  refine ⟨y, rfl, ?_⟩
  (refine (?_ : br _ _ _); refine br_dec (fun q => ?_) (fun q => ?_))
  · have q1 : x < y := q
    exact outI (by unfold cmpI; rw [if_pos q1])
  · have q1 : ¬ x < y := q
    (refine (?_ : br _ _ _); refine br_dec (fun q => ?_) (fun q => ?_))
    · have q2 : y < x := q
      exact outI (by unfold cmpI; rw [if_neg q1, if_pos q2])
    · have q2 : ¬ y < x := q
      exact outI (by unfold cmpI; rw [if_neg q1, if_neg q2])

def orI : List Int → Int
  | [] => 0
  | x :: l => if x ≠ 0 then x else orI l
theorem orI_drop {l : List Int} {j : Nat} (h : j < l.length) : orI (l.drop j) = if l.getD j 0 ≠ 0 then l.getD j 0 else orI (l.drop (j + 1)) := by
  rw [List.drop_eq_getElem_cons h, getD_at h]; rfl
def sOr : Spec := fun args h nx K => ∃ v l, args = [v] ∧ rdL h v l ∧ l.length ≤ 1000000000 ∧ K (.ret (.int .i64 (orI l))) h nx
theorem sOr_ok : SpecOK Tryd.prog 75 sOr := by
  refine specOK_read2 (fn := Tryd.f75) rfl rfl rfl T_ok (SP := []) noSP 0 _ ?_
  rintro args h nx K ⟨v, l, rfl, hv, hn, hk⟩
  obtain ⟨b, c, told⟩ := told_L1 (rest := []) hv trivial
  refine ⟨_, _, told, by simp [Tryd.f75], fun o => o = .ret (.int .i64 (orI l)), ?_, ?_⟩
  · rintro o rfl; exact ⟨trivial, hk⟩
  intro cx hcx
  clear hk told hv
  show W _ _ _ _ 0
  have hE := mkE' (fn := Tryd.f75) (R := fun o _ _ => o = .ret (.int .i64 (orI l))) hcx noSP
  have ew : ∀ {τ : Nat → Nat} {h' : Hp}, wkE τ h' (.ro b l.length 1 (gl l)) (.ro b l.length 1 (gl l)) := ⟨rfl, rfl, rfl, fun i c hi hc => gl_ro⟩
  refine vc_sound hE 40 _ _ _ 0 ?_
  refine W_loop (fun r σ h => ∃ j : Nat, r = l.length - j ∧ j ≤ l.length ∧ orI l = orI (l.drop j) ∧ σ = [(3, .int .i64 0), (6, .slice 2000 0 l.length c), (7, .int .i64 l.length), (8, .int .i64 j)] ∧ h = [(2000, .ro b l.length 1 (gl l))]) l.length ⟨0, rfl, by omega, rfl, rfl, rfl⟩ (tau []) ⟨rfl, (by repeat' (first | exact rfl | exact trivial | assumption | refine ⟨?_, ?_⟩)), ew, trivial⟩ 30 ?_
  rintro r σ h1 ⟨j, rfl, hj, hall, rfl, rfl⟩
  refine vc_sound hE 60 _ _ _ 30 ?_
  (refine (?_ : br _ _ _); refine br_dec (fun q => ?_) (fun q => ?_))
  · have hlt : (j : Int) < (l.length : Int) := q
    have hjn : j < l.length := by omega
    have hw : IntKind.i64.wrap ((j : Int) + 1) = ((j + 1 : Nat) : Int) := by simp [IntKind.wrap_i64]; omega
    have hz : addI 0 ((j : Int)).toNat = j := by rw [Int.toNat_natCast, addI_eq, Nat.zero_add]
    rw [orI_drop hjn] at hall
    (refine (?_ : chk _ _); refine chk_ok (show (decide ((0 : Int) ≤ (j : Int)) && decide ((j : Int) < (l.length : Int))) = true by simp only [Bool.and_eq_true, decide_eq_true_eq]; omega) ?_)
    (refine (?_ : chk _ _); refine chk_ok rfl ?_)
    (refine (?_ : chk _ _); refine chk_ok (Nat.ble_eq_true_of_le (show addI 0 ((j : Int)).toNat * 1 + 0 + 1 ≤ l.length * 1 by rw [hz]; omega)) ?_)
    (refine (?_ : br _ _ _); refine br_ne (fun e => ?_) (fun e => ?_))
    · have e : l.getD (addI 0 ((j : Int)).toNat) 0 ≠ 0 := e
      rw [hz] at e
      rw [if_pos e] at hall
      exact outI (by rw [hz]; exact hall.symm)
    · have e : l.getD (addI 0 ((j : Int)).toNat) 0 = 0 := e
      rw [hz] at e
      rw [if_neg (fun w => w e)] at hall
      exact ⟨l.length - (j + 1), _, _, by omega, ⟨j + 1, rfl, by omega, hall, rfl, rfl⟩, tau [], rfl, (by repeat' (first | exact rfl | exact trivial | assumption | refine ⟨?_, ?_⟩)), ew, trivial⟩
  · have hlt : ¬ (j : Int) < (l.length : Int) := q
    exact outI (by rw [hall, List.drop_eq_nil_of_le (by omega)]; rfl)

def sCrossS : Spec := fun args h nx K => ∃ a b c d : Nat, args = [.int .u64 a, .int .u64 b, .int .u64 c, .int .u64 d] ∧ a ≤ 65535 ∧ b ≤ 65535 ∧ c ≤ 65535 ∧ d ≤ 65535 ∧ K (.ret (.int .i64 (cmpI (a * b : Nat) (c * d : Nat)))) h nx
theorem sCrossS_ok : SpecOK Tryd.prog 65 sCrossS := by
  refine specOK_pure (fn := Tryd.f65) rfl rfl rfl T_ok (SP := [(74, sMulS), (75, sOr), (76, sCmpU)]) (consSP sMulS_ok (consSP sOr_ok (consSP sCmpU_ok noSP))) [] trivial 100 _ ?_
  rintro args h nx K ⟨a, b, c, d, rfl, ha, hb, hc, hd, hk⟩
  refine ⟨trivial, by repeat constructor, by simp [Tryd.f65], fun o => o = .ret (.int .i64 (cmpI (a * b : Nat) (c * d : Nat))), ?_, ?_⟩
  · rintro o rfl; exact ⟨trivial, hk⟩
  intro cx hcx
  refine ⟨a, b, rfl, ha, hb, ?_⟩
  refine ⟨c, d, rfl, hc, hd, ?_⟩
  refine ⟨0, 0, rfl, ?_⟩
  refine ⟨_, _, rfl, ?_⟩
  intro b1
  refine ⟨_, [0, cmpI (a * b : Nat) (c * d : Nat)], rfl, .inr ⟨_, 0, 2, _, 2, _, rfl, rfl, Nat.le_refl _, fun i hi => ?_⟩, by simp, ?_⟩
  · have hi : i < 2 := hi
    match i, hi with
    | 0, _ => rfl
    | 1, _ => rfl
  · exact outI (by generalize cmpI _ _ = X; show (if (0 : Int) ≠ 0 then (0 : Int) else if X ≠ 0 then X else 0) = X; by_cases e : X = 0 <;> simp [e])
end Go.Proofs.YtiihiifcnkfjoaaDoor.Sx

/-
  The document's product of two counts, digit by digit, where both are small.
-/
namespace Go.Proofs.YtiihiifcnkfjoaaDoor.Sx
open Go Go.Proofs
set_option maxRecDepth 100000
set_option linter.unusedSimpArgs false
set_option linter.unusedVariables false

/-- An array of words. -/
def gW (F : Nat → Int) : Nat → Nat → V := fun i _ => .int .u64 (F i)
def sDigs : Spec := fun args h nx K => ∃ a : Nat, args = [.int .u64 a] ∧ a ≤ 65535 ∧ K (.ret (.agg [.int .u64 a, .int .u64 0, .int .u64 0, .int .u64 0])) h nx
theorem sDigs_ok : SpecOK Tryd.prog 80 sDigs := by
  refine specOK_pure (fn := Tryd.f80) rfl rfl rfl T_ok (SP := []) noSP [] trivial 0 _ ?_
  rintro args h nx K ⟨a, rfl, ha, hk⟩
  refine ⟨trivial, by repeat constructor, by simp [Tryd.f80], fun o => o = .ret (.agg [.int .u64 a, .int .u64 0, .int .u64 0, .int .u64 0]), ?_, ?_⟩
  · rintro o rfl; exact ⟨⟨trivial, trivial, trivial, trivial, trivial⟩, hk⟩
  intro c hc
  show W _ _ _ _ 0
  have hE := mkE' (fn := Tryd.f80) (R := fun o _ _ => o = .ret (.agg [.int .u64 a, .int .u64 0, .int .u64 0, .int .u64 0])) hc noSP
  have gw : ∀ {τ : Nat → Nat} {h' : Hp} {F : Nat → Int} {i c : Nat}, rn τ h' (gW F i c) (gW F i c) := ⟨rfl, rfl⟩
  refine W_seq (nx := 0) ?_
  refine W_ex (nx := 0) (fun (b : Nat) => True) (fun _ => [(0, .int .u64 a), (2, .ptr 2 0 0)]) (fun b => [(2, .blk b 4 1 (gW fun _ => 0) 107)]) 30 ?_ ?_
  · refine vc_sound hE 10 _ _ _ 0 ?_
    intro b0
    exact ⟨b0, trivial, tau [(2, 0)], rfl, (by repeat' (first | exact rfl | exact trivial | assumption | refine ⟨?_, ?_⟩)), ⟨rfl, rfl, rfl, rfl, fun i c hi hc => by obtain rfl : c = 0 := Nat.lt_one_iff.1 hc; match i, hi with | 0, _ | 1, _ | 2, _ | 3, _ => exact ⟨rfl, rfl⟩⟩, trivial⟩
  intro b0 _
  refine W_seq (nx := 30) ?_
  refine W_ex (nx := 30) (fun (b : Nat) => True) (fun _ => [(0, .int .u64 a), (2, .ptr 2 0 0), (3, .ptr 3 0 0)]) (fun b => [(2, .blk b0 4 1 (gW fun _ => 0) 107), (3, .blk b 4 1 (gW fun _ => 0) 107)]) 30 ?_ ?_
  · refine vc_sound hE 10 _ _ _ 30 ?_
    intro b1
    exact ⟨b1, trivial, tau [(3, 30)], rfl, (by repeat' (first | exact rfl | exact trivial | assumption | refine ⟨?_, ?_⟩)), ⟨rfl, rfl, rfl, rfl, fun i c hi hc => gw⟩, ⟨rfl, rfl, rfl, rfl, fun i c hi hc => by obtain rfl : c = 0 := Nat.lt_one_iff.1 hc; match i, hi with | 0, _ | 1, _ | 2, _ | 3, _ => exact ⟨rfl, rfl⟩⟩, trivial⟩
  intro b1 _
  refine W_seq (nx := 30) ?_
  refine W_to (nx := 30) [(2, .ptr 2 0 0), (3, .ptr 3 0 0)] [(2, .blk b0 4 1 (gW fun _ => 0) 107), (3, .blk b1 4 1 (gW fun c => if c = 0 then (a : Int) else 0) 107)] 30 ?_ ?_
  · refine vc_sound hE 8 _ _ _ 30 ?_
    refine W_loop (fun r σ h => ∃ (j : Nat) (A : Int) (F : Nat → Int), r = 4 - j ∧ j ≤ 4 ∧ A = (if j = 0 then (a : Int) else 0) ∧ (∀ c, F c = if c = 0 ∧ 1 ≤ j then (a : Int) else 0) ∧ σ = [(0, .int .u64 A), (2, .ptr 2 0 0), (3, .ptr 3 0 0), (4, .int .i64 j)] ∧ h = [(2, .blk b0 4 1 (gW fun _ => 0) 107), (3, .blk b1 4 1 (gW F) 107)])
      4 ⟨0, _, fun _ => 0, rfl, by omega, rfl, fun c => by simp, rfl, rfl⟩ (tau []) ⟨rfl, (by repeat' (first | exact rfl | exact trivial | assumption | refine ⟨?_, ?_⟩)), ⟨rfl, rfl, rfl, rfl, fun i c hi hc => gw⟩, ⟨rfl, rfl, rfl, rfl, fun i c hi hc => gw⟩, trivial⟩ 30 ?_
    rintro r σ h ⟨j, A, F, rfl, hj, hA, hF, rfl, rfl⟩
    refine vc_sound hE 60 _ _ _ 30 ?_
    (refine (?_ : br _ _ _); refine br_dec (fun q => ?_) (fun q => ?_))
    · have q1 : (j : Int) < 4 := q
      have hA2 : 0 ≤ A ∧ A ≤ 65535 := by rw [hA]; split <;> omega
      have hw : IntKind.i64.wrap ((j : Int) + 1) = ((j + 1 : Nat) : Int) := by simp [IntKind.wrap_i64]; omega
      (refine (?_ : chk _ _); refine chk_ok (show (decide ((0 : Int) ≤ (j : Int)) && decide ((j : Int) < (4 : Int))) = true by simp only [Bool.and_eq_true, decide_eq_true_eq]; omega) ?_)
      have hT : addI 0 ((j : Int)).toNat = j := by rw [Int.toNat_natCast, addI_eq, Nat.zero_add]
      (refine (?_ : chk _ _); refine chk_ok (Nat.ble_eq_true_of_le (show addI 0 ((j : Int)).toNat * 1 + 0 + 1 ≤ 4 * 1 by rw [hT]; omega)) ?_)
      have hq0 : A.tdiv 65536 = 0 := by rw [Int.tdiv_eq_ediv_of_nonneg hA2.1]; omega
      have hq1 : IntKind.u64.wrap (A.tdiv 65536) = 0 := by rw [hq0]; decide
      have hm : A.tmod 65536 = A := by rw [Int.tmod_eq_emod_of_nonneg hA2.1]; omega
      refine ⟨4 - (j + 1), _, _, by omega, ⟨j + 1, 0, fun i => if i = j then A else F i, rfl, by omega, by rw [if_neg (by omega)], fun i => ?_, rfl, rfl⟩, tau [], rfl, (by repeat' (first | exact rfl | exact trivial | assumption | refine ⟨?_, ?_⟩)), ⟨rfl, rfl, rfl, rfl, fun i c hi hc => gw⟩, ⟨rfl, rfl, rfl, rfl, fun i c hi hc => ?_⟩, trivial⟩
      · show (if i = j then A else F i) = if i = 0 ∧ 1 ≤ j + 1 then (a : Int) else 0
        by_cases e : i = j
        · subst e
          rw [if_pos rfl, hA]
          by_cases e0 : i = 0
          · rw [if_pos e0, if_pos ⟨e0, by omega⟩]
          · rw [if_neg e0, if_neg (fun w => e0 w.1)]
        · rw [if_neg e, hF i]
          by_cases e0 : i = 0
          · subst e0
            by_cases e1 : 1 ≤ j
            · rw [if_pos ⟨rfl, e1⟩, if_pos ⟨rfl, by omega⟩]
            · omega
          · rw [if_neg (fun w => e0 w.1), if_neg (fun w => e0 w.1)]
      · obtain rfl : c = 0 := Nat.lt_one_iff.1 hc
        show rn _ _ (putG 1 (gW F) (addI 0 ((j : Int)).toNat) 0 [.int .u64 (A.tmod 65536)] i 0) (V.int .u64 (if i = j then A else F i))
        rw [putG_one (by omega) (by omega), hT, hm]
        by_cases e : i = j
        · rw [if_pos ⟨e, rfl⟩, if_pos e]; exact ⟨rfl, rfl⟩
        · rw [if_neg (fun w => e w.1), if_neg e]; exact ⟨rfl, rfl⟩
    · have q1 : ¬ (j : Int) < 4 := q
      obtain rfl : j = 4 := by omega
      refine ⟨tau [], rfl, (by repeat' (first | exact rfl | exact trivial | assumption | refine ⟨?_, ?_⟩)), ⟨rfl, rfl, rfl, rfl, fun i c hi hc => gw⟩, ⟨rfl, rfl, rfl, rfl, fun i c hi hc => ?_⟩, trivial⟩
      show rn _ _ (V.int .u64 (F i)) (V.int .u64 (if i = 0 then (a : Int) else 0))
      rw [hF i]
      exact ⟨rfl, by simp⟩
  refine vc_sound hE 60 _ _ _ 30 ?_
  rfl
end Go.Proofs.YtiihiifcnkfjoaaDoor.Sx

/-
  The document's product of two small counts; the order of two products.
-/
namespace Go.Proofs.YtiihiifcnkfjoaaDoor.Sx
open Go Go.Proofs
set_option maxRecDepth 100000
set_option linter.unusedSimpArgs false
set_option linter.unusedVariables false

theorem rn_arr {τ : Nat → Nat} {h' : Hp} {F : Nat → Int} {i c : Nat} : rn τ h' (gW F i c) (gW F i c) := ⟨rfl, rfl⟩
abbrev F4 (a : Nat) : Nat → Int := fun i => if i = 0 then (a : Int) else 0
def prodV (p : Nat) : V := .agg [.int .u64 p, .int .u64 0, .int .u64 0, .int .u64 0, .int .u64 0, .int .u64 0, .int .u64 0, .int .u64 0]
def sProdS : Spec := fun args h nx K => ∃ a b : Nat, args = [.int .u64 a, .int .u64 b] ∧ a ≤ 255 ∧ b ≤ 255 ∧ K (.ret (prodV (a * b))) h nx
theorem sProdS_ok : SpecOK Tryd.prog 78 sProdS := by
  refine specOK_pure (fn := Tryd.f78) rfl rfl rfl T_ok (SP := [(80, sDigs)]) (consSP sDigs_ok noSP) [] trivial 0 _ ?_
  rintro args h nx K ⟨a, b, rfl, ha, hb, hk⟩
  refine ⟨trivial, by repeat constructor, by simp [Tryd.f78], fun o => o = .ret (prodV (a * b)), ?_, ?_⟩
  · rintro o rfl; exact ⟨⟨trivial, trivial, trivial, trivial, trivial, trivial, trivial, trivial, trivial⟩, hk⟩
  intro c hc
  show W _ _ _ _ 0
  have hE := mkE' (fn := Tryd.f78) (R := fun o _ _ => o = .ret (prodV (a * b))) hc (consSP sDigs_ok noSP)
  refine W_seq (nx := 0) ?_
  refine W_ex (nx := 0) (fun (b : Nat) => True) (fun _ => [(0, .int .u64 a), (1, .int .u64 b), (4, .ptr 2 0 0)]) (fun b => [(2, .blk b 8 1 (gW fun _ => 0) 102)]) 30 ?_ ?_
  · refine vc_sound hE 10 _ _ _ 0 ?_
    intro b0
    exact ⟨b0, trivial, tau [(2, 0)], rfl, (by repeat' (first | exact rfl | exact trivial | assumption | refine ⟨?_, ?_⟩)), ⟨rfl, rfl, rfl, rfl, fun i c hi hc => by obtain rfl : c = 0 := Nat.lt_one_iff.1 hc; match i, hi with | 0, _ | 1, _ | 2, _ | 3, _ | 4, _ | 5, _ | 6, _ | 7, _ => exact ⟨rfl, rfl⟩⟩, trivial⟩
  intro b0 _
  refine W_seq (nx := 30) ?_
  refine W_ex (nx := 30) (fun (b : Nat) => True) (fun _ => [(1, .int .u64 b), (4, .ptr 2 0 0), (5, .ptr 5 0 0)]) (fun b => [(2, .blk b0 8 1 (gW fun _ => 0) 102), (5, .blk b 4 1 (gW (F4 a)) 107)]) 30 ?_ ?_
  · refine vc_sound hE 20 _ _ _ 30 ?_
    refine ⟨a, rfl, by omega, ?_⟩
    intro b1
    exact ⟨b1, trivial, tau [(5, 30)], rfl, (by repeat' (first | exact rfl | exact trivial | assumption | refine ⟨?_, ?_⟩)), ⟨rfl, rfl, rfl, rfl, fun i c hi hc => rn_arr⟩, ⟨rfl, rfl, rfl, rfl, fun i c hi hc => by obtain rfl : c = 0 := Nat.lt_one_iff.1 hc; match i, hi with | 0, _ | 1, _ | 2, _ | 3, _ => exact ⟨rfl, rfl⟩⟩, trivial⟩
  intro b1 _
  refine W_seq (nx := 30) ?_
  refine W_ex (nx := 30) (fun (b : Nat) => True) (fun _ => [(4, .ptr 2 0 0), (5, .ptr 5 0 0), (6, .ptr 6 0 0)]) (fun b2 => [(2, .blk b0 8 1 (gW fun _ => 0) 102), (5, .blk b1 4 1 (gW (F4 a)) 107), (6, .blk b2 4 1 (gW (F4 b)) 107)]) 30 ?_ ?_
  · refine vc_sound hE 20 _ _ _ 30 ?_
    refine ⟨b, rfl, by omega, ?_⟩
    intro b2
    exact ⟨b2, trivial, tau [(6, 30)], rfl, (by repeat' (first | exact rfl | exact trivial | assumption | refine ⟨?_, ?_⟩)), ⟨rfl, rfl, rfl, rfl, fun i c hi hc => rn_arr⟩, ⟨rfl, rfl, rfl, rfl, fun i c hi hc => rn_arr⟩, ⟨rfl, rfl, rfl, rfl, fun i c hi hc => by obtain rfl : c = 0 := Nat.lt_one_iff.1 hc; match i, hi with | 0, _ | 1, _ | 2, _ | 3, _ => exact ⟨rfl, rfl⟩⟩, trivial⟩
  intro b2 _
  refine W_seq (nx := 30) ?_
  refine W_ex (nx := 30) (fun (b : Nat) => True) (fun _ => [(4, .ptr 2 0 0), (5, .ptr 5 0 0), (6, .ptr 6 0 0), (7, .ptr 7 0 0)]) (fun b3 => [(2, .blk b0 8 1 (gW fun _ => 0) 102), (5, .blk b1 4 1 (gW (F4 a)) 107), (6, .blk b2 4 1 (gW (F4 b)) 107), (7, .blk b3 8 1 (gW fun _ => 0) 102)]) 30 ?_ ?_
  · refine vc_sound hE 20 _ _ _ 30 ?_
    intro b3
    exact ⟨b3, trivial, tau [(7, 30)], rfl, (by repeat' (first | exact rfl | exact trivial | assumption | refine ⟨?_, ?_⟩)), ⟨rfl, rfl, rfl, rfl, fun i c hi hc => rn_arr⟩, ⟨rfl, rfl, rfl, rfl, fun i c hi hc => rn_arr⟩, ⟨rfl, rfl, rfl, rfl, fun i c hi hc => rn_arr⟩, ⟨rfl, rfl, rfl, rfl, fun i c hi hc => by obtain rfl : c = 0 := Nat.lt_one_iff.1 hc; match i, hi with | 0, _ | 1, _ | 2, _ | 3, _ | 4, _ | 5, _ | 6, _ | 7, _ => exact ⟨rfl, rfl⟩⟩, trivial⟩
  intro b3 _
  refine W_seq (nx := 30) ?_
  refine W_to (nx := 30) [(4, .ptr 2 0 0), (7, .ptr 7 0 0)] [(2, .blk b0 8 1 (gW fun _ => 0) 102), (7, .blk b3 8 1 (gW (F4 (a * b))) 102)] 30 ?_ ?_
  · refine vc_sound hE 8 _ _ _ 30 ?_
    have hab : a * b ≤ 255 * 255 := Nat.mul_le_mul ha hb
    refine W_loop (fun r σ h => ∃ (i : Nat) (F : Nat → Int), r = 4 - i ∧ i ≤ 4 ∧ (∀ c, F c = if c = 0 ∧ 1 ≤ i then ((a * b : Nat) : Int) else 0) ∧ σ = [(4, .ptr 2 0 0), (5, .ptr 5 0 0), (6, .ptr 6 0 0), (7, .ptr 7 0 0), (8, .int .i64 i)] ∧ h = [(2, .blk b0 8 1 (gW fun _ => 0) 102), (5, .blk b1 4 1 (gW (F4 a)) 107), (6, .blk b2 4 1 (gW (F4 b)) 107), (7, .blk b3 8 1 (gW F) 102)])
      4 ⟨0, fun _ => 0, rfl, by omega, fun c => by simp, rfl, rfl⟩ (tau []) ⟨rfl, (by repeat' (first | exact rfl | exact trivial | assumption | refine ⟨?_, ?_⟩)), ⟨rfl, rfl, rfl, rfl, fun i c hi hc => rn_arr⟩, ⟨rfl, rfl, rfl, rfl, fun i c hi hc => rn_arr⟩, ⟨rfl, rfl, rfl, rfl, fun i c hi hc => rn_arr⟩, ⟨rfl, rfl, rfl, rfl, fun i c hi hc => rn_arr⟩, trivial⟩ 30 ?_
    rintro r σ h ⟨i, F, rfl, hi, hF, rfl, rfl⟩
    refine vc_sound hE 1 _ _ _ 30 ?_
    refine W_piece (nx := 30) (fun σ1 h1 _ => i < 4 ∧ ∃ τ, wk τ σ1 h1 [(4, .ptr 2 0 0), (5, .ptr 5 0 0), (6, .ptr 6 0 0), (7, .ptr 7 0 0), (8, .int .i64 i)] [(2, .blk b0 8 1 (gW fun _ => 0) 102), (5, .blk b1 4 1 (gW (F4 a)) 107), (6, .blk b2 4 1 (gW (F4 b)) 107), (7, .blk b3 8 1 (gW F) 102)]) ?_ ?_
    · refine vc_sound hE 60 _ _ _ 30 ?_
      (refine (?_ : br _ _ _); refine br_dec (fun q => ?_) (fun q => ?_))
      · have q1 : (i : Int) < 4 := q
        exact ⟨by omega, tau [], rfl, (by repeat' (first | exact rfl | exact trivial | assumption | refine ⟨?_, ?_⟩)), ⟨rfl, rfl, rfl, rfl, fun i c hi hc => rn_arr⟩, ⟨rfl, rfl, rfl, rfl, fun i c hi hc => rn_arr⟩, ⟨rfl, rfl, rfl, rfl, fun i c hi hc => rn_arr⟩, ⟨rfl, rfl, rfl, rfl, fun i c hi hc => rn_arr⟩, trivial⟩
      · have q1 : ¬ (i : Int) < 4 := q
        obtain rfl : i = 4 := by omega
        refine ⟨tau [], rfl, (by repeat' (first | exact rfl | exact trivial | assumption | refine ⟨?_, ?_⟩)), ⟨rfl, rfl, rfl, rfl, fun i c hi hc => rn_arr⟩, ⟨rfl, rfl, rfl, rfl, fun i c hi hc => ?_⟩, trivial⟩
        show rn _ _ (V.int .u64 (F i)) (V.int .u64 (if i = 0 then ((a * b : Nat) : Int) else 0))
        rw [hF i]
        exact ⟨rfl, by simp⟩
    rintro σ1 h1 _ ⟨hi4, τ1, hw1⟩
    refine W_weak (nx' := 30) τ1 hw1 ?_
    clear hw1 σ1 h1 τ1
    refine vc_sound hE 2 _ _ _ 30 ?_
    refine W_seq (nx := 30) ?_
    refine W_to (nx := 30) [(4, .ptr 2 0 0), (5, .ptr 5 0 0), (6, .ptr 6 0 0), (7, .ptr 7 0 0), (8, .int .i64 i), (9, .int .u64 0)] [(2, .blk b0 8 1 (gW fun _ => 0) 102), (5, .blk b1 4 1 (gW (F4 a)) 107), (6, .blk b2 4 1 (gW (F4 b)) 107), (7, .blk b3 8 1 (gW F) 102)] 30 ?_ ?_
    · refine vc_sound hE 60 _ _ _ 30 ?_
      exact ⟨tau [], rfl, (by repeat' (first | exact rfl | exact trivial | assumption | refine ⟨?_, ?_⟩)), ⟨rfl, rfl, rfl, rfl, fun i c hi hc => rn_arr⟩, ⟨rfl, rfl, rfl, rfl, fun i c hi hc => rn_arr⟩, ⟨rfl, rfl, rfl, rfl, fun i c hi hc => rn_arr⟩, ⟨rfl, rfl, rfl, rfl, fun i c hi hc => rn_arr⟩, trivial⟩
    refine W_seq (nx := 30) ?_
    refine W_to (nx := 30) [(4, .ptr 2 0 0), (5, .ptr 5 0 0), (6, .ptr 6 0 0), (7, .ptr 7 0 0), (8, .int .i64 i), (9, .int .u64 0)] [(2, .blk b0 8 1 (gW fun _ => 0) 102), (5, .blk b1 4 1 (gW (F4 a)) 107), (6, .blk b2 4 1 (gW (F4 b)) 107), (7, .blk b3 8 1 (gW (F4 (a * b))) 102)] 30 ?_ ?_
    · refine vc_sound hE 8 _ _ _ 30 ?_
      refine W_loop (fun r σ h => ∃ (k : Nat) (G : Nat → Int), r = 4 - k ∧ k ≤ 4 ∧ (∀ c, G c = if c = 0 ∧ (1 ≤ i ∨ 1 ≤ k) then ((a * b : Nat) : Int) else 0) ∧ σ = [(4, .ptr 2 0 0), (5, .ptr 5 0 0), (6, .ptr 6 0 0), (7, .ptr 7 0 0), (8, .int .i64 i), (9, .int .u64 0), (10, .int .i64 k)] ∧ h = [(2, .blk b0 8 1 (gW fun _ => 0) 102), (5, .blk b1 4 1 (gW (F4 a)) 107), (6, .blk b2 4 1 (gW (F4 b)) 107), (7, .blk b3 8 1 (gW G) 102)])
        4 ⟨0, F, rfl, by omega, fun c => by rw [hF c]; simp, rfl, rfl⟩ (tau []) ⟨rfl, (by repeat' (first | exact rfl | exact trivial | assumption | refine ⟨?_, ?_⟩)), ⟨rfl, rfl, rfl, rfl, fun i c hi hc => rn_arr⟩, ⟨rfl, rfl, rfl, rfl, fun i c hi hc => rn_arr⟩, ⟨rfl, rfl, rfl, rfl, fun i c hi hc => rn_arr⟩, ⟨rfl, rfl, rfl, rfl, fun i c hi hc => rn_arr⟩, trivial⟩ 30 ?_
      rintro r σ h ⟨k, G, rfl, hk', hG, rfl, rfl⟩
      refine vc_sound hE 1 _ _ _ 30 ?_
      refine W_piece (nx := 30) (fun σ1 h1 _ => k < 4 ∧ ∃ τ, wk τ σ1 h1 [(4, .ptr 2 0 0), (5, .ptr 5 0 0), (6, .ptr 6 0 0), (7, .ptr 7 0 0), (8, .int .i64 i), (9, .int .u64 0), (10, .int .i64 k)] [(2, .blk b0 8 1 (gW fun _ => 0) 102), (5, .blk b1 4 1 (gW (F4 a)) 107), (6, .blk b2 4 1 (gW (F4 b)) 107), (7, .blk b3 8 1 (gW G) 102)]) ?_ ?_
      · refine vc_sound hE 60 _ _ _ 30 ?_
        (refine (?_ : br _ _ _); refine br_dec (fun q => ?_) (fun q => ?_))
        · have q1 : (k : Int) < 4 := q
          exact ⟨by omega, tau [], rfl, (by repeat' (first | exact rfl | exact trivial | assumption | refine ⟨?_, ?_⟩)), ⟨rfl, rfl, rfl, rfl, fun i c hi hc => rn_arr⟩, ⟨rfl, rfl, rfl, rfl, fun i c hi hc => rn_arr⟩, ⟨rfl, rfl, rfl, rfl, fun i c hi hc => rn_arr⟩, ⟨rfl, rfl, rfl, rfl, fun i c hi hc => rn_arr⟩, trivial⟩
        · have q1 : ¬ (k : Int) < 4 := q
          refine ⟨tau [], rfl, (by repeat' (first | exact rfl | exact trivial | assumption | refine ⟨?_, ?_⟩)), ⟨rfl, rfl, rfl, rfl, fun i c hi hc => rn_arr⟩, ⟨rfl, rfl, rfl, rfl, fun i c hi hc => rn_arr⟩, ⟨rfl, rfl, rfl, rfl, fun i c hi hc => rn_arr⟩, ⟨rfl, rfl, rfl, rfl, fun j c hj hc => ?_⟩, trivial⟩
          show rn _ _ (V.int .u64 (G j)) (V.int .u64 (if j = 0 then ((a * b : Nat) : Int) else 0))
          rw [hG j]
          by_cases e : j = 0
          · rw [if_pos ⟨e, by omega⟩, if_pos e]; exact ⟨rfl, rfl⟩
          · rw [if_neg (fun w => e w.1), if_neg e]; exact ⟨rfl, rfl⟩
      rintro σ1 h1 _ ⟨hk4, τ1, hw1⟩
      refine W_weak (nx' := 30) τ1 hw1 ?_
      clear hw1 σ1 h1 τ1
      have hwk : IntKind.i64.wrap ((i : Int) + (k : Int)) = ((i + k : Nat) : Int) := by simp only [IntKind.wrap_i64]; omega
      have hTk : addI 0 (IntKind.i64.wrap ((i : Int) + (k : Int))).toNat = i + k := by rw [hwk, Int.toNat_natCast, addI_eq, Nat.zero_add]
      have hTi : addI 0 ((i : Int)).toNat = i := by rw [Int.toNat_natCast, addI_eq, Nat.zero_add]
      have hTj : addI 0 ((k : Int)).toNat = k := by rw [Int.toNat_natCast, addI_eq, Nat.zero_add]
      have hw : IntKind.i64.wrap ((k : Int) + 1) = ((k + 1 : Nat) : Int) := by simp [IntKind.wrap_i64]; omega
      obtain ⟨X, hX⟩ : ∃ X : Int, X = if i = 0 ∧ k = 0 then ((a * b : Nat) : Int) else 0 := ⟨_, rfl⟩
      have hX2 : 0 ≤ X ∧ X ≤ 65025 := by rw [hX]; split <;> omega
      have hval : IntKind.u64.wrap (IntKind.u64.wrap (G (addI 0 (IntKind.i64.wrap ((i : Int) + (k : Int))).toNat) + IntKind.u64.wrap (F4 a (addI 0 ((i : Int)).toNat) * F4 b (addI 0 ((k : Int)).toNat))) + 0) = X := by
        rw [hTk, hTi, hTj, hG (i + k)]
        by_cases e : i = 0 ∧ k = 0
        · obtain ⟨rfl, rfl⟩ := e
          rw [if_neg (by omega : ¬ ((0 + 0 = 0) ∧ (1 ≤ 0 ∨ 1 ≤ 0))), hX, if_pos ⟨rfl, rfl⟩, show F4 a 0 * F4 b 0 = ((a * b : Nat) : Int) by simp [F4]]
          simp only [IntKind.wrap_u64]; omega
        · have e2 : F4 a i * F4 b k = 0 := by
            by_cases e0 : i = 0
            · rw [show F4 b k = 0 from if_neg (fun w => e ⟨e0, w⟩), Int.mul_zero]
            · rw [show F4 a i = 0 from if_neg e0, Int.zero_mul]
          rw [hX, if_neg e, e2, if_neg (by omega)]
          decide
      have hXm : X.tmod 65536 = X := by rw [Int.tmod_eq_emod_of_nonneg hX2.1]; omega
      have hXq : X.tdiv 65536 = 0 := by rw [Int.tdiv_eq_ediv_of_nonneg hX2.1]; omega
      have hXw : IntKind.u64.wrap (X.tdiv 65536) = 0 := by rw [hXq]; decide
      refine vc_sound hE 2 _ _ _ 30 ?_
      refine W_seq (nx := 30) ?_
      refine W_to (nx := 30) [(4, .ptr 2 0 0), (5, .ptr 5 0 0), (6, .ptr 6 0 0), (7, .ptr 7 0 0), (8, .int .i64 i), (9, .int .u64 0), (10, .int .i64 k), (11, .int .u64 X)] [(2, .blk b0 8 1 (gW fun _ => 0) 102), (5, .blk b1 4 1 (gW (F4 a)) 107), (6, .blk b2 4 1 (gW (F4 b)) 107), (7, .blk b3 8 1 (gW G) 102)] 30 ?_ ?_
      · refine W_plan (id := 11) hE 30 16 (lineP 0 16 .done) (by rw [hc]; exact mix) (by kernel_rfl) 30 ?_
        repeat' (first | refine ⟨_, ⟨rfl, rfl⟩, ?_⟩ | fail)
        refine ⟨.ptr 7 (addI 0 (IntKind.i64.wrap ((i : Int) + (k : Int))).toNat) 0, ?_, ?_⟩
        · (refine (?_ : chk _ _); refine chk_ok (show (decide ((0 : Int) ≤ IntKind.i64.wrap ((i : Int) + (k : Int))) && decide (IntKind.i64.wrap ((i : Int) + (k : Int)) < (8 : Int))) = true by simp only [Bool.and_eq_true, decide_eq_true_eq]; omega) ?_)
          exact ⟨rfl, rfl⟩
        refine ⟨.int .u64 (G (addI 0 (IntKind.i64.wrap ((i : Int) + (k : Int))).toNat)), ?_, ?_⟩
        · (refine (?_ : chk _ _); refine chk_ok (Nat.ble_eq_true_of_le (show addI 0 (IntKind.i64.wrap ((i : Int) + (k : Int))).toNat * 1 + 0 + 1 ≤ 8 * 1 by rw [hTk]; omega)) ?_)
          exact ⟨rfl, rfl⟩
        repeat' (first | refine ⟨_, ⟨rfl, rfl⟩, ?_⟩ | fail)
        refine ⟨.ptr 5 (addI 0 ((i : Int)).toNat) 0, ?_, ?_⟩
        · (refine (?_ : chk _ _); refine chk_ok (show (decide ((0 : Int) ≤ (i : Int)) && decide ((i : Int) < (4 : Int))) = true by simp only [Bool.and_eq_true, decide_eq_true_eq]; omega) ?_)
          exact ⟨rfl, rfl⟩
        refine ⟨.int .u64 (F4 a (addI 0 ((i : Int)).toNat)), ?_, ?_⟩
        · (refine (?_ : chk _ _); refine chk_ok (Nat.ble_eq_true_of_le (show addI 0 ((i : Int)).toNat * 1 + 0 + 1 ≤ 4 * 1 by rw [hTi]; omega)) ?_)
          exact ⟨rfl, rfl⟩
        repeat' (first | refine ⟨_, ⟨rfl, rfl⟩, ?_⟩ | fail)
        refine ⟨.ptr 6 (addI 0 ((k : Int)).toNat) 0, ?_, ?_⟩
        · (refine (?_ : chk _ _); refine chk_ok (show (decide ((0 : Int) ≤ (k : Int)) && decide ((k : Int) < (4 : Int))) = true by simp only [Bool.and_eq_true, decide_eq_true_eq]; omega) ?_)
          exact ⟨rfl, rfl⟩
        refine ⟨.int .u64 (F4 b (addI 0 ((k : Int)).toNat)), ?_, ?_⟩
        · (refine (?_ : chk _ _); refine chk_ok (Nat.ble_eq_true_of_le (show addI 0 ((k : Int)).toNat * 1 + 0 + 1 ≤ 4 * 1 by rw [hTj]; omega)) ?_)
          exact ⟨rfl, rfl⟩
        repeat' (first | refine ⟨_, ⟨rfl, rfl⟩, ?_⟩ | fail)
        exact ⟨tau [], rfl, (by repeat' (first | exact rfl | exact trivial | assumption | refine ⟨?_, ?_⟩)), ⟨rfl, rfl, rfl, rfl, fun i c hi hc => rn_arr⟩, ⟨rfl, rfl, rfl, rfl, fun i c hi hc => rn_arr⟩, ⟨rfl, rfl, rfl, rfl, fun i c hi hc => rn_arr⟩, ⟨rfl, rfl, rfl, rfl, fun i c hi hc => rn_arr⟩, trivial⟩
      refine vc_sound hE 60 _ _ _ 30 ?_
      (refine (?_ : chk _ _); refine chk_ok (show (decide ((0 : Int) ≤ IntKind.i64.wrap ((i : Int) + (k : Int))) && decide (IntKind.i64.wrap ((i : Int) + (k : Int)) < (8 : Int))) = true by simp only [Bool.and_eq_true, decide_eq_true_eq]; omega) ?_)
      (refine (?_ : chk _ _); refine chk_ok (Nat.ble_eq_true_of_le (show addI 0 (IntKind.i64.wrap ((i : Int) + (k : Int))).toNat * 1 + 0 + 1 ≤ 8 * 1 by rw [hTk]; omega)) ?_)
      refine ⟨4 - (k + 1), _, _, by omega, ⟨k + 1, fun c => if c = i + k then X else G c, rfl, by omega, fun c => ?_, rfl, rfl⟩, tau [], rfl, (by repeat' (first | exact rfl | exact trivial | assumption | refine ⟨?_, ?_⟩)), ⟨rfl, rfl, rfl, rfl, fun i c hi hc => rn_arr⟩, ⟨rfl, rfl, rfl, rfl, fun i c hi hc => rn_arr⟩, ⟨rfl, rfl, rfl, rfl, fun i c hi hc => rn_arr⟩, ⟨rfl, rfl, rfl, rfl, fun j c hj hc => ?_⟩, trivial⟩
      · show (if c = i + k then X else G c) = if c = 0 ∧ (1 ≤ i ∨ 1 ≤ k + 1) then ((a * b : Nat) : Int) else 0
        by_cases e : c = i + k
        · rw [if_pos e, hX]
          by_cases e2 : i = 0 ∧ k = 0
          · rw [if_pos e2, if_pos ⟨by omega, by omega⟩]
          · rw [if_neg e2, if_neg (by omega)]
        · rw [if_neg e, hG c]
          by_cases e2 : c = 0
          · rw [if_pos ⟨e2, by omega⟩, if_pos ⟨e2, by omega⟩]
          · rw [if_neg (fun w => e2 w.1), if_neg (fun w => e2 w.1)]
      · obtain rfl : c = 0 := Nat.lt_one_iff.1 hc
        show rn _ _ (putG 1 (gW G) (addI 0 (IntKind.i64.wrap ((i : Int) + (k : Int))).toNat) 0 [.int .u64 (X.tmod 65536)] j 0) (V.int .u64 (if j = i + k then X else G j))
        rw [putG_one (by omega) (by omega), hTk, hXm]
        by_cases e : j = i + k
        · rw [if_pos ⟨e, rfl⟩, if_pos e]; exact ⟨rfl, rfl⟩
        · rw [if_neg (fun w => e w.1), if_neg e]; exact ⟨rfl, rfl⟩
    refine vc_sound hE 60 _ _ _ 30 ?_
    have hw : IntKind.i64.wrap ((i : Int) + 1) = ((i + 1 : Nat) : Int) := by simp [IntKind.wrap_i64]; omega
    have hw4 : IntKind.i64.wrap ((i : Int) + 4) = ((i + 4 : Nat) : Int) := by simp only [IntKind.wrap_i64]; omega
    have hT : addI 0 (IntKind.i64.wrap ((i : Int) + 4)).toNat = i + 4 := by rw [hw4, Int.toNat_natCast, addI_eq, Nat.zero_add]
    (refine (?_ : chk _ _); refine chk_ok (show (decide ((0 : Int) ≤ IntKind.i64.wrap ((i : Int) + 4)) && decide (IntKind.i64.wrap ((i : Int) + 4) < (8 : Int))) = true by simp only [Bool.and_eq_true, decide_eq_true_eq]; omega) ?_)
    (refine (?_ : chk _ _); refine chk_ok (Nat.ble_eq_true_of_le (show addI 0 (IntKind.i64.wrap ((i : Int) + 4)).toNat * 1 + 0 + 1 ≤ 8 * 1 by rw [hT]; omega)) ?_)
    refine ⟨4 - (i + 1), _, _, by omega, ⟨i + 1, F4 (a * b), rfl, by omega, fun c => by simp [F4], rfl, rfl⟩, tau [], rfl, (by repeat' (first | exact rfl | exact trivial | assumption | refine ⟨?_, ?_⟩)), ⟨rfl, rfl, rfl, rfl, fun i c hi hc => rn_arr⟩, ⟨rfl, rfl, rfl, rfl, fun i c hi hc => rn_arr⟩, ⟨rfl, rfl, rfl, rfl, fun i c hi hc => rn_arr⟩, ⟨rfl, rfl, rfl, rfl, fun j c hj hc => ?_⟩, trivial⟩
    obtain rfl : c = 0 := Nat.lt_one_iff.1 hc
    show rn _ _ (putG 1 (gW (F4 (a * b))) (addI 0 (IntKind.i64.wrap ((i : Int) + 4)).toNat) 0 [.int .u64 0] j 0) (V.int .u64 (F4 (a * b) j))
    rw [putG_one (by omega) (by omega), hT]
    by_cases e : j = i + 4
    · rw [if_pos ⟨e, rfl⟩, show F4 (a * b) j = 0 from if_neg (by omega)]; exact ⟨rfl, rfl⟩
    · rw [if_neg (fun w => e w.1)]; exact ⟨rfl, rfl⟩
  refine vc_sound hE 60 _ _ _ 30 ?_
  rfl
end Go.Proofs.YtiihiifcnkfjoaaDoor.Sx

/-
  The document's order of two products of small counts.
-/
namespace Go.Proofs.YtiihiifcnkfjoaaDoor.Sx
open Go Go.Proofs
set_option maxRecDepth 100000
set_option linter.unusedSimpArgs false
set_option linter.unusedVariables false

def sRCross : Spec := fun args h nx K => ∃ a b c d : Nat, args = [.int .u64 a, .int .u64 b, .int .u64 c, .int .u64 d] ∧ a ≤ 255 ∧ b ≤ 255 ∧ c ≤ 255 ∧ d ≤ 255 ∧ K (.ret (.int .i64 (cmpI (a * b : Nat) (c * d : Nat)))) h nx
theorem sRCross_ok : SpecOK Tryd.prog 71 sRCross := by
  refine specOK_pure (fn := Tryd.f71) rfl rfl rfl T_ok (SP := [(78, sProdS)]) (consSP sProdS_ok noSP) [] trivial 0 _ ?_
  rintro args h nx K ⟨a, b, c, d, rfl, ha, hb, hc, hd, hk⟩
  refine ⟨trivial, by repeat constructor, by simp [Tryd.f71], fun o => o = .ret (.int .i64 (cmpI (a * b : Nat) (c * d : Nat))), ?_, ?_⟩
  · rintro o rfl; exact ⟨trivial, hk⟩
  intro cx hcx
  show W _ _ _ _ 0
  generalize hp : a * b = p
  generalize hq : c * d = q
  have hE := mkE' (fn := Tryd.f71) (R := fun o _ _ => o = .ret (.int .i64 (cmpI (p : Nat) (q : Nat)))) hcx (consSP sProdS_ok noSP)
  refine W_seq (nx := 0) ?_
  refine W_to (nx := 0) [(0, .int .u64 a), (1, .int .u64 b), (2, .int .u64 c), (3, .int .u64 d)] [] 30 ?_ ?_
  · refine vc_sound hE 10 _ _ _ 30 ?_
    exact ⟨tau [], rfl, (by repeat' (first | exact rfl | exact trivial | assumption | refine ⟨?_, ?_⟩)), trivial⟩
  refine W_seq (nx := 30) ?_
  refine W_ex (nx := 30) (fun (b : Nat) => True) (fun _ => [(2, .int .u64 c), (3, .int .u64 d), (9, .ptr 5 0 0)]) (fun b => [(5, .blk b 8 1 (gW (F4 p)) 102)]) 30 ?_ ?_
  · refine vc_sound hE 20 _ _ _ 30 ?_
    refine ⟨a, b, rfl, ha, hb, ?_⟩
    rw [hp]
    intro b1
    exact ⟨b1, trivial, tau [(5, 30)], rfl, (by repeat' (first | exact rfl | exact trivial | assumption | refine ⟨?_, ?_⟩)), ⟨rfl, rfl, rfl, rfl, fun i c hi hc => by obtain rfl : c = 0 := Nat.lt_one_iff.1 hc; match i, hi with | 0, _ | 1, _ | 2, _ | 3, _ | 4, _ | 5, _ | 6, _ | 7, _ => exact ⟨rfl, rfl⟩⟩, trivial⟩
  intro b1 _
  refine W_seq (nx := 30) ?_
  refine W_ex (nx := 30) (fun (b : Nat) => True) (fun _ => [(9, .ptr 5 0 0), (10, .ptr 6 0 0)]) (fun b2 => [(5, .blk b1 8 1 (gW (F4 p)) 102), (6, .blk b2 8 1 (gW (F4 q)) 102)]) 30 ?_ ?_
  · refine vc_sound hE 20 _ _ _ 30 ?_
    refine ⟨c, d, rfl, hc, hd, ?_⟩
    rw [hq]
    intro b2
    exact ⟨b2, trivial, tau [(6, 30)], rfl, (by repeat' (first | exact rfl | exact trivial | assumption | refine ⟨?_, ?_⟩)), ⟨rfl, rfl, rfl, rfl, fun i c hi hc => rn_arr⟩, ⟨rfl, rfl, rfl, rfl, fun i c hi hc => by obtain rfl : c = 0 := Nat.lt_one_iff.1 hc; match i, hi with | 0, _ | 1, _ | 2, _ | 3, _ | 4, _ | 5, _ | 6, _ | 7, _ => exact ⟨rfl, rfl⟩⟩, trivial⟩
  intro b2 _
  refine W_seq (nx := 30) ?_
  refine W_piece (nx := 30) (fun σ1 h1 _ => p = q ∧ ∃ τ, wk τ σ1 h1 [] []) ?_ ?_
  · refine vc_sound hE 8 _ _ _ 30 ?_
    refine W_loop (fun r σ h => ∃ (j : Nat) (I : Int), r = 0 + j ∧ j ≤ 8 ∧ I = (j : Int) - 1 ∧ (j = 0 → p = q) ∧ σ = [(9, .ptr 5 0 0), (10, .ptr 6 0 0), (11, .int .i64 I)] ∧ h = [(5, .blk b1 8 1 (gW (F4 p)) 102), (6, .blk b2 8 1 (gW (F4 q)) 102)])
      8 ⟨8, 7, rfl, by omega, rfl, by omega, rfl, rfl⟩ (tau []) ⟨rfl, (by repeat' (first | exact rfl | exact trivial | assumption | refine ⟨?_, ?_⟩)), ⟨rfl, rfl, rfl, rfl, fun i c hi hc => rn_arr⟩, ⟨rfl, rfl, rfl, rfl, fun i c hi hc => rn_arr⟩, trivial⟩ 30 ?_
    rintro r σ h ⟨j, I, rfl, hj, hI, heq, rfl, rfl⟩
    refine vc_sound hE 1 _ _ _ 30 ?_
    refine W_piece (nx := 30) (fun σ1 h1 _ => 1 ≤ j ∧ ∃ τ, wk τ σ1 h1 [(9, .ptr 5 0 0), (10, .ptr 6 0 0), (11, .int .i64 I)] [(5, .blk b1 8 1 (gW (F4 p)) 102), (6, .blk b2 8 1 (gW (F4 q)) 102)]) ?_ ?_
    · refine vc_sound hE 60 _ _ _ 30 ?_
      refine (?_ : br _ _ _)
      refine br_dec (fun w => ?_) (fun w => ?_)
      · have w : 0 ≤ I := w
        exact ⟨by omega, tau [], rfl, (by repeat' (first | exact rfl | exact trivial | assumption | refine ⟨?_, ?_⟩)), ⟨rfl, rfl, rfl, rfl, fun i c hi hc => rn_arr⟩, ⟨rfl, rfl, rfl, rfl, fun i c hi hc => rn_arr⟩, trivial⟩
      · have w : ¬ 0 ≤ I := w
        exact ⟨heq (by omega), tau [], rfl, trivial, trivial⟩
    rintro σ1 h1 _ ⟨hj1, τ1, hw1⟩
    refine W_weak (nx' := 30) τ1 hw1 ?_
    clear hw1 σ1 h1 τ1
    obtain ⟨i, rfl⟩ : ∃ i, j = i + 1 := ⟨j - 1, by omega⟩
    obtain rfl : I = (i : Int) := by omega
    have hTi : addI 0 ((i : Int)).toNat = i := by rw [Int.toNat_natCast, addI_eq, Nat.zero_add]
    have hw : IntKind.i64.wrap ((i : Int) - 1) = (i : Int) - 1 := by simp only [IntKind.wrap_i64]; omega
    have hlt : F4 p i < F4 q i → cmpI p q = -1 := fun w => by
      unfold cmpI
      by_cases e : i = 0
      · rw [show F4 p i = p from if_pos e, show F4 q i = q from if_pos e] at w; rw [if_pos w]
      · rw [show F4 p i = 0 from if_neg e, show F4 q i = 0 from if_neg e] at w; omega
    have hgt : F4 q i < F4 p i → cmpI p q = 1 := fun w => by
      unfold cmpI
      by_cases e : i = 0
      · rw [show F4 p i = p from if_pos e, show F4 q i = q from if_pos e] at w; rw [if_neg (by omega), if_pos w]
      · rw [show F4 p i = 0 from if_neg e, show F4 q i = 0 from if_neg e] at w; omega
    refine vc_sound hE 2 _ _ _ 30 ?_
    refine W_seq (nx := 30) ?_
    refine W_piece (nx := 30) (fun σ1 h1 _ => (¬ F4 p i < F4 q i) ∧ ∃ τ, wk τ σ1 h1 [(9, .ptr 5 0 0), (10, .ptr 6 0 0), (11, .int .i64 i)] [(5, .blk b1 8 1 (gW (F4 p)) 102), (6, .blk b2 8 1 (gW (F4 q)) 102)]) ?_ ?_
    · refine W_seq (nx := 30) ?_
      refine W_to (nx := 30) [(9, .ptr 5 0 0), (10, .ptr 6 0 0), (11, .int .i64 i), (28, .bool (decide (F4 p (addI 0 ((i : Int)).toNat) < F4 q (addI 0 ((i : Int)).toNat))))] [(5, .blk b1 8 1 (gW (F4 p)) 102), (6, .blk b2 8 1 (gW (F4 q)) 102)] 30 ?_ ?_
      · refine W_plan (id := 6) hE 30 7 (lineP 0 7 .done) (by rw [hcx]; exact mix) (by kernel_rfl) 30 ?_
        repeat' (first | refine ⟨_, ⟨rfl, rfl⟩, ?_⟩ | fail)
        refine ⟨.ptr 5 (addI 0 ((i : Int)).toNat) 0, ?_, ?_⟩
        · (refine (?_ : chk _ _); refine chk_ok (show (decide ((0 : Int) ≤ (i : Int)) && decide ((i : Int) < (8 : Int))) = true by simp only [Bool.and_eq_true, decide_eq_true_eq]; omega) ?_)
          exact ⟨rfl, rfl⟩
        refine ⟨.int .u64 (F4 p (addI 0 ((i : Int)).toNat)), ?_, ?_⟩
        · (refine (?_ : chk _ _); refine chk_ok (Nat.ble_eq_true_of_le (show addI 0 ((i : Int)).toNat * 1 + 0 + 1 ≤ 8 * 1 by rw [hTi]; omega)) ?_)
          exact ⟨rfl, rfl⟩
        repeat' (first | refine ⟨_, ⟨rfl, rfl⟩, ?_⟩ | fail)
        refine ⟨.ptr 6 (addI 0 ((i : Int)).toNat) 0, ?_, ?_⟩
        · (refine (?_ : chk _ _); refine chk_ok (show (decide ((0 : Int) ≤ (i : Int)) && decide ((i : Int) < (8 : Int))) = true by simp only [Bool.and_eq_true, decide_eq_true_eq]; omega) ?_)
          exact ⟨rfl, rfl⟩
        refine ⟨.int .u64 (F4 q (addI 0 ((i : Int)).toNat)), ?_, ?_⟩
        · (refine (?_ : chk _ _); refine chk_ok (Nat.ble_eq_true_of_le (show addI 0 ((i : Int)).toNat * 1 + 0 + 1 ≤ 8 * 1 by rw [hTi]; omega)) ?_)
          exact ⟨rfl, rfl⟩
        repeat' (first | refine ⟨_, ⟨rfl, rfl⟩, ?_⟩ | fail)
        exact ⟨tau [], rfl, (by repeat' (first | exact rfl | exact trivial | assumption | refine ⟨?_, ?_⟩)), ⟨rfl, rfl, rfl, rfl, fun i c hi hc => rn_arr⟩, ⟨rfl, rfl, rfl, rfl, fun i c hi hc => rn_arr⟩, trivial⟩
      refine vc_sound hE 60 _ _ _ 30 ?_
      refine (?_ : br _ _ _)
      refine br_dec (fun w => ?_) (fun w => ?_)
      · rw [hTi] at w
        exact outI (hlt w).symm
      · rw [hTi] at w
        exact ⟨w, tau [], rfl, (by repeat' (first | exact rfl | exact trivial | assumption | refine ⟨?_, ?_⟩)), ⟨rfl, rfl, rfl, rfl, fun i c hi hc => rn_arr⟩, ⟨rfl, rfl, rfl, rfl, fun i c hi hc => rn_arr⟩, trivial⟩
    rintro σ1 h1 _ ⟨hn1, τ1, hw1⟩
    refine W_weak (nx' := 30) τ1 hw1 ?_
    clear hw1 σ1 h1 τ1
    refine W_seq (nx := 30) ?_
    refine W_to (nx := 30) [(9, .ptr 5 0 0), (10, .ptr 6 0 0), (11, .int .i64 i), (35, .bool (decide (F4 q (addI 0 ((i : Int)).toNat) < F4 p (addI 0 ((i : Int)).toNat))))] [(5, .blk b1 8 1 (gW (F4 p)) 102), (6, .blk b2 8 1 (gW (F4 q)) 102)] 30 ?_ ?_
    · skip
      · refine W_plan (id := 8) hE 30 7 (lineP 0 7 .done) (by rw [hcx]; exact mix) (by kernel_rfl) 30 ?_
        repeat' (first | refine ⟨_, ⟨rfl, rfl⟩, ?_⟩ | fail)
        refine ⟨.ptr 5 (addI 0 ((i : Int)).toNat) 0, ?_, ?_⟩
        · (refine (?_ : chk _ _); refine chk_ok (show (decide ((0 : Int) ≤ (i : Int)) && decide ((i : Int) < (8 : Int))) = true by simp only [Bool.and_eq_true, decide_eq_true_eq]; omega) ?_)
          exact ⟨rfl, rfl⟩
        refine ⟨.int .u64 (F4 p (addI 0 ((i : Int)).toNat)), ?_, ?_⟩
        · (refine (?_ : chk _ _); refine chk_ok (Nat.ble_eq_true_of_le (show addI 0 ((i : Int)).toNat * 1 + 0 + 1 ≤ 8 * 1 by rw [hTi]; omega)) ?_)
          exact ⟨rfl, rfl⟩
        repeat' (first | refine ⟨_, ⟨rfl, rfl⟩, ?_⟩ | fail)
        refine ⟨.ptr 6 (addI 0 ((i : Int)).toNat) 0, ?_, ?_⟩
        · (refine (?_ : chk _ _); refine chk_ok (show (decide ((0 : Int) ≤ (i : Int)) && decide ((i : Int) < (8 : Int))) = true by simp only [Bool.and_eq_true, decide_eq_true_eq]; omega) ?_)
          exact ⟨rfl, rfl⟩
        refine ⟨.int .u64 (F4 q (addI 0 ((i : Int)).toNat)), ?_, ?_⟩
        · (refine (?_ : chk _ _); refine chk_ok (Nat.ble_eq_true_of_le (show addI 0 ((i : Int)).toNat * 1 + 0 + 1 ≤ 8 * 1 by rw [hTi]; omega)) ?_)
          exact ⟨rfl, rfl⟩
        repeat' (first | refine ⟨_, ⟨rfl, rfl⟩, ?_⟩ | fail)
        exact ⟨tau [], rfl, (by repeat' (first | exact rfl | exact trivial | assumption | refine ⟨?_, ?_⟩)), ⟨rfl, rfl, rfl, rfl, fun i c hi hc => rn_arr⟩, ⟨rfl, rfl, rfl, rfl, fun i c hi hc => rn_arr⟩, trivial⟩
    refine vc_sound hE 60 _ _ _ 30 ?_
    refine (?_ : br _ _ _)
    refine br_dec (fun w => ?_) (fun w => ?_)
    · rw [hTi] at w
      exact outI (hgt w).symm
    · rw [hTi] at w
      exact ⟨0 + i, _, _, by omega, ⟨i, _, rfl, by omega, rfl, fun e => by subst e; have h1 : ¬ (p : Int) < q := hn1; have h2 : ¬ (q : Int) < p := w; omega, rfl, rfl⟩, tau [], rfl, (by repeat' (first | exact rfl | exact trivial | assumption | refine ⟨?_, ?_⟩)), ⟨rfl, rfl, rfl, rfl, fun i c hi hc => rn_arr⟩, ⟨rfl, rfl, rfl, rfl, fun i c hi hc => rn_arr⟩, trivial⟩
  rintro σ1 h1 _ ⟨hfin, τ1, hw1⟩
  refine W_weak (nx' := 30) τ1 hw1 ?_
  refine vc_sound hE 60 _ _ _ 30 ?_
  exact outI (by rw [hfin]; simp [cmpI])
end Go.Proofs.YtiihiifcnkfjoaaDoor.Sx

/-
  The held sum of two counts.
-/
namespace Go.Proofs.YtiihiifcnkfjoaaDoor.Sx
open Go Go.Proofs
set_option linter.unusedSimpArgs false
set_option linter.unusedVariables false


def bnd (a : Int) : Prop := 0 ≤ a ∧ a ≤ 18446744073709551615
/-- The sum, held. -/
def satI (a b : Int) : Int := if a + b > 18446744073709551615 then 18446744073709551615 else a + b
theorem sat_bnd {a b : Int} (ha : bnd a) (hb : bnd b) : bnd (satI a b) := by unfold satI bnd at *; split <;> omega

def sAdd64 : Spec := fun args h nx K => match args with
  | [.int .u64 x, .int .u64 y, .int .u64 (.ofNat 0)] => bnd x ∧ bnd y ∧ K (.ret (.tup [.int .u64 ((x + y + 0) % 18446744073709551616), .int .u64 ((x + y + 0) / 18446744073709551616)])) h nx
  | _ => False
theorem sAdd64_ok : SpecOK Tryd.prog 64 sAdd64 := by
  intro c hc args h nx K hs w xs hr hv
  unfold sAdd64 at hs
  split at hs
  · rename_i x y
    obtain ⟨hx, hy, hk⟩ := hs
    obtain ⟨v0, vs, rfl, rfl, v1, vs, rfl, rfl, v2, vs, rfl, rfl, rfl⟩ := hv
    refine .inr ⟨_, w, ?_, _, h, nx, hk, hr, Ext.refl h, _, rfl, ⟨_, rfl, _, _, rfl, rfl, _, _, rfl, rfl, rfl⟩⟩
    rw [run_callFunc_extern Tryd.func64 (by kernel_rfl) (by kernel_rfl) (by kernel_rfl) (e := add64Entry) (by kernel_rfl)]
    have := run_add64 (P := Tryd.prog) x y 0 hx.1 hy.1 (by omega) (by omega) w
    have e : (.ofNat 0 : Int) = 0 := rfl
    rw [e, this]
    rfl
  · exact hs.elim

def sSat : Spec := fun args h nx K => match args with
  | [.int .u64 a, .int .u64 b] => bnd a ∧ bnd b ∧ K (.ret (.int .u64 (satI a b))) h nx
  | _ => False
theorem sSat_ok : SpecOK Tryd.prog 42 sSat := by
  refine specOK_pure (fn := Tryd.f42) rfl rfl rfl T_ok (SP := [(64, sAdd64)]) (consSP sAdd64_ok noSP) [] trivial 100 _ ?_
  intro args h nx K hs
  unfold sSat at hs
  split at hs
  · rename_i a b
    obtain ⟨ha, hb, hk⟩ := hs
    refine ⟨trivial, by repeat constructor, by simp [Tryd.f42], fun o => o = .ret (.int .u64 (satI a b)), ?_, ?_⟩
    · rintro o rfl; exact ⟨trivial, hk⟩
    intro c hc
    refine ⟨ha, hb, ?_⟩
    unfold bnd at ha hb
    refine br_dec (fun e => ?_) (fun e => ?_)
    · refine outI ?_
      rw [satI, if_pos (by omega)]
    · refine outI ?_
      rw [satI, if_neg (by omega)]
      omega
  · exact hs.elim
end Go.Proofs.YtiihiifcnkfjoaaDoor.Sx

