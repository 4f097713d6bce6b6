import Derived.Test.YtfmnebdfanaafaaSxT
import Derived.Test.YtfmnebdfanaafaaSxY
/-
  The walks of this seat's functions, first part: is, may, May, Has; whether a number is in a list.
-/
namespace Go.Proofs.Ytfmnebdfanaafaa.Sx
open Go Go.Proofs
set_option maxRecDepth 100000
set_option linter.unusedSimpArgs false
set_option linter.unusedVariables false
set_option linter.unnecessarySimpa false

theorem mix : Try.prog.follows .mixedOrders = true := by kernel_rfl
theorem noSP {P : Program} : ∀ p ∈ ([] : SpT), SpecOK P p.1 p.2 := by intro p hp; cases hp
theorem consSP {P : Program} {f : Nat} {s : Spec} {l : SpT} (h : SpecOK P f s) (k : ∀ p ∈ l, SpecOK P p.1 p.2) : ∀ p ∈ (f, s) :: l, SpecOK P p.1 p.2 := by
  intro p hp
  rcases List.mem_cons.1 hp with rfl | hp
  · exact h
  · exact k p hp

def isB (x : Int) : Bool := decide (0 ≤ x) && decide (x < 256)
def mayB (a b : Int) : Bool := decide (0 ≤ a) && decide (a < 256) && decide (1 ≤ b) && decide (b ≤ 256 - a)
def i64 (a : Int) : Prop := -9223372036854775808 ≤ a ∧ a ≤ 9223372036854775807

def sIs : Spec := fun args h nx K => match args with
  | [.int .i64 x] => K (.ret (.bool (isB x))) h nx
  | _ => False
theorem sIs_ok : SpecOK Try.prog 21 sIs := by
  refine specOK_pure (fn := Try.f21) rfl rfl rfl T_ok (SP := []) noSP [] trivial 100 _ ?_
  intro args h nx K hs
  unfold sIs at hs
  split at hs
  · rename_i x
    refine ⟨trivial, by repeat constructor, by simp [Try.f21], fun o => o = .ret (.bool (isB x)), ?_, ?_⟩
    · rintro o rfl; exact ⟨trivial, hs⟩
    intro c hc
    clear hs
    (refine (?_ : br _ _ _); refine br_dec (fun e => ?_) (fun e => ?_))
    · refine outB ?_
      simp [isB, e]
    · refine outB ?_
      simp [isB, e]
  · exact hs.elim

def sMay : Spec := fun args h nx K => match args with
  | [.agg [.int .i64 a, .int .i64 b]] => i64 a ∧ i64 b ∧ K (.ret (.bool (mayB a b))) h nx
  | _ => False
theorem sMay_ok : SpecOK Try.prog 26 sMay := by
  refine specOK_pure (fn := Try.f26) rfl rfl rfl T_ok (SP := []) noSP [] trivial 200 _ ?_
  intro args h nx K hs
  unfold sMay at hs
  split at hs
  · rename_i a b
    obtain ⟨ha, hb, hk⟩ := hs
    refine ⟨trivial, by repeat constructor, by simp [Try.f26], fun o => o = .ret (.bool (mayB a b)), ?_, ?_⟩
    · rintro o rfl; exact ⟨trivial, hk⟩
    intro c hc
    clear hk
    unfold i64 at ha hb
    intro b0
    repeat' (first
      | (refine (?_ : br _ _ _); first | refine br_decT (by omega) ?_ | refine br_decF (by omega) ?_ | refine br_dec (fun _ => ?_) (fun _ => ?_) | refine br_both (fun _ => ?_) (fun _ => ?_))
      | fail)
    all_goals refine outB ?_
    all_goals simp [mayB, IntKind.wrap_i64, *] <;> omega
  · exact hs.elim
theorem sRefMay_ok : SpecOK Try.prog 20 sMay := by
  refine specOK_pure (fn := Try.f20) rfl rfl rfl T_ok (SP := []) noSP [] trivial 200 _ ?_
  intro args h nx K hs
  unfold sMay at hs
  split at hs
  · rename_i a b
    obtain ⟨ha, hb, hk⟩ := hs
    refine ⟨trivial, by repeat constructor, by simp [Try.f20], fun o => o = .ret (.bool (mayB a b)), ?_, ?_⟩
    · rintro o rfl; exact ⟨trivial, hk⟩
    intro c hc
    clear hk
    unfold i64 at ha hb
    intro b0
    repeat' (first
      | (refine (?_ : br _ _ _); first | refine br_decT (by omega) ?_ | refine br_decF (by omega) ?_ | refine br_dec (fun _ => ?_) (fun _ => ?_) | refine br_both (fun _ => ?_) (fun _ => ?_))
      | fail)
    all_goals refine outB ?_
    all_goals first
      | (simp [mayB, *] <;> omega; done)
      | (have e : IntKind.i64.wrap (a + b) = a + b := by simp [IntKind.wrap_i64]; omega
         rw [e]
         unfold mayB
         rw [Bool.eq_iff_iff]
         simp
         omega)
  · exact hs.elim

/-- Is x among the first n of f? -/
def hasB (n : Nat) (f : Nat → Int) (x : Int) : Bool := (List.range n).any fun j => decide (f j = x)
theorem hasB_iff {n : Nat} {f : Nat → Int} {x : Int} : hasB n f x = true ↔ ∃ j, j < n ∧ f j = x := by simp [hasB]
theorem hasB_no {n : Nat} {f : Nat → Int} {x : Int} (h : ∀ j, j < n → f j ≠ x) : hasB n f x = false := by
  cases e : hasB n f x with
  | false => rfl
  | true => obtain ⟨j, h1, h2⟩ := hasB_iff.1 e; exact absurd h2 (h j h1)

def sIndex : Spec := fun args h nx K => ∃ v x n f, args = [v, .int .i64 x] ∧ rdI h v n f ∧ n ≤ 1000000000 ∧ ∀ r : Int, (0 ≤ r ↔ hasB n f x = true) → K (.ret (.int .i64 r)) h nx

def JIx (b : Option Addr) (N i n c : Nat) (F f : Nat → Int) (x : Int) (s1 s2 : Nat) : Nat → Sl → Hp → Prop := fun r σ h => ∃ j : Nat, r = n - j ∧ j ≤ n ∧ (∀ k, k < j → f k ≠ x) ∧
  σ = [(0, .slice 2000 i n c), (1, .int .i64 x), (s1, .int .i64 n), (s2, .int .i64 j)] ∧ h = [(2000, .ro b N 1 (g1 .i64 F))]

theorem sIndex_ok : SpecOK Try.prog 27 sIndex := by
  refine specOK_read2 (fn := Try.f27) rfl rfl rfl T_ok (SP := []) noSP 200 _ ?_
  rintro args h nx K ⟨v, x, n, f, rfl, hv, hn, hk⟩
  obtain ⟨b, N, i, c, F, hN, hF, told⟩ := told_one (rest := [.int .i64 x]) hv ⟨trivial, trivial⟩
  refine ⟨_, _, told, by simp [Try.f27], fun o => ∃ r : Int, o = .ret (.int .i64 r) ∧ (0 ≤ r ↔ hasB n f x = true), ?_, ?_⟩
  · rintro o ⟨r, rfl, hr⟩; exact ⟨trivial, hk r hr⟩
  intro cx hc
  clear hk told hv
  refine W_loop (JIx b N i n c F f x 7 8) n ⟨0, rfl, by omega, fun k hk => by omega, rfl, rfl⟩ (tau []) ⟨rfl, ?_, ?_⟩ 30 ?_
  · repeat' (first | exact rfl | exact trivial | refine ⟨?_, ?_⟩)
  · exact ⟨⟨rfl, rfl, rfl, fun i c hi hc => ⟨rfl, rfl⟩⟩, trivial⟩
  rintro r σ h1 ⟨j, rfl, hj, hno, rfl, rfl⟩
  refine vc_sound (mkE hc T_ok noSP) 200 _ _ _ 30 ?_
  (refine (?_ : br _ _ _); refine br_dec (fun hlt => ?_) (fun hlt => ?_))
  · have hlt : (j : Int) < (n : Int) := hlt
    have hjn : j < n := by omega
    have hw : IntKind.i64.wrap ((j : Int) + 1) = ((j + 1 : Nat) : Int) := by simp [IntKind.wrap_i64]; omega
    (refine (?_ : chk _ _); refine chk_ok (by simp; omega) ?_)
    (refine (?_ : chk _ _); refine chk_ok rfl ?_)
    (refine (?_ : chk _ _); refine chk_ok (Nat.ble_eq_true_of_le (show addI i j * 1 + 0 + 1 ≤ N * 1 by rw [addI_eq]; omega)) ?_)
    (refine (?_ : br _ _ _); refine br_eq (fun e => ?_) (fun e => ?_))
    · have e : x = F (addI i j) := e
      refine ⟨j, rfl, ⟨fun _ => hasB_iff.2 ⟨j, hjn, ?_⟩, fun _ => by omega⟩⟩
      rw [hF j hjn, e, addI_eq]
    · have e : x ≠ F (addI i j) := e
      refine ⟨n - (j + 1), _, _, by omega, ⟨j + 1, rfl, by omega, fun k hk => ?_, rfl, rfl⟩, tau [], rfl, ?_, ?_⟩
      · by_cases hkj : k = j
        · subst hkj
          rw [hF k hjn, ← addI_eq]
          exact fun q => e q.symm
        · exact hno k (by omega)
      · repeat' (first | exact rfl | exact trivial | exact hw | refine ⟨?_, ?_⟩)
      · exact ⟨⟨rfl, rfl, rfl, fun i c hi hc => ⟨rfl, rfl⟩⟩, trivial⟩
  · have hlt : ¬ (j : Int) < (n : Int) := hlt
    refine ⟨-1, rfl, ⟨fun q => absurd q (by decide), fun q => ?_⟩⟩
    obtain ⟨k, hk, e⟩ := hasB_iff.1 q
    exact absurd e (hno k (by omega))

def sIn : Spec := fun args h nx K => ∃ v x n f, args = [v, .int .i64 x] ∧ rdI h v n f ∧ n ≤ 1000000000 ∧ K (.ret (.bool (hasB n f x))) h nx

theorem sContains_ok : SpecOK Try.prog 22 sIn := by
  refine specOK_read2 (fn := Try.f22) rfl rfl rfl T_ok (SP := [(27, sIndex)]) (consSP sIndex_ok noSP) 200 _ ?_
  rintro args h nx K ⟨v, x, n, f, rfl, hv, hn, hk⟩
  obtain ⟨b, N, i, c, F, hN, hF, told⟩ := told_one (rest := [.int .i64 x]) hv ⟨trivial, trivial⟩
  refine ⟨_, _, told, by simp [Try.f22], fun o => o = .ret (.bool (hasB n f x)), ?_, ?_⟩
  · rintro o rfl; exact ⟨trivial, hk⟩
  intro cx hc
  clear hk told hv
  refine ⟨_, _, n, f, rfl, .inr ⟨2000, i, c, b, N, _, rfl, rfl, hN, F, fun _ _ => rfl, hF⟩, hn, fun r hr => ?_⟩
  refine outB ?_
  cases e : hasB n f x with
  | true => simpa using hr.2 e
  | false => 
    have : ¬ 0 ≤ r := fun q => by rw [hr.1 q] at e; cases e
    simpa using this

theorem sRefIn_ok : SpecOK Try.prog 18 sIn := by
  refine specOK_read2 (fn := Try.f18) rfl rfl rfl T_ok (SP := []) noSP 200 _ ?_
  rintro args h nx K ⟨v, x, n, f, rfl, hv, hn, hk⟩
  obtain ⟨b, N, i, c, F, hN, hF, told⟩ := told_one (rest := [.int .i64 x]) hv ⟨trivial, trivial⟩
  refine ⟨_, _, told, by simp [Try.f18], fun o => o = .ret (.bool (hasB n f x)), ?_, ?_⟩
  · rintro o rfl; exact ⟨trivial, hk⟩
  intro cx hc
  clear hk told hv
  refine W_loop (fun r σ h => ∃ j : Nat, r = n - j ∧ j ≤ n ∧ (∀ k, k < j → f k ≠ x) ∧ σ = [(0, .slice 2000 i n c), (1, .int .i64 x), (5, .int .i64 j)] ∧ h = [(2000, .ro b N 1 (g1 .i64 F))]) n ⟨0, rfl, by omega, fun k hk => by omega, rfl, rfl⟩ (tau []) ⟨rfl, ?_, ?_⟩ 30 ?_
  · repeat' (first | exact rfl | exact trivial | refine ⟨?_, ?_⟩)
  · exact ⟨⟨rfl, rfl, rfl, fun i c hi hc => ⟨rfl, rfl⟩⟩, trivial⟩
  rintro r σ h1 ⟨j, rfl, hj, hno, rfl, rfl⟩
  refine vc_sound (mkE hc T_ok noSP) 200 _ _ _ 30 ?_
  (refine (?_ : br _ _ _); refine br_dec (fun hlt => ?_) (fun hlt => ?_))
  · have hlt : (j : Int) < (n : Int) := hlt
    have hjn : j < n := by omega
    have hw : IntKind.i64.wrap ((j : Int) + 1) = ((j + 1 : Nat) : Int) := by simp [IntKind.wrap_i64]; omega
    (refine (?_ : chk _ _); refine chk_ok (by simp; omega) ?_)
    (refine (?_ : chk _ _); refine chk_ok rfl ?_)
    (refine (?_ : chk _ _); refine chk_ok (Nat.ble_eq_true_of_le (show addI i j * 1 + 0 + 1 ≤ N * 1 by rw [addI_eq]; omega)) ?_)
    (refine (?_ : br _ _ _); refine br_eq (fun e => ?_) (fun e => ?_))
    · have e : F (addI i j) = x := e
      refine outB (Eq.symm (hasB_iff.2 ⟨j, hjn, ?_⟩))
      rw [hF j hjn, ← e, addI_eq]
    · have e : F (addI i j) ≠ x := e
      refine ⟨n - (j + 1), _, _, by omega, ⟨j + 1, rfl, by omega, fun k hk => ?_, rfl, rfl⟩, tau [], rfl, ?_, ?_⟩
      · by_cases hkj : k = j
        · subst hkj
          rw [hF k hjn, ← addI_eq]
          exact e
        · exact hno k (by omega)
      · repeat' (first | exact rfl | exact trivial | exact hw | refine ⟨?_, ?_⟩)
      · exact ⟨⟨rfl, rfl, rfl, fun i c hi hc => ⟨rfl, rfl⟩⟩, trivial⟩
  · have hlt : ¬ (j : Int) < (n : Int) := hlt
    exact outB (hasB_no fun k hk => hno k (by omega)).symm

/-- What a block costs. -/
def costI (n : Nat) (f : Nat → Int) (x : Int) : Int := if hasB n f x = true then 1 else 0
def sCost : Spec := fun args h nx K => ∃ v x n f, args = [v, .int .i64 x] ∧ rdI h v n f ∧ n ≤ 1000000000 ∧ K (.ret (.int .i64 (costI n f x))) h nx
theorem sCost_ok : SpecOK Try.prog 23 sCost := by
  refine specOK_read2 (fn := Try.f23) rfl rfl rfl T_ok (SP := [(22, sIn)]) (consSP sContains_ok noSP) 200 _ ?_
  rintro args h nx K ⟨v, x, n, f, rfl, hv, hn, hk⟩
  obtain ⟨b, N, i, c, F, hN, hF, told⟩ := told_one (rest := [.int .i64 x]) hv ⟨trivial, trivial⟩
  refine ⟨_, _, told, by simp [Try.f23], fun o => o = .ret (.int .i64 (costI n f x)), ?_, ?_⟩
  · rintro o rfl; exact ⟨trivial, hk⟩
  intro cx hc
  clear hk told hv
  refine ⟨_, _, n, f, rfl, .inr ⟨2000, i, c, b, N, _, rfl, rfl, hN, F, fun _ _ => rfl, hF⟩, hn, ?_⟩
  (refine (?_ : br _ _ _); refine br_both (fun e => ?_) (fun e => ?_))
  · refine outI ?_
    rw [costI, if_pos e]
  · refine outI ?_
    rw [costI, if_neg (by rw [e]; decide)]

end Go.Proofs.Ytfmnebdfanaafaa.Sx
