import Derived.Test.YtiihiifcnkfjoaaDoorSxGE
import Derived.Test.YtiihiifcnkfjoaaDoorSxCl
/-
  The walks of this seat's laws: SarcPulls.
-/
namespace Go.Proofs.YtiihiifcnkfjoaaDoor.Sx
open Go Go.Proofs
set_option maxRecDepth 100000
set_option linter.unusedSimpArgs false
set_option linter.unusedVariables false

/-- A policy that nothing was put into. -/
def Pol.idle (n b w ms : Nat) : Pol := ⟨Md.new n b, w, ms, 0, []⟩
theorem idle_miss {n b w ms : Nat} (hb : 1 ≤ b) (hw : w ≤ n) (hm : ms ≤ 63) : (Pol.idle n b w ms).missP 0 = Pol.idle n b (min (w + 1) n) (if ms + 1 = 64 then 32 else ms + 1) := by
  have h1 : (Pol.idle n b w ms).missP 0 = (Pol.idle n b w ms).oneMiss.weighP := if_pos rfl
  have hc : (Pol.idle n b w ms).oneMiss.wcmp = 1 := by
    show cmpI (((ms + 1) * b : Nat) : Int) ((0 * 0 : Nat) : Int) = 1
    unfold cmpI
    have hp : 0 < (ms + 1) * b := Nat.mul_pos (by omega) (by omega)
    rw [if_neg (by omega), if_pos (by omega)]
  have hw1 : (Pol.idle n b w ms).oneMiss.want1 = min (w + 1) n := by
    unfold Pol.want1
    rw [if_pos hc]
    rfl
  rw [h1]
  refine gP_eq rfl rfl hw1 ?_ ?_
  · show (if 64 ≤ max (ms + 1) 0 then (ms + 1) / 2 else ms + 1) = if ms + 1 = 64 then 32 else ms + 1
    split <;> split <;> omega
  · show (if 64 ≤ max (ms + 1) 0 then 0 / 2 else 0) = 0
    split <;> rfl
theorem idle_miss1 {n b w ms : Nat} : (Pol.idle n b w ms).missP 1 = Pol.idle n b w ms := if_neg (by decide)
theorem idle_fit {n b w ms : Nat} (hw : w ≤ n) (hm : ms ≤ 63) : (Pol.idle n b w ms).Fit := ⟨hw, hm, Nat.zero_le _, Nat.zero_le _⟩

/-- What a law's walk knows besides: the policy, and what is read. -/
theorem HPW.wkR {bS bA bP bU : Nat} {s : Sh} {p : Pol} {rest : Hp} (hr : wkH (tau []) (HPW bS bA bP bU s p ++ rest) (HPW bS bA bP bU s p ++ rest) rest) : wkH (tau []) (HPW bS bA bP bU s p ++ rest) (HPW bS bA bP bU s p ++ rest) (HPW bS bA bP bU s p ++ rest) :=
  HPW.wkIn rfl rfl rfl rfl rfl trivial trivial trivial hr

def SPL1 : SpT := [(9, sAwake), (10, sPNew), (20, PMiss), (15, sPolicy)]
theorem spl1 : ∀ p ∈ SPL1, SpecOK Tryd.prog p.1 p.2 := consSP sAwake_ok (consSP sPNew_ok (consSP pmiss_ok (consSP sPolicy_ok noSP)))

theorem pulls_walk {c : Cx} (hc : c.P = Tryd.prog) {fr bo : Int} (hfr : 0 ≤ fr ∧ fr ≤ 255) (hbo : 0 ≤ bo ∧ bo ≤ 255) {ub : Option Addr} {len cap : Nat} {f : Nat → Bool} (hlen : len ≤ 9223372036854775807) :
    ∃ cd, Tryd.f5.body = some cd ∧ W ⟨c, Tryd.f5, T, SPL1, fun o _ _ => o = .ret (.bool true)⟩ [.code cd] (argsS [.int .u8 fr, .int .u8 bo, .slice 2000 0 len cap] 0) [(1000, eB), (2000, .ro ub len 1 (gb f))] 0 := by
  refine ⟨_, rfl, ?_⟩
  have hE := mkE' (fn := Tryd.f5) (R := fun o _ _ => o = .ret (.bool true)) hc spl1
  have hwk : wkH (tau []) [(1000, eB), (2000, Ent.ro ub len 1 (gb f))] [(1000, eB), (2000, Ent.ro ub len 1 (gb f))] [(1000, eB), (2000, Ent.ro ub len 1 (gb f))] := ⟨⟨rfl, rfl, rfl, fun i c hi hc => ⟨rfl, rfl⟩⟩, ⟨rfl, rfl, rfl, fun i c hi hc => rfl⟩, trivial⟩
  obtain ⟨n, hn⟩ : ∃ n : Nat, (n : Int) = 1 + fr % 64 := ⟨(1 + fr % 64).toNat, by omega⟩
  have hn1 : 1 ≤ n ∧ n ≤ 64 := by omega
  obtain ⟨b, hb⟩ : ∃ b : Nat, (b : Int) = 1 + bo % n := ⟨(1 + bo % n).toNat, by have := Int.emod_nonneg bo (show (n : Int) ≠ 0 by omega); omega⟩
  have hb1 : 1 ≤ b ∧ b ≤ n := by
    have h1 := Int.emod_nonneg bo (show (n : Int) ≠ 0 by omega)
    have h2 := Int.emod_lt_of_pos bo (show (0 : Int) < n by omega)
    omega
  have hmay : mayB n b = true := by unfold mayB; simp only [Bool.and_eq_true, decide_eq_true_eq]; omega
  refine W_seq (nx := 0) ?_
  refine W_to (nx := 0) [(0, .int .u8 fr), (1, .int .u8 bo), (2, .slice 2000 0 len cap)] [(1000, eB), (2000, .ro ub len 1 (gb f))] 30 ?_ ?_
  · refine vc_sound hE 20 _ _ _ 30 ?_
    exact ⟨tau [], rfl, (by repeat' (first | exact rfl | exact trivial | assumption | refine ⟨?_, ?_⟩)), hwk⟩
  refine W_seq (nx := 30) ?_
  refine W_to (nx := 30) [(0, .int .u8 fr), (1, .int .u8 bo), (2, .slice 2000 0 len cap)] [(1000, eB), (2000, .ro ub len 1 (gb f))] 30 ?_ ?_
  · refine vc_sound hE 60 _ _ _ 30 ?_
    refine ⟨rfl, rfl, ?_⟩
    exact ⟨tau [], rfl, (by repeat' (first | exact rfl | exact trivial | assumption | refine ⟨?_, ?_⟩)), hwk⟩
  refine W_seq (nx := 30) ?_
  have e1 : IntKind.i64.wrap (1 + Int.tmod (IntKind.i64.wrap fr) 64) = (n : Int) := by
    rw [show IntKind.i64.wrap fr = fr by simp only [IntKind.wrap_i64]; omega, Int.tmod_eq_emod_of_nonneg (by omega)]
    simp only [IntKind.wrap_i64]; omega
  refine W_to (nx := 30) [(1, .int .u8 bo), (2, .slice 2000 0 len cap), (7, .int .i64 n)] [(1000, eB), (2000, .ro ub len 1 (gb f))] 30 ?_ ?_
  · refine vc_sound hE 60 _ _ _ 30 ?_
    exact ⟨tau [], rfl, ⟨⟨rfl, rfl⟩, ⟨⟨rfl, trivial⟩, rfl, rfl, rfl⟩, ⟨rfl, e1⟩, trivial⟩, hwk⟩
  refine W_seq (nx := 30) ?_
  have e2 : IntKind.i64.wrap (1 + Int.tmod (IntKind.i64.wrap bo) n) = (b : Int) := by
    rw [show IntKind.i64.wrap bo = bo by simp only [IntKind.wrap_i64]; omega, Int.tmod_eq_emod_of_nonneg (by omega)]
    simp only [IntKind.wrap_i64]; omega
  refine W_piece (nx := 30) (fun σ1 h1 _ => ∃ (bS bA bP bU : Nat) (s : Sh), (s.N = n + 2 ∧ Inv s (Md.new n b) n) ∧ ∃ τ, wk τ σ1 h1 [(2, .slice 2000 0 len cap), (7, .int .i64 n), (8, .ptr 8 0 0)] (HPW bS bA bP bU s (Pol.idle n b 0 0) ++ [(2000, .ro ub len 1 (gb f))])) ?_ ?_
  · refine vc_sound hE 60 _ _ _ 30 ?_
    (refine (?_ : chk _ _); refine chk_ok (show (!(decide ((n : Int) = 0))) = true by simp; omega) ?_)
    refine ⟨n, IntKind.i64.wrap (1 + Int.tmod (IntKind.i64.wrap bo) n), rfl, fun _ => ⟨rfl, rfl, rfl, rfl⟩, fun e => ?_, fun e bS bA bP bU s hN hi => ?_⟩
    · rw [e2, hmay] at e; cases e
    · rw [e2] at hi ⊢
      exact ⟨bS, bA, bP, bU, s, ⟨hN, hi⟩, tau [], rfl, (by repeat' (first | exact rfl | exact trivial | assumption | refine ⟨?_, ?_⟩)), HPW.wkIn (p := Pol.idle n b 0 0) rfl rfl rfl rfl rfl trivial trivial trivial ⟨⟨rfl, rfl, rfl, fun i c hi hc => rfl⟩, trivial⟩⟩
  rintro σ1 h1 _ ⟨bS, bA, bP, bU, s, ⟨hN, hi⟩, τ1, hw1⟩
  refine W_weak (nx' := 30) τ1 hw1 ?_
  clear hw1
  have hwR : ∀ (s : Sh) (w ms : Nat), wkH (tau []) (HPW bS bA bP bU s (Pol.idle n b w ms) ++ [(2000, .ro ub len 1 (gb f))]) (HPW bS bA bP bU s (Pol.idle n b w ms) ++ [(2000, .ro ub len 1 (gb f))]) (HPW bS bA bP bU s (Pol.idle n b w ms) ++ [(2000, .ro ub len 1 (gb f))]) := fun s w ms => HPW.wkR ⟨⟨rfl, rfl, rfl, fun i c hi hc => rfl⟩, trivial⟩
  refine W_seq (nx := 30) ?_
  refine W_to (nx := 30) [(2, .slice 2000 0 len cap), (7, .int .i64 n), (8, .ptr 8 0 0)] (HPW bS bA bP bU s (Pol.idle n b 0 0) ++ [(2000, .ro ub len 1 (gb f))]) 30 ?_ ?_
  · refine vc_sound hE 60 _ _ _ 30 ?_
    exact ⟨tau [], rfl, (by repeat' (first | exact rfl | exact trivial | assumption | refine ⟨?_, ?_⟩)), hwR _ _ _⟩
  refine W_seq (nx := 30) ?_
  refine W_to (nx := 30) [(2, .slice 2000 0 len cap), (7, .int .i64 n), (8, .ptr 8 0 0), (10, .int .i64 ((0 : Nat) : Int))] (HPW bS bA bP bU s (Pol.idle n b 0 0) ++ [(2000, .ro ub len 1 (gb f))]) 30 ?_ ?_
  · refine vc_sound hE 60 _ _ _ 30 ?_
    exact ⟨tau [], rfl, (by repeat' (first | exact rfl | exact trivial | assumption | refine ⟨?_, ?_⟩)), hwR _ _ _⟩
  refine W_seq (nx := 30) ?_
  refine W_to (nx := 30) [(2, .slice 2000 0 len cap), (7, .int .i64 n), (8, .ptr 8 0 0), (10, .int .i64 ((0 : Nat) : Int)), (11, .int .u64 ((0 : Nat) : Int))] (HPW bS bA bP bU s (Pol.idle n b 0 0) ++ [(2000, .ro ub len 1 (gb f))]) 30 ?_ ?_
  · refine vc_sound hE 60 _ _ _ 30 ?_
    exact ⟨tau [], rfl, (by repeat' (first | exact rfl | exact trivial | assumption | refine ⟨?_, ?_⟩)), hwR _ _ _⟩
  refine W_seq (nx := 30) ?_
  refine W_to (nx := 30) [] [] 30 ?_ ?_
  rotate_left
  · refine vc_sound hE 60 _ _ _ 30 ?_
    rfl
  refine vc_sound hE 5 _ _ _ 30 ?_
  refine W_loop (fun r σ h => ∃ (j w ms : Nat) (s : Sh), r = len - j ∧ j ≤ len ∧ w ≤ n ∧ ms ≤ 63 ∧ s.N = n + 2 ∧ Inv s (Md.new n b) n ∧ σ = [(2, .slice 2000 0 len cap), (7, .int .i64 n), (8, .ptr 8 0 0), (10, .int .i64 (w : Int)), (11, .int .u64 (ms : Int)), (12, .int .i64 (j : Int))] ∧ h = HPW bS bA bP bU s (Pol.idle n b w ms) ++ [(2000, .ro ub len 1 (gb f))])
    len ⟨0, 0, 0, s, rfl, by omega, by omega, by omega, hN, hi, rfl, rfl⟩ (tau []) ⟨rfl, (by repeat' (first | exact rfl | exact trivial | assumption | refine ⟨?_, ?_⟩)), hwR _ _ _⟩ 30 ?_
  clear hN hi s
  rintro r σ h1 ⟨j, w, ms, s, rfl, hj, hw, hms, hN, hi, rfl, rfl⟩
  refine W_seq (nx := 30) ?_
  refine W_piece (nx := 30) (fun σ1 h1 _ => (j < len ∧ j < 300) ∧ ∃ τ, wk τ σ1 h1 [(2, .slice 2000 0 len cap), (7, .int .i64 n), (8, .ptr 8 0 0), (10, .int .i64 (w : Int)), (11, .int .u64 (ms : Int)), (12, .int .i64 (j : Int))] (HPW bS bA bP bU s (Pol.idle n b w ms) ++ [(2000, .ro ub len 1 (gb f))])) ?_ ?_
  · refine vc_sound hE 60 _ _ _ 30 ?_
    (refine (?_ : br _ _ _); refine br_dec (fun q => ?_) (fun q => ?_))
    · have q1 : (j : Int) < (len : Int) := q
      (refine (?_ : br _ _ _); refine br_dec (fun q => ?_) (fun q => ?_))
      · have q2 : (j : Int) < 300 := q
        exact ⟨⟨by omega, by omega⟩, tau [], rfl, (by repeat' (first | exact rfl | exact trivial | assumption | refine ⟨?_, ?_⟩)), hwR _ _ _⟩
      · exact ⟨tau [], rfl, trivial, trivial⟩
    · exact ⟨tau [], rfl, trivial, trivial⟩
  rintro σ1 h1 _ ⟨⟨hjl, hj3⟩, τ1, hw1⟩
  refine W_weak (nx' := 30) τ1 hw1 ?_
  clear hw1
  have hwj : IntKind.i64.wrap ((j : Int) + 1) = ((j + 1 : Nat) : Int) := by simp only [IntKind.wrap_i64]; omega
  refine W_seq (nx := 30) ?_
  obtain ⟨w', hw'⟩ : ∃ w', w' = if f j = true then min (w + 1) n else w := ⟨_, rfl⟩
  obtain ⟨ms', hms'⟩ : ∃ w', w' = if f j = true then (if ms + 1 = 64 then 32 else ms + 1) else ms := ⟨_, rfl⟩
  obtain ⟨l, hl⟩ : ∃ l : Int, l = if f j = true then 0 else 1 := ⟨_, rfl⟩
  have hw2 : w' ≤ n := by rw [hw']; split <;> omega
  have hms2 : ms' ≤ 63 := by rw [hms']; split; split <;> omega; omega
  have hP : (Pol.idle n b w ms).missP l = Pol.idle n b w' ms' := by
    rw [hl, hw', hms']
    cases f j with
    | true => exact idle_miss hb1.1 hw hms
    | false => exact idle_miss1
  have hC : Pol.missC l = 0 := by unfold Pol.missC; rw [hl]; split <;> rfl
  refine W_ex (nx := 30) (fun s' : Sh => s'.N = n + 2 ∧ Inv s' (Md.new n b) n) (fun _ => [(2, .slice 2000 0 len cap), (7, .int .i64 n), (8, .ptr 8 0 0), (10, .int .i64 (w' : Int)), (11, .int .u64 (ms' : Int)), (12, .int .i64 (j : Int))]) (fun s' => HPW bS bA bP bU s' (Pol.idle n b w' ms') ++ [(2000, .ro ub len 1 (gb f))]) 30 ?_ ?_
  · refine vc_sound hE 1 _ _ _ 30 ?_
    refine W_seq (nx := 30) ?_
    refine W_to (nx := 30) [(2, .slice 2000 0 len cap), (7, .int .i64 n), (8, .ptr 8 0 0), (10, .int .i64 (w : Int)), (11, .int .u64 (ms : Int)), (12, .int .i64 (j : Int)), (13, .int .i64 1)] (HPW bS bA bP bU s (Pol.idle n b w ms) ++ [(2000, .ro ub len 1 (gb f))]) 30 ?_ ?_
    · refine vc_sound hE 60 _ _ _ 30 ?_
      exact ⟨tau [], rfl, (by repeat' (first | exact rfl | exact trivial | assumption | refine ⟨?_, ?_⟩)), hwR _ _ _⟩
    refine W_seq (nx := 30) ?_
    refine W_to (nx := 30) [(2, .slice 2000 0 len cap), (7, .int .i64 n), (8, .ptr 8 0 0), (10, .int .i64 (w' : Int)), (11, .int .u64 (ms' : Int)), (12, .int .i64 (j : Int)), (13, .int .i64 l)] (HPW bS bA bP bU s (Pol.idle n b w ms) ++ [(2000, .ro ub len 1 (gb f))]) 30 ?_ ?_
    · refine vc_sound hE 60 _ _ _ 30 ?_
      have hz : addI 0 ((j : Int)).toNat = j := by rw [Int.toNat_natCast, addI_eq, Nat.zero_add]
      (refine (?_ : chk _ _); refine chk_ok (show (decide ((0 : Int) ≤ (j : Int)) && decide ((j : Int) < (len : Int))) = true by simp only [Bool.and_eq_true, decide_eq_true_eq]; omega) ?_)
      (refine (?_ : chk _ _); refine chk_ok rfl ?_)
      (refine (?_ : chk _ _); refine chk_ok (Nat.ble_eq_true_of_le (show addI 0 ((j : Int)).toNat * 1 + 0 + 1 ≤ len * 1 by rw [hz]; omega)) ?_)
      (refine (?_ : br _ _ _); refine br_both (fun q => ?_) (fun q => ?_))
      · have q1 : f (addI 0 ((j : Int)).toNat) = true := q
        rw [hz] at q1
        rw [if_pos q1] at hw' hms' hl
        have a1 : IntKind.u64.wrap ((ms : Int) + 1) = ((ms + 1 : Nat) : Int) := by simp only [IntKind.wrap_u64]; omega
        have a2 : (if (n : Int) < IntKind.i64.wrap ((w : Int) + 1) then (n : Int) else IntKind.i64.wrap ((w : Int) + 1)) = (w' : Int) := by
          rw [show IntKind.i64.wrap ((w : Int) + 1) = (w : Int) + 1 by simp only [IntKind.wrap_i64]; omega, hw']
          split <;> omega
        by_cases h63 : ms = 63
        · (refine (?_ : br _ _ _); refine br_eqT (show IntKind.u64.wrap ((ms : Int) + 1) = 64 by rw [a1]; omega) ?_)
          have a3 : (32 : Int) = (ms' : Int) := by rw [hms', if_pos (by omega)]; rfl
          exact ⟨tau [], rfl, ⟨⟨⟨rfl, trivial⟩, rfl, rfl, rfl⟩, ⟨rfl, rfl⟩, ⟨⟨rfl, trivial⟩, rfl, rfl⟩, ⟨rfl, a2⟩, ⟨rfl, a3⟩, ⟨rfl, rfl⟩, ⟨rfl, hl.symm⟩, trivial⟩, hwR _ _ _⟩
        · (refine (?_ : br _ _ _); refine br_eqF (show IntKind.u64.wrap ((ms : Int) + 1) ≠ 64 by rw [a1]; omega) ?_)
          have a3 : IntKind.u64.wrap ((ms : Int) + 1) = (ms' : Int) := by rw [a1, hms', if_neg (by omega)]
          exact ⟨tau [], rfl, ⟨⟨⟨rfl, trivial⟩, rfl, rfl, rfl⟩, ⟨rfl, rfl⟩, ⟨⟨rfl, trivial⟩, rfl, rfl⟩, ⟨rfl, a2⟩, ⟨rfl, a3⟩, ⟨rfl, rfl⟩, ⟨rfl, hl.symm⟩, trivial⟩, hwR _ _ _⟩
      · have q1 : f (addI 0 ((j : Int)).toNat) = false := q
        rw [hz] at q1
        rw [if_neg (by rw [q1]; simp)] at hw' hms' hl
        exact ⟨tau [], rfl, ⟨⟨⟨rfl, trivial⟩, rfl, rfl, rfl⟩, ⟨rfl, rfl⟩, ⟨⟨rfl, trivial⟩, rfl, rfl⟩, ⟨rfl, by rw [hw']⟩, ⟨rfl, by rw [hms']⟩, ⟨rfl, rfl⟩, ⟨rfl, hl.symm⟩, trivial⟩, hwR _ _ _⟩
    refine W_seq (nx := 30) ?_
    refine W_ex (nx := 30) (fun s' : Sh => s'.N = n + 2 ∧ Inv s' (Md.new n b) n) (fun _ => [(2, .slice 2000 0 len cap), (7, .int .i64 n), (8, .ptr 8 0 0), (10, .int .i64 (w' : Int)), (11, .int .u64 (ms' : Int)), (12, .int .i64 (j : Int)), (14, .int .i64 0)]) (fun s' => HPW bS bA bP bU s' (Pol.idle n b w' ms') ++ [(2000, .ro ub len 1 (gb f))]) 30 ?_ ?_
    · refine vc_sound hE 60 _ _ _ 30 ?_
      refine ⟨_, Pol.idle n b w ms, Pol.idle n b w' ms', _, rfl, ⟨l, rfl, idle_fit hw hms, hP.symm, rfl⟩, bS, bA, bP, bU, s, hi, rfl, rfl, rfl, rfl, rfl, fun s' hN' hi' => ?_⟩
      rw [hC]
      exact ⟨s', ⟨hN'.trans hN, hi'⟩, tau [], rfl, (by repeat' (first | exact rfl | exact trivial | assumption | refine ⟨?_, ?_⟩)), HPW.wkIn rfl (eA_N hN') rfl rfl rfl trivial trivial trivial ⟨⟨rfl, rfl, rfl, fun i c hi hc => rfl⟩, trivial⟩⟩
    clear hN hi s
    rintro s ⟨hN, hi⟩
    refine W_seq (nx := 30) ?_
    refine vc_sound hE 60 _ _ _ 30 ?_
    refine ⟨Pol.idle n b w' ms', rfl, ⟨bS, bA, bP, bU, s, hi, rfl, rfl, rfl, rfl, rfl⟩, rfl, rfl, rfl, fun f0 d0 f1 d1 f2 d2 hl0 hl1 hl2 => ?_⟩
    intro bb
    (refine (?_ : br _ _ _); refine br_neF rfl ?_)
    (refine (?_ : br _ _ _); refine br_neF rfl ?_)
    exact ⟨s, ⟨hN, hi⟩, tau [], rfl, (by repeat' (first | exact rfl | exact trivial | assumption | refine ⟨?_, ?_⟩)), HPW.wkIn rfl rfl rfl rfl rfl trivial trivial trivial ⟨⟨rfl, rfl, rfl, fun i c hi hc => rfl⟩, trivial⟩⟩
  clear hN hi s
  rintro s ⟨hN, hi⟩
  refine vc_sound hE 60 _ _ _ 30 ?_
  exact ⟨len - (j + 1), _, _, by omega, ⟨j + 1, w', ms', s, rfl, by omega, hw2, hms2, hN, hi, rfl, rfl⟩, tau [], rfl, ⟨⟨⟨rfl, trivial⟩, rfl, rfl, rfl⟩, ⟨rfl, rfl⟩, ⟨⟨rfl, trivial⟩, rfl, rfl⟩, ⟨rfl, rfl⟩, ⟨rfl, rfl⟩, ⟨rfl, hwj⟩, trivial⟩, hwR _ _ _⟩

def sPulls : Spec := fun args h nx K => ∃ (fr bo : Int) (ub : Option Addr) (len cap : Nat) (f : Nat → Bool), args = [.int .u8 fr, .int .u8 bo, .slice 2000 0 len cap] ∧ h = [(1000, eB), (2000, .ro ub len 1 (gb f))] ∧ (0 ≤ fr ∧ fr ≤ 255) ∧ (0 ≤ bo ∧ bo ≤ 255) ∧ len ≤ 9223372036854775807 ∧ K (.ret (.bool true)) h nx
theorem sPulls_ok : SpecOK Tryd.prog 5 sPulls := by
  refine specOK_read (fn := Tryd.f5) rfl rfl rfl T_ok (SP := SPL1) spl1 0 _ ?_
  rintro args h nx K ⟨fr, bo, ub, len, cap, f, rfl, rfl, hfr, hbo, hlen, hk⟩
  refine ⟨[(1000, eB), (2000, .ro ub len 1 (gb f))], ⟨fun i c hi hc => trivial, fun i c hi hc => trivial, trivial⟩, ⟨⟨rfl, _, _, _, _, rfl⟩, ⟨rfl, _, _, _, _, rfl⟩, trivial⟩, ⟨trivial, trivial, rfl, trivial⟩, by simp [Tryd.f5], fun o => o = .ret (.bool true), ?_, ?_⟩
  · rintro o rfl
    exact ⟨trivial, hk⟩
  · intro c hc
    obtain ⟨cd, h1, h2⟩ := pulls_walk hc hfr hbo (ub := ub) (cap := cap) (f := f) hlen
    cases h1
    exact h2
end Go.Proofs.YtiihiifcnkfjoaaDoor.Sx
