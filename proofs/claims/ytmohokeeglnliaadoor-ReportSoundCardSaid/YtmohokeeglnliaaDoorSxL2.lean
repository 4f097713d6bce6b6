import Derived.Test.YtmohokeeglnliaaDoorSxL1
import Derived.Test.YtmohokeeglnliaaDoorSxF9
/-
  ReportSound: its plain law, and its walk.
-/
namespace Go.Proofs.YtmohokeeglnliaaDoor.Sx
open Go Go.Proofs Go.RowKit Go.Sort
set_option maxRecDepth 100000
set_option linter.unusedSimpArgs false
set_option linter.unusedVariables false
set_option linter.unnecessarySimpa false

/-- The sum, held. -/
def satI (a b : Int) : Int := if a + b > 18446744073709551615 then 18446744073709551615 else a + b
theorem sat_bnd {a b : Int} (ha : bnd a) (hb : bnd b) : bnd (satI a b) := by unfold satI bnd at *; split <;> omega

def sSat : Spec := fun args h nx K => match args with
  | [.int .u64 a, .int .u64 b] => bnd a ∧ bnd b ∧ K (.ret (.int .u64 (satI a b))) h nx
  | _ => False
theorem sRefAdd_ok : SpecOK Tryd.prog 19 sSat := by
  refine specOK_pure (fn := Tryd.f19) rfl rfl rfl T_ok (SP := []) noSP [] trivial 100 _ ?_
  intro args h nx K hs
  unfold sSat at hs
  split at hs
  · rename_i a b
    obtain ⟨ha, hb, hk⟩ := hs
    refine ⟨trivial, by repeat constructor, by simp [Tryd.f19], fun o => o = .ret (.int .u64 (satI a b)), ?_, ?_⟩
    · rintro o rfl; exact ⟨trivial, hk⟩
    intro c hc
    unfold bnd at ha hb
    refine br_dec (fun e => ?_) (fun e => ?_)
    · refine outI ?_
      simp only [IntKind.wrap_u64] at e
      rw [satI, if_pos (by omega)]
    · refine outI ?_
      simp only [IntKind.wrap_u64] at e ⊢
      rw [satI, if_neg (by omega)]
      omega
  · exact hs.elim

/-- The same ten counts. -/
def sSame : Spec := fun args h nx K => match args with
  | [.agg [.int .u64 t0, .int .u64 t1, .int .u64 t2, .int .u64 t3, .int .u64 t4, .int .u64 t5, .int .u64 t6, .int .u64 t7, .int .u64 t8, .int .u64 t9]] => K (.ret (.agg [.int .u64 t0, .int .u64 t1, .int .u64 t2, .int .u64 t3, .int .u64 t4, .int .u64 t5, .int .u64 t6, .int .u64 t7, .int .u64 t8, .int .u64 t9])) h nx
  | _ => False
theorem sRefCounts_ok : SpecOK Tryd.prog 43 sSame := by
  refine specOK_pure (fn := Tryd.f43) rfl rfl rfl T_ok (SP := []) noSP [] trivial 200 _ ?_
  intro args h nx K hs
  unfold sSame at hs
  split at hs
  · rename_i t0 t1 t2 t3 t4 t5 t6 t7 t8 t9
    refine ⟨trivial, by repeat constructor, by simp [Tryd.f43], fun o => o = .ret (.agg [.int .u64 t0, .int .u64 t1, .int .u64 t2, .int .u64 t3, .int .u64 t4, .int .u64 t5, .int .u64 t6, .int .u64 t7, .int .u64 t8, .int .u64 t9]), ?_, ?_⟩
    · rintro o rfl; exact ⟨by repeat constructor, hs⟩
    intro c hc
    clear hs
    intro b b2 b3
    rfl
  · exact hs.elim
/-- Is a count the greatest? -/
def heldB (t0 t1 t2 t3 t4 t5 t6 t7 t8 t9 : Int) : Bool := decide (t0 = 18446744073709551615) || decide (t1 = 18446744073709551615) || decide (t2 = 18446744073709551615) || decide (t3 = 18446744073709551615) || decide (t4 = 18446744073709551615) || decide (t5 = 18446744073709551615) || decide (t6 = 18446744073709551615) || decide (t7 = 18446744073709551615) || decide (t8 = 18446744073709551615) || decide (t9 = 18446744073709551615)
def SPH : SpT := [(43, sSame)]
theorem sph : ∀ p ∈ SPH, SpecOK Tryd.prog p.1 p.2 := consSP sRefCounts_ok noSP
def sHeld : Spec := fun args h nx K => match args with
  | [.agg [.int .u64 t0, .int .u64 t1, .int .u64 t2, .int .u64 t3, .int .u64 t4, .int .u64 t5, .int .u64 t6, .int .u64 t7, .int .u64 t8, .int .u64 t9]] => K (.ret (.bool (heldB t0 t1 t2 t3 t4 t5 t6 t7 t8 t9))) h nx
  | _ => False

theorem sRefHeld_ok : SpecOK Tryd.prog 20 sHeld := by
  refine specOK_pure (fn := Tryd.f20) rfl rfl rfl T_ok (SP := SPH) sph [] trivial 300 _ ?_
  intro args h nx K hs
  unfold sHeld at hs
  split at hs
  · rename_i t0 t1 t2 t3 t4 t5 t6 t7 t8 t9
    refine ⟨trivial, by repeat constructor, by simp [Tryd.f20], fun o => o = (.ret (.bool (heldB t0 t1 t2 t3 t4 t5 t6 t7 t8 t9))), ?_, ?_⟩
    · rintro o rfl; exact ⟨by repeat constructor, hs⟩
    intro c hc
    clear hs
    intro b b2
    refine W_unroll 11 10 ?_
    repeat' (first
      | (refine (?_ : br _ _ _); first
        | refine br_eqT (by omega) ?_ | refine br_eqF (by omega) ?_ | refine br_eq (fun _ => ?_) (fun _ => ?_)
        | refine br_both (fun _ => ?_) (fun _ => ?_))
      | refine vc_sound (mkE hc T_ok sph) 100 _ _ _ 10 ?_
      | fail)
    all_goals refine outB ?_
    all_goals simp_all [heldB]
  · exact hs.elim


theorem isN_low {r : Nat} (h : r ≤ 4607182418800017408) : isN r = false := by rw [isN_F]; omega
theorem sval_lowr {r : Nat} (h : r ≤ 4607182418800017408) : sval r = rungV r := by
  unfold sval negB magN
  have e1 : r / 9223372036854775808 = 0 := by omega
  have e2 : r % 9223372036854775808 = r := by omega
  rw [e1, e2]
  rfl
theorem cmp_low {r s : Nat} (h : r ≤ s) (hs : s ≤ 4607182418800017408) : cmpV r s ≤ 0 ∧ 0 ≤ cmpV s r := by
  rw [cmpV_val (isN_low (by omega)) (isN_low hs), cmpV_val (isN_low hs) (isN_low (by omega)), sval_lowr hs, sval_lowr (by omega)]
  have : rungV r ≤ rungV s := by
    rcases Nat.lt_or_ge r s with q | q
    · exact Nat.le_of_lt (rungV_lt q)
    · rw [show r = s by omega]; exact Nat.le_refl _
  constructor <;> (repeat' split) <;> omega
theorem one_one : rateV 1 1 = 4607182418800017408 := by decide +kernel
theorem perc_one : percV 4607182418800017408 = 100 := by decide +kernel
theorem rate_nan0 : isN (rateV 0 0).toNat = true := by decide +kernel

/-- The law: a part by a whole that is not less. -/
theorem rate_law {h n : Int} (h0 : 0 ≤ h) (hn : h ≤ n) (hb : n ≤ 18446744073709551615) : isN (rateV h n).toNat = (n == 0) ∧ (n = 0 → percV (rateV h n).toNat = 0) ∧
    (n ≠ 0 → cmpV (rateV h n).toNat (rateV 1 1).toNat ≤ 0 ∧ 0 ≤ cmpV (rateV h n).toNat 0 ∧ (percV (rateV h n).toNat = 100 ∨ h < n)) := by
  by_cases e : n = 0
  · subst e
    obtain rfl : h = 0 := by omega
    refine ⟨rate_nan0, fun _ => ?_, fun q => absurd rfl q⟩
    unfold percV
    rw [rate_nan0, if_pos rfl]
  · have key : ∃ r : Nat, rateV h n = r ∧ r ≤ 4607182418800017408 := by
      unfold rateV
      rw [near_eq h0, near_eq (by omega)]
      by_cases e0 : h = 0
      · subst e0
        exact ⟨0, rate_zero (a := n.toNat) (by omega) (by omega), by omega⟩
      · obtain ⟨r, e1, e2⟩ := rate_one (a := h.toNat) (b := n.toNat) (by omega) (by omega) (by omega)
        exact ⟨r, by rw [e1]; rfl, e2⟩
    obtain ⟨r, e1, e2⟩ := key
    have hne : (n == 0) = false := by simpa using e
    rw [hne, one_one]
    refine ⟨by rw [e1]; exact isN_low e2, fun q => absurd q e, fun _ => ⟨?_, ?_, ?_⟩⟩
    · rw [e1]
      exact (cmp_low e2 (Nat.le_refl _)).1
    · rw [e1]
      exact (cmp_low (Nat.zero_le r) e2).2
    · by_cases q : h < n
      · exact .inr q
      · obtain rfl : h = n := by omega
        left
        have : rateV h h = 4607182418800017408 := by
          unfold rateV
          rw [near_eq h0]
          exact rate_self (a := h.toNat) (by omega) (by omega)
        rw [this]
        exact perc_one

theorem sat_low {a b : Int} (h : satI a b ≠ 18446744073709551615) (hb : a + b ≤ 36893488147419103230) : satI a b = a + b ∧ a + b < 18446744073709551615 := by
  unfold satI at *
  split at h
  · exact absurd rfl h
  · rename_i q
    rw [if_neg q]
    exact ⟨rfl, by omega⟩
def sRateO : Spec := fun args h nx K => match args with
  | [.int .u64 a, .int .u64 b] => ∀ r, r = rateV a b → K (.ret (.int .u64 r)) h nx
  | _ => False
theorem sRateO_ok : SpecOK Tryd.prog 21 sRateO := by
  intro c hc args h nx K hs
  unfold sRateO at hs
  split at hs
  · exact sRefRate_ok c hc _ h nx K (hs _ rfl)
  · exact hs.elim
def SPS : SpT := [(8, sAwake), (19, sSat), (20, sHeld), (9, sOf), (21, sRateO), (22, sIsNaN), (23, sRefCmp)]
theorem sps : ∀ p ∈ SPS, SpecOK Tryd.prog p.1 p.2 := consSP sAwake_ok (consSP sRefAdd_ok (consSP sRefHeld_ok (consSP sOf_ok (consSP sRateO_ok (consSP sIsNaN_ok (consSP sRefCmp_ok noSP))))))
def sSound : Spec := fun args h nx K => match args with
  | [.int .u64 t, .agg [.int .u64 m0, .int .u64 m1, .int .u64 m2]] => bnd t ∧ bnd m0 ∧ bnd m1 ∧ bnd m2 ∧ K (.ret (.bool true)) h nx
  | _ => False
theorem sSound_ok : SpecOK Tryd.prog 5 sSound := by
  refine specOK_pure (fn := Tryd.f5) rfl rfl rfl T_ok (SP := SPS) sps [] trivial 400 _ ?_
  intro args h nx K hs
  unfold sSound at hs
  split at hs
  · rename_i t m0 m1 m2
    obtain ⟨h0, k0, k1, k2, hk⟩ := hs
    refine ⟨trivial, by repeat constructor, by simp [Tryd.f5], fun o => o = .ret (.bool true), ?_, ?_⟩
    · rintro o rfl; exact ⟨trivial, hk⟩
    intro c hc
    clear hk
    intro b0
    refine ⟨rfl, ?_⟩
    intro b1
    have s1 := sat_bnd h0 k0
    have s2 := sat_bnd s1 k1
    have s3 := sat_bnd s2 k2
    refine W_plan (mkE hc T_ok sps) 2 11 (lineP 0 11 (oneP 11 .done)) (by rw [hc]; exact mix) (by kernel_rfl) 300 ?_
    repeat' (first | refine ⟨_, ⟨rfl, rfl⟩, ?_⟩ | refine ⟨_, ⟨h0, k0, rfl, rfl⟩, ?_⟩ | refine ⟨_, ⟨s1, k1, rfl, rfl⟩, ?_⟩ | refine ⟨_, ⟨s2, k2, rfl, rfl⟩, ?_⟩ | fail)
    refine ⟨⟨trivial, ?_⟩, trivial⟩
    obtain ⟨D, hD⟩ : ∃ D, D = satI (satI (satI t m0) m1) m2 := ⟨_, rfl⟩
    rw [← hD] at s3 ⊢
    (refine (?_ : br _ _ _); refine br_both (fun e => ?_) (fun e => ?_))
    · exact outB rfl
    have e : heldB D t m0 m1 m2 0 0 0 0 0 = false := e
    have hDM : D ≠ 18446744073709551615 := by rintro rfl; simp [heldB] at e
    unfold bnd at h0 k0 k1 k2 s1 s2
    have hsum : D = t + m0 + m1 + m2 ∧ D < 18446744073709551615 := by
      rw [hD] at hDM
      obtain ⟨x1, x2⟩ := sat_low hDM (by omega)
      obtain ⟨x3, x4⟩ := sat_low (a := satI t m0) (b := m1) (by omega) (by omega)
      obtain ⟨x5, x6⟩ := sat_low (a := t) (b := m0) (by omega) (by omega)
      omega
    have hsub : subV D m2 = D - m2 := by unfold subV; rw [if_neg (by omega)]
    obtain ⟨l1, l2, l3⟩ := rate_law (h := t) (n := D - m2) (by omega) (by omega) (by omega)
    obtain ⟨a0, r0⟩ : ∃ a, a = rateV t (D - m2) := ⟨_, rfl⟩
    obtain ⟨a1, r1⟩ : ∃ a, a = rateV 0 0 := ⟨_, rfl⟩
    obtain ⟨a2, r2⟩ : ∃ a, a = rateV m0 (D - m2) := ⟨_, rfl⟩
    obtain ⟨q3, p3⟩ : ∃ a, a = percV a0.toNat := ⟨_, rfl⟩
    obtain ⟨q4, p4⟩ : ∃ a, a = percV a1.toNat := ⟨_, rfl⟩
    have eL : ofL D t m0 m2 0 0 0 = [.int .u64 a0, .int .u64 a1, .int .u64 a2, .int .i64 q3, .int .i64 q4, .int .i64 q4] := by
      rw [p3, p4, r0, r1, r2, ← hsub]; rfl
    rw [← r0] at l1 l2 l3
    rw [← p3] at l2 l3
    have y0 : bnd a0 := by rw [r0]; exact rate_bnd _ _
    have y3 := perc_mem a0.toNat
    rw [← p3] at y3
    clear r0 r1 r2 p3 p4
    refine ⟨s3, k2, ?_⟩
    rw [eL]
    intro b2 u hu
    have yu : bnd u := by rw [hu]; exact rate_bnd _ _
    rw [← hu] at l3
    refine ⟨y0, ?_⟩
    have hb : (D - m2 == 0) = (D == m2) := by
      by_cases q : D = m2
      · subst q; simp
      · have h1 : (D == m2) = false := by simpa using q
        have h2 : (D - m2 == 0) = false := by simp; omega
        rw [h1, h2]
    rw [hb] at l1
    (refine (?_ : br _ _ _); refine br_f (by rw [l1]; simp) ?_)
    (refine (?_ : br _ _ _); refine br_decF (by omega) ?_)
    (refine (?_ : br _ _ _); refine br_decF (by omega) ?_)
    (refine (?_ : br _ _ _); refine br_eq (fun e => ?_) (fun e => ?_))
    · have e : D = m2 := e
      have hq := l2 (by omega)
      (refine (?_ : br _ _ _); refine br_neF hq ?_)
      (refine (?_ : br _ _ _); refine br_eqT e ?_)
      exact outB rfl
    · have e : D ≠ m2 := e
      obtain ⟨c1, c2, c3⟩ := l3 (by omega)
      (refine (?_ : br _ _ _); refine br_eqF e ?_)
      refine ⟨y0, yu, ?_⟩
      (refine (?_ : br _ _ _); refine br_decT c1 ?_)
      refine ⟨y0, bd 0, ?_⟩
      (refine (?_ : br _ _ _); refine br_decT c2 ?_)
      (refine (?_ : br _ _ _); refine br_eq (fun q => ?_) (fun q => ?_))
      · exact outB rfl
      · have q : q3 ≠ 100 := q
        have hlt : t < IntKind.u64.wrap (D - m2) := by rw [IntKind.wrap_u64]; omega
        exact outB (decide_eq_true hlt)
  · exact hs.elim
end Go.Proofs.YtmohokeeglnliaaDoor.Sx
