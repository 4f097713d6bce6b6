import Derived.Test.YtmohokeeglnliaaDoorSxW8
/-
  The walks of this seat's functions, ninth part: the document's mean and percent; the law GaugeMeans.
-/
namespace Go.Proofs.YtmohokeeglnliaaDoor.Sx
open Go Go.Proofs
set_option maxRecDepth 100000
set_option linter.unusedSimpArgs false
set_option linter.unusedVariables false

theorem mean_plain {a b x y r : Nat} (hx : FRes .quo a 4611686018427387904 x) (hy : FRes .quo b 4611686018427387904 y) (hr : FRes .add x y r) : (if isN r then (9221120237041090561 : Int) else (r : Int)) = meanV a b := by
  unfold meanV
  cases ea : isN a with
  | true =>
    have h1 := half_nan ea hx
    rw [FRes_canon (by simp) hr, add_nan (.inl h1)]
    rfl
  | false =>
    cases eb : isN b with
    | true =>
      have h1 := half_nan eb hy
      rw [FRes_canon (by simp) hr, add_nan (.inr h1)]
      rfl
    | false =>
      obtain rfl := half_of ea hx
      obtain rfl := half_of eb hy
      exact FRes_canon (by simp) hr

def sRefMean : Spec := fun args h nx K => match args with
  | [.int .u64 a, .int .u64 b] => K (.ret (.int .u64 (meanV a.toNat b.toNat))) h nx
  | _ => False
theorem sRefMean_ok : SpecOK Tryd.prog 40 sRefMean := by
  refine specOK_pure (fn := Tryd.f40) rfl rfl rfl T_ok (SP := [(50, sFrom), (44, sPlain)]) (consSP sFrom_ok (consSP sPlain_ok noSP)) [] trivial 300 _ ?_
  intro args h nx K hs
  unfold sRefMean at hs
  split at hs
  · rename_i a b
    refine ⟨trivial, by repeat constructor, by simp [Tryd.f40], fun o => o = .ret (.int .u64 (meanV a.toNat b.toNat)), ?_, ?_⟩
    · rintro o rfl; exact ⟨trivial, hs⟩
    intro c hc
    intro x hx
    intro y hy
    intro r hr
    refine ⟨FRes_lt hr, ?_⟩
    exact outI (mean_plain hx hy hr)
  · exact hs.elim

/-! ### Percents -/
theorem cent_sign {a : Nat} (h : isN a = false) : (negB a = true → sval (cent a) ≤ 0) ∧ (negB a = false → 0 ≤ sval (cent a)) := by
  have hs := cent_some h
  unfold floatBits FloatKind.format Ieee.Format.mul at hs
  simp only at hs
  rw [read_hundred] at hs
  have wd : ∀ (s : Bool) (r : Nat), r ≤ 9218868437227405312 → (s = true → sval (Ieee.double.word s r) ≤ 0) ∧ (s = false → 0 ≤ sval (Ieee.double.word s r)) := by
    intro s r hr
    unfold Ieee.Format.word sval sg negB
    rw [dw]
    cases s
    · simp only [Bool.false_eq_true, if_false, false_implies, true_and, forall_const]
      rw [Nat.div_eq_of_lt (by omega)]
      simp
    · simp only [if_true]
      have : (9223372036854775808 + r) / 9223372036854775808 = 1 := by omega
      rw [this]
      simp
  have nr : ∀ (s : Bool) (m : Nat) (i : Int), ∃ r, Ieee.double.nearest s m i = Ieee.double.word s r ∧ r ≤ 9218868437227405312 := by
    intro s m i
    unfold Ieee.Format.nearest
    split
    · exact ⟨0, rfl, by omega⟩
    · exact ⟨_, rfl, by rw [di]; exact Nat.min_le_right ..⟩
  rcases Nat.lt_or_ge (magN a) 9218868437227405312 with q | q
  · obtain ⟨m, p, e1, _, _⟩ := read_fin q
    rw [e1] at hs
    simp only [Ieee.Datum.product, Option.map_some, Option.some.injEq, Bool.xor_false, Ieee.Format.write] at hs
    rw [← hs]
    obtain ⟨r, e, hr⟩ := nr (negB a) (m * 7036874417766400) (-1074 + (p : Int) + -46)
    rw [e]
    exact wd _ _ hr
  · rw [isN_F] at h
    have q : magN a = 9218868437227405312 := Nat.le_antisymm h q
    rw [read_inf q] at hs
    simp [Ieee.Datum.product, Ieee.Format.write] at hs
    rw [← hs]
    exact wd _ _ (by rw [di]; omega)

theorem perc_neg {g : Int} (hg : bnd g) (h : isN g.toNat = false) (h2 : 9223372036854775808 ≤ g) : percV g.toNat = 0 := by
  rw [percV_val h, if_pos]
  refine (cent_sign h).1 ?_
  obtain ⟨n, rfl⟩ := Int.eq_ofNat_of_zero_le hg.1
  have h2 : 9223372036854775808 ≤ n := by omega
  have h3 : n < 18446744073709551616 := by have := hg.2; omega
  show (n / 9223372036854775808 % 2 == 1) = true
  have : n / 9223372036854775808 = 1 := by omega
  rw [this]; rfl
theorem perc_pos {g : Int} (hg : bnd g) (h : isN g.toNat = false) (h2 : ¬ 9223372036854775808 ≤ g) : 0 ≤ sval (cent g.toNat) := by
  refine (cent_sign h).2 ?_
  obtain ⟨n, rfl⟩ := Int.eq_ofNat_of_zero_le hg.1
  have h3 : n < 9223372036854775808 := by omega
  show (n / 9223372036854775808 % 2 == 1) = false
  rw [Nat.div_eq_of_lt h3]; rfl
/-- Not below so many. -/
theorem whole_le {k x : Nat} (hk : k ≤ 100) (hx : isN x = false) : (fOrd (FloatKind.nearest .f64 (k : Int)) x == some .lt || fOrd (FloatKind.nearest .f64 (k : Int)) x == some .eq) = decide ((k : Int) * U ≤ sval x) := by
  obtain ⟨w1, w2⟩ := whole hk
  rw [ord_val w1 hx, w2]
  rcases Int.lt_trichotomy ((k : Int) * U) (sval x) with q | q | q
  · rw [cmpI_lt q, decide_eq_true (by omega)]; rfl
  · rw [q, cmpI_self, decide_eq_true (by omega)]; rfl
  · rw [cmpI_gt q, decide_eq_false (by omega)]; rfl
theorem perc_end {g n : Nat} (h : isN g = false) (hp : 0 ≤ sval (cent g)) (h1 : (n : Int) * U ≤ sval (cent g)) (hn : n ≤ 100) (h2 : n = 100 ∨ ¬ ((n + 1 : Nat) : Int) * U ≤ sval (cent g)) : (n : Int) = percV g := by
  rw [percV_val h]
  generalize sval (cent g) = x at *
  have hU : (0 : Int) < U := by exact_mod_cast U_pos
  by_cases z : x ≤ 0
  · rw [if_pos z]
    have hx : x = 0 := by omega
    subst hx
    rcases Nat.eq_zero_or_pos n with q | q
    · rw [q]; rfl
    · have : (0 : Int) < (n : Int) * U := Int.mul_pos (by omega) hU
      omega
  · rw [if_neg z]
    by_cases c : 100 * (U : Int) ≤ x
    · rw [if_pos c]
      by_cases q1 : n = 100
      · rw [q1]; rfl
      · exfalso
        rcases h2 with q | q
        · exact q1 q
        · have : ((n + 1 : Nat) : Int) * U ≤ 100 * U := Int.mul_le_mul_of_nonneg_right (by omega) (by omega)
          omega
    · rw [if_neg c]
      rcases h2 with q | q
      · subst q
        exact absurd h1 c
      · have e1 : (n : Int) ≤ x / U := (Int.le_ediv_iff_mul_le hU).2 h1
        have e2 : x / U < ((n + 1 : Nat) : Int) := (Int.ediv_lt_iff_lt_mul hU).2 (by omega)
        omega

def sRefPerc : Spec := fun args h nx K => match args with
  | [.int .u64 g] => bnd g ∧ K (.ret (.int .i64 (percV g.toNat))) h nx
  | _ => False
theorem sRefPerc_ok : SpecOK Tryd.prog 28 sRefPerc := by
  refine specOK_pure (fn := Tryd.f28) rfl rfl rfl T_ok (SP := [(22, sIsNaN), (50, sFrom)]) (consSP sIsNaN_ok (consSP sFrom_ok noSP)) [] trivial 300 _ ?_
  intro args h nx K hs
  unfold sRefPerc at hs
  split at hs
  · rename_i g
    obtain ⟨hg, hk⟩ := hs
    refine ⟨trivial, by repeat constructor, by simp [Tryd.f28], fun o => o = .ret (.int .i64 (percV g.toNat)), ?_, ?_⟩
    · rintro o rfl; exact ⟨trivial, hk⟩
    intro c hc
    clear hk
    refine ⟨hg, ?_⟩
    refine br_both (fun e => ?_) (fun e => ?_)
    · have e : isN g.toNat = true := e
      exact outI (by simp [percV, e])
    · have e : isN g.toNat = false := e
      refine br_dec (fun e2 => ?_) (fun e2 => ?_)
      · exact outI (perc_neg hg e e2).symm
      · have hp := perc_pos hg e e2
        intro x hx
        obtain rfl := cent_of e hx
        have hci := cent_isN e
        refine W_loop (fun r σ h => ∃ n : Nat, r = 100 - n ∧ n ≤ 100 ∧ (n : Int) * U ≤ sval (cent g.toNat) ∧ σ = [(0, .int .u64 g), (3, .flt .f64 (cent g.toNat)), (4, .int .i64 n)] ∧ h = []) 100 ⟨0, rfl, by omega, by simpa using hp, rfl, rfl⟩ (tau []) ⟨rfl, ?_, ?_⟩ 30 ?_
        · repeat' (first | exact rfl | exact trivial | refine ⟨?_, ?_⟩)
        · trivial
        rintro r σ h1 ⟨n, rfl, hn, hle, rfl, rfl⟩
        refine vc_sound (mkE hc T_ok (consSP sIsNaN_ok (consSP sFrom_ok noSP))) 200 _ _ _ 30 ?_
        have hw : IntKind.i64.wrap ((n : Int) + 1) = ((n + 1 : Nat) : Int) := by simp [IntKind.wrap_i64]; omega
        refine br_dec (fun hlt => ?_) (fun hlt => ?_)
        · have hlt : (n : Int) < 100 := hlt
          have hq : (fOrd (FloatKind.nearest .f64 (IntKind.i64.wrap ((n : Int) + 1))) (cent g.toNat) == some .lt || fOrd (FloatKind.nearest .f64 (IntKind.i64.wrap ((n : Int) + 1))) (cent g.toNat) == some .eq) = decide (((n + 1 : Nat) : Int) * U ≤ sval (cent g.toNat)) := by
            rw [hw]; exact whole_le (by omega) hci
          by_cases hc2 : ((n + 1 : Nat) : Int) * U ≤ sval (cent g.toNat)
          · refine br_t (hq.trans (decide_eq_true hc2)) ?_
            refine ⟨100 - (n + 1), _, _, by omega, ⟨n + 1, rfl, by omega, hc2, rfl, rfl⟩, tau [], rfl, ?_, ?_⟩
            · repeat' (first | exact rfl | exact trivial | exact hw | refine ⟨?_, ?_⟩)
            · trivial
          · refine br_f (hq.trans (decide_eq_false hc2)) ?_
            exact outI (perc_end e hp hle hn (.inr hc2))
        · have hlt : ¬ (n : Int) < 100 := hlt
          exact outI (perc_end e hp hle hn (.inl (by omega)))
  · exact hs.elim

/-! ### GaugeMeans -/
theorem canon_bnd {op : BinOp} {a b : Nat} : bnd (canon (floatBits op .f64 a b)) := by
  cases e : floatBits op .f64 a b with
  | none => exact ⟨by decide, by decide⟩
  | some r =>
    have h2 := FRes_lt (.inl e)
    exact ⟨by simp only [canon]; omega, by simp only [canon]; omega⟩
theorem mean_bnd (a b : Nat) : bnd (meanV a b) := by
  unfold meanV
  split
  · exact ⟨by decide, by decide⟩
  · exact canon_bnd
theorem mean_nan {a b : Nat} (h : isN (meanV a b).toNat = true) : meanV a b = 9221120237041090561 := by
  unfold meanV at *
  split
  · rfl
  · rename_i q
    rw [if_neg q] at h
    cases e : floatBits .add .f64 (half a) (half b) with
    | none => rfl
    | some r =>
      rw [e] at h
      have h : isN r = true := h
      rw [bits_isN (by simp) e] at h
      cases h
theorem sum_comm (x y : Ieee.Datum) : x.sum y = y.sum x := by
  cases x <;> cases y <;> simp only [Ieee.Datum.sum]
  · rename_i s m i t n j
    rw [Int.min_comm j i, Int.add_comm (Ieee.signed t n _), Bool.and_comm t s]
  · rename_i s t
    by_cases q : s = t
    · subst q; rfl
    · rw [if_neg q, if_neg (Ne.symm q)]
theorem mean_comm (a b : Nat) : meanV a b = meanV b a := by
  unfold meanV
  rw [Bool.or_comm]
  congr 2
  unfold floatBits FloatKind.format Ieee.Format.add
  simp only
  rw [sum_comm]

end Go.Proofs.YtmohokeeglnliaaDoor.Sx
