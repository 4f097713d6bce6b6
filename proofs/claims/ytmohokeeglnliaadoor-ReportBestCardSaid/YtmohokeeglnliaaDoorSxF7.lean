import Derived.Test.YtmohokeeglnliaaDoorSxF5
/-
  Plain laws: the order of gauges by ranks; the greatest.
-/
namespace Go.Proofs.YtmohokeeglnliaaDoor.Sx
open Go Go.Proofs

def rk (a : Nat) : Int := if isN a then -(rungV 9218868437227405312 : Int) - 1 else sval a
theorem sval_low {a : Nat} (h : isN a = false) : -(rungV 9218868437227405312 : Int) ≤ sval a := by
  rw [isN_F] at h
  have h : magN a ≤ 9218868437227405312 := h
  have : rungV (magN a) ≤ rungV 9218868437227405312 := by
    rcases Nat.lt_or_ge (magN a) 9218868437227405312 with q | q
    · exact Nat.le_of_lt (rungV_lt q)
    · have : magN a = 9218868437227405312 := Nat.le_antisymm h q
      rw [this]; exact Nat.le_refl _
  unfold sval
  generalize rungV 9218868437227405312 = I at *
  rcases sg_cases (negB a) (rungV (magN a)) with ⟨_, e⟩ | ⟨_, e⟩ <;> rw [e] <;> omega
theorem cmp_rk (a b : Nat) : cmpV a b = if rk a < rk b then -1 else if rk b < rk a then 1 else 0 := by
  unfold rk
  cases ha : isN a with
  | true =>
    cases hb : isN b with
    | true => simp [cmpV, ha, hb]
    | false =>
      have := sval_low hb
      have e : cmpV a b = -1 := by simp [cmpV, ha, hb]
      rw [e]
      generalize rungV 9218868437227405312 = I at *
      simp only [if_true, Bool.false_eq_true, if_false]
      rw [if_pos (by omega)]
  | false =>
    have h1 := sval_low ha
    cases hb : isN b with
    | true =>
      have e : cmpV a b = 1 := by simp [cmpV, ha, hb]
      rw [e]
      generalize rungV 9218868437227405312 = I at *
      simp only [if_true, Bool.false_eq_true, if_false]
      rw [if_neg (by omega), if_pos (by omega)]
    | false =>
      rw [cmpV_val ha hb]
      simp

theorem bestN_top (f : Nat → Int) : ∀ n, (∀ k, k < n → rk (f k).toNat ≤ rk (f (bestN f n)).toNat) ∧ (∀ k, k < bestN f n → rk (f k).toNat < rk (f (bestN f n)).toNat)
  | 0 => ⟨fun k hk => by omega, fun k hk => by simp [bestN] at hk⟩
  | n + 1 => by
    obtain ⟨h1, h2⟩ := bestN_top f n
    have hb := bestN_le f n
    rw [bestN, cmp_rk]
    by_cases q : rk (f (bestN f n)).toNat < rk (f n).toNat
    · have e : (0 : Int) < (if rk (f n).toNat < rk (f (bestN f n)).toNat then -1 else if rk (f (bestN f n)).toNat < rk (f n).toNat then 1 else 0) := by
        rw [if_neg (by omega), if_pos q]; decide
      rw [if_pos e]
      refine ⟨fun k hk => ?_, fun k hk => ?_⟩
      · rcases Nat.lt_or_ge k n with z | z
        · have := h1 k z; omega
        · have : k = n := by omega
          subst this; exact Int.le_refl _
      · have := h1 k hk; omega
    · have e : ¬ (0 : Int) < (if rk (f n).toNat < rk (f (bestN f n)).toNat then -1 else if rk (f (bestN f n)).toNat < rk (f n).toNat then 1 else 0) := by
        by_cases z : rk (f n).toNat < rk (f (bestN f n)).toNat
        · rw [if_pos z]; decide
        · rw [if_neg z, if_neg q]; decide
      rw [if_neg e]
      refine ⟨fun k hk => ?_, h2⟩
      rcases Nat.lt_or_ge k n with z | z
      · exact h1 k z
      · have : k = n := by omega
        subst this; omega

/-- May i be the greatest's place, for all that k tells? -/
def okB (f : Nat → Int) (i k : Nat) : Bool := decide (0 < cmpV (f i).toNat (f k).toNat) || (decide (cmpV (f i).toNat (f k).toNat = 0) && decide (i ≤ k))
def mB (f : Nat → Int) (i : Nat) : Nat → Bool
  | 0 => true
  | k + 1 => mB f i k && okB f i k
theorem mB_iff (f : Nat → Int) (i : Nat) : ∀ n, mB f i n = true ↔ ∀ k, k < n → okB f i k = true
  | 0 => by simp [mB]
  | n + 1 => by
    rw [mB, Bool.and_eq_true, mB_iff f i n]
    refine ⟨fun ⟨h1, h2⟩ k hk => ?_, fun h => ⟨fun k hk => h k (by omega), h n (by omega)⟩⟩
    rcases Nat.lt_or_ge k n with z | z
    · exact h1 k z
    · have : k = n := by omega
      subst this; exact h2
theorem mB_best {f : Nat → Int} {n i : Nat} (hi : i < n) : mB f i n = true ↔ i = bestN f n := by
  obtain ⟨h1, h2⟩ := bestN_top f n
  have hb := bestN_le f n
  rw [mB_iff]
  refine ⟨fun h => ?_, fun h k hk => ?_⟩
  · have h3 := h (bestN f n) (by omega)
    have h4 := h1 i hi
    unfold okB at h3
    rw [cmp_rk] at h3
    rcases Nat.lt_trichotomy i (bestN f n) with q | q | q
    · exfalso
      have h5 := h2 i q
      rw [if_pos h5] at h3
      simp at h3
    · exact q
    · exfalso
      have e1 : ¬ rk (f (bestN f n)).toNat < rk (f i).toNat := by omega
      by_cases z : rk (f i).toNat < rk (f (bestN f n)).toNat
      · rw [if_pos z] at h3; simp at h3
      · rw [if_neg z, if_neg e1] at h3; simp at h3; omega
  · subst h
    have h4 := h1 k hk
    unfold okB
    rw [cmp_rk, if_neg (by omega)]
    by_cases z : rk (f k).toNat < rk (f (bestN f n)).toNat
    · rw [if_pos z]; rfl
    · rw [if_neg z]
      have : bestN f n ≤ k := by
        rcases Nat.lt_or_ge k (bestN f n) with q | q
        · exact absurd (h2 k q) z
        · exact q
      simp [this]
end Go.Proofs.YtmohokeeglnliaaDoor.Sx
