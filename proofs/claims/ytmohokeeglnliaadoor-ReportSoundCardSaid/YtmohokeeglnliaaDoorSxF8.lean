import Derived.Test.YtmohokeeglnliaaDoorSxF6
/-
  Plain laws of floats: what is nearest lies on the right side of every float.
-/
namespace Go.Proofs.YtmohokeeglnliaaDoor.Sx
open Go Go.Proofs

theorem rungV_at {l K : Nat} (h : K ≤ 9007199254740992) (h2 : l = 0 ∨ 4503599627370496 ≤ K) : rungV (l * 4503599627370496 + K) = K * 2 ^ l := by
  unfold rungV
  rcases Nat.lt_or_ge K 4503599627370496 with h3 | h3
  · obtain rfl : l = 0 := by omega
    rw [if_pos (by omega)]; simp
  · rw [if_neg (by omega)]
    rcases Nat.lt_or_ge K 9007199254740992 with h4 | h4
    · have e1 : (l * 4503599627370496 + K) % 4503599627370496 = K - 4503599627370496 := by omega
      have e2 : (l * 4503599627370496 + K) / 4503599627370496 - 1 = l := by omega
      have e3 : 4503599627370496 + (K - 4503599627370496) = K := by omega
      rw [e1, e2, e3]
    · obtain rfl : K = 9007199254740992 := by omega
      have e1 : (l * 4503599627370496 + 9007199254740992) % 4503599627370496 = 0 := by omega
      have e2 : (l * 4503599627370496 + 9007199254740992) / 4503599627370496 - 1 = l + 1 := by omega
      rw [e1, e2, Nat.pow_succ, Nat.add_zero, Nat.mul_comm (2 ^ l) 2, ← Nat.mul_assoc]

/-- Rounded, a quotient is on the right side of every whole number. -/
theorem cut_side (n d : Nat) (h : d ≤ n.log2 + 2) : (∀ t, n ≤ t * 2 ^ d → Ieee.Toward.even.cut false n d ≤ t) ∧ (∀ t, t * 2 ^ d ≤ n → t ≤ Ieee.Toward.even.cut false n d) := by
  rw [cut_even n d h]
  have hp : 0 < 2 ^ d := Nat.two_pow_pos d
  generalize 2 ^ d = g at *
  have hdm := Nat.div_add_mod n g
  have hr := Nat.mod_lt n hp
  refine ⟨fun t ht => ?_, fun t ht => ?_⟩
  · by_cases hz : n % g = 0
    · have e : (decide (g < 2 * (n % g)) || (g == 2 * (n % g) && n / g % 2 == 1)) = false := by
        rw [hz]; simp; omega
      rw [e]
      have : n / g ≤ t := by
        rw [hz, Nat.add_zero] at hdm
        rw [← hdm, Nat.mul_comm t g] at ht
        exact Nat.le_of_mul_le_mul_left ht hp
      simpa using this
    · have h1 : n / g < t := by
        rw [Nat.div_lt_iff_lt_mul hp]
        rcases Nat.lt_or_ge n (t * g) with q | q
        · exact q
        · exfalso
          have : n = t * g := by omega
          rw [this, Nat.mul_mod_left] at hz
          exact hz rfl
      have g3 : ∀ b : Bool, b.toNat ≤ 1 := fun b => by cases b <;> decide
      have := g3 (decide (g < 2 * (n % g)) || (g == 2 * (n % g) && n / g % 2 == 1))
      omega
  · have : t ≤ n / g := (Nat.le_div_iff_mul_le hp).2 ht
    omega

/-- The nearest rung of a number of least units, and on which side it is. -/
theorem near_side (s : Bool) {m q : Nat} (hm : m ≠ 0) : ∃ r : Nat, Ieee.double.nearest s m (-1074 + q) = Ieee.double.word s r ∧ r ≤ 9218868437227405312 ∧
    (∀ R, m * 2 ^ q ≤ rungV R → r ≤ R) ∧ (∀ R, R ≤ 9218868437227405312 → rungV R ≤ m * 2 ^ q → R ≤ r) := by
  have h1 := Nat.log2_self_le hm
  have h2 : m < 2 ^ (m.log2 + 1) := Nat.lt_log2_self
  -- the digits kept
  have key : ∃ K l : Nat, Ieee.double.nearest s m (-1074 + q) = Ieee.double.word s (min (l * 4503599627370496 + K) 9218868437227405312) ∧ (∀ t, m * 2 ^ q ≤ t * 2 ^ l → K ≤ t) ∧ (∀ t, t * 2 ^ l ≤ m * 2 ^ q → t ≤ K) ∧
      l = m.log2 + q - 52 := by
    refine ⟨Ieee.Toward.even.cut false (m <<< (q - (m.log2 + q - 52))) ((m.log2 + q - 52) - q), m.log2 + q - 52, ?_, ?_, ?_, rfl⟩
    · unfold Ieee.Format.nearest
      rw [if_neg hm]
      have e1 : max ((-1074 + (q : Int)) + (m.log2 : Nat) - (Ieee.double.fractionBits : Nat)) Ieee.double.leastPlace = -1074 + ((m.log2 + q - 52 : Nat) : Int) := by
        rw [dl]
        show max ((-1074 + (q : Int)) + (m.log2 : Nat) - 52) _ = _
        omega
      simp only [e1]
      have e2 : ((-1074 + (q : Int)) - (-1074 + ((m.log2 + q - 52 : Nat) : Int))).toNat = q - (m.log2 + q - 52) := by omega
      have e3 : ((-1074 + ((m.log2 + q - 52 : Nat) : Int)) - (-1074 + (q : Int))).toNat = (m.log2 + q - 52) - q := by omega
      have e4 : ((-1074 + ((m.log2 + q - 52 : Nat) : Int)) - Ieee.double.leastPlace).toNat = m.log2 + q - 52 := by rw [dl]; omega
      rw [e2, e3, e4, db, di]
      rfl
    · intro t ht
      by_cases hl : m.log2 + q - 52 ≤ q
      · have e : (m.log2 + q - 52) - q = 0 := by omega
        rw [e]
        refine (cut_side _ 0 (by omega)).1 t ?_
        rw [Nat.shiftLeft_eq, Nat.pow_zero, Nat.mul_one]
        have e2 : 2 ^ q = 2 ^ (q - (m.log2 + q - 52)) * 2 ^ (m.log2 + q - 52) := by rw [← Nat.pow_add]; congr 1; omega
        rw [e2, ← Nat.mul_assoc] at ht
        exact Nat.le_of_mul_le_mul_right ht (Nat.two_pow_pos _)
      · have e : q - (m.log2 + q - 52) = 0 := by omega
        rw [e, Nat.shiftLeft_zero]
        refine (cut_side _ _ (by omega)).1 t ?_
        have e2 : 2 ^ (m.log2 + q - 52) = 2 ^ (m.log2 + q - 52 - q) * 2 ^ q := by rw [← Nat.pow_add]; congr 1; omega
        rw [e2, ← Nat.mul_assoc] at ht
        exact Nat.le_of_mul_le_mul_right ht (Nat.two_pow_pos _)
    · intro t ht
      by_cases hl : m.log2 + q - 52 ≤ q
      · have e : (m.log2 + q - 52) - q = 0 := by omega
        rw [e]
        refine (cut_side _ 0 (by omega)).2 t ?_
        rw [Nat.shiftLeft_eq, Nat.pow_zero, Nat.mul_one]
        have e2 : 2 ^ q = 2 ^ (q - (m.log2 + q - 52)) * 2 ^ (m.log2 + q - 52) := by rw [← Nat.pow_add]; congr 1; omega
        rw [e2, ← Nat.mul_assoc] at ht
        exact Nat.le_of_mul_le_mul_right ht (Nat.two_pow_pos _)
      · have e : q - (m.log2 + q - 52) = 0 := by omega
        rw [e, Nat.shiftLeft_zero]
        refine (cut_side _ _ (by omega)).2 t ?_
        have e2 : 2 ^ (m.log2 + q - 52) = 2 ^ (m.log2 + q - 52 - q) * 2 ^ q := by rw [← Nat.pow_add]; congr 1; omega
        rw [e2, ← Nat.mul_assoc] at ht
        exact Nat.le_of_mul_le_mul_right ht (Nat.two_pow_pos _)
  obtain ⟨K, l, e, ka, kb, hl⟩ := key
  have v1 : 2 ^ (m.log2 + q) ≤ m * 2 ^ q := by rw [Nat.pow_add]; exact Nat.mul_le_mul_right _ h1
  have v2 : m * 2 ^ q < 2 ^ (m.log2 + q + 1) := by
    have : 2 ^ (m.log2 + q + 1) = 2 ^ (m.log2 + 1) * 2 ^ q := by rw [← Nat.pow_add]; congr 1; omega
    rw [this]
    exact Nat.mul_lt_mul_of_pos_right h2 (Nat.two_pow_pos _)
  generalize m * 2 ^ q = v at *
  have p52 : (2 : Nat) ^ 52 = 4503599627370496 := by decide
  have p53 : (2 : Nat) ^ 53 = 9007199254740992 := by decide
  have v3 : v < 9007199254740992 * 2 ^ l := by
    refine Nat.lt_of_lt_of_le v2 ?_
    rw [← p53, ← Nat.pow_add]
    exact Nat.pow_le_pow_right (by decide) (by omega)
  have v4 : l = 0 ∨ 4503599627370496 * 2 ^ l ≤ v := by
    rcases Nat.eq_zero_or_pos l with h | h
    · exact .inl h
    · right
      refine Nat.le_trans ?_ v1
      rw [← p52, ← Nat.pow_add]
      exact Nat.pow_le_pow_right (by decide) (by omega)
  have k1 : K ≤ 9007199254740992 := ka _ (Nat.le_of_lt v3)
  have k2 : l = 0 ∨ 4503599627370496 ≤ K := v4.imp id (kb _)
  have hr := rungV_at k1 k2
  refine ⟨_, e, Nat.min_le_right .., fun R hR => ?_, fun R hi hR => ?_⟩
  · refine Nat.le_trans (Nat.min_le_left ..) ?_
    rcases Nat.lt_or_ge R (l * 4503599627370496 + K) with q | q
    · exfalso
      rcases k2 with h0 | h0
      · subst h0
        have kv : K = v := Nat.le_antisymm (ka v (by simp)) (kb v (by simp))
        have := rungV_lt q
        rw [hr, kv] at this
        simp at this
        omega
      · rcases Nat.lt_or_ge R (l * 4503599627370496 + 4503599627370496) with q2 | q2
        · rcases v4 with h00 | h00
          · subst h00
            have kv : K = v := Nat.le_antisymm (ka v (by simp)) (kb v (by simp))
            have := rungV_lt q
            rw [hr, kv] at this
            simp at this
            omega
          · have := rungV_lt q2
            rw [rungV_at (by omega) (.inr (Nat.le_refl _))] at this
            omega
        · obtain ⟨t, rfl⟩ : ∃ t, R = l * 4503599627370496 + t := ⟨R - l * 4503599627370496, by omega⟩
          rw [rungV_at (by omega) (.inr (by omega))] at hR
          have := ka t hR
          omega
    · exact q
  · refine (Nat.le_min).2 ⟨?_, hi⟩
    rcases Nat.lt_or_ge (l * 4503599627370496 + K) R with q | q
    · exfalso
      rcases Nat.lt_or_ge K 9007199254740992 with k3 | k3
      · have h5 : rungV (l * 4503599627370496 + (K + 1)) ≤ rungV R := by
          rcases Nat.lt_or_ge (l * 4503599627370496 + (K + 1)) R with q3 | q3
          · exact Nat.le_of_lt (rungV_lt q3)
          · have : R = l * 4503599627370496 + (K + 1) := by omega
            rw [this]; exact Nat.le_refl _
        rw [rungV_at (by omega) (k2.imp id (fun h => by omega))] at h5
        have := kb (K + 1) (Nat.le_trans h5 hR)
        omega
      · have k4 : K = 9007199254740992 := by omega
        have := rungV_lt q
        rw [hr, k4] at this
        omega
    · exact q
end Go.Proofs.YtmohokeeglnliaaDoor.Sx
