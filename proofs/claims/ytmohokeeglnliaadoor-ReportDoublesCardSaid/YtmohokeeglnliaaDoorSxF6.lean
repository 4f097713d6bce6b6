import Derived.Test.YtmohokeeglnliaaDoorSxF4
/-
  Plain laws of floats: whole numbers as floats, and rates.
-/
namespace Go.Proofs.YtmohokeeglnliaaDoor.Sx
open Go Go.Proofs

/-- A whole number's nearest float. -/
def near (a : Nat) : Nat := Ieee.double.nearest false a 0
theorem near_eq {n : Int} (h : 0 ≤ n) : FloatKind.nearest .f64 n = near n.toNat := by
  obtain ⟨k, rfl⟩ := Int.eq_ofNat_of_zero_le h
  show Ieee.double.nearest (decide ((k : Int) < 0)) (k : Int).natAbs 0 = Ieee.double.nearest false k 0
  rw [decide_eq_false (by omega)]
  rfl
theorem near_zero : near 0 = 0 := by decide

/-- The digits kept. -/
def kept (a : Nat) : Nat := Ieee.Toward.even.cut false (a <<< (52 - a.log2)) (a.log2 - 52)

theorem cut_even (n d : Nat) (h : d ≤ n.log2 + 2) : Ieee.Toward.even.cut false n d = n / 2 ^ d + (decide (2 ^ d < 2 * (n % 2 ^ d)) || (2 ^ d == 2 * (n % 2 ^ d) && n / 2 ^ d % 2 == 1)).toNat := by
  unfold Ieee.Toward.cut
  simp only [Nat.min_eq_left h, Nat.shiftLeft_eq, Nat.one_mul]

theorem log2_two {a : Nat} (h : a ≠ 0) : (2 * a).log2 = a.log2 + 1 := by
  have h1 := Nat.log2_self_le h
  have h2 : a < 2 ^ (a.log2 + 1) := Nat.lt_log2_self
  rw [Nat.log2_eq_iff (by omega)]
  rw [Nat.pow_succ] at *
  have h3 : 2 ^ (a.log2 + 1 + 1) = 2 ^ (a.log2 + 1) * 2 := Nat.pow_succ ..
  rw [Nat.pow_succ] at h3
  omega

theorem near_kept {a : Nat} (h : a ≠ 0) (h64 : a.log2 ≤ 63) : near a = (a.log2 + 1022) * 4503599627370496 + kept a ∧ 4503599627370496 ≤ kept a ∧ kept a ≤ 9007199254740992 := by
  have h1 := Nat.log2_self_le h
  have h2 : a < 2 ^ (a.log2 + 1) := Nat.lt_log2_self
  have hk : 4503599627370496 ≤ kept a ∧ kept a ≤ 9007199254740992 := by
    unfold kept
    by_cases hl : a.log2 ≤ 52
    · have e : a.log2 - 52 = 0 := by omega
      rw [e, cut_even _ _ (by omega), Nat.pow_zero, Nat.div_one, Nat.mod_one, Nat.shiftLeft_eq]
      have e2 : (2 : Nat) ^ 52 = 2 ^ a.log2 * 2 ^ (52 - a.log2) := by rw [← Nat.pow_add]; congr 1; omega
      have e3 : (2 : Nat) ^ 53 = 2 ^ (a.log2 + 1) * 2 ^ (52 - a.log2) := by rw [← Nat.pow_add]; congr 1; omega
      have g1 : 2 ^ a.log2 * 2 ^ (52 - a.log2) ≤ a * 2 ^ (52 - a.log2) := Nat.mul_le_mul_right _ h1
      have g2 : a * 2 ^ (52 - a.log2) ≤ 2 ^ (a.log2 + 1) * 2 ^ (52 - a.log2) := Nat.mul_le_mul_right _ (Nat.le_of_lt h2)
      rw [← e2] at g1
      rw [← e3] at g2
      simp at g1 g2 ⊢
      omega
    · have e : 52 - a.log2 = 0 := by omega
      rw [e, Nat.shiftLeft_zero, cut_even _ _ (by omega)]
      have e2 : 2 ^ a.log2 = (2 : Nat) ^ 52 * 2 ^ (a.log2 - 52) := by rw [← Nat.pow_add]; congr 1; omega
      have e3 : 2 ^ (a.log2 + 1) = (2 : Nat) ^ 53 * 2 ^ (a.log2 - 52) := by rw [← Nat.pow_add]; congr 1; omega
      rw [e2] at h1
      rw [e3] at h2
      have hp : 0 < (2 : Nat) ^ (a.log2 - 52) := Nat.two_pow_pos _
      have g1 : (2 : Nat) ^ 52 ≤ a / 2 ^ (a.log2 - 52) := (Nat.le_div_iff_mul_le hp).2 h1
      have g2 : a / 2 ^ (a.log2 - 52) < (2 : Nat) ^ 53 := (Nat.div_lt_iff_lt_mul hp).2 h2
      have g3 : ∀ b : Bool, b.toNat ≤ 1 := fun b => by cases b <;> decide
      have g4 := g3 (decide (2 ^ (a.log2 - 52) < 2 * (a % 2 ^ (a.log2 - 52))) || (2 ^ (a.log2 - 52) == 2 * (a % 2 ^ (a.log2 - 52)) && a / 2 ^ (a.log2 - 52) % 2 == 1))
      have p52 : (2 : Nat) ^ 52 = 4503599627370496 := by decide
      have p53 : (2 : Nat) ^ 53 = 9007199254740992 := by decide
      rw [p52] at g1
      rw [p53] at g2
      omega
  refine ⟨?_, hk⟩
  unfold near Ieee.Format.nearest
  rw [if_neg h]
  have e0 : ((0 : Int) + (a.log2 : Nat) - (Ieee.double.fractionBits : Nat)) = (a.log2 : Int) - 52 := by
    show (0 : Int) + _ - 52 = _
    omega
  have e1 : max ((0 : Int) + (a.log2 : Nat) - (Ieee.double.fractionBits : Nat)) Ieee.double.leastPlace = (a.log2 : Int) - 52 := by
    rw [e0, dl]; omega
  simp only [e1]
  have e2 : ((0 : Int) - ((a.log2 : Int) - 52)).toNat = 52 - a.log2 := by omega
  have e3 : (((a.log2 : Int) - 52) - 0).toNat = a.log2 - 52 := by omega
  have e4 : (((a.log2 : Int) - 52) - Ieee.double.leastPlace).toNat = a.log2 + 1022 := by rw [dl]; omega
  rw [e2, e3, e4, db, di]
  show Ieee.double.word false (min ((a.log2 + 1022) * 4503599627370496 + kept a) 9218868437227405312) = _
  rw [Nat.min_eq_left (by omega)]
  rfl

theorem kept_two {a : Nat} (h : a ≠ 0) : kept (2 * a) = kept a := by
  unfold kept
  rw [log2_two h]
  by_cases hl : a.log2 ≤ 51
  · have e1 : a.log2 + 1 - 52 = 0 := by omega
    have e2 : a.log2 - 52 = 0 := by omega
    rw [e1, e2]
    congr 1
    rw [Nat.shiftLeft_eq, Nat.shiftLeft_eq]
    have : 52 - a.log2 = (52 - (a.log2 + 1)) + 1 := by omega
    rw [this, Nat.pow_succ, Nat.mul_comm 2 a, Nat.mul_assoc, Nat.mul_comm 2]
  · have e1 : 52 - (a.log2 + 1) = 0 := by omega
    have e2 : 52 - a.log2 = 0 := by omega
    rw [e1, e2, Nat.shiftLeft_zero, Nat.shiftLeft_zero, cut_even _ _ (by rw [log2_two h]; omega), cut_even _ _ (by omega)]
    have e3 : a.log2 + 1 - 52 = (a.log2 - 52) + 1 := by omega
    rw [e3, Nat.pow_succ, Nat.mul_comm _ 2]
    generalize 2 ^ (a.log2 - 52) = g
    rw [Nat.mul_div_mul_left _ _ (by decide), Nat.mul_mod_mul_left]
    have q1 : (2 * g < 2 * (2 * (a % g))) ↔ (g < 2 * (a % g)) := by omega
    have q2 : (2 * g = 2 * (2 * (a % g))) ↔ (g = 2 * (a % g)) := by omega
    have q3 : decide (2 * g < 2 * (2 * (a % g))) = decide (g < 2 * (a % g)) := by simp only [q1]
    have q4 : (2 * g == 2 * (2 * (a % g))) = (g == 2 * (a % g)) := by
      rw [Bool.eq_iff_iff]; simp only [beq_iff_eq]; exact q2
    rw [q3, q4]

theorem read_norm {r : Nat} (h1 : 4503599627370496 ≤ r) (h2 : r < 9218868437227405312) : Ieee.double.read r = .number false (4503599627370496 + r % 4503599627370496) (-1074 + (r / 4503599627370496 - 1 : Nat)) := by
  rw [read_eq, Nat.mod_eq_of_lt (show r < 9223372036854775808 by omega), if_neg (by omega), if_pos h2, Nat.div_eq_of_lt (show r < 9223372036854775808 by omega)]
  rfl

/-- A whole number that is not 0, and its double, as floats. -/
theorem near_read {a : Nat} (h : a ≠ 0) (h64 : a < 18446744073709551616) : ∃ m : Nat, ∃ i : Int, m ≠ 0 ∧ Ieee.double.read (near a) = .number false m i ∧ (a < 9223372036854775808 → Ieee.double.read (near (2 * a)) = .number false m (i + 1)) := by
  have hl : a.log2 ≤ 63 := by
    have := (Nat.log2_lt h (k := 64)).2 (by simpa using h64)
    omega
  obtain ⟨e, k1, k2⟩ := near_kept h hl
  refine ⟨4503599627370496 + near a % 4503599627370496, -1074 + ((near a / 4503599627370496 - 1 : Nat) : Int), by omega, read_norm (by omega) (by omega), fun h63 => ?_⟩
  have hl2 : a.log2 ≤ 62 := by
    have := (Nat.log2_lt h (k := 63)).2 (by simpa using h63)
    omega
  obtain ⟨e', k1', k2'⟩ := near_kept (a := 2 * a) (by omega) (by rw [log2_two h]; omega)
  rw [kept_two h, log2_two h] at e'
  have e3 : near (2 * a) = near a + 4503599627370496 := by rw [e', e]; omega
  rw [e3, read_norm (by omega) (by omega)]
  have q1 : (near a + 4503599627370496) % 4503599627370496 = near a % 4503599627370496 := by omega
  have q2 : (near a + 4503599627370496) / 4503599627370496 - 1 = (near a / 4503599627370496 - 1) + 1 := by omega
  rw [q1, q2]
  generalize near a / 4503599627370496 - 1 = K
  have q3 : (-1074 : Int) + ((K + 1 : Nat) : Int) = -1074 + (K : Int) + 1 := by omega
  rw [q3]

theorem quo_num (d m n : Nat) (i j : Int) : (Ieee.Datum.number false m i).quotient d (.number false n j) = if n = 0 then if m = 0 then none else some (.infinity false) else some (.number false (2 * ((m <<< (d + n.log2 - m.log2)) / n) + ((m <<< (d + n.log2 - m.log2)) % n != 0).toNat) (i - j - ((d + n.log2 - m.log2 : Nat) : Int) - 1)) := rfl
/-- A part by the whole, as words. -/
def rateN (a b : Nat) : Int := canon (floatBits .quo .f64 (near a) (near b))
theorem div_eq {a b : Nat} {x y : Ieee.Datum} (ha : Ieee.double.read a = x) (hb : Ieee.double.read b = y) : floatBits .quo .f64 a b = (x.quotient 54 y).map Ieee.double.write := by
  unfold floatBits FloatKind.format Ieee.Format.div
  simp only
  rw [ha, hb]
  rfl
theorem rate_self {a : Nat} (h : a ≠ 0) (h64 : a < 18446744073709551616) : rateN a a = 4607182418800017408 := by
  obtain ⟨m, i, hm, e, _⟩ := near_read h h64
  unfold rateN
  rw [div_eq e e]
  have : (Ieee.Datum.number false m i).quotient 54 (.number false m i) = some (.number false (2 ^ 55) (-55)) := by
    rw [quo_num, if_neg hm]
    simp only [Nat.add_sub_cancel, Nat.shiftLeft_eq]
    rw [Nat.mul_div_cancel_left _ (by omega), Nat.mul_mod_right]
    congr 2
    omega
  rw [this]
  decide
theorem rate_zero {a : Nat} (h : a ≠ 0) (h64 : a < 18446744073709551616) : rateN 0 a = 0 := by
  obtain ⟨m, i, hm, e, _⟩ := near_read h h64
  unfold rateN
  have e0 : Ieee.double.read (near 0) = .number false 0 (-1074) := by decide
  rw [div_eq e0 e]
  rw [quo_num, if_neg hm]
  simp [Ieee.Format.write, Ieee.Format.nearest, canon]
  decide
theorem rate_double {a b : Nat} (ha : a < 9223372036854775808) (hb : b < 9223372036854775808) : rateN (2 * a) (2 * b) = rateN a b := by
  by_cases a0 : a = 0
  · subst a0
    by_cases b0 : b = 0
    · subst b0; rfl
    · rw [show 2 * 0 = 0 from rfl, rate_zero (by omega) (by omega), rate_zero b0 (by omega)]
  · obtain ⟨m, i, hm, e, e2⟩ := near_read a0 (by omega)
    have e2 := e2 ha
    by_cases b0 : b = 0
    · subst b0
      have e0 : Ieee.double.read (near 0) = .number false 0 (-1074) := by decide
      unfold rateN
      rw [show 2 * 0 = 0 from rfl, div_eq e2 e0, div_eq e e0]
      rw [quo_num, quo_num, if_pos rfl, if_pos rfl, if_neg hm]
    · obtain ⟨n, j, hn, f, f2⟩ := near_read b0 (by omega)
      have f2 := f2 hb
      unfold rateN
      rw [div_eq e2 f2, div_eq e f]
      rw [quo_num, quo_num, if_neg hn, if_neg hn]
      congr 4
      omega
end Go.Proofs.YtmohokeeglnliaaDoor.Sx
