import Derived.Test.YtmohokeeglnliaaDoorSxF2
/-
  Plain laws of floats, third part: a word's value as a whole number of least units; the order by values, and by words.
-/
namespace Go.Proofs.YtmohokeeglnliaaDoor.Sx
open Go Go.Proofs

/-- A rung's value in units of 2^-1074. -/
def rungV (r : Nat) : Nat := if r < 4503599627370496 then r else (4503599627370496 + r % 4503599627370496) * 2 ^ (r / 4503599627370496 - 1)
def negB (n : Nat) : Bool := n / 9223372036854775808 % 2 == 1
def magN (n : Nat) : Nat := n % 9223372036854775808
def sg (s : Bool) (m : Nat) : Int := if s then -(m : Int) else m
/-- A word's value in units of 2^-1074; infinity stands behind all others. -/
def sval (n : Nat) : Int := sg (negB n) (rungV (magN n))
def cmpI (x y : Int) : Ordering := if x < y then .lt else if x = y then .eq else .gt
theorem compare_cmpI (x y : Int) : compare x y = cmpI x y := rfl

theorem rungV_succ (r : Nat) : rungV r < rungV (r + 1) := by
  by_cases h1 : r + 1 < 4503599627370496
  · rw [rungV, rungV, if_pos (by omega), if_pos h1]; omega
  · by_cases h2 : r + 1 = 4503599627370496
    · obtain rfl : r = 4503599627370495 := by omega
      decide
    · have hq : 1 ≤ r / 4503599627370496 := by omega
      rw [rungV, rungV, if_neg (by omega), if_neg h1]
      have hs : r % 4503599627370496 < 4503599627370496 := Nat.mod_lt _ (by decide)
      by_cases h3 : r % 4503599627370496 + 1 < 4503599627370496
      · have e1 : (r + 1) / 4503599627370496 = r / 4503599627370496 := by omega
        have e2 : (r + 1) % 4503599627370496 = r % 4503599627370496 + 1 := by omega
        rw [e1, e2]
        exact Nat.mul_lt_mul_of_pos_right (by omega) (Nat.two_pow_pos _)
      · have e1 : (r + 1) / 4503599627370496 = r / 4503599627370496 + 1 := by omega
        have e2 : (r + 1) % 4503599627370496 = 0 := by omega
        rw [e1, e2]
        have e3 : r / 4503599627370496 + 1 - 1 = (r / 4503599627370496 - 1) + 1 := by omega
        rw [e3, Nat.pow_succ, Nat.add_zero, Nat.mul_comm (2 ^ _) 2, ← Nat.mul_assoc]
        exact Nat.mul_lt_mul_of_pos_right (by omega) (Nat.two_pow_pos _)
theorem rungV_lt {r s : Nat} (h : r < s) : rungV r < rungV s := by
  obtain ⟨k, rfl⟩ : ∃ k, s = r + 1 + k := ⟨s - (r + 1), by omega⟩
  clear h
  induction k with
  | zero => exact rungV_succ r
  | succ k ih => exact Nat.lt_trans ih (rungV_succ _)
theorem rungV_lt_iff {r s : Nat} : rungV r < rungV s ↔ r < s := by
  refine ⟨fun h => ?_, rungV_lt⟩
  rcases Nat.lt_trichotomy r s with q | q | q
  · exact q
  · subst q; omega
  · have := rungV_lt q; omega
theorem rungV_eq_iff {r s : Nat} : rungV r = rungV s ↔ r = s := by
  refine ⟨fun h => ?_, fun h => by rw [h]⟩
  rcases Nat.lt_trichotomy r s with q | q | q
  · have := rungV_lt q; omega
  · exact q
  · have := rungV_lt q; omega
theorem rungV_zero : rungV 0 = 0 := by decide

theorem cmpI_mul {x y c : Int} (hc : 0 < c) : cmpI (x * c) (y * c) = cmpI x y := by
  have h1 : (x * c < y * c) ↔ x < y := ⟨fun h => Int.lt_of_mul_lt_mul_right h (Int.le_of_lt hc), fun h => Int.mul_lt_mul_of_pos_right h hc⟩
  have h2 : (x * c = y * c) ↔ x = y := ⟨fun h => Int.eq_of_mul_eq_mul_right (by omega) h, fun h => by rw [h]⟩
  unfold cmpI
  simp only [h1, h2]
theorem signed_eq (s : Bool) (m u : Nat) : Ieee.signed s m u = sg s (m * 2 ^ u) := by
  unfold Ieee.signed sg
  rw [Nat.shiftLeft_eq]
theorem sg_mul (s : Bool) (m c : Nat) : sg s (m * c) = sg s m * c := by
  unfold sg
  cases s <;> simp [Int.neg_mul]

/-- What a finite word stands for. -/
theorem read_fin {n : Nat} (h : magN n < 9218868437227405312) : ∃ m p : Nat, Ieee.double.read n = .number (negB n) m (-1074 + p) ∧ rungV (magN n) = m * 2 ^ p ∧ m < 9007199254740992 := by
  unfold magN at *
  rw [read_eq]
  by_cases h1 : n % 9223372036854775808 < 4503599627370496
  · rw [if_pos h1]
    exact ⟨n % 9223372036854775808, 0, rfl, by rw [rungV, if_pos h1]; simp, by omega⟩
  · rw [if_neg h1, if_pos h]
    refine ⟨4503599627370496 + n % 9223372036854775808 % 4503599627370496, n % 9223372036854775808 / 4503599627370496 - 1, rfl, by rw [rungV, if_neg h1], ?_⟩
    have : n % 9223372036854775808 % 4503599627370496 < 4503599627370496 := Nat.mod_lt _ (by decide)
    omega
theorem read_inf {n : Nat} (h : magN n = 9218868437227405312) : Ieee.double.read n = .infinity (negB n) := by
  unfold magN at h
  rw [read_eq, if_neg (by omega), if_neg (by omega), if_pos h]
  rfl

theorem order_fin {s t : Bool} {m n p q : Nat} : (Ieee.Datum.number s m (-1074 + p)).order (.number t n (-1074 + q)) = some (cmpI (sg s (m * 2 ^ p)) (sg t (n * 2 ^ q))) := by
  unfold Ieee.Datum.order
  simp only [compare_cmpI, signed_eq]
  congr 1
  have e1 : ((-1074 + (p : Int)) - min (-1074 + (p : Int)) (-1074 + q)).toNat = p - min p q := by omega
  have e2 : ((-1074 + (q : Int)) - min (-1074 + (p : Int)) (-1074 + q)).toNat = q - min p q := by omega
  rw [e1, e2]
  have e3 : m * 2 ^ p = m * 2 ^ (p - min p q) * 2 ^ (min p q) := by rw [Nat.mul_assoc, ← Nat.pow_add]; congr 2; omega
  have e4 : n * 2 ^ q = n * 2 ^ (q - min p q) * 2 ^ (min p q) := by rw [Nat.mul_assoc, ← Nat.pow_add]; congr 2; omega
  rw [e3, e4, sg_mul s (m * 2 ^ (p - min p q)), sg_mul t (n * 2 ^ (q - min p q)), cmpI_mul (by exact_mod_cast Nat.two_pow_pos _)]

theorem cmpI_lt {x y : Int} (h : x < y) : cmpI x y = .lt := by unfold cmpI; rw [if_pos h]
theorem cmpI_gt {x y : Int} (h : y < x) : cmpI x y = .gt := by unfold cmpI; rw [if_neg (by omega), if_neg (by omega)]
theorem cmpI_self (x : Int) : cmpI x x = .eq := by unfold cmpI; simp
theorem sg_cases (s : Bool) (m : Nat) : (s = true ∧ sg s m = -(m : Int)) ∨ (s = false ∧ sg s m = m) := by cases s <;> simp [sg]

/-- The order of two numbers is that of their values. -/
theorem ord_val {a b : Nat} (ha : isN a = false) (hb : isN b = false) : fOrd a b = some (cmpI (sval a) (sval b)) := by
  rw [isN_F] at ha hb
  have ha : magN a ≤ 9218868437227405312 := ha
  have hb : magN b ≤ 9218868437227405312 := hb
  unfold fOrd Ieee.Format.order sval
  rcases Nat.lt_or_ge (magN a) 9218868437227405312 with h1 | h1
  · obtain ⟨m, p, e1, e2, _⟩ := read_fin h1
    rcases Nat.lt_or_ge (magN b) 9218868437227405312 with h2 | h2
    · obtain ⟨n, q, e3, e4, _⟩ := read_fin h2
      rw [e1, e3, e2, e4]
      exact order_fin
    · have h2 : magN b = 9218868437227405312 := by omega
      have h3 := rungV_lt h1
      rw [e1, read_inf h2, h2]
      generalize rungV 9218868437227405312 = I at *
      show some (if negB b = true then _ else _) = _
      rcases sg_cases (negB b) I with ⟨c, e⟩ | ⟨c, e⟩ <;> rcases sg_cases (negB a) (rungV (magN a)) with ⟨c', e'⟩ | ⟨c', e'⟩ <;> rw [e, e', c]
      · rw [if_pos rfl, cmpI_gt (by omega)]
      · rw [if_pos rfl, cmpI_gt (by omega)]
      · rw [if_neg (by simp), cmpI_lt (by omega)]
      · rw [if_neg (by simp), cmpI_lt (by omega)]
  · have h1 : magN a = 9218868437227405312 := by omega
    rcases Nat.lt_or_ge (magN b) 9218868437227405312 with h2 | h2
    · obtain ⟨n, q, e3, e4, _⟩ := read_fin h2
      have h3 := rungV_lt h2
      rw [e3, read_inf h1, h1]
      generalize rungV 9218868437227405312 = I at *
      show some (if negB a = true then _ else _) = _
      rcases sg_cases (negB a) I with ⟨c, e⟩ | ⟨c, e⟩ <;> rcases sg_cases (negB b) (rungV (magN b)) with ⟨c', e'⟩ | ⟨c', e'⟩ <;> rw [e, e', c]
      · rw [if_pos rfl, cmpI_lt (by omega)]
      · rw [if_pos rfl, cmpI_lt (by omega)]
      · rw [if_neg (by simp), cmpI_gt (by omega)]
      · rw [if_neg (by simp), cmpI_gt (by omega)]
    · have h2 : magN b = 9218868437227405312 := by omega
      have h3 : 0 < rungV 9218868437227405312 := Nat.lt_of_le_of_lt (Nat.zero_le _) (rungV_lt (show 0 < 9218868437227405312 by omega))
      rw [read_inf h1, read_inf h2, h1, h2]
      generalize rungV 9218868437227405312 = I at *
      show some (compare (negB b).toNat (negB a).toNat) = _
      rcases sg_cases (negB a) I with ⟨c, e⟩ | ⟨c, e⟩ <;> rcases sg_cases (negB b) I with ⟨c', e'⟩ | ⟨c', e'⟩ <;> rw [e, e', c, c']
      · rw [cmpI_self]; rfl
      · rw [cmpI_lt (by omega)]; rfl
      · rw [cmpI_gt (by omega)]; rfl
      · rw [cmpI_self]; rfl

/-- Two gauges compared, by their values. -/
theorem cmpV_val {a b : Nat} (ha : isN a = false) (hb : isN b = false) : cmpV a b = if sval a < sval b then -1 else if sval b < sval a then 1 else 0 := by
  unfold cmpV
  rw [ha, hb, ord_val ha hb]
  simp only [Bool.false_eq_true, if_false, Option.some.injEq]
  unfold cmpI
  by_cases h1 : sval a < sval b
  · simp [h1]
  · by_cases h2 : sval a = sval b
    · simp [h2]
    · have : sval b < sval a := by omega
      simp [h1, h2, this]
end Go.Proofs.YtmohokeeglnliaaDoor.Sx
