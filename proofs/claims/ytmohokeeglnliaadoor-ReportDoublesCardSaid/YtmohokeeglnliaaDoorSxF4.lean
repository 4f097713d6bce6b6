import Derived.Test.YtmohokeeglnliaaDoorSxF3
/-
  Plain laws of floats, fourth part: a float cut to a whole number; whole numbers up to a hundred as floats; percents.
-/
namespace Go.Proofs.YtmohokeeglnliaaDoor.Sx
open Go Go.Proofs

def U : Nat := 2 ^ 1074
theorem U_pos : 0 < U := by decide +kernel
theorem U_eq : U = 2 ^ 1074 := by unfold U; rfl

theorem cut_zero (s : Bool) (n d : Nat) : Ieee.Toward.zero.cut s n d = n / 2 ^ d := by
  unfold Ieee.Toward.cut
  simp only [Bool.toNat_false, Nat.add_zero, Nat.shiftLeft_eq, Nat.one_mul]
  by_cases h : d ≤ n.log2 + 2
  · rw [Nat.min_eq_left h]
  · rw [Nat.min_eq_right (by omega)]
    have h1 : n < 2 ^ (n.log2 + 1) := Nat.lt_log2_self
    have h2 : 2 ^ (n.log2 + 1) ≤ 2 ^ (n.log2 + 2) := Nat.pow_le_pow_right (by decide) (by omega)
    have h3 : 2 ^ (n.log2 + 2) ≤ 2 ^ d := Nat.pow_le_pow_right (by decide) (by omega)
    rw [Nat.div_eq_of_lt (by omega), Nat.div_eq_of_lt (by omega)]

theorem toInt_gen (m p E : Nat) (i : Int) (hi : i = (p : Int) - E) : (Ieee.Datum.number false m i).toInt .zero = some (((m * 2 ^ p) / 2 ^ E : Nat) : Int) := by
  unfold Ieee.Datum.toInt Ieee.Datum.integral
  simp only [cut_zero, signed_eq, sg, Nat.shiftLeft_eq, Nat.pow_zero, Nat.mul_one, Bool.false_eq_true, if_false]
  congr 2
  by_cases h : E ≤ p
  · have e1 : i.toNat = p - E := by omega
    have e2 : (-i).toNat = 0 := by omega
    rw [e1, e2, Nat.pow_zero, Nat.div_one]
    have : m * 2 ^ p = m * 2 ^ (p - E) * 2 ^ E := by rw [Nat.mul_assoc, ← Nat.pow_add]; congr 2; omega
    rw [this, Nat.mul_div_cancel _ (Nat.two_pow_pos _)]
  · have e1 : i.toNat = 0 := by omega
    have e2 : (-i).toNat = E - p := by omega
    rw [e1, e2, Nat.pow_zero, Nat.mul_one]
    have : 2 ^ E = 2 ^ (E - p) * 2 ^ p := by rw [← Nat.pow_add]; congr 1; omega
    rw [this, Nat.mul_div_mul_right _ _ (Nat.two_pow_pos _)]
theorem toInt_num (m p : Nat) : (Ieee.Datum.number false m (-1074 + p)).toInt .zero = some (((m * 2 ^ p) / U : Nat) : Int) := by
  rw [U_eq]
  exact toInt_gen m p 1074 _ (by omega)

theorem inf_big : 100 * U ≤ rungV 9218868437227405312 := by decide +kernel
/-- A float that is no number's negative, and below 2^63, cut. -/
theorem fti {x : Nat} (hn : isN x = false) (h0 : 0 < sval x) (h1 : sval x < 100 * (U : Int)) : floatToIntVal .f64 x .i64 = some (sval x / U) := by
  have hm : magN x < 9218868437227405312 := by
    rcases Nat.lt_or_ge (magN x) 9218868437227405312 with q | q
    · exact q
    · exfalso
      rw [isN_F] at hn
      have q : magN x = 9218868437227405312 := Nat.le_antisymm hn q
      have hneg : negB x = false := by
        cases e : negB x with
        | false => rfl
        | true => unfold sval sg at h0; rw [e] at h0; simp at h0; omega
      unfold sval sg at h1
      rw [hneg, q] at h1
      simp only [Bool.false_eq_true, if_false] at h1
      have := inf_big
      omega
  obtain ⟨m, p, e1, e2, _⟩ := read_fin hm
  have hneg : negB x = false := by
    cases e : negB x with
    | false => rfl
    | true => unfold sval sg at h0; rw [e] at h0; simp at h0; omega
  have hs : sval x = ((m * 2 ^ p : Nat) : Int) := by
    unfold sval sg; rw [hneg, e2]; simp
  have hd : (FloatKind.decode .f64 x).toInt .zero = some (((m * 2 ^ p) / U : Nat) : Int) := by
    have e0 : FloatKind.decode .f64 x = .number false m (-1074 + p) := by
      show Ieee.double.read x = _
      rw [e1, hneg]
    rw [e0, toInt_num]
  generalize m * 2 ^ p = M at *
  have hlt : M / U < 100 := Nat.div_lt_of_lt_mul (by rw [Nat.mul_comm]; omega)
  unfold floatToIntVal
  rw [hd]
  simp only
  have hmin : IntKind.i64.min = -9223372036854775808 := by decide
  have hmax : IntKind.i64.max = 9223372036854775807 := by decide
  have hq : ∃ Q : Nat, M / U = Q := ⟨_, rfl⟩
  obtain ⟨Q, hQ⟩ := hq
  have hs2 : sval x / (U : Int) = ((M / U : Nat) : Int) := by rw [hs]; rfl
  rw [hs2]
  rw [hQ] at hlt ⊢
  rw [if_pos ⟨by rw [hmin]; omega, by rw [hmax]; omega⟩]

/-- Whole numbers up to a hundred. -/
def wholes : Bool := (List.range 101).all fun k => isN (FloatKind.nearest .f64 k) == false && decide (sval (FloatKind.nearest .f64 k) = k * U)
theorem wholes_ok : wholes = true := by decide +kernel
theorem whole {k : Nat} (h : k ≤ 100) : isN (FloatKind.nearest .f64 k) = false ∧ sval (FloatKind.nearest .f64 k) = k * U := by
  have := List.all_eq_true.1 wholes_ok k (by simp; omega)
  simp only [Bool.and_eq_true, beq_iff_eq, decide_eq_true_eq] at this
  exact this
theorem hundred_eq : FloatKind.nearest .f64 100 = 4636737291354636288 := by decide +kernel
theorem sval_hundred : sval 4636737291354636288 = 100 * U := by
  have := (whole (k := 100) (by omega)).2
  rw [show ((100 : Nat) : Int) = 100 from rfl, hundred_eq] at this
  exact this
theorem isN_hundred : isN 4636737291354636288 = false := by decide
theorem sval_zero : sval 0 = 0 := by decide

theorem cent_isN {a : Nat} (h : isN a = false) : isN (cent a) = false := bits_isN (by simp) (cent_some h)
/-- A percent, by values. -/
theorem percV_val {a : Nat} (h : isN a = false) : percV a = if sval (cent a) ≤ 0 then 0 else if 100 * (U : Int) ≤ sval (cent a) then 100 else sval (cent a) / U := by
  have hc := cent_isN h
  have z0 : isN 0 = false := by decide
  unfold percV
  rw [h, ord_val hc z0, ord_val hc isN_hundred, sval_zero, sval_hundred]
  simp only [Bool.false_eq_true, if_false]
  unfold cmpI
  rcases Int.lt_trichotomy (sval (cent a)) 0 with q | q | q
  · simp [q]; omega
  · simp [q]
  · have n1 : ¬ sval (cent a) < 0 := by omega
    have n2 : ¬ sval (cent a) = 0 := by omega
    have n3 : ¬ sval (cent a) ≤ 0 := by omega
    simp only [n1, n2, n3, if_false]
    rcases Int.lt_trichotomy (sval (cent a)) (100 * U) with p | p | p
    · have m1 : ¬ 100 * (U : Int) ≤ sval (cent a) := by omega
      simp [p, m1, fti hc q p]
    · simp [p]
    · have m1 : ¬ sval (cent a) < 100 * U := by omega
      have m2 : ¬ sval (cent a) = 100 * U := by omega
      have m3 : 100 * (U : Int) ≤ sval (cent a) := by omega
      simp [m1, m2, m3]
end Go.Proofs.YtmohokeeglnliaaDoor.Sx
