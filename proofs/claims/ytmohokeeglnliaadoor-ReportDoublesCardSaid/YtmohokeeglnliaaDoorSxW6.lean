import Derived.Test.YtmohokeeglnliaaDoorSxW5
/-
  The walks of this seat's functions, sixth part: the laws GaugeNaNs, GaugeWhole.
-/
namespace Go.Proofs.YtmohokeeglnliaaDoor.Sx
open Go Go.Proofs
set_option maxRecDepth 100000
set_option linter.unusedSimpArgs false
set_option linter.unusedVariables false

theorem cmp_rng (a b : Nat) : -1 ≤ cmpV a b ∧ cmpV a b ≤ 1 := by
  unfold cmpV
  split
  · split <;> omega
  · split
    · omega
    · split
      · omega
      · split <;> omega
theorem cmp_anti (a b : Nat) : cmpV a b = -cmpV b a := by
  unfold cmpV
  rw [ord_swap b a]
  cases isN a <;> cases isN b <;> simp
  cases fOrd b a with
  | none => simp
  | some o => cases o <;> simp
theorem cmp_self (a : Nat) : cmpV a a = 0 := by have := cmp_anti a a; omega
theorem cmp_nans {a b : Nat} (ha : isN a = true) (hb : isN b = true) : cmpV a b = 0 := by simp [cmpV, ha, hb]
theorem cmp_nan_lt {a b : Nat} (ha : isN a = true) (hb : isN b = false) : cmpV a b = -1 := by simp [cmpV, ha, hb]
theorem wrap_neg (a b : Nat) : IntKind.i64.wrap (0 - cmpV a b) = -cmpV a b := by
  have := cmp_rng a b
  simp [IntKind.wrap_i64]; omega
theorem nanC : isN (9221120237041090561 : Int).toNat = true := by decide
theorem zz : cmpV (0 : Int).toNat (9223372036854775808 : Int).toNat = 0 := by decide +kernel

end Go.Proofs.YtmohokeeglnliaaDoor.Sx
