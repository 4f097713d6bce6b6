import Derived.Test.YtmohokeeglnliaaDoorSxF1
/-
  Plain laws of floats, second part: halves, hundredfolds, means and percents as words.
-/
namespace Go.Proofs.YtmohokeeglnliaaDoor.Sx
open Go Go.Proofs

theorem FRes_lt {op : BinOp} {a b r : Nat} (h : FRes op a b r) : r < 18446744073709551616 := by
  rcases h with h | ⟨_, _, h⟩
  · have := floatBits_wf h
    simp [Lit.wf] at this
    exact this
  · exact h

theorem read_two : Ieee.double.read 4611686018427387904 = .number false 4503599627370496 (-51) := by decide
theorem read_hundred : Ieee.double.read 4636737291354636288 = .number false 7036874417766400 (-46) := by decide

/-- Half a gauge. -/
def half (a : Nat) : Nat := (floatBits .quo .f64 a 4611686018427387904).getD 0
theorem half_some {a : Nat} (h : isN a = false) : floatBits .quo .f64 a 4611686018427387904 = some (half a) := by
  have : ∃ r, floatBits .quo .f64 a 4611686018427387904 = some r := by
    unfold floatBits FloatKind.format Ieee.Format.div
    simp only
    rw [read_two]
    rcases read_num h with ⟨s, m, i, e⟩ | ⟨s, e⟩
    · rw [e]; simp [Ieee.Datum.quotient]
    · rw [e]; simp [Ieee.Datum.quotient]
  obtain ⟨r, e⟩ := this
  rw [half, e]; rfl
theorem half_of {a r : Nat} (h : isN a = false) (hr : FRes .quo a 4611686018427387904 r) : r = half a := by
  rcases hr with hr | ⟨hr, _⟩
  · rw [half_some h] at hr; injection hr with hr; exact hr.symm
  · rw [half_some h] at hr; cases hr
/-- A hundred times a gauge. -/
def cent (a : Nat) : Nat := (floatBits .mul .f64 a 4636737291354636288).getD 0
theorem cent_some {a : Nat} (h : isN a = false) : floatBits .mul .f64 a 4636737291354636288 = some (cent a) := by
  have : ∃ r, floatBits .mul .f64 a 4636737291354636288 = some r := by
    unfold floatBits FloatKind.format Ieee.Format.mul
    simp only
    rw [read_hundred]
    rcases read_num h with ⟨s, m, i, e⟩ | ⟨s, e⟩
    · rw [e]; simp [Ieee.Datum.product]
    · rw [e]; simp [Ieee.Datum.product]
  obtain ⟨r, e⟩ := this
  rw [cent, e]; rfl
theorem cent_of {a r : Nat} (h : isN a = false) (hr : FRes .mul a 4636737291354636288 r) : r = cent a := by
  rcases hr with hr | ⟨hr, _⟩
  · rw [cent_some h] at hr; injection hr with hr; exact hr.symm
  · rw [cent_some h] at hr; cases hr
theorem half_nan {a r : Nat} (h : isN a = true) (hr : FRes .quo a 4611686018427387904 r) : isN r = true := by
  rcases hr with hr | ⟨_, hr, _⟩
  · exfalso
    obtain ⟨s, f, e⟩ := read_nan h
    unfold floatBits FloatKind.format Ieee.Format.div at hr
    simp only at hr
    rw [e] at hr
    simp [Ieee.Datum.quotient] at hr
  · exact hr
theorem add_nan {a b : Nat} (h : isN a = true ∨ isN b = true) : floatBits .add .f64 a b = none := by
  unfold floatBits FloatKind.format Ieee.Format.add
  simp only
  rcases h with h | h
  · obtain ⟨s, f, e⟩ := read_nan h
    rw [e]; simp [Ieee.Datum.sum]
  · obtain ⟨s, f, e⟩ := read_nan h
    rw [e]; cases Ieee.double.read a <;> simp [Ieee.Datum.sum]

/-- The mean of two gauges. -/
def meanV (a b : Nat) : Int := if isN a || isN b then 9221120237041090561 else canon (floatBits .add .f64 (half a) (half b))
/-- A gauge's percent. -/
def percV (a : Nat) : Int := if isN a then 0 else if (fOrd (cent a) 0 == some .lt || fOrd (cent a) 0 == some .eq) then 0 else if (fOrd (cent a) 4636737291354636288 == some .gt || fOrd (cent a) 4636737291354636288 == some .eq) then 100 else (floatToIntVal .f64 (cent a) .i64).getD 0
end Go.Proofs.YtmohokeeglnliaaDoor.Sx
