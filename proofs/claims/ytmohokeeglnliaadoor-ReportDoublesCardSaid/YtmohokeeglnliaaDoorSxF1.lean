import Derived.Test.YtmohokeeglnliaaDoorSxU
/-
  Plain laws of floats, first part: what is no number, and what operations leave.
-/
namespace Go.Proofs.YtmohokeeglnliaaDoor.Sx
open Go Go.Proofs

theorem dw : Ieee.double.signWeight = 9223372036854775808 := by decide
theorem db : Ieee.double.binade = 4503599627370496 := by decide
theorem di : Ieee.double.infRung = 9218868437227405312 := by decide
theorem dl : Ieee.double.leastPlace = -1074 := by decide

theorem read_eq (n : Nat) : Ieee.double.read n = if n % 9223372036854775808 < 4503599627370496 then .number (n / 9223372036854775808 % 2 == 1) (n % 9223372036854775808) (-1074)
    else if n % 9223372036854775808 < 9218868437227405312 then .number (n / 9223372036854775808 % 2 == 1) (4503599627370496 + n % 9223372036854775808 % 4503599627370496) (-1074 + (n % 9223372036854775808 / 4503599627370496 - 1 : Nat))
    else if n % 9223372036854775808 = 9218868437227405312 then .infinity (n / 9223372036854775808 % 2 == 1) else .nan (n / 9223372036854775808 % 2 == 1) (n % 9223372036854775808 - 9218868437227405312) := by
  unfold Ieee.Format.read
  rw [dw, db, di, dl]

theorem isN_iff {n : Nat} : isN n = true ↔ 9218868437227405312 < n % 9223372036854775808 := by
  unfold isN
  exact ⟨fun h => Nat.le_of_ble_eq_true h, fun h => Nat.ble_eq_true_of_le h⟩
theorem isN_F {n : Nat} : isN n = false ↔ n % 9223372036854775808 ≤ 9218868437227405312 := by
  have := @isN_iff n
  cases e : isN n <;> simp_all
theorem read_nan {n : Nat} (h : isN n = true) : ∃ s f, Ieee.double.read n = .nan s f := by
  rw [isN_iff] at h
  rw [read_eq, if_neg (by omega), if_neg (by omega), if_neg (by omega)]
  exact ⟨_, _, rfl⟩
theorem read_num {n : Nat} (h : isN n = false) : (∃ s m i, Ieee.double.read n = .number s m i) ∨ ∃ s, Ieee.double.read n = .infinity s := by
  rw [isN_F] at h
  rw [read_eq]
  split
  · exact .inl ⟨_, _, _, rfl⟩
  · split
    · exact .inl ⟨_, _, _, rfl⟩
    · rw [if_pos (by omega)]; exact .inr ⟨_, rfl⟩

theorem ord_nanL {a b : Nat} (h : isN a = true) : fOrd a b = none := by
  obtain ⟨s, f, e⟩ := read_nan h
  unfold fOrd Ieee.Format.order
  rw [e]; rfl
theorem ord_nanR {a b : Nat} (h : isN b = true) : fOrd a b = none := by
  obtain ⟨s, f, e⟩ := read_nan h
  unfold fOrd Ieee.Format.order
  rw [e]
  cases Ieee.double.read a <;> rfl
theorem ord_self {a : Nat} (h : isN a = false) : fOrd a a = some .eq := by
  unfold fOrd Ieee.Format.order
  rcases read_num h with ⟨s, m, i, e⟩ | ⟨s, e⟩ <;> rw [e] <;> simp [Ieee.Datum.order]
theorem ord_some {a b : Nat} (ha : isN a = false) (hb : isN b = false) : ∃ o, fOrd a b = some o := by
  unfold fOrd Ieee.Format.order
  rcases read_num ha with ⟨s, m, i, e⟩ | ⟨s, e⟩ <;> rcases read_num hb with ⟨t, n, j, e'⟩ | ⟨t, e'⟩ <;> rw [e, e'] <;> exact ⟨_, rfl⟩
theorem ord_swap (a b : Nat) : fOrd b a = (fOrd a b).map Ordering.swap := by
  unfold fOrd Ieee.Format.order
  cases Ieee.double.read a <;> cases Ieee.double.read b <;> simp only [Ieee.Datum.order, Option.map_none, Option.map_some]
  · rename_i s m i t n j
    rw [Int.min_comm j i, Std.OrientedOrd.eq_swap (a := Ieee.signed s _ _)]
    simp
  · rename_i t; cases t <;> rfl
  · rename_i t _ _ _; cases t <;> rfl
  · rename_i s t; cases s <;> cases t <;> rfl

theorem neq_nan (a : Nat) : (fOrd a a != some .eq) = isN a := by
  cases h : isN a with
  | true => rw [ord_nanL h]; rfl
  | false => rw [ord_self h]; rfl

/-! ### What is written is a number -/
theorem word_isN (neg : Bool) {r : Nat} (h : r ≤ 9218868437227405312) : isN (Ieee.double.word neg r) = false := by
  rw [isN_F]
  unfold Ieee.Format.word
  rw [dw]
  cases neg
  · simp; omega
  · simp; omega
theorem nearest_isN (neg : Bool) (m : Nat) (i : Int) : isN (Ieee.double.nearest neg m i) = false := by
  unfold Ieee.Format.nearest
  split
  · exact word_isN neg (by omega)
  · exact word_isN neg (by rw [di]; exact Nat.min_le_right ..)
theorem write_isN {d : Ieee.Datum} (h : ∀ s f, d ≠ .nan s f) : isN (Ieee.double.write d) = false := by
  cases d with
  | number s m i => exact nearest_isN s m i
  | infinity s => exact word_isN s (by rw [di]; omega)
  | nan s f => exact absurd rfl (h s f)
theorem sum_num {d e r : Ieee.Datum} (h : d.sum e = some r) : ∀ s f, r ≠ .nan s f := by
  cases d <;> cases e <;> simp only [Ieee.Datum.sum] at h <;> (try cases h; done)
  · cases h; intro _ _ q; cases q
  · cases h; intro _ _ q; cases q
  · cases h; intro _ _ q; cases q
  · split at h <;> cases h; intro _ _ q; cases q
theorem product_num {d e r : Ieee.Datum} (h : d.product e = some r) : ∀ s f, r ≠ .nan s f := by
  cases d <;> cases e <;> simp only [Ieee.Datum.product] at h <;> (try cases h; done)
  · cases h; intro _ _ q; cases q
  · split at h <;> cases h; intro _ _ q; cases q
  · split at h <;> cases h; intro _ _ q; cases q
  · cases h; intro _ _ q; cases q
theorem quotient_num {k : Nat} {d e r : Ieee.Datum} (h : d.quotient k e = some r) : ∀ s f, r ≠ .nan s f := by
  cases d <;> cases e <;> simp only [Ieee.Datum.quotient] at h <;> (try cases h; done)
  · split at h
    · split at h <;> cases h; intro _ _ q; cases q
    · cases h; intro _ _ q; cases q
  · cases h; intro _ _ q; cases q
  · cases h; intro _ _ q; cases q
theorem bits_isN {op : BinOp} {a b r : Nat} (hop : op = .add ∨ op = .mul ∨ op = .quo) (h : floatBits op .f64 a b = some r) : isN r = false := by
  unfold floatBits FloatKind.format Ieee.Format.add Ieee.Format.mul Ieee.Format.div at h
  rcases hop with rfl | rfl | rfl <;> simp only [Option.map_eq_some_iff] at h <;> obtain ⟨d, h1, rfl⟩ := h
  · exact write_isN (sum_num h1)
  · exact write_isN (product_num h1)
  · exact write_isN (quotient_num h1)

/-- A gauge of what an operation gave. -/
def canon : Option Nat → Int
  | some r => r
  | none => 9221120237041090561
theorem FRes_canon {op : BinOp} {a b r : Nat} (hop : op = .add ∨ op = .mul ∨ op = .quo) (h : FRes op a b r) : (if isN r then (9221120237041090561 : Int) else (r : Int)) = canon (floatBits op .f64 a b) := by
  rcases h with h | ⟨h, hn, _⟩
  · rw [h, bits_isN hop h]; simp [canon]
  · rw [h, hn]; simp [canon]

/-- Two gauges, compared. -/
def cmpV (a b : Nat) : Int :=
  if isN a then (if isN b then 0 else -1) else if isN b then 1 else if fOrd a b = some .lt then -1 else if fOrd a b = some .gt then 1 else 0

end Go.Proofs.YtmohokeeglnliaaDoor.Sx
