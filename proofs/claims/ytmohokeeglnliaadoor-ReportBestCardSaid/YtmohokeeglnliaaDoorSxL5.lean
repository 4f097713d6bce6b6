import Derived.Test.YtmohokeeglnliaaDoorSxV8
import Derived.Test.YtmohokeeglnliaaDoorSxX
import Derived.Deep.Slices
/-
  Slices of rows of numbers among a law's arguments.
-/
namespace Go.Proofs.YtmohokeeglnliaaDoor.Sx
open Go Go.Proofs Go.RowKit Go.Sort
set_option linter.unusedSimpArgs false
set_option linter.unusedVariables false

section
variable {P : Program} {W : World} {H : Type} {enc : TypeId × Value → H} {spare : Nat → Bool} {held : Bool} {base : Nat}
/-- A slice of structs of numbers that reads. -/
theorem slice_rows {t e : TypeId} {sz : Nat} {fs : Array Field} {ks : Nat → IntKind} {fuel : Nat} {v : Value} {x : DataW H × List MemPlace} (ht : P.underlying t = some (.slice e)) (he : P.underlying e = some (.struct fs)) (ce : P.cellsOf e = sz) (hn : fs.size = sz)
    (hf : ∀ j f, fs[j]? = some f → f.offset = j ∧ P.cellsOf f.type = 1 ∧ P.underlying f.type = some (.int (ks j)))
    (h : DataW.trod enc P W base spare held fuel t [v] = some x) :
    ∃ (b : Option Addr) (n c : Nat) (f : Nat → Nat → Int), v = .slice b n c ∧ (b.isSome = true ∨ n = 0 ∧ c = 0) ∧ n ≤ 9223372036854775807 ∧ (∀ i j, i < n → j < sz → (ks j).has (f i j)) ∧ ∀ i j, i < n → j < sz → ∃ ad y, b = some ad ∧ W.cell? (ad.add (i * sz + j)) = some y ∧ vrel [] (gK ks f i j) y := by
  rcases Deep.open_slice ht h with ⟨h1, _⟩ | ⟨a, len, cap, m, n, D, Pl, h1, hb, hl, hm, hmm, _, hx⟩
  · injection h1 with h1
    exact ⟨none, 0, 0, fun _ _ => 0, h1, .inr ⟨rfl, rfl⟩, by omega, fun i j hi => absurd hi (by omega), fun i j hi => absurd hi (by omega)⟩
  · injection h1 with h1
    have hlm : len ≤ m := by rw [hmm]; split <;> omega
    have hml : maxLen = 9223372036854775807 := rfl
    have each : ∀ i j, ∃ z : Int, i < len → j < sz → W.cell? (a.add (i * sz + j)) = some (.int (ks j) z) ∧ (ks j).has z := by
      intro i j
      by_cases hi : i < len
      · by_cases hj : j < sz
        · obtain ⟨cs', q1, q2⟩ := hx i (by omega)
          rw [ce] at q1
          obtain ⟨_, hlen, hcell⟩ := World.cells?_some q1
          obtain ⟨xs, k, hk, hxy, _, hxl, hff⟩ := DataW.trod_struct he q2
          have hjf : j < fs.size := by omega
          obtain ⟨o1, c1, u1⟩ := hf j fs[j] (Array.getElem?_eq_getElem hjf)
          have g := hff j fs[j] (by simp)
          rw [o1, c1, List.getElem?_eq_getElem (by omega)] at g
          obtain ⟨z, r1, _, r3⟩ := DataW.trod_int u1 g
          refine ⟨z, fun _ _ => ⟨?_, ?_⟩⟩
          · have e1 := hcell j hj
            rw [Deep.add_add] at e1
            rw [e1]
            have := congrArg (·[0]?) r1
            simpa [List.getElem?_take, List.getElem?_drop] using this
          · simpa [Lit.wf, IntKind.has] using r3
        · exact ⟨0, fun _ q => absurd q hj⟩
      · exact ⟨0, fun q => absurd q hi⟩
    have each := fun i j => Classical.indefiniteDescription _ (each i j)
    refine ⟨some a, len, cap, fun i j => (each i j).1, h1, .inl rfl, by omega, fun i j hi hj => ((each i j).2 hi hj).2, fun i j hi hj => ⟨a, _, rfl, ((each i j).2 hi hj).1, rfl⟩⟩
end
end Go.Proofs.YtmohokeeglnliaaDoor.Sx
