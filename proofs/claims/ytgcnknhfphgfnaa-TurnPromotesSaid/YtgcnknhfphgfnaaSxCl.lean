import Derived.Test.YtgcnknhfphgfnaaSxX
set_option linter.unusedVariables false
set_option linter.unusedSimpArgs false
set_option linter.unusedSectionVars false
/-
  The engine: slices of bools, and of structs of numbers and bools, among a law's arguments.
-/
namespace Go.Proofs.Ytgcnknhfphgfnaa.Sx
open Go Go.RowKit Go.ChangeShapes Go.WideShapes Go.ChangeAt

/-- Cells by columns: of numbers (of a kind), or of bools. -/
def gMix (ck : Nat → Option IntKind) (z : Nat → Nat → Int) (p : Nat → Nat → Bool) : Nat → Nat → V := fun i j => match ck j with | some k => .int k (z i j) | none => .bool (p i j)
def gBool (p : Nat → Bool) : Nat → Nat → V := fun i _ => .bool (p i)

section
variable {P : Program} {W : World} {H : Type} {enc : TypeId × Value → H} {spare : Nat → Bool} {held : Bool} {base : Nat}

theorem slice_bools {t e : TypeId} {fuel : Nat} {v : Value} {x : DataW H × List MemPlace} (ht : P.underlying t = some (.slice e)) (he : P.underlying e = some .bool) (ce : P.cellsOf e = 1)
    (h : DataW.trod enc P W base spare held fuel t [v] = some x) :
    ∃ (b : Option Addr) (n c : Nat) (f : Nat → Bool), v = .slice b n c ∧ (b.isSome = true ∨ n = 0 ∧ c = 0) ∧ n ≤ 9223372036854775807 ∧ ∀ i j, i < n → j < 1 → ∃ ad y, b = some ad ∧ W.cell? (ad.add (i * 1 + j)) = some y ∧ vrel [] (gBool f i j) y := by
  rcases Deep.open_slice ht h with ⟨h1, _⟩ | ⟨a, len, cap, m, n, D, Pl, h1, hb, hl, hm, hmm, _, hx⟩
  · injection h1 with h1
    exact ⟨none, 0, 0, fun _ => false, h1, .inr ⟨rfl, rfl⟩, by omega, fun i j hi => absurd hi (by omega)⟩
  · injection h1 with h1
    have hlm : len ≤ m := by rw [hmm]; split <;> omega
    have hml : maxLen = 9223372036854775807 := rfl
    have each : ∀ i, ∃ q : Bool, i < len → W.cell? (a.add (i * 1 + 0)) = some (.bool q) := by
      intro i
      by_cases hi : i < len
      · obtain ⟨cs', q1, q2⟩ := hx i (by omega)
        rw [ce] at q1
        obtain ⟨_, hlen, hcell⟩ := World.cells?_some q1
        obtain ⟨q, r1, r2⟩ := DataW.trod_bool he q2
        refine ⟨q, fun _ => ?_⟩
        have e1 := hcell 0 (by omega)
        rw [Deep.add_add] at e1
        rw [e1, r1]
        rfl
      · exact ⟨false, fun q => absurd q hi⟩
    have each := fun i => Classical.indefiniteDescription _ (each i)
    refine ⟨some a, len, cap, fun i => (each i).1, h1, .inl rfl, by omega, fun i j hi hj => ?_⟩
    obtain rfl : j = 0 := by omega
    exact ⟨a, _, rfl, (each i).2 hi, rfl⟩

theorem slice_mix {t e : TypeId} {sz : Nat} {fs : Array Field} {ck : Nat → Option IntKind} {fuel : Nat} {v : Value} {x : DataW H × List MemPlace} (ht : P.underlying t = some (.slice e)) (he : P.underlying e = some (.struct fs)) (ce : P.cellsOf e = sz) (hn : fs.size = sz)
    (hf : ∀ j f, fs[j]? = some f → f.offset = j ∧ P.cellsOf f.type = 1 ∧ P.underlying f.type = some (match ck j with | some k => .int k | none => .bool))
    (h : DataW.trod enc P W base spare held fuel t [v] = some x) :
    ∃ (b : Option Addr) (n c : Nat) (z : Nat → Nat → Int) (p : Nat → Nat → Bool), v = .slice b n c ∧ (b.isSome = true ∨ n = 0 ∧ c = 0) ∧ n ≤ 9223372036854775807 ∧ (∀ i j k, i < n → j < sz → ck j = some k → k.has (z i j)) ∧ ∀ i j, i < n → j < sz → ∃ ad y, b = some ad ∧ W.cell? (ad.add (i * sz + j)) = some y ∧ vrel [] (gMix ck z p i j) y := by
  rcases Deep.open_slice ht h with ⟨h1, _⟩ | ⟨a, len, cap, m, n, D, Pl, h1, hb, hl, hm, hmm, _, hx⟩
  · injection h1 with h1
    exact ⟨none, 0, 0, fun _ _ => 0, fun _ _ => false, h1, .inr ⟨rfl, rfl⟩, by omega, fun i j k hi => absurd hi (by omega), fun i j hi => absurd hi (by omega)⟩
  · injection h1 with h1
    have hlm : len ≤ m := by rw [hmm]; split <;> omega
    have hml : maxLen = 9223372036854775807 := rfl
    have each : ∀ i j, ∃ zp : Int × Bool, i < len → j < sz → W.cell? (a.add (i * sz + j)) = some (match ck j with | some k => .int k zp.1 | none => .bool zp.2) ∧ ∀ k, ck j = some k → k.has zp.1 := by
      intro i j
      by_cases hi : i < len
      · by_cases hj : j < sz
        · obtain ⟨cs', q1, q2⟩ := hx i (by omega)
          rw [ce] at q1
          obtain ⟨_, hlen, hcell⟩ := World.cells?_some q1
          obtain ⟨xs, k, hk, hxy, _, hxl, hff⟩ := DataW.trod_struct he q2
          have hjf : j < fs.size := by omega
          obtain ⟨o1, c1, u1⟩ := hf j fs[j] (Array.getElem?_eq_getElem hjf)
          have g := hff j fs[j] (by simp)
          rw [o1, c1, List.getElem?_eq_getElem (by omega)] at g
          have e1 := hcell j hj
          rw [Deep.add_add] at e1
          cases hck : ck j with
          | some kk =>
            rw [hck] at u1
            obtain ⟨z, r1, _, r3⟩ := DataW.trod_int u1 g
            refine ⟨(z, false), fun _ _ => ⟨?_, fun k' e' => ?_⟩⟩
            · rw [e1]
              have := congrArg (·[0]?) r1
              simpa [List.getElem?_take, List.getElem?_drop] using this
            · cases e'
              simpa [Lit.wf, IntKind.has] using r3
          | none =>
            rw [hck] at u1
            obtain ⟨z, r1, _⟩ := DataW.trod_bool u1 g
            refine ⟨(0, z), fun _ _ => ⟨?_, fun k' e' => by cases e'⟩⟩
            rw [e1]
            have := congrArg (·[0]?) r1
            simpa [List.getElem?_take, List.getElem?_drop] using this
        · exact ⟨(0, false), fun _ q => absurd q hj⟩
      · exact ⟨(0, false), fun q => absurd q hi⟩
    have each := fun i j => Classical.indefiniteDescription _ (each i j)
    refine ⟨some a, len, cap, fun i j => (each i j).1.1, fun i j => (each i j).1.2, h1, .inl rfl, by omega, fun i j k hi hj hk => ((each i j).2 hi hj).2 k hk, fun i j hi hj => ⟨a, _, rfl, ((each i j).2 hi hj).1, ?_⟩⟩
    exact mix_rel _ _ _
where mix_rel (o : Option IntKind) (a : Int) (q : Bool) : vrel [] (match o with | some k => V.int k a | none => V.bool q) (match o with | some k => Value.int k a | none => Value.bool q) := by cases o <;> rfl
end
end Go.Proofs.Ytgcnknhfphgfnaa.Sx
