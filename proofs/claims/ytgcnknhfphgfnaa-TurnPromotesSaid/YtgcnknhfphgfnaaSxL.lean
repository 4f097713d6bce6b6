import Derived.Test.YtgcnknhfphgfnaaSxK
set_option linter.unusedVariables false
set_option linter.unusedSimpArgs false
/-
  The engine, twelfth part: a table of types is tested by reckoning.
-/
namespace Go.Proofs.Ytgcnknhfphgfnaa.Sx
open Go

def z1 : V → Value → Bool
  | .bool a, .bool b => a == b
  | .int k a, .int k' b => k == k' && a == b
  | .flt k a, .float k' b => k == k' && a == b
  | .str s, .string t => (match s.data.toList, t.data.toList with | [], [] => true | _, _ => false)
  | .nilp, .pointer none => true
  | .nils, .slice none 0 0 => true
  | .nilm, .map none => true
  | .nilf, .nilFunc => true
  | .nili, .nilIface => true
  | _, _ => false
def zL : List V → List Value → Bool
  | [], [] => true
  | v :: vs, x :: xs => z1 v x && zL vs xs
  | _, _ => false
def zB (P : Program) (p : Nat × TI) : Bool := p.2.zero.length != p.2.n || (match P.info? p.1 with
  | some i => (match i.zero with | some v => zL p.2.zero v.cells.toList | none => false)
  | none => false)

theorem z1_ok {v : V} {x : Value} (h : z1 v x = true) : vrel [] v x := by
  unfold z1 at h
  split at h
  · have := eq_of_beq h; subst this; rfl
  · simp only [Bool.and_eq_true] at h
    obtain ⟨h1, h2⟩ := h
    have := eq_of_beq h1; have h2 := eq_of_beq h2; subst this h2; rfl
  · simp only [Bool.and_eq_true] at h
    obtain ⟨h1, h2⟩ := h
    have := eq_of_beq h1; have h2 := eq_of_beq h2; subst this h2; rfl
  · rename_i s t
    split at h
    · rename_i e1 e2
      have : s = t := by
        obtain ⟨⟨s⟩⟩ := s
        obtain ⟨⟨t⟩⟩ := t
        simp only at e1 e2
        subst e1 e2
        rfl
      subst this; rfl
    · cases h
  all_goals first | rfl | cases h
theorem zL_ok : ∀ {vs : List V} {xs : List Value}, zL vs xs = true → vrelL [] vs xs
  | [], [], _ => rfl
  | [], _ :: _, h => by simp [zL] at h
  | _ :: _, [], h => by simp [zL] at h
  | v :: vs, x :: xs, h => by
    simp only [zL, Bool.and_eq_true] at h
    exact vrelL_cons (z1_ok h.1) (zL_ok h.2)

theorem tabOK_of {P : Program} {T : Tab} (h1 : (T.all fun p => tyB P p.1 p.2) = true) (h2 : (T.all (zB P)) = true) : TabOK P T := by
  rw [List.all_eq_true] at h1 h2
  refine ⟨fun p hp => h1 p hp, fun p hp hl => ?_⟩
  have := h2 p hp
  unfold zB at this
  rw [hl] at this
  simp only [bne_self_eq_false, Bool.false_or] at this
  split at this
  · rename_i i hi
    split at this
    · rename_i v hv
      exact ⟨i, v, hi, hv, zL_ok this⟩
    · cases this
  · cases this

end Go.Proofs.Ytgcnknhfphgfnaa.Sx
