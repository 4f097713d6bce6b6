import Derived.Test.YtjkakcaljklkhaaDoorSxW3
/-
  The walks of this seat's functions, fourth part: the document's Op, both Runs, both Usuals.
-/
namespace Go.Proofs.YtjkakcaljklkhaaDoor.Sx
open Go Go.Proofs
set_option maxRecDepth 100000
set_option linter.unusedSimpArgs false
set_option linter.unusedVariables false

def sOpRef : Spec := fun args h nx K => match args with
  | [.int .i64 bl, .agg [.int .i64 k, .int .i64 id, .int .i64 fi, .int .i64 co, vs, .bool we]] => (match lenV vs with
    | some n => n ≤ 9223372036854775807 ∧ K (.ret (.int .i64 (opC bl k id fi co n we))) h nx
    | none => False)
  | _ => False

/-- What the document's Op says, in its own order. -/
def opR (bl k id fi co : Int) (n : Nat) (we : Bool) : Int :=
  if bl < 1 ∨ bl > 256 ∨ k < 1 ∨ k > 5 then 1
  else if k = 3 ∧ id ≠ 0 ∨ k ≠ 3 ∧ id < 1 then 1
  else if k ≠ 2 ∧ (n : Int) > 0 ∨ k ≠ 5 ∧ we = true then 1
  else if k ≠ 1 ∧ k ≠ 3 ∧ co ≠ 0 ∨ k > 3 ∧ fi ≠ 0 then 1
  else if k > 3 then 0
  else if countN k co n < 1 ∨ countN k co n > 8 then 1
  else if fi < 0 ∨ fi ≥ bl ∨ fi + countN k co n > bl then 6 else 0

theorem opR_eq (bl k id fi co : Int) (n : Nat) (we : Bool) : opR bl k id fi co n we = opC bl k id fi co n we := by
  unfold opR opC
  by_cases k1 : k = 1
  · subst k1
    simp [sizeN, sizeB, countN, inB]
    grind
  by_cases k2 : k = 2
  · subst k2
    simp [sizeN, sizeB, countN, inB]
    grind
  by_cases k3 : k = 3
  · subst k3
    simp [sizeN, sizeB, countN, inB]
    grind
  by_cases k4 : k = 4
  · subst k4
    simp [sizeN, sizeB, countN, inB]
    grind
  by_cases k5 : k = 5
  · subst k5
    simp [sizeN, sizeB, countN, inB]
    grind
  · rw [if_pos (by omega), if_pos (by right; left; simp [sizeB, k1, k2, k3, k4, k5])]

set_option maxHeartbeats 2000000 in
theorem sOpRef_ok : SpecOK Tryd.prog 14 sOpRef := by
  refine specOK_pure' (fn := Tryd.f14) rfl rfl rfl T_ok (SP := [(17, sIn), (18, sSize), (19, sCount)]) sp2 [] trivial 300 _ ?_
  intro args h nx K hs
  unfold sOpRef at hs
  split at hs
  · rename_i bl k id fi co vs we
    split at hs
    · rename_i n e
      refine ⟨trivial, fun xs hv => ?_⟩
      obtain ⟨x0, xs0, rfl, r0, x, xs', rfl, r, rfl⟩ := hv
      obtain ⟨b, cp, r⟩ := opRaw (h' := []) e r
      refine ⟨[.int .i64 bl, .agg [.int .i64 k, .int .i64 id, .int .i64 fi, .int .i64 co, .raw (.slice b n cp), .bool we]], ⟨_, _, rfl, r0, _, _, rfl, r, rfl⟩, by simp [Tryd.f14], fun o => o = .ret (.int .i64 (opC bl k id fi co n we)), ?_, ?_⟩
      · rintro o rfl; exact ⟨trivial, hs.2⟩
      intro c hc
      have hn := hs.1
      clear hs r r0 e
      cases we
      all_goals intro bb
      all_goals repeat' (first
        | refine br_decT (by omega) ?_ | refine br_decF (by omega) ?_ | refine br_dec (fun _ => ?_) (fun _ => ?_)
        | refine br_eqT (by omega) ?_ | refine br_eqF (by omega) ?_ | refine br_eq (fun _ => ?_) (fun _ => ?_)
        | refine br_neT (by omega) ?_ | refine br_neF (by omega) ?_ | refine br_ne (fun _ => ?_) (fun _ => ?_)
        | refine br_both (fun _ => ?_) (fun _ => ?_))
      all_goals refine outI ?_
      all_goals rw [← opR_eq]
      all_goals simp only [opR, IntKind.wrap_i64, Bool.false_eq_true, and_true, and_false, or_false] at *
      all_goals (repeat' split)
      all_goals omega
    · exact hs.elim
  · exact hs.elim

end Go.Proofs.YtjkakcaljklkhaaDoor.Sx
