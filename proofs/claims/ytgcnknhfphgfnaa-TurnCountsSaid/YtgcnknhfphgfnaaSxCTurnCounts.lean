import Derived.Test.YtgcnknhfphgfnaaRows
import Derived.Test.YtgcnknhfphgfnaaSxCl
import Derived.Test.YtgcnknhfphgfnaaSxX4
/-
  TurnCounts: for every input the law returns true, and its arguments read behind the call as they did before (for every input the law returns true, and its arguments read behind the call as they did before (turns made to fit the two numbers; behind each step with a ticket of 1 to 40 what is free and what the 40 tickets hold make up the whole). No condition.). No condition.
-/
namespace Go.Proofs.Ytgcnknhfphgfnaa.turnCounts
open Go Go.ChangeShapes Go.WideShapes Go.ChangeAt Go.RowKit Sx

theorem own : ownKnob Try.prog.godebug = none := by kernel_rfl
theorem laidOut : laidOutB Try.prog = true := by kernel_rfl

set_option maxRecDepth 100000 in
theorem contract (H : Type) (enc : TypeId × Value → H) (W : World) (base : Nat) (args : Array Value) (ds gs : List (DataW H)) (before : List MemPlace)
    (hval : ∀ (j : Nat) t v, Try.f7.params[j]? = some t → args[j]? = some v → Value.okWide Try.prog W .any base t v)
    (hW : DataW.Whole enc Try.prog Try.f7.params.toList Rows.turnCountsSpec.vars false W args.toList ds gs before) :
    Calls Try.prog 7 args W fun e W' => ∃ v, e = .returned v ∧ Rows.turnCountsSpec.post enc Try.prog Try.f7 false true false false W args v W' := by
  have hW' := hW
  obtain ⟨p, q, hA0, hV, _, _, _⟩ := hW
  have hA : DataW.TrodAll enc Try.prog W 0 (fun _ => true) true Try.f7.params.toList args.toList ds p := hA0
  rw [Try.params7] at hA hval
  obtain ⟨v0, vs0, d0, ds0, p0, q0, hargs, rfl, rfl, h0, r0⟩ := trodAll_cons hA
  obtain ⟨v1, vs1, d1, ds1, p1, q1, rfl, rfl, rfl, h1, r1⟩ := trodAll_cons r0
  obtain ⟨rfl, rfl, rfl⟩ := trodAll_nil r1
  obtain rfl : args = #[v0, v1] := by cases args; simp_all
  have w0 := hval 0 22 v0 rfl rfl
  obtain ⟨ub0, un0, uc0, rfl, _⟩ := ok_slice Try.underlying22 (val_cell ⟨_, Try.underlying22, rfl⟩ w0)
  obtain ⟨sb0, sn0, sc0, sf0, sp0, e0, ss0, sl0, sh0, hc0⟩ := slice_mix (H := H) (enc := enc) (W := W) (sz := 3) (ck := ckA) Try.underlying22 Try.underlying32 (by kernel_rfl) rfl (fun j f hj => by match j, hj with | 0, hj | 1, hj | 2, hj => (cases hj; exact ⟨rfl, by kernel_rfl, by kernel_rfl⟩)) (v := .slice ub0 un0 uc0) h0.choose_spec
  obtain ⟨rfl, rfl, rfl⟩ : ub0 = sb0 ∧ un0 = sn0 ∧ uc0 = sc0 := by injection e0 with e1 e2 e3; exact ⟨e1, e2, e3⟩
  have w1 := hval 1 51 v1 rfl rfl
  obtain ⟨xs, rfl, y⟩ := open_cells ⟨_, Try.underlying51, rfl⟩ (ts := [5, 5]) (by kernel_rfl) (by kernel_rfl) w1
  obtain ⟨x0, xs, rfl, z0, y⟩ := ok_cons y
  obtain ⟨x1, xs, rfl, z1, y⟩ := ok_cons y
  obtain rfl := ok_nil y
  obtain ⟨a0, rfl, b0⟩ := ok_int Try.underlying5 z0
  obtain ⟨a1, rfl, b1⟩ := ok_int Try.underlying5 z1
  have walk := calls_of_spec (P := Try.prog) (W := W) Try.func7 (by kernel_rfl) rfl sLaw7_ok (G := [(100, .ro ub0 un0 3 (gMix (ckA) sf0 sp0))]) (args := [.slice 100 0 un0 uc0, .agg [.int .u8 a0, .int .u8 a1]]) (rel_ros ⟨hc0, trivial⟩) (⟨_, _, rfl, ⟨ub0, 3, rfl, (congrArg (fun q => Value.slice q un0 uc0) (map_add0 ub0 3)).symm, ss0⟩, _, _, rfl, ⟨_, rfl, _, _, rfl, rfl, _, _, rfl, rfl, rfl⟩, rfl⟩) ⟨ub0, un0, uc0, sf0, sp0, a0, a1, rfl, rfl, sl0, ⟨b0.1, Int.lt_add_one_of_le b0.2⟩, ⟨b1.1, Int.lt_add_one_of_le b1.2⟩, rfl⟩
  refine Calls.mono walk fun e W' he => ?_
  obtain ⟨rfl, hf⟩ := he
  exact ⟨_, rfl, post_true laidOut (by kernel_rfl) rfl Try.underlying4 rfl (fun ds hd => by
    have hd : ds.length = 2 := hd
    rcases ds with _ | ⟨d0, _ | ⟨d1, _ | ⟨e, _⟩⟩⟩
    all_goals first | rfl | (simp at hd)) hW' (below_of hf)⟩

set_option maxRecDepth 100000 in
theorem lifted (os : Os) (started : os.Started) (H : Type) (enc : TypeId × Value → H) :
    ReturnsInHanded {} Try.checked os 7 .any (Rows.turnCountsSpec.pre6 enc Try.prog Try.f7 Rows.turnCountsRow.domain false) (Rows.turnCountsSpec.post enc Try.prog Try.f7 false true false false) := by
  refine returnsInHanded_of_change (C := Try.checked) own started (by kernel_rfl) Try.func7
    (ChangeSpec.witness6 (enc := enc) (C := Try.checked) false ⟨#[], #[.slice none 0 0, .agg #[.int .u8 0, .int .u8 0]], []⟩ 8 (by kernel_rfl) (by kernel_rfl) (by kernel_rfl) (by kernel_rfl)) ?_
  intro W base args ds gs before hval0 hW hcnd _
  exact contract H enc W base args ds gs before hval0 hW

theorem proved : Rows.TurnCountsSaid :=
  OpenClaim.holds_of_wide 7 Try.f7 rfl rfl rfl rfl rfl rfl rfl ⟨rfl, rfl, rfl, rfl, rfl⟩ rfl rfl rfl rfl rfl (by kernel_rfl) Try.func7 (by kernel_rfl)
    (of_decide_eq_true (by kernel_rfl)) (by unfold Func.isWrapper; first | (rw [if_pos (by decide +kernel)]; kernel_rfl) | (rw [if_neg (by decide +kernel)]; exact ⟨rfl, rfl⟩))
    (fun os started H enc _ => lifted os started H enc)
end Go.Proofs.Ytgcnknhfphgfnaa.turnCounts
