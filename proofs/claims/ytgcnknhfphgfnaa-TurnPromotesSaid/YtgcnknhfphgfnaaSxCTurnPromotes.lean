import Derived.Test.YtgcnknhfphgfnaaRows
import Derived.Test.YtgcnknhfphgfnaaSxX
import Derived.Test.YtgcnknhfphgfnaaSxX5
/-
  TurnPromotes: for every input the law returns true, and its arguments read behind the call as they did before (for every input the law returns true, and its argument reads behind the call as it did before (20 ask on demand, 20 ahead; whoever is promoted waits behind all who asked on demand, once). No condition.). No condition.
-/
namespace Go.Proofs.Ytgcnknhfphgfnaa.turnPromotes
open Go Go.ChangeShapes Go.WideShapes Go.ChangeAt Go.RowKit Sx

theorem own : ownKnob Try.prog.godebug = none := by kernel_rfl
theorem laidOut : laidOutB Try.prog = true := by kernel_rfl

set_option maxRecDepth 100000 in
theorem contract (H : Type) (enc : TypeId × Value → H) (W : World) (base : Nat) (args : Array Value) (ds gs : List (DataW H)) (before : List MemPlace)
    (hval : ∀ (j : Nat) t v, Try.f4.params[j]? = some t → args[j]? = some v → Value.okWide Try.prog W .any base t v)
    (hW : DataW.Whole enc Try.prog Try.f4.params.toList Rows.turnPromotesSpec.vars false W args.toList ds gs before) :
    Calls Try.prog 4 args W fun e W' => ∃ v, e = .returned v ∧ Rows.turnPromotesSpec.post enc Try.prog Try.f4 false true false false W args v W' := by
  have hW' := hW
  obtain ⟨p, q, hA0, hV, _, _, _⟩ := hW
  have hA : DataW.TrodAll enc Try.prog W 0 (fun _ => true) true Try.f4.params.toList args.toList ds p := hA0
  rw [Try.params4] at hA hval
  obtain ⟨v0, vs0, d0, ds0, p0, q0, hargs, rfl, rfl, h0, r0⟩ := trodAll_cons hA
  obtain ⟨rfl, rfl, rfl⟩ := trodAll_nil r0
  obtain rfl : args = #[v0] := by cases args; simp_all
  have w0 := hval 0 40 v0 rfl rfl
  obtain ⟨ub0, un0, uc0, rfl, _⟩ := ok_slice Try.underlying40 (val_cell ⟨_, Try.underlying40, rfl⟩ w0)
  obtain ⟨sb0, sn0, sc0, sf0, e0, ss0, sl0, sh0, hc0⟩ := slice_ints (H := H) (enc := enc) (W := W) Try.underlying40 Try.underlying5 (by kernel_rfl) (v := .slice ub0 un0 uc0) h0.choose_spec
  obtain ⟨rfl, rfl, rfl⟩ : ub0 = sb0 ∧ un0 = sn0 ∧ uc0 = sc0 := by injection e0 with e1 e2 e3; exact ⟨e1, e2, e3⟩
  have walk := calls_of_spec (P := Try.prog) (W := W) Try.func4 (by kernel_rfl) rfl sLaw4_ok (G := [(100, .ro ub0 un0 1 (g1 .u8 sf0))]) (args := [.slice 100 0 un0 uc0]) (rel_ros ⟨hc0, trivial⟩) (⟨_, _, rfl, ⟨ub0, 1, rfl, (congrArg (fun q => Value.slice q un0 uc0) (map_add0 ub0 1)).symm, ss0⟩, rfl⟩) ⟨ub0, un0, uc0, sf0, rfl, rfl, sl0, fun i hi => sh0 i hi, rfl⟩
  refine Calls.mono walk fun e W' he => ?_
  obtain ⟨rfl, hf⟩ := he
  exact ⟨_, rfl, post_true laidOut (by kernel_rfl) rfl Try.underlying4 rfl (fun ds hd => by
    have hd : ds.length = 1 := hd
    rcases ds with _ | ⟨d0, _ | ⟨e, _⟩⟩
    all_goals first | rfl | (simp at hd)) hW' (below_of hf)⟩

set_option maxRecDepth 100000 in
theorem lifted (os : Os) (started : os.Started) (H : Type) (enc : TypeId × Value → H) :
    ReturnsInHanded {} Try.checked os 4 .any (Rows.turnPromotesSpec.pre6 enc Try.prog Try.f4 Rows.turnPromotesRow.domain false) (Rows.turnPromotesSpec.post enc Try.prog Try.f4 false true false false) := by
  refine returnsInHanded_of_change (C := Try.checked) own started (by kernel_rfl) Try.func4
    (ChangeSpec.witness6 (enc := enc) (C := Try.checked) false ⟨#[], #[.slice none 0 0], []⟩ 8 (by kernel_rfl) (by kernel_rfl) (by kernel_rfl) (by kernel_rfl)) ?_
  intro W base args ds gs before hval0 hW hcnd _
  exact contract H enc W base args ds gs before hval0 hW

theorem proved : Rows.TurnPromotesSaid :=
  OpenClaim.holds_of_wide 4 Try.f4 rfl rfl rfl rfl rfl rfl rfl ⟨rfl, rfl, rfl, rfl, rfl⟩ rfl rfl rfl rfl rfl (by kernel_rfl) Try.func4 (by kernel_rfl)
    (of_decide_eq_true (by kernel_rfl)) (by unfold Func.isWrapper; first | (rw [if_pos (by decide +kernel)]; kernel_rfl) | (rw [if_neg (by decide +kernel)]; exact ⟨rfl, rfl⟩))
    (fun os started H enc _ => lifted os started H enc)
end Go.Proofs.Ytgcnknhfphgfnaa.turnPromotes
