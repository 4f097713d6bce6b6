import Derived.Test.YtkncijljkfpdiaaRows
import Derived.Test.YtkncijljkfpdiaaSxX
import Derived.Test.YtkncijljkfpdiaaSxL3
/-
  LaneFull: for every input the law returns true, and its arguments read behind the call as they did before (as many tickets as there is room for, up to 128, in any of 256 lanes: all stand; one more doesn't, till one is pulled). No condition.
-/
namespace Go.Proofs.Ytkncijljkfpdiaa.laneFull
open Go Go.ChangeShapes Go.WideShapes Go.ChangeAt Go.RowKit Sx

theorem own : ownKnob Try.prog.godebug = none := by kernel_rfl
theorem laidOut : laidOutB Try.prog = true := by kernel_rfl

set_option maxRecDepth 100000 in
theorem contract (H : Type) (enc : TypeId × Value → H) (W : World) (base : Nat) (args : Array Value) (ds gs : List (DataW H)) (before : List MemPlace)
    (hval : ∀ (j : Nat) t v, Try.f3.params[j]? = some t → args[j]? = some v → Value.okWide Try.prog W .any base t v)
    (hW : DataW.Whole enc Try.prog Try.f3.params.toList Rows.laneFullSpec.vars false W args.toList ds gs before) :
    Calls Try.prog 3 args W fun e W' => ∃ v, e = .returned v ∧ Rows.laneFullSpec.post enc Try.prog Try.f3 false true false false W args v W' := by
  have hW' := hW
  obtain ⟨p, q, hA0, hV, _, _, _⟩ := hW
  have hA : DataW.TrodAll enc Try.prog W 0 (fun _ => true) true Try.f3.params.toList args.toList ds p := hA0
  rw [Try.params3] at hA hval
  obtain ⟨v0, vs0, d0, ds0, p0, q0, hargs, rfl, rfl, h0, r0⟩ := trodAll_cons hA
  obtain ⟨v1, vs1, d1, ds1, p1, q1, rfl, rfl, rfl, h1, r1⟩ := trodAll_cons r0
  obtain ⟨v2, vs2, d2, ds2, p2, q2, rfl, rfl, rfl, h2, r2⟩ := trodAll_cons r1
  obtain ⟨rfl, rfl, rfl⟩ := trodAll_nil r2
  obtain rfl : args = #[v0, v1, v2] := by cases args; simp_all
  have w0 := hval 0 5 v0 rfl rfl
  obtain ⟨n0, rfl, k0⟩ := ok_int Try.underlying5 (val_cell ⟨_, Try.underlying5, rfl⟩ w0)
  have w1 := hval 1 22 v1 rfl rfl
  obtain ⟨ub1, un1, uc1, rfl, _⟩ := ok_slice Try.underlying22 (val_cell ⟨_, Try.underlying22, rfl⟩ w1)
  obtain ⟨sb1, sn1, sc1, sf1, e1, ss1, sl1, sh1, hc1⟩ := slice_ints (H := H) (enc := enc) (W := W) Try.underlying22 Try.underlying5 (by kernel_rfl) (v := .slice ub1 un1 uc1) h1.choose_spec
  obtain ⟨rfl, rfl, rfl⟩ : ub1 = sb1 ∧ un1 = sn1 ∧ uc1 = sc1 := by injection e1 with e1 e2 e3; exact ⟨e1, e2, e3⟩
  have w2 := hval 2 5 v2 rfl rfl
  obtain ⟨n2, rfl, k2⟩ := ok_int Try.underlying5 (val_cell ⟨_, Try.underlying5, rfl⟩ w2)
  have walk := calls_of_spec (P := Try.prog) (W := W) Try.func3 (by kernel_rfl) rfl sLaw3_ok (G := [(100, .ro ub1 un1 1 (g1 .u8 sf1))]) (args := [.int .u8 n0, .slice 100 0 un1 uc1, .int .u8 n2]) (rel_ros ⟨hc1, trivial⟩) (⟨_, _, rfl, rfl, _, _, rfl, ⟨ub1, 1, rfl, (congrArg (fun q => Value.slice q un1 uc1) (map_add0 ub1 1)).symm, ss1⟩, _, _, rfl, rfl, rfl⟩) ⟨ub1, un1, uc1, sf1, n0, n2, rfl, rfl, sl1, u8_has k0, u8_has k2, sh1, rfl⟩
  refine Calls.mono walk fun e W' he => ?_
  obtain ⟨rfl, hf⟩ := he
  exact ⟨_, rfl, post_true laidOut (by kernel_rfl) rfl Try.underlying4 rfl (fun ds hd => by
    have hd : ds.length = 3 := hd
    rcases ds with _ | ⟨d0, _ | ⟨d1, _ | ⟨d2, _ | ⟨e, _⟩⟩⟩⟩
    all_goals first | rfl | (simp at hd)) hW' (below_of hf)⟩

set_option maxRecDepth 100000 in
theorem lifted (os : Os) (started : os.Started) (H : Type) (enc : TypeId × Value → H) :
    ReturnsInHanded {} Try.checked os 3 .any (Rows.laneFullSpec.pre6 enc Try.prog Try.f3 Rows.laneFullRow.domain false) (Rows.laneFullSpec.post enc Try.prog Try.f3 false true false false) := by
  refine returnsInHanded_of_change (C := Try.checked) own started (by kernel_rfl) Try.func3
    (ChangeSpec.witness6 (enc := enc) (C := Try.checked) false ⟨#[], #[.int .u8 0, .slice none 0 0, .int .u8 0], []⟩ 8 (by kernel_rfl) (by kernel_rfl) (by kernel_rfl) (by kernel_rfl)) ?_
  intro W base args ds gs before hval0 hW hcnd _
  exact contract H enc W base args ds gs before hval0 hW

theorem proved : Rows.LaneFullSaid :=
  OpenClaim.holds_of_wide 3 Try.f3 rfl rfl rfl rfl rfl rfl rfl ⟨rfl, rfl, rfl, rfl, rfl⟩ rfl rfl rfl rfl rfl (by kernel_rfl) Try.func3 (by kernel_rfl)
    (of_decide_eq_true (by kernel_rfl)) (by unfold Func.isWrapper; first | (rw [if_pos (by decide +kernel)]; kernel_rfl) | (rw [if_neg (by decide +kernel)]; exact ⟨rfl, rfl⟩))
    (fun os started H enc _ => lifted os started H enc)
end Go.Proofs.Ytkncijljkfpdiaa.laneFull
