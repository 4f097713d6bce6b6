import Derived.Test.YtkncijljkfpdiaaRows
import Derived.Test.YtkncijljkfpdiaaSxCl
import Derived.Test.YtkncijljkfpdiaaSxL4
/-
  LaneApart: for every input the law returns true, and its arguments read behind the call as they did before (up to 100 steps on one structure of lanes; those of one lane alone on another: that lane is the same in both behind each step). No condition.
-/
namespace Go.Proofs.Ytkncijljkfpdiaa.laneApart
open Go Go.ChangeShapes Go.WideShapes Go.ChangeAt Go.RowKit Sx

theorem own : ownKnob Try.prog.godebug = none := by kernel_rfl
theorem laidOut : laidOutB Try.prog = true := by kernel_rfl

set_option maxRecDepth 100000 in
theorem contract (H : Type) (enc : TypeId × Value → H) (W : World) (base : Nat) (args : Array Value) (ds gs : List (DataW H)) (before : List MemPlace)
    (hval : ∀ (j : Nat) t v, Try.f5.params[j]? = some t → args[j]? = some v → Value.okWide Try.prog W .any base t v)
    (hW : DataW.Whole enc Try.prog Try.f5.params.toList Rows.laneApartSpec.vars false W args.toList ds gs before) :
    Calls Try.prog 5 args W fun e W' => ∃ v, e = .returned v ∧ Rows.laneApartSpec.post enc Try.prog Try.f5 false true false false W args v W' := by
  have hW' := hW
  obtain ⟨p, q, hA0, hV, _, _, _⟩ := hW
  have hA : DataW.TrodAll enc Try.prog W 0 (fun _ => true) true Try.f5.params.toList args.toList ds p := hA0
  rw [Try.params5] at hA hval
  obtain ⟨v0, vs0, d0, ds0, p0, q0, hargs, rfl, rfl, h0, r0⟩ := trodAll_cons hA
  obtain ⟨v1, vs1, d1, ds1, p1, q1, rfl, rfl, rfl, h1, r1⟩ := trodAll_cons r0
  obtain ⟨rfl, rfl, rfl⟩ := trodAll_nil r1
  obtain rfl : args = #[v0, v1] := by cases args; simp_all
  have w0 := hval 0 5 v0 rfl rfl
  obtain ⟨n0, rfl, k0⟩ := ok_int Try.underlying5 (val_cell ⟨_, Try.underlying5, rfl⟩ w0)
  have w1 := hval 1 36 v1 rfl rfl
  obtain ⟨ub1, un1, uc1, rfl, _⟩ := ok_slice Try.underlying36 (val_cell ⟨_, Try.underlying36, rfl⟩ w1)
  obtain ⟨sb1, sn1, sc1, sf1, sp1, e1, ss1, sl1, sh1, hc1⟩ := slice_mix (H := H) (enc := enc) (W := W) (sz := 3) (ck := fun _ => some .i64) Try.underlying36 Try.underlying38 (by kernel_rfl) rfl (fun j f hj => by match j, hj with | 0, hj | 1, hj | 2, hj => (cases hj; exact ⟨rfl, by kernel_rfl, by kernel_rfl⟩)) (v := .slice ub1 un1 uc1) h1.choose_spec
  obtain ⟨rfl, rfl, rfl⟩ : ub1 = sb1 ∧ un1 = sn1 ∧ uc1 = sc1 := by injection e1 with e1 e2 e3; exact ⟨e1, e2, e3⟩
  have walk := calls_of_spec (P := Try.prog) (W := W) Try.func5 (by kernel_rfl) rfl sLaw5_ok (G := [(100, .ro ub1 un1 3 (gMix (fun _ => some .i64) sf1 sp1))]) (args := [.int .u8 n0, .slice 100 0 un1 uc1]) (rel_ros ⟨hc1, trivial⟩) (⟨_, _, rfl, rfl, _, _, rfl, ⟨ub1, 3, rfl, (congrArg (fun q => Value.slice q un1 uc1) (map_add0 ub1 3)).symm, ss1⟩, rfl⟩) ⟨ub1, un1, uc1, sf1, n0, rfl, rfl, sl1, u8_has k0, rfl⟩
  refine Calls.mono walk fun e W' he => ?_
  obtain ⟨rfl, hf⟩ := he
  exact ⟨_, rfl, post_true laidOut (by kernel_rfl) rfl Try.underlying4 rfl (fun ds hd => by
    have hd : ds.length = 2 := hd
    rcases ds with _ | ⟨d0, _ | ⟨d1, _ | ⟨e, _⟩⟩⟩
    all_goals first | rfl | (simp at hd)) hW' (below_of hf)⟩

set_option maxRecDepth 100000 in
theorem lifted (os : Os) (started : os.Started) (H : Type) (enc : TypeId × Value → H) :
    ReturnsInHanded {} Try.checked os 5 .any (Rows.laneApartSpec.pre6 enc Try.prog Try.f5 Rows.laneApartRow.domain false) (Rows.laneApartSpec.post enc Try.prog Try.f5 false true false false) := by
  refine returnsInHanded_of_change (C := Try.checked) own started (by kernel_rfl) Try.func5
    (ChangeSpec.witness6 (enc := enc) (C := Try.checked) false ⟨#[], #[.int .u8 0, .slice none 0 0], []⟩ 8 (by kernel_rfl) (by kernel_rfl) (by kernel_rfl) (by kernel_rfl)) ?_
  intro W base args ds gs before hval0 hW hcnd _
  exact contract H enc W base args ds gs before hval0 hW

theorem proved : Rows.LaneApartSaid :=
  OpenClaim.holds_of_wide 5 Try.f5 rfl rfl rfl rfl rfl rfl rfl ⟨rfl, rfl, rfl, rfl, rfl⟩ rfl rfl rfl rfl rfl (by kernel_rfl) Try.func5 (by kernel_rfl)
    (of_decide_eq_true (by kernel_rfl)) (by unfold Func.isWrapper; first | (rw [if_pos (by decide +kernel)]; kernel_rfl) | (rw [if_neg (by decide +kernel)]; exact ⟨rfl, rfl⟩))
    (fun os started H enc _ => lifted os started H enc)
end Go.Proofs.Ytkncijljkfpdiaa.laneApart
