import Derived.Test.YtfmnebdfanaafaaRows
import Derived.Test.YtfmnebdfanaafaaSxR
import Derived.Test.YtfmnebdfanaafaaSxW12
/-
  RunMeets: for every input the law returns true, and its arguments read behind the call as they did before (what runs have in common hangs on no order, is in each of them, and is one of them alone just if that lies in the other). No condition.
-/
namespace Go.Proofs.Ytfmnebdfanaafaa.runMeets
open Go Go.ChangeShapes Go.WideShapes Go.ChangeAt Go.RowKit Sx

theorem own : ownKnob Try.prog.godebug = none := by kernel_rfl
theorem laidOut : laidOutB Try.prog = true := by kernel_rfl

set_option maxRecDepth 100000 in
theorem contract (H : Type) (enc : TypeId × Value → H) (W : World) (base : Nat) (args : Array Value) (ds gs : List (DataW H)) (before : List MemPlace)
    (hval : ∀ (j : Nat) t v, Try.f6.params[j]? = some t → args[j]? = some v → Value.okWide Try.prog W .any base t v)
    (hW : DataW.Whole enc Try.prog Try.f6.params.toList Rows.runMeetsSpec.vars false W args.toList ds gs before) :
    Calls Try.prog 6 args W fun e W' => ∃ v, e = .returned v ∧ Rows.runMeetsSpec.post enc Try.prog Try.f6 false true false false W args v W' := by
  have hW' := hW
  obtain ⟨p, q, hA0, hV, _, _, _⟩ := hW
  have hA : DataW.TrodAll enc Try.prog W 0 (fun _ => true) true Try.f6.params.toList args.toList ds p := hA0
  rw [Try.params6] at hA hval
  obtain ⟨v0, vs0, d0, ds0, p0, q0, hargs, rfl, rfl, h0, r0⟩ := trodAll_cons hA
  obtain ⟨v1, vs1, d1, ds1, p1, q1, rfl, rfl, rfl, h1, r1⟩ := trodAll_cons r0
  obtain ⟨v2, vs2, d2, ds2, p2, q2, rfl, rfl, rfl, h2, r2⟩ := trodAll_cons r1
  obtain ⟨rfl, rfl, rfl⟩ := trodAll_nil r2
  obtain rfl : args = #[v0, v1, v2] := by cases args; simp_all
  have w0 := hval 0 27 v0 rfl rfl
  obtain ⟨xs, rfl, y⟩ := open_cells ⟨_, Try.underlying27, rfl⟩ (ts := [3, 3]) (by kernel_rfl) (by kernel_rfl) w0
  obtain ⟨x0, xs, rfl, z0, y⟩ := ok_cons y
  obtain ⟨x1, xs, rfl, z1, y⟩ := ok_cons y
  obtain rfl := ok_nil y
  obtain ⟨a0, rfl, b0⟩ := ok_int Try.underlying3 z0
  obtain ⟨a1, rfl, b1⟩ := ok_int Try.underlying3 z1
  have w1 := hval 1 27 v1 rfl rfl
  obtain ⟨xs, rfl, y⟩ := open_cells ⟨_, Try.underlying27, rfl⟩ (ts := [3, 3]) (by kernel_rfl) (by kernel_rfl) w1
  obtain ⟨x0, xs, rfl, z0, y⟩ := ok_cons y
  obtain ⟨x1, xs, rfl, z1, y⟩ := ok_cons y
  obtain rfl := ok_nil y
  obtain ⟨a2, rfl, b2⟩ := ok_int Try.underlying3 z0
  obtain ⟨a3, rfl, b3⟩ := ok_int Try.underlying3 z1
  have w2 := hval 2 27 v2 rfl rfl
  obtain ⟨xs, rfl, y⟩ := open_cells ⟨_, Try.underlying27, rfl⟩ (ts := [3, 3]) (by kernel_rfl) (by kernel_rfl) w2
  obtain ⟨x0, xs, rfl, z0, y⟩ := ok_cons y
  obtain ⟨x1, xs, rfl, z1, y⟩ := ok_cons y
  obtain rfl := ok_nil y
  obtain ⟨a4, rfl, b4⟩ := ok_int Try.underlying3 z0
  obtain ⟨a5, rfl, b5⟩ := ok_int Try.underlying3 z1
  have walk := calls_of_spec (P := Try.prog) (W := W) Try.func6 (by kernel_rfl) rfl sLaw6_ok (G := []) (args := [.agg [.int .i64 a0, .int .i64 a1], .agg [.int .i64 a2, .int .i64 a3], .agg [.int .i64 a4, .int .i64 a5]]) (rel_nil) (⟨_, _, rfl, ⟨_, rfl, _, _, rfl, rfl, _, _, rfl, rfl, rfl⟩, _, _, rfl, ⟨_, rfl, _, _, rfl, rfl, _, _, rfl, rfl, rfl⟩, _, _, rfl, ⟨_, rfl, _, _, rfl, rfl, _, _, rfl, rfl, rfl⟩, rfl⟩) ⟨⟨b0, b1⟩, ⟨b2, b3⟩, ⟨b4, b5⟩, rfl⟩
  refine Calls.mono walk fun e W' he => ?_
  obtain ⟨rfl, hf⟩ := he
  exact ⟨_, rfl, post_true laidOut (by kernel_rfl) rfl Try.underlying4 rfl (fun ds hd => by
    have hd : ds.length = 3 := hd
    rcases ds with _ | ⟨d0, _ | ⟨d1, _ | ⟨d2, _ | ⟨e, _⟩⟩⟩⟩
    all_goals first | rfl | (simp at hd)) hW' (below_of hf)⟩

set_option maxRecDepth 100000 in
theorem lifted (os : Os) (started : os.Started) (H : Type) (enc : TypeId × Value → H) :
    ReturnsInHanded {} Try.checked os 6 .any (Rows.runMeetsSpec.pre6 enc Try.prog Try.f6 Rows.runMeetsRow.domain false) (Rows.runMeetsSpec.post enc Try.prog Try.f6 false true false false) := by
  refine returnsInHanded_of_change (C := Try.checked) own started (by kernel_rfl) Try.func6
    (ChangeSpec.witness6 (enc := enc) (C := Try.checked) false ⟨#[], #[.agg #[.int .i64 0, .int .i64 0], .agg #[.int .i64 0, .int .i64 0], .agg #[.int .i64 0, .int .i64 0]], []⟩ 8 (by kernel_rfl) (by kernel_rfl) (by kernel_rfl) (by kernel_rfl)) ?_
  intro W base args ds gs before hval0 hW hcnd _
  exact contract H enc W base args ds gs before hval0 hW

theorem proved : Rows.RunMeetsSaid :=
  OpenClaim.holds_of_wide 6 Try.f6 rfl rfl rfl rfl rfl rfl rfl ⟨rfl, rfl, rfl, rfl, rfl⟩ rfl rfl rfl rfl rfl (by kernel_rfl) Try.func6 (by kernel_rfl)
    (of_decide_eq_true (by kernel_rfl)) (by unfold Func.isWrapper; first | (rw [if_pos (by decide +kernel)]; kernel_rfl) | (rw [if_neg (by decide +kernel)]; exact ⟨rfl, rfl⟩))
    (fun os started H enc _ => lifted os started H enc)
end Go.Proofs.Ytfmnebdfanaafaa.runMeets
