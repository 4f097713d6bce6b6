import Derived.Test.YtfmnebdfanaafaaRows
import Derived.Test.YtfmnebdfanaafaaSxX
import Derived.Test.YtfmnebdfanaafaaSxW15
/-
  RunCovers: for every input the law returns true, and its arguments read behind the call as they did before (of any blocks the runs that have them are what the document says; what two runs have in common, and a run's blocks, too). No condition.
-/
namespace Go.Proofs.Ytfmnebdfanaafaa.runCovers
open Go Go.ChangeShapes Go.WideShapes Go.ChangeAt Go.RowKit Sx

theorem own : ownKnob Try.prog.godebug = none := by kernel_rfl
theorem laidOut : laidOutB Try.prog = true := by kernel_rfl

set_option maxRecDepth 100000 in
theorem contract (H : Type) (enc : TypeId × Value → H) (W : World) (base : Nat) (args : Array Value) (ds gs : List (DataW H)) (before : List MemPlace)
    (hval : ∀ (j : Nat) t v, Try.f4.params[j]? = some t → args[j]? = some v → Value.okWide Try.prog W .any base t v)
    (hW : DataW.Whole enc Try.prog Try.f4.params.toList Rows.runCoversSpec.vars false W args.toList ds gs before) :
    Calls Try.prog 4 args W fun e W' => ∃ v, e = .returned v ∧ Rows.runCoversSpec.post enc Try.prog Try.f4 false true false false W args v W' := by
  have hW' := hW
  obtain ⟨p, q, hA0, hV, _, _, _⟩ := hW
  have hA : DataW.TrodAll enc Try.prog W 0 (fun _ => true) true Try.f4.params.toList args.toList ds p := hA0
  rw [Try.params4] at hA hval
  obtain ⟨v0, vs0, d0, ds0, p0, q0, hargs, rfl, rfl, h0, r0⟩ := trodAll_cons hA
  obtain ⟨v1, vs1, d1, ds1, p1, q1, rfl, rfl, rfl, h1, r1⟩ := trodAll_cons r0
  obtain ⟨v2, vs2, d2, ds2, p2, q2, rfl, rfl, rfl, h2, r2⟩ := trodAll_cons r1
  obtain ⟨rfl, rfl, rfl⟩ := trodAll_nil r2
  obtain rfl : args = #[v0, v1, v2] := by cases args; simp_all
  have w0 := hval 0 22 v0 rfl rfl
  obtain ⟨ub0, un0, uc0, rfl, _⟩ := ok_slice Try.underlying22 (val_cell ⟨_, Try.underlying22, rfl⟩ w0)
  obtain ⟨sb0, sn0, sc0, sf0, e0, ss0, sl0, sh0, hc0⟩ := slice_ints (H := H) (enc := enc) (W := W) Try.underlying22 Try.underlying3 (by kernel_rfl) (v := .slice ub0 un0 uc0) h0.choose_spec
  obtain ⟨rfl, rfl, rfl⟩ : ub0 = sb0 ∧ un0 = sn0 ∧ uc0 = sc0 := by injection e0 with e1 e2 e3; exact ⟨e1, e2, e3⟩
  have w1 := hval 1 3 v1 rfl rfl
  obtain ⟨n1, rfl, k1⟩ := ok_int Try.underlying3 (val_cell ⟨_, Try.underlying3, rfl⟩ w1)
  have w2 := hval 2 32 v2 rfl rfl
  obtain ⟨xs, rfl, y⟩ := open_cells ⟨_, Try.underlying32, rfl⟩ (ts := [3, 3, 3, 3]) (by kernel_rfl) (by kernel_rfl) w2
  obtain ⟨x0, xs, rfl, z0, y⟩ := ok_cons y
  obtain ⟨x1, xs, rfl, z1, y⟩ := ok_cons y
  obtain ⟨x2, xs, rfl, z2, y⟩ := ok_cons y
  obtain ⟨x3, xs, rfl, z3, y⟩ := ok_cons y
  obtain rfl := ok_nil y
  obtain ⟨a0, rfl, b0⟩ := ok_int Try.underlying3 z0
  obtain ⟨a1, rfl, b1⟩ := ok_int Try.underlying3 z1
  obtain ⟨a2, rfl, b2⟩ := ok_int Try.underlying3 z2
  obtain ⟨a3, rfl, b3⟩ := ok_int Try.underlying3 z3
  have walk := calls_of_spec (P := Try.prog) (W := W) Try.func4 (by kernel_rfl) rfl sLaw4_ok (G := [(2000, .ro ub0 un0 1 (g1 .i64 sf0))]) (args := [.slice 2000 0 un0 uc0, .int .i64 n1, .agg [.int .i64 a0, .int .i64 a1, .int .i64 a2, .int .i64 a3]]) (rel_ros ⟨hc0, trivial⟩) (⟨_, _, rfl, ⟨ub0, 1, rfl, (congrArg (fun q => Value.slice q un0 uc0) (map_add0 ub0 1)).symm, ss0⟩, _, _, rfl, rfl, _, _, rfl, ⟨_, rfl, _, _, rfl, rfl, _, _, rfl, rfl, _, _, rfl, rfl, _, _, rfl, rfl, rfl⟩, rfl⟩) ⟨_, un0, sf0, n1, a0, a1, a2, a3, rfl, .inr ⟨2000, 0, uc0, ub0, un0, _, rfl, rfl, by omega, sf0, fun _ _ => rfl, fun j hj => by rw [Nat.zero_add]⟩, sl0, k1, ⟨b0, b1⟩, ⟨b2, b3⟩, rfl⟩
  refine Calls.mono walk fun e W' he => ?_
  obtain ⟨rfl, hf⟩ := he
  exact ⟨_, rfl, post_true laidOut (by kernel_rfl) rfl Try.underlying4 rfl (fun ds hd => by
    have hd : ds.length = 3 := hd
    rcases ds with _ | ⟨d0, _ | ⟨d1, _ | ⟨d2, _ | ⟨e, _⟩⟩⟩⟩
    all_goals first | rfl | (simp at hd)) hW' (below_of hf)⟩

set_option maxRecDepth 100000 in
theorem lifted (os : Os) (started : os.Started) (H : Type) (enc : TypeId × Value → H) :
    ReturnsInHanded {} Try.checked os 4 .any (Rows.runCoversSpec.pre6 enc Try.prog Try.f4 Rows.runCoversRow.domain false) (Rows.runCoversSpec.post enc Try.prog Try.f4 false true false false) := by
  refine returnsInHanded_of_change (C := Try.checked) own started (by kernel_rfl) Try.func4
    (ChangeSpec.witness6 (enc := enc) (C := Try.checked) false ⟨#[], #[.slice none 0 0, .int .i64 0, .agg #[.int .i64 0, .int .i64 0, .int .i64 0, .int .i64 0]], []⟩ 8 (by kernel_rfl) (by kernel_rfl) (by kernel_rfl) (by kernel_rfl)) ?_
  intro W base args ds gs before hval0 hW hcnd _
  exact contract H enc W base args ds gs before hval0 hW

theorem proved : Rows.RunCoversSaid :=
  OpenClaim.holds_of_wide 4 Try.f4 rfl rfl rfl rfl rfl rfl rfl ⟨rfl, rfl, rfl, rfl, rfl⟩ rfl rfl rfl rfl rfl (by kernel_rfl) Try.func4 (by kernel_rfl)
    (of_decide_eq_true (by kernel_rfl)) (by unfold Func.isWrapper; first | (rw [if_pos (by decide +kernel)]; kernel_rfl) | (rw [if_neg (by decide +kernel)]; exact ⟨rfl, rfl⟩))
    (fun os started H enc _ => lifted os started H enc)
end Go.Proofs.Ytfmnebdfanaafaa.runCovers
