import Derived.Test.YtgcnknhfphgfnaaRows
import Derived.Test.YtgcnknhfphgfnaaSxCl
import Derived.Test.YtgcnknhfphgfnaaSxX1
/-
  TurnPlays: for every input the law returns true, and its arguments read behind the call as they did before (turns are made just where the document lets them; then a script of up to 150 steps: behind each of them the turns and the document's tell the same). No condition.
-/
namespace Go.Proofs.Ytgcnknhfphgfnaa.turnPlays
open Go Go.ChangeShapes Go.WideShapes Go.ChangeAt Go.RowKit Sx

theorem own : ownKnob Try.prog.godebug = none := by kernel_rfl
theorem laidOut : laidOutB Try.prog = true := by kernel_rfl

set_option maxRecDepth 100000 in
theorem contract (H : Type) (enc : TypeId × Value → H) (W : World) (base : Nat) (args : Array Value) (ds gs : List (DataW H)) (before : List MemPlace)
    (hval : ∀ (j : Nat) t v, Try.f5.params[j]? = some t → args[j]? = some v → Value.okWide Try.prog W .any base t v)
    (hW : DataW.Whole enc Try.prog Try.f5.params.toList Rows.turnPlaysSpec.vars false W args.toList ds gs before) :
    Calls Try.prog 5 args W fun e W' => ∃ v, e = .returned v ∧ Rows.turnPlaysSpec.post enc Try.prog Try.f5 false true false false W args v W' := by
  have hW' := hW
  obtain ⟨p, q, hA0, hV, _, _, _⟩ := hW
  have hA : DataW.TrodAll enc Try.prog W 0 (fun _ => true) true Try.f5.params.toList args.toList ds p := hA0
  rw [Try.params5] at hA hval
  obtain ⟨v0, vs0, d0, ds0, p0, q0, hargs, rfl, rfl, h0, r0⟩ := trodAll_cons hA
  obtain ⟨v1, vs1, d1, ds1, p1, q1, rfl, rfl, rfl, h1, r1⟩ := trodAll_cons r0
  obtain ⟨v2, vs2, d2, ds2, p2, q2, rfl, rfl, rfl, h2, r2⟩ := trodAll_cons r1
  obtain ⟨rfl, rfl, rfl⟩ := trodAll_nil r2
  obtain rfl : args = #[v0, v1, v2] := by cases args; simp_all
  have w0 := hval 0 3 v0 rfl rfl
  obtain ⟨n0, rfl, k0⟩ := ok_int Try.underlying3 (val_cell ⟨_, Try.underlying3, rfl⟩ w0)
  have w1 := hval 1 3 v1 rfl rfl
  obtain ⟨n1, rfl, k1⟩ := ok_int Try.underlying3 (val_cell ⟨_, Try.underlying3, rfl⟩ w1)
  have w2 := hval 2 22 v2 rfl rfl
  obtain ⟨ub2, un2, uc2, rfl, _⟩ := ok_slice Try.underlying22 (val_cell ⟨_, Try.underlying22, rfl⟩ w2)
  obtain ⟨sb2, sn2, sc2, sf2, sp2, e2, ss2, sl2, sh2, hc2⟩ := slice_mix (H := H) (enc := enc) (W := W) (sz := 3) (ck := ckA) Try.underlying22 Try.underlying32 (by kernel_rfl) rfl (fun j f hj => by match j, hj with | 0, hj | 1, hj | 2, hj => (cases hj; exact ⟨rfl, by kernel_rfl, by kernel_rfl⟩)) (v := .slice ub2 un2 uc2) h2.choose_spec
  obtain ⟨rfl, rfl, rfl⟩ : ub2 = sb2 ∧ un2 = sn2 ∧ uc2 = sc2 := by injection e2 with e1 e2 e3; exact ⟨e1, e2, e3⟩
  have walk := calls_of_spec (P := Try.prog) (W := W) Try.func5 (by kernel_rfl) rfl sLaw5_ok (G := [(100, .ro ub2 un2 3 (gMix (ckA) sf2 sp2))]) (args := [.int .i64 n0, .int .i64 n1, .slice 100 0 un2 uc2]) (rel_ros ⟨hc2, trivial⟩) (⟨_, _, rfl, rfl, _, _, rfl, rfl, _, _, rfl, ⟨ub2, 3, rfl, (congrArg (fun q => Value.slice q un2 uc2) (map_add0 ub2 3)).symm, ss2⟩, rfl⟩) ⟨ub2, un2, uc2, sf2, sp2, n0, n1, rfl, rfl, sl2, rfl⟩
  refine Calls.mono walk fun e W' he => ?_
  obtain ⟨rfl, hf⟩ := he
  exact ⟨_, rfl, post_true laidOut (by kernel_rfl) rfl Try.underlying4 rfl (fun ds hd => by
    have hd : ds.length = 3 := hd
    rcases ds with _ | ⟨d0, _ | ⟨d1, _ | ⟨d2, _ | ⟨e, _⟩⟩⟩⟩
    all_goals first | rfl | (simp at hd)) hW' (below_of hf)⟩

set_option maxRecDepth 100000 in
theorem lifted (os : Os) (started : os.Started) (H : Type) (enc : TypeId × Value → H) :
    ReturnsInHanded {} Try.checked os 5 .any (Rows.turnPlaysSpec.pre6 enc Try.prog Try.f5 Rows.turnPlaysRow.domain false) (Rows.turnPlaysSpec.post enc Try.prog Try.f5 false true false false) := by
  refine returnsInHanded_of_change (C := Try.checked) own started (by kernel_rfl) Try.func5
    (ChangeSpec.witness6 (enc := enc) (C := Try.checked) false ⟨#[], #[.int .i64 0, .int .i64 0, .slice none 0 0], []⟩ 8 (by kernel_rfl) (by kernel_rfl) (by kernel_rfl) (by kernel_rfl)) ?_
  intro W base args ds gs before hval0 hW hcnd _
  exact contract H enc W base args ds gs before hval0 hW

theorem proved : Rows.TurnPlaysSaid :=
  OpenClaim.holds_of_wide 5 Try.f5 rfl rfl rfl rfl rfl rfl rfl ⟨rfl, rfl, rfl, rfl, rfl⟩ rfl rfl rfl rfl rfl (by kernel_rfl) Try.func5 (by kernel_rfl)
    (of_decide_eq_true (by kernel_rfl)) (by unfold Func.isWrapper; first | (rw [if_pos (by decide +kernel)]; kernel_rfl) | (rw [if_neg (by decide +kernel)]; exact ⟨rfl, rfl⟩))
    (fun os started H enc _ => lifted os started H enc)
end Go.Proofs.Ytgcnknhfphgfnaa.turnPlays
