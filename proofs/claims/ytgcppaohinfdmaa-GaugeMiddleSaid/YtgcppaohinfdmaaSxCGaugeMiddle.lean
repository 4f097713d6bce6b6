import Derived.Test.YtgcppaohinfdmaaRows
import Derived.Test.YtgcppaohinfdmaaSxR
import Derived.Test.YtgcppaohinfdmaaSxW12
/-
  GaugeMiddle: for every input the law returns true, and its arguments read behind the call as they did before (the mean of two gauges that aren't tiny (0, or at least 2^-1021, of either sign) lies between them, unless it is no number, which it is just of one that is none, or of both ends). No condition.
-/
namespace Go.Proofs.Ytgcppaohinfdmaa.gaugeMiddle
open Go Go.ChangeShapes Go.WideShapes Go.ChangeAt Go.RowKit Sx

theorem own : ownKnob Try.prog.godebug = none := by kernel_rfl
theorem laidOut : laidOutB Try.prog = true := by kernel_rfl

set_option maxRecDepth 100000 in
theorem contract (H : Type) (enc : TypeId × Value → H) (W : World) (base : Nat) (args : Array Value) (ds gs : List (DataW H)) (before : List MemPlace)
    (hval : ∀ (j : Nat) t v, Try.f7.params[j]? = some t → args[j]? = some v → Value.okWide Try.prog W .any base t v)
    (hW : DataW.Whole enc Try.prog Try.f7.params.toList Rows.gaugeMiddleSpec.vars false W args.toList ds gs before) :
    Calls Try.prog 7 args W fun e W' => ∃ v, e = .returned v ∧ Rows.gaugeMiddleSpec.post enc Try.prog Try.f7 false true false false W args v W' := by
  have hW' := hW
  obtain ⟨p, q, hA0, hV, _, _, _⟩ := hW
  have hA : DataW.TrodAll enc Try.prog W 0 (fun _ => true) true Try.f7.params.toList args.toList ds p := hA0
  rw [Try.params7] at hA hval
  obtain ⟨v0, vs0, d0, ds0, p0, q0, hargs, rfl, rfl, h0, r0⟩ := trodAll_cons hA
  obtain ⟨v1, vs1, d1, ds1, p1, q1, rfl, rfl, rfl, h1, r1⟩ := trodAll_cons r0
  obtain ⟨rfl, rfl, rfl⟩ := trodAll_nil r1
  obtain rfl : args = #[v0, v1] := by cases args; simp_all
  have w0 := hval 0 22 v0 rfl rfl
  obtain ⟨n0, rfl, k0⟩ := ok_int Try.underlying22 (val_cell ⟨_, Try.underlying22, rfl⟩ w0)
  have w1 := hval 1 22 v1 rfl rfl
  obtain ⟨n1, rfl, k1⟩ := ok_int Try.underlying22 (val_cell ⟨_, Try.underlying22, rfl⟩ w1)
  have walk := calls_of_spec (P := Try.prog) (W := W) Try.func7 (by kernel_rfl) rfl sLaw7_ok (G := []) (args := [.int .u64 n0, .int .u64 n1]) (rel_nil) (⟨_, _, rfl, rfl, _, _, rfl, rfl, rfl⟩) ⟨k0, k1, rfl⟩
  refine Calls.mono walk fun e W' he => ?_
  obtain ⟨rfl, hf⟩ := he
  exact ⟨_, rfl, post_true laidOut (by kernel_rfl) rfl Try.underlying4 rfl (fun ds hd => by
    have hd : ds.length = 2 := hd
    rcases ds with _ | ⟨d0, _ | ⟨d1, _ | ⟨e, _⟩⟩⟩
    all_goals first | rfl | (simp at hd)) hW' (below_of hf)⟩

set_option maxRecDepth 100000 in
theorem lifted (os : Os) (started : os.Started) (H : Type) (enc : TypeId × Value → H) :
    ReturnsInHanded {} Try.checked os 7 .any (Rows.gaugeMiddleSpec.pre6 enc Try.prog Try.f7 Rows.gaugeMiddleRow.domain false) (Rows.gaugeMiddleSpec.post enc Try.prog Try.f7 false true false false) := by
  refine returnsInHanded_of_change (C := Try.checked) own started (by kernel_rfl) Try.func7
    (ChangeSpec.witness6 (enc := enc) (C := Try.checked) false ⟨#[], #[.int .u64 0, .int .u64 0], []⟩ 8 (by kernel_rfl) (by kernel_rfl) (by kernel_rfl) (by kernel_rfl)) ?_
  intro W base args ds gs before hval0 hW hcnd _
  exact contract H enc W base args ds gs before hval0 hW

theorem proved : Rows.GaugeMiddleSaid :=
  OpenClaim.holds_of_wide 7 Try.f7 rfl rfl rfl rfl rfl rfl rfl ⟨rfl, rfl, rfl, rfl, rfl⟩ rfl rfl rfl rfl rfl (by kernel_rfl) Try.func7 (by kernel_rfl)
    (of_decide_eq_true (by kernel_rfl)) (by unfold Func.isWrapper; first | (rw [if_pos (by decide +kernel)]; kernel_rfl) | (rw [if_neg (by decide +kernel)]; exact ⟨rfl, rfl⟩))
    (fun os started H enc _ => lifted os started H enc)
end Go.Proofs.Ytgcppaohinfdmaa.gaugeMiddle
