import Derived.Test.YtiihiifcnkfjoaaDoorCards
import Derived.Test.YtiihiifcnkfjoaaDoorTie
import Derived.Lib.LaidTab
import Derived.Test.YtiihiifcnkfjoaaDoorSxX
import Derived.Test.YtiihiifcnkfjoaaDoorSxC6
/-
  THE CARD OF SarcFronts: for every input the law returns true, and its arguments read behind the call as they did before (whatever was done before, a hit moves the frame to the front of its list and leaves both lists else as they were, holds what was held, and counts at most one more hit; a frame that lies in no list is not hit); on the condition that the variables that the row lists hold what their initialisers lay, which the card ties to the program's text.
-/
namespace Go.Proofs.YtiihiifcnkfjoaaDoor.sarcFronts
open Go Go.ChangeShapes Go.WideShapes Go.ChangeAt Go.RowKit Sx

theorem own : ownKnob Tryd.prog.godebug = none := by kernel_rfl
theorem laidOut : laidOutB Tryd.prog = true := by kernel_rfl
theorem gBoth : Tryd.prog.globalNamed "forerunner/sarc.both" = some 0 := by kernel_rfl
theorem gBothType : (Tryd.prog.globals[0]?).map (·.type) = some 92 := by kernel_rfl
theorem cells92 : Tryd.prog.cellsOf 92 = 2 := by kernel_rfl
theorem cells3 : Tryd.prog.cellsOf 3 = 1 := by kernel_rfl

/-- What the row's list gives. -/
theorem table {W : World} (h : laidMetH Tryd.prog Rows.sarcFrontsRow.laid W) : ∀ i j, i < 2 → j < 1 → ∃ ad y, (some ⟨0, 0, none⟩ : Option Addr) = some ad ∧ W.cell? (ad.add (i * 1 + j)) = some y ∧ vrel [] (gI i j) y := by
  have h : laidMet Tryd.prog [("forerunner/sarc.both", Rows.laid_forerunner_sarc_both)] W := h
  have ht := Lib.tabIs_of_head (zs := [0, 1]) (k := .i64) gBoth gBothType Tryd.underlying92 Tryd.underlying3 cells3 cells92 h
  intro i j hi hj
  obtain rfl : j = 0 := by omega
  have hc := ht.cell gBoth i (by simpa using hi)
  refine ⟨_, _, rfl, ?_, rfl⟩
  rw [Sx.add_plain, Nat.mul_one, Nat.add_zero]
  match i, hi with
  | 0, _ => exact hc
  | 1, _ => exact hc

set_option maxRecDepth 100000 in
theorem contract (H : Type) (enc : TypeId × Value → H) (W : World) (base : Nat) (args : Array Value) (ds gs : List (DataW H)) (before : List MemPlace)
    (hval : ∀ (j : Nat) t v, Tryd.f7.params[j]? = some t → args[j]? = some v → Value.okWide Tryd.prog W .any base t v)
    (hW : DataW.Whole enc Tryd.prog Tryd.f7.params.toList Rows.sarcFrontsSpec.vars false W args.toList ds gs before) (hL : laidMetH Tryd.prog Rows.sarcFrontsRow.laid W) :
    Calls Tryd.prog 7 args W fun e W' => ∃ v, e = .returned v ∧ Rows.sarcFrontsSpec.post enc Tryd.prog Tryd.f7 false true false false W args v W' := by
  have hW' := hW
  obtain ⟨p, q, hA0, hV, _, _, _⟩ := hW
  have hA : DataW.TrodAll enc Tryd.prog W 0 (fun _ => true) true Tryd.f7.params.toList args.toList ds p := hA0
  rw [Tryd.params7] at hA hval
  obtain ⟨v0, vs0, d0, ds0, p0, q0, hargs, rfl, rfl, h0, r0⟩ := trodAll_cons hA
  obtain ⟨v1, vs1, d1, ds1, p1, q1, rfl, rfl, rfl, h1, r1⟩ := trodAll_cons r0
  obtain ⟨v2, vs2, d2, ds2, p2, q2, rfl, rfl, rfl, h2, r2⟩ := trodAll_cons r1
  obtain ⟨rfl, rfl, rfl⟩ := trodAll_nil r2
  obtain rfl : args = #[v0, v1, v2] := by cases args; simp_all
  have w0 := hval 0 5 v0 rfl rfl
  obtain ⟨n0, rfl, k0⟩ := ok_int Tryd.underlying5 (val_cell ⟨_, Tryd.underlying5, rfl⟩ w0)
  have w1 := hval 1 22 v1 rfl rfl
  obtain ⟨ub1, un1, uc1, rfl, _⟩ := ok_slice Tryd.underlying22 (val_cell ⟨_, Tryd.underlying22, rfl⟩ w1)
  obtain ⟨sb1, sn1, sc1, sf1, sp1, e1, ss1, sl1, sh1, hc1⟩ := slice_mix (H := H) (enc := enc) (W := W) (sz := 3) (ck := fun _ => some .i64) Tryd.underlying22 Tryd.underlying33 (by kernel_rfl) rfl (fun j f hj => by match j, hj with | 0, hj | 1, hj | 2, hj => (cases hj; exact ⟨rfl, by kernel_rfl, by kernel_rfl⟩)) (v := .slice ub1 un1 uc1) h1.choose_spec
  obtain ⟨rfl, rfl, rfl⟩ : ub1 = sb1 ∧ un1 = sn1 ∧ uc1 = sc1 := by injection e1 with e1 e2 e3; exact ⟨e1, e2, e3⟩
  have w2 := hval 2 54 v2 rfl rfl
  obtain ⟨xs, rfl, y⟩ := open_cells ⟨_, Tryd.underlying54, rfl⟩ (ts := [5, 5]) (by kernel_rfl) (by kernel_rfl) w2
  obtain ⟨x0, xs, rfl, z0, y⟩ := ok_cons y
  obtain ⟨x1, xs, rfl, z1, y⟩ := ok_cons y
  obtain rfl := ok_nil y
  obtain ⟨a0, rfl, b0⟩ := ok_int Tryd.underlying5 z0
  obtain ⟨a1, rfl, b1⟩ := ok_int Tryd.underlying5 z1
  have walk := calls_of_spec (P := Tryd.prog) (W := W) Tryd.func7 (by kernel_rfl) rfl sFronts_ok (G := [(1000, eB), (100, .ro ub1 un1 3 (gMix (fun _ => some .i64) sf1 sp1))]) (args := [.int .u8 n0, .slice 100 0 un1 uc1, .agg [.int .u8 a0, .int .u8 a1]]) (rel_ros ⟨table hL, hc1, trivial⟩) (⟨_, _, rfl, rfl, _, _, rfl, ⟨ub1, 3, rfl, (congrArg (fun q => Value.slice q un1 uc1) (map_add0 ub1 3)).symm, ss1⟩, _, _, rfl, ⟨_, rfl, _, _, rfl, rfl, _, _, rfl, rfl, rfl⟩, rfl⟩) ⟨n0, a0, a1, ub1, un1, uc1, sf1, rfl, rfl, u8_has k0, u8_has b0, u8_has b1, sl1, rfl⟩
  refine Calls.mono walk fun e W' he => ?_
  obtain ⟨rfl, hf⟩ := he
  exact ⟨_, rfl, post_true laidOut (by kernel_rfl) rfl Tryd.underlying4 rfl (fun ds hd => by
    have hd : ds.length = 3 := hd
    rcases ds with _ | ⟨d0, _ | ⟨d1, _ | ⟨d2, _ | ⟨e, _⟩⟩⟩⟩
    all_goals first | rfl | (simp at hd)) hW' (below_of hf)⟩

/-- A world for the witness. -/
noncomputable def laidWorld (os : Os) : World :=
  { World.holding Tryd.prog os ⟨#[], #[], []⟩ with heap := ((World.holding Tryd.prog os ⟨#[], #[], []⟩).heap.modify 0 fun
      | .cells _ t frozen => .cells #[.int .i64 0, .int .i64 1] t frozen
      | o => o) }
theorem laid_met (os : Os) : laidMet Tryd.prog Rows.sarcFrontsRow.laid ((laidWorld os).forCall (fun _ _ => 0) ⟨#[], #[.int .u8 0, .slice none 0 0, .agg #[.int .u8 0, .int .u8 0]], []⟩).memory :=
  laidMet_of_run' 8 (by kernel_rfl) (by kernel_rfl)
theorem reads (os : Os) {H : Type} (enc : TypeId × Value → H) : ∃ places, DataW.whole enc Tryd.prog ((laidWorld os).forCall (fun _ _ => 0) ⟨#[], #[.int .u8 0, .slice none 0 0, .agg #[.int .u8 0, .int .u8 0]], []⟩).memory Tryd.f7.params.toList Rows.sarcFrontsSpec.vars false (#[.int .u8 0, .slice none 0 0, .agg #[.int .u8 0, .int .u8 0]] : Array Value).toList 8 = some ([.lit (.int .u8 0), .nil, .agg [.lit (.int .u8 0), .lit (.int .u8 0)]], [], places) :=
  ⟨[], by kernel_rfl⟩

set_option maxRecDepth 100000 in
theorem lifted (os : Os) (started : os.Started) (H : Type) (enc : TypeId × Value → H) (F : Stop.Interp) :
    ReturnsInHanded {} Tryd.checked os 7 .any ((OpenSpec.ofChange Rows.sarcFrontsSpec).preRow enc Tryd.prog Tryd.f7 Rows.sarcFrontsRow.domain false Rows.sarcFrontsRow.laid) (((OpenSpec.ofChange Rows.sarcFrontsSpec).at F).post enc Tryd.prog Tryd.f7 false true false false) := by
  obtain ⟨places, hx⟩ := reads os enc
  refine returnsInHanded_of_row (C := Tryd.checked) (s := OpenSpec.ofChange Rows.sarcFrontsSpec) own started (by kernel_rfl) Tryd.func7
    (witness_row_at (enc := enc) (C := Tryd.checked) false (laidWorld os) #[.int .u8 0, .slice none 0 0, .agg #[.int .u8 0, .int .u8 0]] rfl (by kernel_rfl) (by kernel_rfl) (by kernel_rfl)
      (OpenSpec.preRow_of_cond 8 hx (by kernel_rfl) (fun k hk => by cases hk) (by kernel_rfl) (laid_met os))) ?_
  intro W base args ds gs before hval hW _ _ _ hL _ _
  exact contract H enc W base args ds gs before hval hW hL

theorem said : Rows.SarcFrontsSaid :=
  OpenClaim.holds_of_cond 7 Tryd.f7 rfl rfl rfl rfl rfl rfl rfl ⟨rfl, rfl, rfl, rfl, rfl⟩ rfl rfl rfl rfl rfl (by kernel_rfl) Tryd.func7 (by kernel_rfl)
    (of_decide_eq_true (by kernel_rfl)) (by unfold Func.isWrapper; first | (rw [if_pos (by decide +kernel)]; kernel_rfl) | (rw [if_neg (by decide +kernel)]; exact ⟨rfl, rfl⟩))
    (fun os started H enc _ F => by rw [OpenClaim.pre_eq_preRow]; exact lifted os started H enc F)

theorem plain (f : FuncId) (fn : Func) (hf : Tryd.pinned.checked.prog.funcNamed "forerunner/forerunnerlaw07.SarcFronts" = some f) (hfn : Tryd.pinned.checked.prog.funcs[f]? = some fn) :
    false = Tryd.pinned.checked.prog.looks [] ∧ ∀ (j : Nat) t, fn.params[j]? = some t → Tryd.pinned.checked.prog.wantsStandIn t = false := by
  obtain rfl : f = 7 := Option.some.inj ((show Tryd.prog.funcNamed "forerunner/forerunnerlaw07.SarcFronts" = some 7 by kernel_rfl).symm.trans hf) |>.symm
  obtain rfl : fn = Tryd.f7 := (Option.some.inj (Tryd.func7.symm.trans hfn)).symm
  refine ⟨by kernel_rfl, fun j t ht => ?_⟩
  rw [Tryd.params7] at ht
  have hm : t ∈ [5, 22, 54] := by simpa using Array.mem_of_getElem? ht
  have hall : ([5, 22, 54].all fun u => !Tryd.prog.wantsStandIn u) = true := by kernel_rfl
  exact (show Tryd.prog.wantsStandIn t = false by simpa using List.all_eq_true.1 hall t hm)

theorem card : Rows.SarcFrontsCardSaid :=
  Claim7.holds_tied_plain_at .later [] _ _ _ _ said (fun _ h => by cases h) (by kernel_rfl) (fun _ h => by cases h) sarcFronts_row_tie rfl ⟨rfl, rfl⟩ (by kernel_rfl) rfl plain (by kernel_rfl)
end Go.Proofs.YtiihiifcnkfjoaaDoor.sarcFronts
