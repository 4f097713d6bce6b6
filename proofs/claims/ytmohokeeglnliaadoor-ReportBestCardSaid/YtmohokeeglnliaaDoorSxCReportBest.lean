import Derived.Test.YtmohokeeglnliaaDoorCards
import Derived.Test.YtmohokeeglnliaaDoorTie
import Derived.Lib.LaidTab
import Derived.Test.YtmohokeeglnliaaDoorSxX
import Derived.Test.YtmohokeeglnliaaDoorSxL6
/-
  THE CARD OF ReportBest: for every input the law returns true, and its arguments read behind the call as they did before (of any tallies which is the best, how any two stand, and of any reports the means, are what the document says); on the condition that the variables that the row lists hold what their initialisers lay, which the card ties to the program's text.
-/
namespace Go.Proofs.YtmohokeeglnliaaDoor.reportBest
open Go Go.ChangeShapes Go.WideShapes Go.ChangeAt Go.RowKit Sx

theorem own : ownKnob Tryd.prog.godebug = none := by kernel_rfl
theorem laidOut : laidOutB Tryd.prog = true := by kernel_rfl
theorem gPow : Tryd.prog.globalNamed "internal/strconv.uint64pow10" = some 2 := by kernel_rfl
theorem gPowType : (Tryd.prog.globals[2]?).map (·.type) = some 96 := by kernel_rfl
theorem cells96 : Tryd.prog.cellsOf 96 = 20 := by kernel_rfl
theorem cells22 : Tryd.prog.cellsOf 22 = 1 := by kernel_rfl

/-- What the row's list gives. -/
theorem table {W : World} (h : laidMetH Tryd.prog Rows.reportBestRow.laid W) : Tabs (quiet Tryd.prog W) := by
  have h : laidMet Tryd.prog [("math/bits.deBruijn32tab", Rows.laid_math_bits_deBruijn32tab), ("math/bits.deBruijn64tab", Rows.laid_math_bits_deBruijn64tab), ("internal/strconv.uint64pow10", Rows.laid_internal_strconv_uint64pow10)] W := h
  intro p hp
  obtain rfl := List.mem_singleton.1 hp
  exact ⟨Lib.tabIs_of_head (zs := [1, 10, 100, 1000, 10000, 100000, 1000000, 10000000, 100000000, 1000000000, 10000000000, 100000000000, 1000000000000, 10000000000000, 100000000000000, 1000000000000000, 10000000000000000, 100000000000000000, 1000000000000000000, 10000000000000000000]) (k := .u64) gPow gPowType Tryd.underlying96 Tryd.underlying22 cells22 cells96 (show laidMet Tryd.prog [("internal/strconv.uint64pow10", Rows.laid_internal_strconv_uint64pow10)] W from h.filter fun x => x.1 == "internal/strconv.uint64pow10"), fun _ _ q => q⟩

theorem rows24 {fs : Array Field} (h : Tryd.prog.underlying 24 = some (.struct fs)) : ∀ j f, fs[j]? = some f → f.offset = j ∧ Tryd.prog.cellsOf f.type = 1 ∧ Tryd.prog.underlying f.type = some (.int (kT j)) := by
  obtain rfl := TypeDesc.struct.inj (Option.some.inj (Tryd.underlying24.symm.trans h))
  intro j f hf
  match j with
  | 0 => injection hf with hf; subst hf; exact ⟨rfl, by kernel_rfl, by kernel_rfl⟩
  | 1 => injection hf with hf; subst hf; exact ⟨rfl, by kernel_rfl, by kernel_rfl⟩
  | 2 => injection hf with hf; subst hf; exact ⟨rfl, by kernel_rfl, by kernel_rfl⟩
  | 3 => injection hf with hf; subst hf; exact ⟨rfl, by kernel_rfl, by kernel_rfl⟩
  | 4 => injection hf with hf; subst hf; exact ⟨rfl, by kernel_rfl, by kernel_rfl⟩
  | 5 => injection hf with hf; subst hf; exact ⟨rfl, by kernel_rfl, by kernel_rfl⟩
  | 6 => injection hf with hf; subst hf; exact ⟨rfl, by kernel_rfl, by kernel_rfl⟩
  | 7 => injection hf with hf; subst hf; exact ⟨rfl, by kernel_rfl, by kernel_rfl⟩
  | 8 => injection hf with hf; subst hf; exact ⟨rfl, by kernel_rfl, by kernel_rfl⟩
  | 9 => injection hf with hf; subst hf; exact ⟨rfl, by kernel_rfl, by kernel_rfl⟩
  | j + 10 => simp at hf

theorem rows26 {fs : Array Field} (h : Tryd.prog.underlying 26 = some (.struct fs)) : ∀ j f, fs[j]? = some f → f.offset = j ∧ Tryd.prog.cellsOf f.type = 1 ∧ Tryd.prog.underlying f.type = some (.int (kR j)) := by
  obtain rfl := TypeDesc.struct.inj (Option.some.inj (Tryd.underlying26.symm.trans h))
  intro j f hf
  match j with
  | 0 => injection hf with hf; subst hf; exact ⟨rfl, by kernel_rfl, by kernel_rfl⟩
  | 1 => injection hf with hf; subst hf; exact ⟨rfl, by kernel_rfl, by kernel_rfl⟩
  | 2 => injection hf with hf; subst hf; exact ⟨rfl, by kernel_rfl, by kernel_rfl⟩
  | 3 => injection hf with hf; subst hf; exact ⟨rfl, by kernel_rfl, by kernel_rfl⟩
  | 4 => injection hf with hf; subst hf; exact ⟨rfl, by kernel_rfl, by kernel_rfl⟩
  | 5 => injection hf with hf; subst hf; exact ⟨rfl, by kernel_rfl, by kernel_rfl⟩
  | j + 6 => simp at hf

set_option maxRecDepth 100000 in
theorem contract (H : Type) (enc : TypeId × Value → H) (W : World) (base : Nat) (args : Array Value) (ds gs : List (DataW H)) (before : List MemPlace)
    (hval : ∀ (j : Nat) t v, Tryd.f4.params[j]? = some t → args[j]? = some v → Value.okWide Tryd.prog W .any base t v)
    (hW : DataW.Whole enc Tryd.prog Tryd.f4.params.toList Rows.reportBestSpec.vars false W args.toList ds gs before) (hL : laidMetH Tryd.prog Rows.reportBestRow.laid W) :
    Calls Tryd.prog 4 args W fun e W' => ∃ v, e = .returned v ∧ Rows.reportBestSpec.post enc Tryd.prog Tryd.f4 false true false false W args v W' := by
  have hW' := hW
  obtain ⟨p, q, hA0, hV, _, _, _⟩ := hW
  have hA : DataW.TrodAll enc Tryd.prog W 0 (fun _ => true) true Tryd.f4.params.toList args.toList ds p := hA0
  rw [Tryd.params4] at hA hval
  obtain ⟨v0, vs0, d0, ds0, p0, q0, hargs, rfl, rfl, h0, r0⟩ := trodAll_cons hA
  obtain ⟨v1, vs1, d1, ds1, p1, q1, rfl, rfl, rfl, h1, r1⟩ := trodAll_cons r0
  obtain ⟨rfl, rfl, rfl⟩ := trodAll_nil r1
  obtain rfl : args = #[v0, v1] := by cases args; simp_all
  have w0 := hval 0 31 v0 rfl rfl
  obtain ⟨ub0, un0, uc0, rfl, _⟩ := ok_slice Tryd.underlying31 (val_cell ⟨_, Tryd.underlying31, rfl⟩ w0)
  obtain ⟨sb0, sn0, sc0, sf0, e0, ss0, sl0, sh0, hc0⟩ := slice_rows (H := H) (enc := enc) (W := W) (sz := 10) (ks := kT) Tryd.underlying31 Tryd.underlying24 (by kernel_rfl) rfl (rows24 Tryd.underlying24) (v := .slice ub0 un0 uc0) h0.choose_spec
  obtain ⟨rfl, rfl, rfl⟩ : ub0 = sb0 ∧ un0 = sn0 ∧ uc0 = sc0 := by injection e0 with e1 e2 e3; exact ⟨e1, e2, e3⟩
  have w1 := hval 1 32 v1 rfl rfl
  obtain ⟨ub1, un1, uc1, rfl, _⟩ := ok_slice Tryd.underlying32 (val_cell ⟨_, Tryd.underlying32, rfl⟩ w1)
  obtain ⟨sb1, sn1, sc1, sf1, e1, ss1, sl1, sh1, hc1⟩ := slice_rows (H := H) (enc := enc) (W := W) (sz := 6) (ks := kR) Tryd.underlying32 Tryd.underlying26 (by kernel_rfl) rfl (rows26 Tryd.underlying26) (v := .slice ub1 un1 uc1) h1.choose_spec
  obtain ⟨rfl, rfl, rfl⟩ : ub1 = sb1 ∧ un1 = sn1 ∧ uc1 = sc1 := by injection e1 with e1 e2 e3; exact ⟨e1, e2, e3⟩
  have walk := calls_of_spec (P := Tryd.prog) (W := W) Tryd.func4 (by kernel_rfl) rfl sBestL_ok (G := [(2000, .ro ub0 un0 10 (gK kT sf0)), (2001, .ro ub1 un1 6 (gK kR sf1))]) (args := [.slice 2000 0 un0 uc0, .slice 2001 0 un1 uc1]) (rel_ros ⟨hc0, hc1, trivial⟩ (table hL)) (⟨_, _, rfl, ⟨ub0, 10, rfl, (congrArg (fun q => Value.slice q un0 uc0) (map_add0 ub0 10)).symm, ss0⟩, _, _, rfl, ⟨ub1, 6, rfl, (congrArg (fun q => Value.slice q un1 uc1) (map_add0 ub1 6)).symm, ss1⟩, rfl⟩) ⟨_, un0, sf0, _, un1, sf1, rfl, .inr ⟨2000, 0, uc0, ub0, un0, _, rfl, rfl, by omega, sf0, fun j k _ _ => rfl, fun j k _ _ => by rw [Nat.zero_add]⟩, .inr ⟨2001, 0, uc1, ub1, un1, _, rfl, rfl, by omega, sf1, fun j k _ _ => rfl, fun j k _ _ => by rw [Nat.zero_add]⟩, fun j k hj hk => sh0 j k hj hk, rfl⟩
  refine Calls.mono walk fun e W' he => ?_
  obtain ⟨rfl, hf⟩ := he
  exact ⟨_, rfl, post_true laidOut (by kernel_rfl) rfl Tryd.underlying4 rfl (fun ds hd => by
    have hd : ds.length = 2 := hd
    rcases ds with _ | ⟨d0, _ | ⟨d1, _ | ⟨e, _⟩⟩⟩
    all_goals first | rfl | (simp at hd)) hW' (below_of hf)⟩

/-- A world for the witness. -/
noncomputable def laidWorld (os : Os) : World :=
  { World.holding Tryd.prog os ⟨#[], #[], []⟩ with heap := ((((World.holding Tryd.prog os ⟨#[], #[], []⟩).heap.modify 3 fun
      | .cells _ t frozen => .cells #[.int .u8 0, .int .u8 1, .int .u8 28, .int .u8 2, .int .u8 29, .int .u8 14, .int .u8 24, .int .u8 3, .int .u8 30, .int .u8 22, .int .u8 20, .int .u8 15, .int .u8 25, .int .u8 17, .int .u8 4, .int .u8 8, .int .u8 31, .int .u8 27, .int .u8 13, .int .u8 23, .int .u8 21, .int .u8 19, .int .u8 16, .int .u8 7, .int .u8 26, .int .u8 12, .int .u8 18, .int .u8 6, .int .u8 11, .int .u8 5, .int .u8 10, .int .u8 9] t frozen
      | o => o).modify 4 fun
      | .cells _ t frozen => .cells #[.int .u8 0, .int .u8 1, .int .u8 56, .int .u8 2, .int .u8 57, .int .u8 49, .int .u8 28, .int .u8 3, .int .u8 61, .int .u8 58, .int .u8 42, .int .u8 50, .int .u8 38, .int .u8 29, .int .u8 17, .int .u8 4, .int .u8 62, .int .u8 47, .int .u8 59, .int .u8 36, .int .u8 45, .int .u8 43, .int .u8 51, .int .u8 22, .int .u8 53, .int .u8 39, .int .u8 33, .int .u8 30, .int .u8 24, .int .u8 18, .int .u8 12, .int .u8 5, .int .u8 63, .int .u8 55, .int .u8 48, .int .u8 27, .int .u8 60, .int .u8 41, .int .u8 37, .int .u8 16, .int .u8 46, .int .u8 35, .int .u8 44, .int .u8 21, .int .u8 52, .int .u8 32, .int .u8 23, .int .u8 11, .int .u8 54, .int .u8 26, .int .u8 40, .int .u8 15, .int .u8 34, .int .u8 20, .int .u8 31, .int .u8 10, .int .u8 25, .int .u8 14, .int .u8 19, .int .u8 9, .int .u8 13, .int .u8 8, .int .u8 7, .int .u8 6] t frozen
      | o => o).modify 2 fun
      | .cells _ t frozen => .cells #[.int .u64 1, .int .u64 10, .int .u64 100, .int .u64 1000, .int .u64 10000, .int .u64 100000, .int .u64 1000000, .int .u64 10000000, .int .u64 100000000, .int .u64 1000000000, .int .u64 10000000000, .int .u64 100000000000, .int .u64 1000000000000, .int .u64 10000000000000, .int .u64 100000000000000, .int .u64 1000000000000000, .int .u64 10000000000000000, .int .u64 100000000000000000, .int .u64 1000000000000000000, .int .u64 10000000000000000000] t frozen
      | o => o) }
theorem laid_met (os : Os) : laidMet Tryd.prog Rows.reportBestRow.laid ((laidWorld os).forCall (fun _ _ => 0) ⟨#[], #[.slice none 0 0, .slice none 0 0], []⟩).memory :=
  laidMet_of_run' 8 (by kernel_rfl) (by kernel_rfl)
theorem reads (os : Os) {H : Type} (enc : TypeId × Value → H) : ∃ places, DataW.whole enc Tryd.prog ((laidWorld os).forCall (fun _ _ => 0) ⟨#[], #[.slice none 0 0, .slice none 0 0], []⟩).memory Tryd.f4.params.toList Rows.reportBestSpec.vars false (#[.slice none 0 0, .slice none 0 0] : Array Value).toList 8 = some ([.nil, .nil], [], places) :=
  ⟨[], by kernel_rfl⟩

set_option maxRecDepth 100000 in
theorem lifted (os : Os) (started : os.Started) (H : Type) (enc : TypeId × Value → H) (F : Stop.Interp) :
    ReturnsInHanded {} Tryd.checked os 4 .any ((OpenSpec.ofChange Rows.reportBestSpec).preRow enc Tryd.prog Tryd.f4 Rows.reportBestRow.domain false Rows.reportBestRow.laid) (((OpenSpec.ofChange Rows.reportBestSpec).at F).post enc Tryd.prog Tryd.f4 false true false false) := by
  obtain ⟨places, hx⟩ := reads os enc
  refine returnsInHanded_of_row (C := Tryd.checked) (s := OpenSpec.ofChange Rows.reportBestSpec) own started (by kernel_rfl) Tryd.func4
    (witness_row_at (enc := enc) (C := Tryd.checked) false (laidWorld os) #[.slice none 0 0, .slice none 0 0] rfl (by kernel_rfl) (by kernel_rfl) (by kernel_rfl)
      (OpenSpec.preRow_of_cond 8 hx (by kernel_rfl) (fun k hk => by cases hk) (by kernel_rfl) (laid_met os))) ?_
  intro W base args ds gs before hval hW _ _ _ hL _ _
  exact contract H enc W base args ds gs before hval hW hL

theorem said : Rows.ReportBestSaid :=
  OpenClaim.holds_of_cond 4 Tryd.f4 rfl rfl rfl rfl rfl rfl rfl ⟨rfl, rfl, rfl, rfl, rfl⟩ rfl rfl rfl rfl rfl (by kernel_rfl) Tryd.func4 (by kernel_rfl)
    (of_decide_eq_true (by kernel_rfl)) (by unfold Func.isWrapper; first | (rw [if_pos (by decide +kernel)]; kernel_rfl) | (rw [if_neg (by decide +kernel)]; exact ⟨rfl, rfl⟩))
    (fun os started H enc _ F => by rw [OpenClaim.pre_eq_preRow]; exact lifted os started H enc F)

theorem plain (f : FuncId) (fn : Func) (hf : Tryd.pinned.checked.prog.funcNamed "forerunner/forerunnerlaw23.ReportBest" = some f) (hfn : Tryd.pinned.checked.prog.funcs[f]? = some fn) :
    true = Tryd.pinned.checked.prog.looks [] ∧ ∀ (j : Nat) t, fn.params[j]? = some t → Tryd.pinned.checked.prog.wantsStandIn t = false := by
  obtain rfl : f = 4 := Option.some.inj ((show Tryd.prog.funcNamed "forerunner/forerunnerlaw23.ReportBest" = some 4 by kernel_rfl).symm.trans hf) |>.symm
  obtain rfl : fn = Tryd.f4 := (Option.some.inj (Tryd.func4.symm.trans hfn)).symm
  refine ⟨by kernel_rfl, fun j t ht => ?_⟩
  rw [Tryd.params4] at ht
  have hm : t ∈ [31, 32] := by simpa using Array.mem_of_getElem? ht
  have hall : ([31, 32].all fun u => !Tryd.prog.wantsStandIn u) = true := by kernel_rfl
  exact (show Tryd.prog.wantsStandIn t = false by simpa using List.all_eq_true.1 hall t hm)

theorem card : Rows.ReportBestCardSaid :=
  Claim7.holds_tied_plain_at .later [] _ _ _ _ said (fun _ h => by cases h) (by kernel_rfl) (fun _ h => by cases h) reportBest_row_tie rfl ⟨rfl, rfl⟩ (by kernel_rfl) rfl plain (by kernel_rfl)
end Go.Proofs.YtmohokeeglnliaaDoor.reportBest
