import Derived.Test.YtjkakcaljklkhaaDoorCards
import Derived.Test.YtjkakcaljklkhaaDoorTie
import Derived.Test.YtjkakcaljklkhaaDoorSxR
import Derived.Test.YtjkakcaljklkhaaDoorSxW9
/-
  THE CARD OF AskGrows: for every input the law returns true, and its arguments read behind the call as they did before (what may be of a disk may be of a greater one, and its blocks are there; what is beyond its end may be of one that is great enough (1000 values)); on the condition that the variable that the row lists holds what its initialiser lays, which the card ties to the program's text.
-/
namespace Go.Proofs.YtjkakcaljklkhaaDoor.askGrows
open Go Go.ChangeShapes Go.WideShapes Go.ChangeAt Go.RowKit Sx

theorem own : ownKnob Tryd.prog.godebug = none := by kernel_rfl
theorem laidOut : laidOutB Tryd.prog = true := by kernel_rfl
theorem gMay : Tryd.prog.globalNamed "forerunner/ask.may" = some 0 := by kernel_rfl
theorem gMayType : (Tryd.prog.globals[0]?).map (·.type) = some 46 := by kernel_rfl
theorem cells46 : Tryd.prog.cellsOf 46 = 2 * 14 := by kernel_rfl
theorem cells45 : Tryd.prog.cellsOf 45 = 2 := by kernel_rfl
theorem cells3 : Tryd.prog.cellsOf 3 = 1 := by kernel_rfl

/-- The bounds, in pairs. -/
def prs : List (Int × Int) := [(1, 256), (1, 64), (1, 64), (1, 64), (0, 64), (1, 16), (1, 8), (1, 8), (1, 16), (1, 64), (1, 16), (1, 32), (1, 64), (1, 16)]
theorem prs_may : ∀ i, i < 14 → mayL[i * 2]? = (prs[i]?).map (·.1) ∧ mayL[i * 2 + 1]? = (prs[i]?).map (·.2) ∧ (prs[i]?).isSome := by decide

/-- What the row's list gives. -/
theorem table {W : World} (h : laidMetH Tryd.prog Rows.askGrowsRow.laid W) : Rel (quiet Tryd.prog W) G W := by
  have h : laidMet Tryd.prog [("forerunner/ask.may", Rows.laid_forerunner_ask_may)] W := h
  obtain ⟨ps, ⟨g', t', cs, fuel, p, q, hg', ht', hvar, hd, _, _⟩, _⟩ := h
  obtain rfl := Option.some.inj (gMay.symm.trans hg')
  obtain rfl := Option.some.inj (gMayType.symm.trans ht')
  have key := arr_pairs (prs := prs) Tryd.underlying46 Tryd.underlying45 Tryd.underlying3 Tryd.underlying3 rfl rfl cells3 cells3 cells45 cells46 hd
  refine rel_one (g := 0) (n := 14) (sz := 2) (gf := gmay) fun i k hi hk => ?_
  obtain ⟨e1, e2, e3⟩ := prs_may i hi
  obtain ⟨x, hx⟩ := Option.isSome_iff_exists.1 e3
  obtain ⟨k1, k2⟩ := key i x hx
  rw [hx] at e1 e2
  have hk' : k = 0 ∨ k = 1 := by omega
  rcases hk' with rfl | rfl
  · refine ⟨_, (World.var?_cell gMay hvar (i * 2 + 0)).trans (by simpa using k1), ?_⟩
    show vrel [] (match mayL[i * 2 + 0]? with | some n => .int .i64 n | none => und) _
    rw [Nat.add_zero, e1]
    rfl
  · refine ⟨_, (World.var?_cell gMay hvar (i * 2 + 1)).trans (by simpa using k2), ?_⟩
    show vrel [] (match mayL[i * 2 + 1]? with | some n => .int .i64 n | none => und) _
    rw [e2]
    rfl

set_option maxRecDepth 100000 in
theorem contract (H : Type) (enc : TypeId × Value → H) (W : World) (base : Nat) (args : Array Value) (ds gs : List (DataW H)) (before : List MemPlace)
    (hval : ∀ (j : Nat) t v, Tryd.f5.params[j]? = some t → args[j]? = some v → Value.okWide Tryd.prog W .any base t v)
    (hW : DataW.Whole enc Tryd.prog Tryd.f5.params.toList Rows.askGrowsSpec.vars false W args.toList ds gs before) (hL : laidMetH Tryd.prog Rows.askGrowsRow.laid W) :
    Calls Tryd.prog 5 args W fun e W' => ∃ v, e = .returned v ∧ Rows.askGrowsSpec.post enc Tryd.prog Tryd.f5 false true false false W args v W' := by
  have hW' := hW
  obtain ⟨p, q, hA0, hV, _, _, _⟩ := hW
  have hA : DataW.TrodAll enc Tryd.prog W 0 (fun _ => true) true Tryd.f5.params.toList args.toList ds p := hA0
  rw [Tryd.params5] at hA hval
  obtain ⟨v0, vs0, d0, ds0, p0, q0, hargs, rfl, rfl, h0, r0⟩ := trodAll_cons hA
  obtain ⟨v1, vs1, d1, ds1, p1, q1, rfl, rfl, rfl, h1, r1⟩ := trodAll_cons r0
  obtain ⟨v2, vs2, d2, ds2, p2, q2, rfl, rfl, rfl, h2, r2⟩ := trodAll_cons r1
  obtain ⟨rfl, rfl, rfl⟩ := trodAll_nil r2
  obtain rfl : args = #[v0, v1, v2] := by cases args; simp_all
  have w0 := hval 0 5 v0 rfl rfl
  obtain ⟨n0, rfl, k0⟩ := ok_int Tryd.underlying5 (val_cell ⟨_, Tryd.underlying5, rfl⟩ w0)
  have w1 := hval 1 5 v1 rfl rfl
  obtain ⟨n1, rfl, k1⟩ := ok_int Tryd.underlying5 (val_cell ⟨_, Tryd.underlying5, rfl⟩ w1)
  have w2 := hval 2 34 v2 rfl rfl
  obtain ⟨xs, rfl, y⟩ := open_cells ⟨_, Tryd.underlying34, rfl⟩ (ts := [3, 3, 3, 3, 32, 4]) (by kernel_rfl) (by kernel_rfl) w2
  obtain ⟨x0, xs, rfl, z0, y⟩ := ok_cons y
  obtain ⟨x1, xs, rfl, z1, y⟩ := ok_cons y
  obtain ⟨x2, xs, rfl, z2, y⟩ := ok_cons y
  obtain ⟨x3, xs, rfl, z3, y⟩ := ok_cons y
  obtain ⟨x4, xs, rfl, z4, y⟩ := ok_cons y
  obtain ⟨x5, xs, rfl, z5, y⟩ := ok_cons y
  obtain rfl := ok_nil y
  obtain ⟨a0, rfl, _⟩ := ok_int Tryd.underlying3 z0
  obtain ⟨a1, rfl, _⟩ := ok_int Tryd.underlying3 z1
  obtain ⟨a2, rfl, _⟩ := ok_int Tryd.underlying3 z2
  obtain ⟨a3, rfl, _⟩ := ok_int Tryd.underlying3 z3
  obtain ⟨b, n, c, rfl, hn⟩ := ok_slice Tryd.underlying32 z4
  obtain ⟨a5, rfl⟩ := ok_bool Tryd.underlying4 z5
  have walk := calls_of_spec (P := Tryd.prog) (W := W) Tryd.func5 (by kernel_rfl) rfl sLaw5_ok (G := G) (args := [.int .u8 n0, .int .u8 n1, .agg [.int .i64 a0, .int .i64 a1, .int .i64 a2, .int .i64 a3, .raw (.slice b n c), .bool a5]]) (table hL) (⟨_, _, rfl, rfl, _, _, rfl, rfl, _, _, rfl, ⟨_, rfl, _, _, rfl, rfl, _, _, rfl, rfl, _, _, rfl, rfl, _, _, rfl, rfl, _, _, rfl, rfl, _, _, rfl, rfl, rfl⟩, rfl⟩) ⟨u8_of k0, u8_of k1, hn, G_has, rfl⟩
  refine Calls.mono walk fun e W' he => ?_
  obtain ⟨rfl, hf⟩ := he
  exact ⟨_, rfl, post_true laidOut (by kernel_rfl) rfl Tryd.underlying4 rfl (fun ds hd => by
    have hd : ds.length = 3 := hd
    rcases ds with _ | ⟨d0, _ | ⟨d1, _ | ⟨d2, _ | ⟨e, _⟩⟩⟩⟩
    all_goals first | rfl | (simp at hd)) hW' (below_of hf)⟩

/-- A world for the witness. -/
noncomputable def laidWorld (os : Os) : World :=
  { World.holding Tryd.prog os ⟨#[], #[], []⟩ with heap := (World.holding Tryd.prog os ⟨#[], #[], []⟩).heap.modify 0 fun
      | .cells _ t frozen => .cells #[.int .i64 1, .int .i64 256, .int .i64 1, .int .i64 64, .int .i64 1, .int .i64 64, .int .i64 1, .int .i64 64, .int .i64 0, .int .i64 64, .int .i64 1, .int .i64 16, .int .i64 1, .int .i64 8, .int .i64 1, .int .i64 8, .int .i64 1, .int .i64 16, .int .i64 1, .int .i64 64, .int .i64 1, .int .i64 16, .int .i64 1, .int .i64 32, .int .i64 1, .int .i64 64, .int .i64 1, .int .i64 16] t frozen
      | o => o }
theorem laid_met (os : Os) : laidMet Tryd.prog Rows.askGrowsRow.laid ((laidWorld os).forCall (fun _ _ => 0) ⟨#[], #[.int .u8 0, .int .u8 0, .agg #[.int .i64 0, .int .i64 0, .int .i64 0, .int .i64 0, .slice none 0 0, .bool false]], []⟩).memory :=
  laidMet_of_run' 8 (by kernel_rfl) (by kernel_rfl)
theorem reads (os : Os) {H : Type} (enc : TypeId × Value → H) : ∃ places, DataW.whole enc Tryd.prog ((laidWorld os).forCall (fun _ _ => 0) ⟨#[], #[.int .u8 0, .int .u8 0, .agg #[.int .i64 0, .int .i64 0, .int .i64 0, .int .i64 0, .slice none 0 0, .bool false]], []⟩).memory Tryd.f5.params.toList Rows.askGrowsSpec.vars false (#[.int .u8 0, .int .u8 0, .agg #[.int .i64 0, .int .i64 0, .int .i64 0, .int .i64 0, .slice none 0 0, .bool false]] : Array Value).toList 8 = some ([.lit (.int .u8 0), .lit (.int .u8 0), .agg [.lit (.int .i64 0), .lit (.int .i64 0), .lit (.int .i64 0), .lit (.int .i64 0), .nil, .lit (.bool false)]], [], places) :=
  ⟨[], by kernel_rfl⟩

set_option maxRecDepth 100000 in
theorem lifted (os : Os) (started : os.Started) (H : Type) (enc : TypeId × Value → H) (F : Stop.Interp) :
    ReturnsInHanded {} Tryd.checked os 5 .any ((OpenSpec.ofChange Rows.askGrowsSpec).preRow enc Tryd.prog Tryd.f5 Rows.askGrowsRow.domain false Rows.askGrowsRow.laid) (((OpenSpec.ofChange Rows.askGrowsSpec).at F).post enc Tryd.prog Tryd.f5 false true false false) := by
  obtain ⟨places, hx⟩ := reads os enc
  refine returnsInHanded_of_row (C := Tryd.checked) (s := OpenSpec.ofChange Rows.askGrowsSpec) own started (by kernel_rfl) Tryd.func5
    (witness_row_at (enc := enc) (C := Tryd.checked) false (laidWorld os) #[.int .u8 0, .int .u8 0, .agg #[.int .i64 0, .int .i64 0, .int .i64 0, .int .i64 0, .slice none 0 0, .bool false]] rfl (by kernel_rfl) (by kernel_rfl) (by kernel_rfl)
      (OpenSpec.preRow_of_cond 8 hx (by kernel_rfl) (fun k hk => by cases hk) (by kernel_rfl) (laid_met os))) ?_
  intro W base args ds gs before hval hW _ _ _ hL _ _
  exact contract H enc W base args ds gs before hval hW hL

theorem said : Rows.AskGrowsSaid :=
  OpenClaim.holds_of_cond 5 Tryd.f5 rfl rfl rfl rfl rfl rfl rfl ⟨rfl, rfl, rfl, rfl, rfl⟩ rfl rfl rfl rfl rfl (by kernel_rfl) Tryd.func5 (by kernel_rfl)
    (of_decide_eq_true (by kernel_rfl)) (by unfold Func.isWrapper; first | (rw [if_pos (by decide +kernel)]; kernel_rfl) | (rw [if_neg (by decide +kernel)]; exact ⟨rfl, rfl⟩))
    (fun os started H enc _ F => by rw [OpenClaim.pre_eq_preRow]; exact lifted os started H enc F)

theorem plain (f : FuncId) (fn : Func) (hf : Tryd.pinned.checked.prog.funcNamed "forerunner/forerunnerlaw15.AskGrows" = some f) (hfn : Tryd.pinned.checked.prog.funcs[f]? = some fn) :
    false = Tryd.pinned.checked.prog.looks [] ∧ ∀ (j : Nat) t, fn.params[j]? = some t → Tryd.pinned.checked.prog.wantsStandIn t = false := by
  obtain rfl : f = 5 := Option.some.inj ((show Tryd.prog.funcNamed "forerunner/forerunnerlaw15.AskGrows" = some 5 by kernel_rfl).symm.trans hf) |>.symm
  obtain rfl : fn = Tryd.f5 := (Option.some.inj (Tryd.func5.symm.trans hfn)).symm
  refine ⟨by kernel_rfl, fun j t ht => ?_⟩
  rw [Tryd.params5] at ht
  have hm : t ∈ [5, 5, 34] := by simpa using Array.mem_of_getElem? ht
  have hall : ([5, 5, 34].all fun u => !Tryd.prog.wantsStandIn u) = true := by kernel_rfl
  exact (show Tryd.prog.wantsStandIn t = false by simpa using List.all_eq_true.1 hall t hm)

theorem card : Rows.AskGrowsCardSaid :=
  Claim7.holds_tied_plain_at .later [] _ _ _ _ said (fun _ h => by cases h) (by kernel_rfl) (fun _ h => by cases h) askGrows_row_tie rfl ⟨rfl, rfl⟩ (by kernel_rfl) rfl plain (by kernel_rfl)
end Go.Proofs.YtjkakcaljklkhaaDoor.askGrows

