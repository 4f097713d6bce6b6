import Derived.Test.YtiihiifcnkfjoaaDoorSxVC
/-
  The walks of this seat's functions: step, walked in place.
-/
namespace Go.Proofs.YtiihiifcnkfjoaaDoor.Sx
open Go Go.Proofs
set_option maxRecDepth 100000
set_option linter.unusedSimpArgs false
set_option linter.unusedVariables false

/-- One step on both: the program's policy p, the document's r. -/
def sStepQ : Spec := fun args h nx K => ∃ (p r : Pol) (k f l : Int) (bS bA bP bU bQ bR bH : Nat) (s : Sh) (X0 X1 e0 e1 eU : Ent) (c0 c1 cU : Nat) (eX eY : Ent), args = [.ptr 8 0 0, .ptr 3000 0 0, .agg [.int .i64 k, .int .i64 f, .int .i64 l]] ∧
  h = HQ bQ bR bH X0 X1 eU c0 c1 cU r ++ (HPW bS bA bP bU s p ++ [(100, eX), (101, eY)]) ∧ Inv s p.m p.m.n ∧ p.Fit ∧ LQ e0 e1 eU c0 c1 cU r ∧ (X0 = e0 ∨ X0 = e0.toRo) ∧ (X1 = e1 ∨ X1 = e1.toRo) ∧ Ok r.m ∧ r.Fit ∧ nx = 90 ∧
  (act6 k → ∀ (bx : Nat) (s' : Sh) (EU E0 E1 EN : Ent) (t0 t1 tU d0 d1 dU : Nat), s'.N = s.N → Inv s' (p.actP k f l).m (p.actP k f l).m.n → NewL 50 E0 40 t0 e0 (cI ((r.actP k f l).m.L 0)) d0 → NewL 51 E1 41 t1 e1 (cI ((r.actP k f l).m.L 1)) d1 → QU tU EU EN eU (r.actP k f l).us dU →
    K (.ret (.bool (stepB p r k f l))) (GQ bQ bR bH EU E0 E1 EN t0 t1 tU d0 d1 dU (r.actP k f l) ++ (GP bS bA bP bU s.N p.m.n s' (p.actP k f l) ++ ((90, .blk bx 1 3 (gOf 3 [.int .i64 k, .int .i64 f, .int .i64 l]) 33) :: h))) 91) ∧
  (¬ act6 k → ∀ bx : Nat, K (.ret (.bool true)) ((90, .blk bx 1 3 (gOf 3 [.int .i64 k, .int .i64 f, .int .i64 l]) 33) :: h) 91)

theorem stepQ_0 {c : Cx} (hc : c.P = Tryd.prog) {p r : Pol} {f l : Int} {bS bA bP bU bQ bR bH : Nat} {s : Sh} {X0 X1 e0 e1 eU : Ent} {c0 c1 cU : Nat} {eX eY : Ent} {K : Out → Hp → Nat → Prop} (hi : Inv s p.m p.m.n) (hfp : p.Fit) (hl : LQ e0 e1 eU c0 c1 cU r) (hx0 : X0 = e0 ∨ X0 = e0.toRo) (hx1 : X1 = e1 ∨ X1 = e1.toRo) (hok : Ok r.m) (hfr : r.Fit)
    (hk : ∀ (bx : Nat) (s' : Sh) (EU E0 E1 EN : Ent) (t0 t1 tU d0 d1 dU : Nat), s'.N = s.N → Inv s' (p.enterP f l).m (p.enterP f l).m.n → NewL 50 E0 40 t0 e0 (cI ((r.enterP f l).m.L 0)) d0 → NewL 51 E1 41 t1 e1 (cI ((r.enterP f l).m.L 1)) d1 → QU tU EU EN eU (r.enterP f l).us dU →
      K (.ret (.bool (stepB p r 0 f l))) (GQ bQ bR bH EU E0 E1 EN t0 t1 tU d0 d1 dU (r.enterP f l) ++ (GP bS bA bP bU s.N p.m.n s' (p.enterP f l) ++ ((90, .blk bx 1 3 (gOf 3 [.int .i64 0, .int .i64 f, .int .i64 l]) 33) :: (HQ bQ bR bH X0 X1 eU c0 c1 cU r ++ (HPW bS bA bP bU s p ++ [(100, eX), (101, eY)]))))) 91)
    {cd : Code} (hcd : Tryd.f13.body = some cd) :
    W ⟨c, Tryd.f13, T, SPSt, fun o h' nx' => Ext (HQ bQ bR bH X0 X1 eU c0 c1 cU r ++ (HPW bS bA bP bU s p ++ [(100, eX), (101, eY)])) h' ∧ K o h' nx'⟩ [.code cd] (argsS [.ptr 8 0 0, .ptr 3000 0 0, .agg [.int .i64 0, .int .i64 f, .int .i64 l]] 0) (HQ bQ bR bH X0 X1 eU c0 c1 cU r ++ (HPW bS bA bP bU s p ++ [(100, eX), (101, eY)])) 90 := by
  cases hcd
  have hE := mkE' (fn := Tryd.f13) (R := fun o h' nx' => Ext (HQ bQ bR bH X0 X1 eU c0 c1 cU r ++ (HPW bS bA bP bU s p ++ [(100, eX), (101, eY)])) h' ∧ K o h' nx') hc spst
  refine vc_sound hE 80 _ _ _ 90 ?_
  intro bx
  refine W_planw hE 91 [5, 11] (.take 0 (.take 1 (.take 2 (.take 3 (.take 4 (.take 6 (.take 7 (.take 9 (.all (.cons 5 (.all (.cons 8 (.all (.cons 10 (.all (.cons 11 (.take 12 (.take 13 .done)) .nil)) .nil)) (.cons 10 (.all (.cons 8 (.all (.cons 11 (.take 12 (.take 13 .done)) .nil)) .nil)) .nil))) (.cons 8 (.all (.cons 5 (.all (.cons 10 (.all (.cons 11 (.take 12 (.take 13 .done)) .nil)) .nil)) (.cons 10 (.all (.cons 5 (.all (.cons 11 (.take 12 (.take 13 .done)) .nil)) .nil)) .nil))) (.cons 10 (.all (.cons 5 (.all (.cons 8 (.all (.cons 11 (.take 12 (.take 13 .done)) .nil)) .nil)) (.cons 8 (.all (.cons 5 (.all (.cons 11 (.take 12 (.take 13 .done)) .nil)) .nil)) .nil))) .nil)))))))))))) (by rw [hc]; exact mix) (by kernel_rfl) 40 ?_
  iterate 8 (refine ⟨_, ⟨rfl, rfl⟩, ?_⟩)
  refine ⟨⟨trivial, ?_⟩, ?_⟩
  · refine ⟨_, p, p.enterP f l, _, rfl, ⟨f, l, rfl, hfp.few, rfl, rfl⟩, bS, bA, bP, bU, s, hi, rfl, rfl, rfl, rfl, rfl, fun s' hN hi' => ?_⟩
    refine ⟨⟨trivial, ?_⟩, ?_⟩
    · refine ⟨⟨trivial, ?_⟩, trivial⟩
      refine ⟨⟨trivial, ?_⟩, trivial⟩
      refine ⟨_, r, r.enterP f l, _, rfl, ⟨f, l, rfl, hok, hfr.few, rfl, rfl⟩, bQ, bR, bH, e0, e1, eU, c0, c1, cU, hl, rfl, rfl, hx0, hx1, rfl, rfl, rfl, rfl, rfl, fun EU E0 E1 EN t0 t1 tU d0 d1 dU n0 n1 nU => ?_⟩
      iterate 2 (refine ⟨_, ⟨rfl, rfl⟩, ?_⟩)
      exact ⟨ext_step rfl rfl rfl rfl rfl rfl rfl rfl rfl rfl rfl rfl (enterP_nb r f l).1 nU, hk bx s' EU E0 E1 EN t0 t1 tU d0 d1 dU hN hi' n0 n1 nU⟩
    refine ⟨⟨trivial, ?_⟩, trivial⟩
    refine ⟨⟨trivial, ?_⟩, trivial⟩
    refine ⟨⟨trivial, ?_⟩, trivial⟩
    refine ⟨_, r, r.enterP f l, _, rfl, ⟨f, l, rfl, hok, hfr.few, rfl, rfl⟩, bQ, bR, bH, e0, e1, eU, c0, c1, cU, hl, rfl, rfl, hx0, hx1, rfl, rfl, rfl, rfl, rfl, fun EU E0 E1 EN t0 t1 tU d0 d1 dU n0 n1 nU => ?_⟩
    iterate 2 (refine ⟨_, ⟨rfl, rfl⟩, ?_⟩)
    exact ⟨ext_step rfl rfl rfl rfl rfl rfl rfl rfl rfl rfl rfl rfl (enterP_nb r f l).1 nU, hk bx s' EU E0 E1 EN t0 t1 tU d0 d1 dU hN hi' n0 n1 nU⟩
  refine ⟨⟨trivial, ?_⟩, ?_⟩
  · refine ⟨⟨trivial, ?_⟩, ?_⟩
    · refine ⟨_, p, p.enterP f l, _, rfl, ⟨f, l, rfl, hfp.few, rfl, rfl⟩, bS, bA, bP, bU, s, hi, rfl, rfl, rfl, rfl, rfl, fun s' hN hi' => ?_⟩
      refine ⟨⟨trivial, ?_⟩, trivial⟩
      refine ⟨⟨trivial, ?_⟩, trivial⟩
      refine ⟨_, r, r.enterP f l, _, rfl, ⟨f, l, rfl, hok, hfr.few, rfl, rfl⟩, bQ, bR, bH, e0, e1, eU, c0, c1, cU, hl, rfl, rfl, hx0, hx1, rfl, rfl, rfl, rfl, rfl, fun EU E0 E1 EN t0 t1 tU d0 d1 dU n0 n1 nU => ?_⟩
      iterate 2 (refine ⟨_, ⟨rfl, rfl⟩, ?_⟩)
      exact ⟨ext_step rfl rfl rfl rfl rfl rfl rfl rfl rfl rfl rfl rfl (enterP_nb r f l).1 nU, hk bx s' EU E0 E1 EN t0 t1 tU d0 d1 dU hN hi' n0 n1 nU⟩
    refine ⟨⟨trivial, ?_⟩, trivial⟩
    refine ⟨⟨trivial, ?_⟩, trivial⟩
    refine ⟨_, p, p.enterP f l, _, rfl, ⟨f, l, rfl, hfp.few, rfl, rfl⟩, bS, bA, bP, bU, s, hi, rfl, rfl, rfl, rfl, rfl, fun s' hN hi' => ?_⟩
    refine ⟨⟨trivial, ?_⟩, trivial⟩
    refine ⟨_, r, r.enterP f l, _, rfl, ⟨f, l, rfl, hok, hfr.few, rfl, rfl⟩, bQ, bR, bH, e0, e1, eU, c0, c1, cU, hl, rfl, rfl, hx0, hx1, rfl, rfl, rfl, rfl, rfl, fun EU E0 E1 EN t0 t1 tU d0 d1 dU n0 n1 nU => ?_⟩
    iterate 2 (refine ⟨_, ⟨rfl, rfl⟩, ?_⟩)
    exact ⟨ext_step rfl rfl rfl rfl rfl rfl rfl rfl rfl rfl rfl rfl (enterP_nb r f l).1 nU, hk bx s' EU E0 E1 EN t0 t1 tU d0 d1 dU hN hi' n0 n1 nU⟩
  refine ⟨⟨trivial, ?_⟩, trivial⟩
  refine ⟨⟨trivial, ?_⟩, ?_⟩
  · refine ⟨_, p, p.enterP f l, _, rfl, ⟨f, l, rfl, hfp.few, rfl, rfl⟩, bS, bA, bP, bU, s, hi, rfl, rfl, rfl, rfl, rfl, fun s' hN hi' => ?_⟩
    refine ⟨⟨trivial, ?_⟩, trivial⟩
    refine ⟨⟨trivial, ?_⟩, trivial⟩
    refine ⟨_, r, r.enterP f l, _, rfl, ⟨f, l, rfl, hok, hfr.few, rfl, rfl⟩, bQ, bR, bH, e0, e1, eU, c0, c1, cU, hl, rfl, rfl, hx0, hx1, rfl, rfl, rfl, rfl, rfl, fun EU E0 E1 EN t0 t1 tU d0 d1 dU n0 n1 nU => ?_⟩
    iterate 2 (refine ⟨_, ⟨rfl, rfl⟩, ?_⟩)
    exact ⟨ext_step rfl rfl rfl rfl rfl rfl rfl rfl rfl rfl rfl rfl (enterP_nb r f l).1 nU, hk bx s' EU E0 E1 EN t0 t1 tU d0 d1 dU hN hi' n0 n1 nU⟩
  refine ⟨⟨trivial, ?_⟩, trivial⟩
  refine ⟨⟨trivial, ?_⟩, trivial⟩
  refine ⟨_, p, p.enterP f l, _, rfl, ⟨f, l, rfl, hfp.few, rfl, rfl⟩, bS, bA, bP, bU, s, hi, rfl, rfl, rfl, rfl, rfl, fun s' hN hi' => ?_⟩
  refine ⟨⟨trivial, ?_⟩, trivial⟩
  refine ⟨_, r, r.enterP f l, _, rfl, ⟨f, l, rfl, hok, hfr.few, rfl, rfl⟩, bQ, bR, bH, e0, e1, eU, c0, c1, cU, hl, rfl, rfl, hx0, hx1, rfl, rfl, rfl, rfl, rfl, fun EU E0 E1 EN t0 t1 tU d0 d1 dU n0 n1 nU => ?_⟩
  iterate 2 (refine ⟨_, ⟨rfl, rfl⟩, ?_⟩)
  exact ⟨ext_step rfl rfl rfl rfl rfl rfl rfl rfl rfl rfl rfl rfl (enterP_nb r f l).1 nU, hk bx s' EU E0 E1 EN t0 t1 tU d0 d1 dU hN hi' n0 n1 nU⟩
theorem stepQ_1 {c : Cx} (hc : c.P = Tryd.prog) {p r : Pol} {f l : Int} {bS bA bP bU bQ bR bH : Nat} {s : Sh} {X0 X1 e0 e1 eU : Ent} {c0 c1 cU : Nat} {eX eY : Ent} {K : Out → Hp → Nat → Prop} (hi : Inv s p.m p.m.n) (hfp : p.Fit) (hl : LQ e0 e1 eU c0 c1 cU r) (hx0 : X0 = e0 ∨ X0 = e0.toRo) (hx1 : X1 = e1 ∨ X1 = e1.toRo) (hok : Ok r.m) (hfr : r.Fit)
    (hk : ∀ (bx : Nat) (s' : Sh) (EU E0 E1 EN : Ent) (t0 t1 tU d0 d1 dU : Nat), s'.N = s.N → Inv s' (p.readyP f).m (p.readyP f).m.n → NewL 50 E0 40 t0 e0 (cI ((r.readyP f).m.L 0)) d0 → NewL 51 E1 41 t1 e1 (cI ((r.readyP f).m.L 1)) d1 → QU tU EU EN eU (r.readyP f).us dU →
      K (.ret (.bool (stepB p r 1 f l))) (GQ bQ bR bH EU E0 E1 EN t0 t1 tU d0 d1 dU (r.readyP f) ++ (GP bS bA bP bU s.N p.m.n s' (p.readyP f) ++ ((90, .blk bx 1 3 (gOf 3 [.int .i64 1, .int .i64 f, .int .i64 l]) 33) :: (HQ bQ bR bH X0 X1 eU c0 c1 cU r ++ (HPW bS bA bP bU s p ++ [(100, eX), (101, eY)]))))) 91)
    {cd : Code} (hcd : Tryd.f13.body = some cd) :
    W ⟨c, Tryd.f13, T, SPSt, fun o h' nx' => Ext (HQ bQ bR bH X0 X1 eU c0 c1 cU r ++ (HPW bS bA bP bU s p ++ [(100, eX), (101, eY)])) h' ∧ K o h' nx'⟩ [.code cd] (argsS [.ptr 8 0 0, .ptr 3000 0 0, .agg [.int .i64 1, .int .i64 f, .int .i64 l]] 0) (HQ bQ bR bH X0 X1 eU c0 c1 cU r ++ (HPW bS bA bP bU s p ++ [(100, eX), (101, eY)])) 90 := by
  cases hcd
  have hE := mkE' (fn := Tryd.f13) (R := fun o h' nx' => Ext (HQ bQ bR bH X0 X1 eU c0 c1 cU r ++ (HPW bS bA bP bU s p ++ [(100, eX), (101, eY)])) h' ∧ K o h' nx') hc spst
  refine vc_sound hE 80 _ _ _ 90 ?_
  intro bx
  refine W_planw hE 91 [3, 7] (.take 0 (.take 1 (.take 2 (.take 4 (.take 5 (.all (.cons 3 (.all (.cons 6 (.all (.cons 7 (.take 8 (.take 9 .done)) .nil)) .nil)) (.cons 6 (.all (.cons 3 (.all (.cons 7 (.take 8 (.take 9 .done)) .nil)) .nil)) .nil)))))))) (by rw [hc]; exact mix) (by kernel_rfl) 40 ?_
  iterate 5 (refine ⟨_, ⟨rfl, rfl⟩, ?_⟩)
  refine ⟨⟨trivial, ?_⟩, ?_⟩
  · refine ⟨_, p, p.readyP f, _, rfl, ⟨f, rfl, rfl, rfl⟩, bS, bA, bP, bU, s, hi, rfl, rfl, rfl, rfl, rfl, fun s' hN hi' => ?_⟩
    refine ⟨⟨trivial, ?_⟩, trivial⟩
    refine ⟨⟨trivial, ?_⟩, trivial⟩
    refine ⟨_, r, r.readyP f, _, rfl, ⟨f, rfl, hok, rfl, rfl⟩, bQ, bR, bH, e0, e1, eU, c0, c1, cU, hl, rfl, rfl, hx0, hx1, rfl, rfl, rfl, rfl, rfl, fun EU E0 E1 EN t0 t1 tU d0 d1 dU n0 n1 nU => ?_⟩
    iterate 2 (refine ⟨_, ⟨rfl, rfl⟩, ?_⟩)
    exact ⟨ext_step rfl rfl rfl rfl rfl rfl rfl rfl rfl rfl rfl rfl (readyP_nb r f).1 nU, hk bx s' EU E0 E1 EN t0 t1 tU d0 d1 dU hN hi' n0 n1 nU⟩
  refine ⟨⟨trivial, ?_⟩, trivial⟩
  refine ⟨⟨trivial, ?_⟩, trivial⟩
  refine ⟨_, p, p.readyP f, _, rfl, ⟨f, rfl, rfl, rfl⟩, bS, bA, bP, bU, s, hi, rfl, rfl, rfl, rfl, rfl, fun s' hN hi' => ?_⟩
  refine ⟨⟨trivial, ?_⟩, trivial⟩
  refine ⟨_, r, r.readyP f, _, rfl, ⟨f, rfl, hok, rfl, rfl⟩, bQ, bR, bH, e0, e1, eU, c0, c1, cU, hl, rfl, rfl, hx0, hx1, rfl, rfl, rfl, rfl, rfl, fun EU E0 E1 EN t0 t1 tU d0 d1 dU n0 n1 nU => ?_⟩
  iterate 2 (refine ⟨_, ⟨rfl, rfl⟩, ?_⟩)
  exact ⟨ext_step rfl rfl rfl rfl rfl rfl rfl rfl rfl rfl rfl rfl (readyP_nb r f).1 nU, hk bx s' EU E0 E1 EN t0 t1 tU d0 d1 dU hN hi' n0 n1 nU⟩
theorem stepQ_2 {c : Cx} (hc : c.P = Tryd.prog) {p r : Pol} {f l : Int} {bS bA bP bU bQ bR bH : Nat} {s : Sh} {X0 X1 e0 e1 eU : Ent} {c0 c1 cU : Nat} {eX eY : Ent} {K : Out → Hp → Nat → Prop} (hi : Inv s p.m p.m.n) (hfp : p.Fit) (hl : LQ e0 e1 eU c0 c1 cU r) (hx0 : X0 = e0 ∨ X0 = e0.toRo) (hx1 : X1 = e1 ∨ X1 = e1.toRo) (hok : Ok r.m) (hfr : r.Fit)
    (hk : ∀ (bx : Nat) (s' : Sh) (EU E0 E1 EN : Ent) (t0 t1 tU d0 d1 dU : Nat), s'.N = s.N → Inv s' (p.hitP f l).m (p.hitP f l).m.n → NewL 50 E0 40 t0 e0 (cI ((r.hitP f l).m.L 0)) d0 → NewL 51 E1 41 t1 e1 (cI ((r.hitP f l).m.L 1)) d1 → QU tU EU EN eU (r.hitP f l).us dU →
      K (.ret (.bool (stepB p r 2 f l))) (GQ bQ bR bH EU E0 E1 EN t0 t1 tU d0 d1 dU (r.hitP f l) ++ (GP bS bA bP bU s.N p.m.n s' (p.hitP f l) ++ ((90, .blk bx 1 3 (gOf 3 [.int .i64 2, .int .i64 f, .int .i64 l]) 33) :: (HQ bQ bR bH X0 X1 eU c0 c1 cU r ++ (HPW bS bA bP bU s p ++ [(100, eX), (101, eY)]))))) 91)
    {cd : Code} (hcd : Tryd.f13.body = some cd) :
    W ⟨c, Tryd.f13, T, SPSt, fun o h' nx' => Ext (HQ bQ bR bH X0 X1 eU c0 c1 cU r ++ (HPW bS bA bP bU s p ++ [(100, eX), (101, eY)])) h' ∧ K o h' nx'⟩ [.code cd] (argsS [.ptr 8 0 0, .ptr 3000 0 0, .agg [.int .i64 2, .int .i64 f, .int .i64 l]] 0) (HQ bQ bR bH X0 X1 eU c0 c1 cU r ++ (HPW bS bA bP bU s p ++ [(100, eX), (101, eY)])) 90 := by
  cases hcd
  have hE := mkE' (fn := Tryd.f13) (R := fun o h' nx' => Ext (HQ bQ bR bH X0 X1 eU c0 c1 cU r ++ (HPW bS bA bP bU s p ++ [(100, eX), (101, eY)])) h' ∧ K o h' nx') hc spst
  refine vc_sound hE 80 _ _ _ 90 ?_
  intro bx
  refine W_planw hE 91 [5, 11] (.take 0 (.take 1 (.take 2 (.take 3 (.take 4 (.take 6 (.take 7 (.take 9 (.all (.cons 5 (.all (.cons 8 (.all (.cons 10 (.all (.cons 11 (.take 12 (.take 13 .done)) .nil)) .nil)) (.cons 10 (.all (.cons 8 (.all (.cons 11 (.take 12 (.take 13 .done)) .nil)) .nil)) .nil))) (.cons 8 (.all (.cons 5 (.all (.cons 10 (.all (.cons 11 (.take 12 (.take 13 .done)) .nil)) .nil)) (.cons 10 (.all (.cons 5 (.all (.cons 11 (.take 12 (.take 13 .done)) .nil)) .nil)) .nil))) (.cons 10 (.all (.cons 5 (.all (.cons 8 (.all (.cons 11 (.take 12 (.take 13 .done)) .nil)) .nil)) (.cons 8 (.all (.cons 5 (.all (.cons 11 (.take 12 (.take 13 .done)) .nil)) .nil)) .nil))) .nil)))))))))))) (by rw [hc]; exact mix) (by kernel_rfl) 40 ?_
  iterate 8 (refine ⟨_, ⟨rfl, rfl⟩, ?_⟩)
  refine ⟨⟨trivial, ?_⟩, ?_⟩
  · refine ⟨_, p, p.hitP f l, _, rfl, ⟨f, l, rfl, hfp, rfl, rfl⟩, bS, bA, bP, bU, s, hi, rfl, rfl, rfl, rfl, rfl, fun s' hN hi' => ?_⟩
    refine ⟨⟨trivial, ?_⟩, ?_⟩
    · refine ⟨⟨trivial, ?_⟩, trivial⟩
      refine ⟨⟨trivial, ?_⟩, trivial⟩
      refine ⟨_, r, r.hitP f l, _, rfl, ⟨f, l, rfl, hok, hfr, rfl, rfl⟩, bQ, bR, bH, e0, e1, eU, c0, c1, cU, hl, rfl, rfl, hx0, hx1, rfl, rfl, rfl, rfl, rfl, fun EU E0 E1 EN t0 t1 tU d0 d1 dU n0 n1 nU => ?_⟩
      iterate 2 (refine ⟨_, ⟨rfl, rfl⟩, ?_⟩)
      exact ⟨ext_step rfl rfl rfl rfl rfl rfl rfl rfl rfl rfl rfl rfl (hitP_nb r f l).1 nU, hk bx s' EU E0 E1 EN t0 t1 tU d0 d1 dU hN hi' n0 n1 nU⟩
    refine ⟨⟨trivial, ?_⟩, trivial⟩
    refine ⟨⟨trivial, ?_⟩, trivial⟩
    refine ⟨⟨trivial, ?_⟩, trivial⟩
    refine ⟨_, r, r.hitP f l, _, rfl, ⟨f, l, rfl, hok, hfr, rfl, rfl⟩, bQ, bR, bH, e0, e1, eU, c0, c1, cU, hl, rfl, rfl, hx0, hx1, rfl, rfl, rfl, rfl, rfl, fun EU E0 E1 EN t0 t1 tU d0 d1 dU n0 n1 nU => ?_⟩
    iterate 2 (refine ⟨_, ⟨rfl, rfl⟩, ?_⟩)
    exact ⟨ext_step rfl rfl rfl rfl rfl rfl rfl rfl rfl rfl rfl rfl (hitP_nb r f l).1 nU, hk bx s' EU E0 E1 EN t0 t1 tU d0 d1 dU hN hi' n0 n1 nU⟩
  refine ⟨⟨trivial, ?_⟩, ?_⟩
  · refine ⟨⟨trivial, ?_⟩, ?_⟩
    · refine ⟨_, p, p.hitP f l, _, rfl, ⟨f, l, rfl, hfp, rfl, rfl⟩, bS, bA, bP, bU, s, hi, rfl, rfl, rfl, rfl, rfl, fun s' hN hi' => ?_⟩
      refine ⟨⟨trivial, ?_⟩, trivial⟩
      refine ⟨⟨trivial, ?_⟩, trivial⟩
      refine ⟨_, r, r.hitP f l, _, rfl, ⟨f, l, rfl, hok, hfr, rfl, rfl⟩, bQ, bR, bH, e0, e1, eU, c0, c1, cU, hl, rfl, rfl, hx0, hx1, rfl, rfl, rfl, rfl, rfl, fun EU E0 E1 EN t0 t1 tU d0 d1 dU n0 n1 nU => ?_⟩
      iterate 2 (refine ⟨_, ⟨rfl, rfl⟩, ?_⟩)
      exact ⟨ext_step rfl rfl rfl rfl rfl rfl rfl rfl rfl rfl rfl rfl (hitP_nb r f l).1 nU, hk bx s' EU E0 E1 EN t0 t1 tU d0 d1 dU hN hi' n0 n1 nU⟩
    refine ⟨⟨trivial, ?_⟩, trivial⟩
    refine ⟨⟨trivial, ?_⟩, trivial⟩
    refine ⟨_, p, p.hitP f l, _, rfl, ⟨f, l, rfl, hfp, rfl, rfl⟩, bS, bA, bP, bU, s, hi, rfl, rfl, rfl, rfl, rfl, fun s' hN hi' => ?_⟩
    refine ⟨⟨trivial, ?_⟩, trivial⟩
    refine ⟨_, r, r.hitP f l, _, rfl, ⟨f, l, rfl, hok, hfr, rfl, rfl⟩, bQ, bR, bH, e0, e1, eU, c0, c1, cU, hl, rfl, rfl, hx0, hx1, rfl, rfl, rfl, rfl, rfl, fun EU E0 E1 EN t0 t1 tU d0 d1 dU n0 n1 nU => ?_⟩
    iterate 2 (refine ⟨_, ⟨rfl, rfl⟩, ?_⟩)
    exact ⟨ext_step rfl rfl rfl rfl rfl rfl rfl rfl rfl rfl rfl rfl (hitP_nb r f l).1 nU, hk bx s' EU E0 E1 EN t0 t1 tU d0 d1 dU hN hi' n0 n1 nU⟩
  refine ⟨⟨trivial, ?_⟩, trivial⟩
  refine ⟨⟨trivial, ?_⟩, ?_⟩
  · refine ⟨_, p, p.hitP f l, _, rfl, ⟨f, l, rfl, hfp, rfl, rfl⟩, bS, bA, bP, bU, s, hi, rfl, rfl, rfl, rfl, rfl, fun s' hN hi' => ?_⟩
    refine ⟨⟨trivial, ?_⟩, trivial⟩
    refine ⟨⟨trivial, ?_⟩, trivial⟩
    refine ⟨_, r, r.hitP f l, _, rfl, ⟨f, l, rfl, hok, hfr, rfl, rfl⟩, bQ, bR, bH, e0, e1, eU, c0, c1, cU, hl, rfl, rfl, hx0, hx1, rfl, rfl, rfl, rfl, rfl, fun EU E0 E1 EN t0 t1 tU d0 d1 dU n0 n1 nU => ?_⟩
    iterate 2 (refine ⟨_, ⟨rfl, rfl⟩, ?_⟩)
    exact ⟨ext_step rfl rfl rfl rfl rfl rfl rfl rfl rfl rfl rfl rfl (hitP_nb r f l).1 nU, hk bx s' EU E0 E1 EN t0 t1 tU d0 d1 dU hN hi' n0 n1 nU⟩
  refine ⟨⟨trivial, ?_⟩, trivial⟩
  refine ⟨⟨trivial, ?_⟩, trivial⟩
  refine ⟨_, p, p.hitP f l, _, rfl, ⟨f, l, rfl, hfp, rfl, rfl⟩, bS, bA, bP, bU, s, hi, rfl, rfl, rfl, rfl, rfl, fun s' hN hi' => ?_⟩
  refine ⟨⟨trivial, ?_⟩, trivial⟩
  refine ⟨_, r, r.hitP f l, _, rfl, ⟨f, l, rfl, hok, hfr, rfl, rfl⟩, bQ, bR, bH, e0, e1, eU, c0, c1, cU, hl, rfl, rfl, hx0, hx1, rfl, rfl, rfl, rfl, rfl, fun EU E0 E1 EN t0 t1 tU d0 d1 dU n0 n1 nU => ?_⟩
  iterate 2 (refine ⟨_, ⟨rfl, rfl⟩, ?_⟩)
  exact ⟨ext_step rfl rfl rfl rfl rfl rfl rfl rfl rfl rfl rfl rfl (hitP_nb r f l).1 nU, hk bx s' EU E0 E1 EN t0 t1 tU d0 d1 dU hN hi' n0 n1 nU⟩
theorem stepQ_3 {c : Cx} (hc : c.P = Tryd.prog) {p r : Pol} {f l : Int} {bS bA bP bU bQ bR bH : Nat} {s : Sh} {X0 X1 e0 e1 eU : Ent} {c0 c1 cU : Nat} {eX eY : Ent} {K : Out → Hp → Nat → Prop} (hi : Inv s p.m p.m.n) (hfp : p.Fit) (hl : LQ e0 e1 eU c0 c1 cU r) (hx0 : X0 = e0 ∨ X0 = e0.toRo) (hx1 : X1 = e1 ∨ X1 = e1.toRo) (hok : Ok r.m) (hfr : r.Fit)
    (hk : ∀ (bx : Nat) (s' : Sh) (EU E0 E1 EN : Ent) (t0 t1 tU d0 d1 dU : Nat), s'.N = s.N → Inv s' (p.missP l).m (p.missP l).m.n → NewL 50 E0 40 t0 e0 (cI ((r.missP l).m.L 0)) d0 → NewL 51 E1 41 t1 e1 (cI ((r.missP l).m.L 1)) d1 → QU tU EU EN eU (r.missP l).us dU →
      K (.ret (.bool (stepB p r 3 f l))) (GQ bQ bR bH EU E0 E1 EN t0 t1 tU d0 d1 dU (r.missP l) ++ (GP bS bA bP bU s.N p.m.n s' (p.missP l) ++ ((90, .blk bx 1 3 (gOf 3 [.int .i64 3, .int .i64 f, .int .i64 l]) 33) :: (HQ bQ bR bH X0 X1 eU c0 c1 cU r ++ (HPW bS bA bP bU s p ++ [(100, eX), (101, eY)]))))) 91)
    {cd : Code} (hcd : Tryd.f13.body = some cd) :
    W ⟨c, Tryd.f13, T, SPSt, fun o h' nx' => Ext (HQ bQ bR bH X0 X1 eU c0 c1 cU r ++ (HPW bS bA bP bU s p ++ [(100, eX), (101, eY)])) h' ∧ K o h' nx'⟩ [.code cd] (argsS [.ptr 8 0 0, .ptr 3000 0 0, .agg [.int .i64 3, .int .i64 f, .int .i64 l]] 0) (HQ bQ bR bH X0 X1 eU c0 c1 cU r ++ (HPW bS bA bP bU s p ++ [(100, eX), (101, eY)])) 90 := by
  cases hcd
  have hE := mkE' (fn := Tryd.f13) (R := fun o h' nx' => Ext (HQ bQ bR bH X0 X1 eU c0 c1 cU r ++ (HPW bS bA bP bU s p ++ [(100, eX), (101, eY)])) h' ∧ K o h' nx') hc spst
  refine vc_sound hE 80 _ _ _ 90 ?_
  intro bx
  refine W_planw hE 91 [3, 7] (.take 0 (.take 1 (.take 2 (.take 4 (.take 5 (.all (.cons 3 (.all (.cons 6 (.all (.cons 7 (.take 8 (.take 9 .done)) .nil)) .nil)) (.cons 6 (.all (.cons 3 (.all (.cons 7 (.take 8 (.take 9 .done)) .nil)) .nil)) .nil)))))))) (by rw [hc]; exact mix) (by kernel_rfl) 40 ?_
  iterate 5 (refine ⟨_, ⟨rfl, rfl⟩, ?_⟩)
  refine ⟨⟨trivial, ?_⟩, ?_⟩
  · refine ⟨_, p, p.missP l, _, rfl, ⟨l, rfl, hfp, rfl, rfl⟩, bS, bA, bP, bU, s, hi, rfl, rfl, rfl, rfl, rfl, fun s' hN hi' => ?_⟩
    refine ⟨⟨trivial, ?_⟩, trivial⟩
    refine ⟨⟨trivial, ?_⟩, trivial⟩
    refine ⟨_, r, r.missP l, _, rfl, ⟨l, rfl, hok, hfr, rfl, rfl⟩, bQ, bR, bH, e0, e1, eU, c0, c1, cU, hl, rfl, rfl, hx0, hx1, rfl, rfl, rfl, rfl, rfl, fun EU E0 E1 EN t0 t1 tU d0 d1 dU n0 n1 nU => ?_⟩
    iterate 2 (refine ⟨_, ⟨rfl, rfl⟩, ?_⟩)
    exact ⟨ext_step rfl rfl rfl rfl rfl rfl rfl rfl rfl rfl rfl rfl (by rw [(missP_m r l).1]) nU, hk bx s' EU E0 E1 EN t0 t1 tU d0 d1 dU hN hi' n0 n1 nU⟩
  refine ⟨⟨trivial, ?_⟩, trivial⟩
  refine ⟨⟨trivial, ?_⟩, trivial⟩
  refine ⟨_, p, p.missP l, _, rfl, ⟨l, rfl, hfp, rfl, rfl⟩, bS, bA, bP, bU, s, hi, rfl, rfl, rfl, rfl, rfl, fun s' hN hi' => ?_⟩
  refine ⟨⟨trivial, ?_⟩, trivial⟩
  refine ⟨_, r, r.missP l, _, rfl, ⟨l, rfl, hok, hfr, rfl, rfl⟩, bQ, bR, bH, e0, e1, eU, c0, c1, cU, hl, rfl, rfl, hx0, hx1, rfl, rfl, rfl, rfl, rfl, fun EU E0 E1 EN t0 t1 tU d0 d1 dU n0 n1 nU => ?_⟩
  iterate 2 (refine ⟨_, ⟨rfl, rfl⟩, ?_⟩)
  exact ⟨ext_step rfl rfl rfl rfl rfl rfl rfl rfl rfl rfl rfl rfl (by rw [(missP_m r l).1]) nU, hk bx s' EU E0 E1 EN t0 t1 tU d0 d1 dU hN hi' n0 n1 nU⟩
theorem stepQ_4 {c : Cx} (hc : c.P = Tryd.prog) {p r : Pol} {f l : Int} {bS bA bP bU bQ bR bH : Nat} {s : Sh} {X0 X1 e0 e1 eU : Ent} {c0 c1 cU : Nat} {eX eY : Ent} {K : Out → Hp → Nat → Prop} (hi : Inv s p.m p.m.n) (hfp : p.Fit) (hl : LQ e0 e1 eU c0 c1 cU r) (hx0 : X0 = e0 ∨ X0 = e0.toRo) (hx1 : X1 = e1 ∨ X1 = e1.toRo) (hok : Ok r.m) (hfr : r.Fit)
    (hk : ∀ (bx : Nat) (s' : Sh) (EU E0 E1 EN : Ent) (t0 t1 tU d0 d1 dU : Nat), s'.N = s.N → Inv s' (p.withM (p.m.dropI f)).m (p.withM (p.m.dropI f)).m.n → NewL 50 E0 40 t0 e0 (cI ((r.withM (r.m.dropI f)).m.L 0)) d0 → NewL 51 E1 41 t1 e1 (cI ((r.withM (r.m.dropI f)).m.L 1)) d1 → QU tU EU EN eU (r.withM (r.m.dropI f)).us dU →
      K (.ret (.bool (stepB p r 4 f l))) (GQ bQ bR bH EU E0 E1 EN t0 t1 tU d0 d1 dU (r.withM (r.m.dropI f)) ++ (GP bS bA bP bU s.N p.m.n s' (p.withM (p.m.dropI f)) ++ ((90, .blk bx 1 3 (gOf 3 [.int .i64 4, .int .i64 f, .int .i64 l]) 33) :: (HQ bQ bR bH X0 X1 eU c0 c1 cU r ++ (HPW bS bA bP bU s p ++ [(100, eX), (101, eY)]))))) 91)
    {cd : Code} (hcd : Tryd.f13.body = some cd) :
    W ⟨c, Tryd.f13, T, SPSt, fun o h' nx' => Ext (HQ bQ bR bH X0 X1 eU c0 c1 cU r ++ (HPW bS bA bP bU s p ++ [(100, eX), (101, eY)])) h' ∧ K o h' nx'⟩ [.code cd] (argsS [.ptr 8 0 0, .ptr 3000 0 0, .agg [.int .i64 4, .int .i64 f, .int .i64 l]] 0) (HQ bQ bR bH X0 X1 eU c0 c1 cU r ++ (HPW bS bA bP bU s p ++ [(100, eX), (101, eY)])) 90 := by
  cases hcd
  have hE := mkE' (fn := Tryd.f13) (R := fun o h' nx' => Ext (HQ bQ bR bH X0 X1 eU c0 c1 cU r ++ (HPW bS bA bP bU s p ++ [(100, eX), (101, eY)])) h' ∧ K o h' nx') hc spst
  refine vc_sound hE 80 _ _ _ 90 ?_
  intro bx
  refine W_planw hE 91 [3, 7] (.take 0 (.take 1 (.take 2 (.take 4 (.take 5 (.all (.cons 3 (.all (.cons 6 (.all (.cons 7 (.take 8 (.take 9 .done)) .nil)) .nil)) (.cons 6 (.all (.cons 3 (.all (.cons 7 (.take 8 (.take 9 .done)) .nil)) .nil)) .nil)))))))) (by rw [hc]; exact mix) (by kernel_rfl) 40 ?_
  iterate 5 (refine ⟨_, ⟨rfl, rfl⟩, ?_⟩)
  refine ⟨⟨trivial, ?_⟩, ?_⟩
  · refine ⟨_, p, p.withM (p.m.dropI f), _, rfl, ⟨f, rfl, rfl, rfl⟩, bS, bA, bP, bU, s, hi, rfl, rfl, rfl, rfl, rfl, fun s' hN hi' => ?_⟩
    refine ⟨⟨trivial, ?_⟩, trivial⟩
    refine ⟨⟨trivial, ?_⟩, trivial⟩
    refine ⟨_, r, r.withM (r.m.dropI f), _, rfl, ⟨f, rfl, hok, rfl, rfl⟩, bQ, bR, bH, e0, e1, eU, c0, c1, cU, hl, rfl, rfl, hx0, hx1, rfl, rfl, rfl, rfl, rfl, fun EU E0 E1 EN t0 t1 tU d0 d1 dU n0 n1 nU => ?_⟩
    iterate 2 (refine ⟨_, ⟨rfl, rfl⟩, ?_⟩)
    exact ⟨ext_step rfl rfl rfl rfl rfl rfl rfl rfl rfl rfl rfl rfl drop_nb.1 nU, hk bx s' EU E0 E1 EN t0 t1 tU d0 d1 dU hN hi' n0 n1 nU⟩
  refine ⟨⟨trivial, ?_⟩, trivial⟩
  refine ⟨⟨trivial, ?_⟩, trivial⟩
  refine ⟨_, p, p.withM (p.m.dropI f), _, rfl, ⟨f, rfl, rfl, rfl⟩, bS, bA, bP, bU, s, hi, rfl, rfl, rfl, rfl, rfl, fun s' hN hi' => ?_⟩
  refine ⟨⟨trivial, ?_⟩, trivial⟩
  refine ⟨_, r, r.withM (r.m.dropI f), _, rfl, ⟨f, rfl, hok, rfl, rfl⟩, bQ, bR, bH, e0, e1, eU, c0, c1, cU, hl, rfl, rfl, hx0, hx1, rfl, rfl, rfl, rfl, rfl, fun EU E0 E1 EN t0 t1 tU d0 d1 dU n0 n1 nU => ?_⟩
  iterate 2 (refine ⟨_, ⟨rfl, rfl⟩, ?_⟩)
  exact ⟨ext_step rfl rfl rfl rfl rfl rfl rfl rfl rfl rfl rfl rfl drop_nb.1 nU, hk bx s' EU E0 E1 EN t0 t1 tU d0 d1 dU hN hi' n0 n1 nU⟩
theorem stepQ_5 {c : Cx} (hc : c.P = Tryd.prog) {p r : Pol} {f l : Int} {bS bA bP bU bQ bR bH : Nat} {s : Sh} {X0 X1 e0 e1 eU : Ent} {c0 c1 cU : Nat} {eX eY : Ent} {K : Out → Hp → Nat → Prop} (hi : Inv s p.m p.m.n) (hfp : p.Fit) (hl : LQ e0 e1 eU c0 c1 cU r) (hx0 : X0 = e0 ∨ X0 = e0.toRo) (hx1 : X1 = e1 ∨ X1 = e1.toRo) (hok : Ok r.m) (hfr : r.Fit)
    (hk : ∀ (bx : Nat) (s' : Sh) (EU E0 E1 EN : Ent) (t0 t1 tU d0 d1 dU : Nat), s'.N = s.N → Inv s' (p.vicP).m (p.vicP).m.n → NewL 50 E0 40 t0 e0 (cI ((r.vicP).m.L 0)) d0 → NewL 51 E1 41 t1 e1 (cI ((r.vicP).m.L 1)) d1 → QU tU EU EN eU (r.vicP).us dU →
      K (.ret (.bool (stepB p r 5 f l))) (GQ bQ bR bH EU E0 E1 EN t0 t1 tU d0 d1 dU (r.vicP) ++ (GP bS bA bP bU s.N p.m.n s' (p.vicP) ++ ((90, .blk bx 1 3 (gOf 3 [.int .i64 5, .int .i64 f, .int .i64 l]) 33) :: (HQ bQ bR bH X0 X1 eU c0 c1 cU r ++ (HPW bS bA bP bU s p ++ [(100, eX), (101, eY)]))))) 91)
    {cd : Code} (hcd : Tryd.f13.body = some cd) :
    W ⟨c, Tryd.f13, T, SPSt, fun o h' nx' => Ext (HQ bQ bR bH X0 X1 eU c0 c1 cU r ++ (HPW bS bA bP bU s p ++ [(100, eX), (101, eY)])) h' ∧ K o h' nx'⟩ [.code cd] (argsS [.ptr 8 0 0, .ptr 3000 0 0, .agg [.int .i64 5, .int .i64 f, .int .i64 l]] 0) (HQ bQ bR bH X0 X1 eU c0 c1 cU r ++ (HPW bS bA bP bU s p ++ [(100, eX), (101, eY)])) 90 := by
  cases hcd
  have hE := mkE' (fn := Tryd.f13) (R := fun o h' nx' => Ext (HQ bQ bR bH X0 X1 eU c0 c1 cU r ++ (HPW bS bA bP bU s p ++ [(100, eX), (101, eY)])) h' ∧ K o h' nx') hc spst
  refine vc_sound hE 120 _ _ _ 90 ?_
  intro bx
  refine ⟨_, p, p.vicP, _, rfl, ⟨rfl, rfl, rfl⟩, bS, bA, bP, bU, s, hi, rfl, rfl, rfl, rfl, rfl, fun s' hN hi' => ?_⟩
  have hfew := hfr.few
  refine ⟨_, r, r.vicP, _, rfl, ⟨rfl, hok, by omega, rfl, rfl⟩, bQ, bR, bH, e0, e1, eU, c0, c1, cU, hl, rfl, rfl, hx0, hx1, rfl, rfl, rfl, rfl, rfl, fun EU E0 E1 EN t0 t1 tU d0 d1 dU n0 n1 nU => ?_⟩
  have hk := hk bx s' EU E0 E1 EN t0 t1 tU d0 d1 dU hN hi' n0 n1 nU
  have hx := ext_step (h := HQ bQ bR bH X0 X1 eU c0 c1 cU r ++ (HPW bS bA bP bU s p ++ [(100, eX), (101, eY)])) (e := .blk bx 1 3 (gOf 3 [.int .i64 5, .int .i64 f, .int .i64 l]) 33) (bS := bS) (bA := bA) (N := s.N) (s' := s') (p' := p.vicP) (E0 := E0) (E1 := E1) (t0 := t0) (t1 := t1) (d0 := d0) (d1 := d1) rfl rfl rfl rfl rfl rfl rfl rfl rfl rfl rfl rfl (vicP_nb r).1 nU
  (refine (?_ : br _ _ _); refine br_eq (fun q => ?_) (fun q => ?_))
  · have q : p.vicI.1 = r.vicI.1 := q
    have e : stepB p r 5 f l = (p.vicI.2 == r.vicI.2) := by
      show ((p.vicI.1 == r.vicI.1) && (p.vicI.2 == r.vicI.2)) = _
      rw [q]; simp
    rw [e] at hk
    exact ⟨hx, hk⟩
  · have q : p.vicI.1 ≠ r.vicI.1 := q
    have e : stepB p r 5 f l = false := by
      show ((p.vicI.1 == r.vicI.1) && (p.vicI.2 == r.vicI.2)) = _
      simp [q]
    rw [e] at hk
    exact ⟨hx, hk⟩

theorem sStepQ_ok : SpecOK Tryd.prog 13 sStepQ := specOK_imp (inl_ok (fn := Tryd.f13) rfl rfl rfl T_ok spst 0) <| by
  rintro args h nx K ⟨p, r, k, f, l, bS, bA, bP, bU, bQ, bR, bH, s, X0, X1, e0, e1, eU, c0, c1, cU, eX, eY, rfl, rfl, hi, hfp, hl, hx0, hx1, hok, hfr, rfl, hk, hk0⟩
  refine ⟨rfl, fun c hc => ?_⟩
  by_cases h0 : k = 0
  · subst h0; exact stepQ_0 hc hi hfp hl hx0 hx1 hok hfr (hk (.inl rfl)) rfl
  by_cases h1 : k = 1
  · subst h1; exact stepQ_1 hc hi hfp hl hx0 hx1 hok hfr (hk (.inr (.inl rfl))) rfl
  by_cases h2 : k = 2
  · subst h2; exact stepQ_2 hc hi hfp hl hx0 hx1 hok hfr (hk (.inr (.inr (.inl rfl)))) rfl
  by_cases h3 : k = 3
  · subst h3; exact stepQ_3 hc hi hfp hl hx0 hx1 hok hfr (hk (.inr (.inr (.inr (.inl rfl))))) rfl
  by_cases h4 : k = 4
  · subst h4; exact stepQ_4 hc hi hfp hl hx0 hx1 hok hfr (hk (.inr (.inr (.inr (.inr (.inl rfl)))))) rfl
  by_cases h5 : k = 5
  · subst h5; exact stepQ_5 hc hi hfp hl hx0 hx1 hok hfr (hk (.inr (.inr (.inr (.inr (.inr rfl)))))) rfl
  have hE := mkE' (fn := Tryd.f13) (R := fun o h' nx' => Ext (HQ bQ bR bH X0 X1 eU c0 c1 cU r ++ (HPW bS bA bP bU s p ++ [(100, eX), (101, eY)])) h' ∧ K o h' nx') hc spst
  have no : ¬ act6 k := by rintro (w | w | w | w | w | w) <;> contradiction
  show W _ _ _ _ 90
  refine vc_sound hE 120 _ _ _ 90 ?_
  intro bx
  (refine (?_ : br _ _ _); refine br_eqF h0 ?_)
  (refine (?_ : br _ _ _); refine br_eqF h1 ?_)
  (refine (?_ : br _ _ _); refine br_eqF h2 ?_)
  (refine (?_ : br _ _ _); refine br_eqF h3 ?_)
  (refine (?_ : br _ _ _); refine br_eqF h4 ?_)
  (refine (?_ : br _ _ _); refine br_eqF h5 ?_)
  exact ⟨Ext.new rfl, hk0 no bx⟩

end Go.Proofs.YtiihiifcnkfjoaaDoor.Sx
