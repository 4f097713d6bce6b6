import Derived.Test.YtmohokeeglnliaaDoorSxV5
/-
  The means of some reports.
-/
namespace Go.Proofs.YtmohokeeglnliaaDoor.Sx
open Go Go.Proofs Go.RowKit Go.Sort
set_option maxRecDepth 100000
set_option linter.unusedSimpArgs false
set_option linter.unusedVariables false


/-! ### Single steps -/
theorem vc_skip {E : Env} {n : Nat} {k : List It} {σ : Sl} {h : Hp} {nx : Nat} (H : vc E n k σ h nx) : vc E (n + 1) (.code .skip :: k) σ h nx := H
theorem vc_seq {E : Env} {n : Nat} {a b : Code} {k : List It} {σ : Sl} {h : Hp} {nx : Nat} (H : vc E n (.code a :: .code b :: k) σ h nx) : vc E (n + 1) (.code (.seq a b) :: k) σ h nx := H
theorem vc_reg {E : Env} {n id : Nat} {ops : Array Oper} {k : List It} {σ : Sl} {h : Hp} {nx : Nat} (H : vc E n (.ops ops.toList ops.toList :: k) σ h nx) : vc E (n + 1) (.code (.region id ops false) :: k) σ h nx := H
theorem vc_nil {E : Env} {n : Nat} {all : List Oper} {k : List It} {σ : Sl} {h : Hp} {nx : Nat} (H : vc E n k σ h nx) : vc E (n + 1) (.ops all [] :: k) σ h nx := H
theorem vc_op {E : Env} {n : Nat} {all l : List Oper} {k : List It} {σ : Sl} {h : Hp} {nx : Nat} {d : Option Nat} {op : Op} {ty : TypeId} {pos : String} {aft : Array Edge}
    (H : stepC E op σ h nx (fun v h' nx' => putS E.fn.ntmps d v σ fun σ' => vc E n (.ops all l :: k) σ' h' nx') (fun v h' nx' => E.R (.pan v) h' nx')) : vc E (n + 1) (.ops all (⟨d, op, ty, pos, aft, none⟩ :: l) :: k) σ h nx := H
theorem st_move {E : Env} {x : Nat} {σ : Sl} {h : Hp} {nx : Nat} {K KP : V → Hp → Nat → Prop} {v : V} (e : lk x σ = some v) (H : K v h nx) : stepC E (.move (.tmp x)) σ h nx K KP := by
  show opnd σ h (.tmp x) fun v => K v h nx
  simp only [opnd, e, force_eq]
  exact H
theorem st_idx0 {E : Env} {t x tag i len cap n : Nat} {σ : Sl} {h : Hp} {nx : Nat} {K KP : V → Hp → Nat → Prop} {ti te : TI} {base : Option Addr} {g : Nat → Nat → V} (e : lk x σ = some (.slice tag i len cap)) (e1 : look t E.T = some ti) (e2 : look ti.el E.T = some te)
    (e3 : fd tag h = .ro base n te.n g) (e4 : Nat.beq ti.kd 7 = true) (hl : 0 < len) (H : K (.ptr tag i 0) h nx) : stepC E (.indexAddr t (.tmp x) (.const (.int .i64 0))) σ h nx K KP := by
  show opnd σ h (.tmp x) fun v => opnd σ h (.const (.int .i64 0)) fun u => indexA E.T h t v u fun r => K r h nx
  simp only [opnd, e, force_eq, ofConst, indexA, e1, e2]
  unfold szOf
  simp only [e3]
  refine chk_ok e4 (chk_ok (by simp only [Bool.and_eq_true, decide_eq_true_eq]; omega) (chk_ok (by simp) ?_))
  have : addI i (Int.toNat 0) = i := by rw [addI_eq]; rfl
  rw [this]
  exact H
theorem st_fld {E : Env} {t x f tag i c o : Nat} {m : Nat × Bool} {σ : Sl} {h : Hp} {nx : Nat} {K KP : V → Hp → Nat → Prop} {ti : TI} (e : lk x σ = some (.ptr tag i c)) (e1 : look t E.T = some ti) (e2 : (Nat.beq ti.kd 4 || Nat.beq ti.kd 8) = true) (e3 : ti.flds[f]? = some (o, m))
    (H : K (.ptr tag i (c + o)) h nx) : stepC E (.fieldAddr t (.tmp x) f) σ h nx K KP := by
  show opnd σ h (.tmp x) fun v => fieldA E.T t f v fun r => K r h nx
  simp only [opnd, e, force_eq, fieldA, e1, e3]
  exact chk_ok e2 H
theorem st_ld {E : Env} {t x tag i c n sz : Nat} {σ : Sl} {h : Hp} {nx : Nat} {K KP : V → Hp → Nat → Prop} {ti : TI} {base : Option Addr} {g : Nat → Nat → V} (e : lk x σ = some (.ptr tag i c)) (e1 : look t E.T = some ti) (e2 : ti.n = 1) (e3 : ti.agg = false) (e4 : fd tag h = .ro base n sz g)
    (hc : c < sz) (hi : i < n) (H : K (g i c) h nx) : stepC E (.load t (.tmp x)) σ h nx K KP := by
  have hb : Nat.ble (i * sz + c + 1) (n * sz) = true := Nat.ble_eq_true_of_le (by have : (i + 1) * sz ≤ n * sz := Nat.mul_le_mul_right _ hi; rw [Nat.add_mul] at this; omega)
  have h1 : i + c / sz = i := by rw [Nat.div_eq_of_lt hc]; rfl
  have h2 : c % sz = c := Nat.mod_eq_of_lt hc
  simp only [stepC, step, opnd, e, force_eq, e1, doLoad, getM, e4, e2, e3, h1, h2]
  exact chk_ok hb H
theorem pt {N d : Nat} {v : V} {σ : Sl} {K : Sl → Prop} (hd : Nat.blt d N = true) (H : K ((d, v) :: σ)) : putS N (some d) v σ K := chk_ok hd H
theorem st_asg {E : Env} {x : Nat} {σ : Sl} {h : Hp} {nx : Nat} {K KP : V → Hp → Nat → Prop} {v : V} (e : lk x σ = some v) (H : K v h nx) : stepC E (.assign (.tmp x)) σ h nx K KP := by
  show opnd σ h (.tmp x) fun v => K v h nx
  simp only [opnd, e, force_eq]
  exact H
theorem vc_block {E : Env} {n id : Nat} {c : Code} {k : List It} {σ : Sl} {h : Hp} {nx : Nat} (H : vc E n (.code c :: .inBlock id :: k) σ h nx) : vc E (n + 1) (.code (.block id c) :: k) σ h nx := H
theorem vc_inb {E : Env} {n id : Nat} {k : List It} {σ : Sl} {h : Hp} {nx : Nat} (H : vc E n k σ h nx) : vc E (n + 1) (.inBlock id :: k) σ h nx := H
theorem vc_fin {E : Env} {n : Nat} {J : Sl → Hp → Nat → Prop} {k : List It} {σ : Sl} {h : Hp} {nx : Nat} (H : J σ h nx) : vc E (n + 1) (.fin J :: k) σ h nx := H
theorem st_idx {E : Env} {t x y tag i len cap n j : Nat} {σ : Sl} {h : Hp} {nx : Nat} {K KP : V → Hp → Nat → Prop} {ti te : TI} {base : Option Addr} {g : Nat → Nat → V} (e : lk x σ = some (.slice tag i len cap)) (ey : lk y σ = some (.int .i64 (j : Int))) (e1 : look t E.T = some ti) (e2 : look ti.el E.T = some te)
    (e3 : fd tag h = .ro base n te.n g) (e4 : Nat.beq ti.kd 7 = true) (hl : j < len) (H : K (.ptr tag (i + j) 0) h nx) : stepC E (.indexAddr t (.tmp x) (.tmp y)) σ h nx K KP := by
  show opnd σ h (.tmp x) fun v => opnd σ h (.tmp y) fun u => indexA E.T h t v u fun r => K r h nx
  simp only [opnd, e, ey, force_eq, indexA, e1, e2]
  unfold szOf
  simp only [e3]
  refine chk_ok e4 (chk_ok (by simp only [Bool.and_eq_true, decide_eq_true_eq]; omega) (chk_ok (by simp) ?_))
  have : addI i (Int.toNat (j : Int)) = i + j := by rw [addI_eq]; rfl
  rw [this]
  exact H
theorem st_mean {E : Env} {x y : Nat} {a b : Int} {ts : Array TypeId} {σ : Sl} {h : Hp} {nx : Nat} {K KP : V → Hp → Nat → Prop} (e : lk x σ = some (.int .u64 a)) (e' : lk y σ = some (.int .u64 b)) (es : lookS 40 E.SP = some sRefMean) (H : K (.int .u64 (meanV a.toNat b.toNat)) h nx) :
    stepC E (.call ⟨.value (.func 40), #[.tmp x, .tmp y], ts⟩) σ h nx K KP := by
  simp only [stepC, opnd, opnds, e, e', force_eq, es]
  exact H
theorem st_add1 {E : Env} {x t t' j : Nat} {σ : Sl} {h : Hp} {nx : Nat} {K KP : V → Hp → Nat → Prop} (e : lk x σ = some (.int .i64 (j : Int))) (H : K (.int .i64 (IntKind.i64.wrap ((j : Int) + 1))) h nx) :
    stepC E (.binOp .add t (.tmp x) (.const (.int .i64 1)) t') σ h nx K KP := by
  simp only [stepC, step, opnd, e, force_eq, ofConst]
  exact H
def sEachR : Spec := fun args h nx K => sEach0 args h nx K ∨ sEach1 args h nx K
theorem sEachR_ok : SpecOK Tryd.prog 37 sEachR := fun c hc args h nx K hs => hs.elim (sEach0_ok c hc args h nx K) (sEach1_ok c hc args h nx K)

def meanO (f : Nat → Nat → Int) (n : Nat) : List V := [.int .u64 (if n = 0 then 0 else chainN (fun j => f j 0) (n - 1)), .int .u64 (if n = 0 then 0 else chainN (fun j => f j 1) (n - 1)), .bool (decide (0 < n))]
def sMeanR : Spec := fun args h nx K => ∃ (v : V) (n : Nat) (f : Nat → Nat → Int), args = [v] ∧ rdK 6 kR h v n f ∧ n ≤ 1048576 ∧ K (.ret (.tup (meanO f n))) h nx
theorem outTup {l m : List V} (h : l = m) : Out.ret (.tup l) = Out.ret (.tup m) := by rw [h]
def SPM1 : SpT := [(37, sEachR), (36, sMeans)]
theorem spm1 : ∀ p ∈ SPM1, SpecOK Tryd.prog p.1 p.2 := consSP sEachR_ok (consSP sMeans_ok noSP)
theorem meanO_zero (f : Nat → Nat → Int) : meanO f 0 = [.int .u64 0, .int .u64 0, .bool false] := by simp [meanO]
theorem meanO_pos {f : Nat → Nat → Int} {n : Nat} (h : 0 < n) : meanO f n = [.int .u64 (chainN (fun j => f j 0) (n - 1)), .int .u64 (chainN (fun j => f j 1) (n - 1)), .bool true] := by
  unfold meanO
  rw [if_neg (by omega), if_neg (by omega), decide_eq_true h]
theorem sMeanR_ok : SpecOK Tryd.prog 15 sMeanR := by
  refine specOK_read2 (fn := Tryd.f15) rfl rfl rfl T_ok (SP := SPM1) spm1 200 _ ?_
  rintro args h nx K ⟨v, n, f, rfl, hv, hn, hk⟩
  obtain ⟨b, N, i, c, F, hN, hF, told⟩ := toldK_one (rest := []) hv trivial
  refine ⟨_, _, told, by simp [Tryd.f15], fun o => o = .ret (.tup (meanO f n)), ?_, ?_⟩
  · rintro o rfl; exact ⟨⟨trivial, trivial, trivial, trivial⟩, hk⟩
  intro cx hc
  clear hk told hv
  (refine (?_ : br _ _ _); refine br_eq (fun e => ?_) (fun e => ?_))
  · have e : (n : Int) = 0 := e
    obtain rfl : n = 0 := by omega
    exact outTup (meanO_zero f).symm
  · have e : (n : Int) ≠ 0 := e
    have hn0 : 0 < n := by omega
    refine .inl ⟨_, n, fun j k => F (i + j) k, rfl, .inr ⟨2000, i, c, b, N, _, rfl, rfl, hN, F, fun j k _ _ => rfl, fun j k _ _ => rfl⟩, hn, rfl, fun bb g hg _ => ?_⟩
    refine ⟨_, n, bb, g, 22, _, rfl, hn0, rfl, hg, hn, ?_⟩
    refine .inr ⟨_, n, fun j k => F (i + j) k, rfl, .inr ⟨2000, i, c, b, N, _, rfl, rfl, hN, F, fun j k _ _ => rfl, fun j k _ _ => rfl⟩, hn, rfl, fun bb' g' hg' _ => ?_⟩
    refine ⟨_, n, bb', g', 22, _, rfl, hn0, rfl, hg', hn, ?_⟩
    refine outTup ?_
    rw [meanO_pos hn0]
    have q0 : chainN (fun j => F (i + j) 0) (n - 1) = chainN (fun j => f j 0) (n - 1) := chainN_congr fun j hj => (hF j 0 (by omega) (by omega)).symm
    have q1 : chainN (fun j => F (i + j) 1) (n - 1) = chainN (fun j => f j 1) (n - 1) := chainN_congr fun j hj => (hF j 1 (by omega) (by omega)).symm
    rw [← q0, ← q1]

theorem sRefMeanR_ok : SpecOK Tryd.prog 16 sMeanR := by
  refine specOK_read2 (fn := Tryd.f16) rfl rfl rfl T_ok (SP := [(40, sRefMean)]) (consSP sRefMean_ok noSP) 300 _ ?_
  rintro args h nx K ⟨v, n, f, rfl, hv, hn, hk⟩
  obtain ⟨b, N, i, c, F, hN, hF, told⟩ := toldK_one (rest := []) hv trivial
  refine ⟨_, _, told, by simp [Tryd.f16], fun o => o = .ret (.tup (meanO f n)), ?_, ?_⟩
  · rintro o rfl; exact ⟨⟨trivial, trivial, trivial, trivial⟩, hk⟩
  intro cx hc
  clear hk told hv
  (refine (?_ : br _ _ _); refine br_eq (fun e => ?_) (fun e => ?_))
  · have e : (n : Int) = 0 := e
    obtain rfl : n = 0 := by omega
    exact outTup (meanO_zero f).symm
  · have e : (n : Int) ≠ 0 := e
    have hn0 : (0 : Int) < (n : Int) := by omega
    have z0 : F i 0 = f 0 0 := by rw [hF 0 0 (by omega) (by omega)]; rfl
    have z1 : F i 1 = f 0 1 := by rw [hF 0 1 (by omega) (by omega)]; rfl
    have hl : 0 < n := by omega
    refine vc_skip ?_
    refine vc_seq ?_
    refine vc_reg ?_
    refine vc_op (st_move rfl (pt rfl ?_))
    refine vc_op (st_idx0 (g := gK kR F) (base := b) (n := N) rfl rfl rfl rfl rfl hl (pt rfl ?_))
    refine vc_op (st_fld rfl rfl rfl rfl (pt rfl ?_))
    refine vc_op (st_ld (g := gK kR F) (base := b) (n := N) (sz := 6) rfl rfl rfl rfl rfl (by decide) (by omega) (pt rfl ?_))
    refine vc_op (st_asg rfl (pt rfl ?_))
    refine vc_nil ?_
    refine vc_seq ?_
    refine vc_reg ?_
    refine vc_op (st_move rfl (pt rfl ?_))
    refine vc_op (st_idx0 (g := gK kR F) (base := b) (n := N) rfl rfl rfl rfl rfl hl (pt rfl ?_))
    refine vc_op (st_fld rfl rfl rfl rfl (pt rfl ?_))
    refine vc_op (st_ld (g := gK kR F) (base := b) (n := N) (sz := 6) rfl rfl rfl rfl rfl (by decide) (by omega) (pt rfl ?_))
    refine vc_op (st_asg rfl (pt rfl ?_))
    refine vc_nil ?_
    refine W_loop (fun r σ h => ∃ a : Nat, r = n - (a + 1) ∧ a + 1 ≤ n ∧
      σ = [(0, .slice 2000 i n c), (2, .int .u64 0), (3, .int .u64 0), (4, .bool false), (5, .int .u64 (chainN (fun j => f j 0) a)), (6, .int .u64 (chainN (fun j => f j 1) a)), (7, .int .i64 ((a + 1 : Nat) : Int))] ∧ h = [(2000, .ro b N 6 (gK kR F))]) (n - 1) ⟨0, rfl, by omega, rfl, rfl⟩ (tau []) ⟨rfl, ?_, ?_⟩ 30 ?_
    · repeat' (first | exact rfl | exact trivial | exact z0 | exact z1 | refine ⟨?_, ?_⟩)
    · exact ⟨⟨rfl, rfl, rfl, fun i c hi hc => ⟨rfl, rfl⟩⟩, trivial⟩
    rintro r σ h1 ⟨a, rfl, ha, rfl, rfl⟩
    obtain ⟨j, hj⟩ : ∃ j, j = a + 1 := ⟨_, rfl⟩
    rw [← hj]
    refine vc_sound (mkE hc T_ok (consSP sRefMean_ok noSP)) 200 _ _ _ 30 ?_
    (refine (?_ : br _ _ _); refine br_dec (fun hlt => ?_) (fun hlt => ?_))
    · have hlt : (j : Int) < (n : Int) := hlt
      have hjn : j < n := by omega
      have hw : IntKind.i64.wrap ((j : Int) + 1) = ((j + 1 : Nat) : Int) := by simp [IntKind.wrap_i64]; omega
      have y0 : chainN (fun j => f j 0) (a + 1) = meanV (chainN (fun j => f j 0) a).toNat (F ((i + j)) 0).toNat := by rw [← hF j 0 hjn (by omega), hj]; rfl
      have y1 : chainN (fun j => f j 1) (a + 1) = meanV (chainN (fun j => f j 1) a).toNat (F ((i + j)) 1).toNat := by rw [← hF j 1 hjn (by omega), hj]; rfl
      have hw' : IntKind.i64.wrap ((j : Int) + 1) = ((a + 1 + 1 : Nat) : Int) := by rw [hw, hj]
      refine vc_skip ?_
      refine vc_seq ?_
      refine vc_block ?_
      refine vc_seq ?_
      refine vc_reg ?_
      refine vc_op (st_move rfl (pt rfl ?_))
      refine vc_op (st_move rfl (pt rfl ?_))
      refine vc_op (st_move rfl (pt rfl ?_))
      refine vc_op (st_idx (g := gK kR F) (base := b) (n := N) (j := j) rfl rfl rfl rfl rfl rfl hjn (pt rfl ?_))
      refine vc_op (st_fld rfl rfl rfl rfl (pt rfl ?_))
      refine vc_op (st_ld (g := gK kR F) (base := b) (n := N) (sz := 6) rfl rfl rfl rfl rfl (by decide) (by omega) (pt rfl ?_))
      refine vc_op (st_mean rfl rfl rfl (pt rfl ?_))
      refine vc_op (st_asg rfl (pt rfl ?_))
      refine vc_nil ?_
      refine vc_reg ?_
      refine vc_op (st_move rfl (pt rfl ?_))
      refine vc_op (st_move rfl (pt rfl ?_))
      refine vc_op (st_move rfl (pt rfl ?_))
      refine vc_op (st_idx (g := gK kR F) (base := b) (n := N) (j := j) rfl rfl rfl rfl rfl rfl hjn (pt rfl ?_))
      refine vc_op (st_fld rfl rfl rfl rfl (pt rfl ?_))
      refine vc_op (st_ld (g := gK kR F) (base := b) (n := N) (sz := 6) rfl rfl rfl rfl rfl (by decide) (by omega) (pt rfl ?_))
      refine vc_op (st_mean rfl rfl rfl (pt rfl ?_))
      refine vc_op (st_asg rfl (pt rfl ?_))
      refine vc_nil ?_
      refine vc_inb ?_
      refine vc_reg ?_
      refine vc_op (st_move rfl (pt rfl ?_))
      refine vc_op (st_add1 (j := j) rfl (pt rfl ?_))
      refine vc_op (st_asg rfl (pt rfl ?_))
      refine vc_nil ?_
      refine vc_fin ?_
      refine ⟨n - (a + 1 + 1), _, _, by omega, ⟨a + 1, rfl, by omega, rfl, rfl⟩, tau [], rfl, ?_, ?_⟩
      · repeat' (first | exact rfl | exact trivial | exact hw' | exact y0.symm | exact y1.symm | refine ⟨?_, ?_⟩)
      · exact ⟨⟨rfl, rfl, rfl, fun i c hi hc => ⟨rfl, rfl⟩⟩, trivial⟩
    · have hlt : ¬ (j : Int) < (n : Int) := hlt
      obtain rfl : a = n - 1 := by omega
      refine outTup ?_
      rw [meanO_pos (by omega)]
end Go.Proofs.YtmohokeeglnliaaDoor.Sx
