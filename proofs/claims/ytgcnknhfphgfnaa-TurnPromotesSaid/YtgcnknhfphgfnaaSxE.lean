import Derived.Test.YtgcnknhfphgfnaaSxD
set_option linter.unusedVariables false
set_option linter.unusedSimpArgs false
/-
  The engine, fifth part: an operation that calls nothing, and what it gives.
-/
namespace Go.Proofs.Ytgcnknhfphgfnaa.Sx
open Go

theorem binV_ok {P : Program} {T : Tab} (hT : TabOK P T) {op : BinOp} {t : TypeId} {v u : V} {K : V → Prop} (hs : binV T op t v u K) {hp : Hp} {x y : Value} (rx : vrel hp v x) (ry : vrel hp u y) (o1 o2 : Operand) (w : World) :
    ∃ r z, K r ∧ vrel hp r z ∧ (binOp op t x y).run P w = .ok z w ∧ (eqGuard op t o1 o2 x y).run P w = .ok () w := by
  unfold binV at hs
  split at hs
  · rename_i k a k' b
    obtain rfl := rx; obtain rfl := ry
    have hg : (eqGuard op t o1 o2 (.int k a) (.int k' b)).run P w = .ok () w := by cases op <;> simp [eqGuard]
    split at hs
    · obtain ⟨r, z, h1, h2, h3⟩ := shI_ok (P := P) (k' := k') hs t hp w
      exact ⟨r, z, h1, h2, h3, hg⟩
    · obtain ⟨r, z, h1, h2, h3⟩ := shI_ok (P := P) (k' := k') hs t hp w
      exact ⟨r, z, h1, h2, h3, hg⟩
    · obtain ⟨h1, hs'⟩ := chk_spec hs
      have h1 := of_decide_eq_true h1
      subst h1
      obtain ⟨r, z, h1, h2, h3⟩ := binI_ok (P := P) hs' t hp w
      exact ⟨r, z, h1, h2, h3, hg⟩
  · rename_i a b
    obtain rfl := rx; obtain rfl := ry
    split at hs
    · exact ⟨_, _, hs, rfl, by simp [binOp, Op.stringOp], by simp [eqGuard]⟩
    · exact ⟨_, _, hs, rfl, by simp [binOp, Op.stringOp], by simp [eqGuard]⟩
    · obtain ⟨h1, hs⟩ := hs
      have hs := hs _ rfl
      have h2 : ¬ (((a.size + b.size : Nat) : Int) > IntKind.i64.max) := by
        have : IntKind.i64.max = 9223372036854775807 := by decide
        rw [this]; omega
      refine ⟨_, _, hs, rfl, ?_, by simp [eqGuard]⟩
      simp only [binOp, Op.stringOp, if_neg h2]
      rfl
    · exact hs.elim
  · rename_i hne1 hne2
    split at hs
    · obtain ⟨p, hk, hr, hg⟩ := eqB_ok hT hs rx ry .eql o1 o2 w
      refine ⟨_, .bool p, hk, rfl, ?_, hg⟩
      unfold eqB at hs
      split at hs
      · split at hs
        · obtain rfl := rx; obtain rfl := ry; simp [binOp, hr]
        · obtain rfl := rx; obtain rfl := ry; simp [binOp, hr]
        · obtain ⟨ad, sz, _, rfl⟩ := rx; obtain rfl := ry; simp [binOp, hr]
        · obtain ⟨xs, rfl, _⟩ := rx; obtain ⟨ys, rfl, _⟩ := ry; simp [binOp, hr]
        · exact hs.elim
      · exact hs.elim
    · obtain ⟨p, hk, hr, hg⟩ := eqB_ok hT hs rx ry .neq o1 o2 w
      refine ⟨_, .bool (!p), hk, rfl, ?_, hg⟩
      unfold eqB at hs
      split at hs
      · split at hs
        · obtain rfl := rx; obtain rfl := ry; simp [binOp, hr]
        · obtain rfl := rx; obtain rfl := ry; simp [binOp, hr]
        · obtain ⟨ad, sz, _, rfl⟩ := rx; obtain rfl := ry; simp [binOp, hr]
        · obtain ⟨xs, rfl, _⟩ := rx; obtain ⟨ys, rfl, _⟩ := ry; simp [binOp, hr]
        · exact hs.elim
      · exact hs.elim
    · exact hs.elim

theorem unV_ok {P : Program} {op : UnOp} {v : V} {K : V → Prop} (hs : unV op v K) {hp : Hp} {x : Value} (rx : vrel hp v x) (w : World) : ∃ r z, K r ∧ vrel hp r z ∧ (Op.unary op x).run P w = .ok z w := by
  unfold unV at hs
  split at hs
  · obtain rfl := rx; exact ⟨_, _, hs, rfl, by simp [Op.unary]⟩
  · obtain rfl := rx; exact ⟨_, _, hs, rfl, by simp [Op.unary, Op.intArith]⟩
  · exact hs.elim

theorem convV_ok {P : Program} {T : Tab} (hT : TabOK P T) {src dst : TypeId} (hsrc : ∃ d, P.underlying src = some d) {v : V} {K : V → Prop} (hs : convV T dst v K) {hp : Hp} {x : Value} (rx : vrel hp v x) (w : World) : ∃ r z, K r ∧ vrel hp r z ∧ (convert src dst x).run P w = .ok z w := by
  unfold convV at hs
  split at hs
  · rename_i ti k n ht
    obtain ⟨h1, hs⟩ := chk_spec hs
    obtain ⟨d, hd, k1, k2, _⟩ := ty_kd hT ht
    have := k2 (Nat.eq_of_beq_eq_true h1)
    subst this
    obtain rfl := rx
    obtain ⟨ds, hds⟩ := hsrc
    refine ⟨_, _, hs, rfl, ?_⟩
    simp only [convert, Sem.run_bind, run_underlying hds, run_underlying hd, Result.andThen_ok]
    rfl
  · exact hs.elim

/-! ### Floats -/
theorem nan_cut (t : Nat) : isN ((t % 2) * 2 ^ 63 + 0x7ff0000000000000 + 1 + (t / 2) % (2 ^ 52 - 1)) = true ∧ (t % 2) * 2 ^ 63 + 0x7ff0000000000000 + 1 + (t / 2) % (2 ^ 52 - 1) < 18446744073709551616 := by
  have h1 : (t / 2) % (2 ^ 52 - 1) < 2 ^ 52 - 1 := Nat.mod_lt _ (by decide)
  refine ⟨Nat.ble_eq_true_of_le ?_, ?_⟩
  · show 9218868437227405312 + 1 ≤ _
    have h2 : ((t % 2) * 2 ^ 63 + 0x7ff0000000000000 + 1 + (t / 2) % (2 ^ 52 - 1)) % 9223372036854775808 = 0x7ff0000000000000 + 1 + (t / 2) % (2 ^ 52 - 1) := by
      rw [Nat.add_assoc, Nat.add_assoc, Nat.mul_comm, show (2 : Nat) ^ 63 = 9223372036854775808 from rfl, Nat.mul_add_mod, Nat.mod_eq_of_lt (by omega)]
      omega
    rw [h2]
    omega
  · omega
theorem fltA_ok {P : Program} {op : BinOp} {a b : Nat} (w : World) (hop : op = .add ∨ op = .sub ∨ op = .mul ∨ op = .quo) (t : TypeId) : ∃ r w', FRes op a b r ∧ (w' = w ∨ w' = { w with drawn := w.drawn + 1 }) ∧ (binOp op t (.float .f64 a) (.float .f64 b)).run P w = .ok (.float .f64 r) w' := by
  cases e : floatBits op .f64 a b with
  | some r => exact ⟨r, w, .inl e, .inl rfl, run_float_arith w op t .f64 a b r e⟩
  | none =>
    refine ⟨_, _, .inr ⟨e, nan_cut (w.tape w.drawn (.nanBits .f64 a b))⟩, .inr rfl, ?_⟩
    have e' := e
    unfold floatBits at e
    rcases hop with rfl | rfl | rfl | rfl <;> simp only at e <;> simp [binOp, Op.floatArith, e, run_choose, Question.forced, Question.cut]
theorem fltV_ok {P : Program} {op : BinOp} {a b : Nat} {K : V → Prop} (hs : fltV op a b K) (t : TypeId) (hp : Hp) (w : World) : ∃ r z w', K r ∧ vrel hp r z ∧ (w' = w ∨ w' = { w with drawn := w.drawn + 1 }) ∧ (binOp op t (.float .f64 a) (.float .f64 b)).run P w = .ok z w' := by
  unfold fltV at hs
  split at hs
  · obtain ⟨r, w', h1, h2, h3⟩ := fltA_ok (P := P) (op := .add) (a := a) (b := b) w (by simp) t
    exact ⟨_, _, w', hs r h1, rfl, h2, h3⟩
  · obtain ⟨r, w', h1, h2, h3⟩ := fltA_ok (P := P) (op := .sub) (a := a) (b := b) w (by simp) t
    exact ⟨_, _, w', hs r h1, rfl, h2, h3⟩
  · obtain ⟨r, w', h1, h2, h3⟩ := fltA_ok (P := P) (op := .mul) (a := a) (b := b) w (by simp) t
    exact ⟨_, _, w', hs r h1, rfl, h2, h3⟩
  · obtain ⟨r, w', h1, h2, h3⟩ := fltA_ok (P := P) (op := .quo) (a := a) (b := b) w (by simp) t
    exact ⟨_, _, w', hs r h1, rfl, h2, h3⟩
  all_goals first | exact hs.elim | exact ⟨_, _, w, hs, rfl, .inl rfl, by simp [binOp, Op.floatCmp, fOrd, FloatKind.format]⟩
theorem convF_ok {P : Program} {T : Tab} (hT : TabOK P T) {src dst : TypeId} (hsrc : ∃ d, P.underlying src = some d) {v : V} {K : V → Prop} (hs : convF T dst v K) {hp : Hp} {x : Value} (rx : vrel hp v x) (w : World) : ∃ r z w', K r ∧ vrel hp r z ∧ (w' = w ∨ w' = { w with drawn := w.drawn + 1 }) ∧ (convert src dst x).run P w = .ok z w' := by
  obtain ⟨ds, hds⟩ := hsrc
  unfold convF at hs
  split at hs
  · rename_i ti k n ht
    obtain rfl := rx
    split at hs
    · rename_i hk
      obtain ⟨d, hd, _, _, k3, _⟩ := ty_kd hT ht
      have := k3 hk
      subst this
      refine ⟨_, _, w, hs, rfl, .inl rfl, ?_⟩
      cases ds <;> simp [convert, run_underlying hds, run_underlying hd, Conv.intToString]
    · obtain ⟨h1, hs⟩ := chk_spec hs
      have hd := ty_flt hT ht (Nat.eq_of_beq_eq_true h1)
      refine ⟨_, _, w, hs, rfl, .inl rfl, ?_⟩
      cases ds <;> simp [convert, run_underlying hds, run_underlying hd, Conv.intToFloat]
  · rename_i ti b ht
    obtain ⟨h1, hs⟩ := chk_spec hs
    obtain ⟨d, hd, _, k2, _⟩ := ty_kd hT ht
    have := k2 (Nat.eq_of_beq_eq_true h1)
    subst this
    obtain rfl := rx
    cases e : floatToIntVal .f64 b ti.ik with
    | some m => exact ⟨_, _, w, hs m (fun m' e' => by rw [e] at e'; injection e'), rfl, .inl rfl, run_convert_float_int w src dst .f64 ti.ik b m (by rw [hds]; rfl) hd e⟩
    | none =>
      refine ⟨_, _, _, hs (ti.ik.wrap ((Question.floatToInt .f64 b ti.ik).cut (w.tape w.drawn (.floatToInt .f64 b ti.ik)))) (fun m' e' => by rw [e] at e'; cases e'), rfl, .inr rfl, ?_⟩
      unfold floatToIntVal at e
      have e2 : (convert src dst (.float .f64 b)).run P w = (Conv.floatToInt .f64 b ti.ik).run P w := by
        cases ds <;> simp [convert, run_underlying hds, run_underlying hd]
      rw [e2]
      unfold Conv.floatToInt
      split at e
      · rename_i m em
        split at e
        · cases e
        · rename_i hn
          simp [em, if_neg hn, run_choose, Question.forced]
      · rename_i em
        simp [em, run_choose, Question.forced]
  · exact hs.elim

theorem getElem?_map_fields {fs : Array Field} {α : Type} {F : Field → α} {l : List α} (h : fs.toList.map F = l) {f : Nat} {a : α} (hf : l[f]? = some a) : ∃ fd, fs[f]? = some fd ∧ F fd = a ∧ fd ∈ fs.toList := by
  rw [← h, List.getElem?_map] at hf
  cases e : fs.toList[f]? with
  | none => rw [e] at hf; cases hf
  | some fd =>
    rw [e] at hf
    injection hf with hf
    exact ⟨fd, by simpa using e, hf, List.mem_of_getElem? e⟩


theorem or_beq {a b c : Nat} (h : (Nat.beq a b || Nat.beq a c) = true) : a = b ∨ a = c := by
  simp only [Bool.or_eq_true] at h
  exact h.imp Nat.eq_of_beq_eq_true Nat.eq_of_beq_eq_true
theorem run_sizeOf' {P : Program} {t : TypeId} (h : (P.info? t).isSome) (w : World) : (sizeOf t).run P w = .ok (P.cellsOf t) w := by
  obtain ⟨i, hi⟩ := Option.isSome_iff_exists.1 h
  simp [sizeOf, typeInfo, hi, Program.cellsOf]
theorem run_isAgg' {P : Program} {t : TypeId} (h : (P.underlying t).isSome) (w : World) : (isAgg t).run P w = .ok (((P.underlying t).map isAggB).getD false) w := by
  obtain ⟨d, hd⟩ := Option.isSome_iff_exists.1 h
  simp only [isAgg, underlying, Sem.run_bind, run_program, Result.andThen_ok, hd, Sem.run_pure]
  cases d <;> rfl

theorem fieldA_ok {P : Program} {T : Tab} (hT : TabOK P T) {t f : Nat} {v : V} {K : V → Prop} (hs : fieldA T t f v K) {hp : Hp} {x : Value} (rx : vrel hp v x) (w : World) :
    ∃ r z, K r ∧ vrel hp r z ∧ (Instr.fieldAt t x f).run P w = .ok z w := by
  unfold fieldA at hs
  split at hs
  · rename_i ti tag i c ht
    obtain ⟨h1, hs⟩ := chk_spec hs
    obtain ⟨d, hd, _, _, _, k4, _⟩ := ty_kd hT ht
    obtain ⟨fs, rfl⟩ := k4 (or_beq h1)
    obtain ⟨e1, e2, _⟩ := ty_struct hT ht hd
    split at hs
    · rename_i o m hf
      obtain ⟨fl, hfl, he, hmem⟩ := getElem?_map_fields e1 hf
      obtain ⟨s1, s2, s3⟩ := e2 fl hmem
      simp only [Prod.mk.injEq] at he
      obtain ⟨ad, sz, hrf, rfl⟩ := rx
      refine ⟨_, .pointer (some ((ad.add (i * sz + c)).add fl.offset)), hs, ⟨ad, sz, hrf, ?_⟩, ?_⟩
      · rw [add_add, he.1, Nat.add_assoc]
      · simp [Instr.fieldAt, run_underlying hd, hfl, Instr.sureAddr, fieldPlace, run_sizeOf' s2, s1]
    · exact hs.elim
  · exact hs.elim

theorem drop_take_rel {hp : Hp} {l : List V} {xs : List Value} (r : vrelL hp l xs) (o m : Nat) : vrelL hp ((l.drop o).take m) ((xs.drop o).take m) :=
  vrelL_of (by simp [vrelL_length r]) (fun j v hv => by
    have hj : j < m := by
      have := (List.getElem?_eq_some_iff.1 hv).1
      simp at this; omega
    rw [List.getElem?_take, if_pos hj, List.getElem?_drop] at hv
    obtain ⟨x, ex, rx⟩ := vrelL_at r _ _ hv
    exact ⟨x, by rw [List.getElem?_take, if_pos hj, List.getElem?_drop]; exact ex, rx⟩)

theorem fieldV_ok {P : Program} {T : Tab} (hT : TabOK P T) {t f : Nat} {v : V} {K : V → Prop} (hs : fieldV T t f v K) {hp : Hp} {x : Value} (rx : vrel hp v x) (w : World) :
    ∃ r z, K r ∧ vrel hp r z ∧ (Instr.field t x f).run P w = .ok z w := by
  unfold fieldV at hs
  split at hs
  · rename_i ti l ht
    obtain ⟨h1, hs⟩ := chk_spec hs
    obtain ⟨d, hd, _, _, _, k4, _⟩ := ty_kd hT ht
    obtain ⟨fs, rfl⟩ := k4 (or_beq h1)
    obtain ⟨e1, e2, _⟩ := ty_struct hT ht hd
    obtain ⟨xs, rfl, rl⟩ := rx
    split at hs
    · rename_i o m hf
      obtain ⟨fl, hfl, he, hmem⟩ := getElem?_map_fields e1 hf
      obtain ⟨s1, s2, s3⟩ := e2 fl hmem
      simp only [Prod.mk.injEq] at he
      rw [forceL_eq] at hs
      refine ⟨_, .agg ((xs.drop o).take m).toArray, hs, ⟨_, rfl, drop_take_rel rl o m⟩, ?_⟩
      have hx : xs.toArray.extract o (o + m) = ((xs.drop o).take m).toArray := by
        apply Array.ext'
        simp [List.take_drop]
      simp [Instr.field, run_underlying hd, hfl, asAgg, part, run_isAgg' s3, he.2.2, run_sizeOf' s2, he.2.1, he.1, hx]
    · rename_i o m hf
      obtain ⟨fl, hfl, he, hmem⟩ := getElem?_map_fields e1 hf
      obtain ⟨s1, s2, s3⟩ := e2 fl hmem
      simp only [Prod.mk.injEq] at he
      split at hs
      · rename_i v hv
        rw [force_eq] at hs
        obtain ⟨x, ex, rx⟩ := vrelL_at rl _ _ hv
        refine ⟨_, x, hs, rx, ?_⟩
        simp [Instr.field, run_underlying hd, hfl, asAgg, part, run_isAgg' s3, he.2.2, he.1, ex]
      · exact hs.elim
    · exact hs.elim
  · exact hs.elim

theorem extractV_ok {P : Program} {ix : Nat} {v : V} {K : V → Prop} (hs : extractV ix v K) {hp : Hp} {x : Value} (rx : vrel hp v x) (w : World) : ∃ r z, K r ∧ vrel hp r z ∧ (Instr.extract x ix).run P w = .ok z w := by
  unfold extractV at hs
  split at hs
  · obtain ⟨xs, rfl, rl⟩ := rx
    split at hs
    · rename_i v hv
      rw [force_eq] at hs
      obtain ⟨x, ex, rx⟩ := vrelL_at rl _ _ hv
      exact ⟨_, x, hs, rx, by simp [Instr.extract, ex]⟩
    · exact hs.elim
  · exact hs.elim

theorem szOf_ok {h : Hp} {tag : Nat} {K : Nat → Prop} (hs : szOf h tag K) : ∃ base sz, (fd tag h).rf = some (.mem base sz) ∧ K sz := by
  unfold szOf at hs
  split at hs
  · rename_i e; exact ⟨_, _, by rw [e]; rfl, hs⟩
  · rename_i e; exact ⟨_, _, by rw [e]; rfl, hs⟩
  all_goals exact hs.elim

theorem and_int {n m : Int} (h : (decide (0 ≤ n) && decide (n < m)) = true) : 0 ≤ n ∧ n < m := by
  simp only [Bool.and_eq_true, decide_eq_true_eq] at h
  exact h

theorem indexA_ok {P : Program} {T : Tab} (hT : TabOK P T) {t : Nat} {v u : V} {hp : Hp} {K : V → Prop} (hs : indexA T hp t v u K) {x y : Value} (rx : vrel hp v x) (ry : vrel hp u y) (w : World) :
    ∃ r z, K r ∧ vrel hp r z ∧ (Instr.indexAt t x y).run P w = .ok z w := by
  unfold indexA at hs
  split at hs
  · rename_i ti k n ht
    obtain rfl := ry
    obtain ⟨d, hd, _, _, _, _, k5, k7⟩ := ty_kd hT ht
    split at hs
    · rename_i te hte
      split at hs
      · rename_i tag i c
        obtain ⟨base, sz, hrf, hs⟩ := szOf_ok hs
        obtain ⟨h1, hs⟩ := chk_spec hs
        obtain ⟨h2, hs5⟩ := chk_spec hs
        obtain ⟨hn0, hn1⟩ := and_int h2
        clear hs
        obtain ⟨m, e, rfl⟩ := k5 (or_beq h1)
        obtain ⟨e1, e2, _⟩ := ty_array hT ht hd
        subst e1 e2
        obtain ⟨ad, sz', hrf', rfl⟩ := rx
        rw [hrf] at hrf'
        injection hrf' with hrf'
        injection hrf' with hb hsz
        subst hb hsz
        have hrun : (Instr.indexAt t (.pointer (some (ad.add (i * sz + c)))) (.int k n)).run P w = .ok (.pointer (some ((ad.add (i * sz + c)).add (n.toNat * te.n)))) w := by
          have hc : 0 ≤ n ∧ n < (ti.len : Int) := ⟨hn0, hn1⟩
          have hsur : (Instr.sureAddr (.pointer (some (ad.add (i * sz + c))))).run P w = .ok (ad.add (i * sz + c)) w := rfl
          simp only [Instr.indexAt, asIntOf, Sem.run_bind, Sem.run_pure, Result.andThen_ok, run_underlying hd, hsur, if_pos hc, run_size hT hte]
        split at hs5
        · rename_i hb
          simp only [Bool.and_eq_true] at hb
          have b1 : te.n = sz := Nat.eq_of_beq_eq_true hb.1
          have b2 : c = 0 := Nat.eq_of_beq_eq_true hb.2
          subst b1 b2
          refine ⟨_, _, hs5, ⟨ad, te.n, hrf, ?_⟩, hrun⟩
          rw [add_add, addI_eq, Nat.add_mul]
          rfl
        · refine ⟨_, _, hs5, ⟨ad, sz, hrf, ?_⟩, hrun⟩
          rw [add_add, Nat.add_assoc]
      · rename_i tag i len cap
        obtain ⟨base, sz, hrf, hs⟩ := szOf_ok hs
        obtain ⟨h1, hs⟩ := chk_spec hs
        obtain ⟨h2, hs⟩ := chk_spec hs
        obtain ⟨h3, hs5⟩ := chk_spec hs
        clear hs
        obtain ⟨hn0, hn1⟩ := and_int h2
        obtain ⟨e, rfl⟩ := k7 (Nat.eq_of_beq_eq_true h1)
        have e2 := ty_slice hT ht hd
        subst e2
        obtain ⟨base', sz', hrf', rfl, hsome⟩ := rx
        rw [hrf] at hrf'
        injection hrf' with hrf'
        injection hrf' with hb hsz
        subst hb hsz
        have b1 : te.n = sz := Nat.eq_of_beq_eq_true h3
        subst b1
        cases base with
        | none => simp at hsome; obtain ⟨hl0, _⟩ := hsome; subst hl0; simp at hn1; omega
        | some ad =>
          refine ⟨_, .pointer (some ((ad.add (i * te.n)).add (n.toNat * te.n))), hs5, ⟨ad, te.n, hrf, ?_⟩, ?_⟩
          · rw [add_add, addI_eq, Nat.add_mul]
            rfl
          · have hc : 0 ≤ n ∧ n < (len : Int) := ⟨hn0, hn1⟩
            simp only [Instr.indexAt, asIntOf, Sem.run_bind, Sem.run_pure, Result.andThen_ok, run_underlying hd, Option.map_some, if_pos hc, run_size hT hte]
      · exact hs.elim
    · exact hs.elim
  · exact hs.elim

theorem indexV_ok {P : Program} {T : Tab} (hT : TabOK P T) {t : Nat} {v u : V} {hp : Hp} {K : V → Prop} (hs : indexV T t v u K) {x y : Value} (rx : vrel hp v x) (ry : vrel hp u y) (w : World) :
    ∃ r z, K r ∧ vrel hp r z ∧ (Instr.index t x y).run P w = .ok z w := by
  unfold indexV at hs
  split at hs
  · rename_i ti k n l ht
    obtain rfl := ry
    obtain ⟨xs, rfl, rl⟩ := rx
    obtain ⟨d, hd, _, _, _, _, k5, k7⟩ := ty_kd hT ht
    split at hs
    · rename_i te hte
      obtain ⟨h1, hs⟩ := chk_spec hs
      obtain ⟨h2, hs⟩ := chk_spec hs
      have hc := and_int h2
      obtain ⟨m, e, rfl⟩ := k5 (or_beq h1)
      obtain ⟨e1, e2, _⟩ := ty_array hT ht hd
      subst e1 e2
      have hag := run_agg hT hte w
      split at hs
      · rename_i hta
        rw [hta] at hag
        rw [forceL_eq] at hs
        refine ⟨_, .agg ((xs.drop (n.toNat * te.n)).take te.n).toArray, hs, ⟨_, rfl, drop_take_rel rl _ _⟩, ?_⟩
        have hx : xs.toArray.extract (n.toNat * te.n) (n.toNat * te.n + te.n) = ((xs.drop (n.toNat * te.n)).take te.n).toArray := by
          apply Array.ext'
          simp [List.take_drop]
        simp only [Instr.index, asIntOf, Sem.run_bind, Sem.run_pure, Result.andThen_ok, run_underlying hd, if_pos hc, run_size hT hte, part, hag, if_true, hx]
      · rename_i hta
        rw [hta] at hag
        split at hs
        · rename_i v hv
          rw [force_eq] at hs
          obtain ⟨x, ex, rx⟩ := vrelL_at rl _ _ hv
          refine ⟨_, x, hs, rx, ?_⟩
          simp [Instr.index, asIntOf, run_underlying hd, hc, run_size hT hte, part, hag, ex]
        · exact hs.elim
    · exact hs.elim
  · exact hs.elim

end Go.Proofs.Ytgcnknhfphgfnaa.Sx
