import Derived.Test.YtgcnknhfphgfnaaSxMp
import Derived.Lib.LazyBuf
set_option linter.unusedVariables false
set_option linter.unusedSimpArgs false
/-
  The engine, eighth part: one operation that calls no Go function.
-/
namespace Go.Proofs.Ytgcnknhfphgfnaa.Sx
open Go

def mx (a b : Int) : Int := if b > a then b else a
theorem mx_le (a b : Int) : a ≤ mx a b ∧ b ≤ mx a b := by unfold mx; split <;> omega
theorem run_max7 {P : Program} (w : World) (ts : Array TypeId) (t : TypeId) (k0 k1 k2 k3 k4 k5 k6 : IntKind) (a b c d e f g : Int) : (Builtin.max_ ts t #[.int k0 a, .int k1 b, .int k2 c, .int k3 d, .int k4 e, .int k5 f, .int k6 g]).run P w = .ok (.int k0 (mx (mx (mx (mx (mx (mx a b) c) d) e) f) g)) w := by
  simp [Builtin.max_, Builtin.max2, mx]
def builtinV (b : Builtin) (T : Tab) (argTypes : List TypeId) (vs : List V) (K : V → Prop) : Prop :=
  match b, vs with
  | .len, [v] => (match argTypes with
    | [t] => (match look t T with
      | some ti => (match v with
        | .slice _ _ len _ => chk (Nat.beq ti.kd 7) (K (.int .i64 (len : Int)))
        | .nils => chk (Nat.beq ti.kd 7) (K (.int .i64 0))
        | .raw (.slice _ len _) => chk (Nat.beq ti.kd 7) (K (.int .i64 (len : Int)))
        | .str s => chk (Nat.beq ti.kd 3) (K (.int .i64 (s.size : Int)))
        | _ => False)
      | none => False)
    | _ => False)
  | .min, [.int k a, .int k' b] => K (.int k (if b < a then b else a))
  | .max, [.int k a, .int k' b] => K (.int k (if b > a then b else a))
  | .max, [.int k a, .int _ b, .int _ c, .int _ d, .int _ e, .int _ f, .int _ g] => ∀ m, (a ≤ m ∧ b ≤ m ∧ c ≤ m ∧ d ≤ m ∧ e ≤ m ∧ f ≤ m ∧ g ≤ m) → K (.int k m)
  | _, _ => False

theorem builtinV_ok {P : Program} {T : Tab} (hT : TabOK P T) {b : Builtin} {ts : Array TypeId} {vs : List V} {K : V → Prop} (hs : builtinV b T ts.toList vs K) {hp : Hp} {xs : Array Value} (r : vrelL hp vs xs.toList) (t : TypeId) (cs : Array Bool) (w : World) :
    ∃ v z, K v ∧ vrel hp v z ∧ (builtin b ts t cs xs).run P w = .ok (.value z) w := by
  obtain ⟨xs⟩ := xs
  obtain ⟨ts⟩ := ts
  simp only at r hs
  unfold builtinV at hs
  split at hs
  · rename_i v
    obtain ⟨x, xs', rfl, rv, rfl⟩ := r
    rcases ts with _ | ⟨t0, _ | ⟨t1, ts⟩⟩
    · exact hs.elim
    · simp only at hs
      split at hs
      · rename_i ti ht
        obtain ⟨d, hd, _, _, k3, _, _, k7⟩ := ty_kd hT ht
        split at hs
        · obtain ⟨h1, hs⟩ := chk_spec hs
          obtain ⟨e, rfl⟩ := k7 (Nat.eq_of_beq_eq_true h1)
          obtain ⟨base, sz, _, rfl, _⟩ := rv
          exact ⟨_, _, hs, rfl, by simp [builtin, Builtin.len_, run_underlying hd, goInt]⟩
        · obtain ⟨h1, hs⟩ := chk_spec hs
          obtain ⟨e, rfl⟩ := k7 (Nat.eq_of_beq_eq_true h1)
          obtain rfl := rv
          exact ⟨_, _, hs, rfl, by simp [builtin, Builtin.len_, run_underlying hd, goInt]⟩
        · obtain ⟨h1, hs⟩ := chk_spec hs
          obtain ⟨e, rfl⟩ := k7 (Nat.eq_of_beq_eq_true h1)
          obtain rfl := rv
          exact ⟨_, _, hs, rfl, by simp [builtin, Builtin.len_, run_underlying hd, goInt]⟩
        · obtain ⟨h1, hs⟩ := chk_spec hs
          have := k3 (Nat.eq_of_beq_eq_true h1)
          subst this
          obtain rfl := rv
          exact ⟨_, _, hs, rfl, by simp [builtin, Builtin.len_, run_underlying hd, goInt]⟩
        · exact hs.elim
      · exact hs.elim
    · exact hs.elim
  · obtain ⟨x, xs', rfl, rv, y, ys', rfl, ru, rfl⟩ := r
    obtain rfl := rv; obtain rfl := ru
    refine ⟨_, _, hs, rfl, ?_⟩
    have := run_min_int2 (P := P) w ⟨ts⟩ t
    simp [builtin, run_min_int2]
  · obtain ⟨x, xs', rfl, rv, y, ys', rfl, ru, rfl⟩ := r
    obtain rfl := rv; obtain rfl := ru
    refine ⟨_, _, hs, rfl, ?_⟩
    simp [builtin, run_max_int2]
  · obtain ⟨x0, xs0, rfl, r0, x1, xs1, rfl, r1, x2, xs2, rfl, r2, x3, xs3, rfl, r3, x4, xs4, rfl, r4, x5, xs5, rfl, r5, x6, xs6, rfl, r6, rfl⟩ := r
    obtain rfl := r0; obtain rfl := r1; obtain rfl := r2; obtain rfl := r3; obtain rfl := r4; obtain rfl := r5; obtain rfl := r6
    rename_i k a _ b _ c _ d _ e _ f _ g
    have h1 := mx_le a b
    have h2 := mx_le (mx a b) c
    have h3 := mx_le (mx (mx a b) c) d
    have h4 := mx_le (mx (mx (mx a b) c) d) e
    have h5 := mx_le (mx (mx (mx (mx a b) c) d) e) f
    have h6 := mx_le (mx (mx (mx (mx (mx a b) c) d) e) f) g
    refine ⟨_, _, hs (mx (mx (mx (mx (mx (mx a b) c) d) e) f) g) ⟨by omega, by omega, by omega, by omega, by omega, by omega, by omega⟩, rfl, ?_⟩
    simp [builtin, run_max7]
  · exact hs.elim

/-- Is a slice nil? -/
def nilS (T : Tab) (op : BinOp) (t : TypeId) (tag : Nat) (h : Hp) (K : Bool → Prop) : Prop :=
  match op, look t T, fd tag h with
  | .eql, some ti, .blk .. => chk (Nat.beq ti.kd 7) (K false)
  | .eql, some ti, .ro (some _) .. => chk (Nat.beq ti.kd 7) (K false)
  | .eql, some ti, .ro none .. => chk (Nat.beq ti.kd 7) (K true)
  | _, _, _ => False
theorem nilS_ok {P : Program} {T : Tab} (hT : TabOK P T) {op : BinOp} {t : TypeId} {tag i l cc : Nat} {h : Hp} {K : Bool → Prop} (hs : nilS T op t tag h K) {x y : Value} (rx : vrel h (.slice tag i l cc) x) (ry : vrel h .nils y) (o1 o2 : Operand) (w : World) :
    ∃ p, K p ∧ (eqGuard op t o1 o2 x y).run P w = .ok () w ∧ (binOp op t x y).run P w = .ok (.bool p) w := by
  obtain ⟨base, sz, e1, rfl, _⟩ := rx
  obtain rfl := ry
  unfold nilS at hs
  have key : ∀ ti, look t T = some ti → Nat.beq ti.kd 7 = true → ∀ a : Option Addr, (eqGuard .eql t o1 o2 (.slice a l cc) (.slice none 0 0)).run P w = .ok () w ∧ (binOp .eql t (.slice a l cc) (.slice none 0 0)).run P w = .ok (.bool a.isNone) w := by
    intro ti ht hk a
    obtain ⟨d, hd, _, _, k3, _, _, k7⟩ := ty_kd hT ht
    obtain ⟨e, rfl⟩ := k7 (Nat.eq_of_beq_eq_true hk)
    exact ⟨by simp [eqGuard], Go.run_eql_slice_nil w t e a l cc hd⟩
  split at hs
  · rename_i ti b n sz' g ty ht e
    obtain ⟨h1, k⟩ := chk_spec hs
    rw [e] at e1
    injection e1 with e1
    injection e1 with e1 e2
    subst e1
    obtain ⟨q1, q2⟩ := key _ ht h1 ((some (⟨b, 0, none⟩ : Addr)).map fun ad => ad.add (i * sz))
    exact ⟨_, k, q1, q2⟩
  · rename_i ti b n sz' g ht e
    obtain ⟨h1, k⟩ := chk_spec hs
    rw [e] at e1
    injection e1 with e1
    injection e1 with e1 e2
    subst e1
    obtain ⟨q1, q2⟩ := key _ ht h1 ((some b).map fun ad => ad.add (i * sz))
    exact ⟨_, k, q1, q2⟩
  · rename_i ti n sz' g ht e
    obtain ⟨h1, k⟩ := chk_spec hs
    rw [e] at e1
    injection e1 with e1
    injection e1 with e1 e2
    subst e1
    obtain ⟨q1, q2⟩ := key _ ht h1 none
    exact ⟨_, k, q1, q2⟩
  · exact hs.elim

/-- The map behind a tag. -/
def getMp (h : Hp) (tag : Nat) (K : List (Int × V) → Prop) : Prop :=
  match fd tag h with
  | .mp _ l => K l
  | .rmp _ l => K l
  | _ => False
theorem getMp_ok {c : Cx} {h : Hp} {w : World} (hr : Rel c h w) {tag : Nat} {K : List (Int × V) → Prop} (hs : getMp h tag K) : ∃ b l, K l ∧ (fd tag h).rf = some (.mp b) ∧ MapIs w b l := by
  unfold getMp at hs
  cases e : fd tag h with
  | mp b l => rw [e] at hs; exact ⟨b, l, hs, rfl, hr.mapIs (.inl e)⟩
  | rmp b l => rw [e] at hs; exact ⟨b, l, hs, rfl, hr.mapIs (.inr e)⟩
  | blk => rw [e] at hs; exact hs.elim
  | ro => rw [e] at hs; exact hs.elim
  | it => rw [e] at hs; exact hs.elim
  | gone => rw [e] at hs; exact hs.elim
def lenM (T : Tab) (ts : List TypeId) (vs : List V) (h : Hp) (nx : Nat) (K : V → Hp → Nat → Prop) : Prop :=
  match vs, ts with
  | [.map tag], [t] => (match look t T with | some ti => getMp h tag fun l => chk (Nat.beq ti.kd 11) (K (.int .i64 l.length) h nx) | none => False)
  | vs, ts => builtinV .len T ts vs fun r => K r h nx
def delM (T : Tab) (ts : List TypeId) (vs : List V) (h : Hp) (nx : Nat) (K : V → Hp → Nat → Prop) : Prop :=
  match vs, ts with
  | [.map tag, .int .i64 n], [t, _] => (match look t T with
    | some ti => (match fd tag h with
      | .mp b l => chk (Nat.beq ti.kd 11) (K (.tup []) ((tag, .mp b (mdel l n)) :: h) nx)
      | _ => False)
    | none => False)
  | _, _ => False
def step (T : Tab) (o : Op) (σ : Sl) (h : Hp) (nx : Nat) (K : V → Hp → Nat → Prop) : Prop :=
  match o with
  | .move x => opnd σ h x fun v => K v h nx
  | .assign x => opnd σ h x fun v => K v h nx
  | .pick c a b => opnd σ h c fun p => (match p with
    | .bool p => br p (opnd σ h a fun v => K v h nx) (opnd σ h b fun v => K v h nx)
    | _ => False)
  | .box t x => opnd σ h x fun v => newK T t (cellsV v) h nx K
  | .alloc t => (match look t T with | some ti => chk (ti.zero.length.beq ti.n) (newK T t (some ti.zero) h nx K) | none => False)
  | .load t a => opnd σ h a fun p => (match p, look t T with
    | .ptr tag i c, some ti => doLoad h tag i c ti.n ti.agg fun v => K v h nx
    | _, _ => False)
  | .store t a x => opnd σ h a fun p => opnd σ h x fun v => (match p with
    | .ptr tag i c => (match cellsV v with
      | some l => (match look t T with
        | some ti => chk (l.length.beq ti.n && l.all scal) (doStore h tag i c l fun h' => K und h' nx)
        | none => False)
      | none => False)
    | _ => False)
  | .nilCheck x => opnd σ h x fun v => (match v with
    | .ptr t i c => K (.ptr t i c) h nx
    | .fn (.func f) a b => K (.fn (.func f) a b) h nx
    | _ => False)
  | .binOp op t x y _ => opnd σ h x fun v => opnd σ h y fun u => (match v, u with
    | .flt .f64 a, .flt .f64 b => fltV op a b fun r => K r h nx
    | .slice tag _ _ _, .nils => nilS T op t tag h fun p => K (.bool p) h nx
    | v, u => binV T op t v u fun r => K r h nx)
  | .unOp op _ x => opnd σ h x fun v => unV op v fun r => K r h nx
  | .convert src dst x => opnd σ h x fun v => (match look src T, look dst T with
    | some ts, some td => (match Nat.beq td.kd 9 || Nat.beq ts.kd 9 || Nat.beq td.kd 3 with
      | true => convF T dst v fun r => K r h nx
      | false => convV T dst v fun r => K r h nx)
    | _, _ => False)
  | .fieldAddr t x f => opnd σ h x fun v => fieldA T t f v fun r => K r h nx
  | .field t x f => opnd σ h x fun v => fieldV T t f v fun r => K r h nx
  | .indexAddr t x i => opnd σ h x fun v => opnd σ h i fun u => indexA T h t v u fun r => K r h nx
  | .index t x i => opnd σ h x fun v => opnd σ h i fun u => indexV T t v u fun r => K r h nx
  | .extract x i => opnd σ h x fun v => extractV i v fun r => K r h nx
  | .build t ps => opParts σ h ps.toList fun vs => buildV T t vs fun r => K r h nx
  | .buildSlice t n ps => opParts σ h ps.toList fun vs => buildS T t n vs h nx K
  | .makeSlice t l c => opnd σ h l fun u => opnd σ h c fun v => (match u, v with
    | .int _ l, .int _ c => makeS T t l c h nx K
    | _, _ => False)
  | .slice t x lo hi mx => opnd σ h x fun v => optI σ h lo fun l => optI σ h hi fun u => optI σ h mx fun m => sliceV T h t v l u m fun r => K r h nx
  | .makeInterface t x => opnd σ h x fun v => (match look t T with | some ti => chk (!(Nat.beq ti.kd 0)) (K (.iface t v) h nx) | none => False)
  | .makeFunc f first caps => opnds σ h first.toList fun vs => opnds σ h caps.toList fun us => K (.fn f vs us) h nx
  | .lookup t x k ok => opnd σ h x fun v => opnd σ h k fun u => (match v, u, look t T with
    | .map tag, .int .i64 n, some ti => getMp h tag fun l => chk (Nat.beq ti.kd 11) (match look ti.el T with
      | some te => chk (te.zero.length.beq te.n) (match ok with
        | true => ∀ v, v = mgetV (zeroV te) l n → K (.tup [v, .bool (mhas l n)]) h nx
        | false => ∀ v, v = mgetV (zeroV te) l n → K v h nx)
      | none => False)
    | _, _, _ => False)
  | .mapUpdate t m k x => opnd σ h m fun v => opnd σ h k fun u => opnd σ h x fun y => (match v, u, y, look t T with
    | .map tag, .int .i64 n, z, some ti => (match fd tag h with
      | .mp b l => chk (Nat.beq ti.kd 11 && flB z) (K und ((tag, .mp b (mput l n z)) :: h) nx)
      | _ => False)
    | _, _, _, _ => False)
  | .range t x => opnd σ h x fun v => (match v, look t T with
    | .map tag, some ti => (match fd tag h, fd nx h with
      | .rmp mb l, .gone => chk (Nat.beq ti.kd 11) (∀ b : Nat, K (.ptr nx 0 0) ((nx, .it b mb l l none) :: h) (nx + 1))
      | _, _ => False)
    | _, _ => False)
  | .next x str => opnd σ h x fun v => (match v, str with
    | .ptr tag 0 0, false => (match fd tag h with
      | .it b mb l left cur => (left = [] → K (.tup [.bool false]) h nx) ∧ ∀ i p, left[i]? = some p → K (.tup [.bool true, .int .i64 p.1, p.2]) ((tag, .it b mb l (left.eraseIdx i) (some p)) :: h) nx
      | _ => False)
    | _, _ => False)
  | .entry x => opnd σ h x fun v => (match v with
    | .ptr tag 0 0 => (match fd tag h with
      | .it _ _ _ _ (some p) => K (.tup [.int .i64 p.1, p.2]) h nx
      | _ => False)
    | _ => False)
  | .typeAssert x t u ok => opnd σ h x fun v => (match v, look u T with
    | .iface t' y, some ti => chk (!(Nat.beq ti.kd 0) && Nat.beq t' u) (match ok with
      | true => K (.tup [y, .bool true]) h nx
      | false => K y h nx)
    | _, _ => False)
  | .makeMap _ r => (match r, fd nx h with
    | none, .gone => ∀ b : Nat, K (.map nx) ((nx, .mp b []) :: h) (nx + 1)
    | _, _ => False)
  | .call ⟨.builtin .delete, args, ts⟩ => opnds σ h args.toList fun vs => delM T ts.toList vs h nx K
  | .call ⟨.builtin .len, args, ts⟩ => opnds σ h args.toList fun vs => lenM T ts.toList vs h nx K
  | .call ⟨.builtin .append, args, ts⟩ => opnds σ h args.toList fun vs => (match vs with | [v, u] => appS T ts.toList v u h nx K | _ => False)
  | .call ⟨.builtin b, args, ts⟩ => opnds σ h args.toList fun vs => builtinV b T ts.toList vs fun r => K r h nx
  | _ => False

theorem step_ok {P : Program} {T : Tab} (hT : TabOK P T) {c : Cx} {N : Nat} {σ : Sl} {h : Hp} {a : Act} {w : World} (hm : Match c N σ h a w) {o : Oper} {nx : Nat} {K : V → Hp → Nat → Prop} (hs : step T o.op σ h nx K) : Gives P c o a w h K := by
  have calm : ∀ {v : V} {z : Value}, K v h nx → vrel h v z → (execOp a.eval o).run P w = .ok (.value z) w → Gives P c o a w h K := fun k r e => ⟨_, h, nx, w, .inl ⟨_, e, r⟩, hm.rel, Ext.refl h, k⟩
  obtain ⟨dst, op, ty, pos, aft, gd⟩ := o
  simp only at hs
  cases op <;> simp only [step] at hs
  case move x =>
    obtain ⟨v, k, r⟩ := opnd_ok hm hs
    exact calm k r (by simp [execOp])
  case assign x =>
    obtain ⟨v, k, r⟩ := opnd_ok hm hs
    exact calm k r (by simp [execOp])
  case pick x y z =>
    obtain ⟨v, k, r⟩ := opnd_ok hm hs
    split at k
    · rename_i p
      have rp : a.eval x = .bool p := r
      rcases br_spec k with ⟨rfl, k⟩ | ⟨rfl, k⟩
      · obtain ⟨v, k, r⟩ := opnd_ok hm k
        exact calm k r (by simp [execOp, rp, asBool])
      · obtain ⟨v, k, r⟩ := opnd_ok hm k
        exact calm k r (by simp [execOp, rp, asBool])
    · exact k.elim
  case box t x =>
    obtain ⟨v, k, r⟩ := opnd_ok hm hs
    obtain ⟨h', k', hr, hx, rv⟩ := newK_ok hT hm.rel k (xs := (a.eval x).cells.toList) (fun l' hl' => cellsV_ok hl' r)
    exact ⟨_, h', _, w.alloc (.cells (a.eval x).cells t), .inl ⟨_, by simp [execOp, Instr.box, newVar, newRow], rv⟩, by simpa using hr, hx, k'⟩
  case alloc t =>
    split at hs
    · rename_i ti ht
      obtain ⟨h1, k⟩ := chk_spec hs
      obtain ⟨z, hz, rz⟩ := run_zero hT ht w (Nat.eq_of_beq_eq_true h1)
      obtain ⟨h', k', hr, hx, rv⟩ := newK_ok hT hm.rel k (xs := z.cells.toList) (fun l' hl' => by injection hl' with hl'; subst hl'; exact vrelL_nil rz)
      exact ⟨_, h', _, w.alloc (.cells z.cells t), .inl ⟨_, by simp [execOp, Instr.alloc, hz, newVar, newRow], rv⟩, by simpa using hr, hx, k'⟩
    · exact hs.elim
  case load t x =>
    obtain ⟨p, k, r⟩ := opnd_ok hm hs
    split at k
    · rename_i tag i cc ti ht
      obtain ⟨v, y, k, rv, hrun⟩ := doLoad_ok hT hm.rel ht k r
      exact calm k rv (by simp [execOp, hrun])
    · exact k.elim
  case store t x y =>
    obtain ⟨p, k, r⟩ := opnd_ok hm hs
    obtain ⟨v, k, rv⟩ := opnd_ok hm k
    split at k
    rotate_left
    · exact k.elim
    rename_i tag i cc
    split at k
    rotate_left
    · exact k.elim
    rename_i l hl
    split at k
    · rename_i ti ht
      obtain ⟨h1, k⟩ := chk_spec k
      simp only [Bool.and_eq_true] at h1
      have rl := cellsV_ok hl rv
      obtain ⟨h', w', ad, k', hr, hx, hp, hrun⟩ := doStore_ok (P := P) hm.rel k rl h1.2 r
      have hn : (a.eval y).cells.size = ti.n := by
        rw [← Nat.eq_of_beq_eq_true h1.1, ← vrelL_length rl]; simp
      refine ⟨_, h', _, w', .inr ⟨?_, rfl⟩, hr, hx, k'⟩
      have hsur : ∀ w, (Instr.sureAddr (.pointer (some ad))).run P w = .ok ad w := fun _ => rfl
      simp only [execOp, Sem.run_bind, Instr.storeAt, hp, hsur, Result.andThen_ok, storeVar, run_size hT ht, hn, ne_eq, not_true_eq_false, if_false, hrun, Sem.run_pure]
    · exact k.elim
  case nilCheck x =>
    obtain ⟨v, k, r⟩ := opnd_ok hm hs
    split at k
    · refine calm k r ?_
      obtain ⟨ad, sz, _, e⟩ := r
      simp [execOp, e]
    · refine calm k r ?_
      obtain ⟨as, bs, e, _⟩ := r
      simp [execOp, e]
    · exact k.elim
  case binOp op t x y t' =>
    obtain ⟨v, k, r⟩ := opnd_ok hm hs
    obtain ⟨u, k, r'⟩ := opnd_ok hm k
    split at k
    · rename_i p q _kk
      have r : a.eval x = .float .f64 p := r
      have r' : a.eval y = .float .f64 q := r'
      obtain ⟨v, z, w', k, rz, hw, h1⟩ := fltV_ok (P := P) k t h w
      have hg : (eqGuard op t x y (.float .f64 p) (.float .f64 q)).run P w = .ok () w := by cases op <;> simp [eqGuard]
      refine ⟨v, h, nx, w', .inl ⟨z, ?_, rz⟩, ?_, Ext.refl h, k⟩
      · simp [execOp, r, r', h1, hg]
      · rcases hw with rfl | rfl
        · exact hm.rel
        · exact hm.rel.drew
    · obtain ⟨p, k, h1, h2⟩ := nilS_ok (P := P) hT k r r' x y w
      exact calm k rfl (by simp [execOp, h1, h2])
    · obtain ⟨q, z, k, rz, h1, h2⟩ := binV_ok (P := P) hT k r r' x y w
      exact calm k rz (by simp [execOp, h1, h2])
  case unOp op t x =>
    obtain ⟨v, k, r⟩ := opnd_ok hm hs
    obtain ⟨q, z, k, rz, h1⟩ := unV_ok (P := P) k r w
    exact calm k rz (by simp [execOp, h1])
  case convert t t' x =>
    obtain ⟨v, k, r⟩ := opnd_ok hm hs
    split at k
    · rename_i ti td ht htd
      obtain ⟨_, d, _, hd, _⟩ := ty_info hT ht
      split at k
      · obtain ⟨q, z, w', k, rz, hw, h1⟩ := convF_ok (P := P) hT ⟨d, hd⟩ k r w
        refine ⟨q, h, nx, w', .inl ⟨z, by simp [execOp, h1], rz⟩, ?_, Ext.refl h, k⟩
        rcases hw with rfl | rfl
        · exact hm.rel
        · exact hm.rel.drew
      · obtain ⟨q, z, k, rz, h1⟩ := convV_ok (P := P) hT ⟨d, hd⟩ k r w
        exact calm k rz (by simp [execOp, h1])
    · exact k.elim
  case fieldAddr t x f =>
    obtain ⟨v, k, r⟩ := opnd_ok hm hs
    obtain ⟨q, z, k, rz, h1⟩ := fieldA_ok (P := P) hT k r w
    exact calm k rz (by simp [execOp, h1])
  case field t x f =>
    obtain ⟨v, k, r⟩ := opnd_ok hm hs
    obtain ⟨q, z, k, rz, h1⟩ := fieldV_ok (P := P) hT k r w
    exact calm k rz (by simp [execOp, h1])
  case indexAddr t x i =>
    obtain ⟨v, k, r⟩ := opnd_ok hm hs
    obtain ⟨u, k, r'⟩ := opnd_ok hm k
    obtain ⟨q, z, k, rz, h1⟩ := indexA_ok (P := P) hT k r r' w
    exact calm k rz (by simp [execOp, h1])
  case index t x i =>
    obtain ⟨v, k, r⟩ := opnd_ok hm hs
    obtain ⟨u, k, r'⟩ := opnd_ok hm k
    obtain ⟨q, z, k, rz, h1⟩ := indexV_ok (P := P) hT k r r' w
    exact calm k rz (by simp [execOp, h1])
  case extract x i =>
    obtain ⟨v, k, r⟩ := opnd_ok hm hs
    obtain ⟨q, z, k, rz, h1⟩ := extractV_ok (P := P) k r w
    exact calm k rz (by simp [execOp, h1])
  case build t ps =>
    obtain ⟨vs, k, r⟩ := opParts_ok hm hs
    obtain ⟨q, z, k, rz, h1⟩ := buildV_ok (P := P) hT k (qs := ps.map fun (i, x) => (i, a.eval x)) (by simpa using r) w
    exact calm k rz (by simp [execOp, h1])
  case makeSlice t l c =>
    obtain ⟨u, k, ru⟩ := opnd_ok hm hs
    obtain ⟨v, k, rv⟩ := opnd_ok hm k
    split at k
    · rename_i k1 l' k2 c' _
      have ru : a.eval l = .int k1 l' := ru
      have rv : a.eval c = .int k2 c' := rv
      obtain ⟨v, x, h', w', k, hr, hx, r, hrun⟩ := makeS_ok hT hm.rel k k1 k2
      exact ⟨v, h', _, w', .inl ⟨x, by simp [execOp, ru, rv, hrun], r⟩, hr, hx, k⟩
    · exact k.elim
  case buildSlice t n ps =>
    obtain ⟨vs, k, r⟩ := opParts_ok hm hs
    obtain ⟨v, x, h', w', k', hr, hx, rv, h1⟩ := buildS_ok (P := P) hT hm.rel k (qs := ps.map fun (i, x) => (i, a.eval x)) (by simpa using r)
    exact ⟨v, h', _, w', .inl ⟨x, by simp [execOp, h1], rv⟩, hr, hx, k'⟩
  case slice t x lo hi mx =>
    obtain ⟨v, k, r⟩ := opnd_ok hm hs
    obtain ⟨l, k, r1⟩ := optI_ok hm k
    obtain ⟨u, k, r2⟩ := optI_ok hm k
    obtain ⟨m, k, r3⟩ := optI_ok hm k
    obtain ⟨q, z, k, rz, h1⟩ := sliceV_ok (P := P) hT k r r1 r2 r3 w
    exact calm k rz (by simp [execOp, h1])
  case makeInterface t x =>
    obtain ⟨v, k, r⟩ := opnd_ok hm hs
    split at k
    · rename_i ti ht
      obtain ⟨h1, k⟩ := chk_spec k
      obtain ⟨i, d, hi, hd, _⟩ := ty_info hT ht
      refine calm k ⟨_, rfl, r⟩ ?_
      have hk := hT.1 _ (look_mem ht)
      unfold tyB at hk
      simp only [hi, hd, Bool.and_eq_true] at hk
      have h5 := hk.2
      have h0 : ti.kd ≠ 0 := fun e => by rw [e] at h1; simp at h1
      have : (Instr.makeInterface t (a.eval x)).run P w = .ok (.iface t (a.eval x)) w := by
        simp only [Instr.makeInterface, Sem.run_bind, run_underlying hd, Result.andThen_ok]
        cases d <;> first | rfl | (unfold kdB at h5; split at h5 <;> simp_all)
      simp [execOp, this]
    · exact k.elim
  case lookup t x k ok =>
    obtain ⟨v, q1, r⟩ := opnd_ok hm hs
    obtain ⟨u, q, r'⟩ := opnd_ok hm q1
    clear q1 hs
    split at q
    · rename_i tag n ti ht
      obtain ⟨b, l, q, e1, hmap⟩ := getMp_ok hm.rel q
      obtain ⟨hk, q⟩ := chk_spec q
      obtain ⟨kt, t1, t2, t3⟩ := ty_map hT ht (Nat.eq_of_beq_eq_true hk)
      obtain ⟨b', e2, rx⟩ := r
      rw [e1] at e2
      cases e2
      have r' : a.eval k = .int .i64 n := r'
      split at q
      · rename_i te hte
        obtain ⟨hz, q⟩ := chk_spec q
        obtain ⟨z0, z1, z2⟩ := run_zeroV hT hte (Nat.eq_of_beq_eq_true hz) t3 w
        obtain ⟨y, run, ry⟩ := run_lookup (P := P) t1 t2 z1 z2 hmap n ok
        cases ok with
        | true => exact calm (q _ rfl) ⟨_, rfl, vrelL_cons (ry _) (vrelL_cons rfl rfl)⟩ (by simp [execOp, rx, r', run])
        | false => exact calm (q _ rfl) (ry _) (by simp [execOp, rx, r', run])
      · exact q.elim
    · exact q.elim
  case mapUpdate t m k x =>
    obtain ⟨v, q1, r⟩ := opnd_ok hm hs
    obtain ⟨u, q2, r'⟩ := opnd_ok hm q1
    obtain ⟨y, q, r''⟩ := opnd_ok hm q2
    clear q1 q2 hs
    split at q
    · rename_i tag n ti ht
      cases e : fd tag h with
      | mp b l =>
        rw [e] at q
        obtain ⟨hk, q⟩ := chk_spec q
        rw [Bool.and_eq_true] at hk
        obtain ⟨kt, t1, t2, t3⟩ := ty_map hT ht (Nat.eq_of_beq_eq_true hk.1)
        obtain ⟨b', e2, rx⟩ := r
        rw [e] at e2
        cases e2
        have r' : a.eval k = .int .i64 n := r'
        have r'' := fl_eq hk.2 r''
        obtain ⟨es, ck, run, hes⟩ := run_mapUpdate (P := P) t1 t2 (hm.rel.mapIs (.inl e)) n _ hk.2
        exact ⟨_, (tag, .mp b (mput l n _)) :: h, nx, { w with heap := w.heap.setIfInBounds b (.map es ck) }, .inr ⟨by simp [execOp, rx, r', r'', run], rfl⟩, hm.rel.putM e rfl hes, Ext.same (by rw [e]; rfl), q⟩
      | rmp => rw [e] at q; exact q.elim
      | it => rw [e] at q; exact q.elim
      | blk => rw [e] at q; exact q.elim
      | ro => rw [e] at q; exact q.elim
      | gone => rw [e] at q; exact q.elim
    · exact q.elim
  case range t x =>
    obtain ⟨v, q, r⟩ := opnd_ok hm hs
    split at q
    · rename_i tag ti ht
      split at q
      · rename_i mb l e e'
        obtain ⟨hk, q⟩ := chk_spec q
        obtain ⟨kt, t1, t2, t3⟩ := ty_map hT ht (Nat.eq_of_beq_eq_true hk)
        obtain ⟨b', e2, rx⟩ := r
        rw [e] at e2
        cases e2
        have hn : (fd nx h).rf = none := by rw [e']; rfl
        obtain ⟨w', run, hr⟩ := hm.rel.itNew e hn (P := P) t1
        exact ⟨.ptr nx 0 0, (nx, .it w.heap.size mb l l none) :: h, nx + 1, w', .inl ⟨.pointer (some ⟨w.heap.size, 0, none⟩), by simp [execOp, rx, run], ⟨⟨w.heap.size, 0, none⟩, 0, by rw [fd_cons, if_pos rfl]; rfl, by simp [Addr.add]⟩⟩, hr, Ext.new hn, q w.heap.size⟩
      · exact q.elim
    · exact q.elim
  case next x str =>
    obtain ⟨v, q, r⟩ := opnd_ok hm hs
    split at q
    · rename_i tag
      cases e : fd tag h with
      | it b mb l left cur =>
        rw [e] at q
        obtain ⟨ad, sz, e2, rx⟩ := r
        rw [e] at e2
        cases e2
        have rx : a.eval x = .pointer (some ⟨b, 0, none⟩) := by rw [rx]; simp [Addr.add]
        rcases hm.rel.itNext e (P := P) ty with ⟨z, run⟩ | ⟨i, p, w', hi, hf, run, hr⟩
        · exact calm (q.1 z) ⟨_, rfl, vrelL_cons rfl rfl⟩ (by simp [execOp, rx, run])
        · exact ⟨.tup [.bool true, .int .i64 p.1, p.2], (tag, .it b mb l (left.eraseIdx i) (some p)) :: h, nx, w', .inl ⟨.tuple #[.bool true, .int .i64 p.1, flatV p.2], by simp [execOp, rx, run], ⟨_, rfl, vrelL_cons rfl (vrelL_cons rfl (vrelL_cons (fl_rel hf) rfl))⟩⟩, hr, Ext.same (by rw [e]; rfl), q.2 i p hi⟩
      | mp => rw [e] at q; exact q.elim
      | rmp => rw [e] at q; exact q.elim
      | blk => rw [e] at q; exact q.elim
      | ro => rw [e] at q; exact q.elim
      | gone => rw [e] at q; exact q.elim
    · exact q.elim
  case entry x =>
    obtain ⟨v, q, r⟩ := opnd_ok hm hs
    split at q
    · rename_i tag
      split at q
      · rename_i b mb l left p e
        obtain ⟨ad, sz, e2, rx⟩ := r
        rw [e] at e2
        cases e2
        have rx : a.eval x = .pointer (some ⟨b, 0, none⟩) := by rw [rx]; simp [Addr.add]
        obtain ⟨hf, run⟩ := hm.rel.itEntry e (P := P)
        exact calm q ⟨_, rfl, vrelL_cons rfl (vrelL_cons (fl_rel hf) rfl)⟩ (by simp [execOp, rx, run])
      · exact q.elim
    · exact q.elim
  case typeAssert x t u ok =>
    obtain ⟨v, q, r⟩ := opnd_ok hm hs
    split at q
    · rename_i t' y ti ht
      obtain ⟨hk, q'⟩ := chk_spec q
      clear q hs
      simp only [Bool.and_eq_true] at hk
      have hu : t' = u := Nat.eq_of_beq_eq_true hk.2
      subst hu
      obtain ⟨z, rx, ry⟩ := r
      obtain ⟨i, d, hi, hd, _⟩ := ty_info hT ht
      have hk' := hT.1 _ (look_mem ht)
      unfold tyB at hk'
      simp only [hi, hd, Bool.and_eq_true] at hk'
      have h5 := hk'.2
      have h0 : ti.kd ≠ 0 := fun e => by rw [e] at hk; simp at hk
      have : (Instr.typeAssert (.iface t' z) t t' ok).run P w = .ok (if ok then .tuple #[z, .bool true] else z) w := by
        simp only [Instr.typeAssert, Sem.run_bind, run_underlying hd, Result.andThen_ok]
        cases d <;> first | (cases ok <;> (simp; done)) | (unfold kdB at h5; split at h5 <;> simp_all)
      cases ok with
      | true => exact calm q' ⟨_, rfl, vrelL_cons ry (vrelL_cons rfl rfl)⟩ (by simp [execOp, rx, this])
      | false => exact calm q' ry (by simp [execOp, rx, this])
    · exact q.elim
  case makeMap t r =>
    split at hs
    · rename_i e
      have hn : (fd nx h).rf = none := by rw [e]; rfl
      exact ⟨.map nx, (nx, .mp w.heap.size []) :: h, nx + 1, w.alloc (.map #[] 0), .inl ⟨.map (some w.heap.size), by simp [execOp, Instr.makeMap], ⟨w.heap.size, by rw [fd_cons, if_pos rfl]; rfl, rfl⟩⟩, hm.rel.allocM hn, Ext.new hn, hs w.heap.size⟩
    · exact hs.elim
  case makeFunc f first caps =>
    obtain ⟨vs, k, r⟩ := opnds_ok hm hs
    obtain ⟨us, k, r'⟩ := opnds_ok hm k
    exact calm k ⟨_, _, rfl, r, r'⟩ (by simp [execOp, Instr.makeFunc, ← List.map_toArray])
  case call cl =>
    obtain ⟨callee, args, ts⟩ := cl
    cases callee with
    | value f => exact hs.elim
    | invoke r m => exact hs.elim
    | builtin b =>
      have gen : (opnds σ h args.toList fun vs => builtinV b T ts.toList vs fun r => K r h nx) → Gives P c ⟨dst, .call ⟨.builtin b, args, ts⟩, ty, pos, aft, gd⟩ a w h K := fun hs => by
        obtain ⟨vs, k, r⟩ := opnds_ok hm hs
        obtain ⟨q, z, k, rz, h1⟩ := builtinV_ok (P := P) hT k (xs := args.map a.eval) (by simpa using r) ty (args.map fun | .const _ => true | _ => false) w
        refine calm k rz ?_
        simp only [execOp, resolve, Sem.run_bind, Sem.run_pure, Result.andThen_ok, invoke]
        exact h1
      cases b
      case append =>
        obtain ⟨vs, k, r⟩ := opnds_ok hm hs
        split at k
        · rename_i v u
          obtain ⟨x, xs, e1, rx, y, ys, rfl, ry, rfl⟩ := r
          obtain ⟨q, h', nx', w', z, k', hr, hx, rz, hrun⟩ := appS_ok (P := P) hT hm.rel k rx ry ty
          refine ⟨q, h', nx', w', .inl ⟨z, ?_, rz⟩, hr, hx, k'⟩
          have e2 : args.map a.eval = #[x, y] := by apply Array.ext'; simpa using e1
          simp only [execOp, resolve, Sem.run_bind, Sem.run_pure, Result.andThen_ok, invoke, e2, builtin, hrun]
        · exact k.elim
      case delete =>
        obtain ⟨vs, k, r⟩ := opnds_ok hm hs
        unfold delM at k
        split at k
        · rename_i tag n t t' e0
          split at k
          · rename_i ti ht
            cases e : fd tag h with
            | mp b l =>
              rw [e] at k
              obtain ⟨hk, k⟩ := chk_spec k
              obtain ⟨kt, t1, t2, t3⟩ := ty_map hT ht (Nat.eq_of_beq_eq_true hk)
              obtain ⟨x, xs, e1, ⟨b', e2, rx⟩, y, ys, rfl, ry, rfl⟩ := r
              rw [e] at e2
              cases e2
              obtain rfl := ry
              obtain ⟨es, ck, run, hes⟩ := run_delete (P := P) (kt' := t') (ty := ty) t1 t2 (hm.rel.mapIs (.inl e)) n
              have e3 : args.map a.eval = #[x, .int .i64 n] := by apply Array.ext'; simpa using e1
              have e4 : ts = #[t, t'] := by apply Array.ext'; simpa using e0
              subst rx
              refine ⟨.tup [], (tag, .mp b (mdel l n)) :: h, nx, { w with heap := w.heap.setIfInBounds b (.map es ck) }, .inl ⟨.tuple #[], ?_, ⟨[], rfl, rfl⟩⟩, hm.rel.putM e rfl hes, Ext.same (by rw [e]; rfl), k⟩
              simp only [execOp, resolve, Sem.run_bind, Sem.run_pure, Result.andThen_ok, invoke, e3, e4, builtin, run]
            | rmp => rw [e] at k; exact k.elim
            | it => rw [e] at k; exact k.elim
            | blk => rw [e] at k; exact k.elim
            | ro => rw [e] at k; exact k.elim
            | gone => rw [e] at k; exact k.elim
          · exact k.elim
        · exact k.elim
      case len =>
        obtain ⟨vs, k, r⟩ := opnds_ok hm hs
        unfold lenM at k
        split at k
        · rename_i tag t e0
          split at k
          · rename_i ti ht
            obtain ⟨b, l, k, e1, hmap⟩ := getMp_ok hm.rel k
            obtain ⟨hk, k⟩ := chk_spec k
            obtain ⟨kt, t1, t2, t3⟩ := ty_map hT ht (Nat.eq_of_beq_eq_true hk)
            obtain ⟨x, xs, e3, ⟨b', e2, rx⟩, rfl⟩ := r
            rw [e1] at e2
            cases e2
            have run := run_len_map (P := P) (ty := ty) t1 hmap
            have e5 : args.map a.eval = #[x] := by apply Array.ext'; simpa using e3
            have e4 : ts = #[t] := by apply Array.ext'; simpa using e0
            subst rx
            refine calm k rfl ?_
            simp only [execOp, resolve, Sem.run_bind, Sem.run_pure, Result.andThen_ok, invoke, e5, e4, builtin, run]
          · exact k.elim
        · obtain ⟨q, z, k, rz, h1⟩ := builtinV_ok (P := P) hT k (xs := args.map a.eval) (by simpa using r) ty (args.map fun | .const _ => true | _ => false) w
          refine calm k rz ?_
          simp only [execOp, resolve, Sem.run_bind, Sem.run_pure, Result.andThen_ok, invoke]
          exact h1
      all_goals exact gen hs

end Go.Proofs.Ytgcnknhfphgfnaa.Sx
