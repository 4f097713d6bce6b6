import Derived.Test.YtgcnknhfphgfnaaSxH
set_option linter.unusedVariables false
set_option linter.unusedSimpArgs false
/-
  The engine, ninth part: calls by what is known of them, control, and the condition that a function's text comes to.
-/
namespace Go.Proofs.Ytgcnknhfphgfnaa.Sx
open Go

/-! ### What a call comes to -/
inductive Out where
  | ret (v : V)
  | pan (v : V)
def OutRel (h : Hp) : Out → Ending → Prop
  | .ret v, e => ∃ x, e = .returned x ∧ vrel h v x
  | .pan v, e => ∃ x, e = .panicked [{ v := x, recovered := false }] ∧ vrel h v x

abbrev Spec := List V → Hp → Nat → (Out → Hp → Nat → Prop) → Prop
abbrev SpT := List (Nat × Spec)
def lookS (t : Nat) : SpT → Option Spec
  | [] => none
  | (u, x) :: r => match t.beq u with | true => some x | false => lookS t r
theorem lookS_mem : ∀ {T : SpT} {t : Nat} {s : Spec}, lookS t T = some s → (t, s) ∈ T
  | [], _, _, h => by simp [lookS] at h
  | (u, x) :: r, t, s, h => by
    unfold lookS at h
    by_cases e : t = u
    · subst e
      simp at h
      subst h
      exact List.mem_cons_self ..
    · rw [beq_ne e] at h
      exact List.mem_cons_of_mem _ (lookS_mem h)

/-- A call of function f: it is entered, or (no text of its own) answers at once. -/
def CallRes (P : Program) (f : Nat) (xs : Array Value) (w : World) (R : Ending → World → Prop) : Prop :=
  ((callFunc f xs).run P w = .ok (.enter f xs) w ∧ Calls P f xs w R) ∨ ∃ x w', (callFunc f xs).run P w = .ok (.value x) w' ∧ R (.returned x) w'

def SpecOK (P : Program) (f : Nat) (s : Spec) : Prop :=
  ∀ (c : Cx), c.P = P → ∀ args h nx K, s args h nx K → ∀ w xs, Rel c h w → vrelL h args xs →
    CallRes P f xs.toArray w fun e w' => ∃ o h' nx', K o h' nx' ∧ Rel c h' w' ∧ Ext h h' ∧ OutRel h' o e

/-! ### What there is to be done -/
inductive It where
  | code (c : Code)
  | ops (all l : List Oper)
  | inBlock (n : Nat)
  | fin (J : Sl → Hp → Nat → Prop)

structure Env where
  c : Cx
  fn : Func
  T : Tab
  SP : SpT
  R : Out → Hp → Nat → Prop

structure EnvOK (E : Env) : Prop where
  tab : TabOK E.c.P E.T
  sps : ∀ p ∈ E.SP, SpecOK E.c.P p.1 p.2

/-- What the machine's world has to meet in the end. -/
def Env.post (E : Env) (e : Ending) (w : World) : Prop := ∃ o h nx, E.R o h nx ∧ Rel E.c h w ∧ OutRel h o e

def postK (E : Env) : List It → Exit → Act → World → Prop
  | [], e, a, w => bodyPost E.c.P E.fn E.post e a w
  | .code x :: k, .normal, a, w => x.wp E.c.P (postK E k) a w
  | .code _ :: k, e, a, w => postK E k e a w
  | .ops all l :: k, .normal, a, w => wpList E.c.P all.toArray (postK E k) l a w
  | .ops _ _ :: k, e, a, w => postK E k e a w
  | .inBlock id :: k, e, a, w => Exit.inBlock id (postK E k) e a w
  | .fin J :: k, .normal, a, w => ∃ σ h nx, J σ h nx ∧ Match E.c E.fn.ntmps σ h a w
  | .fin _ :: k, e, a, w => postK E k e a w

/-- From such a state on the rest goes well. -/
def W (E : Env) (k : List It) (σ : Sl) (h : Hp) (nx : Nat) : Prop := ∀ a w, Match E.c E.fn.ntmps σ h a w → postK E k .normal a w

theorem then_eq (E : Env) (x : Code) (k : List It) : Exit.then (fun a w => x.wp E.c.P (postK E k) a w) (postK E k) = postK E (.code x :: k) := by
  funext e a w
  cases e <;> rfl
theorem inBlock_eq (E : Env) (id : Nat) (k : List It) : Exit.inBlock id (postK E k) = postK E (.inBlock id :: k) := by
  funext e a w
  rfl

/-! ### The results -/
def readRes (T : Tab) (σ : Sl) (h : Hp) : List ResultVar → (List V → Prop) → Prop
  | [], K => K []
  | .tmp t :: r, K => (match lk t σ with | some v => force v fun v => readRes T σ h r fun vs => K (v :: vs) | none => False)
  | .cell t ty :: r, K => (match lk t σ, look ty T with
    | some (.ptr tag i c), some ti => doLoad h tag i c ti.n ti.agg fun v => readRes T σ h r fun vs => K (v :: vs)
    | _, _ => False)
def wrapRes : List V → V
  | [v] => v
  | vs => .tup vs

def resSem (tmps : Array Value) (r : ResultVar) : Sem Value :=
  match r with
  | .tmp t => pure (tmps.getD t undef)
  | .cell a t => do loadVar t (← asAddr (tmps.getD a undef))
theorem results_eq (fn : Func) (tmps : Array Value) : results fn tmps = (do let vs ← fn.results.mapM (resSem tmps); pure (if h : vs.size = 1 then vs[0] else .tuple vs)) := rfl

theorem readRes_ok {P : Program} {T : Tab} (hT : TabOK P T) {c : Cx} {N : Nat} {σ : Sl} {h : Hp} {a : Act} {w : World} (hm : Match c N σ h a w) : ∀ {rs : List ResultVar} {K : List V → Prop}, readRes T σ h rs K →
    ∃ vs xs, K vs ∧ vrelL h vs xs ∧ (rs.mapM (resSem a.tmps)).run P w = .ok xs w
  | [], K, hs => ⟨[], [], hs, rfl, by simp⟩
  | .tmp t :: r, K, hs => by
    unfold readRes at hs
    cases e : lk t σ with
    | none => rw [e] at hs; exact hs.elim
    | some v =>
      rw [e] at hs
      simp only [force_eq] at hs
      obtain ⟨vs, xs, k, rr, hrun⟩ := readRes_ok hT hm hs
      exact ⟨_, _, k, vrelL_cons (hm.slots t v e) rr, by simp only [List.mapM_cons, Sem.run_bind, resSem, Sem.run_pure, Result.andThen_ok, hrun]⟩
  | .cell t ty :: r, K, hs => by
    unfold readRes at hs
    split at hs
    · rename_i tag i cc ti e ht
      obtain ⟨v, y, k, rv, hrun⟩ := doLoad_ok hT hm.rel ht hs (hm.slots t _ e)
      obtain ⟨vs, xs, k, rr, hrun'⟩ := readRes_ok hT hm k
      refine ⟨_, _, k, vrelL_cons rv rr, ?_⟩
      obtain ⟨ad, sz, _, ea⟩ := hm.slots t _ e
      rw [ea] at hrun
      have h2 : (loadVar ty (ad.add (i * sz + cc))).run P w = .ok y w := by
        simpa [Instr.loadAt, Instr.sureAddr] using hrun
      have h3 : (asAddr (a.tmps.getD t undef)).run P w = .ok (ad.add (i * sz + cc)) w := by rw [ea]; rfl
      simp only [List.mapM_cons, Sem.run_bind, resSem, h3, Result.andThen_ok, h2, hrun', Sem.run_pure]
    · exact hs.elim

theorem results_ok {P : Program} {T : Tab} (hT : TabOK P T) {c : Cx} {N : Nat} {σ : Sl} {h : Hp} {a : Act} {w : World} (hm : Match c N σ h a w) {fn : Func} {K : V → Prop} (hs : readRes T σ h fn.results.toList fun vs => K (wrapRes vs)) :
    ∃ v x, K v ∧ vrel h v x ∧ (results fn a.tmps).run P w = .ok x w := by
  obtain ⟨vs, xs, k, r, hrun⟩ := readRes_ok hT hm hs
  have hrun' : (fn.results.mapM (resSem a.tmps)).run P w = .ok xs.toArray w := by
    have h0 : fn.results = fn.results.toList.toArray := by simp
    rw [h0, List.mapM_toArray, Sem.run_map, hrun]
    rfl
  have hrun2 : (results fn a.tmps).run P w = .ok (if h : xs.toArray.size = 1 then xs.toArray[0] else .tuple xs.toArray) w := by
    rw [results_eq]
    simp only [Sem.run_bind, hrun', Result.andThen_ok, Sem.run_pure]
  refine ⟨_, _, k, ?_, hrun2⟩
  cases vs with
  | nil => obtain rfl := r; exact ⟨[], rfl, rfl⟩
  | cons v vs =>
    obtain ⟨y, ys, rfl, rv, rr⟩ := r
    cases vs with
    | nil => obtain rfl := rr; exact rv
    | cons u us =>
      obtain ⟨z, zs, rfl, ru, rq⟩ := rr
      exact ⟨_, by simp, vrelL_cons rv (vrelL_cons ru rq)⟩

/-! ### A text's condition -/
def putS (N : Nat) (d : Option Nat) (v : V) (σ : Sl) (K : Sl → Prop) : Prop :=
  match d with
  | some d => chk (Nat.blt d N) (K ((d, v) :: σ))
  | none => K σ

theorem putS_ok {c : Cx} {N : Nat} {σ : Sl} {h h' : Hp} {a : Act} {w w' : World} (hm : Match c N σ h a w) (hx : Ext h h') (hr : Rel c h' w') {d : Option Nat} {v : V} {x : Value} (r : vrel h' v x) {K : Sl → Prop} (hs : putS N d v σ K) :
    ∃ σ', K σ' ∧ Match c N σ' h' (a.put d x) w' := by
  cases d with
  | none => exact ⟨σ, hs, hm.size, fun t v e => vrel_mono hx _ _ (hm.slots t v e), hm.calm, hr⟩
  | some d =>
    obtain ⟨h1, hs⟩ := chk_spec hs
    have h1 : d < N := Nat.le_of_ble_eq_true h1
    refine ⟨_, hs, by simp [Act.put, hm.size], fun t u e => ?_, hm.calm, hr⟩
    rw [lk_cons] at e
    simp only [Act.put]
    by_cases ht : t = d
    · subst ht
      rw [if_pos rfl] at e
      injection e with e
      subst e
      simp [Array.getD, hm.size, h1]
      exact r
    · rw [if_neg ht] at e
      have := vrel_mono hx _ _ (hm.slots t u e)
      have e2 : (a.tmps.setIfInBounds d x).getD t undef = a.tmps.getD t undef := by
        simp only [Array.getD_eq_getD_getElem?, Array.getElem?_setIfInBounds]
        rw [if_neg (fun e => ht e.symm)]
      rw [e2]
      exact this

/-- What a method of a pointer's type comes to: the function, and whether it takes the pointer (else what it leads to). -/
def Meth (P : Program) (t : TypeId) (name : String) (f : FuncId) (p : Bool) (el : TypeId) : Prop :=
  ∃ i m, P.info? t = some i ∧ i.methods.find? (·.name == name) = some m ∧ m.path = #[] ∧ m.func = some (f, p) ∧ P.underlying t = some (.pointer el)
def pickB (p : Bool) (a b : Value) : Value := match p with | true => a | false => b
theorem run_nilchk {P : Program} {w : World} (ts : Array TypeId) (t : TypeId) (ad : Addr) (a b : String) : (Builtin.ssaWrapNilChk_ ts t #[.pointer (some ad), strVal a, strVal b]).run P w = .ok (.pointer (some ad)) w := rfl
theorem run_method {P : Program} {w : World} {t : TypeId} {name : String} {f : FuncId} {p : Bool} {el : TypeId} (hm : Meth P t name f p el) (ad : Addr) {y : Value} (hy : (loadVar el ad).run P w = .ok y w ∨ p = true) :
    (method (P.types.size + Made.depth) t (.pointer (some ad)) name).run P w = .ok (f, pickB p (.pointer (some ad)) y) w := by
  obtain ⟨i, m, h1, h2, h3, h4, h5⟩ := hm
  have hd : P.types.size + Made.depth = (P.types.size + Made.depth - 1) + 1 := by have : 0 < Made.depth := by decide
                                                                                  omega
  have h3' : m.path.toList = [] := by rw [h3]
  rw [hd]
  unfold method
  cases p with
  | true => simp [pickB, typeInfo, h1, h2, h3', h3, h4, follow, receiverAt, run_underlying h5, Place.get]
  | false =>
    have hy := hy.resolve_right (by simp)
    simp [pickB, typeInfo, h1, h2, h3', h3, h4, follow, receiverAt, run_underlying h5, Place.get, run_nilchk, asAddr, hy]

theorem callRes_wp {c : Cx} {o : Oper} {a : Act} {w : World} {h : Hp} {f : Nat} {xs : Array Value} {R : Out → Hp → Nat → Prop} (hres : (execOp a.eval o).run c.P w = (callFunc f xs).run c.P w)
    (hc : CallRes c.P f xs w fun e w' => ∃ o h' nx', R o h' nx' ∧ Rel c h' w' ∧ Ext h h' ∧ OutRel h' o e)
    {next : Act → World → Prop} {Q : Exit → Act → World → Prop}
    (hK : ∀ v h' nx' w' x, R (.ret v) h' nx' → Ext h h' → Rel c h' w' → vrel h' v x → next (a.put o.dst x) w')
    (hP : ∀ v h' nx' w' x, R (.pan v) h' nx' → Ext h h' → Rel c h' w' → vrel h' v x → Q (.panic [{ v := x, recovered := false }]) a w') : o.wp c.P a w next Q := by
  unfold Oper.wp
  rw [hres]
  rcases hc with ⟨e1, hcalls⟩ | ⟨x, w', e1, o, h', nx', ko, hr, hx, hor⟩
  · rw [e1]
    refine hcalls.mono ?_
    rintro e w' ⟨o, h', nx', ko, hr, hx, hor⟩
    cases o with
    | ret v =>
      obtain ⟨x, rfl, rx⟩ := hor
      exact hK v h' nx' w' x ko hx hr rx
    | pan v =>
      obtain ⟨x, rfl, rx⟩ := hor
      exact hP v h' nx' w' x ko hx hr rx
  · rw [e1]
    cases o with
    | ret v =>
      obtain ⟨x', ex, rx⟩ := hor
      injection ex with ex
      subst ex
      exact hK v h' nx' w' _ ko hx hr rx
    | pan v =>
      obtain ⟨x', ex, rx⟩ := hor
      cases ex

/-- An operation, a call among them. -/
def stepC (E : Env) (o : Op) (σ : Sl) (h : Hp) (nx : Nat) (K : V → Hp → Nat → Prop) (KP : V → Hp → Nat → Prop) : Prop :=
  match o with
  | .call ⟨.value f, args, _⟩ => opnd σ h f fun fv => (match fv with
    | .fn (.func f) first caps => opnds σ h args.toList fun vs => (match lookS f E.SP with
      | some s => s (first ++ vs ++ caps) h nx fun o h' nx' => (match o with
        | .ret v => K v h' nx'
        | .pan v => KP v h' nx')
      | none => False)
    | _ => False)
  | .call ⟨.invoke r m, args, _⟩ => opnd σ h r fun rv => (match rv with
    | .iface t (.ptr tag i c) => opnds σ h args.toList fun vs => ∃ f p el, Meth E.c.P t m f p el ∧ (match lookS f E.SP with
      | some s => (match p with
        | true => s (.ptr tag i c :: vs) h nx fun o h' nx' => (match o with
          | .ret v => K v h' nx'
          | .pan v => KP v h' nx')
        | false => (match look el E.T with
          | some te => doLoad h tag i c te.n te.agg fun v => s (v :: vs) h nx fun o h' nx' => (match o with
            | .ret v => K v h' nx'
            | .pan v => KP v h' nx')
          | none => False))
      | none => False)
    | _ => False)
  | .panic x => opnd σ h x fun v => (match v with | .iface t u => KP (.iface t u) h nx | _ => False)
  | o => step E.T o σ h nx K

theorem stepC_ok {E : Env} (hE : EnvOK E) {N : Nat} {σ : Sl} {h : Hp} {a : Act} {w : World} (hm : Match E.c N σ h a w) {o : Oper} {nx : Nat} {K KP : V → Hp → Nat → Prop} (hs : stepC E o.op σ h nx K KP)
    {next : Act → World → Prop} {Q : Exit → Act → World → Prop}
    (hK : ∀ v h' nx' w' x, K v h' nx' → Ext h h' → Rel E.c h' w' → vrel h' v x → next (a.put o.dst x) w')
    (hP : ∀ v h' nx' w' x, KP v h' nx' → Ext h h' → Rel E.c h' w' → vrel h' v x → Q (.panic [{ v := x, recovered := false }]) a w') : o.wp E.c.P a w next Q := by
  have plain : step E.T o.op σ h nx K → o.wp E.c.P a w next Q := fun hs => by
    obtain ⟨v, h', nx', w', hrun, hr, hx, k⟩ := step_ok hE.tab hm hs
    unfold Oper.wp
    rcases hrun with ⟨x, e, r⟩ | ⟨e, rfl⟩
    · rw [e]; exact hK v h' nx' w' x k hx hr r
    · rw [e]; exact hK _ h' nx' w' undef k hx hr (vrel_und h')
  obtain ⟨dst, op, ty, pos, aft, gd⟩ := o
  simp only at hs
  cases op <;> simp only [stepC] at hs
  case call cl =>
    obtain ⟨callee, args, ts⟩ := cl
    cases callee with
    | value f =>
      simp only at hs
      obtain ⟨fv, k, rf⟩ := opnd_ok hm hs
      split at k
      · rename_i fid first caps
        obtain ⟨vs, k, rv⟩ := opnds_ok hm k
        split at k
        · rename_i s hl
          obtain ⟨as, bs, ef, r1, r2⟩ := rf
          have rall : vrelL h (first ++ vs ++ caps) (as ++ args.toList.map a.eval ++ bs) := by
            have app : ∀ {l m : List V} {xs ys : List Value}, vrelL h l xs → vrelL h m ys → vrelL h (l ++ m) (xs ++ ys) := fun {l m xs ys} p q => by
              induction l generalizing xs with
              | nil => obtain rfl := p; exact q
              | cons v l ih => obtain ⟨y, ys', rfl, rv, rr⟩ := p; exact ⟨_, _, rfl, rv, ih rr⟩
            exact app (app r1 rv) r2
          have hc := hE.sps _ (lookS_mem hl) E.c rfl _ _ _ _ k w _ hm.rel rall
          have hres : (execOp a.eval ⟨dst, .call ⟨.value f, args, ts⟩, ty, pos, aft, gd⟩).run E.c.P w = (callFunc fid (as ++ args.toList.map a.eval ++ bs).toArray).run E.c.P w := by
            have e0 : (as ++ args.toList.map a.eval ++ bs).toArray = as.toArray ++ args.map a.eval ++ bs.toArray := by
              apply Array.ext'
              simp
            rw [e0]
            simp only [execOp, resolve, ef, Deferred.ofValue, Sem.run_bind, Sem.run_pure, Result.andThen_ok, invoke]
          unfold Oper.wp
          rw [hres]
          rcases hc with ⟨e1, hcalls⟩ | ⟨x, w', e1, o, h', nx', ko, hr, hx, hor⟩
          · rw [e1]
            refine hcalls.mono ?_
            rintro e w' ⟨o, h', nx', ko, hr, hx, hor⟩
            cases o with
            | ret v =>
              obtain ⟨x, rfl, rx⟩ := hor
              exact hK v h' nx' w' x ko hx hr rx
            | pan v =>
              obtain ⟨x, rfl, rx⟩ := hor
              exact hP v h' nx' w' x ko hx hr rx
          · rw [e1]
            cases o with
            | ret v =>
              obtain ⟨x', ex, rx⟩ := hor
              injection ex with ex
              subst ex
              exact hK v h' nx' w' _ ko hx hr rx
            | pan v =>
              obtain ⟨x', ex, rx⟩ := hor
              cases ex
        · exact k.elim
      · exact k.elim
    | invoke r m =>
      simp only at hs
      obtain ⟨rv, k, rr⟩ := opnd_ok hm hs
      clear hs
      split at k
      · rename_i t tag i cc
        obtain ⟨vs, k, rv⟩ := opnds_ok hm k
        obtain ⟨f, p, el, hmeth, k⟩ := k
        obtain ⟨y, er, ry⟩ := rr
        have ry0 := ry
        obtain ⟨ad, sz, e1, rfl⟩ := ry
        split at k
        rotate_left
        · exact k.elim
        rename_i s hl
        have hres : ∀ y : Value, ((loadVar el (ad.add (i * sz + cc))).run E.c.P w = .ok y w ∨ p = true) → (execOp a.eval ⟨dst, .call ⟨.invoke r m, args, ts⟩, ty, pos, aft, gd⟩).run E.c.P w = (callFunc f (pickB p (Value.pointer (some (ad.add (i * sz + cc)))) y :: args.toList.map a.eval).toArray).run E.c.P w := fun y hy => by
          have e0 : ∀ z : Value, (z :: args.toList.map a.eval).toArray = #[z] ++ args.map a.eval := fun z => by apply Array.ext'; simp
          rw [e0]
          simp only [execOp, resolve, er, Sem.run_bind, Sem.run_pure, Result.andThen_ok, invoke]
          have e1 : (#[Value.iface t (Value.pointer (some (ad.add (i * sz + cc))))] ++ Array.map a.eval args)[0]? = some (Value.iface t (Value.pointer (some (ad.add (i * sz + cc))))) := by rw [← e0]; rfl
          have e2 : (#[Value.iface t (Value.pointer (some (ad.add (i * sz + cc))))] ++ Array.map a.eval args).extract 1 (#[Value.iface t (Value.pointer (some (ad.add (i * sz + cc))))] ++ Array.map a.eval args).size = Array.map a.eval args := by
            apply Array.ext
            · simp
            · intro i h1 h2
              simp
          rw [e1]
          simp only [e2, callMethod, Sem.run_bind, run_program, Result.andThen_ok, run_method hmeth (ad.add (i * sz + cc)) hy]
        cases p with
        | true =>
          simp only at k
          exact callRes_wp (hres (.tuple #[]) (.inr rfl)) (hE.sps _ (lookS_mem hl) E.c rfl _ _ _ _ k w _ hm.rel (vrelL_cons ry0 rv)) hK hP
        | false =>
          simp only at k
          split at k
          · rename_i te hte
            obtain ⟨v, z, k, rz, hrun⟩ := doLoad_ok hE.tab hm.rel hte k ry0
            have h2 : (loadVar el (ad.add (i * sz + cc))).run E.c.P w = .ok z w := by simpa [Instr.loadAt, Instr.sureAddr] using hrun
            exact callRes_wp (hres z (.inl h2)) (hE.sps _ (lookS_mem hl) E.c rfl _ _ _ _ k w _ hm.rel (vrelL_cons rz rv)) hK hP
          · exact k.elim
      · exact k.elim
    | builtin b => exact plain hs
  case panic x =>
    obtain ⟨v, k, r⟩ := opnd_ok hm hs
    split at k
    · rename_i t u
      have r0 := r
      obtain ⟨y, e, ry⟩ := r
      have hx : (execOp a.eval ⟨dst, .panic x, ty, pos, aft, gd⟩).run E.c.P w = .halt (.panic (a.eval x)) w := by
        rw [e]; simp [execOp, e, Instr.panic, goPanic, Sem.run]
      unfold Oper.wp
      rw [hx]
      exact hP _ h nx w _ k (Ext.refl h) hm.rel r0
    · exact k.elim
  all_goals exact plain hs


/-- Where an exit leads. -/
def exitK (id : Nat) : List It → (List It → Prop) → Prop
  | [], K => False
  | .inBlock n :: k, K => (match n.beq id with | true => K k | false => exitK id k K)
  | _ :: k, K => exitK id k K

theorem exitK_ok {E : Env} {id : Nat} {a : Act} {w : World} : ∀ {k : List It} {K : List It → Prop}, exitK id k K → (∀ k', K k' → postK E k' .normal a w) → postK E k (.exit id) a w
  | [], K, hs, _ => hs.elim
  | .inBlock n :: k, K, hs, hk => by
    unfold exitK at hs
    simp only [postK, Exit.inBlock]
    by_cases h : n = id
    · subst h
      simp at hs
      rw [if_pos rfl]
      exact hk _ hs
    · rw [beq_ne h] at hs
      rw [if_neg (fun e => h e.symm)]
      exact exitK_ok hs hk
  | .code c :: k, K, hs, hk => exitK_ok (k := k) hs hk
  | .ops a l :: k, K, hs, hk => exitK_ok (k := k) hs hk
  | .fin J :: k, K, hs, hk => exitK_ok (k := k) hs hk

/-- A panic goes past all that is to be done. -/
theorem postK_panic {E : Env} {ch : List PanicEntry} {a : Act} {w : World} : ∀ {k : List It}, bodyPost E.c.P E.fn E.post (.panic ch) a w → postK E k (.panic ch) a w
  | [], h => h
  | .inBlock n :: k, h => postK_panic (k := k) h
  | .code c :: k, h => postK_panic (k := k) h
  | .ops a l :: k, h => postK_panic (k := k) h
  | .fin J :: k, h => postK_panic (k := k) h
theorem postK_ret {E : Env} {a : Act} {w : World} : ∀ {k : List It}, bodyPost E.c.P E.fn E.post .ret a w → postK E k .ret a w
  | [], h => h
  | .inBlock n :: k, h => postK_ret (k := k) h
  | .code c :: k, h => postK_ret (k := k) h
  | .ops a l :: k, h => postK_ret (k := k) h
  | .fin J :: k, h => postK_ret (k := k) h

theorem postK_goto {E : Env} {l : Nat} {a : Act} {w : World} : ∀ {k : List It}, ¬ postK E k (.goto l) a w
  | [], h => h
  | .inBlock n :: k, h => postK_goto (k := k) h
  | .code c :: k, h => postK_goto (k := k) h
  | .ops a l :: k, h => postK_goto (k := k) h
  | .fin J :: k, h => postK_goto (k := k) h
/-- The condition of what is to be done: n steps of it are laid open; at a loop, and where the order is open, it stops. -/
def vc (E : Env) : Nat → List It → Sl → Hp → Nat → Prop
  | 0, k, σ, h, nx => W E k σ h nx
  | n + 1, k, σ, h, nx => match k with
    | [] => readRes E.T σ h E.fn.results.toList fun vs => E.R (.ret (wrapRes vs)) h nx
    | .fin J :: _ => J σ h nx
    | .inBlock _ :: k => vc E n k σ h nx
    | .code c :: k => (match c with
      | .skip => vc E n k σ h nx
      | .seq a b => vc E n (.code a :: .code b :: k) σ h nx
      | .block id c => vc E n (.code c :: .inBlock id :: k) σ h nx
      | .cond x a b => opnd σ h x fun v => (match v with
        | .bool p => br p (vc E n (.code a :: k) σ h nx) (vc E n (.code b :: k) σ h nx)
        | _ => False)
      | .exit id => exitK id k fun k' => vc E n k' σ h nx
      | .ret => readRes E.T σ h E.fn.results.toList fun vs => E.R (.ret (wrapRes vs)) h nx
      | .label _ => vc E n k σ h nx
      | .scope c => vc E n (.code c :: k) σ h nx
      | .region _ ops draw => (match draw with
        | false => vc E n (.ops ops.toList ops.toList :: k) σ h nx
        | true => W E (.code c :: k) σ h nx)
      | c => W E (.code c :: k) σ h nx)
    | .ops all l :: k => (match l with
      | [] => vc E n k σ h nx
      | ⟨d, op, _, _, _, g⟩ :: l => (match g with
        | none => stepC E op σ h nx (fun v h' nx' => putS E.fn.ntmps d v σ fun σ' => vc E n (.ops all l :: k) σ' h' nx') (fun v h' nx' => E.R (.pan v) h' nx')
        | some (j, want) => (match all[j]? with
          | some oj => (match oj.dst with
            | some t => (match lk t σ with
              | some (.bool p) => (match want with
                | true => br p
                  (stepC E op ((t, .bool true) :: σ) h nx (fun v h' nx' => putS E.fn.ntmps d v ((t, .bool true) :: σ) fun σ' => vc E n (.ops all l :: k) σ' h' nx') (fun v h' nx' => E.R (.pan v) h' nx'))
                  (putS E.fn.ntmps d und ((t, .bool false) :: σ) fun σ' => vc E n (.ops all l :: k) σ' h nx)
                | false => br p
                  (putS E.fn.ntmps d und ((t, .bool true) :: σ) fun σ' => vc E n (.ops all l :: k) σ' h nx)
                  (stepC E op ((t, .bool false) :: σ) h nx (fun v h' nx' => putS E.fn.ntmps d v ((t, .bool false) :: σ) fun σ' => vc E n (.ops all l :: k) σ' h' nx') (fun v h' nx' => E.R (.pan v) h' nx')))
              | some (.tup []) => putS E.fn.ntmps d und σ fun σ' => vc E n (.ops all l :: k) σ' h nx
              | _ => False)
            | none => False)
          | none => False)))

theorem Match.lit {c : Cx} {N : Nat} {σ : Sl} {h : Hp} {a : Act} {w : World} (hm : Match c N σ h a w) {t : Nat} {v : V} (e : lk t σ = some v) : Match c N ((t, v) :: σ) h a w :=
  ⟨hm.size, fun u v' e' => by
    rw [lk_cons] at e'
    split at e'
    · rename_i hu; subst hu; injection e' with e'; subst e'; exact hm.slots _ _ e
    · exact hm.slots _ _ e', hm.calm, hm.rel⟩

theorem yielded_of {c : Cx} {N : Nat} {σ : Sl} {h : Hp} {a : Act} {w : World} (hm : Match c N σ h a w) {all : List Oper} {j : Nat} {oj : Oper} {t : Nat} (hj : all[j]? = some oj) (ht : oj.dst = some t) {v : V} (e : lk t σ = some v) :
    (∀ p, v = .bool p → t < N → yielded all.toArray a.tmps j = some p) ∧ (v = .tup [] → yielded all.toArray a.tmps j = none) := by
  have hs := hm.slots t v e
  refine ⟨fun p hp hN => ?_, fun hp => ?_⟩
  · subst hp
    have hs : a.tmps.getD t undef = .bool p := hs
    have hlt : t < a.tmps.size := by rw [hm.size]; exact hN
    simp only [yielded, List.getElem?_toArray, hj, Option.bind_some, ht]
    simp only [Array.getD, hlt, dif_pos] at hs
    rw [Array.getElem?_eq_getElem hlt]
    have : a.tmps[t] = Value.bool p := by simpa using hs
    rw [this]
  · subst hp
    obtain ⟨xs, ex, rfl⟩ := hs
    simp only [yielded, List.getElem?_toArray, hj, Option.bind_some, ht]
    by_cases hlt : t < a.tmps.size
    · simp only [Array.getD, hlt, dif_pos] at ex
      rw [Array.getElem?_eq_getElem hlt]
      have : a.tmps[t] = Value.tuple (List.toArray []) := by simpa using ex
      rw [this]
    · rw [Array.getElem?_eq_none (by omega)]

end Go.Proofs.Ytgcnknhfphgfnaa.Sx
