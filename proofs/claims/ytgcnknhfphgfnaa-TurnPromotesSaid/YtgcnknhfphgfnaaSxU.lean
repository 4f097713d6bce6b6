import Derived.Test.YtgcnknhfphgfnaaSxS
set_option linter.unusedVariables false
set_option linter.unusedSimpArgs false
/-
  The engine, twentieth part: the condition of a region whose order is open and that makes or writes memory: by a plan of the orders.
-/
namespace Go.Proofs.Ytgcnknhfphgfnaa.Sx
open Go

mutual
inductive Plan where
  | done
  | take (i : Nat) (p : Plan)
  | all (l : PlanL)
inductive PlanL where
  | nil
  | cons (i : Nat) (p : Plan) (l : PlanL)
end
def PlanL.idx : PlanL → List Nat
  | .nil => []
  | .cons i _ l => i :: l.idx

/-- A field's address: it hangs on no memory. -/
def fieldOp : Op → Bool
  | .fieldAddr _ (.tmp _) _ => true
  | .binOp _ _ (.tmp _) (.tmp _) _ => true
  | .binOp _ _ (.tmp _) (.const _) _ => true
  | _ => false
mutual
def planB (ops : Array Oper) (k : Nat) : Nat → Array Bool → Plan → Bool
  | _, listed, .done => (Region.ready .any ops listed).isEmpty
  | fuel, listed, .take i p => (match fuel with
    | 0 => false
    | fuel + 1 => (waitB .any ops k i || ((ops[i]?).map fun o => pureOp o.op || fieldOp o.op).getD false) && Nat.blt i ops.size && (Region.ready .any ops listed).contains i && Region.free .any ops listed i && planB ops k fuel (listed.setIfInBounds i true) p)
  | fuel, listed, .all l => (match fuel with
    | 0 => false
    | fuel + 1 => (Region.ready .any ops listed == l.idx) && !l.idx.isEmpty && planLB ops k fuel listed l)
def planLB (ops : Array Oper) (k : Nat) : Nat → Array Bool → PlanL → Bool
  | _, _, .nil => true
  | fuel, listed, .cons i p l => planB ops k fuel (listed.setIfInBounds i true) p && planLB ops k fuel listed l
end

/-- An operation's guard. -/
def grd (all : List Oper) (o : Oper) (σ : Sl) (A B : Sl → Prop) : Prop :=
  match o.guard with
  | none => A σ
  | some (j, want) => (match all[j]? with
    | some oj => (match oj.dst with
      | some t => (match lk t σ with
        | some (.bool p) => (match want with
          | true => br p (A ((t, .bool true) :: σ)) (B ((t, .bool false) :: σ))
          | false => br p (B ((t, .bool true) :: σ)) (A ((t, .bool false) :: σ)))
        | some (.tup []) => B σ
        | _ => False)
      | none => False)
    | none => False)

theorem grd_ok {N : Nat} {σ : Sl} {h : Hp} {a : Act} (hm : MatA N σ h a) {all : List Oper} {o : Oper} {A B : Sl → Prop} (hs : grd all o σ A B) :
    (∃ σ', MatA N σ' h a ∧ Region.wanted o (yielded all.toArray a.tmps) = true ∧ A σ') ∨ (∃ σ', MatA N σ' h a ∧ Region.wanted o (yielded all.toArray a.tmps) = false ∧ B σ') := by
  obtain ⟨d, op, ty, pos, aft, g⟩ := o
  unfold grd at hs
  cases g with
  | none => exact .inl ⟨σ, hm, by simp [Region.wanted], hs⟩
  | some gd =>
    obtain ⟨j, want⟩ := gd
    simp only at hs
    split at hs
    · rename_i oj hj
      split at hs
      · rename_i t ht
        split at hs
        · rename_i p e
          have hy := (yieldedA_of hm hj ht e).1 p rfl
          cases want with
          | true =>
            simp only at hs
            rcases br_spec hs with ⟨rfl, hs⟩ | ⟨rfl, hs⟩
            · exact .inl ⟨_, hm.lit e, by simp [Region.wanted, hy], hs⟩
            · exact .inr ⟨_, hm.lit e, by simp [Region.wanted, hy], hs⟩
          | false =>
            simp only at hs
            rcases br_spec hs with ⟨rfl, hs⟩ | ⟨rfl, hs⟩
            · exact .inr ⟨_, hm.lit e, by simp [Region.wanted, hy], hs⟩
            · exact .inl ⟨_, hm.lit e, by simp [Region.wanted, hy], hs⟩
        · rename_i e
          have hy := (yieldedA_of hm hj ht e).2 rfl
          exact .inr ⟨_, hm, by simp [Region.wanted, hy], hs⟩
        · exact hs.elim
      · exact hs.elim
    · exact hs.elim

theorem Rel.ronil {c : Cx} {h : Hp} {w : World} (hr : Rel c h w) {nx sz : Nat} {g : Nat → Nat → V} (hn : fd nx h = .gone) : Rel c ((nx, .ro none 0 sz g) :: h) w ∧ Ext h ((nx, .ro none 0 sz g) :: h) := by
  have hx : Ext h ((nx, .ro none 0 sz g) :: h) := Ext.new (by rw [hn]; rfl)
  refine ⟨⟨hr.fr, fun t => ?_, fun t t' htt => ?_, hr.tabs⟩, hx⟩
  · rw [fd_cons]
    split
    · intro i k hi; omega
    · exact Ent.holds_heap hx (fun b _ => rfl) (hr.holds t)
  · rw [fd_cons, fd_cons]
    split
    · trivial
    · split
      · cases fd t h <;> trivial
      · exact hr.apart t t' htt

theorem Rel.add {c : Cx} {h : Hp} {w : World} (hr : Rel c h w) {nx b n sz : Nat} {g : Nat → Nat → V} {ty : TypeId} (hn : fd nx h = .gone) (he : Ent.holds c ((nx, .blk b n sz g ty) :: h) w (.blk b n sz g ty)) (hne : ∀ t b' n' sz' g' ty', fd t h = .blk b' n' sz' g' ty' → b' ≠ b) :
    Rel c ((nx, .blk b n sz g ty) :: h) w := by
  have hx : Ext h ((nx, .blk b n sz g ty) :: h) := Ext.new (by rw [hn]; rfl)
  refine ⟨hr.fr, fun t => ?_, fun t t' htt => ?_, hr.tabs⟩
  · rw [fd_cons]
    split
    · exact he
    · exact Ent.holds_heap hx (fun b _ => rfl) (hr.holds t)
  · rw [fd_cons, fd_cons]
    split
    · split
      · omega
      · cases e : fd t' h with
        | blk b' => exact fun q => hne t' _ _ _ _ _ e q.symm
        | mp b' l =>
          refine fun q => ?_
          subst q
          have h0 := hr.holds t'
          rw [e] at h0
          obtain ⟨⟨es, ck, h1, _⟩, _⟩ := h0
          obtain ⟨⟨cs, h2, _⟩, _⟩ := he
          rw [h1] at h2; cases h2
        | rmp => trivial
        | it b' mb l lf cu =>
          refine fun q => ?_
          subst q
          have h0 := hr.holds t'
          rw [e] at h0
          obtain ⟨⟨es, ck, si, c0, se, h1, _⟩, _⟩ := h0
          obtain ⟨⟨cs, h2, _⟩, _⟩ := he
          rw [h1] at h2; cases h2
        | ro => trivial
        | gone => trivial
    · split
      · cases e : fd t h with
        | blk b' => exact fun q => hne t _ _ _ _ _ e q
        | mp b' l =>
          refine fun q => ?_
          subst q
          have h0 := hr.holds t
          rw [e] at h0
          obtain ⟨⟨es, ck, h1, _⟩, _⟩ := h0
          obtain ⟨⟨cs, h2, _⟩, _⟩ := he
          rw [h1] at h2; cases h2
        | rmp => trivial
        | it b' mb l lf cu =>
          refine fun q => ?_
          subst q
          have h0 := hr.holds t
          rw [e] at h0
          obtain ⟨⟨es, ck, si, c0, se, h1, _⟩, _⟩ := h0
          obtain ⟨⟨cs, h2, _⟩, _⟩ := he
          rw [h1] at h2; cases h2
        | ro => trivial
        | gone => trivial
      · exact hr.apart t t' htt


def isCallV (o : Op) : Bool :=
  match o with
  | .call ⟨.value _, _, _⟩ => true
  | _ => false
/-- What a call leaves known that makes one new row and writes nothing. -/
def oneNew (h : Hp) (K : V → Hp → Nat → Prop) (v : V) (h1 : Hp) (nx : Nat) : Prop :=
  match h1 with
  | (t, .blk b n sz g ty) :: r => r = roH h ∧ fd t h = .gone ∧ (∀ i c, i < n → c < sz → flat (g i c)) ∧ K v ((t, .blk b n sz g ty) :: h) nx
  | (t, .ro none 0 sz g) :: r => r = roH h ∧ fd t h = .gone ∧ K v ((t, .ro none 0 sz g) :: h) nx
  | _ => False
/-- An operation that is not quiet: from number k on (head: false) it may write. -/
def opP (E : Env) (o : Op) (head : Bool) (σ : Sl) (h : Hp) (nx : Nat) (K : V → Hp → Nat → Prop) : Prop :=
  match head with
  | false => True ∧ stepC E o σ h nx K (fun v h' nx' => E.R (.pan v) h' nx')
  | true => (match isCallV o with
    | true => stepC E o σ (roH h) nx (oneNew h K) (fun _ _ _ => False)
    | false => step E.T o σ (roH h) nx (fun _ _ _ => True) ∧ stepC E o σ h nx K (fun _ _ _ => False))

mutual
def vcP (E : Env) (all : List Oper) (k : Nat) (K : Sl → Hp → Nat → Prop) : Plan → Sl → Hp → Nat → Prop
  | .done, σ, h, nx => K σ h nx
  | .take i p, σ, h, nx => (match all[i]? with
    | some o => grd all o σ (fun σ => ∃ v, still1 E o.op σ (roH h) nx v ∧ putS E.fn.ntmps o.dst v σ fun σ' => vcP E all k K p σ' h nx) (fun σ => putS E.fn.ntmps o.dst und σ fun σ' => vcP E all k K p σ' h nx)
    | none => False)
  | .all l, σ, h, nx => vcPL E all k K l σ h nx
def vcPL (E : Env) (all : List Oper) (k : Nat) (K : Sl → Hp → Nat → Prop) : PlanL → Sl → Hp → Nat → Prop
  | .nil, _, _, _ => True
  | .cons i p l, σ, h, nx => (match all[i]? with
    | some o => grd all o σ (fun σ => opP E o.op (Nat.blt i k) σ h nx (fun v h' nx' => putS E.fn.ntmps o.dst v σ fun σ' => vcP E all k K p σ' h' nx')) (fun σ => putS E.fn.ntmps o.dst und σ fun σ' => vcP E all k K p σ' h nx)
    | none => False) ∧ vcPL E all k K l σ h nx
end

theorem MatA.ro {N : Nat} {σ : Sl} {h : Hp} {a : Act} (hm : MatA N σ h a) : MatA N σ (roH h) a := ⟨hm.size, fun t v e => vrel_mono (roH_ext h) _ _ (hm.slots t v e), hm.calm⟩

/-- A quiet operation yields its value wherever h is known. -/
theorem quiet_yields {E : Env} (hE : EnvOK E) {σ : Sl} {h : Hp} {nx : Nat} {a : Act} (hm : MatA E.fn.ntmps σ h a) {o : Oper} {v : V} (hs : still1 E o.op σ (roH h) nx v) (hd : ∀ t, o.dst = some t → t < a.tmps.size) {w0 : World} (hw : Rel E.c h w0) :
    ∃ x, vrel h v x ∧ ∀ w, Rel E.c h w → giv E.c.P o x (fun w' => Fr (quiet E.c.P w) w') ((execOp a.eval o).run E.c.P w) := by
  have base : ∀ w, Rel E.c h w → o.wp E.c.P a w (fun a' w' => ∃ x, vrel h v x ∧ a' = a.put o.dst x ∧ Fr (quiet E.c.P w) w') (fun _ _ _ => False) := fun w hw => by
    have hE' : EnvOK { E with c := quiet E.c.P w } := ⟨hE.tab, hE.sps⟩
    refine stepC_ok (E := { E with c := quiet E.c.P w }) hE' (hm.ro.at hw.ro) hs ?_ ?_
    · rintro v' h' nx' w' x ⟨rfl, rfl⟩ _ hr r
      exact ⟨x, vrel_mono (roH_ext' h) _ _ r, rfl, hr.fr⟩
    · intro v h' nx' w' x q
      exact q.elim
  obtain ⟨a', w', x, r, _, _⟩ := wp_some (base w0 hw)
  refine ⟨x, r, fun w hw => giv_of_wp hd (Oper.wp_mono ?_ (base w hw))⟩
  rintro a' w' ⟨y, ry, e, hr⟩
  rw [vrel_fun v y x ry r] at e
  exact ⟨e, hr⟩

theorem pure_yields {P : Program} {ops : Array Oper} {S : World → Prop} {o : Oper} {x : Value} {a : Act} (hp : pureOp o.op = true) (hy : YQ P ops S o x a) {w0 : World} (hw0 : S w0) : YQ P ops (fun _ => True) o x a := by
  rcases hy with ⟨h1, h2⟩ | h1
  · refine .inl ⟨h1, fun w _ => ?_⟩
    have h3 := h2 w0 hw0
    obtain ⟨dst, op, ty, pos, aft, gd⟩ := o
    cases op <;> simp only [pureOp] at hp <;> try (cases hp; done)
    case move y =>
      simp only [execOp, Sem.run_pure, giv] at h3 ⊢
      exact ⟨h3.1, Fr.refl' w⟩
    case assign y =>
      simp only [execOp, Sem.run_pure, giv] at h3 ⊢
      exact ⟨h3.1, Fr.refl' w⟩
    case extract y ix =>
      have key : ∀ w, (execOp a.eval ⟨dst, .extract y ix, ty, pos, aft, gd⟩).run P w = ((Instr.extract (a.eval y) ix).run P w).andThen fun v w' => .ok (.value v) w' := fun w => by simp [execOp]
      rw [key] at h3 ⊢
      have ex : (∃ v, ∀ w, (Instr.extract (a.eval y) ix).run P w = .ok v w) ∨ (∀ w, ∃ x, (Instr.extract (a.eval y) ix).run P w = .halt x w) := by
        cases a.eval y with
        | tuple vs =>
          cases hv : vs[ix]? with
          | none => exact .inr fun w => ⟨_, by simp only [Instr.extract, hv]; rfl⟩
          | some v => exact .inl ⟨v, fun w => by simp only [Instr.extract, hv]; rfl⟩
        | _ => exact .inr fun w => ⟨_, rfl⟩
      rcases ex with ⟨v, ev⟩ | ev
      · rw [ev] at h3 ⊢
        exact ⟨h3.1, Fr.refl' w⟩
      · obtain ⟨y, e⟩ := ev w0
        rw [e] at h3
        exact h3.elim
  · exact .inr h1

def plainY : Operand → Bool
  | .tmp _ => true
  | .const _ => true
  | _ => false
theorem opndA {N : Nat} {σ : Sl} {h hh : Hp} {a : Act} (hm : MatA N σ h a) {y : Operand} (hy : plainY y = true) {K : V → Prop} (hs : opnd σ hh y K) : ∃ v, K v ∧ vrel h v (a.eval y) := by
  unfold opnd at hs
  cases y with
  | tmp y =>
    simp only at hs
    cases e : lk y σ with
    | none => rw [e] at hs; exact hs.elim
    | some u =>
      rw [e] at hs
      simp only [force_eq] at hs
      exact ⟨u, hs, hm.slots y u e⟩
  | const v => exact ⟨_, hs, vrel_const h v⟩
  | global g => cases hy
  | func f => cases hy
theorem field_yields {E : Env} (hE : EnvOK E) {σ : Sl} {h : Hp} {nx : Nat} {a : Act} (hm : MatA E.fn.ntmps σ h a) {o : Oper} {v : V} (hf : fieldOp o.op = true) (hs : still1 E o.op σ (roH h) nx v) {x : Value} (r : vrel h v x) (w : World) : giv E.c.P o x (fun w' => Fr (quiet E.c.P w) w') ((execOp a.eval o).run E.c.P w) := by
  obtain ⟨dst, op, ty, pos, aft, gd⟩ := o
  cases op <;> simp only [fieldOp] at hf <;> try (cases hf; done)
  case fieldAddr t y f =>
    cases y <;> simp only at hf <;> try (cases hf; done)
    rename_i y
    have hs : opnd σ (roH h) (.tmp y) fun u => fieldA E.T t f u fun r => (fun v' h' _ => v' = v ∧ h' = roH h) r (roH h) nx := hs
    unfold opnd at hs
    simp only at hs
    cases e : lk y σ with
    | none => rw [e] at hs; exact hs.elim
    | some u =>
      rw [e] at hs
      simp only [force_eq] at hs
      obtain ⟨q, z, k, rz, h1⟩ := fieldA_ok (P := E.c.P) hE.tab hs (hm.slots y u e) w
      obtain rfl : q = v := k.1
      have hz := vrel_fun q z x rz r
      subst hz
      simp only [execOp, Act.eval, Sem.run_bind, h1, Result.andThen_ok, Sem.run_pure, giv]
      exact ⟨by simp, Fr.refl' w⟩
  case binOp op t y1 y2 t' =>
    obtain ⟨p1, p2⟩ : plainY y1 = true ∧ plainY y2 = true := by cases y1 <;> cases y2 <;> simp only at hf <;> first | exact ⟨rfl, rfl⟩ | cases hf
    clear hf
    have hs : opnd σ (roH h) y1 fun p => opnd σ (roH h) y2 fun q => (match p, q with
      | .flt .f64 a, .flt .f64 b => fltV op a b fun r => (fun v' h' (_ : Nat) => v' = v ∧ h' = roH h) r (roH h) nx
      | .slice tag _ _ _, .nils => nilS E.T op t tag (roH h) fun b => (fun v' h' (_ : Nat) => v' = v ∧ h' = roH h) (.bool b) (roH h) nx
      | p, q => binV E.T op t p q fun r => (fun v' h' (_ : Nat) => v' = v ∧ h' = roH h) r (roH h) nx) := hs
    obtain ⟨p, k, rp⟩ := opndA hm p1 hs
    obtain ⟨q, k, rq⟩ := opndA hm p2 k
    split at k
    · rename_i a1 b1 _kk
      have rp : a.eval y1 = .float .f64 a1 := rp
      have rq : a.eval y2 = .float .f64 b1 := rq
      obtain ⟨v1, z, w', k, rz, hw, h1⟩ := fltV_ok (P := E.c.P) k t h w
      have hg : (eqGuard op t y1 y2 (.float .f64 a1) (.float .f64 b1)).run E.c.P w = .ok () w := by cases op <;> simp [eqGuard]
      obtain rfl : v1 = v := k.1
      have hz := vrel_fun v1 z x rz r
      subst hz
      have e : (execOp a.eval ⟨dst, .binOp op t y1 y2 t', ty, pos, aft, gd⟩).run E.c.P w = .ok (.value z) w' := by simp [execOp, rp, rq, h1, hg]
      rw [e]
      refine ⟨.inr rfl, ?_⟩
      rcases hw with rfl | rfl
      · exact Fr.refl' _
      · exact (Fr.refl' _).drew
    · obtain ⟨b, k, h1, h2⟩ := nilS_ok (P := E.c.P) hE.tab k (vrel_mono (fun t r e => by rw [fd_roH, Ent.toRo_rf]; exact e) _ _ rp) (show vrel (roH h) .nils _ from rq) y1 y2 w
      obtain rfl : V.bool b = v := k.1
      have hz : Value.bool b = x := vrel_fun (.bool b) (.bool b) x rfl r
      subst hz
      have e : (execOp a.eval ⟨dst, .binOp op t y1 y2 t', ty, pos, aft, gd⟩).run E.c.P w = .ok (.value (.bool b)) w := by simp [execOp, h1, h2]
      rw [e]
      exact ⟨.inr rfl, Fr.refl' w⟩
    · obtain ⟨v1, z, k, rz, h1, h2⟩ := binV_ok (P := E.c.P) hE.tab k rp rq y1 y2 w
      obtain rfl : v1 = v := k.1
      have hz := vrel_fun v1 z x rz r
      subst hz
      have e : (execOp a.eval ⟨dst, .binOp op t y1 y2 t', ty, pos, aft, gd⟩).run E.c.P w = .ok (.value z) w := by simp [execOp, h1, h2]
      rw [e]
      exact ⟨.inr rfl, Fr.refl' w⟩

theorem plan_idx {ops : Array Oper} {k : Nat} : ∀ {l : PlanL} {fuel : Nat} {listed : Array Bool}, planLB ops k fuel listed l = true → ∀ i ∈ l.idx, ∃ p, planB ops k fuel (listed.setIfInBounds i true) p = true ∧
    ∀ (E : Env) (all : List Oper) (K : Sl → Hp → Nat → Prop) σ h nx, vcPL E all k K l σ h nx → (match all[i]? with
    | some o => grd all o σ (fun σ => opP E o.op (Nat.blt i k) σ h nx (fun v h' nx' => putS E.fn.ntmps o.dst v σ fun σ' => vcP E all k K p σ' h' nx')) (fun σ => putS E.fn.ntmps o.dst und σ fun σ' => vcP E all k K p σ' h nx)
    | none => False)
  | .nil, _, _, _, i, hi => by simp [PlanL.idx] at hi
  | .cons j p l, fuel, listed, hb, i, hi => by
    simp only [planLB, Bool.and_eq_true] at hb
    simp only [PlanL.idx, List.mem_cons] at hi
    by_cases hij : i = j
    · subst hij
      exact ⟨p, hb.1, fun E all K σ h nx hv => by simp only [vcPL] at hv; exact hv.1⟩
    · obtain ⟨q, h1, h2⟩ := plan_idx hb.2 i (hi.resolve_left hij)
      exact ⟨q, h1, fun E all K σ h nx hv => h2 E all K σ h nx (by simp only [vcPL] at hv; exact hv.2)⟩

theorem vcP_ok {E : Env} (hE : EnvOK E) {all : List Oper} {k : Nat} {K : Sl → Hp → Nat → Prop} {Q : Exit → Act → World → Prop} (hs : Region.noSelect all.toArray = true)
    (hQ : ∀ σ h nx a, K σ h nx → MatA E.fn.ntmps σ h a → ∀ w, Rel E.c h w → Q .normal a w) (hQa : ∀ c (a : Act) d x w, Q (.panic c) (a.put d x) w → Q (.panic c) a w)
    (hQv : ∀ v h' nx' x (a : Act) w', E.R (.pan v) h' nx' → a.defers = [] → Rel E.c h' w' → vrel h' v x → Q (.panic [{ v := x, recovered := false }]) a w') : ∀ (fuel : Nat) (p : Plan) (listed : Array Bool) (σ : Sl) (h : Hp) (nx : Nat) (a : Act) (S : World → Prop),
    planB all.toArray k fuel listed p = true → Down .any all.toArray listed → vcP E all k K p σ h nx → MatA E.fn.ntmps σ h a → Stable E.c.P S →
    TR E.c.P .any all.toArray k Q fuel (fun w => Rel E.c h w ∧ S w) listed a (fun w => Rel E.c h w ∧ S w) := by
  intro fuel
  induction fuel with
  | zero =>
    intro p listed σ h nx a S hb hd hv hm hS
    cases p with
    | done =>
      have hr : Region.ready .any all.toArray listed = [] := by simpa [planB] using hb
      exact ⟨hr, fun w hw => hQ σ h nx a (by simpa [vcP] using hv) hm w hw.1⟩
    | take i p => simp [planB] at hb
    | all l => simp [planB] at hb
  | succ fuel ih =>
    intro p listed σ h nx a S hb hd hv hm hS
    have hst : Stable E.c.P (fun w => Rel E.c h w ∧ S w) := fun w w' hw hf => ⟨hw.1.after hf, hS w w' hw.2 hf⟩
    cases p with
    | done =>
      have hr : Region.ready .any all.toArray listed = [] := by simpa [planB] using hb
      exact ⟨fun _ w hw => hQ σ h nx a (by simpa [vcP] using hv) hm w hw.1, by rw [hr]; simp⟩
    | take i p =>
      simp only [planB, Bool.and_eq_true] at hb
      obtain ⟨⟨⟨⟨b1, b2⟩, b3⟩, b4⟩, b5⟩ := hb
      have hr : i ∈ Region.ready .any all.toArray listed := by simpa using b3
      by_cases hne : ∃ w, Rel E.c h w ∧ S w
      · obtain ⟨w0, hw0⟩ := hne
        simp only [vcP] at hv
        cases ho : all[i]? with
        | none => rw [ho] at hv; exact hv.elim
        | some o =>
          rw [ho] at hv
          have ho' : all.toArray[i]? = some o := by simpa using ho
          have ht2 : ∀ (x : Value), (∃ S0 : World → Prop, ((∀ w, S0 w) ∨ ∀ (listed : Array Bool), Down .any all.toArray listed → ∀ j ∈ Region.ready .any all.toArray listed, k ≤ j → listed.getD i false = true) ∧ YQ E.c.P all.toArray S0 o x a ∧ (∀ w, (Rel E.c h w ∧ S w) → S0 w)) →
              TR E.c.P .any all.toArray k Q fuel (fun w => Rel E.c h w ∧ S w) (listed.setIfInBounds i true) (a.put o.dst x) (fun w => Rel E.c h w ∧ S w) →
              TR E.c.P .any all.toArray k Q (fuel + 1) (fun w => Rel E.c h w ∧ S w) listed a (fun w => Rel E.c h w ∧ S w) := fun x ⟨S0, q1, q2, q3⟩ ht =>
            TR_first q1 ho' (Region.noSelect_spec hs) (fun c a w q => hQa c a _ _ w q) fuel _ listed a _ hd (Region.free_spec ho' b4) hr q2 q3 (fun _ q => q) hst ht
          have fin : ∀ (x : Value), YQ E.c.P all.toArray (fun w => Rel E.c h w ∧ S w) o x a → (fieldOp o.op = true → YQ E.c.P all.toArray (fun _ => True) o x a) → TR E.c.P .any all.toArray k Q fuel (fun w => Rel E.c h w ∧ S w) (listed.setIfInBounds i true) (a.put o.dst x) (fun w => Rel E.c h w ∧ S w) →
              TR E.c.P .any all.toArray k Q (fuel + 1) (fun w => Rel E.c h w ∧ S w) listed a (fun w => Rel E.c h w ∧ S w) := fun x hy hyf ht => by
            refine ht2 x ?_ ht
            by_cases hpu : pureOp o.op = true
            · exact ⟨fun _ => True, .inl (fun _ => trivial), pure_yields hpu hy hw0, fun _ _ => trivial⟩
            by_cases hfu : fieldOp o.op = true
            · exact ⟨fun _ => True, .inl (fun _ => trivial), hyf hfu, fun _ _ => trivial⟩
            · refine ⟨_, .inr fun l hd' j hj hkj => ?_, hy, fun _ q => q⟩
              have hpo : ((all.toArray[i]?).map fun o => pureOp o.op || fieldOp o.op).getD false = false := by rw [ho']; simp [hpu, hfu]
              rw [hpo, Bool.or_false] at b1
              exact wait_ready b1 hd' hj hkj
          rcases grd_ok hm hv with ⟨σ', hm', hwt, v, h1, h2⟩ | ⟨σ', hm', hwt, h2⟩
          · have hdl := putS_lt h2
            obtain ⟨x, r, hy⟩ := quiet_yields hE hm' h1 (fun t e => by rw [hm'.size]; exact hdl t e) hw0.1
            obtain ⟨σ2, h3, hm2⟩ := putA_ok hm' r h2
            exact fin x (.inl ⟨hwt, fun w hw => hy w hw.1⟩) (fun hfu => .inl ⟨hwt, fun w _ => field_yields hE hm' hfu h1 r w⟩) (ih p _ σ2 h nx _ S b5 (hd.step hr) h3 hm2 hS)
          · obtain ⟨σ2, h3, hm2⟩ := putA_ok hm' (vrel_und h) h2
            exact fin undef (.inr ⟨hwt, rfl⟩) (fun _ => .inr ⟨hwt, rfl⟩) (ih p _ σ2 h nx _ S b5 (hd.step hr) h3 hm2 hS)
      · exact ⟨fun _ w hw => absurd ⟨w, hw⟩ hne, fun j hj w hw => absurd ⟨w, hw⟩ hne⟩
    | all l =>
      simp only [planB, Bool.and_eq_true, beq_iff_eq] at hb
      obtain ⟨⟨b1, b2⟩, b3⟩ := hb
      refine ⟨fun e => ?_, fun i hi w hw => ?_⟩
      · rw [← b1, e] at b2; simp at b2
      · rw [b1] at hi
        have hr : i ∈ Region.ready .any all.toArray listed := by rw [b1]; exact hi
        obtain ⟨p, hp, hpv⟩ := plan_idx b3 i hi
        have hv := hpv E all K σ h nx (by simpa [vcP] using hv)
        cases ho : all[i]? with
        | none => rw [ho] at hv; exact hv.elim
        | some o =>
          rw [ho] at hv
          have ho' : all.toArray[i]? = some o := by simpa using ho
          unfold wpOp
          simp only [ho']
          rcases grd_ok hm hv with ⟨σ', hm', hwt, hop⟩ | ⟨σ', hm', hwt, h2⟩
          · rw [if_pos hwt]
            refine .inl ?_
            have key : ∀ v h' nx' w' x, (putS E.fn.ntmps o.dst v σ' fun σ' => vcP E all k K p σ' h' nx') → Ext h h' → Rel E.c h' w' → vrel h' v x → (i < k → Fr (quiet E.c.P w) w') →
                ∃ S' R', (i < k → ∀ v, S' v → Rel E.c h v ∧ S v) ∧ (∀ v, R' v → S' v) ∧ Stable E.c.P R' ∧ R' w' ∧ TR E.c.P .any all.toArray k Q fuel S' (listed.setIfInBounds i true) (a.put o.dst x) R' := by
              intro v h' nx' w' x h2 hx hr' r hf
              have hm1 : MatA E.fn.ntmps σ' h' a := ⟨hm'.size, fun t v e => vrel_mono hx _ _ (hm'.slots t v e), hm'.calm⟩
              obtain ⟨σ2, h3, hm2⟩ := putA_ok hm1 r h2
              by_cases hik : i < k
              · have hst2 : Stable E.c.P (fun w => Rel E.c h' w ∧ (Rel E.c h w ∧ S w)) := fun w w' hw hf => ⟨hw.1.after hf, hst w w' hw.2 hf⟩
                exact ⟨_, _, fun _ v q => q.2, fun _ q => q, hst2, ⟨hr', hst w w' hw (hf hik)⟩, ih p _ σ2 h' nx' _ (fun w => Rel E.c h w ∧ S w) hp (hd.step hr) h3 hm2 hst⟩
              · have hst2 : Stable E.c.P (fun w => Rel E.c h' w ∧ True) := fun w w' hw hf => ⟨hw.1.after hf, trivial⟩
                exact ⟨_, _, fun q => absurd q hik, fun _ q => q, hst2, ⟨hr', trivial⟩, ih p _ σ2 h' nx' _ (fun _ => True) hp (hd.step hr) h3 hm2 (fun _ _ _ _ => trivial)⟩
            by_cases hik : i < k
            · have hb1 : Nat.blt i k = true := Nat.ble_eq_true_of_le hik
              rw [hb1] at hop
              unfold opP at hop
              cases hcv : isCallV o.op with
              | true =>
                rw [hcv] at hop
                simp only at hop
                have hE' : EnvOK { E with c := quiet E.c.P w } := ⟨hE.tab, hE.sps⟩
                refine stepC_ok (E := { E with c := quiet E.c.P w }) hE' (hm'.ro.at hw.1.ro) hop ?_ ?_
                · intro v h1 nx' w' x q hx hr' r
                  unfold oneNew at q
                  split at q
                  · rename_i t b n sz g ty rr
                    obtain ⟨rfl, hg, hfl, q⟩ := q
                    have hrw := hw.1.after hr'.fr
                    have H := hr'.holds t
                    rw [fd_cons, if_pos rfl] at H
                    obtain ⟨⟨cs, c1, c2, c3⟩, c4⟩ := H
                    have hb : w.heap.size ≤ b := by rcases c4 with c4 | c4; exact c4.elim; exact c4
                    have hra : Rel E.c ((t, .blk b n sz g ty) :: h) w' := hrw.add hg ⟨⟨cs, c1, c2, fun i k hi hk => let ⟨x, ex, rx⟩ := c3 i k hi hk; ⟨x, ex, flat_rel _ _ (hfl i k hi hk) rx⟩⟩, .inr (Nat.le_trans hw.1.fr.size hb)⟩ (fun t' b' n' sz' g' ty' e' => by have := hw.1.lt e'; omega)
                    refine key v _ nx' w' x q (Ext.new (by rw [hg]; rfl)) hra (vrel_mono (fun t' r' e' => ?_) _ _ r) (fun _ => hr'.fr)
                    rw [fd_cons] at e' ⊢
                    split
                    · rename_i ht; rw [if_pos ht] at e'; exact e'
                    · rename_i ht; rw [if_neg ht, fd_roH, Ent.toRo_rf] at e'; exact e'
                  · rename_i t sz g rr
                    obtain ⟨rfl, hg, q⟩ := q
                    have hrw := hw.1.after hr'.fr
                    obtain ⟨hra, hxa⟩ := hrw.ronil (nx := t) (sz := sz) (g := g) hg
                    refine key v _ nx' w' x q hxa hra (vrel_mono (fun t' r' e' => ?_) _ _ r) (fun _ => hr'.fr)
                    rw [fd_cons] at e' ⊢
                    split
                    · rename_i ht; rw [if_pos ht] at e'; exact e'
                    · rename_i ht; rw [if_neg ht, fd_roH, Ent.toRo_rf] at e'; exact e'
                  · exact q.elim
                · intro v h' nx' w' x q
                  exact q.elim
              | false =>
              rw [hcv] at hop
              obtain ⟨hfr, hst1⟩ := hop
              obtain ⟨v0, h0, nx0, w0, hrun, hr0, _, _⟩ := step_ok hE.tab (hm'.ro.at hw.1.ro) (o := o) hfr
              have hwp := stepC_ok hE (hm'.at hw.1) hst1 (next := fun a' w1 => ∃ v h' nx' x, (putS E.fn.ntmps o.dst v σ' fun σ' => vcP E all k K p σ' h' nx') ∧ Ext h h' ∧ Rel E.c h' w1 ∧ vrel h' v x ∧ a' = a.put o.dst x) (Q := fun _ _ _ => False)
                (fun v h' nx' w' x q hx hr' r => ⟨v, h', nx', x, q, hx, hr', r, rfl⟩) (fun v h' nx' w' x q => q.elim)
              unfold Oper.wp at hwp ⊢
              rcases hrun with ⟨y, hrun, _⟩ | ⟨hrun, _⟩
              · rw [hrun] at hwp ⊢
                obtain ⟨v, h', nx', x, q, hx, hr', r, e⟩ := hwp
                have := key v h' nx' w0 x q hx hr' r (fun _ => hr0.fr)
                rw [← e] at this
                exact this
              · rw [hrun] at hwp ⊢
                obtain ⟨v, h', nx', x, q, hx, hr', r, e⟩ := hwp
                have := key v h' nx' w0 x q hx hr' r (fun _ => hr0.fr)
                rw [← e] at this
                exact this
            · have hb1 : Nat.blt i k = false := by cases hq : Nat.blt i k with | false => rfl | true => exact absurd (Nat.le_of_ble_eq_true hq) hik
              rw [hb1] at hop
              refine stepC_ok hE (hm'.at hw.1) hop.2 ?_ ?_
              · intro v h' nx' w' x q hx hr' r
                exact key v h' nx' w' x q hx hr' r (fun q => absurd q hik)
              · intro v h' nx' w' x q hx hr' r
                exact hQv v h' nx' x a w' q hm'.calm hr' r
          · rw [if_neg (by rw [hwt]; simp)]
            obtain ⟨σ2, h3, hm2⟩ := putA_ok hm' (vrel_und h) h2
            exact ⟨_, _, fun _ v q => q, fun _ q => q, hst, hw, ih p _ σ2 h nx _ S hp (hd.step hr) h3 hm2 hS⟩

theorem wpOp_monoQ {P : Program} {ops : Array Oper} {Q Q' : Exit → Act → World → Prop} (hq : ∀ e a w, Q e a w → Q' e a w) {i : Nat} {K : Act → World → Prop} {a : Act} {w : World} (h : wpOp P ops Q i K a w) : wpOp P ops Q' i K a w := by
  unfold wpOp at *
  split
  · rename_i ho; simpa [ho] using h
  · rename_i o ho
    simp only [ho] at h
    split
    · rename_i hw
      rw [if_pos hw] at h
      rcases h with h | ⟨h1, a1, w1, h2⟩
      · refine .inl ?_
        unfold Oper.wp at *
        generalize (execOp a.eval o).run P w = r at *
        cases r with
        | ok n w' =>
          cases n <;> simp only [Oper.upon] at h ⊢
          case enter f args =>
            refine Calls.mono h fun e w'' he => ?_
            cases e with
            | returned u => exact he
            | panicked c => exact hq _ _ _ he
            | outgrown => obtain ⟨a1, w1, h1⟩ := he; exact ⟨a1, w1, hq _ _ _ h1⟩
          all_goals exact h
        | halt x w' => cases x <;> simp only [Oper.upon] at h ⊢; exact hq _ _ _ h
      · exact .inr ⟨h1, a1, w1, hq _ _ _ h2⟩
    · rename_i hw
      rw [if_neg hw] at h
      exact h
theorem wpAny_monoQ {P : Program} {ops : Array Oper} {md : Region.Mode} {Q Q' : Exit → Act → World → Prop} (hq : ∀ e a w, Q e a w → Q' e a w) : ∀ (fuel : Nat) (listed : Array Bool) (a : Act) (w : World), wpAny P md ops Q fuel listed a w → wpAny P md ops Q' fuel listed a w
  | 0, _, a, w, h => ⟨h.1, hq _ a w h.2⟩
  | fuel + 1, listed, a, w, h => ⟨fun h0 => hq _ a w (h.1 h0), fun i hi => wpOp_monoQ hq (wpOp_mono (fun a' w' q => wpAny_monoQ hq fuel _ a' w' q) (h.2 i hi))⟩

/-- A region whose order is open, by a plan of its orders; from number k on its operations wait for all those ahead, and may write. -/
theorem W_plan {E : Env} (hE : EnvOK E) {id : Nat} {all : List Oper} {k : List It} {σ : Sl} {h : Hp} (nx : Nat) (t : Nat) (p : Plan) (hP : E.c.P.follows .mixedOrders = true) (hB : (Region.noSelect all.toArray && planB all.toArray t all.length (Array.replicate all.length false) p) = true) (n : Nat)
    (hs : vcP E all t (fun σ h nx => vc E n k σ h nx) p σ h nx) : W E (.code (.region id all.toArray true) :: k) σ h 0 := by
  intro a w hm
  simp only [Bool.and_eq_true] at hB
  obtain ⟨b1, b3⟩ := hB
  have hr := hm.rel.drew
  refine wp_region_any hP ?_
  let Q0 : Exit → Act → World → Prop := fun e a w => match e with | .normal => postK E k .normal a w | .panic c => a.defers = [] ∧ E.post (.panicked c) w | _ => False
  refine wpAny_monoQ (Q := Q0) (fun e a w q => by cases e <;> first | exact q | exact postK_panic q | exact q.elim) _ _ _ _ ?_
  have hd : Down .any all.toArray (Array.replicate all.length false) := fun j o hj => by
    exfalso
    rcases Nat.lt_or_ge j all.length with q | q
    · simp [q] at hj
    · simp [q] at hj
  have := vcP_ok hE (Q := Q0) b1 (fun σ h nx a hv hm w hr => vc_sound hE n k σ h nx hv a w (hm.at hr)) (fun c a d x w q => ⟨by cases d <;> exact q.1, q.2⟩) (fun v h' nx' x a w' q hc hr r => ⟨hc, .pan v, h', nx', q, hr, x, rfl, r⟩) all.length p _ σ h nx a (fun _ => True) b3 hd hs hm.mat (fun _ _ _ _ => trivial)
  have e : all.toArray.size = all.length := by simp
  rw [e]
  exact wpAny_ofTR _ _ _ _ _ this _ ⟨hr, trivial⟩

/-- Numbers i, i + 1, .. in the text's order; one alone. -/
def lineP (i : Nat) : Nat → Plan → Plan
  | 0, p => p
  | n + 1, p => .take i (lineP (i + 1) n p)
def oneP (i : Nat) (p : Plan) : Plan := .all (.cons i p .nil)

/-- A call, walked in place over what is only read: its answer bears no address. -/
def inlq (P : Program) (fn : Func) (cd : Code) (T : Tab) (SP : SpT) (n : Nat) : Spec := fun args h nx K =>
  Nat.ble args.length fn.ntmps = true ∧ ∃ o : Out, o.flat ∧ K o h nx ∧ ∀ c, c.P = P → vc ⟨c, fn, T, SP, fun o' _ _ => o' = o⟩ n [.code cd] (argsS args 0) (roH h) nx
theorem inlq_ok {P : Program} {f : Nat} {fn : Func} {cd : Code} {T : Tab} {SP : SpT} (hf : P.funcs[f]? = some fn) (hx : (fn.name == "runtime.NumGoroutine") = false) (hb : fn.body = some cd) (hT : TabOK P T) (hS : ∀ p ∈ SP, SpecOK P p.1 p.2) (n : Nat) :
    SpecOK P f (inlq P fn cd T SP n) := by
  intro c hc args h nx K hk w xs hr hv
  obtain ⟨hl, o, hfl, hko, hk⟩ := hk
  subst hc
  refine .inl ⟨callFunc_enter hf hx hb _ w, ?_⟩
  have hE : EnvOK ⟨quiet c.P w, fn, T, SP, fun o' _ _ => o' = o⟩ := ⟨hT, hS⟩
  refine (enter hE (f := f) hf hb (vrelL_mono (roH_ext h) args xs hv) hr.ro (Nat.le_of_ble_eq_true hl) n (hk _ rfl)).mono ?_
  rintro e w' ⟨o', h1, nx1, rfl, hr1, hor⟩
  exact ⟨o', h, nx, hko, hr.after hr1.fr, Ext.refl h, Out.flat_rel hfl hor⟩

end Go.Proofs.Ytgcnknhfphgfnaa.Sx
