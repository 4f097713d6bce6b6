import Derived.Test.YtgcnknhfphgfnaaSxR
set_option linter.unusedVariables false
set_option linter.unusedSimpArgs false
/-
  The engine, nineteenth part: a call that is walked in place; a region whose order is open and that makes or writes memory.
-/
namespace Go.Proofs.Ytgcnknhfphgfnaa.Sx
open Go

/-! ### A call, walked in place -/
def inl (P : Program) (fn : Func) (cd : Code) (T : Tab) (SP : SpT) (n : Nat) : Spec := fun args h nx K =>
  Nat.ble args.length fn.ntmps = true ∧ ∀ c, c.P = P → vc ⟨c, fn, T, SP, fun o h' nx' => Ext h h' ∧ K o h' nx'⟩ n [.code cd] (argsS args 0) h nx
theorem inl_ok {P : Program} {f : Nat} {fn : Func} {cd : Code} {T : Tab} {SP : SpT} (hf : P.funcs[f]? = some fn) (hx : (fn.name == "runtime.NumGoroutine") = false) (hb : fn.body = some cd) (hT : TabOK P T) (hS : ∀ p ∈ SP, SpecOK P p.1 p.2) (n : Nat) :
    SpecOK P f (inl P fn cd T SP n) := by
  intro c hc args h nx K hk w xs hr hv
  obtain ⟨hl, hk⟩ := hk
  refine .inl ⟨callFunc_enter hf hx hb _ w, ?_⟩
  have hE : EnvOK ⟨c, fn, T, SP, fun o h' nx' => Ext h h' ∧ K o h' nx'⟩ := mkE hc hT hS
  have hf' : c.P.funcs[f]? = some fn := by rw [hc]; exact hf
  have := enter hE (f := f) hf' hb hv hr (Nat.le_of_ble_eq_true hl) n (hk c hc)
  rw [show (Env.c ⟨c, fn, T, SP, fun o h' nx' => Ext h h' ∧ K o h' nx'⟩).P = P from hc] at this
  refine this.mono ?_
  rintro e w' ⟨o, h1, nx1, ⟨hx, hp⟩, hr1, hor⟩
  exact ⟨o, h1, nx1, hp, hr1, hx, hor⟩

/-! ### What is known, looked at as what is only read -/
def Ent.toRo : Ent → Ent
  | .blk b n sz g _ => .ro (some ⟨b, 0, none⟩) n sz g
  | .mp b l => .rmp b l
  | .it b _ _ _ _ => .ro (some ⟨b, 0, none⟩) 0 0 (fun _ _ => und)
  | e => e
def roH : Hp → Hp
  | [] => []
  | (t, e) :: r => (t, e.toRo) :: roH r
theorem fd_roH : ∀ (h : Hp) (t : Nat), fd t (roH h) = (fd t h).toRo
  | [], t => rfl
  | (u, e) :: r, t => by
    rw [roH, fd_cons, fd_cons]
    split
    · rfl
    · exact fd_roH r t
theorem Ent.toRo_rf (e : Ent) : e.toRo.rf = e.rf := by cases e <;> rfl
theorem roH_ext (h : Hp) : Ext h (roH h) := fun t r e => by rw [fd_roH, Ent.toRo_rf]; exact e
theorem roH_ext' (h : Hp) : Ext (roH h) h := fun t r e => by rw [fd_roH, Ent.toRo_rf] at e; exact e

theorem Rel.ro {c : Cx} {h : Hp} {w : World} (hr : Rel c h w) : Rel (quiet c.P w) (roH h) w := by
  refine ⟨⟨rfl, rfl, rfl, Nat.le_refl _, fun _ _ _ => rfl⟩, fun t => ?_, fun t t' _ => ?_, hr.qtabs⟩
  · rw [fd_roH]
    have h1 := hr.holds t
    cases e : fd t h with
    | blk b n sz g ty =>
      rw [e] at h1
      obtain ⟨⟨cs, c1, c2, c3⟩, _⟩ := h1
      intro i k hi hk
      obtain ⟨x, ex, rx⟩ := c3 i k hi hk
      refine ⟨_, x, rfl, ?_, vrel_mono (roH_ext h) _ _ rx, fun q => q⟩
      rw [add_plain]
      show w.cell? ⟨b, i * sz + k, none⟩ = some x
      simp [World.cell?, c1, ex]
    | ro base n sz g =>
      rw [e] at h1
      intro i k hi hk
      obtain ⟨ad, x, ea, ec, rx⟩ := Ent.ro_cell hr.fr h1 hi hk
      exact ⟨ad, x, ea, ec, vrel_mono (roH_ext h) _ _ rx, fun q => q⟩
    | mp b l =>
      rw [e] at h1
      exact ⟨h1.1, fun q => q⟩
    | rmp b l =>
      rw [e] at h1
      obtain ⟨⟨es, ck, e1, e2⟩, e3⟩ := h1
      exact ⟨⟨es, ck, (hr.fr.block b (Array.getElem?_eq_some_iff.1 e1).1 e3).trans e1, e2⟩, fun q => q⟩
    | it b mb l lf cu => exact fun i k hi hk => absurd hi (Nat.not_lt_zero _)
    | gone => trivial
  · rw [fd_roH]
    cases fd t h <;> trivial

/-! ### Sets of worlds that stay when nothing that there was turns -/
def Stable (P : Program) (R : World → Prop) : Prop := ∀ w w', R w → Fr (quiet P w) w' → R w'
theorem stable_rel {c : Cx} {h : Hp} : Stable c.P (Rel c h) := fun w w' hr hf => hr.after hf

/-- In state a, in every world that meets S, o leaves x in its slot, and nothing that there was has turned. -/
def YQ (P : Program) (ops : Array Oper) (S : World → Prop) (o : Oper) (x : Value) (a : Act) : Prop :=
  (Region.wanted o (yielded ops a.tmps) = true ∧ ∀ w, S w → giv P o x (fun w' => Fr (quiet P w) w') ((execOp a.eval o).run P w)) ∨ (Region.wanted o (yielded ops a.tmps) = false ∧ x = undef)

section
variable {P : Program} {ops : Array Oper} {md : Region.Mode} {S : World → Prop}
theorem YQ.of_same {o : Oper} {x : Value} {a a' : Act} (hy : YQ P ops S o x a) (he : execOp a'.eval o = execOp a.eval o) (hw : Region.wanted o (yielded ops a'.tmps) = Region.wanted o (yielded ops a.tmps)) : YQ P ops S o x a' := by
  unfold YQ at *
  rw [he, hw]
  exact hy
theorem YQ.sub {S' : World → Prop} {o : Oper} {x : Value} {a : Act} (hy : YQ P ops S o x a) (hs : ∀ w, S' w → S w) : YQ P ops S' o x a := hy.imp (fun ⟨h1, h2⟩ => ⟨h1, fun w hw => h2 w (hs w hw)⟩) id
theorem YQ.put {oi oj : Oper} {x : Value} (hap : oi.apart ops oj = true) (hsi : ∀ cs b, oi.op ≠ .select cs b) {a : Act} {y : Value} (h : YQ P ops S oi x a) : YQ P ops S oi x (a.put oj.dst y) := by
  obtain ⟨h1, h2, h3⟩ := Oper.apart_spec hap
  exact h.of_same (execOp_put oi hsi a oj.dst y h3) (wanted_put oi a oj.dst y h3)
theorem Fr.refl' (w : World) : Fr (quiet P w) w := ⟨rfl, rfl, rfl, Nat.le_refl _, fun _ _ _ => rfl⟩
theorem YQ.wpOp {i : Nat} {o : Oper} {x : Value} {a : Act} (hi : ops[i]? = some o) (hy : YQ P ops S o x a) {K : Act → World → Prop} {Q : Exit → Act → World → Prop} {w : World} (hS : S w) (hK : ∀ w', Fr (quiet P w) w' → K (a.put o.dst x) w') : wpOp P ops Q i K a w := by
  unfold Go.wpOp
  simp only [hi]
  rcases hy with ⟨hw, hv⟩ | ⟨hw, rfl⟩
  · simp only [hw, if_true]; exact .inl (wp_of_giv (hv w hS) hK)
  · simp only [hw, Bool.false_eq_true, if_false]; exact hK w (Fr.refl' w)

/-- Whatever order is picked: from all worlds of R; every set of worlds that is met lies in S, up to the operations from number k on, which wait for all those ahead. -/
def TR (P : Program) (md : Region.Mode) (ops : Array Oper) (k : Nat) (Q : Exit → Act → World → Prop) : Nat → (World → Prop) → Array Bool → Act → (World → Prop) → Prop
  | 0, S, listed, a, R => Region.ready md ops listed = [] ∧ ∀ w, R w → Q .normal a w
  | fuel + 1, S, listed, a, R => (Region.ready md ops listed = [] → ∀ w, R w → Q .normal a w) ∧
    ∀ i ∈ Region.ready md ops listed, ∀ w, R w → wpOp P ops Q i (fun a' w' => ∃ S' R', (i < k → ∀ v, S' v → S v) ∧ (∀ v, R' v → S' v) ∧ Stable P R' ∧ R' w' ∧ TR P md ops k Q fuel S' (listed.setIfInBounds i true) a' R') a w

theorem wpAny_ofTR {k : Nat} {Q : Exit → Act → World → Prop} : ∀ (fuel : Nat) (S : World → Prop) (listed : Array Bool) (a : Act) (R : World → Prop), TR P md ops k Q fuel S listed a R → ∀ w, R w → wpAny P md ops Q fuel listed a w
  | 0, S, listed, a, R, h, w, hw => ⟨h.1, h.2 w hw⟩
  | fuel + 1, S, listed, a, R, h, w, hw => ⟨fun h0 => h.1 h0 w hw, fun i hi => wpOp_mono (fun a' w' ⟨S', R', _, _, _, hR, ht⟩ => wpAny_ofTR fuel S' _ a' R' ht w' hR) (h.2 i hi w hw)⟩

/-- An operation that neither reads nor writes memory, whatever it is given. -/
def pureOp : Op → Bool
  | .move _ => true
  | .assign _ => true
  | .extract _ _ => true
  | _ => false
/-- Those from number k on wait for all those ahead, but for such operations. -/
def tailB (md : Region.Mode) (ops : Array Oper) (k : Nat) : Bool := (List.range ops.size).all fun j => Nat.blt j k || (List.range k).all fun m => (reach md ops j (deps md ops j)).contains m || ((ops[m]?).map fun o => pureOp o.op).getD false

/-- Number m is waited for by all from number k on. -/
def waitB (md : Region.Mode) (ops : Array Oper) (k m : Nat) : Bool := (List.range ops.size).all fun j => Nat.blt j k || (reach md ops j (deps md ops j)).contains m
theorem wait_ready {k m : Nat} (hk : waitB md ops k m = true) {listed : Array Bool} (hd : Down md ops listed) {j : Nat} (hr : j ∈ Region.ready md ops listed) (hj : k ≤ j) : listed.getD m false = true := by
  obtain ⟨_, o, ho, hall⟩ := mem_ready.1 hr
  have hlt : j < ops.size := (Array.getElem?_eq_some_iff.1 ho).1
  have h1 : ∀ i ∈ reach md ops j (deps md ops j), listed.getD i false = true := by
    refine reach_all (p := fun i => listed.getD i false = true) (fun i hi j hj => ?_) j _ fun i hi => ?_
    · obtain ⟨o', ho', e, he, hb, rfl⟩ := mem_deps.1 hj
      exact hd i o' hi ho' e he hb
    · obtain ⟨o', ho', e, he, hb, rfl⟩ := mem_deps.1 hi
      rw [ho] at ho'
      injection ho' with ho'
      subst ho'
      exact hall e he hb
  have h2 := List.all_eq_true.1 hk j (by simpa using hlt)
  rw [Bool.or_eq_true] at h2
  rcases h2 with h2 | h2
  · have : j < k := Nat.le_of_ble_eq_true h2
    omega
  · exact h1 m (by simpa using h2)
theorem tail_ready {k : Nat} (hk : tailB md ops k = true) {listed : Array Bool} (hd : Down md ops listed) {j : Nat} (hr : j ∈ Region.ready md ops listed) (hj : k ≤ j) (m : Nat) (hm : m < k) (hp : ((ops[m]?).map fun o => pureOp o.op).getD false = false) : listed.getD m false = true := by
  obtain ⟨_, o, ho, hall⟩ := mem_ready.1 hr
  have hlt : j < ops.size := (Array.getElem?_eq_some_iff.1 ho).1
  have h1 : ∀ i ∈ reach md ops j (deps md ops j), listed.getD i false = true := by
    refine reach_all (p := fun i => listed.getD i false = true) (fun i hi j hj => ?_) j _ fun i hi => ?_
    · obtain ⟨o', ho', e, he, hb, rfl⟩ := mem_deps.1 hj
      exact hd i o' hi ho' e he hb
    · obtain ⟨o', ho', e, he, hb, rfl⟩ := mem_deps.1 hi
      rw [ho] at ho'
      injection ho' with ho'
      subst ho'
      exact hall e he hb
  have h2 := List.all_eq_true.1 hk j (by simpa using hlt)
  rw [Bool.or_eq_true] at h2
  rcases h2 with h2 | h2
  · have : j < k := Nat.le_of_ble_eq_true h2
    omega
  · have h3 := List.all_eq_true.1 h2 m (by simpa using hm)
    rw [hp, Bool.or_false] at h3
    exact h1 m (by simpa using h3)

theorem wpOp_putQ {Q : Exit → Act → World → Prop} {j : Nat} {oi oj : Oper} {v : Value} (hj : ops[j]? = some oj) (hap : oi.apart ops oj = true)
    (hsi : ∀ cs b, oi.op ≠ .select cs b) (hsj : ∀ cs b, oj.op ≠ .select cs b)
    (hQ : ∀ c a w, Q (.panic c) (a.put oi.dst v) w → Q (.panic c) a w) {K : Act → World → Prop} {a : Act} {w : World}
    (hy : YQ P ops S oi v a) (h : wpOp P ops Q j K (a.put oi.dst v) w) :
    wpOp P ops Q j (fun a' w' => YQ P ops S oi v a' ∧ K (a'.put oi.dst v) w') a w := by
  obtain ⟨h1, h2, h3⟩ := Oper.apart_spec hap
  have keep : ∀ (a : Act), YQ P ops S oi v a → ∀ u, YQ P ops S oi v (a.put oj.dst u) := fun a hy u => hy.put hap hsi
  have keepD : ∀ d, YQ P ops S oi v { a with defers := d :: a.defers } := fun d => hy.of_same rfl rfl
  unfold wpOp at *
  simp only [hj] at *
  rw [wanted_put oj a oi.dst v h1] at h
  split
  · rename_i hw
    simp only [hw, if_true] at h
    rcases h with h | ⟨hasks, hlets⟩
    case inr => exact .inr ⟨by unfold Oper.asks at *; rw [execOp_put oj hsj a oi.dst v h1] at hasks; exact hasks, hlets⟩
    refine .inl ?_
    unfold Oper.wp at *
    rw [execOp_put oj hsj a oi.dst v h1] at h
    generalize (execOp a.eval oj).run P w = r at *
    cases r with
    | ok n w' =>
      cases n <;> simp only [Oper.upon] at h ⊢
      case value u => exact ⟨keep a hy u, by rw [← Act.put_comm a v u h2]; exact h⟩
      case skip => exact ⟨keep a hy _, by rw [← Act.put_comm a v undef h2]; exact h⟩
      case defer d =>
        refine ⟨keepD d |>.put hap hsi, ?_⟩
        rw [← Act.put_comm _ v undef h2, ← Act.put_defers]
        exact h
      case enter f args =>
        refine Calls.mono h fun e w'' he => ?_
        cases e with
        | returned u => exact ⟨keep a hy u, by rw [← Act.put_comm a v u h2]; exact he⟩
        | panicked c => exact hQ _ _ _ he
        | outgrown => exact he
      case row row args => exact Rows.mono h fun u w'' he => ⟨keep a hy u, by rw [← Act.put_comm a v u h2]; exact he⟩
    | halt x w' =>
      cases x <;> simp only [Oper.upon] at h ⊢
      case panic u => exact hQ _ _ _ h
  · rename_i hw
    simp only [hw] at h
    exact ⟨keep a hy _, by rw [← Act.put_comm a v undef h2]; exact h⟩

theorem TR_first {k : Nat} {S0 : World → Prop} {Q : Exit → Act → World → Prop} {i : Nat} {oi : Oper} {x : Value} (hw0 : (∀ w, S0 w) ∨ ∀ (listed : Array Bool), Down md ops listed → ∀ j ∈ Region.ready md ops listed, k ≤ j → listed.getD i false = true) (hi : ops[i]? = some oi) (hsel : ∀ (j : Nat) (o : Oper) cs b, ops[j]? = some o → o.op ≠ .select cs b)
    (hQ : ∀ c a w, Q (.panic c) (a.put oi.dst x) w → Q (.panic c) a w) :
    ∀ (fuel : Nat) (S : World → Prop) (listed : Array Bool) (a : Act) (R : World → Prop), Down md ops listed →
      (∀ j oj, ops[j]? = some oj → j ≠ i → listed.getD j true = false → (∀ e ∈ oj.after, Region.binds md e = true → e.on ≠ i) → oi.apart ops oj = true) →
      i ∈ Region.ready md ops listed → YQ P ops S0 oi x a → (∀ w, S w → S0 w) → (∀ w, R w → S w) → Stable P R →
      TR P md ops k Q fuel S (listed.setIfInBounds i true) (a.put oi.dst x) R → TR P md ops k Q (fuel + 1) S listed a R := by
  intro fuel
  induction fuel with
  | zero =>
    intro S listed a R hd _ hr hy hSS hRS hst H
    refine ⟨fun h => (by rw [h] at hr; cases hr), fun j hj w hw => ?_⟩
    by_cases hji : j = i
    · subst hji; exact hy.wpOp hi (hSS w (hRS w hw)) fun w' hf => ⟨S, R, fun _ _ q => q, hRS, hst, hst w w' hw hf, H⟩
    · have := ready_mono hj hji
      rw [H.1] at this
      cases this
  | succ fuel ih =>
    intro S listed a R hd hfree hr hy hSS hRS hst H
    refine ⟨fun h => (by rw [h] at hr; cases hr), fun j hj w hw => ?_⟩
    by_cases hji : j = i
    · subst hji; exact hy.wpOp hi (hSS w (hRS w hw)) fun w' hf => ⟨S, R, fun _ _ q => q, hRS, hst, hst w w' hw hf, H⟩
    · have hS' : ∀ S' : World → Prop, (j < k → ∀ v, S' v → S v) → ∀ v, S' v → S0 v := fun S' hs v hv => by
        rcases hw0 with hw0 | hw0
        · exact hw0 v
        · have hjk : j < k := by
            rcases Nat.lt_or_ge j k with q | q
            · exact q
            · have h1 := hw0 listed hd j hj q
              have h0 := (mem_ready.1 hr).1
              rcases Nat.lt_or_ge i listed.size with h' | h'
              · simp [h'] at h0 h1; rw [h0] at h1; cases h1
              · simp [Array.getElem?_eq_none h'] at h1
          exact hSS v (hs hjk v hv)
      have h1 := H.2 j (ready_mono hj hji) w hw
      obtain ⟨hjun, oj, hoj, hall⟩ := mem_ready.1 hj
      have hnot : ∀ e ∈ oj.after, Region.binds md e = true → e.on ≠ i := fun e he hb heq => by
        have h1 := hall e he hb
        have h0 := (mem_ready.1 hr).1
        rw [heq] at h1
        rcases Nat.lt_or_ge i listed.size with h' | h'
        · simp [h'] at h0 h1; rw [h0] at h1; cases h1
        · simp [Array.getElem?_eq_none h'] at h1
      have h2 := wpOp_putQ hoj (hfree j oj hoj hji hjun hnot) (fun cs b => hsel i oi cs b hi) (fun cs b => hsel j oj cs b hoj) hQ hy h1
      have hfree' : ∀ k ok, ops[k]? = some ok → k ≠ i → (listed.setIfInBounds j true).getD k true = false →
          (∀ e ∈ ok.after, Region.binds md e = true → e.on ≠ i) → oi.apart ops ok = true := fun k ok hk hki hun hno => by
        refine hfree k ok hk hki ?_ hno
        by_cases hjk : j = k
        · subst hjk; exact hjun
        · rw [getD_set_ne true hjk] at hun; exact hun
      refine wpOp_mono (fun a' w' h3 => ?_) h2
      obtain ⟨hy', S', R', hs1, hs2, hs3, hs4, ht⟩ := h3
      refine ⟨S', R', hs1, hs2, hs3, hs4, ih S' (listed.setIfInBounds j true) a' R' (hd.step hj) hfree' (ready_mono hr (Ne.symm hji)) hy' (hS' S' hs1) hs2 hs3 ?_⟩
      rw [Array.setIfInBounds_comm _ _ hji]
      exact ht

end
end Go.Proofs.Ytgcnknhfphgfnaa.Sx
