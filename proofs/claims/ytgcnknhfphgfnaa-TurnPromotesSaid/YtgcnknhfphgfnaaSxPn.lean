import Derived.Test.YtgcnknhfphgfnaaSxLa
set_option linter.unusedVariables false
set_option linter.unusedSimpArgs false
/-
  The engine: regions of an open order, by a plan that names the operations that may write.
-/
namespace Go.Proofs.Ytgcnknhfphgfnaa.Sx
open Go
section
variable {P : Program} {ops : Array Oper} {md : Region.Mode} {S : World → Prop}
/-- Whatever order is picked: from all worlds of R; every set of worlds that is met lies in S, up to the operations from number k on, which wait for all those ahead. -/
def TRw (P : Program) (md : Region.Mode) (ops : Array Oper) (wr : List Nat) (Q : Exit → Act → World → Prop) : Nat → (World → Prop) → Array Bool → Act → (World → Prop) → Prop
  | 0, S, listed, a, R => Region.ready md ops listed = [] ∧ ∀ w, R w → Q .normal a w
  | fuel + 1, S, listed, a, R => (Region.ready md ops listed = [] → ∀ w, R w → Q .normal a w) ∧
    ∀ i ∈ Region.ready md ops listed, ∀ w, R w → wpOp P ops Q i (fun a' w' => ∃ S' R', (memB i wr = false → ∀ v, S' v → S v) ∧ (∀ v, R' v → S' v) ∧ Stable P R' ∧ R' w' ∧ TRw P md ops wr Q fuel S' (listed.setIfInBounds i true) a' R') a w

theorem wpAny_ofTRw {wr : List Nat} {Q : Exit → Act → World → Prop} : ∀ (fuel : Nat) (S : World → Prop) (listed : Array Bool) (a : Act) (R : World → Prop), TRw P md ops wr Q fuel S listed a R → ∀ w, R w → wpAny P md ops Q fuel listed a w
  | 0, S, listed, a, R, h, w, hw => ⟨h.1, h.2 w hw⟩
  | fuel + 1, S, listed, a, R, h, w, hw => ⟨fun h0 => h.1 h0 w hw, fun i hi => wpOp_mono (fun a' w' ⟨S', R', _, _, _, hR, ht⟩ => wpAny_ofTRw fuel S' _ a' R' ht w' hR) (h.2 i hi w hw)⟩

/-- Number m is waited for by all from number k on. -/
def waitBw (md : Region.Mode) (ops : Array Oper) (wr : List Nat) (m : Nat) : Bool := (List.range ops.size).all fun j => !(memB j wr) || (reach md ops j (deps md ops j)).contains m
theorem wait_readyw {wr : List Nat} {m : Nat} (hk : waitBw md ops wr m = true) {listed : Array Bool} (hd : Down md ops listed) {j : Nat} (hr : j ∈ Region.ready md ops listed) (hj : memB j wr = true) : listed.getD m false = true := by
  obtain ⟨_, o, ho, hall⟩ := mem_ready.1 hr
  have hlt : j < ops.size := (Array.getElem?_eq_some_iff.1 ho).1
  have h1 : ∀ i ∈ reach md ops j (deps md ops j), listed.getD i false = true := by
    refine reach_all (p := fun i => listed.getD i false = true) (fun i hi j hj => ?_) j _ fun i hi => ?_
    · obtain ⟨o', ho', e, he, hb, rfl⟩ := mem_deps.1 hj
      exact hd i o' hi ho' e he hb
    · obtain ⟨o', ho', e, he, hb, rfl⟩ := mem_deps.1 hi
      rw [ho] at ho'
      injection ho' with ho'
      subst ho'
      exact hall e he hb
  have h2 := List.all_eq_true.1 hk j (by simpa using hlt)
  rw [Bool.or_eq_true] at h2
  rcases h2 with h2 | h2
  · rw [hj] at h2; cases h2
  · exact h1 m (by simpa using h2)
theorem TR_firstw {wr : List Nat} {S0 : World → Prop} {Q : Exit → Act → World → Prop} {i : Nat} {oi : Oper} {x : Value} (hw0 : (∀ w, S0 w) ∨ ∀ (listed : Array Bool), Down md ops listed → ∀ j ∈ Region.ready md ops listed, memB j wr = true → listed.getD i false = true) (hi : ops[i]? = some oi) (hsel : ∀ (j : Nat) (o : Oper) cs b, ops[j]? = some o → o.op ≠ .select cs b)
    (hQ : ∀ c a w, Q (.panic c) (a.put oi.dst x) w → Q (.panic c) a w) :
    ∀ (fuel : Nat) (S : World → Prop) (listed : Array Bool) (a : Act) (R : World → Prop), Down md ops listed →
      (∀ j oj, ops[j]? = some oj → j ≠ i → listed.getD j true = false → (∀ e ∈ oj.after, Region.binds md e = true → e.on ≠ i) → oi.apart ops oj = true) →
      i ∈ Region.ready md ops listed → YQ P ops S0 oi x a → (∀ w, S w → S0 w) → (∀ w, R w → S w) → Stable P R →
      TRw P md ops wr Q fuel S (listed.setIfInBounds i true) (a.put oi.dst x) R → TRw P md ops wr Q (fuel + 1) S listed a R := by
  intro fuel
  induction fuel with
  | zero =>
    intro S listed a R hd _ hr hy hSS hRS hst H
    refine ⟨fun h => (by rw [h] at hr; cases hr), fun j hj w hw => ?_⟩
    by_cases hji : j = i
    · subst hji; exact hy.wpOp hi (hSS w (hRS w hw)) fun w' hf => ⟨S, R, fun _ _ q => q, hRS, hst, hst w w' hw hf, H⟩
    · have := ready_mono hj hji
      rw [H.1] at this
      cases this
  | succ fuel ih =>
    intro S listed a R hd hfree hr hy hSS hRS hst H
    refine ⟨fun h => (by rw [h] at hr; cases hr), fun j hj w hw => ?_⟩
    by_cases hji : j = i
    · subst hji; exact hy.wpOp hi (hSS w (hRS w hw)) fun w' hf => ⟨S, R, fun _ _ q => q, hRS, hst, hst w w' hw hf, H⟩
    · have hS' : ∀ S' : World → Prop, (memB j wr = false → ∀ v, S' v → S v) → ∀ v, S' v → S0 v := fun S' hs v hv => by
        rcases hw0 with hw0 | hw0
        · exact hw0 v
        · have hjk : memB j wr = false := by
            cases q : memB j wr with
            | false => rfl
            | true =>
              have h1 := hw0 listed hd j hj q
              have h0 := (mem_ready.1 hr).1
              rcases Nat.lt_or_ge i listed.size with h' | h'
              · simp [h'] at h0 h1; rw [h0] at h1; cases h1
              · simp [Array.getElem?_eq_none h'] at h1
          exact hSS v (hs hjk v hv)
      have h1 := H.2 j (ready_mono hj hji) w hw
      obtain ⟨hjun, oj, hoj, hall⟩ := mem_ready.1 hj
      have hnot : ∀ e ∈ oj.after, Region.binds md e = true → e.on ≠ i := fun e he hb heq => by
        have h1 := hall e he hb
        have h0 := (mem_ready.1 hr).1
        rw [heq] at h1
        rcases Nat.lt_or_ge i listed.size with h' | h'
        · simp [h'] at h0 h1; rw [h0] at h1; cases h1
        · simp [Array.getElem?_eq_none h'] at h1
      have h2 := wpOp_putQ hoj (hfree j oj hoj hji hjun hnot) (fun cs b => hsel i oi cs b hi) (fun cs b => hsel j oj cs b hoj) hQ hy h1
      have hfree' : ∀ k ok, ops[k]? = some ok → k ≠ i → (listed.setIfInBounds j true).getD k true = false →
          (∀ e ∈ ok.after, Region.binds md e = true → e.on ≠ i) → oi.apart ops ok = true := fun k ok hk hki hun hno => by
        refine hfree k ok hk hki ?_ hno
        by_cases hjk : j = k
        · subst hjk; exact hjun
        · rw [getD_set_ne true hjk] at hun; exact hun
      refine wpOp_mono (fun a' w' h3 => ?_) h2
      obtain ⟨hy', S', R', hs1, hs2, hs3, hs4, ht⟩ := h3
      refine ⟨S', R', hs1, hs2, hs3, hs4, ih S' (listed.setIfInBounds j true) a' R' (hd.step hj) hfree' (ready_mono hr (Ne.symm hji)) hy' (hS' S' hs1) hs2 hs3 ?_⟩
      rw [Array.setIfInBounds_comm _ _ hji]
      exact ht

end
mutual
def planBw (ops : Array Oper) (wr : List Nat) : Nat → Array Bool → Plan → Bool
  | _, listed, .done => (Region.ready .any ops listed).isEmpty
  | fuel, listed, .take i p => (match fuel with
    | 0 => false
    | fuel + 1 => (waitBw .any ops wr i || ((ops[i]?).map fun o => pureOp o.op || fieldOp o.op).getD false) && Nat.blt i ops.size && (Region.ready .any ops listed).contains i && Region.free .any ops listed i && planBw ops wr fuel (listed.setIfInBounds i true) p)
  | fuel, listed, .all l => (match fuel with
    | 0 => false
    | fuel + 1 => (Region.ready .any ops listed == l.idx) && !l.idx.isEmpty && planLBw ops wr fuel listed l)
def planLBw (ops : Array Oper) (wr : List Nat) : Nat → Array Bool → PlanL → Bool
  | _, _, .nil => true
  | fuel, listed, .cons i p l => planBw ops wr fuel (listed.setIfInBounds i true) p && planLBw ops wr fuel listed l
end

mutual
def vcPw (E : Env) (all : List Oper) (wr : List Nat) (K : Sl → Hp → Nat → Prop) : Plan → Sl → Hp → Nat → Prop
  | .done, σ, h, nx => K σ h nx
  | .take i p, σ, h, nx => (match all[i]? with
    | some o => grd all o σ (fun σ => ∃ v, still1 E o.op σ (roH h) nx v ∧ putS E.fn.ntmps o.dst v σ fun σ' => vcPw E all wr K p σ' h nx) (fun σ => putS E.fn.ntmps o.dst und σ fun σ' => vcPw E all wr K p σ' h nx)
    | none => False)
  | .all l, σ, h, nx => vcPLw E all wr K l σ h nx
def vcPLw (E : Env) (all : List Oper) (wr : List Nat) (K : Sl → Hp → Nat → Prop) : PlanL → Sl → Hp → Nat → Prop
  | .nil, _, _, _ => True
  | .cons i p l, σ, h, nx => (match all[i]? with
    | some o => grd all o σ (fun σ => opP E o.op (!(memB i wr)) σ h nx (fun v h' nx' => putS E.fn.ntmps o.dst v σ fun σ' => vcPw E all wr K p σ' h' nx')) (fun σ => putS E.fn.ntmps o.dst und σ fun σ' => vcPw E all wr K p σ' h nx)
    | none => False) ∧ vcPLw E all wr K l σ h nx
end

theorem plan_idxw {ops : Array Oper} {wr : List Nat} : ∀ {l : PlanL} {fuel : Nat} {listed : Array Bool}, planLBw ops wr fuel listed l = true → ∀ i ∈ l.idx, ∃ p, planBw ops wr fuel (listed.setIfInBounds i true) p = true ∧
    ∀ (E : Env) (all : List Oper) (K : Sl → Hp → Nat → Prop) σ h nx, vcPLw E all wr K l σ h nx → (match all[i]? with
    | some o => grd all o σ (fun σ => opP E o.op (!(memB i wr)) σ h nx (fun v h' nx' => putS E.fn.ntmps o.dst v σ fun σ' => vcPw E all wr K p σ' h' nx')) (fun σ => putS E.fn.ntmps o.dst und σ fun σ' => vcPw E all wr K p σ' h nx)
    | none => False)
  | .nil, _, _, _, i, hi => by simp [PlanL.idx] at hi
  | .cons j p l, fuel, listed, hb, i, hi => by
    simp only [planLBw, Bool.and_eq_true] at hb
    simp only [PlanL.idx, List.mem_cons] at hi
    by_cases hij : i = j
    · subst hij
      exact ⟨p, hb.1, fun E all K σ h nx hv => by simp only [vcPLw] at hv; exact hv.1⟩
    · obtain ⟨q, h1, h2⟩ := plan_idxw hb.2 i (hi.resolve_left hij)
      exact ⟨q, h1, fun E all K σ h nx hv => h2 E all K σ h nx (by simp only [vcPLw] at hv; exact hv.2)⟩

theorem vcP_okw {E : Env} (hE : EnvOK E) {all : List Oper} {wr : List Nat} {K : Sl → Hp → Nat → Prop} {Q : Exit → Act → World → Prop} (hs : Region.noSelect all.toArray = true)
    (hQ : ∀ σ h nx a, K σ h nx → MatA E.fn.ntmps σ h a → ∀ w, Rel E.c h w → Q .normal a w) (hQa : ∀ c (a : Act) d x w, Q (.panic c) (a.put d x) w → Q (.panic c) a w)
    (hQv : ∀ v h' nx' x (a : Act) w', E.R (.pan v) h' nx' → a.defers = [] → Rel E.c h' w' → vrel h' v x → Q (.panic [{ v := x, recovered := false }]) a w') : ∀ (fuel : Nat) (p : Plan) (listed : Array Bool) (σ : Sl) (h : Hp) (nx : Nat) (a : Act) (S : World → Prop),
    planBw all.toArray wr fuel listed p = true → Down .any all.toArray listed → vcPw E all wr K p σ h nx → MatA E.fn.ntmps σ h a → Stable E.c.P S →
    TRw E.c.P .any all.toArray wr Q fuel (fun w => Rel E.c h w ∧ S w) listed a (fun w => Rel E.c h w ∧ S w) := by
  intro fuel
  induction fuel with
  | zero =>
    intro p listed σ h nx a S hb hd hv hm hS
    cases p with
    | done =>
      have hr : Region.ready .any all.toArray listed = [] := by simpa [planBw] using hb
      exact ⟨hr, fun w hw => hQ σ h nx a (by simpa [vcPw] using hv) hm w hw.1⟩
    | take i p => simp [planBw] at hb
    | all l => simp [planBw] at hb
  | succ fuel ih =>
    intro p listed σ h nx a S hb hd hv hm hS
    have hst : Stable E.c.P (fun w => Rel E.c h w ∧ S w) := fun w w' hw hf => ⟨hw.1.after hf, hS w w' hw.2 hf⟩
    cases p with
    | done =>
      have hr : Region.ready .any all.toArray listed = [] := by simpa [planBw] using hb
      exact ⟨fun _ w hw => hQ σ h nx a (by simpa [vcPw] using hv) hm w hw.1, by rw [hr]; simp⟩
    | take i p =>
      simp only [planBw, Bool.and_eq_true] at hb
      obtain ⟨⟨⟨⟨b1, b2⟩, b3⟩, b4⟩, b5⟩ := hb
      have hr : i ∈ Region.ready .any all.toArray listed := by simpa using b3
      by_cases hne : ∃ w, Rel E.c h w ∧ S w
      · obtain ⟨w0, hw0⟩ := hne
        simp only [vcPw] at hv
        cases ho : all[i]? with
        | none => rw [ho] at hv; exact hv.elim
        | some o =>
          rw [ho] at hv
          have ho' : all.toArray[i]? = some o := by simpa using ho
          have ht2 : ∀ (x : Value), (∃ S0 : World → Prop, ((∀ w, S0 w) ∨ ∀ (listed : Array Bool), Down .any all.toArray listed → ∀ j ∈ Region.ready .any all.toArray listed, memB j wr = true → listed.getD i false = true) ∧ YQ E.c.P all.toArray S0 o x a ∧ (∀ w, (Rel E.c h w ∧ S w) → S0 w)) →
              TRw E.c.P .any all.toArray wr Q fuel (fun w => Rel E.c h w ∧ S w) (listed.setIfInBounds i true) (a.put o.dst x) (fun w => Rel E.c h w ∧ S w) →
              TRw E.c.P .any all.toArray wr Q (fuel + 1) (fun w => Rel E.c h w ∧ S w) listed a (fun w => Rel E.c h w ∧ S w) := fun x ⟨S0, q1, q2, q3⟩ ht =>
            TR_firstw q1 ho' (Region.noSelect_spec hs) (fun c a w q => hQa c a _ _ w q) fuel _ listed a _ hd (Region.free_spec ho' b4) hr q2 q3 (fun _ q => q) hst ht
          have fin : ∀ (x : Value), YQ E.c.P all.toArray (fun w => Rel E.c h w ∧ S w) o x a → (fieldOp o.op = true → YQ E.c.P all.toArray (fun _ => True) o x a) → TRw E.c.P .any all.toArray wr Q fuel (fun w => Rel E.c h w ∧ S w) (listed.setIfInBounds i true) (a.put o.dst x) (fun w => Rel E.c h w ∧ S w) →
              TRw E.c.P .any all.toArray wr Q (fuel + 1) (fun w => Rel E.c h w ∧ S w) listed a (fun w => Rel E.c h w ∧ S w) := fun x hy hyf ht => by
            refine ht2 x ?_ ht
            by_cases hpu : pureOp o.op = true
            · exact ⟨fun _ => True, .inl (fun _ => trivial), pure_yields hpu hy hw0, fun _ _ => trivial⟩
            by_cases hfu : fieldOp o.op = true
            · exact ⟨fun _ => True, .inl (fun _ => trivial), hyf hfu, fun _ _ => trivial⟩
            · refine ⟨_, .inr fun l hd' j hj hkj => ?_, hy, fun _ q => q⟩
              have hpo : ((all.toArray[i]?).map fun o => pureOp o.op || fieldOp o.op).getD false = false := by rw [ho']; simp [hpu, hfu]
              rw [hpo, Bool.or_false] at b1
              exact wait_readyw b1 hd' hj hkj
          rcases grd_ok hm hv with ⟨σ', hm', hwt, v, h1, h2⟩ | ⟨σ', hm', hwt, h2⟩
          · have hdl := putS_lt h2
            obtain ⟨x, r, hy⟩ := quiet_yields hE hm' h1 (fun t e => by rw [hm'.size]; exact hdl t e) hw0.1
            obtain ⟨σ2, h3, hm2⟩ := putA_ok hm' r h2
            exact fin x (.inl ⟨hwt, fun w hw => hy w hw.1⟩) (fun hfu => .inl ⟨hwt, fun w _ => field_yields hE hm' hfu h1 r w⟩) (ih p _ σ2 h nx _ S b5 (hd.step hr) h3 hm2 hS)
          · obtain ⟨σ2, h3, hm2⟩ := putA_ok hm' (vrel_und h) h2
            exact fin undef (.inr ⟨hwt, rfl⟩) (fun _ => .inr ⟨hwt, rfl⟩) (ih p _ σ2 h nx _ S b5 (hd.step hr) h3 hm2 hS)
      · exact ⟨fun _ w hw => absurd ⟨w, hw⟩ hne, fun j hj w hw => absurd ⟨w, hw⟩ hne⟩
    | all l =>
      simp only [planBw, Bool.and_eq_true, beq_iff_eq] at hb
      obtain ⟨⟨b1, b2⟩, b3⟩ := hb
      refine ⟨fun e => ?_, fun i hi w hw => ?_⟩
      · rw [← b1, e] at b2; simp at b2
      · rw [b1] at hi
        have hr : i ∈ Region.ready .any all.toArray listed := by rw [b1]; exact hi
        obtain ⟨p, hp, hpv⟩ := plan_idxw b3 i hi
        have hv := hpv E all K σ h nx (by simpa [vcPw] using hv)
        cases ho : all[i]? with
        | none => rw [ho] at hv; exact hv.elim
        | some o =>
          rw [ho] at hv
          have ho' : all.toArray[i]? = some o := by simpa using ho
          unfold wpOp
          simp only [ho']
          rcases grd_ok hm hv with ⟨σ', hm', hwt, hop⟩ | ⟨σ', hm', hwt, h2⟩
          · rw [if_pos hwt]
            refine .inl ?_
            have key : ∀ v h' nx' w' x, (putS E.fn.ntmps o.dst v σ' fun σ' => vcPw E all wr K p σ' h' nx') → Ext h h' → Rel E.c h' w' → vrel h' v x → (memB i wr = false → Fr (quiet E.c.P w) w') →
                ∃ S' R', (memB i wr = false → ∀ v, S' v → Rel E.c h v ∧ S v) ∧ (∀ v, R' v → S' v) ∧ Stable E.c.P R' ∧ R' w' ∧ TRw E.c.P .any all.toArray wr Q fuel S' (listed.setIfInBounds i true) (a.put o.dst x) R' := by
              intro v h' nx' w' x h2 hx hr' r hf
              have hm1 : MatA E.fn.ntmps σ' h' a := ⟨hm'.size, fun t v e => vrel_mono hx _ _ (hm'.slots t v e), hm'.calm⟩
              obtain ⟨σ2, h3, hm2⟩ := putA_ok hm1 r h2
              by_cases hik : memB i wr = false
              · have hst2 : Stable E.c.P (fun w => Rel E.c h' w ∧ (Rel E.c h w ∧ S w)) := fun w w' hw hf => ⟨hw.1.after hf, hst w w' hw.2 hf⟩
                exact ⟨_, _, fun _ v q => q.2, fun _ q => q, hst2, ⟨hr', hst w w' hw (hf hik)⟩, ih p _ σ2 h' nx' _ (fun w => Rel E.c h w ∧ S w) hp (hd.step hr) h3 hm2 hst⟩
              · have hst2 : Stable E.c.P (fun w => Rel E.c h' w ∧ True) := fun w w' hw hf => ⟨hw.1.after hf, trivial⟩
                exact ⟨_, _, fun q => absurd q hik, fun _ q => q, hst2, ⟨hr', trivial⟩, ih p _ σ2 h' nx' _ (fun _ => True) hp (hd.step hr) h3 hm2 (fun _ _ _ _ => trivial)⟩
            by_cases hik : memB i wr = false
            · have hb1 : (!(memB i wr)) = true := by rw [hik]; rfl
              rw [hb1] at hop
              unfold opP at hop
              cases hcv : isCallV o.op with
              | true =>
                rw [hcv] at hop
                simp only at hop
                have hE' : EnvOK { E with c := quiet E.c.P w } := ⟨hE.tab, hE.sps⟩
                refine stepC_ok (E := { E with c := quiet E.c.P w }) hE' (hm'.ro.at hw.1.ro) hop ?_ ?_
                · intro v h1 nx' w' x q hx hr' r
                  unfold oneNew at q
                  split at q
                  · rename_i t b n sz g ty rr
                    obtain ⟨rfl, hg, hfl, q⟩ := q
                    have hrw := hw.1.after hr'.fr
                    have H := hr'.holds t
                    rw [fd_cons, if_pos rfl] at H
                    obtain ⟨⟨cs, c1, c2, c3⟩, c4⟩ := H
                    have hb : w.heap.size ≤ b := by rcases c4 with c4 | c4; exact c4.elim; exact c4
                    have hra : Rel E.c ((t, .blk b n sz g ty) :: h) w' := hrw.add hg ⟨⟨cs, c1, c2, fun i k hi hk => let ⟨x, ex, rx⟩ := c3 i k hi hk; ⟨x, ex, flat_rel _ _ (hfl i k hi hk) rx⟩⟩, .inr (Nat.le_trans hw.1.fr.size hb)⟩ (fun t' b' n' sz' g' ty' e' => by have := hw.1.lt e'; omega)
                    refine key v _ nx' w' x q (Ext.new (by rw [hg]; rfl)) hra (vrel_mono (fun t' r' e' => ?_) _ _ r) (fun _ => hr'.fr)
                    rw [fd_cons] at e' ⊢
                    split
                    · rename_i ht; rw [if_pos ht] at e'; exact e'
                    · rename_i ht; rw [if_neg ht, fd_roH, Ent.toRo_rf] at e'; exact e'
                  · rename_i t sz g rr
                    obtain ⟨rfl, hg, q⟩ := q
                    have hrw := hw.1.after hr'.fr
                    obtain ⟨hra, hxa⟩ := hrw.ronil (nx := t) (sz := sz) (g := g) hg
                    refine key v _ nx' w' x q hxa hra (vrel_mono (fun t' r' e' => ?_) _ _ r) (fun _ => hr'.fr)
                    rw [fd_cons] at e' ⊢
                    split
                    · rename_i ht; rw [if_pos ht] at e'; exact e'
                    · rename_i ht; rw [if_neg ht, fd_roH, Ent.toRo_rf] at e'; exact e'
                  · exact q.elim
                · intro v h' nx' w' x q
                  exact q.elim
              | false =>
              rw [hcv] at hop
              obtain ⟨hfr, hst1⟩ := hop
              obtain ⟨v0, h0, nx0, w0, hrun, hr0, _, _⟩ := step_ok hE.tab (hm'.ro.at hw.1.ro) (o := o) hfr
              have hwp := stepC_ok hE (hm'.at hw.1) hst1 (next := fun a' w1 => ∃ v h' nx' x, (putS E.fn.ntmps o.dst v σ' fun σ' => vcPw E all wr K p σ' h' nx') ∧ Ext h h' ∧ Rel E.c h' w1 ∧ vrel h' v x ∧ a' = a.put o.dst x) (Q := fun _ _ _ => False)
                (fun v h' nx' w' x q hx hr' r => ⟨v, h', nx', x, q, hx, hr', r, rfl⟩) (fun v h' nx' w' x q => q.elim)
              unfold Oper.wp at hwp ⊢
              rcases hrun with ⟨y, hrun, _⟩ | ⟨hrun, _⟩
              · rw [hrun] at hwp ⊢
                obtain ⟨v, h', nx', x, q, hx, hr', r, e⟩ := hwp
                have := key v h' nx' w0 x q hx hr' r (fun _ => hr0.fr)
                rw [← e] at this
                exact this
              · rw [hrun] at hwp ⊢
                obtain ⟨v, h', nx', x, q, hx, hr', r, e⟩ := hwp
                have := key v h' nx' w0 x q hx hr' r (fun _ => hr0.fr)
                rw [← e] at this
                exact this
            · have hb1 : (!(memB i wr)) = false := by cases hq : memB i wr with | true => rfl | false => exact absurd hq hik
              rw [hb1] at hop
              refine stepC_ok hE (hm'.at hw.1) hop.2 ?_ ?_
              · intro v h' nx' w' x q hx hr' r
                exact key v h' nx' w' x q hx hr' r (fun q => absurd q hik)
              · intro v h' nx' w' x q hx hr' r
                exact hQv v h' nx' x a w' q hm'.calm hr' r
          · rw [if_neg (by rw [hwt]; simp)]
            obtain ⟨σ2, h3, hm2⟩ := putA_ok hm' (vrel_und h) h2
            exact ⟨_, _, fun _ v q => q, fun _ q => q, hst, hw, ih p _ σ2 h nx _ S hp (hd.step hr) h3 hm2 hS⟩

/-- A region whose order is open, by a plan of its orders; from number k on its operations wait for all those ahead, and may write. -/
theorem W_planw {E : Env} (hE : EnvOK E) {id : Nat} {all : List Oper} {k : List It} {σ : Sl} {h : Hp} (nx : Nat) (t : List Nat) (p : Plan) (hP : E.c.P.follows .mixedOrders = true) (hB : (Region.noSelect all.toArray && planBw all.toArray t all.length (Array.replicate all.length false) p) = true) (n : Nat)
    (hs : vcPw E all t (fun σ h nx => vc E n k σ h nx) p σ h nx) : W E (.code (.region id all.toArray true) :: k) σ h 0 := by
  intro a w hm
  simp only [Bool.and_eq_true] at hB
  obtain ⟨b1, b3⟩ := hB
  have hr := hm.rel.drew
  refine wp_region_any hP ?_
  let Q0 : Exit → Act → World → Prop := fun e a w => match e with | .normal => postK E k .normal a w | .panic c => a.defers = [] ∧ E.post (.panicked c) w | _ => False
  refine wpAny_monoQ (Q := Q0) (fun e a w q => by cases e <;> first | exact q | exact postK_panic q | exact q.elim) _ _ _ _ ?_
  have hd : Down .any all.toArray (Array.replicate all.length false) := fun j o hj => by
    exfalso
    rcases Nat.lt_or_ge j all.length with q | q
    · simp [q] at hj
    · simp [q] at hj
  have := vcP_okw hE (Q := Q0) b1 (fun σ h nx a hv hm w hr => vc_sound hE n k σ h nx hv a w (hm.at hr)) (fun c a d x w q => ⟨by cases d <;> exact q.1, q.2⟩) (fun v h' nx' x a w' q hc hr r => ⟨hc, .pan v, h', nx', q, hr, x, rfl, r⟩) all.length p _ σ h nx a (fun _ => True) b3 hd hs hm.mat (fun _ _ _ _ => trivial)
  have e : all.toArray.size = all.length := by simp
  rw [e]
  exact wpAny_ofTRw _ _ _ _ _ this _ ⟨hr, trivial⟩

end Go.Proofs.Ytgcnknhfphgfnaa.Sx
