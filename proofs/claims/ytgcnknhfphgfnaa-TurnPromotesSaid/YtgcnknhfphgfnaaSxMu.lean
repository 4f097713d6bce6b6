import Derived.Test.YtgcnknhfphgfnaaSxZ
set_option linter.unusedVariables false
set_option linter.unusedSimpArgs false
/-
  The engine: functions that write into rows that they are handed.
-/
namespace Go.Proofs.Ytgcnknhfphgfnaa.Sx
open Go

theorem fd_append : ∀ (A : Hp) (h : Hp) (t : Nat), (∀ p ∈ A, p.2 ≠ .gone) → (live A t ∧ fd t (A ++ h) = fd t A) ∨ (¬ live A t ∧ fd t (A ++ h) = fd t h)
  | [], h, t, _ => .inr ⟨by simp [live, fd], rfl⟩
  | (u, e) :: A, h, t, hg => by
    rw [List.cons_append, fd_cons]
    by_cases q : t = u
    · subst q
      left
      have he := hg _ (List.mem_cons_self ..)
      refine ⟨?_, by rw [if_pos rfl, fd_cons, if_pos rfl]⟩
      unfold live
      rw [fd_cons, if_pos rfl]
      cases e with
      | gone => exact absurd rfl he
      | blk => trivial
      | ro => trivial
      | mp => trivial
      | rmp => trivial
      | it => trivial
    · rw [if_neg q]
      rcases fd_append A h t (fun p hp => hg p (List.mem_cons_of_mem _ hp)) with ⟨h1, h2⟩ | ⟨h1, h2⟩
      · left
        refine ⟨?_, by rw [fd_cons, if_neg q]; exact h2⟩
        unfold live at h1 ⊢
        rw [fd_cons, if_neg q]
        exact h1
      · right
        refine ⟨?_, h2⟩
        unfold live at h1 ⊢
        rw [fd_cons, if_neg q]
        exact h1

def Out.rn (τ : Nat → Nat) (h' : Hp) : Out → Out → Prop
  | .ret v, .ret u => Sx.rn τ h' v u
  | .pan v, .pan u => Sx.rn τ h' v u
  | _, _ => False

/-- What is known behind a call that wrote: the rows G2 stand for what was known of them. -/
structure Back (τ : Nat → Nat) (G h1 : Hp) (o : Out) (τb : Nat → Nat) (G2 : Hp) (u : Out) : Prop where
  solid : ∀ p ∈ G2, p.2 ≠ .gone
  all : ∀ t b n sz g ty, fd t G = .blk b n sz g ty → live G2 (τ t)
  each : ∀ t, live G2 t → ∃ t' b n sz g0 g1 g2 ty, t = τ t' ∧ τb t = t' ∧ fd t' G = .blk b n sz g0 ty ∧ fd t' h1 = .blk b n sz g1 ty ∧ fd t G2 = .blk b n sz g2 ty ∧ ∀ i k, i < n → k < sz → Sx.rn τb G2 (g1 i k) (g2 i k)
  out : Out.rn τb G2 o u

theorem enterW {E : Env} (hE : EnvOK E) {f : Nat} (hf : E.c.P.funcs[f]? = some E.fn) {cd : Code} (hb : E.fn.body = some cd) {vs : List V} {xs : List Value} {h : Hp} {nx : Nat} {w : World} (hr : vrelL h vs xs) (hrel : Rel E.c h w)
    (hn : vs.length ≤ E.fn.ntmps) (hv : W E [.code cd] (argsS vs 0) h nx) : Calls E.c.P f xs.toArray w E.post := enter hE hf hb hr hrel hn 0 (nx := nx) hv
theorem specOK_mut {P : Program} {f : Nat} {fn : Func} {cd : Code} {T : Tab} {SP : SpT} (hf : P.funcs[f]? = some fn) (hx : (fn.name == "runtime.NumGoroutine") = false) (hb : fn.body = some cd) (hT : TabOK P T) (hS : ∀ p ∈ SP, SpecOK P p.1 p.2) (s : Spec)
    (hs : ∀ args h nx K, s args h nx K → ∃ (τ : Nat → Nat) (G : Hp) (args' : List V), (∀ t b l, fd t G ≠ .mp b l) ∧ (nodupB ((G.map (·.1)).map τ) && noIt G) = true ∧ wkH τ h G G ∧ rnL τ G args args' ∧ args'.length ≤ fn.ntmps ∧ ∃ post : Out → Hp → Prop, (∀ o h1, post o h1 → ∃ τb G2 u, Back τ G h1 o τb G2 u ∧ K u (G2 ++ h) nx) ∧ ∀ c, c.P = P → W ⟨c, fn, T, SP, fun o h _ => post o h⟩ [.code cd] (argsS args' 0) G 0) : SpecOK P f s := by
  intro c hc args h nx K hk w xs hr hv
  obtain ⟨τ, G, args', hno, hndi, hwk, hra, hlen, post, hpost, hvc⟩ := hs _ _ _ _ hk
  obtain ⟨hnd, hni⟩ := Bool.and_eq_true_iff.1 hndi
  subst hc
  have hrG : Rel c G w := wk_rel hnd hwk hr
  have hxG : ∀ t', live G t' → (fd t' G).rf = (fd (τ t') h).rf := fun t' hl => wkE_rf (wkH_at hwk _ _ (fd_mem hl)) hl
  -- the rows that may be written
  let own : Nat → Prop := fun b => ∃ t n sz g ty, fd t G = .blk b n sz g ty
  have hown : ∀ b, own b → c.own b ∨ c.w0.heap.size ≤ b := by
    rintro b ⟨t, n, sz, g, ty, e⟩
    have := hrG.holds t
    rw [e] at this
    exact this.2
  have hr' : Rel ⟨c.P, w, own⟩ G w := by
    refine ⟨⟨rfl, rfl, rfl, Nat.le_refl _, fun _ _ _ => rfl⟩, fun t => ?_, hrG.apart, fun p hp => ⟨hr.tabs.at hr.fr p hp, fun g hg ho => ?_⟩⟩
    · have H := hrG.holds t
      cases e : fd t G with
      | blk b n sz g ty => rw [e] at H; exact ⟨H.1, .inl ⟨t, n, sz, g, ty, e⟩⟩
      | ro base n sz g =>
        rw [e] at H
        intro i k hi hk
        obtain ⟨ad, x, e1, e2, e3, e4⟩ := H i k hi hk
        obtain ⟨ad', x', e1', e2', e3'⟩ := Ent.ro_cell hrG.fr H hi hk
        rw [e1] at e1'
        injection e1' with e1'
        subst e1'
        refine ⟨ad, x', e1, e2', e3', fun ho => ?_⟩
        rcases hown _ ho with q | q
        · exact e4 q
        · have hlt := World.block_lt_of_cell? _ _ e2
          have hbk : (ad.add (i * sz + k)).block = ad.block := by unfold Addr.add; split <;> rfl
          rw [hbk] at hlt
          omega
      | mp b l => exact absurd e (hno t b l)
      | it => exact (noIt_fd hni e).elim
      | rmp b l =>
        rw [e] at H
        obtain ⟨⟨es, ck, e1, e2⟩, e3⟩ := H
        have hlt := (Array.getElem?_eq_some_iff.1 e1).1
        refine ⟨⟨es, ck, (hrG.fr.block b hlt e3).trans e1, e2⟩, fun ho => ?_⟩
        rcases hown _ ho with q | q
        · exact e3 q
        · omega
      | gone => trivial
    · have h1 := hr.tabs p hp
      rcases hown _ ho with q | q
      · exact h1.2 g hg q
      · have h2 := h1.1
        unfold World.var? at h2
        rw [hg] at h2
        simp only [Option.bind_some] at h2
        rw [Array.getElem?_eq_none q] at h2
        cases h2
  have hv' := rnL_rel hxG _ _ _ hra hv
  have hE : EnvOK ⟨⟨c.P, w, own⟩, fn, T, SP, fun o h _ => post o h⟩ := ⟨hT, hS⟩
  refine .inl ⟨callFunc_enter hf hx hb _ w, ?_⟩
  refine (enterW hE (f := f) hf hb hv' hr' hlen (hvc _ rfl)).mono ?_
  rintro e w' ⟨o, h1, nx1, hp, hr1, hor⟩
  obtain ⟨τb, G2, u, hB, hK⟩ := hpost o h1 hp
  -- what each tag of G2 stands for in h
  have inh : ∀ t, live G2 t → ∃ t' b n sz g0 g1 g2 gh ty, τb t = t' ∧ fd t' G = .blk b n sz g0 ty ∧ fd t' h1 = .blk b n sz g1 ty ∧ fd t G2 = .blk b n sz g2 ty ∧ fd t h = .blk b n sz gh ty ∧ ∀ i k, i < n → k < sz → Sx.rn τb G2 (g1 i k) (g2 i k) := by
    intro t hl
    obtain ⟨t', b, n, sz, g0, g1, g2, ty, rfl, e0, e1, e2, e3, e4⟩ := hB.each t hl
    have hlG : live G t' := by unfold live; rw [e1]; trivial
    have h5 := wkH_at hwk _ _ (fd_mem hlG)
    rw [e1] at h5
    cases e6 : fd (τ t') h with
    | blk b' n' sz' g' ty' =>
      rw [e6] at h5
      obtain ⟨rfl, rfl, rfl, rfl, _⟩ := h5
      exact ⟨t', _, _, _, g0, g1, g2, g', _, e0, e1, e2, e3, rfl, e4⟩
    | ro => rw [e6] at h5; exact h5.elim
    | mp => rw [e6] at h5; exact h5.elim
    | rmp => rw [e6] at h5; exact h5.elim
    | it => rw [e6] at h5; exact h5.elim
    | gone => rw [e6] at h5; exact h5.elim
  have hx2 : ∀ t, live G2 t → (fd t G2).rf = (fd (τb t) h1).rf := by
    intro t hl
    obtain ⟨t', b, n, sz, g0, g1, g2, gh, ty, rfl, e1, e2, e3, e4, _⟩ := inh t hl
    rw [e3, e2]
    rfl
  have hm2 : ∀ t r, (fd t G2).rf = some r → (fd t (G2 ++ h)).rf = some r := by
    intro t r e
    rcases fd_append G2 h t hB.solid with ⟨_, q⟩ | ⟨q, _⟩
    · rw [q]; exact e
    · exfalso
      unfold live at q
      cases e5 : fd t G2 with
      | gone => rw [e5] at e; cases e
      | blk => rw [e5] at q; exact q trivial
      | ro => rw [e5] at q; exact q trivial
      | mp => rw [e5] at q; exact q trivial
      | rmp => rw [e5] at q; exact q trivial
      | it => rw [e5] at q; exact q trivial
  have hext : Ext h (G2 ++ h) := by
    intro t r e
    rcases fd_append G2 h t hB.solid with ⟨hl, q⟩ | ⟨_, q⟩
    · obtain ⟨t', b, n, sz, g0, g1, g2, gh, ty, _, _, _, e3, e4, _⟩ := inh t hl
      rw [q, e3]
      rw [e4] at e
      exact e
    · rw [q]; exact e
  have hnot : ∀ t b, ¬ live G2 t → (fd t h).at = some b → ¬ own b := by
    rintro t b hl e ⟨t2, n2, sz2, g2, ty2, e2⟩
    have hl2 := hB.all _ _ _ _ _ _ e2
    obtain ⟨t', b', n', sz', g0, g1, g3, gh, ty', _, _, _, _, e4, _⟩ := inh _ hl2
    have hlG : live G t2 := by unfold live; rw [e2]; trivial
    have h5 := wkH_at hwk _ _ (fd_mem hlG)
    rw [e4, e2] at h5
    obtain ⟨rfl, _⟩ := h5
    have hne : t ≠ τ t2 := by rintro rfl; exact hl hl2
    exact Ent.apart_at (hr.apart _ _ hne) e (by rw [e4]; rfl) rfl
  have hrel : Rel c (G2 ++ h) w' := by
    refine ⟨⟨hr1.fr.os.trans hr.fr.os, hr1.fr.tape.trans hr.fr.tape, hr1.fr.output.trans hr.fr.output, Nat.le_trans hr.fr.size hr1.fr.size, fun k hk ho => ?_⟩, fun t => ?_, fun t t' hne => ?_, hr.tabs⟩
    · refine (hr1.fr.block k (Nat.lt_of_lt_of_le hk hr.fr.size) fun q => ?_).trans (hr.fr.block k hk ho)
      rcases hown _ q with q | q
      · exact ho q
      · omega
    · rcases fd_append G2 h t hB.solid with ⟨hl, q⟩ | ⟨hl, q⟩
      · obtain ⟨t', b, n, sz, g0, g1, g2, gh, ty, rfl, e1, e2, e3, e4, e5⟩ := inh t hl
        rw [q, e3]
        have H := hr1.holds (τb t)
        rw [e2] at H
        obtain ⟨⟨cs, c1, c2, c3⟩, _⟩ := H
        have H0 := hr.holds t
        rw [e4] at H0
        refine ⟨⟨cs, c1, c2, fun i k hi hk => ?_⟩, H0.2⟩
        obtain ⟨x, ex, rx⟩ := c3 i k hi hk
        exact ⟨x, ex, vrel_mono hm2 _ _ (rn_rel hx2 _ _ _ (e5 i k hi hk) rx)⟩
      · rw [q]
        have H0 := hr.holds t
        refine Ent.holds_heap hext (fun b e => ?_) H0
        exact hr1.fr.block b (hr.lta e) (hnot t b hl e)
    · have same : ∀ t, (fd t (G2 ++ h)).at = (fd t h).at := by
        intro t
        rcases fd_append G2 h t hB.solid with ⟨hl, q⟩ | ⟨_, q⟩
        · obtain ⟨t', b, n, sz, g0, g1, g2, gh, ty, _, _, _, e3, e4, _⟩ := inh t hl
          rw [q, e3, e4]; rfl
        · rw [q]
      exact Ent.apart_of fun b b' q1 q2 => Ent.apart_at (hr.apart t t' hne) ((same t).symm.trans q1) ((same t').symm.trans q2)
  refine ⟨u, G2 ++ h, nx, hK, hrel, hext, ?_⟩
  have ho := hB.out
  cases o with
  | ret v =>
    cases u with
    | ret y =>
      obtain ⟨x, ex, rx⟩ := hor
      exact ⟨x, ex, vrel_mono hm2 _ _ (rn_rel hx2 _ _ _ ho rx)⟩
    | pan y => exact ho.elim
  | pan v =>
    cases u with
    | pan y =>
      obtain ⟨x, ex, rx⟩ := hor
      exact ⟨x, ex, vrel_mono hm2 _ _ (rn_rel hx2 _ _ _ ho rx)⟩
    | ret y => exact ho.elim


/-! ### A function walked piece by piece -/
theorem W_piece {E : Env} {x : Code} {k : List It} {σ : Sl} {h : Hp} {nx : Nat} (J : Sl → Hp → Nat → Prop) (h1 : W E (.code x :: .fin J :: k) σ h nx) (h2 : ∀ σ' h' nx', J σ' h' nx' → W E k σ' h' nx') : W E (.code x :: k) σ h nx := by
  intro a w hm
  refine wp_mono (h1 a w hm) ?_
  intro e a' w' hq
  cases e with
  | normal =>
    obtain ⟨σ', h', nx', hJ, hm'⟩ := hq
    exact h2 _ _ _ hJ a' w' hm'
  | _ => exact hq
/-- A piece leaves what is known as told: go on from there. -/
theorem W_to {E : Env} {x : Code} {k : List It} {σ : Sl} {h : Hp} {nx : Nat} (σ' : Sl) (h' : Hp) (nx' : Nat) (h1 : W E (.code x :: .fin (fun σ1 h1 _ => ∃ τ, wk τ σ1 h1 σ' h') :: k) σ h nx) (h2 : W E k σ' h' nx') : W E (.code x :: k) σ h nx :=
  W_piece _ h1 fun _ _ _ hJ => W_weak (nx' := nx') hJ.choose hJ.choose_spec h2
theorem W_seq {E : Env} {x y : Code} {k : List It} {σ : Sl} {h : Hp} {nx : Nat} (h1 : W E (.code x :: .code y :: k) σ h nx) : W E (.code (.seq x y) :: k) σ h nx := by
  intro a w hm
  have := h1 a w hm
  show (Code.seq x y).wp E.c.P (postK E k) a w
  refine wp_seq ?_
  rw [then_eq]
  exact this
theorem W_nx {E : Env} {k : List It} {σ : Sl} {h : Hp} {nx nx' : Nat} (h1 : W E k σ h nx) : W E k σ h nx' := h1

end Go.Proofs.Ytgcnknhfphgfnaa.Sx
