import Derived.Test.YtgcnknhfphgfnaaSxMu
set_option linter.unusedVariables false
set_option linter.unusedSimpArgs false
/-
  The engine: functions that write into rows that they are handed, read others, and make new ones; lists of integers.
-/
namespace Go.Proofs.Ytgcnknhfphgfnaa.Sx
open Go

theorem fd_app : ∀ (A : Hp) (h : Hp) (t : Nat), (memB t (A.map (·.1)) = true ∧ fd t (A ++ h) = fd t A) ∨ (memB t (A.map (·.1)) = false ∧ fd t (A ++ h) = fd t h ∧ fd t A = .gone)
  | [], h, t => .inr ⟨rfl, rfl, rfl⟩
  | (u, e) :: A, h, t => by
    rw [List.cons_append, fd_cons, fd_cons, List.map_cons]
    unfold memB
    by_cases q : t = u
    · subst q
      left
      simp
    · rw [if_neg q, if_neg q, beq_ne q]
      exact fd_app A h t


mutual
theorem flat_rn {τ : Nat → Nat} {h' : Hp} : ∀ v : V, flat v → rn τ h' v v
  | .bool _, _ => rfl
  | .int _ _, _ => ⟨rfl, rfl⟩
  | .flt _ _, _ => ⟨rfl, rfl⟩
  | .str _, _ => rfl
  | .ptr .., h => h.elim
  | .nilp, _ => trivial
  | .slice .., h => h.elim
  | .nils, _ => trivial
  | .map _, h => h.elim
  | .nilm, _ => trivial
  | .fn _ a b, h => ⟨rfl, flatL_rn a h.1, flatL_rn b h.2⟩
  | .nilf, _ => trivial
  | .iface _ v, h => ⟨rfl, flat_rn v h⟩
  | .nili, _ => trivial
  | .agg l, h => flatL_rn l h
  | .tup l, h => flatL_rn l h
  | .raw _, _ => rfl
theorem flatL_rn {τ : Nat → Nat} {h' : Hp} : ∀ l : List V, flatL l → rnL τ h' l l
  | [], _ => trivial
  | v :: l, h => ⟨flat_rn v h.1, flatL_rn l h.2⟩
end

/-- What stands for v in h1 stands for u in h2. -/
def tell (h1 h2 : Hp) (v u : V) : Prop := ∀ x, vrel h1 v x → vrel h2 u x
theorem tell_flat {h1 h2 : Hp} {v : V} (hf : flat v) : tell h1 h2 v v := fun x r => flat_rel v x hf r
theorem tell_slice {h1 h2 : Hp} {t t' i l c : Nat} (e : (fd t' h2).rf = (fd t h1).rf) : tell h1 h2 (.slice t i l c) (.slice t' i l c) := by
  rintro x ⟨base, sz, e1, e2, e3⟩
  exact ⟨base, sz, e.trans e1, e2, e3⟩
theorem tell_ptr {h1 h2 : Hp} {t t' i c : Nat} (e : (fd t' h2).rf = (fd t h1).rf) : tell h1 h2 (.ptr t i c) (.ptr t' i c) := by
  rintro x ⟨base, sz, e1, e2⟩
  exact ⟨base, sz, e.trans e1, e2⟩
theorem tell_nil {h1 h2 : Hp} {t n sz : Nat} {g : Nat → Nat → V} (e : fd t h2 = .ro none n sz g) : tell h1 h2 .nils (.slice t 0 0 0) := by
  rintro x rfl
  exact ⟨none, sz, by rw [e]; rfl, rfl, .inr ⟨rfl, rfl⟩⟩

/-- How what is known behind a call (G2 ++ h) comes out of what its walk leaves (h1). -/
structure Made (τ : Nat → Nat) (G h h1 : Hp) (o : Out) (τb : Nat → Nat) (G2 : Hp) (u : Out) : Prop where
  each : ∀ t, memB t (G2.map (·.1)) = true → (fd t h = .gone ∧ (fd t G2 = .gone ∨ ∃ sz g, fd t G2 = .ro none 0 sz g)) ∨
    (∃ t' b n sz g0 g1 g2 ty, t = τ t' ∧ τb t = t' ∧ fd t' G = .blk b n sz g0 ty ∧ fd t' h1 = .blk b n sz g1 ty ∧ fd t G2 = .blk b n sz g2 ty ∧ ∀ i k, i < n → k < sz → tell h1 (G2 ++ h) (g1 i k) (g2 i k)) ∨
    (∃ b n sz g1 g2 ty, fd t h = .gone ∧ fd (τb t) h1 = .blk b n sz g1 ty ∧ fd t G2 = .blk b n sz g2 ty ∧ (∀ t' b' n' sz' g' ty', fd t' G = .blk b' n' sz' g' ty' → τb t ≠ t') ∧ ∀ i k, i < n → k < sz → tell h1 (G2 ++ h) (g1 i k) (g2 i k))
  all : ∀ t b n sz g ty, fd t G = .blk b n sz g ty → memB (τ t) (G2.map (·.1)) = true ∧ ∃ n' g', fd t h1 = .blk b n' sz g' ty
  inj : ∀ t t', memB t (G2.map (·.1)) = true → memB t' (G2.map (·.1)) = true → t ≠ t' → τb t ≠ τb t'
  out : ∀ e, OutRel h1 o e → OutRel (G2 ++ h) u e

/-- The same, where rows that are read may be told again. How what is known behind a call (G2 ++ h) comes out of what its walk leaves (h1). -/
structure Made4 (τ : Nat → Nat) (G h h1 : Hp) (o : Out) (τb : Nat → Nat) (G2 : Hp) (u : Out) : Prop where
  each : ∀ t, memB t (G2.map (·.1)) = true → (fd t h = .gone ∧ (fd t G2 = .gone ∨ ∃ sz g, fd t G2 = .ro none 0 sz g)) ∨
    (∃ t' b n sz g0 g1 g2 ty, t = τ t' ∧ τb t = t' ∧ fd t' G = .blk b n sz g0 ty ∧ fd t' h1 = .blk b n sz g1 ty ∧ fd t G2 = .blk b n sz g2 ty ∧ ∀ i k, i < n → k < sz → tell h1 (G2 ++ h) (g1 i k) (g2 i k)) ∨
    (∃ b n sz g1 g2 ty, fd t h = .gone ∧ fd (τb t) h1 = .blk b n sz g1 ty ∧ fd t G2 = .blk b n sz g2 ty ∧ (∀ t' b' n' sz' g' ty', fd t' G = .blk b' n' sz' g' ty' → τb t ≠ t') ∧ ∀ i k, i < n → k < sz → tell h1 (G2 ++ h) (g1 i k) (g2 i k)) ∨
    (fd t G2 = fd t h ∧ ∃ b n sz g, fd t h = .ro b n sz g)
  all : ∀ t b n sz g ty, fd t G = .blk b n sz g ty → memB (τ t) (G2.map (·.1)) = true ∧ ∃ n' g', fd t h1 = .blk b n' sz g' ty
  inj : ∀ t t', memB t (G2.map (·.1)) = true → memB t' (G2.map (·.1)) = true → t ≠ t' → τb t ≠ τb t'
  out : ∀ e, OutRel h1 o e → OutRel (G2 ++ h) u e

/-- What a call is handed, told anew: rows that may be written, and rows that are read. -/
def wkM (τ : Nat → Nat) (h G : Hp) : Prop := ∀ p ∈ G, wkE τ G (fd (τ p.1) h) p.2 ∨ wkE τ G (fd (τ p.1) (roH h)) p.2

theorem rf_ro {h : Hp} {t : Nat} : (fd t (roH h)).rf = (fd t h).rf := by rw [fd_roH, Ent.toRo_rf]

/-- How what is known behind a call (G2 ++ h) comes out of what its walk leaves (h1): maps too. -/
structure Made5 (τ : Nat → Nat) (G h h1 : Hp) (o : Out) (τb : Nat → Nat) (G2 : Hp) (u : Out) : Prop where
  each : ∀ t, memB t (G2.map (·.1)) = true → (fd t h = .gone ∧ (fd t G2 = .gone ∨ ∃ sz g, fd t G2 = .ro none 0 sz g)) ∨
    (∃ t' b n sz g0 g1 g2 ty, t = τ t' ∧ τb t = t' ∧ fd t' G = .blk b n sz g0 ty ∧ fd t' h1 = .blk b n sz g1 ty ∧ fd t G2 = .blk b n sz g2 ty ∧ ∀ i k, i < n → k < sz → tell h1 (G2 ++ h) (g1 i k) (g2 i k)) ∨
    (∃ b n sz g1 g2 ty, fd t h = .gone ∧ fd (τb t) h1 = .blk b n sz g1 ty ∧ fd t G2 = .blk b n sz g2 ty ∧ (∀ t' b', (fd t' G).at = some b' → τb t ≠ t') ∧ ∀ i k, i < n → k < sz → tell h1 (G2 ++ h) (g1 i k) (g2 i k)) ∨
    (fd t G2 = fd t h ∧ (fd t h).at = none) ∨
    (∃ t' b l0 l1, t = τ t' ∧ τb t = t' ∧ fd t' G = .mp b l0 ∧ fd t' h1 = .mp b l1 ∧ fd t G2 = .mp b l1) ∨
    (∃ b l, fd t h = .gone ∧ fd (τb t) h1 = .mp b l ∧ fd t G2 = .mp b l ∧ ∀ t' b', (fd t' G).at = some b' → τb t ≠ t')
  all : ∀ t b, (fd t G).at = some b → memB (τ t) (G2.map (·.1)) = true ∧ (fd t h1).at = some b
  inj : ∀ t t', memB t (G2.map (·.1)) = true → memB t' (G2.map (·.1)) = true → t ≠ t' → τb t ≠ τb t'
  out : ∀ e, OutRel h1 o e → OutRel (G2 ++ h) u e
theorem Rel.own_at {c : Cx} {h : Hp} {w : World} (hr : Rel c h w) {t b : Nat} (e : (fd t h).at = some b) : c.own b ∨ c.w0.heap.size ≤ b := by
  have H := hr.holds t
  cases q : fd t h with
  | blk b' n sz g ty => rw [q] at e H; cases e; exact H.2
  | mp b' l => rw [q] at e H; cases e; exact H.2
  | ro => rw [q] at e; cases e
  | rmp => rw [q] at e; cases e
  | it b' mb lf cu l => rw [q] at e H; cases e; exact H.2.1
  | gone => rw [q] at e; cases e
theorem live_at {h : Hp} {t b : Nat} (e : (fd t h).at = some b) : live h t := by
  unfold live
  cases q : fd t h <;> first | trivial | (rw [q] at e; cases e)
theorem roH_at {h : Hp} {t : Nat} : (fd t (roH h)).at = none := by
  rw [fd_roH]
  cases fd t h <;> rfl

theorem specOK_gen5 {P : Program} {f : Nat} {fn : Func} {cd : Code} {T : Tab} {SP : SpT} (hf : P.funcs[f]? = some fn) (hx : (fn.name == "runtime.NumGoroutine") = false) (hb : fn.body = some cd) (hT : TabOK P T) (hS : ∀ p ∈ SP, SpecOK P p.1 p.2) (s : Spec)
    (hs : ∀ args h nx K, s args h nx K → ∃ (τ : Nat → Nat) (G : Hp) (args' : List V), (nodupB ((G.map (·.1)).map τ) && noIt G) = true ∧ wkM τ h G ∧ rnL τ G args args' ∧ args'.length ≤ fn.ntmps ∧ ∃ post : Out → Hp → Prop, (∀ o h1, post o h1 → ∃ τb G2 u nx', Made5 τ G h h1 o τb G2 u ∧ K u (G2 ++ h) nx') ∧ ∀ c, c.P = P → W ⟨c, fn, T, SP, fun o h _ => post o h⟩ [.code cd] (argsS args' 0) G 0) : SpecOK P f s := by
  intro c hc args h nx K hk w xs hr hv
  obtain ⟨τ, G, args', hndi, hwk, hra, hlen, post, hpost, hvc⟩ := hs _ _ _ _ hk
  obtain ⟨hnd, hni⟩ := Bool.and_eq_true_iff.1 hndi
  subst hc
  have at' : ∀ t, live G t → wkE τ G (fd (τ t) h) (fd t G) ∨ wkE τ G (fd (τ t) (roH h)) (fd t G) := fun t hl => hwk _ (fd_mem hl)
  have hxG : ∀ t', live G t' → (fd t' G).rf = (fd (τ t') h).rf := fun t' hl => by
    rcases at' t' hl with q | q
    · exact wkE_rf q hl
    · exact (wkE_rf q hl).trans rf_ro
  have hxR : ∀ t', live G t' → (fd t' G).rf = (fd (τ t') (roH h)).rf := fun t' hl => (hxG t' hl).trans rf_ro.symm
  have inj : ∀ t t', live G t → live G t' → t ≠ t' → τ t ≠ τ t' := fun t t' hl hl' hne => inj_of_nodup (nodupB_iff hnd) t t' (List.mem_map_of_mem (f := (·.1)) (fd_mem hl)) (List.mem_map_of_mem (f := (·.1)) (fd_mem hl')) hne
  -- what may be written
  have wkG : ∀ t b, (fd t G).at = some b → wkE τ G (fd (τ t) h) (fd t G) := fun t b e => by
    rcases at' t (live_at e) with q | q
    · exact q
    · have := wkE_at q e; rw [roH_at] at this; cases this
  have atG : ∀ t b, (fd t G).at = some b → (fd (τ t) h).at = some b := fun t b e => wkE_at (wkG t b e) e
  have blkG : ∀ t b n sz g ty, fd t G = .blk b n sz g ty → ∃ gh, fd (τ t) h = .blk b n sz gh ty ∧ ∀ i k, i < n → k < sz → Sx.rn τ G (gh i k) (g i k) := by
    intro t b n sz g ty e
    have q := wkG t b (by rw [e]; rfl)
    rw [e] at q
    cases e2 : fd (τ t) h with
    | blk b2 n2 sz2 g2 ty2 =>
      rw [e2] at q
      obtain ⟨rfl, rfl, rfl, rfl, q⟩ := q
      exact ⟨g2, rfl, q⟩
    | ro => rw [e2] at q; exact q.elim
    | mp => rw [e2] at q; exact q.elim
    | rmp => rw [e2] at q; exact q.elim
    | it => rw [e2] at q; exact q.elim
    | gone => rw [e2] at q; exact q.elim
  have mpG : ∀ t b l, fd t G = .mp b l → fd (τ t) h = .mp b l := by
    intro t b l e
    have q := wkG t b (by rw [e]; rfl)
    rw [e] at q
    cases e2 : fd (τ t) h with
    | mp b2 l2 => rw [e2] at q; obtain ⟨rfl, rfl⟩ := q; rfl
    | ro => rw [e2] at q; exact q.elim
    | blk => rw [e2] at q; exact q.elim
    | rmp => rw [e2] at q; exact q.elim
    | it => rw [e2] at q; exact q.elim
    | gone => rw [e2] at q; exact q.elim
  let own : Nat → Prop := fun b => ∃ t, (fd t G).at = some b
  have hown : ∀ b, own b → c.own b ∨ c.w0.heap.size ≤ b := fun b ⟨t, e⟩ => hr.own_at (atG t b e)
  have hr' : Rel ⟨c.P, w, own⟩ G w := by
    refine ⟨⟨rfl, rfl, rfl, Nat.le_refl _, fun _ _ _ => rfl⟩, fun t => ?_, fun t t' hne => ?_, fun p hp => ⟨hr.tabs.at hr.fr p hp, fun g hg ho => ?_⟩⟩
    · cases e : fd t G with
      | gone => trivial
      | blk b n sz g ty =>
        obtain ⟨gh, e2, hrn⟩ := blkG _ _ _ _ _ _ e
        have H := hr.holds (τ t)
        rw [e2] at H
        obtain ⟨⟨cs, c1, c2, c3⟩, _⟩ := H
        exact ⟨⟨cs, c1, c2, fun i k hi hk => let ⟨x, ex, rx⟩ := c3 i k hi hk; ⟨x, ex, rn_rel hxG _ _ _ (hrn i k hi hk) rx⟩⟩, .inl ⟨t, by rw [e]; rfl⟩⟩
      | mp b l =>
        have H := hr.holds (τ t)
        rw [mpG _ _ _ e] at H
        exact ⟨H.1, .inl ⟨t, by rw [e]; rfl⟩⟩
      | it b mb l lf cu => exact (noIt_fd hni e).elim
      | rmp b l =>
        have hl : live G t := by unfold live; rw [e]; trivial
        have hh : fd (τ t) h = .mp b l ∨ fd (τ t) h = .rmp b l := by
          rcases at' t hl with q | q
          · rw [e] at q
            cases e2 : fd (τ t) h with
            | rmp b2 l2 => rw [e2] at q; obtain ⟨rfl, rfl⟩ := q; exact .inr rfl
            | mp => rw [e2] at q; exact q.elim
            | ro => rw [e2] at q; exact q.elim
            | blk => rw [e2] at q; exact q.elim
            | it => rw [e2] at q; exact q.elim
            | gone => rw [e2] at q; exact q.elim
          · rw [e, fd_roH] at q
            cases e2 : fd (τ t) h with
            | rmp b2 l2 => rw [e2] at q; obtain ⟨rfl, rfl⟩ := q; exact .inr rfl
            | mp b2 l2 => rw [e2] at q; obtain ⟨rfl, rfl⟩ := q; exact .inl rfl
            | ro => rw [e2] at q; exact q.elim
            | blk => rw [e2] at q; exact q.elim
            | it => rw [e2] at q; exact q.elim
            | gone => rw [e2] at q; exact q.elim
        have H := hr.holds (τ t)
        rcases hh with q | q
        · rw [q] at H
          refine ⟨H.1, ?_⟩
          rintro ⟨t2, e6⟩
          have hne : t ≠ t2 := by rintro rfl; rw [e] at e6; cases e6
          exact Ent.apart_at (hr.apart _ _ (inj _ _ hl (live_at e6) hne)) (by rw [q]; rfl) (atG _ _ e6) rfl
        · rw [q] at H
          obtain ⟨⟨es, ck, e1, e2⟩, e3⟩ := H
          have hlt := (Array.getElem?_eq_some_iff.1 e1).1
          refine ⟨⟨es, ck, (hr.fr.block b hlt e3).trans e1, e2⟩, fun ho => ?_⟩
          rcases hown _ ho with q | q
          · exact e3 q
          · omega
      | ro base n sz g =>
        have hl : live G t := by unfold live; rw [e]; trivial
        have q : wkE τ G (fd (τ t) (roH h)) (.ro base n sz g) := by
          rcases at' t hl with q | q
          · rw [e] at q
            rw [fd_roH]
            cases e2 : fd (τ t) h with
            | ro => rw [e2] at q; exact q
            | blk => rw [e2] at q; exact q.elim
            | mp => rw [e2] at q; exact q.elim
            | rmp => rw [e2] at q; exact q.elim
            | it => rw [e2] at q; exact q.elim
            | gone => rw [e2] at q; exact q.elim
          · rw [e] at q; exact q
        have H := hr.ro.holds (τ t)
        cases e2 : fd (τ t) (roH h) with
        | blk => rw [e2] at q; exact q.elim
        | mp => rw [e2] at q; exact q.elim
        | rmp => rw [e2] at q; exact q.elim
        | it => rw [e2] at q; exact q.elim
        | gone => rw [e2] at q; exact q.elim
        | ro base2 n2 sz2 g2 =>
          rw [e2] at q H
          obtain ⟨rfl, rfl, rfl, q⟩ := q
          intro i k hi hk
          obtain ⟨ad, x, e3, e4, e5, _⟩ := H i k hi hk
          refine ⟨ad, x, e3, e4, rn_rel hxR _ _ _ (q i k hi hk) e5, ?_⟩
          rintro ⟨t2, e6⟩
          have hne : t ≠ t2 := by rintro rfl; rw [e] at e6; cases e6
          have hd := inj _ _ hl (live_at e6) hne
          cases e8 : fd (τ t) h with
          | gone => rw [fd_roH, e8] at e2; cases e2
          | mp => rw [fd_roH, e8] at e2; cases e2
          | rmp => rw [fd_roH, e8] at e2; cases e2
          | it => rw [fd_roH, e8] at e2; injection e2 with q1 q2 q3 q4; subst q2; omega
          | blk b4 n4 sz4 g4 ty4 =>
            rw [fd_roH, e8] at e2
            injection e2 with e2
            rw [← e2] at e3
            injection e3 with e3
            exact Ent.apart_at (hr.apart _ _ hd) (by rw [e8]; rfl) (atG _ _ e6) (by rw [← e3])
          | ro b4 n4 sz4 g4 =>
            have H0 := hr.holds (τ t)
            rw [e8] at H0
            rw [fd_roH, e8] at e2
            injection e2 with q1 q2 q3 q4
            subst q1 q2 q3 q4
            obtain ⟨ad', x', r1, r2, r3, r4⟩ := H0 i k hi hk
            rw [e3] at r1
            injection r1 with r1
            subst r1
            rcases hown _ ⟨t2, e6⟩ with q | q
            · exact r4 q
            · have hlt := World.block_lt_of_cell? _ _ r2
              have hbk : ∀ j, (ad.add j).block = ad.block := fun j => by unfold Addr.add; split <;> rfl
              rw [hbk] at hlt
              omega
    · exact Ent.apart_of fun b b' q1 q2 => Ent.apart_at (hr.apart _ _ (inj _ _ (live_at q1) (live_at q2) hne)) (atG _ _ q1) (atG _ _ q2)
    · have h1 := hr.tabs p hp
      rcases hown _ ho with q | q
      · exact h1.2 g hg q
      · have h2 := h1.1
        unfold World.var? at h2
        rw [hg] at h2
        simp only [Option.bind_some] at h2
        rw [Array.getElem?_eq_none q] at h2
        cases h2
  have hv' := rnL_rel hxG _ _ _ hra hv
  have hE : EnvOK ⟨⟨c.P, w, own⟩, fn, T, SP, fun o h _ => post o h⟩ := ⟨hT, hS⟩
  refine .inl ⟨callFunc_enter hf hx hb _ w, ?_⟩
  refine (enterW hE (f := f) hf hb hv' hr' hlen (hvc _ rfl)).mono ?_
  rintro e w' ⟨o, h1, nx1, hp, hr1, hor⟩
  obtain ⟨τb, G2, u, nx', hB, hK⟩ := hpost o h1 hp
  have hlt : ∀ b, own b → b < w.heap.size := fun b ⟨t, e⟩ => hr.lta (atG t b e)
  -- a new block
  have hnew : ∀ t b, (fd t h1).at = some b → (∀ t' b', (fd t' G).at = some b' → t ≠ t') → w.heap.size ≤ b := by
    intro t b e hne
    rcases hr1.own_at e with ⟨t2, e2⟩ | q
    · exact absurd rfl (Ent.apart_at (hr1.apart t t2 (hne _ _ e2)) e (hB.all _ _ e2).2)
    · exact q
  have hext : Ext h (G2 ++ h) := by
    intro t r e
    rcases fd_app G2 h t with ⟨hm, q⟩ | ⟨_, q, _⟩
    · rw [q]
      rcases hB.each t hm with ⟨z, _⟩ | ⟨t', b, n, sz, g0, g1, g2, ty, rfl, _, e1, _, e3, _⟩ | ⟨b, n, sz, g1, g2, ty, z, _⟩ | ⟨z, _⟩ | ⟨t', b, l0, l1, rfl, _, e1, _, e3⟩ | ⟨b, l, z, _⟩
      · rw [z] at e; cases e
      · obtain ⟨gh, e5, _⟩ := blkG _ _ _ _ _ _ e1
        rw [e5] at e
        rw [e3]
        exact e
      · rw [z] at e; cases e
      · rw [z]; exact e
      · rw [mpG _ _ _ e1] at e
        rw [e3]
        exact e
      · rw [z] at e; cases e
    · rw [q]; exact e
  have hnot : ∀ t b, memB t (G2.map (·.1)) = false → (fd t h).at = some b → ¬ own b := by
    rintro t b hl e ⟨t2, e2⟩
    have hm := (hB.all _ _ e2).1
    have hne : t ≠ τ t2 := by rintro rfl; rw [hm] at hl; cases hl
    exact Ent.apart_at (hr.apart _ _ hne) e (atG _ _ e2) rfl
  have kinds : ∀ t b, (fd t (G2 ++ h)).at = some b → (memB t (G2.map (·.1)) = false ∧ (fd t h).at = some b) ∨
      (memB t (G2.map (·.1)) = true ∧ (fd t h).at = some b ∧ (fd (τb t) h1).at = some b) ∨
      (memB t (G2.map (·.1)) = true ∧ w.heap.size ≤ b ∧ (fd (τb t) h1).at = some b) := by
    intro t b e
    rcases fd_app G2 h t with ⟨hm, q⟩ | ⟨hm, q, _⟩
    · rw [q] at e
      rcases hB.each t hm with ⟨_, z | ⟨_, _, z⟩⟩ | ⟨t', b', n', sz', g0, g1, g2, ty', rfl, e0, e1, e2, e3, e4⟩ | ⟨b', n', sz', g1, g2, ty', z, e2, e3, e5, e4⟩ | ⟨z, z2⟩ | ⟨t', b', l0, l1, rfl, e0, e1, e2, e3⟩ | ⟨b', l, z, e2, e3, e5⟩
      · rw [z] at e; cases e
      · rw [z] at e; cases e
      · rw [e3] at e
        cases e
        exact .inr (.inl ⟨hm, atG _ _ (by rw [e1]; rfl), by rw [e0, e2]; rfl⟩)
      · rw [e3] at e
        cases e
        exact .inr (.inr ⟨hm, hnew _ _ (by rw [e2]; rfl) e5, by rw [e2]; rfl⟩)
      · rw [z, z2] at e; cases e
      · rw [e3] at e
        cases e
        exact .inr (.inl ⟨hm, atG _ _ (by rw [e1]; rfl), by rw [e0, e2]; rfl⟩)
      · rw [e3] at e
        cases e
        exact .inr (.inr ⟨hm, hnew _ _ (by rw [e2]; rfl) e5, by rw [e2]; rfl⟩)
    · rw [q] at e
      exact .inl ⟨hm, e⟩
  have hrel : Rel c (G2 ++ h) w' := by
    refine ⟨⟨hr1.fr.os.trans hr.fr.os, hr1.fr.tape.trans hr.fr.tape, hr1.fr.output.trans hr.fr.output, Nat.le_trans hr.fr.size hr1.fr.size, fun k hk ho => ?_⟩, fun t => ?_, fun t t' hne => ?_, hr.tabs⟩
    · refine (hr1.fr.block k (Nat.lt_of_lt_of_le hk hr.fr.size) fun q => ?_).trans (hr.fr.block k hk ho)
      rcases hown _ q with q | q
      · exact ho q
      · omega
    · have made : ∀ b n sz g g1 ty, fd (τb t) h1 = .blk b n sz g1 ty → (∀ i k, i < n → k < sz → tell h1 (G2 ++ h) (g1 i k) (g i k)) → (c.own b ∨ c.w0.heap.size ≤ b) → Ent.holds c (G2 ++ h) w' (.blk b n sz g ty) := by
        intro b n sz g g1 ty e1 e2 e3
        have H := hr1.holds (τb t)
        rw [e1] at H
        obtain ⟨⟨cs, c1, c2, c3⟩, _⟩ := H
        exact ⟨⟨cs, c1, c2, fun i k hi hk => let ⟨x, ex, rx⟩ := c3 i k hi hk; ⟨x, ex, e2 i k hi hk x rx⟩⟩, e3⟩
      rcases fd_app G2 h t with ⟨hm, q⟩ | ⟨hm, q, _⟩
      · rw [q]
        rcases hB.each t hm with ⟨_, z | ⟨_, _, z⟩⟩ | ⟨t', b', n', sz', g0, g1, g2, ty', rfl, e0, e1, e2, e3, e4⟩ | ⟨b', n', sz', g1, g2, ty', z, e2, e3, e5, e4⟩ | ⟨z, z2⟩ | ⟨t', b', l0, l1, rfl, e0, e1, e2, e3⟩ | ⟨b', l, z, e2, e3, e5⟩
        · rw [z]; trivial
        · rw [z]; intro i k hi hk; omega
        · rw [e3]
          exact made _ _ _ _ _ _ (by rw [e0]; exact e2) e4 (hown _ ⟨t', by rw [e1]; rfl⟩)
        · rw [e3]
          exact made _ _ _ _ _ _ e2 e4 (.inr (Nat.le_trans hr.fr.size (hnew _ _ (by rw [e2]; rfl) e5)))
        · rw [z]
          exact Ent.holds_heap hext (fun b e => by rw [z2] at e; cases e) (hr.holds t)
        · rw [e3]
          have H := hr1.holds t'
          rw [e2] at H
          exact ⟨H.1, hown _ ⟨t', by rw [e1]; rfl⟩⟩
        · rw [e3]
          have H := hr1.holds (τb t)
          rw [e2] at H
          exact ⟨H.1, .inr (Nat.le_trans hr.fr.size (hnew _ _ (by rw [e2]; rfl) e5))⟩
      · rw [q]
        exact Ent.holds_heap hext (fun b e => hr1.fr.block _ (hr.lta e) (hnot t b hm e)) (hr.holds t)
    · refine Ent.apart_of fun b b' q1 q2 => ?_
      rcases kinds t b q1 with ⟨hm, e0⟩ | ⟨hm, e0, e1⟩ | ⟨hm, hge, e1⟩ <;> rcases kinds t' b' q2 with ⟨hm', e0'⟩ | ⟨hm', e0', e1'⟩ | ⟨hm', hge', e1'⟩
      · exact Ent.apart_at (hr.apart t t' hne) e0 e0'
      · exact Ent.apart_at (hr.apart t t' hne) e0 e0'
      · have := hr.lta e0; omega
      · exact Ent.apart_at (hr.apart t t' hne) e0 e0'
      · exact Ent.apart_at (hr.apart t t' hne) e0 e0'
      · have := hr.lta e0; omega
      · have := hr.lta e0'; omega
      · have := hr.lta e0'; omega
      · exact Ent.apart_at (hr1.apart _ _ (hB.inj t t' hm hm' hne)) e1 e1'
  exact ⟨u, G2 ++ h, nx', hK, hrel, hext, hB.out e hor⟩

/-- Without maps among what may be written. -/
theorem specOK_gen4 {P : Program} {f : Nat} {fn : Func} {cd : Code} {T : Tab} {SP : SpT} (hf : P.funcs[f]? = some fn) (hx : (fn.name == "runtime.NumGoroutine") = false) (hb : fn.body = some cd) (hT : TabOK P T) (hS : ∀ p ∈ SP, SpecOK P p.1 p.2) (s : Spec)
    (hs : ∀ args h nx K, s args h nx K → ∃ (τ : Nat → Nat) (G : Hp) (args' : List V), (∀ t b l, fd t G ≠ .mp b l) ∧ (nodupB ((G.map (·.1)).map τ) && noIt G) = true ∧ wkM τ h G ∧ rnL τ G args args' ∧ args'.length ≤ fn.ntmps ∧ ∃ post : Out → Hp → Prop, (∀ o h1, post o h1 → ∃ τb G2 u nx', Made4 τ G h h1 o τb G2 u ∧ K u (G2 ++ h) nx') ∧ ∀ c, c.P = P → W ⟨c, fn, T, SP, fun o h _ => post o h⟩ [.code cd] (argsS args' 0) G 0) : SpecOK P f s := by
  refine specOK_gen5 hf hx hb hT hS s fun args h nx K hk => ?_
  obtain ⟨τ, G, args', h0, hndi, h2, h3, h4, post, h5, h6⟩ := hs args h nx K hk
  refine ⟨τ, G, args', hndi, h2, h3, h4, post, fun o h1 hp => ?_, h6⟩
  have hni := (Bool.and_eq_true_iff.1 hndi).2
  obtain ⟨τb, G2, u, nx', hM, hK⟩ := h5 o h1 hp
  have blk : ∀ t b, (fd t G).at = some b → ∃ n sz g ty, fd t G = .blk b n sz g ty := fun t b e => by
    cases q : fd t G with
    | blk b' n sz g ty => rw [q] at e; cases e; exact ⟨n, sz, g, ty, rfl⟩
    | mp b' l => exact absurd q (h0 t b' l)
    | ro => rw [q] at e; cases e
    | rmp => rw [q] at e; cases e
    | it => exact (noIt_fd hni q).elim
    | gone => rw [q] at e; cases e
  refine ⟨τb, G2, u, nx', ⟨fun t ht => ?_, fun t b e => ?_, hM.inj, hM.out⟩, hK⟩
  · rcases hM.each t ht with q | q | ⟨b, n, sz, g1, g2, ty, z, e2, e3, e5, e4⟩ | ⟨z, b, n, sz, g, z2⟩
    · exact .inl q
    · exact .inr (.inl q)
    · exact .inr (.inr (.inl ⟨b, n, sz, g1, g2, ty, z, e2, e3, fun t' b' e => (by obtain ⟨n', sz', g', ty', q⟩ := blk t' b' e; exact e5 _ _ _ _ _ _ q), e4⟩))
    · exact .inr (.inr (.inr (.inl ⟨z, by rw [z2]; rfl⟩)))
  · obtain ⟨n, sz, g, ty, q⟩ := blk t b e
    obtain ⟨a1, n', g', a2⟩ := hM.all _ _ _ _ _ _ q
    exact ⟨a1, by rw [a2]; rfl⟩
theorem specOK_gen {P : Program} {f : Nat} {fn : Func} {cd : Code} {T : Tab} {SP : SpT} (hf : P.funcs[f]? = some fn) (hx : (fn.name == "runtime.NumGoroutine") = false) (hb : fn.body = some cd) (hT : TabOK P T) (hS : ∀ p ∈ SP, SpecOK P p.1 p.2) (s : Spec)
    (hs : ∀ args h nx K, s args h nx K → ∃ (τ : Nat → Nat) (G : Hp) (args' : List V), (∀ t b l, fd t G ≠ .mp b l) ∧ (nodupB ((G.map (·.1)).map τ) && noIt G) = true ∧ wkM τ h G ∧ rnL τ G args args' ∧ args'.length ≤ fn.ntmps ∧ ∃ post : Out → Hp → Prop, (∀ o h1, post o h1 → ∃ τb G2 u nx', Made τ G h h1 o τb G2 u ∧ K u (G2 ++ h) nx') ∧ ∀ c, c.P = P → W ⟨c, fn, T, SP, fun o h _ => post o h⟩ [.code cd] (argsS args' 0) G 0) : SpecOK P f s := by
  refine specOK_gen4 hf hx hb hT hS s fun args h nx K hk => ?_
  obtain ⟨τ, G, args', h0, h1, h2, h3, h4, post, h5, h6⟩ := hs args h nx K hk
  refine ⟨τ, G, args', h0, h1, h2, h3, h4, post, fun o h1 hp => ?_, h6⟩
  obtain ⟨τb, G2, u, nx', hM, hK⟩ := h5 o h1 hp
  exact ⟨τb, G2, u, nx', ⟨fun t ht => (by rcases hM.each t ht with q | q | q; exact .inl q; exact .inr (.inl q); exact .inr (.inr (.inl q))), hM.all, hM.inj, hM.out⟩, hK⟩

/-- A specification out of another one of the same function. -/
theorem specOK_conv {P : Program} {f : Nat} {s s2 : Spec} (h1 : SpecOK P f s) (h2 : ∀ args h nx K, s2 args h nx K → ∃ K', s args h nx K' ∧ ∀ (c : Cx) w' o h' nx' e, K' o h' nx' → Rel c h' w' → Ext h h' → OutRel h' o e → ∃ o2 h'' nx'', K o2 h'' nx'' ∧ Rel c h'' w' ∧ Ext h h'' ∧ OutRel h'' o2 e) : SpecOK P f s2 := by
  intro c hc args h nx K hk w xs hr hv
  obtain ⟨K', hs, hconv⟩ := h2 _ _ _ _ hk
  have key := h1 c hc args h nx K' hs w xs hr hv
  rcases key with ⟨e1, hcalls⟩ | ⟨x, w', e1, o, h', nx', ko, hr', hx, hor⟩
  · refine .inl ⟨e1, hcalls.mono ?_⟩
    rintro e w' ⟨o, h', nx', ko, hr', hx, hor⟩
    exact hconv c w' o h' nx' e ko hr' hx hor
  · exact .inr ⟨x, w', e1, hconv c w' o h' nx' _ ko hr' hx hor⟩

/-! ### Lists of integers -/
def gl (l : List Int) : Nat → Nat → V := fun i _ => .int .i64 (l.getD i 0)
/-- A slice of these integers, wherever it lies. -/
def rdL (h : Hp) (v : V) (l : List Int) : Prop :=
  (v = .nils ∧ l = []) ∨ ∃ t i c b N g, v = .slice t i l.length c ∧ fd t (roH h) = .ro b N 1 g ∧ i + l.length ≤ N ∧ ∀ j, j < l.length → g (i + j) 0 = .int .i64 (l.getD j 0)
/-- A new row that holds them, or none (the slice is nil). -/
def lstE (e : Ent) (l : List Int) (cap : Nat) : Prop :=
  (l = [] ∧ cap = 0 ∧ e = .ro none 0 1 (gl [])) ∨ ∃ b g ty, e = .blk b cap 1 g ty ∧ l.length ≤ cap ∧ cap ≤ 9223372036854775807 ∧ (∀ j, j < l.length → g j 0 = .int .i64 (l.getD j 0)) ∧ ∀ j, j < cap → flat (g j 0)
def newL (l : List Int) (h : Hp) (nx : Nat) (K : Out → Hp → Nat → Prop) : Prop := ∀ e cap, lstE e l cap → K (.ret (.slice nx 0 l.length cap)) ((nx, e) :: h) (nx + 1)

theorem lstE.rd {e : Ent} {l : List Int} {cap : Nat} (hl : lstE e l cap) {h : Hp} {t : Nat} (ht : fd t h = e) : rdL h (.slice t 0 l.length cap) l := by
  rcases hl with ⟨rfl, rfl, rfl⟩ | ⟨b, g, ty, rfl, h1, h2, h3, h4⟩
  · exact .inr ⟨t, 0, 0, none, 0, _, rfl, by rw [fd_roH, ht]; rfl, Nat.le_refl _, fun j hj => absurd hj (by simp)⟩
  · exact .inr ⟨t, 0, cap, _, cap, g, rfl, by rw [fd_roH, ht]; rfl, by omega, fun j hj => by rw [Nat.zero_add]; exact h3 j hj⟩
theorem rdL_nil {h : Hp} : rdL h .nils [] := .inl ⟨rfl, rfl⟩
/-- The first ones of a list. -/
theorem rdL.take {h : Hp} {t i n c : Nat} {l : List Int} (hv : rdL h (.slice t i n c) l) (m c' : Nat) (hm : m ≤ l.length) : rdL h (.slice t i m c') (l.take m) := by
  rcases hv with ⟨q, _⟩ | ⟨t', i', c', b, N, g, q, h1, h2, h3⟩
  · cases q
  · cases q
    have hl : (l.take m).length = m := by simp; omega
    refine .inr ⟨t, i, _, b, N, g, by rw [hl], h1, by omega, fun j hj => ?_⟩
    rw [h3 j (by omega), List.getD_eq_getElem?_getD, List.getD_eq_getElem?_getD, List.getElem?_take, if_pos (by omega)]

/-- One list, told anew by the tag t0. -/
theorem rdL_one {h : Hp} {v : V} {l : List Int} (hv : rdL h v l) (t0 : Nat) : ∃ (b : Option Addr) (c : Nat), ((∀ tv i n c', v = .slice tv i n c' → n ≤ c') → l.length ≤ c) ∧
    ∀ (cx : Cx) (w : World) (x : Value), Rel cx h w → vrel h v x → roOK w [(t0, .ro b l.length 1 (gl l))] ∧ ∀ G : Hp, (fd t0 G).rf = some (.mem b 1) → vrel G (.slice t0 0 l.length c) x := by
  rcases hv with ⟨rfl, rfl⟩ | ⟨t, i, c, b, N, g, rfl, e, hN, hF⟩
  · exact ⟨none, 0, fun _ => Nat.le_refl _, fun cx w x hr rx => ⟨⟨fun i k hi hk => absurd hi (by simp), trivial⟩, fun G eG => ⟨none, 1, eG, rx, .inr ⟨rfl, rfl⟩⟩⟩⟩
  · refine ⟨b.map fun a => a.add i, c, fun q => q _ _ _ _ rfl, fun cx w x hr rx => ⟨⟨fun j k hj hk => ?_, trivial⟩, fun G eG => ?_⟩⟩
    · have H := hr.ro.holds t
      rw [e] at H
      obtain ⟨ad, y, e1, e2, e3, _⟩ := H (i + j) k (by omega) hk
      obtain rfl : k = 0 := by omega
      rw [hF j hj] at e3
      subst e1
      exact ⟨ad.add i, y, rfl, by rw [add_add]; rw [show i + (j * 1 + 0) = (i + j) * 1 + 0 by omega]; exact e2, e3⟩
    · obtain ⟨base, sz, e1, e2, e3⟩ := rx
      have e4 : (fd t (roH h)).rf = (fd t h).rf := by rw [fd_roH, Ent.toRo_rf]
      rw [e1, e] at e4
      injection e4 with e4
      injection e4 with e4 e5
      subst e4 e5
      refine ⟨_, _, eG, ?_, ?_⟩
      · rw [e2]
        cases b with
        | none => rfl
        | some a => simp [Addr.add]
      · rcases e3 with e3 | e3
        · left; cases b with
          | none => cases e3
          | some a => rfl
        · exact .inr e3

theorem told_L1 {h : Hp} {v : V} {l : List Int} {rest : List V} (hv : rdL h v l) (hf : flatL rest) : ∃ (b : Option Addr) (c : Nat), Told h (v :: rest) [(2000, .ro b l.length 1 (gl l))] (.slice 2000 0 l.length c :: rest) := by
  obtain ⟨b, c, _, h3⟩ := rdL_one hv 2000
  refine ⟨b, c, ⟨fun hr hvv => ?_⟩⟩
  obtain ⟨y, ys, rfl, ry, rys⟩ := hvv
  obtain ⟨k1, k2⟩ := h3 _ _ _ hr ry
  exact ⟨rel_ros k1 hr.qtabs, y, ys, rfl, k2 _ rfl, flatL_rel _ _ hf rys⟩
theorem told_L1c {h : Hp} {v : V} {l : List Int} {rest : List V} (hv : rdL h v l) (hc : ∀ tv i n c', v = .slice tv i n c' → n ≤ c') (hf : flatL rest) : ∃ (b : Option Addr) (c : Nat), l.length ≤ c ∧ Told h (v :: rest) [(2000, .ro b l.length 1 (gl l))] (.slice 2000 0 l.length c :: rest) := by
  obtain ⟨b, c, h0, h3⟩ := rdL_one hv 2000
  refine ⟨b, c, h0 hc, ⟨fun hr hvv => ?_⟩⟩
  obtain ⟨y, ys, rfl, ry, rys⟩ := hvv
  obtain ⟨k1, k2⟩ := h3 _ _ _ hr ry
  exact ⟨rel_ros k1 hr.qtabs, y, ys, rfl, k2 _ rfl, flatL_rel _ _ hf rys⟩
theorem told_L2 {h : Hp} {v v' : V} {l l' : List Int} {rest : List V} (hv : rdL h v l) (hv' : rdL h v' l') (hf : flatL rest) : ∃ (b : Option Addr) (c : Nat) (b' : Option Addr) (c' : Nat),
    Told h (v :: v' :: rest) [(2000, .ro b l.length 1 (gl l)), (2001, .ro b' l'.length 1 (gl l'))] (.slice 2000 0 l.length c :: .slice 2001 0 l'.length c' :: rest) := by
  obtain ⟨b, c, _, h3⟩ := rdL_one hv 2000
  obtain ⟨b', c', _, h3'⟩ := rdL_one hv' 2001
  refine ⟨b, c, b', c', ⟨fun hr hvv => ?_⟩⟩
  obtain ⟨y, ys, rfl, ry, y', ys', rfl, ry', rys⟩ := hvv
  obtain ⟨k1, k2⟩ := h3 _ _ _ hr ry
  obtain ⟨k1', k2'⟩ := h3' _ _ _ hr ry'
  exact ⟨rel_ros ⟨k1.1, k1'⟩ hr.qtabs, y, _, rfl, k2 _ rfl, y', ys', rfl, k2' _ rfl, flatL_rel _ _ hf rys⟩

/-- The answer of a function that makes a list. -/
def retL (l : List Int) (o : Out) (h1 : Hp) : Prop :=
  (l = [] ∧ o = .ret .nils) ∨ ∃ t cap b g ty, o = .ret (.slice t 0 l.length cap) ∧ fd t h1 = .blk b cap 1 g ty ∧ l.length ≤ cap ∧ cap ≤ 9223372036854775807 ∧ (∀ j, j < l.length → g j 0 = .int .i64 (l.getD j 0)) ∧ ∀ j, j < cap → flat (g j 0)

/-- A function that reads what it is handed, and answers a new list. -/
theorem specOK_newL {P : Program} {f : Nat} {fn : Func} {cd : Code} {T : Tab} {SP : SpT} (hf : P.funcs[f]? = some fn) (hx : (fn.name == "runtime.NumGoroutine") = false) (hb : fn.body = some cd) (hT : TabOK P T) (hS : ∀ p ∈ SP, SpecOK P p.1 p.2) (s : Spec)
    (hs : ∀ args h nx K, s args h nx K → fd nx h = .gone ∧ ∃ G args' l, Told h args G args' ∧ args'.length ≤ fn.ntmps ∧ newL l h nx K ∧ ∀ c, c.P = P → W ⟨c, fn, T, SP, fun o h _ => retL l o h⟩ [.code cd] (argsS args' 0) G 0) : SpecOK P f s := by
  intro c hc args h nx K hk w xs hr hv
  obtain ⟨hgone, G, args', l, H, hlen, hnew, hvc⟩ := hs _ _ _ _ hk
  subst hc
  have hE : EnvOK ⟨quiet c.P w, fn, T, SP, fun o h _ => retL l o h⟩ := ⟨hT, hS⟩
  obtain ⟨hr', hv'⟩ := H.rel hr hv
  refine .inl ⟨callFunc_enter hf hx hb _ w, ?_⟩
  refine (enterW hE (f := f) hf hb hv' hr' hlen (hvc _ rfl)).mono ?_
  rintro e w' ⟨o, h1, nx1, hp, hr1, hor⟩
  have hr2 := hr.after hr1.fr
  rcases hp with ⟨rfl, rfl⟩ | ⟨t, cap, b, g, ty, rfl, hfd, h2, h3, h4, h5⟩
  · obtain ⟨hr3, hx3⟩ := hr2.ronil (nx := nx) (sz := 1) (g := gl []) hgone
    refine ⟨_, _, _, hnew _ 0 (.inl ⟨rfl, rfl, rfl⟩), hr3, hx3, ?_⟩
    obtain ⟨x, ex, rx⟩ := hor
    exact ⟨x, ex, tell_nil (h1 := h1) (by rw [fd_cons, if_pos rfl]) x rx⟩
  · have H := hr1.holds t
    rw [hfd] at H
    obtain ⟨⟨cs, c1, c2, c3⟩, c4⟩ := H
    have hb : w.heap.size ≤ b := by rcases c4 with c4 | c4; exact c4.elim; exact c4
    refine ⟨_, _, _, hnew _ cap (.inr ⟨b, g, ty, rfl, h2, h3, h4, h5⟩), hr2.add hgone ⟨⟨cs, c1, c2, fun i k hi hk => ?_⟩, .inr (Nat.le_trans hr.fr.size hb)⟩ (fun t' b' n' sz' g' ty' e' => ?_), Ext.new (by rw [hgone]; rfl), ?_⟩
    · obtain ⟨x, ex, rx⟩ := c3 i k hi hk
      obtain rfl : k = 0 := by omega
      exact ⟨x, ex, flat_rel _ _ (h5 i hi) rx⟩
    · have := hr.lt e'
      omega
    · obtain ⟨x, ex, rx⟩ := hor
      exact ⟨x, ex, tell_slice (h1 := h1) (by rw [fd_cons, if_pos rfl, hfd]) x rx⟩

/-- What is opaque is handed on. -/
theorem force_of {v : V} {K : V → Prop} (h : K v) : force v K := by rw [force_eq]; exact h
/-- A new row keeps its list under a new tag. -/
theorem lst_wk {e : Ent} {l : List Int} {cap : Nat} (hl : lstE e l cap) (τ : Nat → Nat) (h' : Hp) : wkE τ h' e e := by
  rcases hl with ⟨rfl, rfl, rfl⟩ | ⟨b, g, ty, rfl, h1, h2, h3, h4⟩
  · exact ⟨rfl, rfl, rfl, fun i c hi => by omega⟩
  · refine ⟨rfl, rfl, rfl, rfl, fun i c hi hc => ?_⟩
    obtain rfl : c = 0 := by omega
    exact flat_rn _ (h4 i hi)
theorem lst_live {e : Ent} {l : List Int} {cap : Nat} (hl : lstE e l cap) : e.here := by
  rcases hl with ⟨rfl, rfl, rfl⟩ | ⟨b, g, ty, rfl, h1, h2, h3, h4⟩ <;> trivial

end Go.Proofs.Ytgcnknhfphgfnaa.Sx
