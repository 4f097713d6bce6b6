import Derived.Test.YtgcnknhfphgfnaaSxLs
set_option linter.unusedVariables false
set_option linter.unusedSimpArgs false
/-
  The engine: append, told of lists of integers.
-/
namespace Go.Proofs.Ytgcnknhfphgfnaa.Sx
open Go

/-- A type of slices of integers. -/
def appT (T : Tab) (t : Nat) : Prop := ∃ ti te, look t T = some ti ∧ Nat.beq ti.kd 7 = true ∧ look ti.el T = some te ∧ te.n = 1 ∧ te.zero = [.int .i64 0]
/-- A row's cells: a list of integers, and what bears no address. -/
def cellsL (g : Nat → Nat → V) (l : List Int) (cap : Nat) : Prop := (∀ j, j < l.length → g j 0 = .int .i64 (l.getD j 0)) ∧ ∀ j, j < cap → flat (g j 0)
theorem lstE.of {b cap : Nat} {g : Nat → Nat → V} {ty : TypeId} {l : List Int} (h : cellsL g l cap) (h1 : l.length ≤ cap) (h2 : cap ≤ 9223372036854775807) : lstE (.blk b cap 1 g ty) l cap := .inr ⟨b, g, ty, rfl, h1, h2, h.1, h.2⟩
theorem retL.of {t b cap : Nat} {g : Nat → Nat → V} {ty : TypeId} {l : List Int} {h1 : Hp} (e : fd t h1 = .blk b cap 1 g ty) (h : cellsL g l cap) (h2 : l.length ≤ cap) (h3 : cap ≤ 9223372036854775807) : retL l (.ret (.slice t 0 l.length cap)) h1 := .inr ⟨t, cap, b, g, ty, rfl, e, h2, h3, h.1, h.2⟩
theorem getD_app {l m : List Int} {j : Nat} : (l ++ m).getD j 0 = if j < l.length then l.getD j 0 else m.getD (j - l.length) 0 := by
  simp only [List.getD_eq_getElem?_getD]
  split
  · rename_i h; rw [List.getElem?_append_left h]
  · rename_i h; rw [List.getElem?_append_right (by omega)]
theorem ro_kind {h : Hp} {t : Nat} {b : Option Addr} {N sz : Nat} {g : Nat → Nat → V} (e : fd t (roH h) = .ro b N sz g) (hz : sz ≠ 0 := by decide) : fd t h = .ro b N sz g ∨ ∃ b' ty, fd t h = .blk b' N sz g ty := by
  rw [fd_roH] at e
  cases q : fd t h with
  | gone => rw [q] at e; cases e
  | mp => rw [q] at e; cases e
  | rmp => rw [q] at e; cases e
  | it => rw [q] at e; injection e with e1 e2 e3 e4; exact absurd e3.symm hz
  | ro b2 N2 sz2 g2 => rw [q] at e; exact .inl e
  | blk b2 N2 sz2 g2 ty => rw [q] at e; injection e with e1 e2 e3 e4; subst e2 e3 e4; exact .inr ⟨_, _, rfl⟩
theorem getM_of {h : Hp} {t : Nat} {b : Option Addr} {N sz : Nat} {g : Nat → Nat → V} (e : fd t (roH h) = .ro b N sz g) {K : Nat → Nat → (Nat → Nat → V) → Prop} (hk : K N sz g) (hz : sz ≠ 0 := by decide) : getM h t K := by
  unfold getM
  rcases ro_kind e hz with q | ⟨b', ty, q⟩ <;> rw [q] <;> exact hk

theorem app_L {T : Tab} {t : Nat} (hA : appT T t) {v u : V} {l m : List Int} {h : Hp} {nx : Nat} {K : V → Hp → Nat → Prop} (hv : rdL h v l) (hc : ∀ tv i n c, v = .slice tv i n c → n ≤ c) (hu : rdL h u m) (hnx : fd nx h = .gone) (hsz : l.length + m.length ≤ 134217728)
    (k0 : m = [] → K v h nx)
    (k1 : ∀ tv i c, v = .slice tv i l.length c → m ≠ [] → l.length + m.length ≤ c → ∃ b n g ty, fd tv h = .blk b n 1 g ty ∧ i + l.length + m.length ≤ n ∧ ∀ g', (∀ j, j < (l ++ m).length → g' (i + j) 0 = .int .i64 ((l ++ m).getD j 0)) → (∀ j, j < i + l.length ∨ i + l.length + m.length ≤ j → g' j 0 = g j 0) → K (.slice tv i (l ++ m).length c) ((tv, .blk b n 1 g' ty) :: h) nx)
    (k2 : m ≠ [] → ∀ b cap g' ty, (l ++ m).length ≤ cap → cap ≤ 9223372036854775807 → cellsL g' (l ++ m) cap → K (.slice nx 0 (l ++ m).length cap) ((nx, .blk b cap 1 g' ty) :: h) (nx + 1)) : appS T [t, t] v u h nx K := by
  obtain ⟨ti, te, e1, e2, e3, e4, e5⟩ := hA
  unfold appS
  simp only [e1, e3]
  refine chk_ok (by simp) (chk_ok e2 (chk_ok (by rw [e4, e5]; rfl) ?_))
  have hlm : (l ++ m).length = l.length + m.length := by simp
  have hz : ∀ k, zAt te.zero k = .int .i64 0 ∨ zAt te.zero k = und := fun k => by
    rw [e5]
    match k with
    | 0 => exact .inl rfl
    | k + 1 => exact .inr rfl
  -- the cells of a new row
  have fresh : ∀ (iv iu cap : Nat) (gv gu : Nat → Nat → V), (∀ j, j < l.length → gv (iv + j) 0 = .int .i64 (l.getD j 0)) → (∀ j, j < m.length → gu (iu + j) 0 = .int .i64 (m.getD j 0)) → cellsL (appG l.length m.length iv iu gv gu (zAt te.zero)) (l ++ m) cap := by
    intro iv iu cap gv gu h1 h2
    refine ⟨fun j hj => ?_, fun j _ => ?_⟩
    · rw [hlm] at hj
      rw [appG_eq, getD_app]
      by_cases q : j < l.length
      · rw [if_pos q, if_pos q]; exact h1 j q
      · rw [if_neg q, if_pos hj, if_neg q]; exact h2 _ (by omega)
    · rw [appG_eq]
      by_cases q : j < l.length
      · rw [if_pos q, h1 j q]; trivial
      · rw [if_neg q]
        by_cases q2 : j < l.length + m.length
        · rw [if_pos q2, h2 _ (by omega)]; trivial
        · rw [if_neg q2, e5]; trivial
  rcases hu with ⟨rfl, rfl⟩ | ⟨tu, iu, cu, bu, Nu, gu, rfl, f1, f2, f3⟩
  · simp only
    rcases hv with ⟨rfl, rfl⟩ | ⟨tv, iv, cv, bv, Nv, gv, rfl, d1, d2, d3⟩
    · exact k0 rfl
    · exact chk_ok (Nat.ble_eq_true_of_le (hc _ _ _ _ rfl)) (k0 rfl)
  · simp only
    refine br_both (fun q => ?_) (fun q => ?_)
    · have q : 1 ≤ m.length := Nat.le_of_ble_eq_true q
      have hm : m ≠ [] := by rintro rfl; simp at q
      refine getM_of f1 (chk_ok (by rw [e4, Nat.ble_eq_true_of_le f2]; rfl) ?_)
      rcases hv with ⟨rfl, rfl⟩ | ⟨tv, iv, cv, bv, Nv, gv, rfl, d1, d2, d3⟩
      · refine chk_ok (Nat.ble_eq_true_of_le (by simpa using hsz)) ⟨hnx, fun b cap h1 h2 => ?_⟩
        have hf := fresh 0 iu cap gu gu (fun j hj => absurd hj (by simp)) f3
        have hk := k2 hm b cap _ ti.el (by simpa using h1) h2 hf
        rw [e4]
        simpa using hk
      · refine br_both (fun g => ?_) (fun g => ?_)
        · have g : l.length + m.length ≤ cv := Nat.le_of_ble_eq_true g
          obtain ⟨b, n, g0, ty, a1, a2, a3⟩ := k1 tv iv cv rfl hm g
          rw [a1]
          refine chk_ok (by rw [e4, Nat.ble_eq_true_of_le a2]; rfl) ⟨fun i k hi hk => ?_, ?_⟩
          · rw [e4] at hk
            obtain rfl : k = 0 := by omega
            rw [f3 i hi]; rfl
          · have d1' : bv = some ⟨b, 0, none⟩ ∧ Nv = n ∧ gv = g0 := by
              rw [fd_roH, a1] at d1
              injection d1 with d1 d2 d3 d4
              exact ⟨d1.symm, d2.symm, d4.symm⟩
            obtain ⟨-, rfl, rfl⟩ := d1'
            have hk := a3 (appR (iv + l.length) m.length iu gv gu) (fun j hj => ?_) (fun j hj => ?_)
            · rw [hlm] at hk; exact hk
            · rw [hlm] at hj
              rw [appR_eq, getD_app]
              by_cases w : j < l.length
              · rw [if_neg (by omega), if_pos w]; exact d3 j w
              · rw [if_pos ⟨by omega, by omega⟩, if_neg w, show iv + j - (iv + l.length) = j - l.length by omega]; exact f3 _ (by omega)
            · rw [appR_eq, if_neg (by omega)]
        · have g : ¬ l.length + m.length ≤ cv := fun w => by rw [Nat.ble_eq_true_of_le w] at g; cases g
          refine chk_ok (Nat.ble_eq_true_of_le hsz) (getM_of d1 (chk_ok (by rw [e4, Nat.ble_eq_true_of_le d2]; rfl) ⟨hnx, fun b cap h1 h2 => ?_⟩))
          have hf := fresh iv iu cap gv gu d3 f3
          have hk := k2 hm b cap _ ti.el (by rw [hlm]; exact h1) h2 hf
          rw [hlm] at hk
          rw [e4]
          exact hk
    · have hm : m = [] := by
        cases m with
        | nil => rfl
        | cons x m => rw [Nat.ble_eq_true_of_le (by simp)] at q; cases q
      rcases hv with ⟨rfl, rfl⟩ | ⟨tv, iv, cv, bv, Nv, gv, rfl, d1, d2, d3⟩
      · exact k0 hm
      · exact chk_ok (Nat.ble_eq_true_of_le (hc _ _ _ _ rfl)) (k0 hm)

theorem opnd_tmp {σ : Sl} {h : Hp} {t : Nat} {v : V} {K : V → Prop} (e : lk t σ = some v) (hk : K v) : opnd σ h (.tmp t) K := by
  unfold opnd
  simp only [e]
  exact force_of hk
theorem step_app {T : Tab} {a b : Nat} {ts : Array TypeId} {v u : V} {σ : Sl} {h : Hp} {nx : Nat} {K : V → Hp → Nat → Prop} (e1 : lk a σ = some v) (e2 : lk b σ = some u) (hk : appS T ts.toList v u h nx K) : step T (.call ⟨.builtin .append, #[.tmp a, .tmp b], ts⟩) σ h nx K := by
  show opnd σ h (.tmp a) _
  refine opnd_tmp e1 ?_
  show opnd σ h (.tmp b) _
  exact opnd_tmp e2 hk
theorem stepC_app {E : Env} {a b : Nat} {ts : Array TypeId} {v u : V} {σ : Sl} {h : Hp} {nx : Nat} {K KP : V → Hp → Nat → Prop} (e1 : lk a σ = some v) (e2 : lk b σ = some u) (hk : appS E.T ts.toList v u h nx K) : stepC E (.call ⟨.builtin .append, #[.tmp a, .tmp b], ts⟩) σ h nx K KP :=
  step_app (T := E.T) e1 e2 hk

theorem W_app {E : Env} (hE : EnvOK E) (n : Nat) {d : Option Nat} {a b ty : Nat} {ts : Array TypeId} {pos : String} {aft : Array Edge} {all l : List Oper} {k : List It} {v u : V} {σ : Sl} {h : Hp} {nx nx' : Nat} (e1 : lk a σ = some v) (e2 : lk b σ = some u)
    (hk : appS E.T ts.toList v u h nx' (fun v h' nx' => putS E.fn.ntmps d v σ fun σ' => vc E n (.ops all l :: k) σ' h' nx')) : W E (.ops all (⟨d, .call ⟨.builtin .append, #[.tmp a, .tmp b], ts⟩, ty, pos, aft, none⟩ :: l) :: k) σ h nx :=
  vc_sound (nx := nx') hE (n + 1) _ _ _ (show stepC E _ σ h nx' _ (fun v h' nx' => E.R (.pan v) h' nx') from stepC_app (E := E) e1 e2 hk)

/-- One more behind a list that has a row of its own. -/
theorem app_one {T : Tab} {t : Nat} (hA : appT T t) {tv nx cp : Nat} {u : V} {l : List Int} {x : Int} {e : Ent} {h : Hp} {K : V → Hp → Nat → Prop} (hl : lstE e l cp) (e1 : fd tv h = e) (hu : rdL h u [x]) (hnx : fd nx h = .gone) (hsz : l.length + 1 ≤ 134217728)
    (k1 : ∀ e', lstE e' (l ++ [x]) cp → K (.slice tv 0 (l ++ [x]).length cp) ((tv, e') :: h) nx)
    (k2 : ∀ e' cp', lstE e' (l ++ [x]) cp' → K (.slice nx 0 (l ++ [x]).length cp') ((nx, e') :: h) (nx + 1)) : appS T [t, t] (.slice tv 0 l.length cp) u h nx K := by
  have hcap : l.length ≤ cp := by
    rcases hl with ⟨rfl, rfl, rfl⟩ | ⟨b, g, ty, rfl, h1, h2, h3, h4⟩
    · simp
    · exact h1
  refine app_L (m := [x]) hA (hl.rd e1) (fun _ _ _ _ q => by cases q; exact hcap) hu hnx (by simpa using hsz) (fun q => by cases q) (fun tv' i c q _ hle => ?_) (fun _ b cap g' ty p1 p2 p3 => k2 _ cap (lstE.of p3 p1 p2))
  cases q
  rcases hl with ⟨rfl, rfl, rfl⟩ | ⟨b, g, ty, rfl, h1, h2, h3, h4⟩
  · simp at hle
  · refine ⟨b, cp, g, ty, e1, by simpa using hle, fun g' q1 q2 => k1 _ (lstE.of ⟨fun j hj => ?_, fun j hj => ?_⟩ (by simpa using hle) h2)⟩
    · have := q1 j hj
      rw [Nat.zero_add] at this
      exact this
    · by_cases w : j < (l ++ [x]).length
      · have := q1 j w
        rw [Nat.zero_add] at this
        rw [this]; trivial
      · rw [q2 j (.inr (by simp only [List.length_append, List.length_cons, List.length_nil] at w ⊢; omega))]
        exact h4 j hj

theorem vc_app {E : Env} {n : Nat} {d : Option Nat} {a b ty : Nat} {ts : Array TypeId} {pos : String} {aft : Array Edge} {all l : List Oper} {k : List It} {v u : V} {σ : Sl} {h : Hp} {nx : Nat} (e1 : lk a σ = some v) (e2 : lk b σ = some u)
    (hk : appS E.T ts.toList v u h nx (fun v h' nx' => putS E.fn.ntmps d v σ fun σ' => vc E n (.ops all l :: k) σ' h' nx')) : vc E (n + 1) (.ops all (⟨d, .call ⟨.builtin .append, #[.tmp a, .tmp b], ts⟩, ty, pos, aft, none⟩ :: l) :: k) σ h nx :=
  show stepC E _ σ h nx _ (fun v h' nx' => E.R (.pan v) h' nx') from stepC_app (E := E) e1 e2 hk
theorem putS_some {N d : Nat} {v : V} {σ : Sl} {K : Sl → Prop} (h : Nat.blt d N = true) (hk : K ((d, v) :: σ)) : putS N (some d) v σ K := chk_ok h hk

/-! ### A new list that is never nil -/
def newB (l : List Int) (h : Hp) (nx : Nat) (K : Out → Hp → Nat → Prop) : Prop := ∀ b cap g ty, l.length ≤ cap → cap ≤ 9223372036854775807 → cellsL g l cap → K (.ret (.slice nx 0 l.length cap)) ((nx, .blk b cap 1 g ty) :: h) (nx + 1)
theorem newL.b {l : List Int} {h : Hp} {nx : Nat} {K : Out → Hp → Nat → Prop} (hn : newL l h nx K) : newB l h nx K := fun b cap g ty h1 h2 h3 => hn _ cap (lstE.of h3 h1 h2)
def retB (l : List Int) (o : Out) (h1 : Hp) : Prop := ∃ t cap b g ty, o = .ret (.slice t 0 l.length cap) ∧ fd t h1 = .blk b cap 1 g ty ∧ l.length ≤ cap ∧ cap ≤ 9223372036854775807 ∧ cellsL g l cap
theorem retB.of {t b cap : Nat} {g : Nat → Nat → V} {ty : TypeId} {l : List Int} {h1 : Hp} (e : fd t h1 = .blk b cap 1 g ty) (h : cellsL g l cap) (h2 : l.length ≤ cap) (h3 : cap ≤ 9223372036854775807) : retB l (.ret (.slice t 0 l.length cap)) h1 := ⟨t, cap, b, g, ty, rfl, e, h2, h3, h⟩
theorem specOK_newB {P : Program} {f : Nat} {fn : Func} {cd : Code} {T : Tab} {SP : SpT} (hf : P.funcs[f]? = some fn) (hx : (fn.name == "runtime.NumGoroutine") = false) (hb : fn.body = some cd) (hT : TabOK P T) (hS : ∀ p ∈ SP, SpecOK P p.1 p.2) (s : Spec)
    (hs : ∀ args h nx K, s args h nx K → fd nx h = .gone ∧ ∃ G args' l, Told h args G args' ∧ args'.length ≤ fn.ntmps ∧ newB l h nx K ∧ ∀ c, c.P = P → W ⟨c, fn, T, SP, fun o h _ => retB l o h⟩ [.code cd] (argsS args' 0) G 0) : SpecOK P f s := by
  intro c hc args h nx K hk w xs hr hv
  obtain ⟨hgone, G, args', l, H, hlen, hnew, hvc⟩ := hs _ _ _ _ hk
  subst hc
  have hE : EnvOK ⟨quiet c.P w, fn, T, SP, fun o h _ => retB l o h⟩ := ⟨hT, hS⟩
  obtain ⟨hr', hv'⟩ := H.rel hr hv
  refine .inl ⟨callFunc_enter hf hx hb _ w, ?_⟩
  refine (enterW hE (f := f) hf hb hv' hr' hlen (hvc _ rfl)).mono ?_
  rintro e w' ⟨o, h1, nx1, hp, hr1, hor⟩
  have hr2 := hr.after hr1.fr
  obtain ⟨t, cap, b, g, ty, rfl, hfd, h2, h3, h4⟩ := hp
  have H := hr1.holds t
  rw [hfd] at H
  obtain ⟨⟨cs, c1, c2, c3⟩, c4⟩ := H
  have hb : w.heap.size ≤ b := by rcases c4 with c4 | c4; exact c4.elim; exact c4
  refine ⟨_, _, _, hnew b cap g ty h2 h3 h4, hr2.add hgone ⟨⟨cs, c1, c2, fun i k hi hk => ?_⟩, .inr (Nat.le_trans hr.fr.size hb)⟩ (fun t' b' n' sz' g' ty' e' => ?_), Ext.new (by rw [hgone]; rfl), ?_⟩
  · obtain ⟨x, ex, rx⟩ := c3 i k hi hk
    obtain rfl : k = 0 := by omega
    exact ⟨x, ex, flat_rel _ _ (h4.2 i hi) rx⟩
  · have := hr.lt e'
    omega
  · obtain ⟨x, ex, rx⟩ := hor
    exact ⟨x, ex, tell_slice (h1 := h1) (by rw [fd_cons, if_pos rfl, hfd]) x rx⟩

end Go.Proofs.Ytgcnknhfphgfnaa.Sx
