import Derived.Test.YtgcnknhfphgfnaaSxX
set_option linter.unusedVariables false
set_option linter.unusedSimpArgs false
set_option linter.unusedSectionVars false
/-
  The engine, twenty-first part: functions that read what they are handed, told anew; functions that answer a new row.
-/
namespace Go.Proofs.Ytgcnknhfphgfnaa.Sx
open Go

/-- What a function is handed, told anew. -/
structure Told (h : Hp) (args : List V) (G : Hp) (args' : List V) : Prop where
  rel : ∀ {c : Cx} {w : World} {xs : List Value}, Rel c h w → vrelL h args xs → Rel (quiet c.P w) G w ∧ vrelL G args' xs

theorem specOK_read2 {P : Program} {f : Nat} {fn : Func} {cd : Code} {T : Tab} {SP : SpT} (hf : P.funcs[f]? = some fn) (hx : (fn.name == "runtime.NumGoroutine") = false) (hb : fn.body = some cd) (hT : TabOK P T) (hS : ∀ p ∈ SP, SpecOK P p.1 p.2) (n : Nat) (s : Spec)
    (hs : ∀ args h nx K, s args h nx K → ∃ G args', Told h args G args' ∧ args'.length ≤ fn.ntmps ∧ ∃ post : Out → Prop, (∀ o, post o → o.flat ∧ K o h nx) ∧ ∀ c, c.P = P → vc ⟨c, fn, T, SP, fun o _ _ => post o⟩ n [.code cd] (argsS args' 0) G 0) : SpecOK P f s := by
  intro c hc args h nx K hk w xs hr hv
  obtain ⟨G, args', H, hlen, post, hpost, hvc⟩ := hs _ _ _ _ hk
  subst hc
  have hE : EnvOK ⟨quiet c.P w, fn, T, SP, fun o _ _ => post o⟩ := ⟨hT, hS⟩
  obtain ⟨hr', hv'⟩ := H.rel hr hv
  refine .inl ⟨callFunc_enter hf hx hb _ w, ?_⟩
  refine (enter hE (f := f) hf hb hv' hr' hlen n (hvc _ rfl)).mono ?_
  rintro e w' ⟨o, h1, nx1, hp, hr1, hor⟩
  exact ⟨o, h, nx, (hpost o hp).2, hr.after hr1.fr, Ext.refl h, Out.flat_rel (hpost o hp).1 hor⟩

/-- Such an answer: it holds one new row, of cells without an address. -/
def NewRow (o : Out) (h1 h : Hp) (nx : Nat) (K : Out → Hp → Nat → Prop) : Prop :=
  ∃ v t b n sz g ty u, o = .ret v ∧ fd t h1 = .blk b n sz g ty ∧ (∀ i c, i < n → c < sz → flat (g i c)) ∧ rn (fun _ => t) [(nx, .blk b n sz g ty)] v u ∧ fd nx h = .gone ∧ K (.ret u) ((nx, .blk b n sz g ty) :: h) (nx + 1)

theorem specOK_new {P : Program} {f : Nat} {fn : Func} {cd : Code} {T : Tab} {SP : SpT} (hf : P.funcs[f]? = some fn) (hx : (fn.name == "runtime.NumGoroutine") = false) (hb : fn.body = some cd) (hT : TabOK P T) (hS : ∀ p ∈ SP, SpecOK P p.1 p.2) (n : Nat) (s : Spec)
    (hs : ∀ args h nx K, s args h nx K → ∃ G args', Told h args G args' ∧ args'.length ≤ fn.ntmps ∧ ∃ post : Out → Hp → Prop, (∀ o h1, post o h1 → (o.flat ∧ K o h nx) ∨ NewRow o h1 h nx K) ∧ ∀ c, c.P = P → vc ⟨c, fn, T, SP, fun o h _ => post o h⟩ n [.code cd] (argsS args' 0) G 0) : SpecOK P f s := by
  intro c hc args h nx K hk w xs hr hv
  obtain ⟨G, args', H, hlen, post, hpost, hvc⟩ := hs _ _ _ _ hk
  subst hc
  have hE : EnvOK ⟨quiet c.P w, fn, T, SP, fun o h _ => post o h⟩ := ⟨hT, hS⟩
  obtain ⟨hr', hv'⟩ := H.rel hr hv
  refine .inl ⟨callFunc_enter hf hx hb _ w, ?_⟩
  refine (enter hE (f := f) hf hb hv' hr' hlen n (hvc _ rfl)).mono ?_
  rintro e w' ⟨o, h1, nx1, hp, hr1, hor⟩
  rcases hpost o h1 hp with ⟨hfl, hk⟩ | ⟨v, t, b, n, sz, g, ty, u, rfl, hfd, hcf, hrn, hgone, hk⟩
  · exact ⟨o, h, nx, hk, hr.after hr1.fr, Ext.refl h, Out.flat_rel hfl hor⟩
  · have hr2 := hr.after hr1.fr
    have H := hr1.holds t
    rw [hfd] at H
    obtain ⟨⟨cs, c1, c2, c3⟩, c4⟩ := H
    have hb : w.heap.size ≤ b := by rcases c4 with c4 | c4; exact c4.elim; exact c4
    refine ⟨.ret u, _, nx + 1, hk, hr2.add hgone ⟨⟨cs, c1, c2, fun i k hi hk => ?_⟩, .inr (Nat.le_trans hr.fr.size hb)⟩ (fun t' b' n' sz' g' ty' e' => ?_), Ext.new (by rw [hgone]; rfl), ?_⟩
    · obtain ⟨x, ex, rx⟩ := c3 i k hi hk
      exact ⟨x, ex, flat_rel _ _ (hcf i k hi hk) rx⟩
    · have := hr.lt e'
      omega
    · obtain ⟨x, ex, rx⟩ := hor
      refine ⟨x, ex, ?_⟩
      have hx : ∀ t', live [(nx, Ent.blk b n sz g ty)] t' → (fd t' [(nx, Ent.blk b n sz g ty)]).rf = (fd t h1).rf := fun t' hl => by
        unfold live at hl
        rw [fd_cons] at hl ⊢
        split
        · rw [hfd]
        · rename_i hne
          rw [if_neg hne] at hl
          exact hl.elim
      refine vrel_mono (fun t' r e => ?_) _ _ (rn_rel (τ := fun _ => t) hx v u x hrn rx)
      rw [fd_cons] at e ⊢
      split
      · rename_i he; rw [if_pos he] at e; exact e
      · rename_i hne; rw [if_neg hne] at e; simp [fd, Ent.rf] at e

/-- A slice of integers, wherever it lies. -/
def rdI (h : Hp) (v : V) (n : Nat) (f : Nat → Int) : Prop :=
  (v = .nils ∧ n = 0) ∨ ∃ t i c b N g, v = .slice t i n c ∧ fd t (roH h) = .ro b N 1 g ∧ i + n ≤ N ∧ ∃ F : Nat → Int, (∀ j, j < N → g j 0 = .int .i64 (F j)) ∧ ∀ j, j < n → f j = F (i + j)


theorem told_flat {h : Hp} {args : List V} (hf : flatL args) : Told h args [] args := ⟨fun hr hv => ⟨rel_nil hr.qtabs, flatL_rel _ _ hf hv⟩⟩

/-- One slice of integers, told anew by the tag t0. -/
theorem rd_one {h : Hp} {v : V} {n : Nat} {f : Nat → Int} (hv : rdI h v n f) (t0 : Nat) : ∃ (b : Option Addr) (N i c : Nat) (F : Nat → Int), i + n ≤ N ∧ (∀ j, j < n → f j = F (i + j)) ∧
    ∀ (cx : Cx) (w : World) (x : Value), Rel cx h w → vrel h v x → roOK w [(t0, .ro b N 1 (g1 .i64 F))] ∧ ∀ G : Hp, (fd t0 G).rf = some (.mem b 1) → vrel G (.slice t0 i n c) x := by
  rcases hv with ⟨rfl, rfl⟩ | ⟨t, i, c, b, N, g, rfl, e, hN, F, hF, hf⟩
  · refine ⟨none, 0, 0, 0, fun _ => 0, by omega, fun j hj => by omega, fun cx w x hr rx => ⟨⟨fun i k hi hk => by omega, trivial⟩, fun G eG => ⟨none, 1, eG, rx, .inr ⟨rfl, rfl⟩⟩⟩⟩
  · refine ⟨b, N, i, c, F, hN, hf, fun cx w x hr rx => ⟨⟨fun j k hj hk => ?_, trivial⟩, fun G eG => ?_⟩⟩
    · have H := hr.ro.holds t
      rw [e] at H
      obtain ⟨ad, y, e1, e2, e3, _⟩ := H j k hj hk
      obtain rfl : k = 0 := by omega
      rw [hF j hj] at e3
      exact ⟨ad, y, e1, e2, e3⟩
    · obtain ⟨base, sz, e1, e2, e3⟩ := rx
      have e4 : (fd t (roH h)).rf = (fd t h).rf := by rw [fd_roH, Ent.toRo_rf]
      rw [e1, e] at e4
      injection e4 with e4
      injection e4 with e4 e5
      subst e4 e5
      exact ⟨_, _, eG, e2, e3⟩

theorem told_one {h : Hp} {v : V} {n : Nat} {f : Nat → Int} {rest : List V} (hv : rdI h v n f) (hf : flatL rest) : ∃ (b : Option Addr) (N i c : Nat) (F : Nat → Int), i + n ≤ N ∧ (∀ j, j < n → f j = F (i + j)) ∧
    Told h (v :: rest) [(2000, .ro b N 1 (g1 .i64 F))] (.slice 2000 i n c :: rest) := by
  obtain ⟨b, N, i, c, F, h1, h2, h3⟩ := rd_one hv 2000
  refine ⟨b, N, i, c, F, h1, h2, ⟨fun hr hvv => ?_⟩⟩
  obtain ⟨y, ys, rfl, ry, rys⟩ := hvv
  obtain ⟨k1, k2⟩ := h3 _ _ _ hr ry
  exact ⟨rel_ros k1 hr.qtabs, y, ys, rfl, k2 _ rfl, flatL_rel _ _ hf rys⟩

theorem told_two {h : Hp} {v v' : V} {n n' : Nat} {f f' : Nat → Int} {rest : List V} (hv : rdI h v n f) (hv' : rdI h v' n' f') (hf : flatL rest) : ∃ (b : Option Addr) (N i c : Nat) (F : Nat → Int) (b' : Option Addr) (N' i' c' : Nat) (F' : Nat → Int), i + n ≤ N ∧ (∀ j, j < n → f j = F (i + j)) ∧ i' + n' ≤ N' ∧ (∀ j, j < n' → f' j = F' (i' + j)) ∧
    Told h (v :: v' :: rest) [(2000, .ro b N 1 (g1 .i64 F)), (2001, .ro b' N' 1 (g1 .i64 F'))] (.slice 2000 i n c :: .slice 2001 i' n' c' :: rest) := by
  obtain ⟨b, N, i, c, F, h1, h2, h3⟩ := rd_one hv 2000
  obtain ⟨b', N', i', c', F', h1', h2', h3'⟩ := rd_one hv' 2001
  refine ⟨b, N, i, c, F, b', N', i', c', F', h1, h2, h1', h2', ⟨fun hr hvv => ?_⟩⟩
  obtain ⟨y, ys, rfl, ry, y', ys', rfl, ry', rys⟩ := hvv
  obtain ⟨k1, k2⟩ := h3 _ _ _ hr ry
  obtain ⟨k1', k2'⟩ := h3' _ _ _ hr ry'
  exact ⟨rel_ros ⟨k1.1, k1'⟩ hr.qtabs, y, _, rfl, k2 _ rfl, y', ys', rfl, k2' _ rfl, flatL_rel _ _ hf rys⟩


theorem appG_eq (l m iv iu : Nat) (gv gu : Nat → Nat → V) (z : Nat → V) (i k : Nat) : appG l m iv iu gv gu z i k = if i < l then gv (iv + i) k else if i < l + m then gu (iu + (i - l)) k else z k := by
  unfold appG
  by_cases h : i < l
  · simp only [blt_iff.2 h, if_pos h, addI_eq]
  · have : Nat.blt i l = false := by cases hq : Nat.blt i l with | true => exact absurd (blt_iff.1 hq) h | false => rfl
    rw [this, if_neg h]
    by_cases h2 : i < l + m
    · simp only [blt_iff.2 h2, if_pos h2, addI_eq]
    · have : Nat.blt i (l + m) = false := by cases hq : Nat.blt i (l + m) with | true => exact absurd (blt_iff.1 hq) h2 | false => rfl
      simp only [this, if_neg h2]
theorem appR_eq (o m iu : Nat) (g gu : Nat → Nat → V) (i k : Nat) : appR o m iu g gu i k = if o ≤ i ∧ i < o + m then gu (iu + (i - o)) k else g i k := by
  unfold appR
  by_cases h : o ≤ i ∧ i < o + m
  · rw [if_pos h]
    have : (Nat.ble o i && Nat.blt i (o + m)) = true := by rw [Nat.ble_eq_true_of_le h.1, blt_iff.2 h.2]; rfl
    rw [this, addI_eq]
  · rw [if_neg h]
    have : (Nat.ble o i && Nat.blt i (o + m)) = false := by
      cases hq : (Nat.ble o i && Nat.blt i (o + m)) with
      | false => rfl
      | true => simp only [Bool.and_eq_true] at hq; exact absurd ⟨Nat.le_of_ble_eq_true hq.1, blt_iff.1 hq.2⟩ h
    rw [this]
/-- One number behind l others, in a new row. -/
theorem appG_int {τ : Nat → Nat} {h : Hp} {k : IntKind} {l : Nat} {gv : Nat → Nat → V} {F : Nat → Int} {x y : Int} {gu : Nat → Nat → V} {z : Nat → V} (hv : ∀ i, i < l → gv i 0 = .int k (F i)) (hg : gu 0 0 = .int k x) (hz : z 0 = .int k y) (i c : Nat) (hc : c < 1) :
    rn τ h (appG l 1 0 0 gv gu z i c) (g1 k (fun i => if i < l then F i else if i = l then x else y) i c) := by
  obtain rfl : c = 0 := by omega
  rw [appG_eq]
  unfold g1
  by_cases h : i < l
  · rw [if_pos h]; simp only [if_pos h, Nat.zero_add, hv i h]; exact ⟨rfl, rfl⟩
  · rw [if_neg h]
    by_cases h2 : i = l
    · subst h2
      rw [if_pos (by omega)]
      simp only [Nat.lt_irrefl, if_false, if_true, Nat.sub_self, Nat.add_zero, hg]
      exact ⟨rfl, rfl⟩
    · rw [if_neg (by omega)]
      simp only [if_neg h, if_neg h2, hz]
      exact ⟨rfl, rfl⟩
theorem appR_int {τ : Nat → Nat} {h : Hp} {k : IntKind} {l : Nat} {F : Nat → Int} {x : Int} {gu : Nat → Nat → V} (hg : gu 0 0 = .int k x) (i c : Nat) (hc : c < 1) :
    rn τ h (appR (0 + l) 1 0 (g1 k F) gu i c) (g1 k (fun i => if i = l then x else F i) i c) := by
  obtain rfl : c = 0 := by omega
  rw [appR_eq]
  unfold g1
  by_cases h2 : i = l
  · subst h2
    rw [if_pos (by omega)]
    simp only [if_true, Nat.zero_add, Nat.sub_self, hg]
    exact ⟨rfl, rfl⟩
  · rw [if_neg (by omega)]
    simp only [if_neg h2]
    exact ⟨rfl, rfl⟩

end Go.Proofs.Ytgcnknhfphgfnaa.Sx
