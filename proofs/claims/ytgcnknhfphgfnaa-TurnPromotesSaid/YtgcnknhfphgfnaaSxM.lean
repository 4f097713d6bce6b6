import Derived.Test.YtgcnknhfphgfnaaSxL
set_option linter.unusedVariables false
set_option linter.unusedSimpArgs false
set_option linter.unusedSectionVars false
/-
  The engine, thirteenth part: what is known of a function that reads at most memory that nobody writes, and answers a value without an address.
-/
namespace Go.Proofs.Ytgcnknhfphgfnaa.Sx
open Go

mutual
/-- A value without an address. -/
def flat : V → Prop
  | .ptr .. => False
  | .slice .. => False
  | .map _ => False
  | .fn _ a b => flatL a ∧ flatL b
  | .iface _ v => flat v
  | .agg l => flatL l
  | .tup l => flatL l
  | _ => True
def flatL : List V → Prop
  | [] => True
  | v :: l => flat v ∧ flatL l
end

mutual
theorem flat_rel {h h' : Hp} : ∀ (v : V) (x : Value), flat v → vrel h v x → vrel h' v x
  | .bool _, _, _, e => e
  | .int _ _, _, _, e => e
  | .flt _ _, _, _, e => e
  | .str _, _, _, e => e
  | .ptr .., _, f, _ => f.elim
  | .nilp, _, _, e => e
  | .slice .., _, f, _ => f.elim
  | .nils, _, _, e => e
  | .map _, _, f, _ => f.elim
  | .nilm, _, _, e => e
  | .fn g a b, x, f, e => by
    obtain ⟨xs, ys, e0, e1, e2⟩ := e
    exact ⟨xs, ys, e0, flatL_rel _ _ f.1 e1, flatL_rel _ _ f.2 e2⟩
  | .nilf, _, _, e => e
  | .iface t v, x, f, e => by
    obtain ⟨y, e0, e1⟩ := e
    exact ⟨y, e0, flat_rel v y f e1⟩
  | .nili, _, _, e => e
  | .agg l, x, f, e => by
    obtain ⟨xs, e0, e1⟩ := e
    exact ⟨xs, e0, flatL_rel _ _ f e1⟩
  | .tup l, x, f, e => by
    obtain ⟨xs, e0, e1⟩ := e
    exact ⟨xs, e0, flatL_rel _ _ f e1⟩
  | .raw _, _, _, e => e
theorem flatL_rel {h h' : Hp} : ∀ (l : List V) (xs : List Value), flatL l → vrelL h l xs → vrelL h' l xs
  | [], _, _, e => e
  | v :: l, xs, f, e => by
    obtain ⟨y, ys, e0, e1, e2⟩ := e
    exact ⟨y, ys, e0, flat_rel v y f.1 e1, flatL_rel l ys f.2 e2⟩
end
def Out.flat : Out → Prop
  | .ret v => Sx.flat v
  | .pan v => Sx.flat v
theorem Out.flat_rel {h h' : Hp} : ∀ {o : Out} {e : Ending}, o.flat → OutRel h o e → OutRel h' o e
  | .ret v, e, f, ⟨x, e1, r⟩ => ⟨x, e1, Sx.flat_rel v x f r⟩
  | .pan v, e, f, ⟨x, e1, r⟩ => ⟨x, e1, Sx.flat_rel v x f r⟩

/-- Read-only entries alone, each of which h has as well. -/
def Has (h : Hp) : Hp → Prop
  | [] => True
  | (t, e) :: r => (fd t h = e ∧ ∃ base n sz g, e = .ro base n sz g) ∧ Has h r
theorem Has.at {h : Hp} : ∀ {G : Hp}, Has h G → ∀ t, fd t G = .gone ∨ (fd t G = fd t h ∧ ∃ base n sz g, fd t G = .ro base n sz g)
  | [], _, t => .inl rfl
  | (u, e) :: r, H, t => by
    obtain ⟨⟨h1, h2⟩, h3⟩ : (fd u h = e ∧ ∃ base n sz g, e = .ro base n sz g) ∧ Has h r := H
    rw [fd_cons]
    by_cases ht : t = u
    · subst ht
      rw [if_pos rfl]
      exact .inr ⟨h1.symm, h2⟩
    · rw [if_neg ht]
      exact Has.at h3 t

/-- The frame of a call that writes nothing that there was. -/
def quiet (P : Program) (w : World) : Cx := ⟨P, w, fun _ => False⟩
theorem Rel.qtabs {c : Cx} {h : Hp} {w : World} (hr : Rel c h w) : Tabs (quiet c.P w) := fun p hp => ⟨hr.tabs.at hr.fr p hp, fun _ _ q => q⟩

mutual
/-- The entries' values carry no address but those of the same entries. -/
def okV (G : Hp) : V → Prop
  | .ptr t _ _ => (fd t G).rf.isSome
  | .slice t _ _ _ => (fd t G).rf.isSome
  | .map t => (fd t G).rf.isSome
  | .fn _ a b => okL G a ∧ okL G b
  | .iface _ v => okV G v
  | .agg l => okL G l
  | .tup l => okL G l
  | _ => True
def okL (G : Hp) : List V → Prop
  | [] => True
  | v :: l => okV G v ∧ okL G l
end
section
variable {h G : Hp} (hx : ∀ t, (fd t G).rf.isSome → (fd t h).rf = (fd t G).rf)
include hx
mutual
theorem ok_rel : ∀ (v : V) (x : Value), okV G v → vrel h v x → vrel G v x
  | .bool _, _, _, e => e
  | .int _ _, _, _, e => e
  | .flt _ _, _, _, e => e
  | .str _, _, _, e => e
  | .ptr t i c, x, f, e => by
    obtain ⟨ad, sz, e1, e2⟩ := e
    exact ⟨ad, sz, (hx t f).symm.trans e1, e2⟩
  | .nilp, _, _, e => e
  | .slice t i l c, x, f, e => by
    obtain ⟨ad, sz, e1, e2⟩ := e
    exact ⟨ad, sz, (hx t f).symm.trans e1, e2⟩
  | .nils, _, _, e => e
  | .map t, x, f, e => by
    obtain ⟨b, e1, e2⟩ := e
    exact ⟨b, (hx t f).symm.trans e1, e2⟩
  | .nilm, _, _, e => e
  | .fn g a b, x, f, e => by
    obtain ⟨xs, ys, e0, e1, e2⟩ := e
    exact ⟨xs, ys, e0, okL_rel _ _ f.1 e1, okL_rel _ _ f.2 e2⟩
  | .nilf, _, _, e => e
  | .iface t v, x, f, e => by
    obtain ⟨y, e0, e1⟩ := e
    exact ⟨y, e0, ok_rel v y f e1⟩
  | .nili, _, _, e => e
  | .agg l, x, f, e => by
    obtain ⟨xs, e0, e1⟩ := e
    exact ⟨xs, e0, okL_rel _ _ f e1⟩
  | .tup l, x, f, e => by
    obtain ⟨xs, e0, e1⟩ := e
    exact ⟨xs, e0, okL_rel _ _ f e1⟩
  | .raw _, _, _, e => e
theorem okL_rel : ∀ (l : List V) (xs : List Value), okL G l → vrelL h l xs → vrelL G l xs
  | [], _, _, e => e
  | v :: l, xs, f, e => by
    obtain ⟨y, ys, e0, e1, e2⟩ := e
    exact ⟨y, ys, e0, ok_rel v y f.1 e1, okL_rel l ys f.2 e2⟩
end
end

/-- Each cell of the entries is without an address out of G. -/
def okG (G : Hp) : Hp → Prop
  | [] => True
  | (_, .ro _ n sz g) :: r => (∀ i c, i < n → c < sz → okV G (g i c)) ∧ okG G r
  | _ => False
theorem okG_at {G : Hp} : ∀ {l : Hp}, okG G l → ∀ t base n sz g, fd t l = .ro base n sz g → ∀ i c, i < n → c < sz → okV G (g i c)
  | [], _, t, base, n, sz, g, e => by cases e
  | (u, .blk ..) :: r, h, t, base, n, sz, g, e => by exact (h : False).elim
  | (u, .gone) :: r, h, t, base, n, sz, g, e => by exact (h : False).elim
  | (u, .ro base' n' sz' g') :: r, h, t, base, n, sz, g, e => by
    obtain ⟨h1, h2⟩ : (∀ i c, i < n' → c < sz' → okV G (g' i c)) ∧ okG G r := h
    rw [fd_cons] at e
    split at e
    · cases e
      exact h1
    · exact okG_at h2 t base n sz g e

theorem Rel.sub {c : Cx} {h G : Hp} {w : World} (hr : Rel c h w) (hG : Has h G) (ho : okG G G) : Rel (quiet c.P w) G w := by
  have hx : ∀ t, (fd t G).rf.isSome → (fd t h).rf = (fd t G).rf := fun t ht => by
    rcases hG.at t with e | ⟨e, _⟩
    · rw [e] at ht; cases ht
    · rw [e]
  refine ⟨⟨rfl, rfl, rfl, Nat.le_refl _, fun _ _ _ => rfl⟩, fun t => ?_, fun t t' hne => ?_, hr.qtabs⟩
  · rcases hG.at t with e | ⟨e, base, n, sz, g, e2⟩
    · rw [e]; trivial
    · have h1 := hr.holds t
      rw [e2]
      rw [← e, e2] at h1
      intro i k hi hk
      obtain ⟨ad, x, e3, hc, hv⟩ := Ent.ro_cell hr.fr h1 hi hk
      exact ⟨ad, x, e3, hc, ok_rel hx _ _ (okG_at ho t base n sz g e2 i k hi hk) hv, fun q => q⟩
  · rcases hG.at t with e | ⟨e, base, n, sz, g, e2⟩
    · rw [e]; trivial
    · rw [e2]; trivial

theorem Rel.after {c : Cx} {h : Hp} {w w' : World} (hr : Rel c h w) {P : Program} (hf : Fr (quiet P w) w') : Rel c h w' := by
  have keep : ∀ k, k < w.heap.size → w'.heap[k]? = w.heap[k]? := fun k hk => hf.block k hk (fun q => q)
  refine ⟨⟨hf.os.trans hr.fr.os, hf.tape.trans hr.fr.tape, hf.output.trans hr.fr.output, Nat.le_trans hr.fr.size hf.size, fun k hk ho => (keep k (Nat.lt_of_lt_of_le hk hr.fr.size)).trans (hr.fr.block k hk ho)⟩, fun t => ?_, hr.apart, hr.tabs⟩
  exact Ent.holds_heap (Ext.refl h) (fun b he => keep b (hr.lta he)) (hr.holds t)

theorem callFunc_enter {P : Program} {f : Nat} {fn : Func} {cd : Code} (hf : P.funcs[f]? = some fn) (hx : (fn.name == "runtime.NumGoroutine") = false) (hb : fn.body = some cd) (xs : Array Value) (w : World) :
    (callFunc f xs).run P w = .ok (.enter f xs) w := by
  have hx' : ¬ fn.name = "runtime.NumGoroutine" := fun e => by rw [e] at hx; cases hx
  simp [callFunc, hf, hx', hb]

/-- A function that reads no memory but G and what it makes itself: it is walked once. -/
theorem specOK_pure' {P : Program} {f : Nat} {fn : Func} {cd : Code} {T : Tab} {SP : SpT} (hf : P.funcs[f]? = some fn) (hx : (fn.name == "runtime.NumGoroutine") = false) (hb : fn.body = some cd) (hT : TabOK P T) (hS : ∀ p ∈ SP, SpecOK P p.1 p.2) (G : Hp) (ho : okG G G) (n : Nat) (s : Spec)
    (hs : ∀ args h nx K, s args h nx K → Has h G ∧ ∀ xs, vrelL h args xs → ∃ args', vrelL G args' xs ∧ args'.length ≤ fn.ntmps ∧ ∃ post : Out → Prop, (∀ o, post o → o.flat ∧ K o h nx) ∧ ∀ c, c.P = P → vc ⟨c, fn, T, SP, fun o _ _ => post o⟩ n [.code cd] (argsS args' 0) G 0) : SpecOK P f s := by
  intro c hc args h nx K hk w xs hr hv
  obtain ⟨hG, hrest⟩ := hs _ _ _ _ hk
  obtain ⟨args', hv', hlen, post, hpost, hvc⟩ := hrest xs hv
  subst hc
  have hE : EnvOK ⟨quiet c.P w, fn, T, SP, fun o _ _ => post o⟩ := ⟨hT, hS⟩
  refine .inl ⟨callFunc_enter hf hx hb _ w, ?_⟩
  refine (enter hE (f := f) hf hb hv' (hr.sub hG ho) hlen n (hvc _ rfl)).mono ?_
  rintro e w' ⟨o, h1, nx1, hp, hr1, hor⟩
  exact ⟨o, h, nx, (hpost o hp).2, hr.after hr1.fr, Ext.refl h, Out.flat_rel (hpost o hp).1 hor⟩

theorem specOK_pure {P : Program} {f : Nat} {fn : Func} {cd : Code} {T : Tab} {SP : SpT} (hf : P.funcs[f]? = some fn) (hx : (fn.name == "runtime.NumGoroutine") = false) (hb : fn.body = some cd) (hT : TabOK P T) (hS : ∀ p ∈ SP, SpecOK P p.1 p.2) (G : Hp) (ho : okG G G) (n : Nat) (s : Spec)
    (hs : ∀ args h nx K, s args h nx K → Has h G ∧ flatL args ∧ args.length ≤ fn.ntmps ∧ ∃ post : Out → Prop, (∀ o, post o → o.flat ∧ K o h nx) ∧ ∀ c, c.P = P → vc ⟨c, fn, T, SP, fun o _ _ => post o⟩ n [.code cd] (argsS args 0) G 0) : SpecOK P f s :=
  specOK_pure' hf hx hb hT hS G ho n s fun args h nx K hk => let ⟨hG, hfl, hlen, rest⟩ := hs args h nx K hk; ⟨hG, fun xs hv => ⟨args, flatL_rel args xs hfl hv, hlen, rest⟩⟩

/-- A slice of which nothing but its length matters. -/
def lenV : V → Option Nat
  | .slice _ _ n _ => some n
  | .nils => some 0
  | .raw (.slice _ n _) => some n
  | _ => none
theorem lenV_raw {h : Hp} {v : V} {x : Value} {n : Nat} (e : lenV v = some n) (r : vrel h v x) : ∃ b c, x = .slice b n c := by
  unfold lenV at e
  split at e
  · injection e with e; subst e; obtain ⟨base, sz, _, rfl, _⟩ := r; exact ⟨_, _, rfl⟩
  · injection e with e; subst e; obtain rfl := r; exact ⟨_, _, rfl⟩
  · injection e with e; subst e; obtain rfl := r; exact ⟨_, _, rfl⟩
  · cases e

/-- A loop of few rounds, told out round by round. -/
def loopN (E : Env) (body : Code) (k : List It) : Nat → Sl → Hp → Nat → Prop
  | 0, _, _, _ => False
  | n + 1, σ, h, nx => W E (.code body :: .fin (loopN E body k n) :: k) σ h nx

theorem W_unroll {E : Env} {body : Code} {k : List It} {σ : Sl} {h : Hp} (n nx : Nat) (hs : loopN E body k n σ h nx) : W E (.code (.loop body) :: k) σ h 0 := by
  intro a w hm
  refine wp_loop_ghost (fun n a w => ∃ σ h nx, loopN E body k n σ h nx ∧ Match E.c E.fn.ntmps σ h a w) n ⟨σ, h, nx, hs, hm⟩ ?_
  rintro n a w ⟨σ, h, nx, hJ, hm⟩
  cases n with
  | zero => exact hJ.elim
  | succ n =>
    refine wp_mono (hJ a w hm) ?_
    intro e a' w' hq
    cases e with
    | normal =>
      obtain ⟨σ', h', nx', hJ', hm'⟩ := hq
      exact ⟨n, Nat.lt_succ_self n, σ', h', nx', hJ', hm'⟩
    | exit id => exact hq
    | goto l => exact hq
    | ret => exact hq
    | panic ch => exact hq
    | outgrown => exact hq

theorem mkE {c : Cx} {P : Program} (hc : c.P = P) {fn : Func} {T : Tab} {SP : SpT} {R : Out → Hp → Nat → Prop} (hT : TabOK P T) (hS : ∀ p ∈ SP, SpecOK P p.1 p.2) : EnvOK ⟨c, fn, T, SP, R⟩ := by
  subst hc
  exact ⟨hT, hS⟩

theorem outI {k : IntKind} {a b : Int} (h : a = b) : Out.ret (.int k a) = Out.ret (.int k b) := by rw [h]
theorem outB {a b : Bool} (h : a = b) : Out.ret (.bool a) = Out.ret (.bool b) := by rw [h]
theorem outIB {k : IntKind} {a b : Int} {p q : Bool} (h : a = b) (h' : p = q) : Out.ret (.tup [.int k a, .bool p]) = Out.ret (.tup [.int k b, .bool q]) := by rw [h, h']
theorem outII {k k' : IntKind} {a b : Int} {p q : Int} (h : a = b) (h' : p = q) : Out.ret (.tup [.int k a, .int k' p]) = Out.ret (.tup [.int k b, .int k' q]) := by rw [h, h']
theorem outAII {k k' : IntKind} {a b : Int} {p q : Int} (h : a = b) (h' : p = q) : Out.ret (.agg [.int k a, .int k' p]) = Out.ret (.agg [.int k b, .int k' q]) := by rw [h, h']

/-! ### Branches, their conditions read as statements -/
section
variable {A B : Prop}
theorem br_dec {p : Prop} {i : Decidable p} (h : p → A) (k : ¬ p → B) : br (@decide p i) A B := br_both (fun e => h (of_decide_eq_true e)) (fun e => k (of_decide_eq_false e))
theorem br_decT {p : Prop} {i : Decidable p} (hp : p) (h : A) : br (@decide p i) A B := br_t (decide_eq_true hp) h
theorem br_decF {p : Prop} {i : Decidable p} (hp : ¬ p) (h : B) : br (@decide p i) A B := br_f (decide_eq_false hp) h
theorem br_eq {a b : Int} (h : a = b → A) (k : a ≠ b → B) : br (a == b) A B := br_both (fun e => h (eq_of_beq e)) (fun e => k (fun q => by subst q; simp at e))
theorem br_eqT {a b : Int} (hp : a = b) (h : A) : br (a == b) A B := br_t (by subst hp; simp) h
theorem br_eqF {a b : Int} (hp : a ≠ b) (h : B) : br (a == b) A B := br_f (by simpa using hp) h
theorem br_ne {a b : Int} (h : a ≠ b → A) (k : a = b → B) : br (a != b) A B := br_both (fun e => h (by simpa using e)) (fun e => k (by simpa using e))
theorem br_neT {a b : Int} (hp : a ≠ b) (h : A) : br (a != b) A B := br_t (by simpa using hp) h
theorem br_neF {a b : Int} (hp : a = b) (h : B) : br (a != b) A B := br_f (by subst hp; simp) h
theorem br_not {b : Bool} (h : br b B A) : br (!b) A B := by cases b <;> exact h
end

end Go.Proofs.Ytgcnknhfphgfnaa.Sx
