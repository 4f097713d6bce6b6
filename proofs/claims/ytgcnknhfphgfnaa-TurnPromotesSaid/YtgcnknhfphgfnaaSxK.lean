import Derived.Test.YtgcnknhfphgfnaaSxJ
import Derived.Deep.LoopGhost
set_option linter.unusedVariables false
set_option linter.unusedSimpArgs false
set_option linter.unusedSectionVars false
/-
  The engine, eleventh part: a function is entered; a loop; what is known is told anew.
-/
namespace Go.Proofs.Ytgcnknhfphgfnaa.Sx
open Go

/-! ### A function is entered -/
def argsS : List V → Nat → Sl
  | [], _ => []
  | v :: vs, i => (i, v) :: argsS vs (i + 1)

theorem argsS_ok {h : Hp} : ∀ {vs : List V} {xs : List Value} (i : Nat), vrelL h vs xs → ∀ t v, lk t (argsS vs i) = some v → i ≤ t ∧ ∃ x, xs[t - i]? = some x ∧ vrel h v x
  | [], xs, i, _, t, v, e => by simp [argsS, lk] at e
  | u :: vs, xs, i, ⟨y, ys, e1, r1, r2⟩, t, v, e => by
    subst e1
    rw [argsS, lk_cons] at e
    split at e
    · rename_i ht
      subst ht
      injection e with e
      subst e
      exact ⟨Nat.le_refl _, y, by simp, r1⟩
    · obtain ⟨h1, x, h2, h3⟩ := argsS_ok (i + 1) r2 t v e
      refine ⟨by omega, x, ?_, h3⟩
      rw [show t - i = (t - (i + 1)) + 1 from by omega]
      simpa using h2

theorem enter {E : Env} (hE : EnvOK E) {f : Nat} (hf : E.c.P.funcs[f]? = some E.fn) {cd : Code} (hb : E.fn.body = some cd) {vs : List V} {xs : List Value} {h : Hp} {nx : Nat} {w : World} (hr : vrelL h vs xs) (hrel : Rel E.c h w)
    (hn : vs.length ≤ E.fn.ntmps) (n : Nat) (hv : vc E n [.code cd] (argsS vs 0) h nx) : Calls E.c.P f xs.toArray w E.post := by
  refine calls_of_wp hf hb ?_
  have hl := vrelL_length hr
  have hm : Match E.c E.fn.ntmps (argsS vs 0) h { tmps := xs.toArray ++ Array.replicate (E.fn.ntmps - xs.toArray.size) undef, defers := [] } w := by
    refine ⟨by simp; omega, fun t v e => ?_, rfl, hrel⟩
    obtain ⟨_, x, ex, rx⟩ := argsS_ok 0 hr t v e
    simp only [Nat.sub_zero] at ex
    have hlt : t < xs.length := (List.getElem?_eq_some_iff.1 ex).1
    have : (xs.toArray ++ Array.replicate (E.fn.ntmps - xs.toArray.size) undef).getD t undef = x := by
      rw [Array.getD_eq_getD_getElem?, Array.getElem?_append_left (by simpa using hlt)]
      simp [ex]
    rw [this]
    exact rx
  exact vc_sound hE n _ _ _ _ hv _ _ hm

/-! ### What is known is told anew: by other tags, or less of it -/
def tau : List (Nat × Nat) → Nat → Nat
  | [], t => t
  | (u, s) :: r, t => match t.beq u with | true => s | false => tau r t

def live (h : Hp) (t : Nat) : Prop := match fd t h with | .gone => False | _ => True

mutual
/-- A value v told anew as u: u's tags t come from the tags τ t, and are alive in h'. -/
def rn (τ : Nat → Nat) (h' : Hp) : V → V → Prop
  | .bool a, .bool b => a = b
  | .int k a, .int k' b => k = k' ∧ a = b
  | .flt k a, .flt k' b => k = k' ∧ a = b
  | .str a, .str b => a = b
  | .ptr t i c, .ptr t' i' c' => (t = τ t' ∧ live h' t') ∧ i = i' ∧ c = c'
  | .nilp, .nilp => True
  | .slice t i l c, .slice t' i' l' c' => (t = τ t' ∧ live h' t') ∧ i = i' ∧ l = l' ∧ c = c'
  | .nils, .nils => True
  | .map t, .map t' => t = τ t' ∧ live h' t'
  | .nilm, .nilm => True
  | .fn f a b, .fn f' a' b' => f = f' ∧ rnL τ h' a a' ∧ rnL τ h' b b'
  | .nilf, .nilf => True
  | .iface t x, .iface t' y => t = t' ∧ rn τ h' x y
  | .nili, .nili => True
  | .agg l, .agg l' => rnL τ h' l l'
  | .tup l, .tup l' => rnL τ h' l l'
  | .raw x, .raw y => x = y
  | _, _ => False
def rnL (τ : Nat → Nat) (h' : Hp) : List V → List V → Prop
  | [], [] => True
  | v :: l, u :: us => rn τ h' v u ∧ rnL τ h' l us
  | _, _ => False
end

section
variable {τ : Nat → Nat} {h h' : Hp} (hx : ∀ t', live h' t' → (fd t' h').rf = (fd (τ t') h).rf)
include hx
mutual
theorem rn_rel : ∀ (v u : V) (x : Value), rn τ h' v u → vrel h v x → vrel h' u x
  | .bool _, u, x, r, e => by cases u <;> simp only [rn] at r; subst r; exact e
  | .int _ _, u, x, r, e => by cases u <;> simp only [rn] at r; obtain ⟨rfl, rfl⟩ := r; exact e
  | .flt _ _, u, x, r, e => by cases u <;> simp only [rn] at r; obtain ⟨rfl, rfl⟩ := r; exact e
  | .str _, u, x, r, e => by cases u <;> simp only [rn] at r; subst r; exact e
  | .ptr t i c, u, x, r, e => by
    cases u <;> simp only [rn] at r
    obtain ⟨⟨rfl, hl⟩, rfl, rfl⟩ := r
    obtain ⟨ad, sz, e1, e2⟩ := e
    exact ⟨ad, sz, (hx _ hl).trans e1, e2⟩
  | .nilp, u, x, r, e => by cases u <;> simp only [rn] at r; exact e
  | .slice t i l c, u, x, r, e => by
    cases u <;> simp only [rn] at r
    obtain ⟨⟨rfl, hl⟩, rfl, rfl, rfl⟩ := r
    obtain ⟨ad, sz, e1, e2⟩ := e
    exact ⟨ad, sz, (hx _ hl).trans e1, e2⟩
  | .nils, u, x, r, e => by cases u <;> simp only [rn] at r; exact e
  | .map t, u, x, r, e => by
    cases u <;> simp only [rn] at r
    obtain ⟨rfl, hl⟩ := r
    obtain ⟨b, e1, e2⟩ := e
    exact ⟨b, (hx _ hl).trans e1, e2⟩
  | .nilm, u, x, r, e => by cases u <;> simp only [rn] at r; exact e
  | .fn f a b, u, x, r, e => by
    cases u <;> simp only [rn] at r
    obtain ⟨rfl, r1, r2⟩ := r
    obtain ⟨xs, ys, e0, e1, e2⟩ := e
    exact ⟨xs, ys, e0, rnL_rel _ _ _ r1 e1, rnL_rel _ _ _ r2 e2⟩
  | .nilf, u, x, r, e => by cases u <;> simp only [rn] at r; exact e
  | .iface t v, u, x, r, e => by
    cases u <;> simp only [rn] at r
    obtain ⟨rfl, r1⟩ := r
    obtain ⟨y, e0, e1⟩ := e
    exact ⟨y, e0, rn_rel _ _ _ r1 e1⟩
  | .nili, u, x, r, e => by cases u <;> simp only [rn] at r; exact e
  | .agg l, u, x, r, e => by
    cases u <;> simp only [rn] at r
    obtain ⟨xs, e0, e1⟩ := e
    exact ⟨xs, e0, rnL_rel _ _ _ r e1⟩
  | .tup l, u, x, r, e => by
    cases u <;> simp only [rn] at r
    obtain ⟨xs, e0, e1⟩ := e
    exact ⟨xs, e0, rnL_rel _ _ _ r e1⟩
  | .raw _, u, x, r, e => by cases u <;> simp only [rn] at r; subst r; exact e
theorem rnL_rel : ∀ (l us : List V) (xs : List Value), rnL τ h' l us → vrelL h l xs → vrelL h' us xs
  | [], us, xs, r, e => by cases us with
    | nil => exact e
    | cons => exact r.elim
  | v :: l, us, xs, r, e => by
    cases us with
    | nil => exact r.elim
    | cons u us =>
      obtain ⟨y, ys, e0, e1, e2⟩ := e
      exact ⟨y, ys, e0, rn_rel v u y r.1 e1, rnL_rel l us ys r.2 e2⟩
end
end

/-- The slots told anew. -/
def wkS (τ : Nat → Nat) (h' : Hp) (σ : Sl) : Sl → Prop
  | [] => True
  | (t, u) :: r => (match lk t σ with | some v => rn τ h' v u | none => False) ∧ wkS τ h' σ r
/-- A block told anew. -/
def wkE (τ : Nat → Nat) (h' : Hp) : Ent → Ent → Prop
  | .blk b n sz g t, .blk b' n' sz' g' t' => b = b' ∧ n = n' ∧ sz = sz' ∧ t = t' ∧ ∀ i c, i < n → c < sz → rn τ h' (g i c) (g' i c)
  | .ro b n sz g, .ro b' n' sz' g' => b = b' ∧ n = n' ∧ sz = sz' ∧ ∀ i c, i < n → c < sz → rn τ h' (g i c) (g' i c)
  | .mp b l, .mp b' l' => b = b' ∧ l = l'
  | .rmp b l, .rmp b' l' => b = b' ∧ l = l'
  | .it b mb l lf cu, .it b' mb' l' lf' cu' => b = b' ∧ mb = mb' ∧ l = l' ∧ lf = lf' ∧ cu = cu'
  | _, .gone => True
  | _, _ => False
def wkH (τ : Nat → Nat) (h h' : Hp) : Hp → Prop
  | [] => True
  | (t, e) :: r => wkE τ h' (fd (τ t) h) e ∧ wkH τ h h' r
def memB (t : Nat) : List Nat → Bool
  | [] => false
  | u :: r => match t.beq u with | true => true | false => memB t r
def nodupB : List Nat → Bool
  | [] => true
  | t :: r => match memB t r with | true => false | false => nodupB r

theorem memB_iff {t : Nat} : ∀ {l : List Nat}, memB t l = true ↔ t ∈ l
  | [] => by simp [memB]
  | u :: r => by
    unfold memB
    by_cases h : t = u
    · subst h; simp
    · rw [beq_ne h]; simp [h, memB_iff (l := r)]
theorem nodupB_iff : ∀ {l : List Nat}, nodupB l = true → l.Nodup
  | [], _ => List.nodup_nil
  | t :: r, h => by
    unfold nodupB at h
    cases e : memB t r with
    | true => rw [e] at h; cases h
    | false =>
      rw [e] at h
      exact List.nodup_cons.2 ⟨fun hm => (by rw [memB_iff.2 hm] at e; cases e), nodupB_iff h⟩

theorem fd_mem : ∀ {h : Hp} {t : Nat}, live h t → (t, fd t h) ∈ h
  | [], t, hl => by simp [live, fd] at hl
  | (u, e) :: r, t, hl => by
    unfold live at hl
    rw [fd_cons] at hl ⊢
    by_cases h : t = u
    · subst h
      rw [if_pos rfl]
      exact List.mem_cons_self ..
    · rw [if_neg h] at hl ⊢
      exact List.mem_cons_of_mem _ (fd_mem hl)

theorem wkH_at {τ : Nat → Nat} {h h' : Hp} : ∀ {l : Hp}, wkH τ h h' l → ∀ t e, (t, e) ∈ l → wkE τ h' (fd (τ t) h) e
  | [], _, t, e, hm => by simp at hm
  | (u, x) :: r, hw, t, e, hm => by
    obtain ⟨h1, h2⟩ : wkE τ h' (fd (τ u) h) x ∧ wkH τ h h' r := hw
    rcases List.mem_cons.1 hm with hm | hm
    · injection hm with a b
      subst a b
      exact h1
    · exact wkH_at h2 t e hm

def Ent.here (e : Ent) : Prop := match e with | .gone => False | _ => True
theorem wkE_rf {τ : Nat → Nat} {h' : Hp} {e e' : Ent} (h : wkE τ h' e e') (hl : e'.here) : e'.rf = e.rf := by
  cases e <;> cases e' <;> simp only [wkE] at h <;> try exact hl.elim
  · obtain ⟨rfl, _, rfl, _⟩ := h; rfl
  · obtain ⟨rfl, _, rfl, _⟩ := h; rfl
  · obtain ⟨rfl, _⟩ := h; rfl
  · obtain ⟨rfl, _⟩ := h; rfl
  · obtain ⟨rfl, _⟩ := h; rfl
theorem wkE_at {τ : Nat → Nat} {h' : Hp} {e e' : Ent} (h : wkE τ h' e e') {b : Nat} (hb : e'.at = some b) : e.at = some b := by
  cases e' <;> simp only [Ent.at] at hb
  · cases e <;> simp only [wkE] at h
    rw [h.1]; exact hb
  · cases hb
  · cases e <;> simp only [wkE] at h
    rw [h.1]; exact hb
  · cases hb
  · cases e <;> simp only [wkE] at h
    rw [h.1]; exact hb
  · cases hb

theorem inj_of_nodup {τ : Nat → Nat} : ∀ {l : List Nat}, (l.map τ).Nodup → ∀ a b, a ∈ l → b ∈ l → a ≠ b → τ a ≠ τ b
  | [], _, a, b, ha, _, _ => by simp at ha
  | x :: l, hn, a, b, ha, hb, hne => by
    rw [List.map_cons, List.nodup_cons] at hn
    rcases List.mem_cons.1 ha with rfl | ha
    · rcases List.mem_cons.1 hb with rfl | hb
      · exact absurd rfl hne
      · exact fun e => hn.1 (by rw [e]; exact List.mem_map_of_mem hb)
    · rcases List.mem_cons.1 hb with hb | hb
      · exact fun e => hn.1 (by rw [← hb, ← e]; exact List.mem_map_of_mem ha)
      · exact inj_of_nodup hn.2 a b ha hb hne

/-- What is known, told anew. -/
def wk (τ : Nat → Nat) (σ : Sl) (h : Hp) (σ' : Sl) (h' : Hp) : Prop := nodupB ((h'.map (·.1)).map τ) = true ∧ wkS τ h' σ σ' ∧ wkH τ h h' h'

theorem wk_rel {c : Cx} {τ : Nat → Nat} {h h' : Hp} {w : World} (hn : nodupB ((h'.map (·.1)).map τ) = true) (hh : wkH τ h h' h') (hr : Rel c h w) : Rel c h' w := by
  have hx : ∀ t', live h' t' → (fd t' h').rf = (fd (τ t') h).rf := fun t' hl => wkE_rf (wkH_at hh _ _ (fd_mem hl)) hl
  refine ⟨hr.fr, fun t => ?_, fun t t' hne => ?_, hr.tabs⟩
  · by_cases hl : live h' t
    · have h1 := wkH_at hh _ _ (fd_mem hl)
      have h2 := hr.holds (τ t)
      cases e : fd t h' with
      | gone => trivial
      | mp b l =>
        rw [e] at h1
        cases e2 : fd (τ t) h with
        | mp b2 l2 =>
          rw [e2] at h1 h2
          obtain ⟨rfl, rfl⟩ := h1
          exact h2
        | blk => rw [e2] at h1; exact h1.elim
        | ro => rw [e2] at h1; exact h1.elim
        | rmp => rw [e2] at h1; exact h1.elim
        | it => rw [e2] at h1; exact h1.elim
        | gone => rw [e2] at h1; exact h1.elim
      | rmp b l =>
        rw [e] at h1
        cases e2 : fd (τ t) h with
        | rmp b2 l2 =>
          rw [e2] at h1 h2
          obtain ⟨rfl, rfl⟩ := h1
          exact h2
        | blk => rw [e2] at h1; exact h1.elim
        | ro => rw [e2] at h1; exact h1.elim
        | mp => rw [e2] at h1; exact h1.elim
        | it => rw [e2] at h1; exact h1.elim
        | gone => rw [e2] at h1; exact h1.elim
      | it b mb l lf cu =>
        rw [e] at h1
        cases e2 : fd (τ t) h with
        | it b2 mb2 l2 lf2 cu2 =>
          rw [e2] at h1 h2
          obtain ⟨rfl, rfl, rfl, rfl, rfl⟩ := h1
          exact h2
        | blk => rw [e2] at h1; exact h1.elim
        | ro => rw [e2] at h1; exact h1.elim
        | mp => rw [e2] at h1; exact h1.elim
        | rmp => rw [e2] at h1; exact h1.elim
        | gone => rw [e2] at h1; exact h1.elim
      | blk b n sz g ty =>
        rw [e] at h1
        cases e2 : fd (τ t) h with
        | blk b2 n2 sz2 g2 ty2 =>
          rw [e2] at h1 h2
          obtain ⟨rfl, rfl, rfl, rfl, h3⟩ := h1
          obtain ⟨⟨cs, c1, c2, c3⟩, c4⟩ := h2
          exact ⟨⟨cs, c1, c2, fun i k hi hk => let ⟨x, ex, rx⟩ := c3 i k hi hk; ⟨x, ex, rn_rel hx _ _ _ (h3 i k hi hk) rx⟩⟩, c4⟩
        | ro => rw [e2] at h1; exact h1.elim
        | mp => rw [e2] at h1; exact h1.elim
        | rmp => rw [e2] at h1; exact h1.elim
        | it => rw [e2] at h1; exact h1.elim
        | gone => rw [e2] at h1; exact h1.elim
      | ro base n sz g =>
        rw [e] at h1
        cases e2 : fd (τ t) h with
        | ro b2 n2 sz2 g2 =>
          rw [e2] at h1 h2
          obtain ⟨rfl, rfl, rfl, h3⟩ := h1
          exact fun i k hi hk => let ⟨ad, x, ea, ec, rx, ho⟩ := h2 i k hi hk; ⟨ad, x, ea, ec, rn_rel hx _ _ _ (h3 i k hi hk) rx, ho⟩
        | blk => rw [e2] at h1; exact h1.elim
        | mp => rw [e2] at h1; exact h1.elim
        | rmp => rw [e2] at h1; exact h1.elim
        | it => rw [e2] at h1; exact h1.elim
        | gone => rw [e2] at h1; exact h1.elim
    · cases e : fd t h' with
      | gone => trivial
      | blk => simp [live, e] at hl
      | mp => simp [live, e] at hl
      | rmp => simp [live, e] at hl
      | it => simp [live, e] at hl
      | ro => simp [live, e] at hl
  · refine Ent.apart_of fun b b' q1 q2 => ?_
    have hl : live h' t := by
      unfold live
      cases e : fd t h' <;> first | trivial | (rw [e] at q1; cases q1)
    have hl' : live h' t' := by
      unfold live
      cases e : fd t' h' <;> first | trivial | (rw [e] at q2; cases q2)
    have m := fd_mem hl
    have m' := fd_mem hl'
    have k1 := List.mem_map_of_mem (f := (·.1)) m
    have k2 := List.mem_map_of_mem (f := (·.1)) m'
    have hd := inj_of_nodup (nodupB_iff hn) t t' k1 k2 hne
    exact Ent.apart_at (hr.apart _ _ hd) (wkE_at (wkH_at hh _ _ m) q1) (wkE_at (wkH_at hh _ _ m') q2)

theorem wkS_at {τ : Nat → Nat} {h' : Hp} {σ : Sl} : ∀ {l : Sl}, wkS τ h' σ l → ∀ t u, lk t l = some u → ∃ v, lk t σ = some v ∧ rn τ h' v u
  | [], _, t, u, e => by simp [lk] at e
  | (s, x) :: r, ⟨h1, h2⟩, t, u, e => by
    rw [lk_cons] at e
    split at e
    · rename_i ht
      subst ht
      injection e with e
      subst e
      split at h1
      · rename_i v hv; exact ⟨v, hv, h1⟩
      · exact h1.elim
    · exact wkS_at h2 t u e

theorem wk_ok {c : Cx} {N : Nat} {τ : Nat → Nat} {σ σ' : Sl} {h h' : Hp} (hw : wk τ σ h σ' h') {a : Act} {w : World} (hm : Match c N σ h a w) : Match c N σ' h' a w := by
  obtain ⟨hn, hs, hh⟩ := hw
  have hx : ∀ t', live h' t' → (fd t' h').rf = (fd (τ t') h).rf := fun t' hl => wkE_rf (wkH_at hh _ _ (fd_mem hl)) hl
  refine ⟨hm.size, fun t u e => ?_, hm.calm, wk_rel hn hh hm.rel⟩
  obtain ⟨v, e1, r⟩ := wkS_at hs t u e
  exact rn_rel hx _ _ _ r (hm.slots t v e1)

theorem W_weak {E : Env} {k : List It} {σ σ' : Sl} {h h' : Hp} {nx nx' : Nat} (τ : Nat → Nat) (hw : wk τ σ h σ' h') (hv : W E k σ' h' nx') : W E k σ h nx := fun a w hm => hv a w (wk_ok hw hm)

/-! ### A loop -/
/-- At a round's end: the relation J at a smaller number, of what is known told anew. -/
def Again (J : Nat → Sl → Hp → Prop) (n : Nat) (σ : Sl) (h : Hp) : Prop := ∃ n' σ' h', n' < n ∧ J n' σ' h' ∧ ∃ τ, wk τ σ h σ' h'

theorem W_loop {E : Env} {body : Code} {k : List It} {σ σ₀ : Sl} {h h₀ : Hp} (J : Nat → Sl → Hp → Prop) (n₀ : Nat) (h0 : J n₀ σ₀ h₀) (τ : Nat → Nat) (hw : wk τ σ h σ₀ h₀) (nx' : Nat)
    (round : ∀ n σ h, J n σ h → W E (.code body :: .fin (fun σ h _ => Again J n σ h) :: k) σ h nx') : W E (.code (.loop body) :: k) σ h 0 := by
  intro a w hm
  refine wp_loop_ghost (fun n a w => ∃ σ h, J n σ h ∧ Match E.c E.fn.ntmps σ h a w) n₀ ⟨σ₀, h₀, h0, wk_ok hw hm⟩ ?_
  rintro n a w ⟨σ, h, hJ, hm⟩
  refine wp_mono (round n σ h hJ a w hm) ?_
  intro e a' w' hq
  cases e with
  | normal =>
    obtain ⟨σ1, h1, nx1, ⟨n', σ', h', hlt, hJ', τ', hw'⟩, hm'⟩ := hq
    exact ⟨n', hlt, σ', h', hJ', wk_ok hw' hm'⟩
  | exit id => exact hq
  | goto l => exact hq
  | ret => exact hq
  | panic ch => exact hq
  | outgrown => exact hq

/-- Where ways meet: behind x what J says is known. -/
theorem W_cut {E : Env} {x y : Code} {k : List It} {σ : Sl} {h : Hp} (J : Sl → Hp → Prop) (nx : Nat) (h1 : W E (.code x :: .fin (fun σ h _ => ∃ σ' h' τ, J σ' h' ∧ wk τ σ h σ' h') :: k) σ h nx) (nx' : Nat)
    (h2 : ∀ σ h, J σ h → W E (.code y :: k) σ h nx') : W E (.code (.seq x y) :: k) σ h 0 := by
  intro a w hm
  refine wp_seq (wp_mono (h1 a w hm) ?_)
  intro e a' w' hq
  cases e with
  | normal =>
    obtain ⟨σ1, h1, nx1, ⟨σ', h', τ, hJ, hw⟩, hm'⟩ := hq
    exact h2 σ' h' hJ a' w' (wk_ok hw hm')
  | exit id => exact hq
  | goto l => exact hq
  | ret => exact hq
  | panic ch => exact hq
  | outgrown => exact hq

end Go.Proofs.Ytgcnknhfphgfnaa.Sx
