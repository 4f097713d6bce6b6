import Derived.Test.YtkncijljkfpdiaaSxW5
/-
  Functions walked in place, over what their caller knows.
-/
namespace Go.Proofs.Ytkncijljkfpdiaa.Sx
open Go Go.Proofs
set_option maxRecDepth 100000
set_option linter.unusedSimpArgs false
set_option linter.unusedVariables false

theorem specOK_imp {P : Program} {f : Nat} {s1 s2 : Spec} (h1 : SpecOK P f s1) (h2 : ∀ args h nx K, s2 args h nx K → s1 args h nx K) : SpecOK P f s2 := fun c hc args h nx K hk => h1 c hc args h nx K (h2 _ _ _ _ hk)
/-- A call, walked in place; how the fresh tags are numbered behind it is free. -/
def inlx (P : Program) (fn : Func) (cd : Code) (T : Tab) (SP : SpT) : Spec := fun args h nx K =>
  args.length ≤ fn.ntmps ∧ ∀ c, c.P = P → W ⟨c, fn, T, SP, fun o h' _ => Ext h h' ∧ ∃ m, K o h' m⟩ [.code cd] (argsS args 0) h nx
theorem inlx_ok {P : Program} {f : Nat} {fn : Func} {cd : Code} {T : Tab} {SP : SpT} (hf : P.funcs[f]? = some fn) (hx : (fn.name == "runtime.NumGoroutine") = false) (hb : fn.body = some cd) (hT : TabOK P T) (hS : ∀ p ∈ SP, SpecOK P p.1 p.2) :
    SpecOK P f (inlx P fn cd T SP) := by
  intro c hc args h nx K hk w xs hr hv
  obtain ⟨hl, hk⟩ := hk
  refine .inl ⟨callFunc_enter hf hx hb _ w, ?_⟩
  have hE : EnvOK ⟨c, fn, T, SP, fun o h' _ => Ext h h' ∧ ∃ m, K o h' m⟩ := mkE hc hT hS
  have hf' : c.P.funcs[f]? = some fn := by rw [hc]; exact hf
  have := enterW hE (f := f) hf' hb hv hr hl (hk c hc)
  rw [show (Env.c ⟨c, fn, T, SP, fun o h' _ => Ext h h' ∧ ∃ m, K o h' m⟩).P = P from hc] at this
  refine this.mono ?_
  rintro e w' ⟨o, h1, nx1, ⟨hx, m, hp⟩, hr1, hor⟩
  exact ⟨o, h1, m, hp, hr1, hx, hor⟩
theorem and_ext {h h' : Hp} {m : Nat} {o : Out} {K : Out → Hp → Nat → Prop} (hX : Ext h h') (H : Ext h h' → K o h' m) : Ext h h' ∧ ∃ m, K o h' m := ⟨hX, m, H hX⟩
/-- The same heap, told in another order. -/
theorem Ext.fdeq {h h' : Hp} (he : ∀ t, fd t h' = fd t h) : Ext h h' := fun t r e => by rw [he]; exact e
theorem Rel.fdeq {c : Cx} {h h' : Hp} {w : World} (he : ∀ t, fd t h' = fd t h) (hr : Rel c h w) : Rel c h' w :=
  ⟨hr.fr, fun t => by rw [he]; exact Ent.holds_heap (Ext.fdeq he) (fun b _ => rfl) (hr.holds t), fun t t' hne => by rw [he, he]; exact hr.apart t t' hne, hr.tabs⟩
theorem W_fdeq {E : Env} {k : List It} {σ : Sl} {h h' : Hp} {nx nx' : Nat} (he : ∀ t, fd t h' = fd t h) (H : W E k σ h' nx') : W E k σ h nx := fun a w hm =>
  H a w ⟨hm.size, fun t v e => vrel_mono (Ext.fdeq he) _ _ (hm.slots t v e), hm.calm, hm.rel.fdeq he⟩
theorem fdeq_cons {t : Nat} {e : Ent} {h : Hp} (q : fd t h = e) : ∀ u, fd u ((t, e) :: h) = fd u h := fun u => by
  rw [fd_cons]; split
  · rename_i hu; subst hu; exact q.symm
  · rfl
theorem fdeq_cons2 {t : Nat} {e : Ent} {h h' : Hp} (q : fd t h = e) (H : ∀ u, fd u h' = fd u h) : ∀ u, fd u ((t, e) :: h') = fd u h := fun u => by
  rw [fd_cons]; split
  · rename_i hu; subst hu; exact q.symm
  · exact H u
theorem Ext.fd1 {h h' : Hp} {t : Nat} {e : Ent} (H : Ext h h') (q : e.rf = (fd t h').rf) : Ext h ((t, e) :: h') := H.trans (Ext.same q)
theorem Ext.fd2 {h h' : Hp} {t : Nat} {e : Ent} (H : Ext h h') (q : (fd t h').rf = none) : Ext h ((t, e) :: h') := H.trans (Ext.new q)

theorem doStore_of {h : Hp} {tag i c : Nat} {l : List V} {K : Hp → Prop} {b n sz : Nat} {g : Nat → Nat → V} {ty : TypeId} (e : fd tag h = .blk b n sz g ty) (hc : i * sz + c + l.length ≤ n * sz) (hk : K ((tag, .blk b n sz (putG sz g i c l) ty) :: h)) : doStore h tag i c l K := by
  unfold doStore
  rw [e]
  exact chk_ok (Nat.ble_eq_true_of_le hc) hk
/-- One more behind a list: where it lies then. -/
theorem app_two {T : Tab} {t : Nat} (hA : appT T t) {tv nx cp : Nat} {u : V} {l : List Int} {x : Int} {e : Ent} {h : Hp} {K : V → Hp → Nat → Prop} (hl : lstE e l cp) (e1 : fd tv h = e) (hu : rdL h u [x]) (hnx : fd nx h = .gone) (hsz : l.length + 1 ≤ 134217728)
    (k1 : ∀ e', e'.rf = e.rf → lstE e' (l ++ [x]) cp → K (.slice tv 0 (l ++ [x]).length cp) ((tv, e') :: h) nx)
    (k2 : ∀ e' cp', lstE e' (l ++ [x]) cp' → K (.slice nx 0 (l ++ [x]).length cp') ((nx, e') :: h) (nx + 1)) : appS T [t, t] (.slice tv 0 l.length cp) u h nx K := by
  have hcap : l.length ≤ cp := by
    rcases hl with ⟨rfl, rfl, rfl⟩ | ⟨b, g, ty, rfl, h1, h2, h3, h4⟩
    · simp
    · exact h1
  refine app_L (m := [x]) hA (hl.rd e1) (fun _ _ _ _ q => by cases q; exact hcap) hu hnx (by simpa using hsz) (fun q => by cases q) (fun tv' i c q _ hle => ?_) (fun _ b cap g' ty p1 p2 p3 => k2 _ cap (lstE.of p3 p1 p2))
  cases q
  rcases hl with ⟨rfl, rfl, rfl⟩ | ⟨b, g, ty, rfl, h1, h2, h3, h4⟩
  · simp at hle
  · refine ⟨b, cp, g, ty, e1, by simpa using hle, fun g' q1 q2 => k1 _ rfl (lstE.of ⟨fun j hj => ?_, fun j hj => ?_⟩ (by simpa using hle) h2)⟩
    · have := q1 j hj
      rw [Nat.zero_add] at this
      exact this
    · by_cases w : j < (l ++ [x]).length
      · have := q1 j w
        rw [Nat.zero_add] at this
        rw [this]; trivial
      · rw [q2 j (.inr (by simp only [List.length_append, List.length_cons, List.length_nil] at w ⊢; omega))]
        exact h4 j hj


theorem putG_row {g : Nat → Nat → V} {b i : Nat} {v : V} : putG 1 g b (0 + 0) [v] i 0 = if i = b then v else g i 0 := by
  rw [putG_one (by omega) (by omega)]
  by_cases w : i = b
  · rw [if_pos ⟨w, rfl⟩, if_pos w]
  · rw [if_neg (fun q => w q.1), if_neg w]
def sRPush : Spec := fun args h nx K => ∃ (bR n ty b cp : Nat) (g : Nat → Nat → V) (e : Ent) (l : List Int) (t : Int), args = [.ptr 2 b 0, .int .i64 t] ∧ fd 2 h = .blk bR n 1 g ty ∧ b < n ∧ g b 0 = .slice (b + 3000) 0 l.length cp ∧ fd (b + 3000) h = e ∧ lstE e l cp ∧ l.length ≤ 1000 ∧ fd 2900 h = .gone ∧ fd 2901 h = .gone ∧
  ∀ (h' : Hp) (q cp' : Nat) (e' : Ent) (g' : Nat → Nat → V), Ext h h' → (∀ t, t ≠ 2 → t ≠ b + 3000 → t ≠ 2900 → t ≠ 2901 → fd t h' = fd t h) → fd 2 h' = .blk bR n 1 g' ty → (∀ i, g' i 0 = if i = b then .slice q 0 (l ++ [t]).length cp' else g i 0) → fd q h' = e' → lstE e' (l ++ [t]) cp' → (q = b + 3000 ∨ q = 2901) → K (.ret (.tup [])) h' nx
theorem sRPush_ok : SpecOK Try.prog 29 sRPush := specOK_imp (inlx_ok (fn := Try.f29) rfl rfl rfl T_ok (SP := []) noSP) <| by
  rintro args h nx K ⟨bR, n, ty, b, cp, g, e, l, t, rfl, e2, hb, hg, hq, hl, hn, hx0, hx1, hk⟩
  refine ⟨by simp [Try.f29], fun c hc => ?_⟩
  have hE := mkE' (fn := Try.f29) (R := fun o h' _ => Ext h h' ∧ ∃ m, K o h' m) hc noSP
  refine W_fdeq (nx' := 2900) (h' := (2, .blk bR n 1 g ty) :: (2900, .gone) :: (2901, .gone) :: h) (fdeq_cons2 e2 (fdeq_cons2 hx0 (fdeq_cons hx1))) ?_
  refine vc_sound hE 40 _ _ _ 2900 ?_
  have hld : (g (b + 0 / 1) (0 % 1)) = .slice (b + 3000) 0 l.length cp := hg
  (refine (?_ : chk _ _); refine chk_ok (Nat.ble_eq_true_of_le (show b * 1 + 0 + 1 ≤ n * 1 by omega)) ?_)
  (refine (?_ : chk _ _); refine chk_ok rfl ?_)
  rw [hld]
  intro b1
  refine putS_some rfl ?_
  refine vc_app (v := .slice (b + 3000) 0 l.length cp) (u := .slice 2900 0 1 1) rfl rfl ?_
  have fdq : ∀ (A : Hp) (u : Nat), u ∉ A.map (·.1) → fd u (A ++ h) = fd u h := fun A u q => fd_appR q
  refine app_two intT hl (x := t) ?_ (.inr ⟨2900, 0, 1, _, 1, _, rfl, rfl, Nat.le_refl _, fun i hi => (by obtain rfl : i = 0 := (by simpa using hi); rfl)⟩) rfl (by omega) (fun e' hrf hl' => ?_) (fun e' cp' hl' => ?_)
  · repeat rw [fd_cons, if_neg (by omega)]
    exact hq
  · (refine (?_ : chk _ _); refine chk_ok (Nat.ble_eq_true_of_le (show b * 1 + (0 + 0) + 1 ≤ n * 1 by omega)) ?_)
    refine and_ext (m := nx) ?_ fun hX => hk _ (b + 3000) cp e' _ hX (fun u h1 h2 h3 h4 => ?_) (by rw [fd_cons, if_pos rfl]) (fun i => ?_) ?_ hl' (.inl rfl)
    · refine Ext.fd1 (Ext.fd1 (Ext.fd2 (Ext.fdeq (fdeq_cons2 e2 (fdeq_cons2 hx0 (fdeq_cons hx1)))) rfl) (hrf.trans ?_)) rfl
      repeat rw [fd_cons, if_neg (by omega)]
      rw [hq]
    · repeat rw [fd_cons, if_neg (by omega)]
    · exact putG_row
    · rw [fd_cons, if_neg (by omega), fd_cons, if_pos rfl]
  · (refine (?_ : chk _ _); refine chk_ok (Nat.ble_eq_true_of_le (show b * 1 + (0 + 0) + 1 ≤ n * 1 by omega)) ?_)
    refine and_ext (m := nx) ?_ fun hX => hk _ 2901 cp' e' _ hX (fun u h1 h2 h3 h4 => ?_) (by rw [fd_cons, if_pos rfl]) (fun i => ?_) ?_ hl' (.inr rfl)
    · exact Ext.fd1 (Ext.fd2 (Ext.fd2 (Ext.fdeq (fdeq_cons2 e2 (fdeq_cons2 hx0 (fdeq_cons hx1)))) rfl) rfl) rfl
    · repeat rw [fd_cons, if_neg (by omega)]
    · exact putG_row
    · rfl
theorem eraseIdx_ix {k : Int} : ∀ {l : List Int}, k ∈ l → l.eraseIdx (ixZ k l) = l.erase k
  | [], h => by simp at h
  | x :: xs, h => by
    unfold ixZ
    rw [List.erase_cons]
    by_cases e : x = k
    · subst e; simp
    · rw [if_neg e, List.eraseIdx_cons_succ, eraseIdx_ix (by rcases List.mem_cons.1 h with q | q; exact absurd q.symm e; exact q), if_neg (by simpa using e)]
theorem ixZ_lt {k : Int} : ∀ {l : List Int}, k ∈ l → ixZ k l < l.length
  | [], h => by simp at h
  | x :: xs, h => by
    unfold ixZ
    by_cases e : x = k
    · rw [if_pos e]; simp
    · rw [if_neg e]
      have := ixZ_lt (k := k) (l := xs) (by rcases List.mem_cons.1 h with q | q; exact absurd q.symm e; exact q)
      simp; omega
def sRPull : Spec := fun args h nx K => ∃ (bR n ty b cp : Nat) (g : Nat → Nat → V) (e : Ent) (l : List Int) (t : Int), args = [.ptr 2 b 0, .int .i64 t] ∧ fd 2 h = .blk bR n 1 g ty ∧ b < n ∧ g b 0 = .slice (b + 3000) 0 l.length cp ∧ fd (b + 3000) h = e ∧ lstE e l cp ∧ l.length ≤ 1000 ∧ t ∈ l ∧
  ∀ (h' : Hp) (e' : Ent) (g' : Nat → Nat → V), Ext h h' → (∀ t, t ≠ 2 → t ≠ b + 3000 → fd t h' = fd t h) → fd 2 h' = .blk bR n 1 g' ty → (∀ i, g' i 0 = if i = b then .slice (b + 3000) 0 (l.erase t).length cp else g i 0) → fd (b + 3000) h' = e' → lstE e' (l.erase t) cp → K (.ret (.tup [])) h' nx
theorem sRPull_ok : SpecOK Try.prog 30 sRPull := specOK_imp (inlx_ok (fn := Try.f30) rfl rfl rfl T_ok (SP := [(34, sIndex), (35, sDelete)]) (consSP sIndex_ok (consSP sDelete_ok noSP))) <| by
  rintro args h nx K ⟨bR, n, ty, b, cp, g, e, l, t, rfl, e2, hb, hg, hq, hl, hn, hm, hk⟩
  refine ⟨by simp [Try.f30], fun c hc => ?_⟩
  have hE := mkE' (fn := Try.f30) (R := fun o h' _ => Ext h h' ∧ ∃ m, K o h' m) hc (consSP sIndex_ok (consSP sDelete_ok noSP))
  refine W_fdeq (nx' := 2900) (h' := (2, .blk bR n 1 g ty) :: h) (fdeq_cons e2) ?_
  have hq2 : fd (b + 3000) ((2, .blk bR n 1 g ty) :: h) = e := by rw [fd_cons, if_neg (by omega)]; exact hq
  have hix : findI t l = ((ixZ t l : Nat) : Int) := by unfold findI; rw [if_pos hm]
  have hilt := ixZ_lt hm
  have hw : IntKind.i64.wrap (((ixZ t l : Nat) : Int) + 1) = ((ixZ t l + 1 : Nat) : Int) := by simp only [IntKind.wrap_i64]; omega
  refine vc_sound hE 80 _ _ _ 2900 ?_
  have hld : (g (b + 0 / 1) (0 % 1)) = .slice (b + 3000) 0 l.length cp := hg
  (refine (?_ : chk _ _); refine chk_ok (Nat.ble_eq_true_of_le (show b * 1 + 0 + 1 ≤ n * 1 by omega)) ?_)
  (refine (?_ : chk _ _); refine chk_ok rfl ?_)
  rw [hld]
  refine ⟨_, l, t, rfl, hl.rd hq2, by omega, ?_⟩
  rw [hix]
  (refine (?_ : chk _ _); refine chk_ok (Nat.ble_eq_true_of_le (show b * 1 + 0 + 1 ≤ n * 1 by omega)) ?_)
  (refine (?_ : chk _ _); refine chk_ok rfl ?_)
  rw [hld]
  refine ⟨(b + 3000), cp, e, l, ixZ t l, (show [V.slice (b + 3000) 0 l.length cp, .int .i64 ((ixZ t l : Nat) : Int), .int .i64 (IntKind.i64.wrap (((ixZ t l : Nat) : Int) + 1))] = _ by rw [hw]), hq2, hl, hilt, fun e' hrf hl' => ?_⟩
  rw [eraseIdx_ix hm] at hl' ⊢
  (refine (?_ : chk _ _); refine chk_ok (Nat.ble_eq_true_of_le (show b * 1 + (0 + 0) + 1 ≤ n * 1 by omega)) ?_)
  refine and_ext (m := nx) ?_ fun hX => hk _ e' _ hX (fun u h1 h2 => ?_) (by rw [fd_cons, if_pos rfl]) (fun i => putG_row) ?_ hl'
  · refine Ext.fd1 (Ext.fd1 (Ext.fdeq (fdeq_cons e2)) (hrf.trans ?_)) rfl
    rw [hq2]
  · repeat rw [fd_cons, if_neg (by omega)]
  · rw [fd_cons, if_neg (by omega), fd_cons, if_pos rfl]
end Go.Proofs.Ytkncijljkfpdiaa.Sx
