import Derived.Test.YtkncijljkfpdiaaSxWG
/-
  The document's lanes: a list of tickets with their blocks.
-/
namespace Go.Proofs.Ytkncijljkfpdiaa.Sx
open Go Go.Proofs
set_option maxRecDepth 100000
set_option linter.unusedSimpArgs false
set_option linter.unusedVariables false

/-- A row's cells are these tickets and blocks. -/
def prAt (g : Nat → Nat → V) (o : Nat) (S : Std) : Prop := ∀ j, j < S.length → g (o + j) 0 = .int .i64 ((S.getD j (0, 0)).1 : Int) ∧ g (o + j) 1 = .int .i64 (S.getD j (0, 0)).2
def rdP (h : Hp) (v : V) (S : Std) : Prop :=
  (v = .nils ∧ S = []) ∨ ∃ t i c b N g, v = .slice t i S.length c ∧ fd t (roH h) = .ro b N 2 g ∧ i + S.length ≤ N ∧ prAt g i S
def stE (e : Ent) (S : Std) (cap : Nat) : Prop :=
  (S = [] ∧ cap = 0 ∧ ∃ g, e = .ro none 0 2 g) ∨ ∃ b g ty, e = .blk b cap 2 g ty ∧ S.length ≤ cap ∧ cap ≤ 9223372036854775807 ∧ prAt g 0 S ∧ ∀ j k, j < cap → k < 2 → flat (g j k)
theorem stE.cap {e : Ent} {S : Std} {cap : Nat} (h : stE e S cap) : S.length ≤ cap := by
  rcases h with ⟨rfl, rfl, _⟩ | ⟨b, g, ty, rfl, h1, _⟩
  · simp
  · exact h1
theorem stE.here {e : Ent} {S : Std} {cap : Nat} (h : stE e S cap) : e.here := by
  rcases h with ⟨rfl, rfl, g, rfl⟩ | ⟨b, g, ty, rfl, h1, _⟩ <;> trivial
theorem stE.wk {e : Ent} {S : Std} {cap : Nat} (h : stE e S cap) (τ : Nat → Nat) (h' : Hp) : wkE τ h' e e := by
  rcases h with ⟨rfl, rfl, g, rfl⟩ | ⟨b, g, ty, rfl, h1, h2, h3, h4⟩
  · exact ⟨rfl, rfl, rfl, fun i c hi => by omega⟩
  · exact ⟨rfl, rfl, rfl, rfl, fun i c hi hc => flat_rn _ (h4 i c hi hc)⟩
theorem stE.rd {e : Ent} {S : Std} {cap : Nat} (he : stE e S cap) {h : Hp} {t : Nat} (ht : fd t h = e) : rdP h (.slice t 0 S.length cap) S := by
  rcases he with ⟨rfl, rfl, g, rfl⟩ | ⟨b, g, ty, rfl, h1, h2, h3, h4⟩
  · exact .inr ⟨t, 0, 0, none, 0, g, rfl, by rw [fd_roH, ht]; rfl, Nat.le_refl _, fun j hj => by simp at hj⟩
  · exact .inr ⟨t, 0, cap, _, cap, g, rfl, by rw [fd_roH, ht]; rfl, by omega, h3⟩
def appT2 (T : Tab) (t : Nat) : Prop := ∃ ti te, look t T = some ti ∧ Nat.beq ti.kd 7 = true ∧ look ti.el T = some te ∧ te.n = 2 ∧ te.zero = [.int .i64 0, .int .i64 0]
theorem stdT : appT2 T 48 := ⟨_, _, rfl, rfl, rfl, rfl, rfl⟩
theorem getD_appP {l m : Std} {j : Nat} : (l ++ m).getD j (0, 0) = if j < l.length then l.getD j (0, 0) else m.getD (j - l.length) (0, 0) := by
  simp only [List.getD_eq_getElem?_getD]
  split
  · rename_i h; rw [List.getElem?_append_left h]
  · rename_i h; rw [List.getElem?_append_right (by omega)]
theorem app_P {T : Tab} {t : Nat} (hA : appT2 T t) {tv iv cv : Nat} {u : V} {l m : Std} {h : Hp} {nx : Nat} {K : V → Hp → Nat → Prop} (hv : rdP h (.slice tv iv l.length cv) l) (hc : l.length ≤ cv) (hu : rdP h u m) (hnx : fd nx h = .gone) (hsz : l.length + m.length ≤ 134217728)
    (k0 : m = [] → K (.slice tv iv l.length cv) h nx)
    (k1 : m ≠ [] → l.length + m.length ≤ cv → ∃ b n g ty, fd tv h = .blk b n 2 g ty ∧ iv + l.length + m.length ≤ n ∧ ∀ g', (∀ j, j < (l ++ m).length → g' (iv + j) 0 = .int .i64 (((l ++ m).getD j (0, 0)).1 : Int) ∧ g' (iv + j) 1 = .int .i64 ((l ++ m).getD j (0, 0)).2) → (∀ j k, j < iv + l.length ∨ iv + l.length + m.length ≤ j → g' j k = g j k) → K (.slice tv iv (l ++ m).length cv) ((tv, .blk b n 2 g' ty) :: h) nx)
    (k2 : m ≠ [] → ∀ e cap, stE e (l ++ m) cap → K (.slice nx 0 (l ++ m).length cap) ((nx, e) :: h) (nx + 1)) : appS T [t, t] (.slice tv iv l.length cv) u h nx K := by
  obtain ⟨ti, te, e1, e2, e3, e4, e5⟩ := hA
  unfold appS
  simp only [e1, e3]
  refine chk_ok (by simp) (chk_ok e2 (chk_ok (by rw [e4, e5]; rfl) ?_))
  have hlm : (l ++ m).length = l.length + m.length := by simp
  rcases hv with ⟨q, _⟩ | ⟨tv', iv', cv', bv, Nv, gv, qq, d1, d2, d3⟩
  · cases q
  cases qq
  rcases hu with ⟨rfl, rfl⟩ | ⟨tu, iu, cu, bu, Nu, gu, rfl, f1, f2, f3⟩
  · exact chk_ok (Nat.ble_eq_true_of_le hc) (k0 rfl)
  simp only
  refine br_both (fun q => ?_) (fun q => ?_)
  rotate_left
  · have hm : m = [] := by
      cases m with
      | nil => rfl
      | cons x m => rw [Nat.ble_eq_true_of_le (by simp)] at q; cases q
    exact chk_ok (Nat.ble_eq_true_of_le hc) (k0 hm)
  have q : 1 ≤ m.length := Nat.le_of_ble_eq_true q
  have hm : m ≠ [] := by rintro rfl; simp at q
  refine getM_of f1 (chk_ok (by rw [e4, Nat.ble_eq_true_of_le f2]; rfl) ?_)
  refine br_both (fun w => ?_) (fun w => ?_)
  · have w : l.length + m.length ≤ cv := Nat.le_of_ble_eq_true w
    obtain ⟨b, n, g0, ty, a1, a2, a3⟩ := k1 hm w
    rw [a1]
    refine chk_ok (by rw [e4, Nat.ble_eq_true_of_le a2]; rfl) ⟨fun i k hi hk => ?_, ?_⟩
    · rw [e4] at hk
      obtain ⟨f4, f5⟩ := f3 i hi
      match k, hk with
      | 0, _ => rw [f4]; rfl
      | 1, _ => rw [f5]; rfl
    · have d1' : bv = some ⟨b, 0, none⟩ ∧ Nv = n ∧ gv = g0 := by
        rw [fd_roH, a1] at d1
        injection d1 with d1 d2 d3 d4
        exact ⟨d1.symm, d2.symm, d4.symm⟩
      obtain ⟨-, rfl, rfl⟩ := d1'
      have hk := a3 (appR (iv + l.length) m.length iu gv gu) (fun j hj => ?_) (fun j k hj => ?_)
      · rw [hlm] at hk; exact hk
      · rw [hlm] at hj
        rw [appR_eq, appR_eq, getD_appP]
        by_cases w : j < l.length
        · have w2 : ¬ (iv + l.length ≤ iv + j ∧ iv + j < iv + l.length + m.length) := by omega
          rw [if_neg w2, if_neg w2, if_pos w]; exact d3 j w
        · have w2 : iv + l.length ≤ iv + j ∧ iv + j < iv + l.length + m.length := by omega
          rw [if_pos w2, if_pos w2, if_neg w, show iv + j - (iv + l.length) = j - l.length by omega]; exact f3 _ (by omega)
      · rw [appR_eq, if_neg (by omega)]
  · have w : ¬ l.length + m.length ≤ cv := fun q => by rw [Nat.ble_eq_true_of_le q] at w; cases w
    refine chk_ok (Nat.ble_eq_true_of_le hsz) (getM_of d1 (chk_ok (by rw [e4, Nat.ble_eq_true_of_le d2]; rfl) ⟨hnx, fun b cap h1 h2 => ?_⟩))
    have hk := k2 hm (.blk b cap te.n (appG l.length m.length iv iu gv gu (zAt te.zero)) ti.el) cap (.inr ⟨b, _, _, by rw [e4], by rw [hlm]; exact h1, h2, fun j hj => ?_, fun j k hj hk => ?_⟩)
    · rw [hlm] at hk; exact hk
    · rw [hlm] at hj
      rw [Nat.zero_add, appG_eq, appG_eq, getD_appP]
      by_cases w : j < l.length
      · rw [if_pos w, if_pos w, if_pos w]; exact d3 j w
      · rw [if_neg w, if_neg w, if_pos hj, if_pos hj, if_neg w]; exact f3 _ (by omega)
    · rw [appG_eq]
      have hfl : ∀ (g : Nat → Nat → V) (o : Nat) (S : Std) (i : Nat), prAt g o S → i < S.length → flat (g (o + i) k) := fun g o S i hp hi => by
        obtain ⟨x1, x2⟩ := hp i hi
        match k, hk with
        | 0, _ => rw [x1]; trivial
        | 1, _ => rw [x2]; trivial
      split
      · rename_i w; exact hfl gv iv l j d3 w
      · split
        · exact hfl gu iu m _ f3 (by omega)
        · rw [e5]
          match k, hk with
          | 0, _ => trivial
          | 1, _ => trivial
/-- A copy behind a row of nothing. -/
theorem app_copyP {T : Tab} {t : Nat} (hA : appT2 T t) {tv nx : Nat} {b' : Option Addr} {u : V} {m : Std} {g : Nat → Nat → V} {h : Hp} {K : V → Hp → Nat → Prop} (e1 : fd tv (roH h) = .ro b' 0 2 g) (hu : rdP h u m) (hnx : fd nx h = .gone) (hsz : m.length ≤ 134217728)
    (k0 : m = [] → K (.slice tv 0 0 0) h nx) (k2 : ∀ e cp, stE e m cp → K (.slice nx 0 m.length cp) ((nx, e) :: h) (nx + 1)) : appS T [t, t] (.slice tv 0 0 0) u h nx K := by
  refine app_P (l := []) (m := m) hA (.inr ⟨tv, 0, 0, _, 0, g, rfl, e1, Nat.le_refl _, fun j hj => by simp at hj⟩) (Nat.le_refl _) hu hnx (by simpa using hsz) k0 ?_ ?_
  · intro hne hle
    have : 0 < m.length := List.length_pos_iff.2 hne
    exact absurd hle (by simp; omega)
  · intro hne e cap he
    exact k2 e cap he
/-- More behind a list that has a row of its own. -/
theorem app_moreP {T : Tab} {t : Nat} (hA : appT2 T t) {tv nx cp : Nat} {u : V} {l m : Std} {e : Ent} {h : Hp} {K : V → Hp → Nat → Prop} (hl : stE e l cp) (e1 : fd tv h = e) (hu : rdP h u m) (hnx : fd nx h = .gone) (hsz : l.length + m.length ≤ 134217728)
    (k1 : ∀ e', e'.rf = e.rf → stE e' (l ++ m) cp → K (.slice tv 0 (l ++ m).length cp) ((tv, e') :: h) nx)
    (k2 : ∀ e' cp', stE e' (l ++ m) cp' → K (.slice nx 0 (l ++ m).length cp') ((nx, e') :: h) (nx + 1)) (k0 : m = [] → K (.slice tv 0 l.length cp) h nx) : appS T [t, t] (.slice tv 0 l.length cp) u h nx K := by
  refine app_P (m := m) hA (hl.rd e1) hl.cap hu hnx hsz k0 (fun hm hle => ?_) (fun _ e' cap he => k2 e' cap he)
  rcases hl with ⟨rfl, rfl, _⟩ | ⟨b, g, ty, rfl, h1, h2, h3, h4⟩
  · have : 0 < m.length := List.length_pos_iff.2 hm
    exact absurd hle (by simp; omega)
  · refine ⟨b, cp, g, ty, e1, by omega, fun g' q1 q2 => k1 _ rfl (.inr ⟨b, g', ty, rfl, by simpa using hle, h2, fun j hj => q1 j hj, fun j k hj hk => ?_⟩)⟩
    by_cases w : j < (l ++ m).length
    · obtain ⟨x1, x2⟩ := q1 j w
      rw [Nat.zero_add] at x1 x2
      match k, hk with
      | 0, _ => rw [x1]; trivial
      | 1, _ => rw [x2]; trivial
    · rw [q2 j k (.inr (by simp only [List.length_append] at w; omega))]
      exact h4 j k hj hk
end Go.Proofs.Ytkncijljkfpdiaa.Sx

/-
  The document's lanes, read: at (33), Block (25), Lane (26).
-/
namespace Go.Proofs.Ytkncijljkfpdiaa.Sx
open Go Go.Proofs
set_option maxRecDepth 100000
set_option linter.unusedSimpArgs false
set_option linter.unusedVariables false

def gF (n room m cp : Nat) : Nat → Nat → V := fun _ c => match c with
  | 0 => .int .i64 n
  | 1 => .int .i64 room
  | _ => .slice 41 0 m cp
def rsE (e : Ent) (S : Std) (cap : Nat) : Prop :=
  (S = [] ∧ cap = 0 ∧ ∃ g, e = .ro none 0 2 g) ∨ ∃ b g, e = .ro (some b) cap 2 g ∧ S.length ≤ cap ∧ cap ≤ 9223372036854775807 ∧ prAt g 0 S ∧ ∀ j k, j < cap → k < 2 → flat (g j k)
theorem stE.rs {e : Ent} {S : Std} {cap : Nat} (h : stE e S cap) : rsE e.toRo S cap := by
  rcases h with ⟨rfl, rfl, g, rfl⟩ | ⟨b, g, ty, rfl, h1, h2, h3, h4⟩
  · exact .inl ⟨rfl, rfl, g, rfl⟩
  · exact .inr ⟨_, g, rfl, h1, h2, h3, h4⟩
theorem rsE.toRo {e : Ent} {S : Std} {cap : Nat} (h : rsE e S cap) : e.toRo = e := by
  rcases h with ⟨rfl, rfl, g, rfl⟩ | ⟨b, g, rfl, h1, h2, h3, h4⟩ <;> rfl
theorem rsE.here {e : Ent} {S : Std} {cap : Nat} (h : rsE e S cap) : e.here := by
  rcases h with ⟨rfl, rfl, g, rfl⟩ | ⟨b, g, rfl, h1, h2, h3, h4⟩ <;> trivial
theorem rsE.wk {e : Ent} {S : Std} {cap : Nat} (h : rsE e S cap) (τ : Nat → Nat) (h' : Hp) : wkE τ h' e e := by
  rcases h with ⟨rfl, rfl, g, rfl⟩ | ⟨b, g, rfl, h1, h2, h3, h4⟩
  · exact ⟨rfl, rfl, rfl, fun i c hi => by omega⟩
  · exact ⟨rfl, rfl, rfl, fun i c hi hc => flat_rn _ (h4 i c hi hc)⟩
/-- The document's lanes lie at the tags 40 and 41. -/
structure RfR (h : Hp) (bF n room : Nat) (S : Std) (e : Ent) (cp : Nat) : Prop where
  str : fd 40 (roH h) = .ro (some ⟨bF, 0, none⟩) 1 3 (gF n room S.length cp)
  lst : fd 41 (roH h) = e
  is : rsE e S cp
abbrev HF (bF n room : Nat) (S : Std) (e : Ent) (cp : Nat) : Hp := [(40, .ro (some ⟨bF, 0, none⟩) 1 3 (gF n room S.length cp)), (41, e)]
theorem HF.wk {bF n room : Nat} {S : Std} {e : Ent} {cp : Nat} {h h' rest : Hp} {τ : Nat → Nat} (e40 : fd (τ 40) h = .ro (some ⟨bF, 0, none⟩) 1 3 (gF n room S.length cp)) (e41 : fd (τ 41) h = e) (hs : rsE e S cp) (t41 : τ 41 = 41) (v41 : live h' 41) (hr : wkH τ h h' rest) : wkH τ h h' (HF bF n room S e cp ++ rest) := by
  refine ⟨?_, ?_, hr⟩
  · rw [e40]
    refine ⟨rfl, rfl, rfl, fun i c hi hc => ?_⟩
    obtain rfl : i = 0 := by omega
    match c, hc with
    | 0, _ => exact ⟨rfl, rfl⟩
    | 1, _ => exact ⟨rfl, rfl⟩
    | 2, _ => exact ⟨⟨t41.symm, v41⟩, rfl, rfl, rfl⟩
  · rw [e41]; exact hs.wk _ _
theorem RfR.told {h : Hp} {bF n room : Nat} {S : Std} {e : Ent} {cp : Nat} {rest : List V} (H : RfR h bF n room S e cp) (hf : flatL rest) : Told h (.ptr 40 0 0 :: rest) (HF bF n room S e cp) (.ptr 40 0 0 :: rest) :=
  told_wk (tau []) rfl (HF.wk (rest := []) (h' := HF bF n room S e cp) H.str H.lst H.is rfl H.is.here trivial) ⟨⟨⟨rfl, trivial⟩, rfl, rfl⟩, flatL_rn _ hf⟩
theorem HF.rd {bF n room : Nat} {S : Std} {e : Ent} {cp : Nat} (hs : rsE e S cp) {rest : Hp} : RfR (HF bF n room S e cp ++ rest) bF n room S e cp := ⟨rfl, hs.toRo, hs⟩

def atN (S : Std) (t : Int) : Nat := S.findIdx fun p => p.2 == t
def atI (S : Std) (t : Int) : Int := if hasT S t = true then (atN S t : Int) else -1
theorem atN_at {t : Int} : ∀ {S : Std} {j : Nat}, j < S.length → (∀ k, k < j → (S.getD k (0, 0)).2 ≠ t) → (S.getD j (0, 0)).2 = t → hasT S t = true ∧ atN S t = j
  | [], j, hj, _, _ => by simp at hj
  | p :: S, 0, _, _, h => by
    have h : p.2 = t := by simpa using h
    exact ⟨by unfold hasT; simp [h], by unfold atN; rw [List.findIdx_cons]; simp [h]⟩
  | p :: S, j + 1, hj, hn, h => by
    have h0 : p.2 ≠ t := by simpa using hn 0 (by omega)
    obtain ⟨e1, e2⟩ := atN_at (t := t) (S := S) (j := j) (by simpa using hj) (fun k hk => by simpa using hn (k + 1) (by omega)) (by simpa using h)
    have hb : (p.2 == t) = false := by simpa using h0
    refine ⟨by unfold hasT at e1 ⊢; simp [e1], ?_⟩
    unfold atN at e2 ⊢
    rw [List.findIdx_cons, hb, cond_false, e2]
theorem atN_no {t : Int} {S : Std} (h : ∀ k, k < S.length → (S.getD k (0, 0)).2 ≠ t) : hasT S t = false := by
  cases e : hasT S t with
  | false => rfl
  | true =>
    exfalso
    unfold hasT at e
    obtain ⟨p, hp, hpt⟩ := List.any_eq_true.1 e
    obtain ⟨k, hk, rfl⟩ := List.getElem_of_mem hp
    refine h k hk ?_
    simp only [List.getD_eq_getElem?_getD, List.getElem?_eq_getElem hk, Option.getD_some]
    simpa using hpt
theorem atN_blk {t : Int} : ∀ {S : Std}, hasT S t = true → atN S t < S.length ∧ ((S.getD (atN S t) (0, 0)).1 : Int) = blkT S t
  | [], h => by cases h
  | p :: S, h => by
    unfold atN blkT
    rw [List.findIdx_cons, List.find?_cons]
    by_cases e : (p.2 == t) = true
    · rw [e]; simp
    · have e : (p.2 == t) = false := by simpa using e
      have hh : hasT S t = true := by unfold hasT at h ⊢; simpa [e] using h
      obtain ⟨h1, h2⟩ := atN_blk hh
      rw [e]
      simp only [cond_false, List.length_cons]
      exact ⟨Nat.succ_lt_succ h1, by rw [← blkT, ← h2]; rfl⟩
def sRAt : Spec := fun args h nx K => ∃ (bF n room : Nat) (S : Std) (e : Ent) (cp : Nat) (t : Int), args = [.ptr 40 0 0, .int .i64 t] ∧ RfR h bF n room S e cp ∧ S.length ≤ 100000 ∧ K (.ret (.int .i64 (atI S t))) h nx
theorem sRAt_ok : SpecOK Try.prog 33 sRAt := by
  refine specOK_read2 (fn := Try.f33) rfl rfl rfl T_ok (SP := []) noSP 0 _ ?_
  rintro args h nx K ⟨bF, n, room, S, e, cp, t, rfl, H, hn, hk⟩
  refine ⟨_, _, H.told (rest := [.int .i64 t]) ⟨trivial, trivial⟩, by simp [Try.f33], fun o => o = .ret (.int .i64 (atI S t)), ?_, ?_⟩
  · rintro o rfl; exact ⟨trivial, hk⟩
  intro c hc
  have hs := H.is
  clear hk H
  show W _ _ _ _ 0
  have hE := mkE' (fn := Try.f33) (R := fun o _ _ => o = .ret (.int .i64 (atI S t))) hc noSP
  have hwk : wkH (tau []) (HF bF n room S e cp) (HF bF n room S e cp) (HF bF n room S e cp) := HF.wk (rest := []) rfl rfl hs rfl hs.here trivial
  refine vc_sound hE 10 _ _ _ 0 ?_
  refine W_loop (fun r σ h => ∃ j : Nat, r = S.length - j ∧ j ≤ S.length ∧ (∀ k, k < j → (S.getD k (0, 0)).2 ≠ t) ∧ σ = [(0, .ptr 40 0 0), (1, .int .i64 t), (5, .int .i64 j)] ∧ h = HF bF n room S e cp) S.length ⟨0, rfl, by omega, fun k hk => by omega, rfl, rfl⟩ (tau []) ⟨rfl, (by repeat' (first | exact rfl | exact trivial | assumption | refine ⟨?_, ?_⟩)), hwk⟩ 30 ?_
  rintro r σ h1 ⟨j, rfl, hj, hall, rfl, rfl⟩
  refine vc_sound hE 60 _ _ _ 30 ?_
  (refine (?_ : br _ _ _); refine br_dec (fun q => ?_) (fun q => ?_))
  · have hlt : (j : Int) < (S.length : Int) := q
    have hjn : j < S.length := by omega
    have hw : IntKind.i64.wrap ((j : Int) + 1) = ((j + 1 : Nat) : Int) := by simp [IntKind.wrap_i64]; omega
    have hz : addI 0 ((j : Int)).toNat = j := by rw [Int.toNat_natCast, addI_eq, Nat.zero_add]
    rcases hs with ⟨rfl, _, _⟩ | ⟨b, g, rfl, h1, h2, h3, h4⟩
    · simp at hjn
    obtain ⟨g0, g1⟩ := h3 j hjn
    rw [Nat.zero_add] at g0 g1
    (refine (?_ : chk _ _); refine chk_ok (show (decide ((0 : Int) ≤ (j : Int)) && decide ((j : Int) < (S.length : Int))) = true by simp only [Bool.and_eq_true, decide_eq_true_eq]; omega) ?_)
    (refine (?_ : chk _ _); refine chk_ok rfl ?_)
    (refine (?_ : chk _ _); refine chk_ok (Nat.ble_eq_true_of_le (show addI 0 ((j : Int)).toNat * 2 + (0 + 1) + 1 ≤ cp * 2 by rw [hz]; omega)) ?_)
    have hg : g (addI 0 ((j : Int)).toNat + (0 + 1) / 2) ((0 + 1) % 2) = .int .i64 (S.getD j (0, 0)).2 := by rw [hz]; exact g1
    (refine (?_ : chk _ _); refine chk_ok rfl ?_)
    rw [hg]
    (refine (?_ : br _ _ _); refine br_eq (fun e => ?_) (fun e => ?_))
    · have e : (S.getD j (0, 0)).2 = t := e
      obtain ⟨e1, e2⟩ := atN_at hjn hall e
      exact outI (by unfold atI; rw [if_pos e1, e2])
    · have e : (S.getD j (0, 0)).2 ≠ t := e
      refine ⟨S.length - (j + 1), _, _, by omega, ⟨j + 1, rfl, by omega, fun i hi => ?_, rfl, rfl⟩, tau [], rfl, (by repeat' (first | exact rfl | exact trivial | assumption | refine ⟨?_, ?_⟩)), hwk⟩
      by_cases hkj : i = j
      · subst hkj; exact e
      · exact hall i (by omega)
  · have hlt : ¬ (j : Int) < (S.length : Int) := q
    refine outI ?_
    unfold atI
    rw [if_neg (by rw [atN_no fun k hk => hall k (by omega)]; decide)]
def sRBlock : Spec := fun args h nx K => ∃ (bF n room : Nat) (S : Std) (e : Ent) (cp : Nat) (t : Int), args = [.ptr 40 0 0, .int .i64 t] ∧ RfR h bF n room S e cp ∧ S.length ≤ 100000 ∧ K (.ret (.tup [.int .i64 (blkT S t), .bool (hasT S t)])) h nx
theorem sRBlock_ok : SpecOK Try.prog 25 sRBlock := by
  refine specOK_read2 (fn := Try.f25) rfl rfl rfl T_ok (SP := [(33, sRAt)]) (consSP sRAt_ok noSP) 60 _ ?_
  rintro args h nx K ⟨bF, n, room, S, e, cp, t, rfl, H, hn, hk⟩
  refine ⟨_, _, H.told (rest := [.int .i64 t]) ⟨trivial, trivial⟩, by simp [Try.f25], fun o => o = .ret (.tup [.int .i64 (blkT S t), .bool (hasT S t)]), ?_, ?_⟩
  · rintro o rfl; exact ⟨⟨trivial, trivial, trivial⟩, hk⟩
  intro c hc
  have hs := H.is
  clear hk H
  refine ⟨bF, n, room, S, e, cp, t, rfl, HF.rd (rest := []) hs, hn, ?_⟩
  by_cases hh : hasT S t = true
  · obtain ⟨hl, hb⟩ := atN_blk hh
    have hi : atI S t = ((atN S t : Nat) : Int) := by unfold atI; rw [if_pos hh]
    rw [hi]
    rcases hs with ⟨rfl, _, _⟩ | ⟨b, g, rfl, h1, h2, h3, h4⟩
    · simp at hl
    obtain ⟨g0, g1⟩ := h3 _ hl
    rw [Nat.zero_add] at g0 g1
    have hz : addI 0 (((atN S t : Nat) : Int)).toNat = atN S t := by rw [Int.toNat_natCast, addI_eq, Nat.zero_add]
    (refine (?_ : chk _ _); refine chk_ok (show (decide ((0 : Int) ≤ ((atN S t : Nat) : Int)) && decide (((atN S t : Nat) : Int) < (S.length : Int))) = true by simp only [Bool.and_eq_true, decide_eq_true_eq]; omega) ?_)
    (refine (?_ : chk _ _); refine chk_ok rfl ?_)
    (refine (?_ : chk _ _); refine chk_ok (Nat.ble_eq_true_of_le (show addI 0 (((atN S t : Nat) : Int)).toNat * 2 + (0 + 0) + 1 ≤ cp * 2 by rw [hz]; omega)) ?_)
    have hg : g (addI 0 (((atN S t : Nat) : Int)).toNat + (0 + 0) / 2) ((0 + 0) % 2) = .int .i64 (blkT S t) := by rw [hz, ← hb]; exact g0
    (refine (?_ : chk _ _); refine chk_ok rfl ?_)
    rw [hg, hh]
    rfl
  · have hh : hasT S t = false := by simpa using hh
    have hi : atI S t = -1 := by unfold atI; rw [if_neg (by rw [hh]; decide)]
    rw [hi, hh, blkT_no hh]
    rfl
/-- A lane, by the document. -/
def laneB (S : Std) (b : Int) : List Int := (S.filter fun p => ((p.1 : Int) == b)).map (·.2)
theorem laneB_len {S : Std} {b : Int} : (laneB S b).length ≤ S.length := by unfold laneB; rw [List.length_map]; exact List.length_filter_le _ _
theorem laneB_take {S : Std} {b : Int} {j : Nat} (hj : j < S.length) : laneB (S.take (j + 1)) b = laneB (S.take j) b ++ (if ((S.getD j (0, 0)).1 : Int) = b then [(S.getD j (0, 0)).2] else []) := by
  have hd : S.getD j (0, 0) = S[j] := by simp only [List.getD_eq_getElem?_getD, List.getElem?_eq_getElem hj, Option.getD_some]
  unfold laneB
  rw [List.take_succ_eq_append_getElem hj, List.filter_append, List.map_append, hd]
  congr 1
  by_cases e : ((S[j]).1 : Int) = b
  · rw [if_pos e]; simp [e]
  · rw [if_neg e]; simp [e]
theorem laneB_I {n room : Nat} {S : Std} (hF : Fit n room S) {b : Int} : laneI n S b = laneB S b := by
  unfold laneI
  split
  · rename_i h
    have hb : 0 ≤ b ∧ b < n := by unfold isI at h; simpa using h
    unfold lane laneB
    congr 1
    refine List.filter_congr fun p hp => ?_
    by_cases e : (p.1 : Int) = b
    · have : p.1 = b.toNat := by omega
      rw [beq_iff_eq.2 this, beq_iff_eq.2 e]
    · have : p.1 ≠ b.toNat := by omega
      have h1 : (p.1 == b.toNat) = false := by simpa using this
      have h2 : ((p.1 : Int) == b) = false := by simpa using e
      rw [h1, h2]
  · rename_i h
    unfold laneB
    rw [List.filter_eq_nil_iff.2, List.map_nil]
    intro p hp q
    have q : (p.1 : Int) = b := by simpa using q
    have := hF.blk p hp
    refine h ?_
    unfold isI
    simp only [decide_eq_true_eq]
    omega
end Go.Proofs.Ytkncijljkfpdiaa.Sx

/-
  The document's lanes, read: Lane (26), Head (23), Last (24), Heads (27); May (19).
-/
namespace Go.Proofs.Ytkncijljkfpdiaa.Sx
open Go Go.Proofs
set_option maxRecDepth 100000
set_option linter.unusedSimpArgs false
set_option linter.unusedVariables false

theorem laneB_nat {S : Std} {i : Nat} : laneB S (i : Int) = lane S i := by
  unfold laneB lane
  congr 1
  refine List.filter_congr fun p hp => ?_
  by_cases e : p.1 = i
  · rw [beq_iff_eq.2 e, beq_iff_eq.2 (by omega)]
  · have h1 : (p.1 == i) = false := by simpa using e
    have h2 : ((p.1 : Int) == (i : Int)) = false := by simp; omega
    rw [h1, h2]
def sRLane : Spec := fun args h nx K => ∃ (bF n room : Nat) (S : Std) (e : Ent) (cp : Nat) (b : Int), args = [.ptr 40 0 0, .int .i64 b] ∧ RfR h bF n room S e cp ∧ S.length ≤ 100000 ∧ fd nx h = .gone ∧ newL (laneB S b) h nx K
theorem sRLane_ok : SpecOK Try.prog 26 sRLane := by
  refine specOK_newM (fn := Try.f26) rfl rfl rfl T_ok (SP := []) noSP _ ?_
  rintro args h nx K ⟨bF, n, room, S, e, cp, b, rfl, H, hn, hg, hk⟩
  refine ⟨hg, _, _, _, H.told (rest := [.int .i64 b]) ⟨trivial, trivial⟩, by simp [Try.f26], hk, fun c hc => ?_⟩
  have hs := H.is
  clear hk H hg
  have hE := mkE' (fn := Try.f26) (R := fun o h _ => retM (laneB S b) o h) hc noSP
  have wk0 : ∀ (τ : Nat → Nat) (h h' rest : Hp), fd (τ 40) h = .ro (some ⟨bF, 0, none⟩) 1 3 (gF n room S.length cp) → fd (τ 41) h = e → τ 41 = 41 → live h' 41 → wkH τ h h' rest → wkH τ h h' (HF bF n room S e cp ++ rest) := fun τ h h' rest h1 h2 h3 h4 h5 => HF.wk h1 h2 hs h3 h4 h5
  have v41 : ∀ rest, live (HF bF n room S e cp ++ rest) 41 := fun rest => live_fd (e := e) rfl hs.here
  refine W_seq (nx := 0) ?_
  refine W_to (nx := 0) [(0, .ptr 40 0 0), (1, .int .i64 b)] (HF bF n room S e cp ++ []) 30 ?_ ?_
  · refine vc_sound hE 20 _ _ _ 30 ?_
    exact ⟨tau [], rfl, (by repeat' (first | exact rfl | exact trivial | assumption | refine ⟨?_, ?_⟩)), wk0 _ _ _ [] rfl rfl rfl (v41 _) trivial⟩
  refine W_seq (nx := 30) ?_
  refine W_piece (nx := 30) (fun σ1 h1 _ => h1 = HF bF n room S e cp ++ [] ∧ lk 0 σ1 = some (.ptr 40 0 0) ∧ lk 1 σ1 = some (.int .i64 b) ∧ lk 5 σ1 = some .nils) ?_ ?_
  · refine vc_sound hE 20 _ _ _ 30 ?_
    exact ⟨rfl, rfl, rfl, rfl⟩
  rintro σ1 h1 _ ⟨rfl, s0, s1, s5⟩
  refine W_nil (σ' := [(0, .ptr 40 0 0), (1, .int .i64 b), (5, .slice 200 0 (laneB (S.take 0) b).length 0)]) 200 rfl ⟨?_, ?_, ?_, trivial⟩ (nx' := 30) ?_
  · rw [s0]; exact tell_ptr rfl
  · rw [s1]; exact tell_flat trivial
  · rw [s5]; exact tell_nil rfl
  clear s0 s1 s5
  refine W_weak (nx' := 30) (σ' := [(0, .ptr 40 0 0), (1, .int .i64 b), (5, .slice 200 0 (laneB (S.take 0) b).length 0)]) (h' := HF bF n room S e cp ++ [(200, nilE)]) (tau []) ⟨rfl, (by repeat' (first | exact rfl | exact trivial | assumption | refine ⟨?_, ?_⟩)), wk0 _ _ _ [(200, _)] rfl rfl rfl (v41 _) ⟨lst_wk nilL _ _, trivial⟩⟩ ?_
  refine W_seq (nx := 30) ?_
  refine W_ex (nx := 30) (fun (a : Ent × Nat) => lstE a.1 (laneB S b) a.2) (fun a => [(5, .slice 200 0 (laneB S b).length a.2)]) (fun a => HF bF n room S e cp ++ [(200, a.1)]) 30 ?_ ?_
  · refine vc_sound hE 5 _ _ _ 30 ?_
    refine W_loop (fun r σ h => ∃ (j : Nat) (eO : Ent) (cO : Nat), r = S.length - j ∧ j ≤ S.length ∧ lstE eO (laneB (S.take j) b) cO ∧ σ = [(0, .ptr 40 0 0), (1, .int .i64 b), (5, .slice 200 0 (laneB (S.take j) b).length cO), (6, .int .i64 j)] ∧ h = HF bF n room S e cp ++ [(200, eO)])
      S.length ⟨0, nilE, 0, rfl, by omega, nilL, rfl, rfl⟩ (tau []) ⟨rfl, (by repeat' (first | exact rfl | exact trivial | assumption | refine ⟨?_, ?_⟩)), wk0 _ _ _ [(200, _)] rfl rfl rfl (v41 _) ⟨lst_wk nilL _ _, trivial⟩⟩ 30 ?_
    rintro r σ h1 ⟨j, eO, cO, rfl, hj, hl, rfl, rfl⟩
    have v0 : live (HF bF n room S e cp ++ [(200, eO)]) 200 := lst_live hl
    have hll : (laneB (S.take j) b).length ≤ j := Nat.le_trans laneB_len (by rw [List.length_take]; omega)
    refine vc_sound hE 60 _ _ _ 30 ?_
    (refine (?_ : br _ _ _); refine br_dec (fun q => ?_) (fun q => ?_))
    rotate_left
    · have q : ¬ (j : Int) < (S.length : Int) := q
      obtain rfl : j = S.length := by omega
      rw [List.take_length] at hl ⊢
      exact ⟨(eO, cO), hl, tau [], rfl, (by repeat' (first | exact rfl | exact trivial | assumption | refine ⟨?_, ?_⟩)), wk0 _ _ _ [(200, _)] rfl rfl rfl (v41 _) ⟨lst_wk hl _ _, trivial⟩⟩
    have hlt : (j : Int) < (S.length : Int) := q
    have hjn : j < S.length := by omega
    have hw : IntKind.i64.wrap ((j : Int) + 1) = ((j + 1 : Nat) : Int) := by simp [IntKind.wrap_i64]; omega
    have hz : addI 0 ((j : Int)).toNat = j := by rw [Int.toNat_natCast, addI_eq, Nat.zero_add]
    have hst := laneB_take (b := b) hjn
    have hs2 := hs
    rcases hs2 with ⟨h0, _, _⟩ | ⟨bb, g, he, h1, h2, h3, h4⟩
    · rw [h0] at hjn; simp at hjn
    obtain ⟨g0, g1⟩ := h3 j hjn
    rw [Nat.zero_add] at g0 g1
    subst he
    (refine (?_ : chk _ _); refine chk_ok (show (decide ((0 : Int) ≤ (j : Int)) && decide ((j : Int) < (S.length : Int))) = true by simp only [Bool.and_eq_true, decide_eq_true_eq]; omega) ?_)
    (refine (?_ : chk _ _); refine chk_ok rfl ?_)
    (refine (?_ : chk _ _); refine chk_ok (Nat.ble_eq_true_of_le (show addI 0 ((j : Int)).toNat * 2 + (0 + 0) + 1 ≤ cp * 2 by rw [hz]; omega)) ?_)
    have hg : g (addI 0 ((j : Int)).toNat + (0 + 0) / 2) ((0 + 0) % 2) = .int .i64 ((S.getD j (0, 0)).1 : Int) := by rw [hz]; exact g0
    (refine (?_ : chk _ _); refine chk_ok rfl ?_)
    rw [hg]
    (refine (?_ : br _ _ _); refine br_eq (fun q3 => ?_) (fun q3 => ?_))
    · have q3 : ((S.getD j (0, 0)).1 : Int) = b := q3
      rw [if_pos q3] at hst
      (refine (?_ : chk _ _); refine chk_ok (show (decide ((0 : Int) ≤ (j : Int)) && decide ((j : Int) < (S.length : Int))) = true by simp only [Bool.and_eq_true, decide_eq_true_eq]; omega) ?_)
      (refine (?_ : chk _ _); refine chk_ok rfl ?_)
      (refine (?_ : chk _ _); refine chk_ok (Nat.ble_eq_true_of_le (show addI 0 ((j : Int)).toNat * 2 + (0 + 1) + 1 ≤ cp * 2 by rw [hz]; omega)) ?_)
      have hg1 : g (addI 0 ((j : Int)).toNat + (0 + 1) / 2) ((0 + 1) % 2) = .int .i64 (S.getD j (0, 0)).2 := by rw [hz]; exact g1
      (refine (?_ : chk _ _); refine chk_ok rfl ?_)
      rw [hg1]
      intro b1
      refine putS_some rfl ?_
      refine vc_app (v := .slice 200 0 (laneB (S.take j) b).length cO) (u := .slice 30 0 1 1) rfl rfl ?_
      refine app_one intT hl rfl (x := (S.getD j (0, 0)).2) (.inr ⟨30, 0, 1, _, 1, _, rfl, rfl, Nat.le_refl _, fun i hi => (by obtain rfl : i = 0 := (by simpa using hi); rfl)⟩) rfl (by omega) (fun e' hl' => ?_) (fun e' c' hl' => ?_)
      · rw [← hst] at hl' ⊢
        have v2 := lst_live hl'
        exact ⟨S.length - (j + 1), _, _, by omega, ⟨j + 1, e', cO, rfl, by omega, hl', rfl, rfl⟩, tau [], rfl, ⟨⟨⟨rfl, trivial⟩, rfl, rfl⟩, ⟨rfl, rfl⟩, ⟨⟨rfl, v2⟩, rfl, rfl, rfl⟩, ⟨rfl, hw⟩, trivial⟩, wk0 _ _ _ [(200, _)] rfl rfl rfl (v41 _) ⟨lst_wk hl' _ _, trivial⟩⟩
      · rw [← hst] at hl' ⊢
        have v2 := lst_live hl'
        exact ⟨S.length - (j + 1), _, _, by omega, ⟨j + 1, e', c', rfl, by omega, hl', rfl, rfl⟩, tau [(200, 31)], rfl, ⟨⟨⟨rfl, trivial⟩, rfl, rfl⟩, ⟨rfl, rfl⟩, ⟨⟨rfl, v2⟩, rfl, rfl, rfl⟩, ⟨rfl, hw⟩, trivial⟩, wk0 _ _ _ [(200, _)] rfl rfl rfl (v41 _) ⟨lst_wk hl' _ _, trivial⟩⟩
    · have q3 : ((S.getD j (0, 0)).1 : Int) ≠ b := q3
      rw [if_neg q3, List.append_nil] at hst
      rw [← hst] at hl ⊢
      exact ⟨S.length - (j + 1), _, _, by omega, ⟨j + 1, eO, cO, rfl, by omega, hl, rfl, rfl⟩, tau [], rfl, ⟨⟨⟨rfl, trivial⟩, rfl, rfl⟩, ⟨rfl, rfl⟩, ⟨⟨rfl, v0⟩, rfl, rfl, rfl⟩, ⟨rfl, hw⟩, trivial⟩, wk0 _ _ _ [(200, _)] rfl rfl rfl (v41 _) ⟨lst_wk hl _ _, trivial⟩⟩
  rintro ⟨eO, cO⟩ hl
  refine vc_sound hE 20 _ _ _ 30 ?_
  exact Or.inr ⟨200, cO, eO, rfl, rfl, hl⟩

def sRHd (last : Bool) : Spec := fun args h nx K => ∃ (bF n room : Nat) (S : Std) (e : Ent) (cp : Nat) (b : Int), args = [.ptr 40 0 0, .int .i64 b] ∧ RfR h bF n room S e cp ∧ S.length ≤ 100000 ∧ K (.ret (.tup [.int .i64 (endI (laneB S b) last).1, .bool (endI (laneB S b) last).2])) h nx
theorem endI_nil {last : Bool} : endI [] last = (0, false) := rfl
theorem sRHead_ok : SpecOK Try.prog 23 (sRHd false) := by
  refine specOK_read2 (fn := Try.f23) rfl rfl rfl T_ok (SP := [(26, sRLane)]) (consSP sRLane_ok noSP) 0 _ ?_
  rintro args h nx K ⟨bF, n, room, S, e, cp, b, rfl, H, hn, hk⟩
  refine ⟨_, _, H.told (rest := [.int .i64 b]) ⟨trivial, trivial⟩, by simp [Try.f23], fun o => o = .ret (.tup [.int .i64 (endI (laneB S b) false).1, .bool (endI (laneB S b) false).2]), ?_, ?_⟩
  · rintro o rfl; exact ⟨⟨trivial, trivial, trivial⟩, hk⟩
  intro c hc
  have hs := H.is
  clear hk H
  show W _ _ _ _ 0
  have hE := mkE' (fn := Try.f23) (R := fun o _ _ => o = .ret (.tup [.int .i64 (endI (laneB S b) false).1, .bool (endI (laneB S b) false).2])) hc (consSP sRLane_ok noSP)
  refine vc_sound hE 80 _ _ _ 60 ?_
  refine ⟨bF, n, room, S, e, cp, b, rfl, HF.rd (rest := []) hs, hn, rfl, fun e' cap hl => ?_⟩
  (refine (?_ : br _ _ _); refine br_eq (fun q => ?_) (fun q => ?_))
  · have q : ((laneB S b).length : Int) = 0 := q
    have : laneB S b = [] := List.eq_nil_of_length_eq_zero (by omega)
    rw [this]
    rfl
  have q : ((laneB S b).length : Int) ≠ 0 := q
  have hne : laneB S b ≠ [] := by intro w; rw [w] at q; exact q rfl
  have hpos := List.length_pos_iff.2 hne
  rcases hl with ⟨h0, _, _⟩ | ⟨bb, g, ty, rfl, h1, h2, h3, h4⟩
  · exact absurd h0 hne
  (refine (?_ : chk _ _); refine chk_ok (show (decide ((0 : Int) ≤ (0 : Int)) && decide ((0 : Int) < ((laneB S b).length : Int))) = true by simp only [Bool.and_eq_true, decide_eq_true_eq]; omega) ?_)
  (refine (?_ : chk _ _); refine chk_ok rfl ?_)
  (refine (?_ : chk _ _); refine chk_ok (Nat.ble_eq_true_of_le (show addI 0 ((0 : Int)).toNat * 1 + 0 + 1 ≤ cap * 1 by have : addI 0 ((0 : Int)).toNat = 0 := rfl; rw [this]; omega)) ?_)
  have hg : g (addI 0 ((0 : Int)).toNat + 0 / 1) (0 % 1) = .int .i64 ((laneB S b).getD 0 0) := h3 0 hpos
  (refine (?_ : chk _ _); refine chk_ok rfl ?_)
  rw [hg]
  have he : endI (laneB S b) false = ((laneB S b).getD 0 0, true) := by unfold endI; rw [if_neg hne]; rfl
  rw [he]
  rfl
theorem sRLast_ok : SpecOK Try.prog 24 (sRHd true) := by
  refine specOK_read2 (fn := Try.f24) rfl rfl rfl T_ok (SP := [(26, sRLane)]) (consSP sRLane_ok noSP) 0 _ ?_
  rintro args h nx K ⟨bF, n, room, S, e, cp, b, rfl, H, hn, hk⟩
  refine ⟨_, _, H.told (rest := [.int .i64 b]) ⟨trivial, trivial⟩, by simp [Try.f24], fun o => o = .ret (.tup [.int .i64 (endI (laneB S b) true).1, .bool (endI (laneB S b) true).2]), ?_, ?_⟩
  · rintro o rfl; exact ⟨⟨trivial, trivial, trivial⟩, hk⟩
  intro c hc
  have hs := H.is
  clear hk H
  show W _ _ _ _ 0
  have hE := mkE' (fn := Try.f24) (R := fun o _ _ => o = .ret (.tup [.int .i64 (endI (laneB S b) true).1, .bool (endI (laneB S b) true).2])) hc (consSP sRLane_ok noSP)
  have hlb := laneB_len (S := S) (b := b)
  refine vc_sound hE 80 _ _ _ 60 ?_
  refine ⟨bF, n, room, S, e, cp, b, rfl, HF.rd (rest := []) hs, hn, rfl, fun e' cap hl => ?_⟩
  (refine (?_ : br _ _ _); refine br_eq (fun q => ?_) (fun q => ?_))
  · have q : ((laneB S b).length : Int) = 0 := q
    have : laneB S b = [] := List.eq_nil_of_length_eq_zero (by omega)
    rw [this]
    rfl
  have q : ((laneB S b).length : Int) ≠ 0 := q
  have hne : laneB S b ≠ [] := by intro w; rw [w] at q; exact q rfl
  have hpos := List.length_pos_iff.2 hne
  rcases hl with ⟨h0, _, _⟩ | ⟨bb, g, ty, rfl, h1, h2, h3, h4⟩
  · exact absurd h0 hne
  have hw : IntKind.i64.wrap (((laneB S b).length : Int) - 1) = (((laneB S b).length - 1 : Nat) : Int) := by simp only [IntKind.wrap_i64]; omega
  have hz : addI 0 (IntKind.i64.wrap (((laneB S b).length : Int) - 1)).toNat = (laneB S b).length - 1 := by rw [hw, Int.toNat_natCast, addI_eq, Nat.zero_add]
  (refine (?_ : chk _ _); refine chk_ok (show (decide ((0 : Int) ≤ IntKind.i64.wrap (((laneB S b).length : Int) - 1)) && decide (IntKind.i64.wrap (((laneB S b).length : Int) - 1) < ((laneB S b).length : Int))) = true by rw [hw]; simp only [Bool.and_eq_true, decide_eq_true_eq]; omega) ?_)
  (refine (?_ : chk _ _); refine chk_ok rfl ?_)
  (refine (?_ : chk _ _); refine chk_ok (Nat.ble_eq_true_of_le (show addI 0 (IntKind.i64.wrap (((laneB S b).length : Int) - 1)).toNat * 1 + 0 + 1 ≤ cap * 1 by rw [hz]; omega)) ?_)
  have hg : g (addI 0 (IntKind.i64.wrap (((laneB S b).length : Int) - 1)).toNat + 0 / 1) (0 % 1) = .int .i64 ((laneB S b).getD ((laneB S b).length - 1) 0) := by rw [hz]; exact h3 _ (by omega)
  (refine (?_ : chk _ _); refine chk_ok rfl ?_)
  rw [hg]
  have he : endI (laneB S b) true = ((laneB S b).getD ((laneB S b).length - 1) 0, true) := by unfold endI; rw [if_neg hne]; rfl
  rw [he]
  rfl
end Go.Proofs.Ytkncijljkfpdiaa.Sx

/-
  The document's lanes: Heads (27), May (19), New (20).
-/
namespace Go.Proofs.Ytkncijljkfpdiaa.Sx
open Go Go.Proofs
set_option maxRecDepth 100000
set_option linter.unusedSimpArgs false
set_option linter.unusedVariables false

theorem headsN_pos {S : Std} {j : Nat} (h : 0 < (lane S j).length) : headsN S (j + 1) = headsN S j ++ [(lane S j).getD 0 0] := by
  rw [headsN_succ]
  cases e : lane S j with
  | nil => rw [e] at h; cases h
  | cons x xs => rfl
theorem headsN_no {S : Std} {j : Nat} (h : ¬ 0 < (lane S j).length) : headsN S (j + 1) = headsN S j := by
  rw [headsN_succ]
  cases e : lane S j with
  | nil => exact List.append_nil _
  | cons x xs => rw [e] at h; exact absurd (by simp) h
def sRHeads : Spec := fun args h nx K => ∃ (bF n room : Nat) (S : Std) (e : Ent) (cp : Nat), args = [.ptr 40 0 0] ∧ RfR h bF n room S e cp ∧ S.length ≤ 100000 ∧ n ≤ 256 ∧ fd nx h = .gone ∧ newL (headsN S n) h nx K
theorem sRHeads_ok : SpecOK Try.prog 27 sRHeads := by
  refine specOK_newM (fn := Try.f27) rfl rfl rfl T_ok (SP := [(26, sRLane)]) (consSP sRLane_ok noSP) _ ?_
  rintro args h nx K ⟨bF, n, room, S, e, cp, rfl, H, hn, hnn, hg, hk⟩
  refine ⟨hg, _, _, _, H.told (rest := []) trivial, by simp [Try.f27], hk, fun c hc => ?_⟩
  have hs := H.is
  clear hk H hg
  have hE := mkE' (fn := Try.f27) (R := fun o h _ => retM (headsN S n) o h) hc (consSP sRLane_ok noSP)
  have wk0 : ∀ (τ : Nat → Nat) (h h' rest : Hp), fd (τ 40) h = .ro (some ⟨bF, 0, none⟩) 1 3 (gF n room S.length cp) → fd (τ 41) h = e → τ 41 = 41 → live h' 41 → wkH τ h h' rest → wkH τ h h' (HF bF n room S e cp ++ rest) := fun τ h h' rest h1 h2 h3 h4 h5 => HF.wk h1 h2 hs h3 h4 h5
  have v41 : ∀ rest, live (HF bF n room S e cp ++ rest) 41 := fun rest => live_fd (e := e) rfl hs.here
  refine W_seq (nx := 0) ?_
  refine W_to (nx := 0) [(0, .ptr 40 0 0)] (HF bF n room S e cp ++ []) 30 ?_ ?_
  · refine vc_sound hE 20 _ _ _ 30 ?_
    exact ⟨tau [], rfl, (by repeat' (first | exact rfl | exact trivial | assumption | refine ⟨?_, ?_⟩)), wk0 _ _ _ [] rfl rfl rfl (v41 _) trivial⟩
  refine W_seq (nx := 30) ?_
  refine W_piece (nx := 30) (fun σ1 h1 _ => h1 = HF bF n room S e cp ++ [] ∧ lk 0 σ1 = some (.ptr 40 0 0) ∧ lk 3 σ1 = some .nils) ?_ ?_
  · refine vc_sound hE 20 _ _ _ 30 ?_
    exact ⟨rfl, rfl, rfl⟩
  rintro σ1 h1 _ ⟨rfl, s0, s3⟩
  refine W_nil (σ' := [(0, .ptr 40 0 0), (3, .slice 200 0 (headsN S 0).length 0)]) 200 rfl ⟨?_, ?_, trivial⟩ (nx' := 30) ?_
  · rw [s0]; exact tell_ptr rfl
  · rw [s3]; exact tell_nil rfl
  clear s0 s3
  refine W_weak (nx' := 30) (σ' := [(0, .ptr 40 0 0), (3, .slice 200 0 (headsN S 0).length 0)]) (h' := HF bF n room S e cp ++ [(200, nilE)]) (tau []) ⟨rfl, (by repeat' (first | exact rfl | exact trivial | assumption | refine ⟨?_, ?_⟩)), wk0 _ _ _ [(200, _)] rfl rfl rfl (v41 _) ⟨lst_wk nilL _ _, trivial⟩⟩ ?_
  refine W_seq (nx := 30) ?_
  refine W_ex (nx := 30) (fun (a : Ent × Nat) => lstE a.1 (headsN S n) a.2) (fun a => [(3, .slice 200 0 (headsN S n).length a.2)]) (fun a => HF bF n room S e cp ++ [(200, a.1)]) 30 ?_ ?_
  · refine vc_sound hE 5 _ _ _ 30 ?_
    refine W_loop (fun r σ h => ∃ (j : Nat) (eO : Ent) (cO : Nat), r = n - j ∧ j ≤ n ∧ lstE eO (headsN S j) cO ∧ σ = [(0, .ptr 40 0 0), (3, .slice 200 0 (headsN S j).length cO), (4, .int .i64 j)] ∧ h = HF bF n room S e cp ++ [(200, eO)])
      n ⟨0, nilE, 0, rfl, by omega, nilL, rfl, rfl⟩ (tau []) ⟨rfl, (by repeat' (first | exact rfl | exact trivial | assumption | refine ⟨?_, ?_⟩)), wk0 _ _ _ [(200, _)] rfl rfl rfl (v41 _) ⟨lst_wk nilL _ _, trivial⟩⟩ 30 ?_
    rintro r σ h1 ⟨j, eO, cO, rfl, hj, hl, rfl, rfl⟩
    have v0 : live (HF bF n room S e cp ++ [(200, eO)]) 200 := lst_live hl
    have hhl := headsN_len (S := S) (j := j)
    refine vc_sound hE 60 _ _ _ 30 ?_
    (refine (?_ : br _ _ _); refine br_dec (fun q => ?_) (fun q => ?_))
    rotate_left
    · have q : ¬ (j : Int) < (n : Int) := q
      obtain rfl : j = n := by omega
      exact ⟨(eO, cO), hl, tau [], rfl, (by repeat' (first | exact rfl | exact trivial | assumption | refine ⟨?_, ?_⟩)), wk0 _ _ _ [(200, _)] rfl rfl rfl (v41 _) ⟨lst_wk hl _ _, trivial⟩⟩
    have hlt : (j : Int) < (n : Int) := q
    have hw : IntKind.i64.wrap ((j : Int) + 1) = ((j + 1 : Nat) : Int) := by simp [IntKind.wrap_i64]; omega
    refine ⟨bF, n, room, S, e, cp, (j : Int), rfl, HF.rd hs, hn, rfl, fun eY cY hY => ?_⟩
    rw [laneB_nat] at hY ⊢
    (refine (?_ : br _ _ _); refine br_dec (fun q => ?_) (fun q => ?_))
    rotate_left
    · have q : ¬ ((lane S j).length : Int) > 0 := q
      have hst := headsN_no (S := S) (j := j) (by omega)
      rw [← hst] at hl ⊢
      exact ⟨n - (j + 1), _, _, by omega, ⟨j + 1, eO, cO, rfl, by omega, hl, rfl, rfl⟩, tau [], rfl, ⟨⟨⟨rfl, trivial⟩, rfl, rfl⟩, ⟨⟨rfl, v0⟩, rfl, rfl, rfl⟩, ⟨rfl, hw⟩, trivial⟩, wk0 _ _ _ [(200, _)] rfl rfl rfl (v41 _) ⟨lst_wk hl _ _, trivial⟩⟩
    have q : ((lane S j).length : Int) > 0 := q
    have hpos : 0 < (lane S j).length := by omega
    have hst := headsN_pos (S := S) (j := j) hpos
    rcases hY with ⟨h0, _, _⟩ | ⟨bb, g, ty, rfl, h1, h2, h3, h4⟩
    · rw [h0] at hpos; simp at hpos
    (refine (?_ : chk _ _); refine chk_ok (show (decide ((0 : Int) ≤ (0 : Int)) && decide ((0 : Int) < ((lane S j).length : Int))) = true by simp only [Bool.and_eq_true, decide_eq_true_eq]; omega) ?_)
    (refine (?_ : chk _ _); refine chk_ok rfl ?_)
    (refine (?_ : chk _ _); refine chk_ok (Nat.ble_eq_true_of_le (show addI 0 ((0 : Int)).toNat * 1 + 0 + 1 ≤ cY * 1 by have : addI 0 ((0 : Int)).toNat = 0 := rfl; rw [this]; omega)) ?_)
    have hg : g (addI 0 ((0 : Int)).toNat + 0 / 1) (0 % 1) = .int .i64 ((lane S j).getD 0 0) := h3 0 hpos
    (refine (?_ : chk _ _); refine chk_ok rfl ?_)
    rw [hg]
    intro b1
    refine putS_some rfl ?_
    refine vc_app (v := .slice 200 0 (headsN S j).length cO) (u := .slice 31 0 1 1) rfl rfl ?_
    refine app_one intT hl rfl (x := (lane S j).getD 0 0) (.inr ⟨31, 0, 1, _, 1, _, rfl, rfl, Nat.le_refl _, fun i hi => (by obtain rfl : i = 0 := (by simpa using hi); rfl)⟩) rfl (by omega) (fun e' hl' => ?_) (fun e' c' hl' => ?_)
    · rw [← hst] at hl' ⊢
      have v2 := lst_live hl'
      exact ⟨n - (j + 1), _, _, by omega, ⟨j + 1, e', cO, rfl, by omega, hl', rfl, rfl⟩, tau [], rfl, ⟨⟨⟨rfl, trivial⟩, rfl, rfl⟩, ⟨⟨rfl, v2⟩, rfl, rfl, rfl⟩, ⟨rfl, hw⟩, trivial⟩, wk0 _ _ _ [(200, _)] rfl rfl rfl (v41 _) ⟨lst_wk hl' _ _, trivial⟩⟩
    · rw [← hst] at hl' ⊢
      have v2 := lst_live hl'
      exact ⟨n - (j + 1), _, _, by omega, ⟨j + 1, e', c', rfl, by omega, hl', rfl, rfl⟩, tau [(200, 32)], rfl, ⟨⟨⟨rfl, trivial⟩, rfl, rfl⟩, ⟨⟨rfl, v2⟩, rfl, rfl, rfl⟩, ⟨rfl, hw⟩, trivial⟩, wk0 _ _ _ [(200, _)] rfl rfl rfl (v41 _) ⟨lst_wk hl' _ _, trivial⟩⟩
  rintro ⟨eO, cO⟩ hl
  refine vc_sound hE 20 _ _ _ 30 ?_
  exact Or.inr ⟨200, cO, eO, rfl, rfl, hl⟩

def sMay : Spec := fun args h nx K => ∃ a b : Int, args = [.int .i64 a, .int .i64 b] ∧ K (.ret (.bool (mayB a b))) h nx
theorem sMay_ok : SpecOK Try.prog 19 sMay := by
  refine specOK_read2 (fn := Try.f19) rfl rfl rfl T_ok (SP := []) noSP 80 _ ?_
  rintro args h nx K ⟨a, b, rfl, hk⟩
  refine ⟨[], [.int .i64 a, .int .i64 b], ⟨fun hr hv => ⟨rel_ros trivial hr.qtabs, flatL_rel [.int .i64 a, .int .i64 b] _ ⟨trivial, trivial, trivial⟩ hv⟩⟩, by simp [Try.f19], fun o => o = .ret (.bool (mayB a b)), ?_, ?_⟩
  · rintro o rfl; exact ⟨trivial, hk⟩
  intro c hc
  have e : ∀ v, (mayB a b = v) → V.bool v = .bool (mayB a b) := fun v h => by rw [h]
  (refine (?_ : br _ _ _); refine br_dec (fun q => ?_) (fun q => ?_))
  rotate_left
  · have q : ¬ a ≥ 1 := q
    exact outB (decide_eq_false (show ¬ (1 ≤ a ∧ a ≤ 256 ∧ 1 ≤ b ∧ b ≤ 128) by omega)).symm
  have q1 : a ≥ 1 := q
  (refine (?_ : br _ _ _); refine br_dec (fun q => ?_) (fun q => ?_))
  rotate_left
  · have q : ¬ a ≤ 256 := q
    exact outB (decide_eq_false (show ¬ (1 ≤ a ∧ a ≤ 256 ∧ 1 ≤ b ∧ b ≤ 128) by omega)).symm
  have q2 : a ≤ 256 := q
  (refine (?_ : br _ _ _); refine br_dec (fun q => ?_) (fun q => ?_))
  rotate_left
  · have q : ¬ b ≥ 1 := q
    exact outB (decide_eq_false (show ¬ (1 ≤ a ∧ a ≤ 256 ∧ 1 ≤ b ∧ b ≤ 128) by omega)).symm
  have q3 : b ≥ 1 := q
  refine outB ?_
  unfold mayB
  refine decide_eq_decide.2 ?_
  constructor
  · intro h; exact ⟨q1, q2, q3, h⟩
  · intro h; exact h.2.2.2
end Go.Proofs.Ytkncijljkfpdiaa.Sx

/-
  The document's lanes: New (20), Push (21).
-/
namespace Go.Proofs.Ytkncijljkfpdiaa.Sx
open Go Go.Proofs
set_option maxRecDepth 100000
set_option linter.unusedSimpArgs false
set_option linter.unusedVariables false

abbrev nilP : Ent := .ro none 0 2 (fun _ _ => .nils)
theorem nilPE : stE nilP [] 0 := .inl ⟨rfl, rfl, _, rfl⟩
def sRNew : Spec := fun args h nx K => ∃ n room : Nat, args = [.int .i64 n, .int .i64 room] ∧ fd 40 h = .gone ∧ fd 41 h = .gone ∧ ∀ bF, K (.ret (.ptr 40 0 0)) ([(40, .blk bF 1 3 (gF n room 0 0) 50), (41, nilP)] ++ h) nx
theorem sRNew_ok : SpecOK Try.prog 20 sRNew := by
  refine specOK_gen5 (fn := Try.f20) rfl rfl rfl T_ok (SP := []) noSP _ ?_
  rintro args h nx K ⟨n, room, rfl, f40, f41, hk⟩
  refine ⟨tau [], [], [.int .i64 n, .int .i64 room], rfl, fun p hp => absurd hp (by simp), ⟨⟨rfl, rfl⟩, ⟨rfl, rfl⟩, trivial⟩, by simp [Try.f20], fun o h1 => ∃ (bF : Nat) (g : Nat → Nat → V), o = .ret (.ptr 60 0 0) ∧ fd 60 h1 = .blk bF 1 3 g 50 ∧ g 0 0 = .int .i64 n ∧ g 0 1 = .int .i64 room ∧ g 0 2 = .nils, ?_, fun c hc => ?_⟩
  · rintro o h1 ⟨bF, g, rfl, e60, g0, g1, g2⟩
    have hnn : ∀ t' b', (fd t' ([] : Hp)).at = some b' → False := fun t' b' e => by cases e
    have key : ∀ t, memB t (([(40, Ent.blk bF 1 3 (gF n room 0 0) 50), (41, nilP)] : Hp).map (·.1)) = true → t = 40 ∨ t = 41 := fun t ht => by
      have := memB_iff.1 ht
      simpa using this
    refine ⟨tau [(40, 60)], _, _, nx, ⟨fun t ht => ?_, fun t b e => (hnn _ _ e).elim, fun t t' ht ht' hne => ?_, ?_⟩, hk bF⟩
    · rcases key t ht with rfl | rfl
      · refine .inr (.inr (.inl ⟨bF, 1, 3, g, _, 50, f40, e60, rfl, fun t' b' e => (hnn _ _ e).elim, fun i k hi hk => ?_⟩))
        obtain rfl : i = 0 := by omega
        match k, hk with
        | 0, _ => rw [g0]; exact tell_flat trivial
        | 1, _ => rw [g1]; exact tell_flat trivial
        | 2, _ => rw [g2]; exact tell_nil (n := 0) (sz := 2) (g := fun _ _ => .nils) rfl
      · exact .inl ⟨f41, .inr ⟨2, _, rfl⟩⟩
    · rcases key t ht with rfl | rfl <;> rcases key t' ht' with rfl | rfl <;> first | exact absurd rfl hne | decide
    · rintro e ⟨x, ex, rx⟩
      exact ⟨x, ex, tell_ptr (h1 := h1) (by rw [e60]; rfl) x rx⟩
  · have hE := mkE' (fn := Try.f20) (R := fun o h1 _ => ∃ (bF : Nat) (g : Nat → Nat → V), o = .ret (.ptr 60 0 0) ∧ fd 60 h1 = .blk bF 1 3 g 50 ∧ g 0 0 = .int .i64 n ∧ g 0 1 = .int .i64 room ∧ g 0 2 = .nils) hc noSP
    refine vc_sound hE 40 _ _ _ 60 ?_
    intro bF
    exact ⟨bF, _, rfl, rfl, rfl, rfl, rfl⟩

/-- The document's lanes, that may be written. -/
structure RfW (h : Hp) (bF n room : Nat) (S : Std) (e : Ent) (cp : Nat) : Prop where
  str : fd 40 h = .blk bF 1 3 (gF n room S.length cp) 50
  lst : fd 41 h = e
  is : stE e S cp
theorem RfW.rd {h : Hp} {bF n room : Nat} {S : Std} {e : Ent} {cp : Nat} (H : RfW h bF n room S e cp) : RfR h bF n room S e.toRo cp := ⟨by rw [fd_roH, H.str]; rfl, by rw [fd_roH, H.lst], H.is.rs⟩
/-- What is known behind a step: the list lies at the tag q. -/
structure RfQ (h h' : Hp) (bF n room : Nat) (S : Std) (e : Ent) (cp q : Nat) : Prop where
  rest : ∀ t, t ≠ 40 → (t < 2850 ∨ 2854 ≤ t) → fd t h' = fd t h
  str : ∃ g, fd 40 h' = .blk bF 1 3 g 50 ∧ g 0 0 = .int .i64 n ∧ g 0 1 = .int .i64 room ∧ g 0 2 = .slice q 0 S.length cp
  lst : fd q h' = e
  is : stE e S cp
  tag : q = 41 ∨ (2850 ≤ q ∧ q < 2854)
theorem RfW.q {h h' : Hp} {bF n room : Nat} {S : Std} {e : Ent} {cp : Nat} (H : RfW h bF n room S e cp) (he : ∀ t, fd t h' = fd t h) : RfQ h h' bF n room S e cp 41 :=
  ⟨fun t _ _ => he t, ⟨_, (he 40).trans H.str, rfl, rfl, rfl⟩, (he 41).trans H.lst, H.is, .inl rfl⟩
theorem RfR.fdeq {h h' : Hp} {bF n room : Nat} {S : Std} {e : Ent} {cp : Nat} (he : ∀ t, fd t h' = fd t h) (H : RfR h bF n room S e cp) : RfR h' bF n room S e cp := ⟨by rw [fd_roH, he, ← fd_roH]; exact H.str, by rw [fd_roH, he, ← fd_roH]; exact H.lst, H.is⟩
theorem putG_str {g : Nat → Nat → V} {v : V} : putG 3 g 0 (0 + 2) [v] 0 0 = g 0 0 ∧ putG 3 g 0 (0 + 2) [v] 0 1 = g 0 1 ∧ putG 3 g 0 (0 + 2) [v] 0 2 = v := by
  refine ⟨?_, ?_, ?_⟩
  · rw [putG_one (by omega) (by omega), if_neg (by omega)]
  · rw [putG_one (by omega) (by omega), if_neg (by omega)]
  · rw [putG_one (by omega) (by omega), if_pos ⟨rfl, rfl⟩]
def sRPush2 : Spec := fun args h nx K => ∃ (bF n room : Nat) (S : Std) (e : Ent) (cp : Nat) (b t : Int), args = [.ptr 40 0 0, .int .i64 b, .int .i64 t] ∧ RfW h bF n room S e cp ∧ Fit n room S ∧ (∀ k, 2850 ≤ k → k < 2854 → fd k h = .gone) ∧
  ∀ (h' : Hp) (e' : Ent) (cp' q : Nat), Ext h h' → RfQ h h' bF n room (pushS n room S b t) e' cp' q → K (.ret (.int .i64 (pushC n room S b t))) h' nx
theorem sRPush2_ok : SpecOK Try.prog 21 sRPush2 := specOK_imp (inlx_ok (fn := Try.f21) rfl rfl rfl T_ok (SP := [(33, sRAt)]) (consSP sRAt_ok noSP)) <| by
  rintro args h nx K ⟨bF, n, room, S, e, cp, b, t, rfl, H, hF, hx, hk⟩
  refine ⟨by simp [Try.f21], fun c hc => ?_⟩
  have hE := mkE' (fn := Try.f21) (R := fun o h' _ => Ext h h' ∧ ∃ m, K o h' m) hc (consSP sRAt_ok noSP)
  have heq : ∀ u, fd u ((40, .blk bF 1 3 (gF n room S.length cp) 50) :: (41, e) :: (2850, .gone) :: (2851, .gone) :: (2852, .gone) :: (2853, .gone) :: h) = fd u h := fdeq_cons2 H.str (fdeq_cons2 H.lst (fdeq_cons2 (hx _ (by decide) (by decide)) (fdeq_cons2 (hx _ (by decide) (by decide)) (fdeq_cons2 (hx _ (by decide) (by decide)) (fdeq_cons (hx _ (by decide) (by decide)))))))
  have hlS := hF.len
  have hrm := hF.room
  have hout : ∀ {C : Int}, pushC n room S b t = C → C ≠ 0 → Ext h ((40, .blk bF 1 3 (gF n room S.length cp) 50) :: (41, e) :: (2850, .gone) :: (2851, .gone) :: (2852, .gone) :: (2853, .gone) :: h) ∧ ∃ m, K (.ret (.int .i64 C)) ((40, .blk bF 1 3 (gF n room S.length cp) 50) :: (41, e) :: (2850, .gone) :: (2851, .gone) :: (2852, .gone) :: (2853, .gone) :: h) m := fun {C} hC h0 => by
    subst hC
    refine and_ext (m := nx) (Ext.fdeq heq) fun hX => hk _ e cp 41 hX ?_
    rw [pushS_ne h0]
    exact H.q heq
  refine W_fdeq (nx' := 2850) heq ?_
  refine vc_sound hE 200 _ _ _ 2850 ?_
  (refine (?_ : br _ _ _); refine br_dec (fun q => ?_) (fun q => ?_))
  · have q : b < 0 := q
    exact hout (by unfold pushC; rw [if_pos (.inl (by unfold isI; simp only [decide_eq_false_iff_not]; omega))]) (by decide)
  have q1 : ¬ b < 0 := q
  (refine (?_ : br _ _ _); refine br_dec (fun q => ?_) (fun q => ?_))
  · have q : b ≥ n := q
    exact hout (by unfold pushC; rw [if_pos (.inl (by unfold isI; simp only [decide_eq_false_iff_not]; omega))]) (by decide)
  have q2 : ¬ b ≥ n := q
  (refine (?_ : br _ _ _); refine br_dec (fun q => ?_) (fun q => ?_))
  · have q : t < 1 := q
    exact hout (by unfold pushC; rw [if_pos (.inr q)]) (by decide)
  have q3 : ¬ t < 1 := q
  have h1 : ¬ (isI n b = false ∨ t < 1) := by
    rintro (w | w)
    · unfold isI at w; simp only [decide_eq_false_iff_not] at w; omega
    · exact q3 w
  refine ⟨bF, n, room, S, e.toRo, cp, t, rfl, H.rd.fdeq heq, by omega, ?_⟩
  by_cases hh : hasT S t = true
  · have hi : atI S t = ((atN S t : Nat) : Int) := by unfold atI; rw [if_pos hh]
    rw [hi]
    exact hout (by unfold pushC; rw [if_neg h1, if_pos hh]) (by decide)
  have hh' : hasT S t = false := by simpa using hh
  have hi : atI S t = -1 := by unfold atI; rw [if_neg hh]
  rw [hi]
  refine W_drawn (id := 5) hE 2850 1000 (by rw [hc]; exact mix) (by kernel_rfl) (by kernel_rfl) 10 ?_
  iterate 10 (refine ⟨_, ⟨rfl, rfl⟩, ?_⟩)
  (refine (?_ : br _ _ _); refine br_dec (fun q4 => ?_) (fun q4 => ?_))
  · have q4 : ((S.length : Nat) : Int) ≥ room := q4
    exact hout (by unfold pushC; rw [if_neg h1, if_neg hh, if_pos (by omega)]) (by decide)
  have q4 : ¬ ((S.length : Nat) : Int) ≥ room := q4
  have hC : pushC n room S b t = 0 := by unfold pushC; rw [if_neg h1, if_neg hh, if_neg (by omega)]
  obtain ⟨bn, rfl⟩ : ∃ bn : Nat, b = (bn : Int) := ⟨b.toNat, by omega⟩
  have hS : pushS n room S (bn : Int) t = S ++ [(bn, t)] := pushS_of hC
  rw [hC, hS] at hk
  have fin : ∀ (A : Hp) (q : Nat) (e' : Ent) (cp' : Nat), Ext h ((40, .blk bF 1 3 (putG 3 (gF n room S.length cp) 0 (0 + 2) [.slice q 0 (S ++ [(bn, t)]).length cp']) 50) :: (A ++ ((40, .blk bF 1 3 (gF n room S.length cp) 50) :: (41, e) :: (2850, .gone) :: (2851, .gone) :: (2852, .gone) :: (2853, .gone) :: h))) → ((A.map (·.1)).all fun u => Nat.ble 2850 u && Nat.blt u 2854) = true → fd q A = e' → e'.here → stE e' (S ++ [(bn, t)]) cp' → (2850 ≤ q ∧ q < 2854) → Ext h ((40, .blk bF 1 3 (putG 3 (gF n room S.length cp) 0 (0 + 2) [.slice q 0 (S ++ [(bn, t)]).length cp']) 50) :: (A ++ ((40, .blk bF 1 3 (gF n room S.length cp) 50) :: (41, e) :: (2850, .gone) :: (2851, .gone) :: (2852, .gone) :: (2853, .gone) :: h))) ∧ ∃ m, K (.ret (.int .i64 0)) ((40, .blk bF 1 3 (putG 3 (gF n room S.length cp) 0 (0 + 2) [.slice q 0 (S ++ [(bn, t)]).length cp']) 50) :: (A ++ ((40, .blk bF 1 3 (gF n room S.length cp) 50) :: (41, e) :: (2850, .gone) :: (2851, .gone) :: (2852, .gone) :: (2853, .gone) :: h))) m := fun A q e' cp' hX hA hq hhere hs hqr => by
    have hA : ∀ u ∈ A.map (·.1), 2850 ≤ u ∧ u < 2854 := fun u hu => by
      have := List.all_eq_true.1 hA u hu
      rw [Bool.and_eq_true] at this
      have h2 : u + 1 ≤ 2854 := Nat.le_of_ble_eq_true this.2
      exact ⟨Nat.le_of_ble_eq_true this.1, h2⟩
    refine and_ext (m := nx) hX fun hX => hk _ e' cp' q hX ⟨fun u u1 u2 => ?_, ⟨_, by rw [fd_cons, if_pos rfl], putG_str.1, putG_str.2.1, putG_str.2.2⟩, ?_, hs, .inr hqr⟩
    · rw [fd_cons, if_neg u1, fd_appR fun w => by have := hA u w; omega]
      exact heq u
    · rw [fd_cons, if_neg (by omega)]
      rcases fd_app A ((40, .blk bF 1 3 (gF n room S.length cp) 50) :: (41, e) :: (2850, .gone) :: (2851, .gone) :: (2852, .gone) :: (2853, .gone) :: h) q with ⟨_, w⟩ | ⟨_, _, w⟩
      · rw [w]; exact hq
      · rw [hq] at w; rw [w] at hhere; exact hhere.elim
  intro b0
  refine putS_some rfl ?_
  refine W_app hE 4 (v := .slice 2850 0 0 0) (u := .slice 41 0 S.length cp) (nx := 2851) (nx' := 2851) rfl rfl ?_
  have hu : rdP ((2850, .blk b0 0 2 (gOf 2 []) 64) :: (40, .blk bF 1 3 (gF n room S.length cp) 50) :: (41, e) :: (2850, .gone) :: (2851, .gone) :: (2852, .gone) :: (2853, .gone) :: h) (.slice 41 0 S.length cp) S := H.is.rd rfl
  have hx1 : ∀ (h : Hp) (tt : Nat) (bb : Nat), fd tt h = .blk bb 1 2 (gOf 2 [.int .i64 (bn : Int), .int .i64 t]) 64 → rdP h (.slice tt 0 1 1) [(bn, t)] := fun h tt bb w => .inr ⟨tt, 0, 1, _, 1, _, rfl, by rw [fd_roH, w]; rfl, Nat.le_refl _, fun j hj => by
    obtain rfl : j = 0 := by simpa using hj
    exact ⟨rfl, rfl⟩⟩
  refine app_copyP stdT rfl hu rfl (by omega) (fun e0 => ?_) (fun ec cc hc2 => ?_)
  · have hlc : stE (.blk b0 0 2 (gOf 2 []) 64) S 0 := by rw [e0]; exact .inr ⟨_, _, _, rfl, Nat.le_refl _, by omega, fun j hj => by simp at hj, fun j k hj => by omega⟩
    have e0' : (0 : Nat) = S.length := by rw [e0]; rfl
    rw [show V.slice 2850 0 0 0 = .slice 2850 0 S.length 0 by rw [← e0']]
    refine putS_some rfl ?_
    intro b1
    refine putS_some rfl ?_
    refine W_app hE 60 (v := .slice 2850 0 S.length 0) (u := .slice 2851 0 1 1) (nx := 2852) (nx' := 2852) rfl rfl ?_
    refine app_moreP stdT hlc rfl (m := [(bn, t)]) (hx1 _ 2851 b1 rfl) rfl (by simp only [List.length_cons, List.length_nil]; omega) (fun e' hrf hs' => ?_) (fun e' cp' hs' => ?_) (fun q => by cases q)
    · exact fin [(2850, e'), (2851, .blk b1 1 2 (gOf 2 [.int .i64 (bn : Int), .int .i64 t]) 64), (2850, .blk b0 0 2 (gOf 2 []) 64)] 2850 e' 0 ((((((Ext.fdeq heq).fd2 (t := 2850) (e := .blk b0 0 2 (gOf 2 []) 64) rfl).fd2 (t := 2851) (e := .blk b1 1 2 (gOf 2 [.int .i64 (bn : Int), .int .i64 t]) 64) rfl)).fd1 hrf).fd1 rfl) rfl rfl hs'.here hs' (by decide)
    · exact fin [(2852, e'), (2851, .blk b1 1 2 (gOf 2 [.int .i64 (bn : Int), .int .i64 t]) 64), (2850, .blk b0 0 2 (gOf 2 []) 64)] 2852 e' cp' ((((((Ext.fdeq heq).fd2 (t := 2850) (e := .blk b0 0 2 (gOf 2 []) 64) rfl).fd2 (t := 2851) (e := .blk b1 1 2 (gOf 2 [.int .i64 (bn : Int), .int .i64 t]) 64) rfl)).fd2 rfl).fd1 rfl) rfl rfl hs'.here hs' (by decide)
  · skip
    refine putS_some rfl ?_
    intro b1
    refine putS_some rfl ?_
    refine W_app hE 60 (v := .slice 2851 0 S.length cc) (u := .slice 2852 0 1 1) (nx := 2853) (nx' := 2853) rfl rfl ?_
    refine app_moreP stdT hc2 rfl (m := [(bn, t)]) (hx1 _ 2852 b1 rfl) rfl (by simp only [List.length_cons, List.length_nil]; omega) (fun e' hrf hs' => ?_) (fun e' cp' hs' => ?_) (fun q => by cases q)
    · exact fin [(2851, e'), (2852, .blk b1 1 2 (gOf 2 [.int .i64 (bn : Int), .int .i64 t]) 64), (2851, ec), (2850, .blk b0 0 2 (gOf 2 []) 64)] 2851 e' cc ((((((Ext.fdeq heq).fd2 (t := 2850) (e := .blk b0 0 2 (gOf 2 []) 64) rfl).fd2 (t := 2851) (e := ec) rfl).fd2 (t := 2852) (e := .blk b1 1 2 (gOf 2 [.int .i64 (bn : Int), .int .i64 t]) 64) rfl).fd1 hrf).fd1 rfl) rfl rfl hs'.here hs' (by decide)
    · exact fin [(2853, e'), (2852, .blk b1 1 2 (gOf 2 [.int .i64 (bn : Int), .int .i64 t]) 64), (2851, ec), (2850, .blk b0 0 2 (gOf 2 []) 64)] 2853 e' cp' ((((((Ext.fdeq heq).fd2 (t := 2850) (e := .blk b0 0 2 (gOf 2 []) 64) rfl).fd2 (t := 2851) (e := ec) rfl).fd2 (t := 2852) (e := .blk b1 1 2 (gOf 2 [.int .i64 (bn : Int), .int .i64 t]) 64) rfl).fd2 rfl).fd1 rfl) rfl rfl hs'.here hs' (by decide)
end Go.Proofs.Ytkncijljkfpdiaa.Sx

/-
  The document's lanes: Pull (22).
-/
namespace Go.Proofs.Ytkncijljkfpdiaa.Sx
open Go Go.Proofs
set_option maxRecDepth 100000
set_option linter.unusedSimpArgs false
set_option linter.unusedVariables false

theorem pull_at {t : Int} : ∀ {S : Std}, hasT S t = true → S.take (atN S t) ++ S.drop (atN S t + 1) = pullS S t
  | [], h => by cases h
  | p :: S, h => by
    by_cases e : (p.2 == t) = true
    · have hp : pullS (p :: S) t = S := by unfold pullS; rw [List.eraseP_cons_of_pos (by simpa using e)]
      have ha : atN (p :: S) t = 0 := by unfold atN; rw [List.findIdx_cons, e]; rfl
      rw [hp, ha]; simp
    · have e' : (p.2 == t) = false := by simpa using e
      have hh : hasT S t = true := by unfold hasT at h ⊢; simpa [e'] using h
      have hp : pullS (p :: S) t = p :: pullS S t := by unfold pullS; rw [List.eraseP_cons_of_neg (by simpa using e)]
      have ha : atN (p :: S) t = atN S t + 1 := by unfold atN; rw [List.findIdx_cons, e']; rfl
      rw [hp, ha, List.take_succ_cons, List.drop_succ_cons, List.cons_append, pull_at hh]
def sRPull2 : Spec := fun args h nx K => ∃ (bF n room : Nat) (S : Std) (e : Ent) (cp : Nat) (t : Int), args = [.ptr 40 0 0, .int .i64 t] ∧ RfW h bF n room S e cp ∧ Fit n room S ∧ (∀ k, 2850 ≤ k → k < 2854 → fd k h = .gone) ∧
  ∀ (h' : Hp) (e' : Ent) (cp' q : Nat), Ext h h' → RfQ h h' bF n room (pullS S t) e' cp' q → K (.ret (.tup [.int .i64 (blkT S t), .int .i64 (pullC S t)])) h' nx
theorem sRPull2_ok : SpecOK Try.prog 22 sRPull2 := specOK_imp (inlx_ok (fn := Try.f22) rfl rfl rfl T_ok (SP := [(33, sRAt)]) (consSP sRAt_ok noSP)) <| by
  rintro args h nx K ⟨bF, n, room, S, e, cp, t, rfl, H, hF, hx, hk⟩
  refine ⟨by simp [Try.f22], fun c hc => ?_⟩
  have hE := mkE' (fn := Try.f22) (R := fun o h' _ => Ext h h' ∧ ∃ m, K o h' m) hc (consSP sRAt_ok noSP)
  have heq : ∀ u, fd u ((40, .blk bF 1 3 (gF n room S.length cp) 50) :: (41, e) :: (2850, .gone) :: (2851, .gone) :: (2852, .gone) :: (2853, .gone) :: h) = fd u h := fdeq_cons2 H.str (fdeq_cons2 H.lst (fdeq_cons2 (hx _ (by decide) (by decide)) (fdeq_cons2 (hx _ (by decide) (by decide)) (fdeq_cons2 (hx _ (by decide) (by decide)) (fdeq_cons (hx _ (by decide) (by decide)))))))
  have hlS := hF.len
  have hrm := hF.room
  refine W_fdeq (nx' := 2850) heq ?_
  refine vc_sound hE 200 _ _ _ 2850 ?_
  refine ⟨bF, n, room, S, e.toRo, cp, t, rfl, H.rd.fdeq heq, by omega, ?_⟩
  by_cases hh : hasT S t = true
  rotate_left
  · have hh' : hasT S t = false := by simpa using hh
    have hi : atI S t = -1 := by unfold atI; rw [if_neg hh]
    rw [hi]
    have hC : pullC S t = 3 := by unfold pullC; rw [if_neg hh]
    rw [hC, pullS_no hh', blkT_no hh'] at hk
    refine and_ext (m := nx) (Ext.fdeq heq) fun hX => hk _ e cp 41 hX ?_
    exact H.q heq
  have hi : atI S t = ((atN S t : Nat) : Int) := by unfold atI; rw [if_pos hh]
  rw [hi]
  obtain ⟨hil, hb⟩ := atN_blk hh
  have hpl := pull_at hh
  have hC : pullC S t = 0 := by unfold pullC; rw [if_pos hh]
  rw [hC] at hk
  obtain ⟨i, hii⟩ : ∃ i, i = atN S t := ⟨_, rfl⟩
  rw [← hii] at hil hb hpl ⊢
  have hs := H.is
  rcases hs with ⟨h0, _, _⟩ | ⟨bb, g, ty, he, h1, h2, h3, h4⟩
  · rw [h0] at hil; simp at hil
  obtain ⟨g0, g1⟩ := h3 i hil
  rw [Nat.zero_add] at g0 g1
  have hz : addI 0 ((i : Int)).toNat = i := by rw [Int.toNat_natCast, addI_eq, Nat.zero_add]
  have fin : ∀ (A : Hp) (q : Nat) (e' : Ent) (cp' : Nat), Ext h ((40, .blk bF 1 3 (putG 3 (gF n room S.length cp) 0 (0 + 2) [.slice q 0 (pullS S t).length cp']) 50) :: (A ++ ((40, .blk bF 1 3 (gF n room S.length cp) 50) :: (41, e) :: (2850, .gone) :: (2851, .gone) :: (2852, .gone) :: (2853, .gone) :: h))) → ((A.map (·.1)).all fun u => Nat.ble 2850 u && Nat.blt u 2854) = true → fd q A = e' → e'.here → stE e' (pullS S t) cp' → (2850 ≤ q ∧ q < 2854) → Ext h ((40, .blk bF 1 3 (putG 3 (gF n room S.length cp) 0 (0 + 2) [.slice q 0 (pullS S t).length cp']) 50) :: (A ++ ((40, .blk bF 1 3 (gF n room S.length cp) 50) :: (41, e) :: (2850, .gone) :: (2851, .gone) :: (2852, .gone) :: (2853, .gone) :: h))) ∧ ∃ m, K (.ret (.tup [.int .i64 (blkT S t), .int .i64 0])) ((40, .blk bF 1 3 (putG 3 (gF n room S.length cp) 0 (0 + 2) [.slice q 0 (pullS S t).length cp']) 50) :: (A ++ ((40, .blk bF 1 3 (gF n room S.length cp) 50) :: (41, e) :: (2850, .gone) :: (2851, .gone) :: (2852, .gone) :: (2853, .gone) :: h))) m := fun A q e' cp' hX hA hq hhere hs hqr => by
    have hA : ∀ u ∈ A.map (·.1), 2850 ≤ u ∧ u < 2854 := fun u hu => by
      have := List.all_eq_true.1 hA u hu
      rw [Bool.and_eq_true] at this
      have h2 : u + 1 ≤ 2854 := Nat.le_of_ble_eq_true this.2
      exact ⟨Nat.le_of_ble_eq_true this.1, h2⟩
    refine and_ext (m := nx) hX fun hX => hk _ e' cp' q hX ⟨fun u u1 u2 => ?_, ⟨_, by rw [fd_cons, if_pos rfl], putG_str.1, putG_str.2.1, putG_str.2.2⟩, ?_, hs, .inr hqr⟩
    · rw [fd_cons, if_neg u1, fd_appR fun w => by have := hA u w; omega]
      exact heq u
    · rw [fd_cons, if_neg (by omega)]
      rcases fd_app A ((40, .blk bF 1 3 (gF n room S.length cp) 50) :: (41, e) :: (2850, .gone) :: (2851, .gone) :: (2852, .gone) :: (2853, .gone) :: h) q with ⟨_, w⟩ | ⟨_, _, w⟩
      · rw [w]; exact hq
      · rw [hq] at w; rw [w] at hhere; exact hhere.elim
  have hd1 : ∀ (hh : Hp), fd 41 (roH hh) = .ro (some ⟨bb, 0, none⟩) cp 2 g → rdP hh (.slice 41 0 i cp) (S.take i) := fun hh w => .inr ⟨41, 0, cp, _, cp, g, by rw [List.length_take, Nat.min_eq_left (by omega)], w, by rw [List.length_take]; omega, fun j hj => by
    rw [List.length_take] at hj
    have := h3 j (by omega)
    rw [show (S.take i).getD j (0, 0) = S.getD j (0, 0) by rw [List.getD_eq_getElem?_getD, List.getD_eq_getElem?_getD, List.getElem?_take, if_pos (by omega)]]
    exact this⟩
  have hd2 : ∀ (hh : Hp), fd 41 (roH hh) = .ro (some ⟨bb, 0, none⟩) cp 2 g → rdP hh (.slice 41 (if cp = i + 1 then 0 else i + 1) (S.length - (i + 1)) (cp - (i + 1))) (S.drop (i + 1)) := fun hh w => .inr ⟨41, _, _, _, cp, g, by rw [List.length_drop], w, by rw [List.length_drop]; split <;> omega, fun j hj => by
    rw [List.length_drop] at hj
    have := h3 (i + 1 + j) (by omega)
    rw [Nat.zero_add] at this
    rw [if_neg (by omega), show (S.drop (i + 1)).getD j (0, 0) = S.getD (i + 1 + j) (0, 0) by rw [List.getD_eq_getElem?_getD, List.getD_eq_getElem?_getD, List.getElem?_drop]]
    exact this⟩
  have hlen1 : (S.take i).length = i := by rw [List.length_take]; omega
  have hlen2 : (S.drop (i + 1)).length = S.length - (i + 1) := by rw [List.length_drop]
  have hw : IntKind.i64.wrap ((i : Int) + 1) = ((i + 1 : Nat) : Int) := by simp only [IntKind.wrap_i64]; omega
  clear hk
  subst he
  (refine (?_ : chk _ _); refine chk_ok (show (decide ((0 : Int) ≤ (i : Int)) && decide ((i : Int) < (S.length : Int))) = true by simp only [Bool.and_eq_true, decide_eq_true_eq]; omega) ?_)
  (refine (?_ : chk _ _); refine chk_ok rfl ?_)
  (refine (?_ : chk _ _); refine chk_ok (Nat.ble_eq_true_of_le (show addI 0 ((i : Int)).toNat * 2 + (0 + 0) + 1 ≤ cp * 2 by rw [hz]; omega)) ?_)
  have hg : g (addI 0 ((i : Int)).toNat + (0 + 0) / 2) ((0 + 0) % 2) = .int .i64 (blkT S t) := by rw [hz, ← hb]; exact g0
  (refine (?_ : chk _ _); refine chk_ok rfl ?_)
  rw [hg]
  refine W_planw hE 2850 [16, 19] (.take 0 (.take 2 (.take 3 (.take 4 (.take 5 (.take 6 (.take 7 (.take 9 (.take 10 (.take 11 (.take 12 (.take 13 (.take 14 (.take 15 (.all (.cons 1 (.all (.cons 8 (.all (.cons 16 (.all (.cons 17 (.take 18 (.all (.cons 19 (.done) (.nil)))) (.nil))) (.nil))) (.nil))) (.nil))))))))))))))))) (by rw [hc]; exact mix) (by kernel_rfl) 60 ?_
  iterate 6 (refine ⟨_, ⟨rfl, rfl⟩, ?_⟩)
  refine ⟨.slice 41 0 i cp, (show chk _ _ from chk_ok (show (decide ((0 : Int) ≤ 0) && decide ((0 : Int) ≤ (i : Int)) && decide ((i : Int) ≤ (cp : Int))) = true by simp only [Bool.and_eq_true, decide_eq_true_eq]; omega) ⟨by cases cp <;> rfl, rfl⟩), ?_⟩
  iterate 5 (refine ⟨_, ⟨rfl, rfl⟩, ?_⟩)
  refine ⟨.int .i64 ((i + 1 : Nat) : Int), ⟨congrArg (V.int .i64) hw, rfl⟩, ?_⟩
  have hbq : (match Nat.beq cp (i + 1) with | true => 0 | false => addI 0 (i + 1)) = (if cp = i + 1 then 0 else i + 1) := (beq_cases cp (i + 1) 0 (addI 0 (i + 1))).trans (by rw [addI_eq, Nat.zero_add])
  refine ⟨.slice 41 (if cp = i + 1 then 0 else i + 1) (S.length - (i + 1)) (cp - (i + 1)), (show chk _ _ from chk_ok (show (decide ((0 : Int) ≤ ((i + 1 : Nat) : Int)) && decide (((i + 1 : Nat) : Int) ≤ (S.length : Int))) = true by simp only [Bool.and_eq_true, decide_eq_true_eq]; omega) ⟨congrArg (fun z => V.slice 41 z (S.length - (i + 1)) (cp - (i + 1))) hbq, rfl⟩), ?_⟩
  refine ⟨⟨fun _ => trivial, fun b0 => ?_⟩, trivial⟩
  refine putS_some rfl ?_
  have e0r : ∀ (hh : Hp), fd 2850 hh = .blk b0 0 2 (gOf 2 []) 64 → fd 2850 (roH hh) = .ro (some ⟨b0, 0, none⟩) 0 2 (gOf 2 []) := fun hh w => by rw [fd_roH, w]; rfl
  refine ⟨⟨step_app (v := .slice 2850 0 0 0) (u := .slice 41 0 i cp) rfl rfl (app_copyP stdT rfl (hd1 _ rfl) rfl (by rw [hlen1]; omega) (fun _ => trivial) (fun _ _ _ => trivial)), stepC_app (v := .slice 2850 0 0 0) (u := .slice 41 0 i cp) rfl rfl ?_⟩, trivial⟩
  refine app_copyP stdT rfl (hd1 _ rfl) rfl (by rw [hlen1]; omega) (fun e0 => ?_) (fun ec cc hc2 => ?_)
  · have hlc : stE (.blk b0 0 2 (gOf 2 []) 64) (S.take i) 0 := by rw [e0]; exact .inr ⟨_, _, _, rfl, Nat.le_refl _, by omega, fun j hj => by simp at hj, fun j k hj => by omega⟩
    have e0' : (0 : Nat) = (S.take i).length := by rw [e0]; rfl
    rw [show V.slice 2850 0 0 0 = .slice 2850 0 (S.take i).length 0 by rw [← e0']]
    refine putS_some rfl ?_
    refine ⟨⟨trivial, stepC_app (v := .slice 2850 0 (S.take i).length 0) (u := .slice 41 (if cp = i + 1 then 0 else i + 1) (S.length - (i + 1)) (cp - (i + 1))) rfl rfl ?_⟩, trivial⟩
    refine app_moreP stdT hlc rfl (m := S.drop (i + 1)) (hd2 _ rfl) rfl (by rw [hlen1, hlen2]; omega) (fun e' hrf hs' => ?_) (fun e' cp' hs' => ?_) (fun q => ?_)
    · rw [hpl] at hs' ⊢
      refine putS_some rfl ?_
      refine ⟨⟨trivial, ?_⟩, trivial⟩
      refine ⟨_, ⟨rfl, rfl⟩, ?_⟩
      refine ⟨⟨trivial, ?_⟩, trivial⟩
      exact fin [(2850, e'), (2850, .blk b0 0 2 (gOf 2 []) 64)] 2850 e' 0 ((((Ext.fdeq heq).fd2 (t := 2850) (e := .blk b0 0 2 (gOf 2 []) 64) rfl).fd1 hrf).fd1 rfl) rfl rfl hs'.here hs' (by decide)
    · rw [hpl] at hs' ⊢
      refine putS_some rfl ?_
      refine ⟨⟨trivial, ?_⟩, trivial⟩
      refine ⟨_, ⟨rfl, rfl⟩, ?_⟩
      refine ⟨⟨trivial, ?_⟩, trivial⟩
      exact fin [(2851, e'), (2850, .blk b0 0 2 (gOf 2 []) 64)] 2851 e' cp' ((((Ext.fdeq heq).fd2 (t := 2850) (e := .blk b0 0 2 (gOf 2 []) 64) rfl).fd2 rfl).fd1 rfl) rfl rfl hs'.here hs' (by decide)
    · rw [q, List.append_nil] at hpl
      have hs' := hlc
      rw [hpl] at hs' ⊢
      refine putS_some rfl ?_
      refine ⟨⟨trivial, ?_⟩, trivial⟩
      refine ⟨_, ⟨rfl, rfl⟩, ?_⟩
      refine ⟨⟨trivial, ?_⟩, trivial⟩
      exact fin [(2850, .blk b0 0 2 (gOf 2 []) 64)] 2850 (.blk b0 0 2 (gOf 2 []) 64) 0 (((Ext.fdeq heq).fd2 (t := 2850) (e := .blk b0 0 2 (gOf 2 []) 64) rfl).fd1 rfl) rfl rfl hs'.here hs' (by decide)
  · skip
    refine putS_some rfl ?_
    refine ⟨⟨trivial, stepC_app (v := .slice 2851 0 (S.take i).length cc) (u := .slice 41 (if cp = i + 1 then 0 else i + 1) (S.length - (i + 1)) (cp - (i + 1))) rfl rfl ?_⟩, trivial⟩
    refine app_moreP stdT hc2 rfl (m := S.drop (i + 1)) (hd2 _ rfl) rfl (by rw [hlen1, hlen2]; omega) (fun e' hrf hs' => ?_) (fun e' cp' hs' => ?_) (fun q => ?_)
    · rw [hpl] at hs' ⊢
      refine putS_some rfl ?_
      refine ⟨⟨trivial, ?_⟩, trivial⟩
      refine ⟨_, ⟨rfl, rfl⟩, ?_⟩
      refine ⟨⟨trivial, ?_⟩, trivial⟩
      exact fin [(2851, e'), (2851, ec), (2850, .blk b0 0 2 (gOf 2 []) 64)] 2851 e' cc (((((Ext.fdeq heq).fd2 (t := 2850) (e := .blk b0 0 2 (gOf 2 []) 64) rfl).fd2 (t := 2851) (e := ec) rfl).fd1 hrf).fd1 rfl) rfl rfl hs'.here hs' (by decide)
    · rw [hpl] at hs' ⊢
      refine putS_some rfl ?_
      refine ⟨⟨trivial, ?_⟩, trivial⟩
      refine ⟨_, ⟨rfl, rfl⟩, ?_⟩
      refine ⟨⟨trivial, ?_⟩, trivial⟩
      exact fin [(2852, e'), (2851, ec), (2850, .blk b0 0 2 (gOf 2 []) 64)] 2852 e' cp' (((((Ext.fdeq heq).fd2 (t := 2850) (e := .blk b0 0 2 (gOf 2 []) 64) rfl).fd2 (t := 2851) (e := ec) rfl).fd2 rfl).fd1 rfl) rfl rfl hs'.here hs' (by decide)
    · rw [q, List.append_nil] at hpl
      have hs' := hc2
      rw [hpl] at hs' ⊢
      refine putS_some rfl ?_
      refine ⟨⟨trivial, ?_⟩, trivial⟩
      refine ⟨_, ⟨rfl, rfl⟩, ?_⟩
      refine ⟨⟨trivial, ?_⟩, trivial⟩
      exact fin [(2851, ec), (2850, .blk b0 0 2 (gOf 2 []) 64)] 2851 (ec) cc ((((Ext.fdeq heq).fd2 (t := 2850) (e := .blk b0 0 2 (gOf 2 []) 64) rfl).fd2 (t := 2851) (e := ec) rfl).fd1 rfl) rfl rfl hs'.here hs' (by decide)
end Go.Proofs.Ytkncijljkfpdiaa.Sx

/-
  The lanes and the document's lanes, told anew behind a step on both.
-/
namespace Go.Proofs.Ytkncijljkfpdiaa.Sx
open Go Go.Proofs
set_option maxRecDepth 100000
set_option linter.unusedSimpArgs false
set_option linter.unusedVariables false

theorem LnQ.backG {h' : Hp} {bL bM bR n room : Nat} {g : Nat → Nat → V} {S : Std} {e : Nat → Ent} {cp : Nat → Nat} {τ : Nat → Nat} {rest : Hp} (H : LnQ h' bL bM bR n room g S e cp τ) (one : ∀ t u, τ t = τ u → t = u) (t2 : τ 2 = 2) (t9 : τ 9 = 9) (t8 : τ 8 = 8) (hl : Low rest) (hk : nodupB (rest.map (·.1)) = true)
    (hr : wkH τ h' (HLw bL bM bR n room S e cp (gg rest)) rest) : nodupB (((HLw bL bM bR n room S e cp (gg rest)).map (·.1)).map τ) = true ∧ wkH τ h' (HLw bL bM bR n room S e cp (gg rest)) (HLw bL bM bR n room S e cp (gg rest)) := by
  have hm := gg.mid hl
  have low : ∀ t ∈ (2 :: 9 :: 8 :: (gg rest).map (·.1)), t < 3000 := fun t ht => by
    simp only [List.mem_cons] at ht
    rcases ht with rfl | rfl | rfl | ht
    · omega
    · omega
    · omega
    · exact (hm t ht).1
  have base : (2 :: 9 :: 8 :: (gg rest).map (·.1)).Nodup := by
    have hn := nodupB_iff hk
    have hg : ((gg rest).map (·.1)).Nodup := by
      rw [List.map_append, List.nodup_append]
      refine ⟨hn, by decide, fun a ha b hb => ?_⟩
      have := hl.mem ha
      simp only [List.map_cons, List.map_nil, List.mem_cons, List.not_mem_nil, or_false] at hb
      rcases hb with rfl | rfl <;> omega
    refine List.nodup_cons.2 ⟨?_, List.nodup_cons.2 ⟨?_, List.nodup_cons.2 ⟨?_, hg⟩⟩⟩
    · simp only [List.mem_cons, not_or]
      exact ⟨by decide, by decide, fun q => (hm _ q).2.1 rfl⟩
    · simp only [List.mem_cons, not_or]
      exact ⟨by decide, fun q => (hm _ q).2.2.1 rfl⟩
    · exact fun q => (hm _ q).2.2.2 rfl
  refine ⟨keysH ?_ (fun i j _ _ q => by have := one _ _ q; omega) fun t ht i hi q => ?_, ?_⟩
  · refine nodupB_of ?_
    unfold List.Nodup
    rw [List.pairwise_map]
    exact base.imp fun h q => h (one _ _ q)
  · have := low t ht
    have := one _ _ q
    omega
  · exact HLw.wk (g := g) (by rw [t2]; exact H.row) H.cell (by rw [t9]; exact H.map) (by rw [t8]; exact H.str) t2 t9 trivial trivial (fun i hi => live_lane hm hi (lst_live (H.is i hi))) (fun i hi => ⟨H.lst i hi, H.is i hi⟩) (wkH_app hr ⟨wk_gone, wk_gone, trivial⟩)
theorem swp_eq (a b t : Nat) : tau [(a, b), (b, a)] t = if t = a then b else if t = b then a else t := by
  unfold tau
  by_cases h1 : t = a
  · subst h1; simp
  · rw [beq_ne h1, if_neg h1]
    unfold tau
    by_cases h2 : t = b
    · subst h2; simp
    · rw [beq_ne h2, if_neg h2]; rfl
theorem swp_one (a b t u : Nat) (h : tau [(a, b), (b, a)] t = tau [(a, b), (b, a)] u) : t = u := by
  rw [swp_eq, swp_eq] at h
  split at h <;> split at h <;> (try split at h) <;> (try split at h) <;> omega
abbrev GG : Hp := [(60, .gone), (61, .gone), (62, .gone), (63, .gone), (64, .gone), (2850, .gone), (2851, .gone), (2852, .gone), (2853, .gone)]
abbrev RP (eX e40 e41 : Ent) : Hp := (100, eX) :: (40, e40) :: (41, e41) :: GG
abbrev RB (eX e40 e41 eA : Ent) : Hp := (100, eX) :: (40, e40) :: (41, e41) :: (220, eA) :: GG
abbrev e4 (bF n room m cp : Nat) : Ent := .blk bF 1 3 (gF n room m cp) 50
/-- Behind a step on the one, and on the other. -/
theorem play_back {h h1 h2 : Hp} {bL bM bR bF n room : Nat} {g' : Nat → Nat → V} {S S' : Std} {e' : Nat → Ent} {cp' : Nat → Nat} {τ : Nat → Nat} {eX eA eD' : Ent} {cD' q : Nat} (wX : ∀ τ h', wkE τ h' eX eX) (wA : ∀ τ h', wkE τ h' eA eA) (hX : fd 100 h = eX) (hA : fd 220 h = eA)
    (k1 : Else n h h1) (k2 : LnQ h1 bL bM bR n room g' S' e' cp' τ) (hτ : Ren1 τ) (k3 : RfQ h1 h2 bF n room S' eD' cD' q) :
    ∃ ρ : Nat → Nat, (nodupB (((HLw bL bM bR n room S' e' cp' (gg (RB eX (e4 bF n room S'.length cD') eD' eA))).map (·.1)).map ρ) = true ∧ wkH ρ h2 (HLw bL bM bR n room S' e' cp' (gg (RB eX (e4 bF n room S'.length cD') eD' eA))) (HLw bL bM bR n room S' e' cp' (gg (RB eX (e4 bF n room S'.length cD') eD' eA)))) ∧ ρ 8 = 8 ∧ ρ 40 = 40 ∧ ρ 100 = 100 ∧ ρ 220 = 220 := by
  have hq := k3.tag
  have hτq : τ q = q := hτ.low (by omega)
  have hρ : ∀ t, t ≠ 41 → t ≠ q → τ (tau [(41, q), (q, 41)] t) = τ t := fun t h1 h2 => by rw [swp_eq, if_neg h1, if_neg h2]
  have hlow : ∀ t, t ≠ 41 → (t < 2850 ∨ (2854 ≤ t ∧ t < 2901)) → τ (tau [(41, q), (q, 41)] t) = t := fun t h1 h2 => by rw [hρ t h1 (by omega)]; exact hτ.low (by omega)
  have h41 : τ (tau [(41, q), (q, 41)] 41) = q := by rw [swp_eq, if_pos rfl]; exact hτq
  have hlane : ∀ i, τ (tau [(41, q), (q, 41)] (i + 3000)) = τ (i + 3000) := fun i => hρ _ (by omega) (by omega)
  have hd : ∀ t, t ≠ 40 → (t < 2850 ∨ 2854 ≤ t) → fd t h2 = fd t h1 := k3.rest
  have hge : ∀ i, 2901 ≤ τ (i + 3000) := fun i => by
    obtain ⟨b, q', ⟨w1, w2⟩, w3⟩ := hτ
    rw [w3]; split <;> (try split) <;> omega
  have H2 : LnQ h2 bL bM bR n room g' S' e' cp' (fun t => τ (tau [(41, q), (q, 41)] t)) :=
    ⟨(hd _ (by decide) (.inl (by decide))).trans k2.str, (hd _ (by decide) (.inl (by decide))).trans k2.map, (hd _ (by decide) (.inl (by decide))).trans k2.row, fun i hi => by rw [hlane]; exact k2.cell i hi, fun i hi => by rw [hlane, hd _ (by have := hge i; omega) (.inr (by have := hge i; omega))]; exact k2.lst i hi, k2.is⟩
  obtain ⟨g, s1, s2, s3, s4⟩ := k3.str
  refine ⟨fun t => τ (tau [(41, q), (q, 41)] t), LnQ.backG H2 (fun t u w => swp_one _ _ _ _ (hτ.one w)) (hlow _ (by decide) (.inl (by decide))) (hlow _ (by decide) (.inl (by decide))) (hlow _ (by decide) (.inl (by decide))) rfl rfl ⟨?_, ?_, ?_, ?_, wk_gone, wk_gone, wk_gone, wk_gone, wk_gone, wk_gone, wk_gone, wk_gone, wk_gone, trivial⟩, hlow _ (by decide) (.inl (by decide)), hlow _ (by decide) (.inl (by decide)), hlow _ (by decide) (.inl (by decide)), hlow _ (by decide) (.inl (by decide))⟩
  · show wkE _ _ (fd (τ (tau [(41, q), (q, 41)] 100)) h2) eX
    rw [hlow _ (by decide) (.inl (by decide)), hd _ (by decide) (.inl (by decide)), k1 _ (by decide) (by decide) (.inl (by decide)), hX]
    exact wX _ _
  · show wkE _ _ (fd (τ (tau [(41, q), (q, 41)] 40)) h2) _
    rw [hlow _ (by decide) (.inl (by decide)), s1]
    refine ⟨rfl, rfl, rfl, rfl, fun i c hi hc => ?_⟩
    obtain rfl : i = 0 := by omega
    match c, hc with
    | 0, _ => rw [s2]; exact ⟨rfl, rfl⟩
    | 1, _ => rw [s3]; exact ⟨rfl, rfl⟩
    | 2, _ => rw [s4]; exact ⟨⟨h41.symm, live_fd (e := eD') rfl k3.is.here⟩, rfl, rfl, rfl⟩
  · show wkE _ _ (fd (τ (tau [(41, q), (q, 41)] 41)) h2) eD'
    rw [h41, k3.lst]
    exact k3.is.wk _ _
  · show wkE _ _ (fd (τ (tau [(41, q), (q, 41)] 220)) h2) eA
    rw [hlow _ (by decide) (.inl (by decide)), hd _ (by decide) (.inl (by decide)), k1 _ (by decide) (by decide) (.inl (by decide)), hA]
    exact wA _ _
theorem oneNew_lst {e : Ent} {l : List Int} {cap : Nat} (hl : lstE e l cap) {h : Hp} {K : V → Hp → Nat → Prop} {v : V} {t nx : Nat} (hg : fd t h = .gone) (hk : K v ((t, e) :: h) nx) : oneNew h K v ((t, e) :: roH h) nx := by
  rcases hl with ⟨rfl, rfl, rfl⟩ | ⟨b, g, ty, rfl, h1, h2, h3, h4⟩
  · exact ⟨rfl, hg, hk⟩
  · exact ⟨rfl, hg, fun i c hi hc => by obtain rfl : c = 0 := (by omega); exact h4 i hi, hk⟩
theorem LnRd.roH {h : Hp} {bL bM bR n room : Nat} {g : Nat → Nat → V} {S : Std} {q cp : Nat → Nat} (H : LnRd h bL bM bR n room g S q cp) : LnRd (roH h) bL bM bR n room g S q cp := H.fdeq fun t => by rw [fd_roH, fd_roH, toRo_toRo]
theorem RfR.roH {h : Hp} {bF n room : Nat} {S : Std} {e : Ent} {cp : Nat} (H : RfR h bF n room S e cp) : RfR (roH h) bF n room S e cp := ⟨by rw [fd_roH, H.str]; rfl, by rw [fd_roH, H.lst]; exact H.is.toRo, H.is⟩
theorem rdL_ro {h : Hp} {v : V} {l : List Int} (H : rdL h v l) : rdL (roH h) v l := by
  rcases H with ⟨rfl, rfl⟩ | ⟨t, i, c, b, N, g, rfl, e, h1, h2⟩
  · exact .inl ⟨rfl, rfl⟩
  · refine .inr ⟨t, i, c, b, N, g, rfl, ?_, h1, h2⟩
    rw [fd_roH, e]; rfl
end Go.Proofs.Ytkncijljkfpdiaa.Sx

