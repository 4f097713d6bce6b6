import Derived.Test.YtgcnknhfphgfnaaSxCl
import Derived.Test.YtgcnknhfphgfnaaSxPn
set_option linter.unusedVariables false
set_option linter.unusedSimpArgs false
/-
  The engine: rows of elements of one kind, whatever that is; a call's scratch memory forgotten.
-/
namespace Go.Proofs.Ytgcnknhfphgfnaa.Sx
open Go

/-- How an element lies: in so many cells, none of which leads anywhere. -/
structure RK (α : Type) where
  sz : Nat
  ty : TypeId
  cell : α → Nat → V
  z : α
  pos : sz ≠ 0
  fl : ∀ a k, k < sz → flat (cell a k) ∧ scal (cell a k) = true

section
variable {α : Type} (R : RK α)
def cellsAt (g : Nat → Nat → V) (o : Nat) (l : List α) : Prop := ∀ j a, l[j]? = some a → ∀ k, k < R.sz → g (o + j) k = R.cell a k
def gF (F : Nat → α) : Nat → Nat → V := fun i k => R.cell (F i) k
abbrev gK (l : List α) : Nat → Nat → V := gF R fun i => l.getD i R.z
/-- A slice of these elements, wherever it lies. -/
def rdK (h : Hp) (v : V) (l : List α) : Prop :=
  (v = .nils ∧ l = []) ∨ ∃ t i c b N g, v = .slice t i l.length c ∧ fd t (roH h) = .ro b N R.sz g ∧ i + l.length ≤ N ∧ cellsAt R g i l
/-- A row of its own that holds them, or none (the slice is nil, or has none). -/
def lstK (e : Ent) (l : List α) (cap : Nat) : Prop :=
  (l = [] ∧ cap = 0 ∧ ∃ g, e = .ro none 0 R.sz g) ∨ ∃ b g F, e = .blk b cap R.sz g R.ty ∧ l.length ≤ cap ∧ cap ≤ 9223372036854775807 ∧ (∀ j k, j < cap → k < R.sz → g j k = gF R F j k) ∧ ∀ j a, l[j]? = some a → F j = a
variable {R}
theorem cellsAt_gK {l : List α} : cellsAt R (gK R l) 0 l := fun j a h k hk => by
  show R.cell (l.getD (0 + j) R.z) k = _
  rw [Nat.zero_add, List.getD_eq_getElem?_getD, h]; rfl
theorem cellsAt_F {g : Nat → Nat → V} {F : Nat → α} {l : List α} {cap : Nat} (hl : l.length ≤ cap) (h : ∀ j k, j < cap → k < R.sz → g j k = gF R F j k) (hF : ∀ j a, l[j]? = some a → F j = a) : cellsAt R g 0 l := fun j a ha k hk => by
  have hj := (List.getElem?_eq_some_iff.1 ha).1
  rw [Nat.zero_add, h j k (by omega) hk, gF, hF j a ha]
theorem gF_flat {F : Nat → α} {j k : Nat} (hk : k < R.sz) : flat (gF R F j k) := (R.fl _ k hk).1
theorem cellsAt.flat {g : Nat → Nat → V} {o : Nat} {l : List α} (h : cellsAt R g o l) {j k : Nat} (hj : j < l.length) (hk : k < R.sz) : flat (g (o + j) k) := by
  rw [h j l[j] (List.getElem?_eq_getElem hj) k hk]; exact (R.fl _ k hk).1
theorem cellsAt.scal {g : Nat → Nat → V} {o : Nat} {l : List α} (h : cellsAt R g o l) {j k : Nat} (hj : j < l.length) (hk : k < R.sz) : scal (g (o + j) k) = true := by
  rw [h j l[j] (List.getElem?_eq_getElem hj) k hk]; exact (R.fl _ k hk).2
theorem cellsAt.at {g : Nat → Nat → V} {l : List α} (h : cellsAt R g 0 l) {j : Nat} {a : α} (ha : l[j]? = some a) {k : Nat} (hk : k < R.sz) : g j k = R.cell a k := by
  have := h j a ha k hk
  rw [Nat.zero_add] at this
  exact this
theorem lstK.cap {e : Ent} {l : List α} {cap : Nat} (h : lstK R e l cap) : l.length ≤ cap := by
  rcases h with ⟨rfl, rfl, _⟩ | ⟨b, g, F, rfl, h1, _⟩
  · simp
  · exact h1
theorem lstK.here {e : Ent} {l : List α} {cap : Nat} (h : lstK R e l cap) : e.here := by
  rcases h with ⟨rfl, rfl, g, rfl⟩ | ⟨b, g, F, rfl, h1, _⟩ <;> trivial
theorem lstK.rf {e : Ent} {l : List α} {cap : Nat} (h : lstK R e l cap) : ∃ b, e.rf = some (.mem b R.sz) := by
  rcases h with ⟨rfl, rfl, g, rfl⟩ | ⟨b, g, F, rfl, h1, _⟩
  · exact ⟨_, rfl⟩
  · exact ⟨_, rfl⟩
theorem lstK.wk {e : Ent} {l : List α} {cap : Nat} (h : lstK R e l cap) (τ : Nat → Nat) (h' : Hp) : wkE τ h' e e := by
  rcases h with ⟨rfl, rfl, g, rfl⟩ | ⟨b, g, F, rfl, h1, h2, h3, h4⟩
  · exact ⟨rfl, rfl, rfl, fun i c hi => by omega⟩
  · exact ⟨rfl, rfl, rfl, rfl, fun i c hi hc => flat_rn _ (by rw [h3 i c hi hc]; exact gF_flat hc)⟩
theorem lstK.rd {e : Ent} {l : List α} {cap : Nat} (he : lstK R e l cap) {h : Hp} {t : Nat} (ht : fd t h = e) : rdK R h (.slice t 0 l.length cap) l := by
  rcases he with ⟨rfl, rfl, g, rfl⟩ | ⟨b, g, F, rfl, h1, h2, h3, h4⟩
  · exact .inr ⟨t, 0, 0, none, 0, g, rfl, by rw [fd_roH, ht]; rfl, Nat.le_refl _, fun j a hj => by simp at hj⟩
  · exact .inr ⟨t, 0, cap, _, cap, g, rfl, by rw [fd_roH, ht]; rfl, by omega, cellsAt_F h1 h3 h4⟩
theorem lstK.blk {e : Ent} {l : List α} {cap : Nat} (he : lstK R e l cap) (hl : 0 < l.length) : ∃ b g F, e = .blk b cap R.sz g R.ty ∧ l.length ≤ cap ∧ cap ≤ 9223372036854775807 ∧ (∀ j k, j < cap → k < R.sz → g j k = gF R F j k) ∧ ∀ j a, l[j]? = some a → F j = a := by
  rcases he with ⟨rfl, rfl, g, rfl⟩ | h
  · simp at hl
  · exact h
theorem lstK.of {b cap : Nat} {g : Nat → Nat → V} {F : Nat → α} {l : List α} (h1 : l.length ≤ cap) (h2 : cap ≤ 9223372036854775807) (h3 : ∀ j k, j < cap → k < R.sz → g j k = gF R F j k) (h4 : ∀ j a, l[j]? = some a → F j = a) : lstK R (.blk b cap R.sz g R.ty) l cap := .inr ⟨b, g, F, rfl, h1, h2, h3, h4⟩
theorem rdK.nil {h : Hp} : rdK R h .nils [] := .inl ⟨rfl, rfl⟩
/-- A part of a slice. -/
theorem rdK.sub {h : Hp} {t i n c : Nat} {l : List α} (hv : rdK R h (.slice t i n c) l) {a b i' c' : Nat} (hab : a ≤ b) (hb : b ≤ l.length) (hi : i' = i + a ∨ (i' = i ∧ a = b)) : rdK R h (.slice t i' (b - a) c') ((l.drop a).take (b - a)) := by
  rcases hv with ⟨q, _⟩ | ⟨t', j, c2, b2, N, g, q, h1, h2, h3⟩
  · cases q
  · cases q
    have hl : ((l.drop a).take (b - a)).length = b - a := by simp; omega
    refine .inr ⟨t, i', c', b2, N, g, by rw [hl], h1, by rw [hl]; omega, fun j x hj k hk => ?_⟩
    have hlt := (List.getElem?_eq_some_iff.1 hj).1
    rw [hl] at hlt
    rw [List.getElem?_take, if_pos (by omega), List.getElem?_drop] at hj
    rcases hi with rfl | ⟨rfl, rfl⟩
    · rw [Nat.add_assoc]; exact h3 _ _ hj k hk
    · omega
theorem rdK.one {h : Hp} {t c : Nat} {b : Option Addr} {N : Nat} {g : Nat → Nat → V} {a : α} (e : fd t (roH h) = .ro b N R.sz g) (hN : 1 ≤ N) (hg : ∀ k, k < R.sz → g 0 k = R.cell a k) : rdK R h (.slice t 0 1 c) [a] :=
  .inr ⟨t, 0, c, b, N, g, rfl, e, by simpa using hN, fun j x hj k hk => by
    match j, hj with
    | 0, hj => cases hj; exact hg k hk
    | j + 1, hj => simp at hj⟩
/-- A type of slices of such elements. -/
def appTK (R : RK α) (T : Tab) (t : Nat) : Prop := ∃ ti te, look t T = some ti ∧ Nat.beq ti.kd 7 = true ∧ ti.el = R.ty ∧ look ti.el T = some te ∧ te.n = R.sz ∧ te.zero.length = R.sz ∧ ∀ k, k < R.sz → zAt te.zero k = R.cell R.z k
theorem getElem?_app {l m : List α} {j : Nat} : (l ++ m)[j]? = if j < l.length then l[j]? else m[j - l.length]? := by
  split
  · rename_i h; rw [List.getElem?_append_left h]
  · rename_i h; rw [List.getElem?_append_right (by omega)]

theorem app_K {T : Tab} {t : Nat} (hA : appTK R T t) {v u : V} {l m : List α} {h : Hp} {nx : Nat} {K : V → Hp → Nat → Prop} (hv : rdK R h v l) (hc : ∀ tv i n c, v = .slice tv i n c → n ≤ c) (hu : rdK R h u m) (hnx : fd nx h = .gone) (hsz : l.length + m.length ≤ 134217728)
    (k0 : m = [] → K v h nx)
    (k1 : ∀ tv i c, v = .slice tv i l.length c → m ≠ [] → l.length + m.length ≤ c → ∃ b n g, fd tv h = .blk b n R.sz g R.ty ∧ i + l.length + m.length ≤ n ∧ ∀ g', cellsAt R g' i (l ++ m) → (∀ j k, j < i + l.length ∨ i + l.length + m.length ≤ j → g' j k = g j k) → K (.slice tv i (l ++ m).length c) ((tv, .blk b n R.sz g' R.ty) :: h) nx)
    (k2 : m ≠ [] → ∀ e cap, lstK R e (l ++ m) cap → K (.slice nx 0 (l ++ m).length cap) ((nx, e) :: h) (nx + 1)) : appS T [t, t] v u h nx K := by
  obtain ⟨ti, te, e1, e2, e0, e3, e4, e5, e6⟩ := hA
  have hz0 := R.pos
  unfold appS
  simp only [e1, e3]
  refine chk_ok (by simp) (chk_ok e2 (chk_ok (by rw [e4, e5, Bool.and_eq_true]; exact ⟨by simp, Nat.ble_eq_true_of_le (by omega)⟩) ?_))
  have hlm : (l ++ m).length = l.length + m.length := by simp
  have fresh : ∀ (iv iu cap : Nat) (gv gu : Nat → Nat → V), cellsAt R gv iv l → cellsAt R gu iu m → (∀ j k, j < cap → k < R.sz → appG l.length m.length iv iu gv gu (zAt te.zero) j k = gK R (l ++ m) j k) ∧ ∀ j a, (l ++ m)[j]? = some a → (l ++ m).getD j R.z = a := by
    intro iv iu cap gv gu h1 h2
    refine ⟨fun j k _ hk => ?_, fun j a hj => by rw [List.getD_eq_getElem?_getD, hj]; rfl⟩
    rw [appG_eq]
    show _ = R.cell ((l ++ m).getD j R.z) k
    rw [List.getD_eq_getElem?_getD, getElem?_app]
    by_cases q : j < l.length
    · rw [if_pos q, if_pos q, List.getElem?_eq_getElem q]; exact h1 j _ (List.getElem?_eq_getElem q) k hk
    · rw [if_neg q, if_neg q]
      by_cases q2 : j < l.length + m.length
      · have q3 : j - l.length < m.length := by omega
        rw [if_pos q2, List.getElem?_eq_getElem q3]; exact h2 _ _ (List.getElem?_eq_getElem q3) k hk
      · rw [if_neg q2, List.getElem?_eq_none (by omega)]; exact e6 k hk
  rcases hu with ⟨rfl, rfl⟩ | ⟨tu, iu, cu, bu, Nu, gu, rfl, f1, f2, f3⟩
  · simp only
    rcases hv with ⟨rfl, rfl⟩ | ⟨tv, iv, cv, bv, Nv, gv, rfl, d1, d2, d3⟩
    · exact k0 rfl
    · exact chk_ok (Nat.ble_eq_true_of_le (hc _ _ _ _ rfl)) (k0 rfl)
  · simp only
    refine br_both (fun q => ?_) (fun q => ?_)
    · have q : 1 ≤ m.length := Nat.le_of_ble_eq_true q
      have hm : m ≠ [] := by rintro rfl; simp at q
      refine getM_of f1 (chk_ok (by rw [e4, Nat.ble_eq_true_of_le f2]; simp) ?_) hz0
      rcases hv with ⟨rfl, rfl⟩ | ⟨tv, iv, cv, bv, Nv, gv, rfl, d1, d2, d3⟩
      · refine chk_ok (Nat.ble_eq_true_of_le (by simpa using hsz)) ⟨hnx, fun b cap h1 h2 => ?_⟩
        obtain ⟨f4, f5⟩ := fresh 0 iu cap gu gu (fun j a hj => by simp at hj) f3
        have hk := k2 hm (.blk b cap R.sz _ R.ty) cap (lstK.of (by simpa using h1) h2 f4 f5)
        rw [e4, e0]
        simpa using hk
      · refine br_both (fun g => ?_) (fun g => ?_)
        · have g : l.length + m.length ≤ cv := Nat.le_of_ble_eq_true g
          obtain ⟨b, n, g0, a1, a2, a3⟩ := k1 tv iv cv rfl hm g
          rw [a1]
          refine chk_ok (by rw [e4, Nat.ble_eq_true_of_le a2]; simp) ⟨fun i k hi hk => ?_, ?_⟩
          · rw [e4] at hk
            exact f3.scal hi hk
          · have d1' : bv = some ⟨b, 0, none⟩ ∧ Nv = n ∧ gv = g0 := by
              rw [fd_roH, a1] at d1
              injection d1 with d1 d2 d3 d4
              exact ⟨d1.symm, d2.symm, d4.symm⟩
            obtain ⟨-, rfl, rfl⟩ := d1'
            have hk := a3 (appR (iv + l.length) m.length iu gv gu) (fun j a hj k hk => ?_) (fun j k hj => ?_)
            · rw [hlm] at hk; exact hk
            · have hlt := (List.getElem?_eq_some_iff.1 hj).1
              rw [hlm] at hlt
              rw [getElem?_app] at hj
              rw [appR_eq]
              by_cases w : j < l.length
              · rw [if_pos w] at hj
                rw [if_neg (by omega)]; exact d3 j a hj k hk
              · rw [if_neg w] at hj
                rw [if_pos ⟨by omega, by omega⟩, show iv + j - (iv + l.length) = j - l.length by omega]; exact f3 _ a hj k hk
            · rw [appR_eq, if_neg (by omega)]
        · have g : ¬ l.length + m.length ≤ cv := fun w => by rw [Nat.ble_eq_true_of_le w] at g; cases g
          refine chk_ok (Nat.ble_eq_true_of_le hsz) (getM_of d1 (chk_ok (by rw [e4, Nat.ble_eq_true_of_le d2]; simp) ⟨hnx, fun b cap h1 h2 => ?_⟩) hz0)
          obtain ⟨f4, f5⟩ := fresh iv iu cap gv gu d3 f3
          have hk := k2 hm (.blk b cap R.sz _ R.ty) cap (lstK.of (by rw [hlm]; exact h1) h2 f4 f5)
          rw [hlm] at hk
          rw [e4, e0]
          exact hk
    · have hm : m = [] := by
        cases m with
        | nil => rfl
        | cons x m => rw [Nat.ble_eq_true_of_le (by simp)] at q; cases q
      rcases hv with ⟨rfl, rfl⟩ | ⟨tv, iv, cv, bv, Nv, gv, rfl, d1, d2, d3⟩
      · exact k0 hm
      · exact chk_ok (Nat.ble_eq_true_of_le (hc _ _ _ _ rfl)) (k0 hm)
/-- A copy behind a row of nothing. -/
theorem app_copyK {T : Tab} {t : Nat} (hA : appTK R T t) {tv nx : Nat} {b' : Option Addr} {u : V} {m : List α} {g : Nat → Nat → V} {h : Hp} {K : V → Hp → Nat → Prop} (e1 : fd tv (roH h) = .ro b' 0 R.sz g) (hu : rdK R h u m) (hnx : fd nx h = .gone) (hsz : m.length ≤ 134217728)
    (k0 : m = [] → K (.slice tv 0 0 0) h nx) (k2 : ∀ e cp, lstK R e m cp → K (.slice nx 0 m.length cp) ((nx, e) :: h) (nx + 1)) : appS T [t, t] (.slice tv 0 0 0) u h nx K := by
  refine app_K (l := []) (m := m) hA (.inr ⟨tv, 0, 0, _, 0, g, rfl, e1, Nat.le_refl _, fun j a hj => by simp at hj⟩) (fun _ _ _ _ q => by cases q; exact Nat.le_refl _) hu hnx (by simpa using hsz) k0 ?_ ?_
  · intro tv' i c q hne hle
    cases q
    have : 0 < m.length := List.length_pos_iff.2 hne
    exact absurd hle (by simp; omega)
  · intro hne e cap he
    exact k2 e cap he
/-- More behind a list that has a row of its own. -/
theorem app_moreK {T : Tab} {t : Nat} (hA : appTK R T t) {tv nx cp : Nat} {u : V} {l m : List α} {e : Ent} {h : Hp} {K : V → Hp → Nat → Prop} (hl : lstK R e l cp) (e1 : fd tv h = e) (hu : rdK R h u m) (hnx : fd nx h = .gone) (hsz : l.length + m.length ≤ 134217728)
    (k1 : ∀ e', e'.rf = e.rf → lstK R e' (l ++ m) cp → K (.slice tv 0 (l ++ m).length cp) ((tv, e') :: h) nx)
    (k2 : ∀ e' cp', lstK R e' (l ++ m) cp' → K (.slice nx 0 (l ++ m).length cp') ((nx, e') :: h) (nx + 1)) (k0 : m = [] → K (.slice tv 0 l.length cp) h nx) : appS T [t, t] (.slice tv 0 l.length cp) u h nx K := by
  refine app_K (m := m) hA (hl.rd e1) (fun _ _ _ _ q => by cases q; exact hl.cap) hu hnx hsz k0 (fun tv' i c q hm hle => ?_) (fun _ e' cap he => k2 e' cap he)
  cases q
  rcases hl with ⟨rfl, rfl, _⟩ | ⟨b, g, F, rfl, h1, h2, h3, h4⟩
  · have : 0 < m.length := List.length_pos_iff.2 hm
    exact absurd hle (by simp; omega)
  · refine ⟨b, cp, g, e1, by omega, fun g' q1 q2 => k1 _ rfl (lstK.of (F := fun j => (l ++ m).getD j (F j)) (by simpa using hle) h2 (fun j k hj hk => ?_) (fun j a ha => by show (l ++ m).getD j (F j) = a; rw [List.getD_eq_getElem?_getD, ha]; rfl))⟩
    show g' j k = R.cell ((l ++ m).getD j (F j)) k
    rw [List.getD_eq_getElem?_getD]
    by_cases w : j < (l ++ m).length
    · rw [List.getElem?_eq_getElem w]
      have := q1 j _ (List.getElem?_eq_getElem w) k hk
      rw [Nat.zero_add] at this
      exact this
    · rw [List.getElem?_eq_none (by omega), q2 j k (.inr (by simp only [List.length_append] at w; omega))]
      exact h3 j k hj hk
/-- One more behind a list that has a row of its own. -/
theorem app_oneK {T : Tab} {t : Nat} (hA : appTK R T t) {tv nx cp : Nat} {u : V} {l : List α} {x : α} {e : Ent} {h : Hp} {K : V → Hp → Nat → Prop} (hl : lstK R e l cp) (e1 : fd tv h = e) (hu : rdK R h u [x]) (hnx : fd nx h = .gone) (hsz : l.length + 1 ≤ 134217728)
    (k1 : ∀ e', e'.rf = e.rf → lstK R e' (l ++ [x]) cp → K (.slice tv 0 (l ++ [x]).length cp) ((tv, e') :: h) nx)
    (k2 : ∀ e' cp', lstK R e' (l ++ [x]) cp' → K (.slice nx 0 (l ++ [x]).length cp') ((nx, e') :: h) (nx + 1)) : appS T [t, t] (.slice tv 0 l.length cp) u h nx K :=
  app_moreK (m := [x]) hA hl e1 hu hnx (by simpa using hsz) k1 k2 (fun q => by cases q)

/-- One list, told anew by the tag t0. -/
theorem rdK_one {h : Hp} {v : V} {l : List α} (hv : rdK R h v l) (t0 : Nat) : ∃ (b : Option Addr) (c : Nat), ((∀ tv i n c', v = .slice tv i n c' → n ≤ c') → l.length ≤ c) ∧
    ∀ (cx : Cx) (w : World) (x : Value), Rel cx h w → vrel h v x → roOK w [(t0, .ro b l.length R.sz (gK R l))] ∧ ∀ G : Hp, (fd t0 G).rf = some (.mem b R.sz) → vrel G (.slice t0 0 l.length c) x := by
  rcases hv with ⟨rfl, rfl⟩ | ⟨t, i, c, b, N, g, rfl, e, hN, hF⟩
  · exact ⟨none, 0, fun _ => Nat.le_refl _, fun cx w x hr rx => ⟨⟨fun i k hi hk => absurd hi (by simp), trivial⟩, fun G eG => ⟨none, R.sz, eG, rx, .inr ⟨rfl, rfl⟩⟩⟩⟩
  · refine ⟨b.map fun a => a.add (i * R.sz), c, fun q => q _ _ _ _ rfl, fun cx w x hr rx => ⟨⟨fun j k hj hk => ?_, trivial⟩, fun G eG => ?_⟩⟩
    · have H := hr.ro.holds t
      rw [e] at H
      obtain ⟨ad, y, e1, e2, e3, _⟩ := H (i + j) k (by omega) hk
      have hj' : l[j]? = some l[j] := List.getElem?_eq_getElem hj
      rw [hF j _ hj' k hk] at e3
      subst e1
      refine ⟨ad.add (i * R.sz), y, rfl, by rw [add_add, show i * R.sz + (j * R.sz + k) = (i + j) * R.sz + k by rw [Nat.add_mul]; omega]; exact e2, ?_⟩
      have : gK R l j k = R.cell l[j] k := by show R.cell (l.getD j R.z) k = _; rw [List.getD_eq_getElem?_getD, hj']; rfl
      rw [this]
      exact flat_rel _ _ (R.fl _ k hk).1 e3
    · obtain ⟨base, sz, e1, e2, e3⟩ := rx
      have e4 : (fd t (roH h)).rf = (fd t h).rf := by rw [fd_roH, Ent.toRo_rf]
      rw [e1, e] at e4
      injection e4 with e4
      injection e4 with e4 e5
      subst e4 e5
      refine ⟨_, _, eG, ?_, ?_⟩
      · rw [e2]
        cases b with
        | none => rfl
        | some a => simp [add_add]
      · rcases e3 with e3 | e3
        · left; cases b with
          | none => cases e3
          | some a => rfl
        · exact .inr e3
theorem told_K1 {h : Hp} {v : V} {l : List α} {rest : List V} (hv : rdK R h v l) (hc : ∀ tv i n c', v = .slice tv i n c' → n ≤ c') (hf : flatL rest) : ∃ (b : Option Addr) (c : Nat), l.length ≤ c ∧ Told h (v :: rest) [(2000, .ro b l.length R.sz (gK R l))] (.slice 2000 0 l.length c :: rest) := by
  obtain ⟨b, c, h0, h3⟩ := rdK_one hv 2000
  refine ⟨b, c, h0 hc, ⟨fun hr hvv => ?_⟩⟩
  obtain ⟨y, ys, rfl, ry, rys⟩ := hvv
  obtain ⟨k1, k2⟩ := h3 _ _ _ hr ry
  exact ⟨rel_ros k1 hr.qtabs, y, ys, rfl, k2 _ rfl, flatL_rel _ _ hf rys⟩
theorem told_K2 {β : Type} {R' : RK β} {h : Hp} {v v' : V} {l : List α} {l' : List β} {rest : List V} (hv : rdK R h v l) (hc : ∀ tv i n c', v = .slice tv i n c' → n ≤ c') (hv' : rdK R' h v' l') (hc' : ∀ tv i n c', v' = .slice tv i n c' → n ≤ c') (hf : flatL rest) : ∃ (b : Option Addr) (c : Nat) (b' : Option Addr) (c' : Nat), l.length ≤ c ∧ l'.length ≤ c' ∧
    Told h (v :: v' :: rest) [(2000, .ro b l.length R.sz (gK R l)), (2001, .ro b' l'.length R'.sz (gK R' l'))] (.slice 2000 0 l.length c :: .slice 2001 0 l'.length c' :: rest) := by
  obtain ⟨b, c, h0, h3⟩ := rdK_one hv 2000
  obtain ⟨b', c', h0', h3'⟩ := rdK_one hv' 2001
  refine ⟨b, c, b', c', h0 hc, h0' hc', ⟨fun hr hvv => ?_⟩⟩
  obtain ⟨y, ys, rfl, ry, y', ys', rfl, ry', rys⟩ := hvv
  obtain ⟨k1, k2⟩ := h3 _ _ _ hr ry
  obtain ⟨k1', k2'⟩ := h3' _ _ _ hr ry'
  exact ⟨rel_ros ⟨k1.1, k1'⟩ hr.qtabs, y, _, rfl, k2 _ rfl, y', ys', rfl, k2' _ rfl, flatL_rel _ _ hf rys⟩

/-- The answer of a function that makes such a list. -/
def retK (R : RK α) (l : List α) (o : Out) (h1 : Hp) : Prop := (l = [] ∧ o = .ret .nils) ∨ ∃ t cap e, o = .ret (.slice t 0 l.length cap) ∧ fd t h1 = e ∧ lstK R e l cap
def newLK (R : RK α) (l : List α) (h : Hp) (nx : Nat) (K : Out → Hp → Nat → Prop) : Prop := ∀ e cap, lstK R e l cap → K (.ret (.slice nx 0 l.length cap)) ((nx, e) :: h) (nx + 1)
/-- A function that reads what it is handed, and answers a new list. -/
theorem specOK_newK {P : Program} {f : Nat} {fn : Func} {cd : Code} {T : Tab} {SP : SpT} (hf : P.funcs[f]? = some fn) (hx : (fn.name == "runtime.NumGoroutine") = false) (hb : fn.body = some cd) (hT : TabOK P T) (hS : ∀ p ∈ SP, SpecOK P p.1 p.2) (s : Spec)
    (hs : ∀ args h nx K, s args h nx K → fd nx h = .gone ∧ ∃ (G : Hp) (args' : List V) (l : List α), Told h args G args' ∧ args'.length ≤ fn.ntmps ∧ newLK R l h nx K ∧ ∀ c, c.P = P → W ⟨c, fn, T, SP, fun o h _ => retK R l o h⟩ [.code cd] (argsS args' 0) G 0) : SpecOK P f s := by
  intro c hc args h nx K hk w xs hr hv
  obtain ⟨hgone, G, args', l, H, hlen, hnew, hvc⟩ := hs _ _ _ _ hk
  subst hc
  have hE : EnvOK ⟨quiet c.P w, fn, T, SP, fun o h _ => retK R l o h⟩ := ⟨hT, hS⟩
  obtain ⟨hr', hv'⟩ := H.rel hr hv
  refine .inl ⟨callFunc_enter hf hx hb _ w, ?_⟩
  refine (enterW hE (f := f) hf hb hv' hr' hlen (hvc _ rfl)).mono ?_
  rintro e w' ⟨o, h1, nx1, hp, hr1, hor⟩
  have hr2 := hr.after hr1.fr
  rcases hp with ⟨rfl, rfl⟩ | ⟨t, cap, e1, rfl, hfd, hl⟩
  · obtain ⟨hr3, hx3⟩ := hr2.ronil (nx := nx) (sz := R.sz) (g := gl []) hgone
    refine ⟨_, _, _, hnew _ 0 (.inl ⟨rfl, rfl, _, rfl⟩), hr3, hx3, ?_⟩
    obtain ⟨x, ex, rx⟩ := hor
    exact ⟨x, ex, tell_nil (h1 := h1) (by rw [fd_cons, if_pos rfl]) x rx⟩
  · have H := hr1.holds t
    rw [hfd] at H
    rcases hl with ⟨rfl, rfl, g, rfl⟩ | ⟨b, g, F, rfl, h2, h3, h4, h5⟩
    · obtain ⟨hr3, hx3⟩ := hr2.ronil (nx := nx) (sz := R.sz) (g := g) hgone
      refine ⟨_, _, _, hnew _ 0 (.inl ⟨rfl, rfl, g, rfl⟩), hr3, hx3, ?_⟩
      obtain ⟨x, ex, rx⟩ := hor
      exact ⟨x, ex, tell_slice (h1 := h1) (by rw [fd_cons, if_pos rfl, hfd]) x rx⟩
    · obtain ⟨⟨cs, c1, c2, c3⟩, c4⟩ := H
      have hb : w.heap.size ≤ b := by rcases c4 with c4 | c4; exact c4.elim; exact c4
      refine ⟨_, _, _, hnew _ cap (.inr ⟨b, g, F, rfl, h2, h3, h4, h5⟩), hr2.add hgone ⟨⟨cs, c1, c2, fun i k hi hk => ?_⟩, .inr (Nat.le_trans hr.fr.size hb)⟩ (fun t' b' n' sz' g' ty' e' => ?_), Ext.new (by rw [hgone]; rfl), ?_⟩
      · obtain ⟨x, ex, rx⟩ := c3 i k hi hk
        exact ⟨x, ex, flat_rel _ _ (by rw [h4 i k hi hk]; exact gF_flat hk) rx⟩
      · have := hr.lt e'
        omega
      · obtain ⟨x, ex, rx⟩ := hor
        exact ⟨x, ex, tell_slice (h1 := h1) (by rw [fd_cons, if_pos rfl, hfd]) x rx⟩
end

/-! ### Scratch memory forgotten -/
/-- An entry's cells stand for the same by h2. -/
def tellE (h1 h2 : Hp) : Ent → Prop
  | .blk _ n sz g _ => ∀ i k, i < n → k < sz → tell h1 h2 (g i k) (g i k)
  | .ro _ n sz g => ∀ i k, i < n → k < sz → tell h1 h2 (g i k) (g i k)
  | _ => True
def LessE (h h' h'' : Hp) (t : Nat) : Prop := fd t h'' = .gone ∨ (fd t h'' = fd t h' ∧ (fd t h' = fd t h ∨ tellE h' h'' (fd t h')))
theorem Rel.less {c : Cx} {h h' h'' : Hp} {w w' : World} (hr : Rel c h w) (hr' : Rel c h' w') (hx : Ext h h') (hx2 : Ext h h'') (H : ∀ t, LessE h h' h'' t) : Rel c h'' w' := by
  have tl : ∀ v x x', vrel h v x → vrel h' v x' → vrel h'' v x' := fun v x x' r r' => by
    have := vrel_fun v x x' (vrel_mono hx _ _ r) r'
    subst this
    exact vrel_mono hx2 _ _ r
  refine ⟨hr'.fr, fun t => ?_, fun t t' hne => ?_, hr'.tabs⟩
  · rcases H t with e | ⟨e, q⟩
    · rw [e]; trivial
    · rw [e]
      have h1 := hr'.holds t
      cases e1 : fd t h' with
      | blk b n sz g ty =>
        rw [e1] at h1 q
        obtain ⟨⟨cs, c1, c2, c3⟩, c4⟩ := h1
        refine ⟨⟨cs, c1, c2, fun i k hi hk => ?_⟩, c4⟩
        obtain ⟨x, ex, rx⟩ := c3 i k hi hk
        refine ⟨x, ex, ?_⟩
        rcases q with q | q
        · have h2 := hr.holds t
          rw [← q] at h2
          obtain ⟨⟨cs2, d1, d2, d3⟩, _⟩ := h2
          obtain ⟨x2, _, rx2⟩ := d3 i k hi hk
          exact tl _ _ _ rx2 rx
        · exact q i k hi hk x rx
      | ro b n sz g =>
        rw [e1] at h1 q
        intro i k hi hk
        obtain ⟨ad, x, q1, q2, rx, q4⟩ := h1 i k hi hk
        refine ⟨ad, x, q1, q2, ?_, q4⟩
        rcases q with q | q
        · have h2 := hr.holds t
          rw [← q] at h2
          obtain ⟨_, x2, _, _, rx2, _⟩ := h2 i k hi hk
          exact tl _ _ _ rx2 rx
        · exact q i k hi hk x rx
      | mp b l => rw [e1] at h1; exact h1
      | rmp b l => rw [e1] at h1; exact h1
      | it b mb l lf cu => rw [e1] at h1; exact h1
      | gone => trivial
  · refine Ent.apart_of fun b b' e1 e2 => ?_
    have k1 : (fd t h').at = some b := by
      rcases H t with e | ⟨e, _⟩
      · rw [e] at e1; cases e1
      · rw [← e]; exact e1
    have k2 : (fd t' h').at = some b' := by
      rcases H t' with e | ⟨e, _⟩
      · rw [e] at e2; cases e2
      · rw [← e]; exact e2
    exact Ent.apart_at (hr'.apart t t' hne) k1 k2
/-- A contract with the scratch memory forgotten behind the call. -/
def lessS (s : Spec) : Spec := fun args h nx K => s args h nx fun o h' _ => Ext h h' → ∃ h'' m, K o h'' m ∧ Ext h h'' ∧ (∀ t, LessE h h' h'' t) ∧ ∀ e, OutRel h' o e → OutRel h'' o e
theorem specOK_less {P : Program} {f : Nat} {s : Spec} (h1 : SpecOK P f s) : SpecOK P f (lessS s) := by
  intro c hc args h nx K hk w xs hr hv
  rcases h1 c hc args h nx _ hk w xs hr hv with ⟨e1, hcalls⟩ | ⟨x, w', e1, o, h', nx', ko, hr', hx, hor⟩
  · refine .inl ⟨e1, hcalls.mono ?_⟩
    rintro e w' ⟨o, h', nx', ko, hr', hx, hor⟩
    obtain ⟨h'', m, k, k2, k3, k4⟩ := ko hx
    exact ⟨o, h'', m, k, hr.less hr' hx k2 k3, k2, k4 _ hor⟩
  · obtain ⟨h'', m, k, k2, k3, k4⟩ := ko hx
    exact .inr ⟨x, w', e1, o, h'', m, k, hr.less hr' hx k2 k3, k2, k4 _ hor⟩
theorem flat_out {o : Out} (hf : o.flat) {h1 h2 : Hp} : ∀ e, OutRel h1 o e → OutRel h2 o e := fun _ r => Out.flat_rel hf r

/-- An entry told anew. -/
def tellE2 (h1 h2 : Hp) : Ent → Ent → Prop
  | .blk b n sz g ty, .blk b' n' sz' g' ty' => b = b' ∧ n = n' ∧ sz = sz' ∧ ty = ty' ∧ ∀ i k, i < n → k < sz → tell h1 h2 (g i k) (g' i k)
  | .ro b n sz g, .ro b' n' sz' g' => b = b' ∧ n' ≤ n ∧ sz = sz' ∧ ∀ i k, i < n' → k < sz → tell h1 h2 (g i k) (g' i k)
  | .mp b l, .mp b' l' => b = b' ∧ l = l'
  | .rmp b l, .rmp b' l' => b = b' ∧ l = l'
  | .it b mb l lf cu, .it b' mb' l' lf' cu' => b = b' ∧ mb = mb' ∧ l = l' ∧ lf = lf' ∧ cu = cu'
  | _, _ => False
def RenE (τ : Nat → Nat) (h h' h'' : Hp) (t : Nat) : Prop := fd t h'' = .gone ∨ (τ t = t ∧ fd t h'' = fd t h' ∧ fd t h' = fd t h) ∨ (∃ sz g, fd t h'' = .ro none 0 sz g) ∨ tellE2 h' h'' (fd (τ t) h') (fd t h'')
theorem tellE2_at {h1 h2 : Hp} {e e' : Ent} (h : tellE2 h1 h2 e e') {b : Nat} (hb : e'.at = some b) : e.at = some b := by
  cases e' <;> simp only [Ent.at] at hb <;> cases e <;> simp only [tellE2] at h <;> first | (rw [h.1]; exact hb) | cases hb
theorem Rel.ren {c : Cx} {h h' h'' : Hp} {w w' : World} (τ : Nat → Nat) (hr : Rel c h w) (hr' : Rel c h' w') (hx : Ext h h') (hx2 : Ext h h'') (H : ∀ t, RenE τ h h' h'' t) (hi : ∀ t t', t ≠ t' → (fd t h'').at.isSome = true → (fd t' h'').at.isSome = true → τ t ≠ τ t') : Rel c h'' w' := by
  have tl : ∀ v x x', vrel h v x → vrel h' v x' → vrel h'' v x' := fun v x x' r r' => by
    have := vrel_fun v x x' (vrel_mono hx _ _ r) r'
    subst this
    exact vrel_mono hx2 _ _ r
  refine ⟨hr'.fr, fun t => ?_, fun t t' hne => ?_, hr'.tabs⟩
  · rcases H t with e | ⟨e0, e, q⟩ | ⟨sz, g, e⟩ | q
    · rw [e]; trivial
    · rw [e]
      have h1 := hr'.holds t
      cases e1 : fd t h' with
      | blk b n sz g ty =>
        rw [e1] at h1
        obtain ⟨⟨cs, c1, c2, c3⟩, c4⟩ := h1
        refine ⟨⟨cs, c1, c2, fun i k hi hk => ?_⟩, c4⟩
        obtain ⟨x, ex, rx⟩ := c3 i k hi hk
        refine ⟨x, ex, ?_⟩
        have h2 := hr.holds t
        rw [← q, e1] at h2
        obtain ⟨⟨cs2, d1, d2, d3⟩, _⟩ := h2
        obtain ⟨x2, _, rx2⟩ := d3 i k hi hk
        exact tl _ _ _ rx2 rx
      | ro b n sz g =>
        rw [e1] at h1
        intro i k hi hk
        obtain ⟨ad, x, q1, q2, rx, q4⟩ := h1 i k hi hk
        refine ⟨ad, x, q1, q2, ?_, q4⟩
        have h2 := hr.holds t
        rw [← q, e1] at h2
        obtain ⟨_, x2, _, _, rx2, _⟩ := h2 i k hi hk
        exact tl _ _ _ rx2 rx
      | mp b l => rw [e1] at h1; exact h1
      | rmp b l => rw [e1] at h1; exact h1
      | it b mb l lf cu => rw [e1] at h1; exact h1
      | gone => trivial
    · rw [e]
      intro i k hi hk
      omega
    · have h1 := hr'.holds (τ t)
      cases e1 : fd (τ t) h' with
      | gone => rw [e1] at q; cases e2 : fd t h'' <;> rw [e2] at q <;> exact q.elim
      | it b mb l lf cu =>
        rw [e1] at h1 q
        cases e2 : fd t h'' with
        | it b' mb' l' lf' cu' => rw [e2] at q; obtain ⟨rfl, rfl, rfl, rfl, rfl⟩ := q; exact h1
        | _ => rw [e2] at q; exact q.elim
      | blk b n sz g ty =>
        rw [e1] at h1 q
        cases e2 : fd t h'' with
        | blk b' n' sz' g' ty' =>
          rw [e2] at q
          obtain ⟨rfl, rfl, rfl, rfl, q⟩ := q
          obtain ⟨⟨cs, c1, c2, c3⟩, c4⟩ := h1
          refine ⟨⟨cs, c1, c2, fun i k hi hk => ?_⟩, c4⟩
          obtain ⟨x, ex, rx⟩ := c3 i k hi hk
          exact ⟨x, ex, q i k hi hk x rx⟩
        | _ => rw [e2] at q; exact q.elim
      | ro b n sz g =>
        rw [e1] at h1 q
        cases e2 : fd t h'' with
        | ro b' n' sz' g' =>
          rw [e2] at q
          obtain ⟨rfl, hn, rfl, q⟩ := q
          intro i k hi hk
          obtain ⟨ad, x, q1, q2, rx, q4⟩ := h1 i k (by omega) hk
          exact ⟨ad, x, q1, q2, q i k hi hk x rx, q4⟩
        | _ => rw [e2] at q; exact q.elim
      | mp b l =>
        rw [e1] at h1 q
        cases e2 : fd t h'' with
        | mp b' l' => rw [e2] at q; obtain ⟨rfl, rfl⟩ := q; exact h1
        | _ => rw [e2] at q; exact q.elim
      | rmp b l =>
        rw [e1] at h1 q
        cases e2 : fd t h'' with
        | rmp b' l' => rw [e2] at q; obtain ⟨rfl, rfl⟩ := q; exact h1
        | _ => rw [e2] at q; exact q.elim
  · refine Ent.apart_of fun b b' e1 e2 => ?_
    have k : ∀ t b, (fd t h'').at = some b → (fd (τ t) h').at = some b := fun t b e1 => by
      rcases H t with e | ⟨e0, e, _⟩ | ⟨sz, g, e⟩ | q
      · rw [e] at e1; cases e1
      · rw [e0, ← e]; exact e1
      · rw [e] at e1; cases e1
      · exact tellE2_at q e1
    exact Ent.apart_at (hr'.apart _ _ (hi t t' hne (by rw [e1]; rfl) (by rw [e2]; rfl))) (k _ _ e1) (k _ _ e2)
/-- A contract told anew behind the call: what the walk left under other tags, its scratch memory forgotten. -/
def renS (s : Spec) : Spec := fun args h nx K => s args h nx fun o h' _ => Ext h h' → ∃ o' h'' m τ, K o' h'' m ∧ Ext h h'' ∧ (∀ t, RenE τ h h' h'' t) ∧ (∀ t t', t ≠ t' → (fd t h'').at.isSome = true → (fd t' h'').at.isSome = true → τ t ≠ τ t') ∧ ∀ e, OutRel h' o e → OutRel h'' o' e
theorem specOK_ren {P : Program} {f : Nat} {s : Spec} (h1 : SpecOK P f s) : SpecOK P f (renS s) := by
  intro c hc args h nx K hk w xs hr hv
  rcases h1 c hc args h nx _ hk w xs hr hv with ⟨e1, hcalls⟩ | ⟨x, w', e1, o, h', nx', ko, hr', hx, hor⟩
  · refine .inl ⟨e1, hcalls.mono ?_⟩
    rintro e w' ⟨o, h', nx', ko, hr', hx, hor⟩
    obtain ⟨o', h'', m, τ, k, k2, k3, k4, k5⟩ := ko hx
    exact ⟨o', h'', m, k, hr.ren τ hr' hx k2 k3 k4, k2, k5 _ hor⟩
  · obtain ⟨o', h'', m, τ, k, k2, k3, k4, k5⟩ := ko hx
    exact .inr ⟨x, w', e1, o', h'', m, k, hr.ren τ hr' hx k2 k3 k4, k2, k5 _ hor⟩

def methB (P : Program) (t : TypeId) (name : String) (f : FuncId) (p : Bool) (el : TypeId) : Bool :=
  match P.info? t with
  | some i => (match i.methods.find? (·.name == name) with
    | some m => m.path.isEmpty && (match m.func with | some (f', p') => f'.beq f && p' == p | none => false) && (match P.underlying t with | some (.pointer e) => e.beq el | _ => false)
    | none => false)
  | none => false
theorem Meth.of {P : Program} {t : TypeId} {name : String} {f : FuncId} {p : Bool} {el : TypeId} (h : methB P t name f p el = true) : Meth P t name f p el := by
  unfold methB at h
  split at h
  · rename_i i hi
    split at h
    · rename_i m hm
      simp only [Bool.and_eq_true] at h
      obtain ⟨⟨h1, h2⟩, h3⟩ := h
      refine ⟨i, m, hi, hm, by simpa using h1, ?_, ?_⟩
      · split at h2
        · rename_i f' p' e
          simp only [Bool.and_eq_true] at h2
          rw [e, Nat.eq_of_beq_eq_true h2.1, eq_of_beq h2.2]
        · cases h2
      · split at h3
        · rename_i e hd
          rw [hd, Nat.eq_of_beq_eq_true h3]
        · cases h3
    · cases h
  · cases h

/-- These slots hold these values. -/
def subS (σ : Sl) : Sl → Prop
  | [] => True
  | (t, v) :: r => lk t σ = some v ∧ subS σ r
theorem subS_at {σ : Sl} : ∀ {σ' : Sl}, subS σ σ' → ∀ t v, lk t σ' = some v → lk t σ = some v
  | [], _, t, v, e => by cases e
  | (u, x) :: r, ⟨h1, h2⟩, t, v, e => by
    rw [lk_cons] at e
    split at e
    · rename_i q; subst q; injection e with e; subst e; exact h1
    · exact subS_at h2 t v e
theorem W_sub {E : Env} {k : List It} {σ σ' : Sl} {h : Hp} {nx nx' : Nat} (hs : subS σ σ') (H : W E k σ' h nx') : W E k σ h nx := fun a w hm =>
  H a w ⟨hm.size, fun t v e => hm.slots t v (subS_at hs t v e), hm.calm, hm.rel⟩
/-- A piece that leaves memory as it says, and these slots. -/
theorem W_keep {E : Env} {x : Code} {k : List It} {σ : Sl} {h : Hp} {nx : Nat} (σ' : Sl) (h' : Hp) (nx' : Nat) (h1 : W E (.code x :: .fin (fun σ1 h1 _ => h1 = h' ∧ subS σ1 σ') :: k) σ h nx) (h2 : W E k σ' h' nx') : W E (.code x :: k) σ h nx :=
  W_piece _ h1 fun _ _ _ ⟨e, hs⟩ => by subst e; exact W_sub (nx' := nx') hs h2
/-- A piece that leaves what some a says. -/
theorem W_some {E : Env} {x : Code} {k : List It} {σ : Sl} {h : Hp} {nx : Nat} {α : Type} (Q : α → Prop) (σ' : α → Sl) (h' : α → Hp) (nx' : Nat) (h1 : W E (.code x :: .fin (fun σ1 h1 _ => ∃ a, Q a ∧ h1 = h' a ∧ subS σ1 (σ' a)) :: k) σ h nx) (h2 : ∀ a, Q a → W E k (σ' a) (h' a) nx') : W E (.code x :: k) σ h nx :=
  W_piece _ h1 fun _ _ _ ⟨a, hq, e, hs⟩ => by subst e; exact W_sub (nx' := nx') hs (h2 a hq)

/-! ### What is known, told anew by what values stand for -/
def tlS (h h' : Hp) (σ : Sl) : Sl → Prop
  | [] => True
  | (t, u) :: r => (∃ v, lk t σ = some v ∧ tell h h' v u) ∧ tlS h h' σ r
def tlH (τ : Nat → Nat) (h h' : Hp) : Hp → Prop
  | [] => True
  | (t, e) :: r => (e = .gone ∨ (∃ sz g, e = .ro none 0 sz g) ∨ tellE2 h h' (fd (τ t) h) e) ∧ tlH τ h h' r
theorem tlS_at {h h' : Hp} {σ : Sl} : ∀ {l : Sl}, tlS h h' σ l → ∀ t u, lk t l = some u → ∃ v, lk t σ = some v ∧ tell h h' v u
  | [], _, t, u, e => by cases e
  | (s, x) :: r, ⟨h1, h2⟩, t, u, e => by
    rw [lk_cons] at e
    split at e
    · rename_i q; subst q; injection e with e; subst e; exact h1
    · exact tlS_at h2 t u e
theorem tlH_at {τ : Nat → Nat} {h h' : Hp} : ∀ {l : Hp}, tlH τ h h' l → ∀ t e, (t, e) ∈ l → e = .gone ∨ (∃ sz g, e = .ro none 0 sz g) ∨ tellE2 h h' (fd (τ t) h) e
  | [], _, t, e, hm => by cases hm
  | (u, x) :: r, ⟨h1, h2⟩, t, e, hm => by
    rcases List.mem_cons.1 hm with hm | hm
    · injection hm with a b; subst a b; exact h1
    · exact tlH_at h2 t e hm
theorem W_tell {E : Env} {k : List It} {σ σ' : Sl} {h h' : Hp} {nx nx' : Nat} (τ : Nat → Nat) (hn : nodupB ((h'.map (·.1)).map τ) = true) (hs : tlS h h' σ σ') (hh : tlH τ h h' h') (H : W E k σ' h' nx') : W E k σ h nx := by
  intro a w hm
  have each : ∀ t, fd t h' = .gone ∨ (∃ sz g, fd t h' = .ro none 0 sz g) ∨ tellE2 h h' (fd (τ t) h) (fd t h') := fun t => by
    by_cases hl : live h' t
    · exact tlH_at hh t _ (fd_mem hl)
    · left
      cases e : fd t h' <;> first | rfl | (exfalso; exact hl (by unfold live; rw [e]; trivial))
  have hr : Rel E.c h' w := by
    have hr := hm.rel
    refine ⟨hr.fr, fun t => ?_, fun t t' hne => ?_, hr.tabs⟩
    · rcases each t with e | ⟨sz, g, e⟩ | q
      · rw [e]; trivial
      · rw [e]; intro i k hi hk; omega
      · have h1 := hr.holds (τ t)
        cases e1 : fd (τ t) h with
        | gone => rw [e1] at q; cases e2 : fd t h' <;> rw [e2] at q <;> exact q.elim
        | it b mb l lf cu =>
          rw [e1] at h1 q
          cases e2 : fd t h' with
          | it b' mb' l' lf' cu' => rw [e2] at q; obtain ⟨rfl, rfl, rfl, rfl, rfl⟩ := q; exact h1
          | _ => rw [e2] at q; exact q.elim
        | blk b n sz g ty =>
          rw [e1] at h1 q
          cases e2 : fd t h' with
          | blk b' n' sz' g' ty' =>
            rw [e2] at q
            obtain ⟨rfl, rfl, rfl, rfl, q⟩ := q
            obtain ⟨⟨cs, c1, c2, c3⟩, c4⟩ := h1
            exact ⟨⟨cs, c1, c2, fun i k hi hk => let ⟨x, ex, rx⟩ := c3 i k hi hk; ⟨x, ex, q i k hi hk x rx⟩⟩, c4⟩
          | _ => rw [e2] at q; exact q.elim
        | ro b n sz g =>
          rw [e1] at h1 q
          cases e2 : fd t h' with
          | ro b' n' sz' g' =>
            rw [e2] at q
            obtain ⟨rfl, hn, rfl, q⟩ := q
            intro i k hi hk
            obtain ⟨ad, x, q1, q2, rx, q4⟩ := h1 i k (by omega) hk
            exact ⟨ad, x, q1, q2, q i k hi hk x rx, q4⟩
          | _ => rw [e2] at q; exact q.elim
        | mp b l =>
          rw [e1] at h1 q
          cases e2 : fd t h' with
          | mp b' l' => rw [e2] at q; obtain ⟨rfl, rfl⟩ := q; exact h1
          | _ => rw [e2] at q; exact q.elim
        | rmp b l =>
          rw [e1] at h1 q
          cases e2 : fd t h' with
          | rmp b' l' => rw [e2] at q; obtain ⟨rfl, rfl⟩ := q; exact h1
          | _ => rw [e2] at q; exact q.elim
    · refine Ent.apart_of fun b b' e1 e2 => ?_
      have key : ∀ t b, (fd t h').at = some b → (fd (τ t) h).at = some b := fun t b e1 => by
        rcases each t with e | ⟨sz, g, e⟩ | q
        · rw [e] at e1; cases e1
        · rw [e] at e1; cases e1
        · exact tellE2_at q e1
      have hl := live_at e1
      have hl' := live_at e2
      have hd := inj_of_nodup (nodupB_iff hn) t t' (List.mem_map_of_mem (f := (·.1)) (fd_mem hl)) (List.mem_map_of_mem (f := (·.1)) (fd_mem hl')) hne
      exact Ent.apart_at (hr.apart _ _ hd) (key _ _ e1) (key _ _ e2)
  refine H a w ⟨hm.size, fun t u e => ?_, hm.calm, hr⟩
  obtain ⟨v, e1, r⟩ := tlS_at hs t u e
  exact r _ (hm.slots t v e1)

end Go.Proofs.Ytgcnknhfphgfnaa.Sx
