import Derived.Test.YtgcnknhfphgfnaaSxG1
/-
  Plain law: a heap of places.
-/
namespace Go.Proofs.Ytgcnknhfphgfnaa.Sx
open Go Go.Proofs
set_option maxRecDepth 100000
set_option linter.unusedSimpArgs false
set_option linter.unusedVariables false

/-- Is p ahead of q? -/
def lessP (p q : Pl) : Bool := if p.a != q.a then q.a else decide (p.n < q.n)
/-- p isn't behind q. -/
def leP (p q : Pl) : Prop := lessP q p = false
theorem leP_refl (p : Pl) : leP p p := by unfold leP lessP; simp
theorem leP_of_less {p q : Pl} (h : lessP p q = true) : leP p q := by
  obtain ⟨t, n, a, w⟩ := p
  obtain ⟨t', n', a', w'⟩ := q
  unfold leP
  unfold lessP at h ⊢
  cases a <;> cases a' <;> simp at h ⊢ <;> omega
theorem leP_total (p q : Pl) : leP p q ∨ leP q p := by
  cases h : lessP q p with
  | false => exact .inl h
  | true => exact .inr (leP_of_less h)
theorem leP_trans {p q r : Pl} (h : leP p q) (k : leP q r) : leP p r := by
  obtain ⟨t, n, a, w⟩ := p
  obtain ⟨t', n', a', w'⟩ := q
  obtain ⟨t'', n'', a'', w''⟩ := r
  unfold leP at h k ⊢
  unfold lessP at h k ⊢
  cases a <;> cases a' <;> cases a'' <;> simp at h k ⊢ <;> omega
theorem not_less {p q : Pl} (h : ¬ lessP p q = true) : leP q p := by unfold leP; simpa using h

abbrev par (k : Nat) : Nat := (k - 1) / 2
def leI (L : List Pl) (i j : Nat) : Prop := ∀ p q, L[i]? = some p → L[j]? = some q → leP p q
theorem leI.trans {L : List Pl} {i j k : Nat} (hj : j < L.length) (h : leI L i j) (h' : leI L j k) : leI L i k := fun p q hp hq =>
  leP_trans (h p _ hp (List.getElem?_eq_getElem hj)) (h' _ q (List.getElem?_eq_getElem hj) hq)
def swapL (L : List Pl) (i j : Nat) : List Pl := match L[i]?, L[j]? with | some p, some q => (L.set i q).set j p | _, _ => L
theorem swap_at {L : List Pl} {i j : Nat} (hi : i < L.length) (hj : j < L.length) (k : Nat) : (swapL L i j)[k]? = L[if k = j then i else if k = i then j else k]? := by
  unfold swapL
  rw [List.getElem?_eq_getElem hi, List.getElem?_eq_getElem hj]
  simp only
  by_cases h1 : k = j
  · subst h1
    rw [if_pos rfl, List.getElem?_set_self (by simpa using hj), List.getElem?_eq_getElem hi]
  · rw [if_neg h1, List.getElem?_set_ne (by omega)]
    by_cases h2 : k = i
    · subst h2
      rw [if_pos rfl, List.getElem?_set_self hi, List.getElem?_eq_getElem hj]
    · rw [if_neg h2, List.getElem?_set_ne (by omega)]
theorem swap_perm {L : List Pl} {i j : Nat} (hi : i < L.length) (hj : j < L.length) : (swapL L i j).Perm L := by
  unfold swapL
  rw [List.getElem?_eq_getElem hi, List.getElem?_eq_getElem hj]
  exact List.set_set_perm hi hj
theorem swap_len {L : List Pl} {i j : Nat} : (swapL L i j).length = L.length := by
  unfold swapL
  split <;> simp
def heapP (L : List Pl) (n : Nat) : Prop := ∀ k, 1 ≤ k → k < n → leI L (par k) k
def upInv (L : List Pl) (j n : Nat) : Prop := (∀ k, 1 ≤ k → k < n → k ≠ j → leI L (par k) k) ∧ ∀ k, 1 ≤ k → k < n → par k = j → 1 ≤ j → leI L (par j) k
def downInv (L : List Pl) (i n : Nat) : Prop := (∀ k, 1 ≤ k → k < n → par k ≠ i → leI L (par k) k) ∧ ∀ k, 1 ≤ k → k < n → par k = i → 1 ≤ i → leI L (par i) k
/-- How two places of a list with two changed stand, by the places of the one that was. -/
theorem leI.swap {L : List Pl} {i j : Nat} (hi : i < L.length) (hj : j < L.length) {a b : Nat} (h : leI L (if a = j then i else if a = i then j else a) (if b = j then i else if b = i then j else b)) : leI (swapL L i j) a b := fun p q hp hq => by
  rw [swap_at hi hj] at hp hq
  exact h p q hp hq
theorem up_start {L : List Pl} {p : Pl} (h : heapP L L.length) : upInv (L ++ [p]) L.length (L.length + 1) := by
  refine ⟨fun k h1 h2 h3 x y hx hy => ?_, fun k h1 h2 h3 => by unfold par at h3; omega⟩
  have hk : k < L.length := by omega
  have hp : par k < L.length := by unfold par; omega
  rw [List.getElem?_append_left hp] at hx
  rw [List.getElem?_append_left hk] at hy
  exact h k h1 hk x y hx hy
theorem up_step {L : List Pl} {j n : Nat} {p q : Pl} (hn : n ≤ L.length) (hj : j < n) (h1 : 1 ≤ j) (H : upInv L j n) (hp : L[j]? = some p) (hq : L[par j]? = some q) (hl : lessP p q = true) : upInv (swapL L (par j) j) (par j) n := by
  have hi : par j < j := by unfold par; omega
  have hle : leI L j (par j) := fun x y hx hy => by rw [hp] at hx; rw [hq] at hy; cases hx; cases hy; exact leP_of_less hl
  refine ⟨fun k a b c => ?_, fun k a b c d => ?_⟩
  · refine leI.swap (by omega) (by omega) ?_
    by_cases e : k = j
    · subst e
      rw [if_neg (by omega), if_pos rfl, if_pos rfl]
      exact hle
    · rw [if_neg e, if_neg c]
      by_cases e1 : par k = j
      · rw [if_pos e1]
        exact H.2 k a b e1 h1
      · rw [if_neg e1]
        by_cases e2 : par k = par j
        · rw [if_pos e2]
          have := H.1 k a b e
          rw [e2] at this
          exact leI.trans (by omega) hle this
        · rw [if_neg e2]
          exact H.1 k a b e
  · have hpp : par (par j) < par j := by unfold par at d ⊢; omega
    have h0 := H.1 (par j) d (by omega) (by omega)
    refine leI.swap (by omega) (by omega) ?_
    rw [if_neg (by omega), if_neg (by omega)]
    by_cases e : k = j
    · subst e
      rw [if_pos rfl]
      exact h0
    · have hkk : par k < k := by unfold par; omega
      rw [if_neg e, if_neg (by omega)]
      have := H.1 k a b e
      rw [c] at this
      exact leI.trans (by omega) h0 this
theorem up_end {L : List Pl} {j n : Nat} (H : upInv L j n) (h : j = 0 ∨ leI L (par j) j) : heapP L n := fun k a b => by
  by_cases e : k = j
  · subst e
    rcases h with h | h
    · omega
    · exact h
  · exact H.1 k a b e
theorem down_start {L : List Pl} {n : Nat} (hn : n < L.length) (h : heapP L L.length) : downInv (swapL L 0 n) 0 n := by
  refine ⟨fun k a b c => leI.swap (by omega) hn ?_, fun k a b c d => by omega⟩
  have : par k < k := by unfold par; omega
  rw [if_neg (by omega), if_neg c, if_neg (by omega), if_neg (by omega)]
  exact h k a (by omega)
/-- The lesser child of a place, and the other one. -/
structure Kid (L : List Pl) (i n j : Nat) : Prop where
  pr : Sx.par j = i
  pos : 1 ≤ j
  lt : j < n
  least : ∀ k, 1 ≤ k → k < n → Sx.par k = i → leI L j k
theorem Kid.left {L : List Pl} {i n : Nat} (h1 : 2 * i + 1 < n) (h : ∀ p q, 2 * i + 2 < n → L[2 * i + 2]? = some p → L[2 * i + 1]? = some q → ¬ lessP p q = true) : Kid L i n (2 * i + 1) := by
  refine ⟨by unfold par; omega, by omega, h1, fun k a b c x y hx hy => ?_⟩
  have : k = 2 * i + 1 ∨ k = 2 * i + 2 := by unfold par at c; omega
  rcases this with rfl | rfl
  · rw [hx] at hy; cases hy; exact leP_refl x
  · exact not_less (h y x b hy hx)
theorem Kid.right {L : List Pl} {i n : Nat} {p q : Pl} (h1 : 2 * i + 2 < n) (hp : L[2 * i + 2]? = some p) (hq : L[2 * i + 1]? = some q) (h : lessP p q = true) : Kid L i n (2 * i + 2) := by
  refine ⟨by unfold par; omega, by omega, h1, fun k a b c x y hx hy => ?_⟩
  have : k = 2 * i + 1 ∨ k = 2 * i + 2 := by unfold par at c; omega
  rcases this with rfl | rfl
  · rw [hp] at hx; rw [hq] at hy; cases hx; cases hy; exact leP_of_less h
  · rw [hx] at hy; cases hy; exact leP_refl x
theorem down_step {L : List Pl} {i j n : Nat} {p q : Pl} (hn : n ≤ L.length) (hk : Kid L i n j) (H : downInv L i n) (hp : L[j]? = some p) (hq : L[i]? = some q) (hl : lessP p q = true) : downInv (swapL L i j) j n := by
  have hpar := hk.pr
  have hpos := hk.pos
  have hlt := hk.lt
  have hij : i < j := by unfold par at hpar; omega
  have hle : leI L j i := fun x y hx hy => by rw [hp] at hx; rw [hq] at hy; cases hx; cases hy; exact leP_of_less hl
  refine ⟨fun k a b c => ?_, fun k a b c d => ?_⟩
  · refine leI.swap (by omega) (by omega) ?_
    rw [if_neg c]
    by_cases e : k = j
    · subst e
      rw [if_pos hpar, if_pos rfl]
      exact hle
    · rw [if_neg e]
      by_cases e1 : par k = i
      · rw [if_pos e1, if_neg (by unfold par at e1; omega)]
        exact hk.least k a b e1
      · rw [if_neg e1]
        by_cases e2 : k = i
        · subst e2
          rw [if_pos rfl]
          exact H.2 j hpos hlt hpar a
        · rw [if_neg e2]
          exact H.1 k a b e1
  · have hkj : j < k := by unfold par at c; omega
    refine leI.swap (by omega) (by omega) ?_
    rw [hpar, if_neg (by omega), if_pos rfl, if_neg (by omega), if_neg (by omega)]
    have := H.1 k a b (by omega)
    rw [c] at this
    exact this
theorem down_end {L : List Pl} {i n : Nat} (hn : n ≤ L.length) (H : downInv L i n) (h : n ≤ 2 * i + 1 ∨ ∃ j, Kid L i n j ∧ leI L i j) : heapP L n := fun k a b => by
  by_cases e : par k = i
  · rcases h with h | ⟨j, hk, hl⟩
    · unfold par at e; omega
    · rw [e]
      have := hk.lt
      exact leI.trans (by omega) hl (hk.least k a b e)
  · exact H.1 k a b e
theorem heap_root {L : List Pl} {n : Nat} (hn : n ≤ L.length) (H : heapP L n) : ∀ k, k < n → leI L 0 k := by
  intro k
  induction k using Nat.strongRecOn with
  | ind k ih =>
    intro hk
    by_cases e : k = 0
    · subst e
      intro p q hp hq
      rw [hp] at hq; cases hq; exact leP_refl p
    · have hp : par k < k := by unfold par; omega
      exact leI.trans (by omega) (ih _ hp (by omega)) (H k (by omega) hk)
theorem heap_take {L : List Pl} {n : Nat} (H : heapP L n) : heapP (L.take n) (L.take n).length := fun k a b p q hp hq => by
  have hb : k < n := by rw [List.length_take] at b; omega
  have hpk : par k < k := by unfold par; omega
  rw [List.getElem?_take, if_pos (by omega)] at hp
  rw [List.getElem?_take, if_pos hb] at hq
  exact H k a hb p q hp hq
/-- The first one taken, and what is left. -/
theorem pop_law {L L2 : List Pl} {n : Nat} {x : Pl} (hn : n + 1 = L.length) (H : heapP L L.length) (h2 : L2.Perm (swapL L 0 n)) (h3 : ∀ k, n ≤ k → L2[k]? = (swapL L 0 n)[k]?) (h4 : heapP L2 n) (hx : L[0]? = some x) :
    L2[n]? = some x ∧ (x :: L2.take n).Perm L ∧ heapP (L2.take n) (L2.take n).length ∧ ∀ y ∈ L2.take n, leP x y := by
  have h5 : L2[n]? = some x := by rw [h3 n (Nat.le_refl _), swap_at (by omega) (by omega), if_pos rfl]; exact hx
  have h6 : L2.Perm L := h2.trans (swap_perm (by omega) (by omega))
  have hl : L2.length = n + 1 := by rw [h6.length_eq]; exact hn.symm
  have h7 : L2 = L2.take n ++ [x] := by
    refine List.ext_getElem? fun k => ?_
    have htl : (L2.take n).length = n := by rw [List.length_take]; omega
    by_cases q : k < n
    · rw [List.getElem?_append_left (by omega), List.getElem?_take, if_pos q]
    · rw [List.getElem?_append_right (by omega), htl]
      by_cases q2 : k = n
      · subst q2; rw [h5, Nat.sub_self]; rfl
      · rw [List.getElem?_eq_none (by omega), List.getElem?_eq_none (by simp; omega)]
  have h8 : (x :: L2.take n).Perm L := by
    refine List.Perm.trans ?_ h6
    conv => rhs; rw [h7]
    exact (List.perm_append_comm (l₁ := L2.take n) (l₂ := [x])).symm
  refine ⟨h5, h8, heap_take h4, fun y hy => ?_⟩
  have hm : y ∈ L := h8.mem_iff.1 (List.mem_cons_of_mem _ hy)
  obtain ⟨k, hk, rfl⟩ := List.getElem_of_mem hm
  exact heap_root (Nat.le_refl _) H k hk x _ hx (List.getElem?_eq_getElem hk)
theorem pow_law {L L2 : List Pl} {p : Pl} (h2 : L2.Perm (L ++ [p])) : L2.Perm (p :: L) := h2.trans (List.perm_append_comm (l₁ := L) (l₂ := [p]))
end Go.Proofs.Ytgcnknhfphgfnaa.Sx

/-
  The heap's methods: Len, Less, Swap.
-/
namespace Go.Proofs.Ytgcnknhfphgfnaa.Sx
open Go Go.Proofs
set_option maxRecDepth 100000
set_option linter.unusedSimpArgs false
set_option linter.unusedVariables false

def plC (p : Pl) : Nat → V
  | 0 => .int .i64 p.t
  | 1 => .int .i64 p.n
  | 2 => .bool p.a
  | _ => .bool p.w
def R4 : RK Pl := ⟨4, 61, plC, Pl.zero, by decide, fun a k hk => by
  match k, hk with
  | 0, _ => exact ⟨trivial, rfl⟩
  | 1, _ => exact ⟨trivial, rfl⟩
  | 2, _ => exact ⟨trivial, rfl⟩
  | 3, _ => exact ⟨trivial, rfl⟩⟩
theorem appT4 : appTK R4 T 59 := ⟨_, _, rfl, rfl, rfl, rfl, rfl, rfl, fun k hk => by
  match k, hk with
  | 0, _ => rfl
  | 1, _ => rfl
  | 2, _ => rfl
  | 3, _ => rfl⟩
theorem putG_row {sz : Nat} {g : Nat → Nat → V} {i : Nat} {l : List V} (hl : l.length = sz) {x k : Nat} (hk : k < sz) : putG sz g i 0 l x k = if x = i then (l[k]?).getD (g x k) else g x k := by
  unfold putG
  by_cases hx : x = i
  · subst hx
    rw [if_pos rfl, Nat.ble_eq_true_of_le (by omega)]
    rw [show x * sz + k - (x * sz + 0) = k by omega, List.getElem?_eq_getElem (by omega)]
    rfl
  · rw [if_neg hx]
    cases hb : Nat.ble (i * sz + 0) (x * sz + k) with
    | false => rfl
    | true =>
      have hle := Nat.le_of_ble_eq_true hb
      have : i < x := by
        rcases Nat.lt_or_ge x i with h | h
        · have h2 : (x + 1) * sz ≤ i * sz := Nat.mul_le_mul_right _ h
          rw [Nat.add_mul] at h2; omega
        · omega
      have h2 : (i + 1) * sz ≤ x * sz := Nat.mul_le_mul_right _ this
      rw [Nat.add_mul] at h2
      rw [List.getElem?_eq_none (by omega)]
theorem nat0 {i : Nat} : addI 0 ((i : Int)).toNat = i := by rw [Int.toNat_natCast, addI_eq, Nat.zero_add]
theorem getD_of {α : Type} {l : List α} {j : Nat} {a z : α} (h : l[j]? = some a) : l.getD j z = a := by rw [List.getD_eq_getElem?_getD, h]; rfl
theorem lt_of_at {α : Type} {l : List α} {j : Nat} {a : α} (h : l[j]? = some a) : j < l.length := (List.getElem?_eq_some_iff.1 h).1

def sLn : Spec := fun args h nx K => ∃ t i n c, args = [.slice t i n c] ∧ K (.ret (.int .i64 (n : Int))) h nx
theorem sLn_ok : SpecOK Try.prog 63 sLn := specOK_imp (inlx_ok (fn := Try.f63) rfl rfl rfl T_ok (SP := []) noSP) <| by
  rintro args h nx K ⟨t, i, n, c, rfl, hk⟩
  refine ⟨by simp [Try.f63], fun cx hc => ?_⟩
  have hE := mkE' (fn := Try.f63) (R := fun o h' _ => Ext h h' ∧ ∃ m, K o h' m) hc noSP
  refine vc_sound hE 40 _ _ _ nx ?_
  exact ⟨Ext.refl h, nx, hk⟩

def sLess : Spec := fun args h nx K => ∃ (v : V) (L : List Pl) (i j : Nat) (p q : Pl), args = [v, .int .i64 (i : Int), .int .i64 (j : Int)] ∧ rdK R4 h v L ∧ (∀ tv i n c', v = .slice tv i n c' → n ≤ c') ∧ L[i]? = some p ∧ L[j]? = some q ∧ K (.ret (.bool (lessP p q))) h nx
theorem sLess_ok : SpecOK Try.prog 64 sLess := by
  refine specOK_read2 (fn := Try.f64) rfl rfl rfl T_ok (SP := []) noSP 0 _ ?_
  rintro args h nx K ⟨v, L, i, j, p, q, rfl, hv, hc, hp, hq, hk⟩
  obtain ⟨b, c, hcl, H⟩ := told_K1 (rest := [.int .i64 (i : Int), .int .i64 (j : Int)]) hv hc ⟨trivial, trivial, trivial⟩
  refine ⟨_, _, H, by simp [Try.f64], fun o => o = .ret (.bool (lessP p q)), ?_, ?_⟩
  · rintro o rfl; exact ⟨trivial, hk⟩
  intro cx hc
  have hE := mkE' (fn := Try.f64) (R := fun o _ _ => o = .ret (.bool (lessP p q))) hc noSP
  have hi := lt_of_at hp
  have hj := lt_of_at hq
  have di : L.getD (addI 0 ((i : Int)).toNat) Pl.zero = p := by rw [nat0]; exact getD_of hp
  have dj : L.getD (addI 0 ((j : Int)).toNat) Pl.zero = q := by rw [nat0]; exact getD_of hq
  show W _ _ _ _ 30
  refine vc_sound hE 100 _ _ _ 30 ?_
  refine W_planw hE 30 [] (lineP 0 11 .done) (by rw [hc]; exact mix) (by kernel_rfl) 31 ?_
  refine ⟨_, ⟨rfl, rfl⟩, ?_⟩
  refine ⟨_, ⟨rfl, rfl⟩, ?_⟩
  refine ⟨.ptr 2000 (addI 0 ((i : Int)).toNat) 0, (show chk _ _ from chk_ok (show (decide ((0 : Int) ≤ (i : Int)) && decide ((i : Int) < (L.length : Int))) = true by simp only [Bool.and_eq_true, decide_eq_true_eq]; omega) (show chk _ _ from chk_ok rfl ⟨rfl, rfl⟩)), ?_⟩
  refine ⟨_, ⟨rfl, rfl⟩, ?_⟩
  refine ⟨.bool (L.getD (addI 0 ((i : Int)).toNat) Pl.zero).a, (show chk _ _ from chk_ok (Nat.ble_eq_true_of_le (show addI 0 ((i : Int)).toNat * 4 + (0 + 2) + 1 ≤ L.length * 4 by rw [nat0]; omega)) ⟨rfl, rfl⟩), ?_⟩
  refine ⟨_, ⟨rfl, rfl⟩, ?_⟩
  refine ⟨_, ⟨rfl, rfl⟩, ?_⟩
  refine ⟨.ptr 2000 (addI 0 ((j : Int)).toNat) 0, (show chk _ _ from chk_ok (show (decide ((0 : Int) ≤ (j : Int)) && decide ((j : Int) < (L.length : Int))) = true by simp only [Bool.and_eq_true, decide_eq_true_eq]; omega) (show chk _ _ from chk_ok rfl ⟨rfl, rfl⟩)), ?_⟩
  refine ⟨_, ⟨rfl, rfl⟩, ?_⟩
  refine ⟨.bool (L.getD (addI 0 ((j : Int)).toNat) Pl.zero).a, (show chk _ _ from chk_ok (Nat.ble_eq_true_of_le (show addI 0 ((j : Int)).toNat * 4 + (0 + 2) + 1 ≤ L.length * 4 by rw [nat0]; omega)) ⟨rfl, rfl⟩), ?_⟩
  refine ⟨.bool (!((L.getD (addI 0 ((i : Int)).toNat) Pl.zero).a == (L.getD (addI 0 ((j : Int)).toNat) Pl.zero).a)), ⟨rfl, rfl⟩, ?_⟩
  refine putS_some rfl ?_
  (refine (?_ : br _ _ _); refine br_both (fun e => ?_) (fun e => ?_))
  · have hne : (p.a != q.a) = true := by
      have e : (!((L.getD (addI 0 ((i : Int)).toNat) Pl.zero).a == (L.getD (addI 0 ((j : Int)).toNat) Pl.zero).a)) = true := e
      rw [di, dj] at e; exact e
    (refine (?_ : chk _ _); refine chk_ok (show (decide ((0 : Int) ≤ (j : Int)) && decide ((j : Int) < (L.length : Int))) = true by simp only [Bool.and_eq_true, decide_eq_true_eq]; omega) ?_)
    (refine (?_ : chk _ _); refine chk_ok rfl ?_)
    (refine (?_ : chk _ _); refine chk_ok (Nat.ble_eq_true_of_le (show addI 0 ((j : Int)).toNat * 4 + (0 + 2) + 1 ≤ L.length * 4 by rw [nat0]; omega)) ?_)
    show Out.ret (.bool (L.getD (addI 0 ((j : Int)).toNat) Pl.zero).a) = _
    rw [dj]
    unfold lessP
    rw [if_pos hne]
  · have hne : ¬ (p.a != q.a) = true := by
      have e : (!((L.getD (addI 0 ((i : Int)).toNat) Pl.zero).a == (L.getD (addI 0 ((j : Int)).toNat) Pl.zero).a)) = false := e
      rw [di, dj] at e; show ¬ (!(p.a == q.a)) = true; rw [e]; simp
    refine W_planw hE 30 [] (lineP 0 12 .done) (by rw [hc]; exact mix) (by kernel_rfl) 31 ?_
    refine ⟨_, ⟨rfl, rfl⟩, ?_⟩
    refine ⟨_, ⟨rfl, rfl⟩, ?_⟩
    refine ⟨.ptr 2000 (addI 0 ((i : Int)).toNat) 0, (show chk _ _ from chk_ok (show (decide ((0 : Int) ≤ (i : Int)) && decide ((i : Int) < (L.length : Int))) = true by simp only [Bool.and_eq_true, decide_eq_true_eq]; omega) (show chk _ _ from chk_ok rfl ⟨rfl, rfl⟩)), ?_⟩
    refine ⟨_, ⟨rfl, rfl⟩, ?_⟩
    refine ⟨.int .i64 (L.getD (addI 0 ((i : Int)).toNat) Pl.zero).n, (show chk _ _ from chk_ok (Nat.ble_eq_true_of_le (show addI 0 ((i : Int)).toNat * 4 + (0 + 1) + 1 ≤ L.length * 4 by rw [nat0]; omega)) ⟨rfl, rfl⟩), ?_⟩
    refine ⟨_, ⟨rfl, rfl⟩, ?_⟩
    refine ⟨_, ⟨rfl, rfl⟩, ?_⟩
    refine ⟨.ptr 2000 (addI 0 ((j : Int)).toNat) 0, (show chk _ _ from chk_ok (show (decide ((0 : Int) ≤ (j : Int)) && decide ((j : Int) < (L.length : Int))) = true by simp only [Bool.and_eq_true, decide_eq_true_eq]; omega) (show chk _ _ from chk_ok rfl ⟨rfl, rfl⟩)), ?_⟩
    refine ⟨_, ⟨rfl, rfl⟩, ?_⟩
    refine ⟨.int .i64 (L.getD (addI 0 ((j : Int)).toNat) Pl.zero).n, (show chk _ _ from chk_ok (Nat.ble_eq_true_of_le (show addI 0 ((j : Int)).toNat * 4 + (0 + 1) + 1 ≤ L.length * 4 by rw [nat0]; omega)) ⟨rfl, rfl⟩), ?_⟩
    refine ⟨.bool (decide ((L.getD (addI 0 ((i : Int)).toNat) Pl.zero).n < (L.getD (addI 0 ((j : Int)).toNat) Pl.zero).n)), ⟨rfl, rfl⟩, ?_⟩
    refine putS_some rfl ?_
    refine ⟨_, ⟨rfl, rfl⟩, ?_⟩
    refine putS_some rfl ?_
    show Out.ret (.bool (decide ((L.getD (addI 0 ((i : Int)).toNat) Pl.zero).n < (L.getD (addI 0 ((j : Int)).toNat) Pl.zero).n))) = _
    rw [di, dj]
    unfold lessP
    rw [if_neg hne]
end Go.Proofs.Ytgcnknhfphgfnaa.Sx

/-
  The heap's Swap; up.
-/
namespace Go.Proofs.Ytgcnknhfphgfnaa.Sx
open Go Go.Proofs
set_option maxRecDepth 100000
set_option linter.unusedSimpArgs false
set_option linter.unusedVariables false

def plL (p : Pl) : List V := [.int .i64 p.t, .int .i64 p.n, .bool p.a, .bool p.w]
theorem plL_at {p : Pl} {k : Nat} (hk : k < 4) (v : V) : ((plL p)[k]?).getD v = plC p k := by
  match k, hk with
  | 0, _ => rfl
  | 1, _ => rfl
  | 2, _ => rfl
  | 3, _ => rfl
def sSwap : Spec := fun args h nx K => ∃ (ta cp : Nat) (L : List Pl) (i j : Nat) (e : Ent), args = [.slice ta 0 L.length cp, .int .i64 (i : Int), .int .i64 (j : Int)] ∧ fd ta h = e ∧ lstK R4 e L cp ∧ i < L.length ∧ j < L.length ∧ ∀ e', e'.rf = e.rf → lstK R4 e' (swapL L i j) cp → K (.ret (.tup [])) ((ta, e') :: h) nx
theorem sSwap_ok : SpecOK Try.prog 65 sSwap := by
  refine specOK_mut (fn := Try.f65) rfl rfl rfl T_ok (SP := []) noSP _ ?_
  rintro args h nx K ⟨ta, cp, L, i, j, e, rfl, hfd, hl, hi, hj, hk⟩
  obtain ⟨b, g, F, rfl, h1, h2, h3, h4⟩ := hl.blk (by omega)
  have hF : ∀ x, x < L.length → ∀ z, L.getD x z = F x := fun x hx z => by rw [getD_of (List.getElem?_eq_getElem hx)]; exact (h4 x _ (List.getElem?_eq_getElem hx)).symm
  refine ⟨fun _ => ta, [(41, .blk b cp 4 (gF R4 F) 61)], [.slice 41 0 L.length cp, .int .i64 (i : Int), .int .i64 (j : Int)], fun t b l e => ?_, rfl, ⟨?_, trivial⟩, ⟨⟨⟨rfl, trivial⟩, rfl, rfl, rfl⟩, ⟨rfl, rfl⟩, ⟨rfl, rfl⟩, trivial⟩, by simp [Try.f65], fun o h1 => ∃ g1, o = .ret (.tup []) ∧ fd 41 h1 = .blk b cp 4 g1 61 ∧ ∀ x k, x < cp → k < 4 → g1 x k = gF R4 (fun x => if x = j then F i else if x = i then F j else F x) x k, ?_, ?_⟩
  · rw [fd_cons] at e
    split at e
    · cases e
    · cases e
  · show wkE _ _ (fd ta h) _
    rw [hfd]
    exact ⟨rfl, rfl, rfl, rfl, fun x k hx hk => by rw [h3 x k hx hk]; exact flat_rn _ (gF_flat hk)⟩
  · rintro o h5 ⟨g1, rfl, e1, hg⟩
    refine ⟨fun _ => 41, [(ta, .blk b cp 4 g1 61)], .ret (.tup []), ⟨fun p hp => ?_, fun t b' n sz g' ty' e' => ?_, fun t hl => ?_, trivial⟩, hk _ rfl (lstK.of (F := fun x => if x = j then F i else if x = i then F j else F x) (by rw [swap_len]; exact h1) h2 hg fun x a hx => ?_)⟩
    · simp at hp; subst hp; simp
    · unfold live; rw [fd_cons, if_pos rfl]; trivial
    · have ht : t = ta := by
        unfold live at hl
        rw [fd_cons] at hl
        by_cases q : t = ta
        · exact q
        · rw [if_neg q] at hl; exact hl.elim
      subst ht
      exact ⟨41, b, cp, 4, gF R4 F, g1, g1, 61, rfl, rfl, rfl, e1, by rw [fd_cons, if_pos rfl], fun x k hx hk => by rw [hg x k hx hk]; exact flat_rn _ (gF_flat (R := R4) hk)⟩
    · have hx' := lt_of_at hx
      rw [swap_len] at hx'
      rw [swap_at hi hj] at hx
      show (if x = j then F i else if x = i then F j else F x) = a
      by_cases q : x = j
      · rw [if_pos q] at hx ⊢; exact h4 _ _ hx
      · rw [if_neg q] at hx ⊢
        by_cases q2 : x = i
        · rw [if_pos q2] at hx ⊢; exact h4 _ _ hx
        · rw [if_neg q2] at hx ⊢; exact h4 _ _ hx
  intro cx hc
  have hE := mkE' (fn := Try.f65) (R := fun o h1 _ => ∃ g1, o = .ret (.tup []) ∧ fd 41 h1 = .blk b cp 4 g1 61 ∧ ∀ x k, x < cp → k < 4 → g1 x k = gF R4 (fun x => if x = j then F i else if x = i then F j else F x) x k) hc noSP
  show W _ _ _ _ 30
  refine vc_sound hE 100 _ _ _ 30 ?_
  refine W_planw hE 30 [13, 15] (lineP 0 13 (oneP 13 (oneP 14 (oneP 15 .done)))) (by rw [hc]; exact mix) (by kernel_rfl) 31 ?_
  iterate 6 (refine ⟨_, ⟨rfl, rfl⟩, ?_⟩)
  refine ⟨.ptr 41 (addI 0 ((j : Int)).toNat) 0, (show chk _ _ from chk_ok (show (decide ((0 : Int) ≤ (j : Int)) && decide ((j : Int) < (L.length : Int))) = true by simp only [Bool.and_eq_true, decide_eq_true_eq]; omega) (show chk _ _ from chk_ok rfl ⟨rfl, rfl⟩)), ?_⟩
  refine ⟨.agg (plL (F (addI 0 ((j : Int)).toNat))), (show chk _ _ from chk_ok (Nat.ble_eq_true_of_le (show addI 0 ((j : Int)).toNat * 4 + 0 + 4 ≤ cp * 4 by rw [nat0]; omega)) ⟨rfl, rfl⟩), ?_⟩
  iterate 2 (refine ⟨_, ⟨rfl, rfl⟩, ?_⟩)
  refine ⟨.ptr 41 (addI 0 ((i : Int)).toNat) 0, (show chk _ _ from chk_ok (show (decide ((0 : Int) ≤ (i : Int)) && decide ((i : Int) < (L.length : Int))) = true by simp only [Bool.and_eq_true, decide_eq_true_eq]; omega) (show chk _ _ from chk_ok rfl ⟨rfl, rfl⟩)), ?_⟩
  refine ⟨.agg (plL (F (addI 0 ((i : Int)).toNat))), (show chk _ _ from chk_ok (Nat.ble_eq_true_of_le (show addI 0 ((i : Int)).toNat * 4 + 0 + 4 ≤ cp * 4 by rw [nat0]; omega)) ⟨rfl, rfl⟩), ?_⟩
  refine ⟨.ptr 41 (addI 0 ((i : Int)).toNat) 0, (show chk _ _ from chk_ok (show (decide ((0 : Int) ≤ (i : Int)) && decide ((i : Int) < (L.length : Int))) = true by simp only [Bool.and_eq_true, decide_eq_true_eq]; omega) (show chk _ _ from chk_ok rfl ⟨rfl, rfl⟩)), ?_⟩
  refine putS_some rfl ?_
  refine ⟨⟨trivial, ?_⟩, trivial⟩
  (refine (?_ : chk _ _); refine chk_ok (Nat.ble_eq_true_of_le (show addI 0 ((i : Int)).toNat * 4 + 0 + 4 ≤ cp * 4 by rw [nat0]; omega)) ?_)
  refine ⟨⟨?_, ?_⟩, trivial⟩
  · (refine (?_ : chk _ _); refine chk_ok (show (decide ((0 : Int) ≤ (j : Int)) && decide ((j : Int) < (L.length : Int))) = true by simp only [Bool.and_eq_true, decide_eq_true_eq]; omega) ?_)
    (refine (?_ : chk _ _); refine chk_ok rfl ?_)
    trivial
  (refine (?_ : chk _ _); refine chk_ok (show (decide ((0 : Int) ≤ (j : Int)) && decide ((j : Int) < (L.length : Int))) = true by simp only [Bool.and_eq_true, decide_eq_true_eq]; omega) ?_)
  (refine (?_ : chk _ _); refine chk_ok rfl ?_)
  refine putS_some rfl ?_
  refine ⟨⟨trivial, ?_⟩, trivial⟩
  (refine (?_ : chk _ _); refine chk_ok (Nat.ble_eq_true_of_le (show addI 0 ((j : Int)).toNat * 4 + 0 + 4 ≤ cp * 4 by rw [nat0]; omega)) ?_)
  refine ⟨_, rfl, rfl, fun x k hx hk => ?_⟩
  have hll : ∀ p, (plL p).length = 4 := fun _ => rfl
  show putG 4 (putG 4 (gF R4 F) (addI 0 ((i : Int)).toNat) 0 (plL (F (addI 0 ((j : Int)).toNat)))) (addI 0 ((j : Int)).toNat) 0 (plL (F (addI 0 ((i : Int)).toNat))) x k = plC (if x = j then F i else if x = i then F j else F x) k
  rw [nat0, nat0, putG_row (hll _) hk, putG_row (hll _) hk]
  by_cases q : x = j
  · rw [if_pos q, if_pos q, plL_at hk]
  · rw [if_neg q, if_neg q]
    by_cases q2 : x = i
    · rw [if_pos q2, if_pos q2, plL_at hk]
    · rw [if_neg q2, if_neg q2]; rfl
end Go.Proofs.Ytgcnknhfphgfnaa.Sx

/-
  container/heap: up.
-/
namespace Go.Proofs.Ytgcnknhfphgfnaa.Sx
open Go Go.Proofs
set_option maxRecDepth 100000
set_option linter.unusedSimpArgs false
set_option linter.unusedVariables false

theorem lstK.rdn {α : Type} {R : RK α} {e : Ent} {l : List α} {cap n : Nat} (he : lstK R e l cap) {h : Hp} {t : Nat} (ht : fd t h = e) (hn : l.length = n) : rdK R h (.slice t 0 n cap) l := by subst hn; exact he.rd ht
/-- The variable that holds the slice. -/
abbrev boxL (bl ta n cp : Nat) : Ent := .blk bl 1 1 (gOf 1 [.slice ta 0 n cp]) 59
theorem boxL_wk {bl ta n cp : Nat} {τ : Nat → Nat} {h' : Hp} {ta' : Nat} (ht : ta = τ ta') (hv : live h' ta') : wkE τ h' (boxL bl ta n cp) (boxL bl ta' n cp) := ⟨rfl, rfl, rfl, rfl, fun i c hi hc => by
  obtain rfl : i = 0 := by omega
  obtain rfl : c = 0 := by omega
  exact ⟨⟨ht, hv⟩, rfl, rfl, rfl⟩⟩
theorem swap_len2 {L L' : List Pl} {i j : Nat} (h : L'.length = L.length) : (swapL L' i j).length = L.length := by rw [swap_len, h]
theorem par_eq {j : Nat} (hj : j < 1000000) : IntKind.i64.wrap ((IntKind.i64.wrap ((j : Int) - 1)).tdiv 2) = ((par j : Nat) : Int) := by
  cases j with
  | zero => decide
  | succ j =>
    have e : ((j + 1 : Nat) : Int) - 1 = (j : Int) := by omega
    have w1 : IntKind.i64.wrap (j : Int) = (j : Int) := by simp only [IntKind.wrap_i64]; omega
    have e2 : ((j : Nat) : Int).tdiv 2 = ((j / 2 : Nat) : Int) := by rw [Int.tdiv_eq_ediv_of_nonneg (by omega)]; omega
    rw [e, w1, e2]
    have : par (j + 1) = j / 2 := by unfold par; rfl
    rw [this]
    simp only [IntKind.wrap_i64]; omega

def sUp : Spec := fun args h nx K => ∃ (bl ta cp j : Nat) (L : List Pl) (e : Ent), args = [.iface 63 (.ptr 40 0 0), .int .i64 (j : Int)] ∧ (ta = 41 ∨ ta = 46) ∧ fd 40 h = boxL bl ta L.length cp ∧ fd ta h = e ∧ lstK R4 e L cp ∧ j < L.length ∧ L.length ≤ 1000 ∧ upInv L j L.length ∧
  ∀ L' e', L'.Perm L → heapP L' L'.length → e'.rf = e.rf → lstK R4 e' L' cp → K (.ret (.tup [])) ((40, boxL bl ta L.length cp) :: (ta, e') :: h) nx
theorem rf_blk {b cp : Nat} {g F : _} {e' : Ent} {L' : List Pl} (hl : lstK R4 e' L' cp) (h0 : 0 < L'.length) (hr : e'.rf = (Ent.blk b cp 4 g F).rf) : ∃ g' F', e' = .blk b cp 4 g' 61 ∧ (∀ j k, j < cp → k < 4 → g' j k = gF R4 F' j k) := by
  obtain ⟨b', g', F', rfl, h1, h2, h3, h4⟩ := hl.blk h0
  have : b' = b := by injection hr with hr; injection hr with q; injection q with q; injection q
  subst this
  exact ⟨g', F', rfl, h3⟩
theorem sUp_ok : SpecOK Try.prog 43 sUp := by
  refine specOK_mut (fn := Try.f43) rfl rfl rfl T_ok (SP := [(64, sLess), (65, sSwap)]) (consSP sLess_ok (consSP sSwap_ok noSP)) _ ?_
  rintro args h nx K ⟨bl, ta, cp, j, L, e, rfl, hta, hbox, hfd, hl, hj, hsz, hup, hk⟩
  obtain ⟨b, g, F, rfl, h1, h2, h3, h4⟩ := hl.blk (by omega)
  obtain ⟨e0, he0⟩ : ∃ e0 : Ent, e0 = .blk b cp 4 (gF R4 F) 61 := ⟨_, rfl⟩
  have hl0 : lstK R4 e0 L cp := by rw [he0]; exact lstK.of (R := R4) h1 h2 (fun _ _ _ _ => rfl) h4
  have hne : ta ≠ 40 := by omega
  refine ⟨tau [(41, ta)], [(40, boxL bl 41 L.length cp), (41, e0)], [.iface 63 (.ptr 40 0 0), .int .i64 (j : Int)], fun t b l e => ?_, by rw [he0]; rcases hta with rfl | rfl <;> rfl, ⟨?_, ?_, trivial⟩, ⟨⟨rfl, ⟨rfl, trivial⟩, rfl, rfl⟩, ⟨rfl, rfl⟩, trivial⟩, by simp [Try.f43], fun o h1 => ∃ L' e', o = .ret (.tup []) ∧ L'.Perm L ∧ heapP L' L'.length ∧ e'.rf = e0.rf ∧ lstK R4 e' L' cp ∧ fd 40 h1 = boxL bl 41 L.length cp ∧ fd 41 h1 = e', ?_, ?_⟩
  · rw [fd_cons] at e
    split at e
    · cases e
    · rw [fd_cons] at e
      split at e
      · rw [he0] at e; cases e
      · cases e
  · show wkE _ _ (fd 40 h) _
    rw [hbox]
    exact boxL_wk rfl (by subst he0; trivial)
  · show wkE _ _ (fd ta h) _
    rw [hfd, he0]
    exact ⟨rfl, rfl, rfl, rfl, fun x k hx hk => by rw [h3 x k hx hk]; exact flat_rn _ (gF_flat hk)⟩
  · rintro o h5 ⟨L', e', rfl, hp, hh, hrf, hl', f40, f41⟩
    have hlen := hp.length_eq
    obtain ⟨g', F', rfl, hg'⟩ := rf_blk hl' (by omega) (by rw [he0] at hrf; exact hrf)
    have lv : ∀ t, live [(40, boxL bl ta L.length cp), (ta, .blk b cp 4 g' 61)] t → t = 40 ∨ t = ta := fun t hl => by
      by_cases q : t = 40
      · exact .inl q
      by_cases q2 : t = ta
      · exact .inr q2
      · unfold live at hl
        rw [fd_cons, if_neg q, fd_cons, if_neg q2] at hl
        exact hl.elim
    have f1 : fd ta [(40, boxL bl ta L.length cp), (ta, .blk b cp 4 g' 61)] = .blk b cp 4 g' 61 := by rw [fd_cons, if_neg hne, fd_cons, if_pos rfl]
    have lt : live [(40, boxL bl ta L.length cp), (ta, .blk b cp 4 g' 61)] ta := by unfold live; rw [f1]; trivial
    refine ⟨fun t => if t = 40 then 40 else 41, [(40, boxL bl ta L.length cp), (ta, .blk b cp 4 g' 61)], .ret (.tup []), ⟨fun p hp => ?_, fun t b' n sz g2 ty' e' => ?_, fun t hl => ?_, trivial⟩, hk L' _ hp hh rfl hl'⟩
    · simp at hp; rcases hp with rfl | rfl <;> simp
    · rw [fd_cons] at e'
      by_cases q : t = 40
      · subst q; trivial
      · rw [if_neg q, fd_cons] at e'
        by_cases q2 : t = 41
        · subst q2; exact lt
        · rw [if_neg q2] at e'; cases e'
    · rcases lv t hl with rfl | rfl
      · exact ⟨40, bl, 1, 1, _, _, _, 59, rfl, rfl, rfl, f40, rfl, fun x k hx hk => by
          obtain rfl : x = 0 := by omega
          obtain rfl : k = 0 := by omega
          exact ⟨⟨by show 41 = (if ta = 40 then 40 else 41); rw [if_neg hne], lt⟩, rfl, rfl, rfl⟩⟩
      · exact ⟨41, b, cp, 4, gF R4 F, g', g', 61, by rcases hta with rfl | rfl <;> rfl, by show (if t = 40 then 40 else 41) = 41; rw [if_neg hne], by rw [he0]; rfl, f41, f1, fun x k hx hk => by rw [hg' x k hx hk]; exact flat_rn _ (gF_flat (R := R4) hk)⟩
  intro cx hc
  have hE := mkE' (fn := Try.f43) (R := fun o h1 _ => ∃ L' e', o = .ret (.tup []) ∧ L'.Perm L ∧ heapP L' L'.length ∧ e'.rf = e0.rf ∧ lstK R4 e' L' cp ∧ fd 40 h1 = boxL bl 41 L.length cp ∧ fd 41 h1 = e') hc (consSP sLess_ok (consSP sSwap_ok noSP))
  refine vc_sound hE 2 _ _ _ 30 ?_
  clear h3 h4 hfd hbox hk hl
  refine W_loop (fun q σ h => ∃ (L' : List Pl) (e' : Ent) (j : Nat), q = j ∧ L'.Perm L ∧ upInv L' j L.length ∧ j < L.length ∧ lstK R4 e' L' cp ∧ e'.rf = e0.rf ∧ σ = [(0, .iface 63 (.ptr 40 0 0)), (1, .int .i64 (j : Int))] ∧ h = [(40, boxL bl 41 L.length cp), (41, e')])
    j ⟨L, e0, j, rfl, List.Perm.refl _, hup, hj, hl0, rfl, rfl, rfl⟩ (tau []) ⟨rfl, (by repeat' (first | exact rfl | exact trivial | assumption | refine ⟨?_, ?_⟩)), boxL_wk rfl hl0.here, hl0.wk _ _, trivial⟩ 30 ?_
  rintro m σ h5 ⟨L', e', i, rfl, hp, hu, hi, hl', hrf, rfl, rfl⟩
  have hlen := hp.length_eq
  refine vc_sound hE 1 _ _ _ 30 ?_
  refine W_seq (nx := 30) ?_
  refine W_to (nx := 30) [(0, .iface 63 (.ptr 40 0 0)), (1, .int .i64 (m : Int)), (4, .int .i64 (par m : Int))] [(40, boxL bl 41 L.length cp), (41, e')] 30 ?_ ?_
  · refine vc_sound hE 20 _ _ _ 30 ?_
    exact ⟨tau [], rfl, ⟨⟨rfl, ⟨rfl, trivial⟩, rfl, rfl⟩, ⟨rfl, rfl⟩, ⟨rfl, par_eq (by omega)⟩, trivial⟩, boxL_wk rfl hl'.here, hl'.wk _ _, trivial⟩
  have stop : (m = 0 ∨ leI L' (par m) m) → ∃ L1 e1, (Out.ret (.tup []) : Out) = .ret (.tup []) ∧ L1.Perm L ∧ heapP L1 L1.length ∧ e1.rf = e0.rf ∧ lstK R4 e1 L1 cp ∧ fd 40 [(40, boxL bl 41 L.length cp), (41, e')] = boxL bl 41 L.length cp ∧ fd 41 [(40, boxL bl 41 L.length cp), (41, e')] = e1 := fun hs =>
    ⟨L', e', rfl, hp, by rw [hlen]; exact up_end hu hs, hrf, hl', rfl, rfl⟩
  refine vc_sound hE 60 _ _ _ 30 ?_
  (refine (?_ : br _ _ _); refine br_eq (fun q => ?_) (fun q => ?_))
  · refine stop (.inl ?_)
    have q1 : ((par m : Nat) : Int) = (m : Int) := by assumption
    unfold par at q1; omega
  · have hne : ((par m : Nat) : Int) ≠ (m : Int) := by assumption
    have hq1 : 1 ≤ m := by rcases Nat.eq_zero_or_pos m with h | h; (subst h; exact absurd rfl hne); exact h
    have hpq : par m < L'.length := by unfold par; omega
    obtain ⟨p, hp1⟩ : ∃ p, L'[m]? = some p := ⟨_, List.getElem?_eq_getElem (by omega)⟩
    obtain ⟨p', hp2⟩ : ∃ p, L'[par m]? = some p := ⟨_, List.getElem?_eq_getElem hpq⟩
    refine ⟨64, false, 59, Meth.of (by rw [hc]; kernel_rfl), ?_⟩
    refine ⟨_, L', m, par m, p, p', rfl, hl'.rdn rfl hlen, fun tv i n c' q => by cases q; rw [← hlen]; exact hl'.cap, hp1, hp2, ?_⟩
    (refine (?_ : br _ _ _); refine br_both (fun hs => ?_) (fun hs => ?_))
    · refine stop (.inr ?_)
      have hs : lessP p p' = false := by simpa using hs
      intro x y hx hy
      rw [hp2] at hx; rw [hp1] at hy; cases hx; cases hy
      exact hs
    · have hs : lessP p p' = true := by simpa using hs
      refine ⟨65, false, 59, Meth.of (by rw [hc]; kernel_rfl), ?_⟩
      refine ⟨41, cp, L', par m, m, e', by rw [hlen], rfl, hl', hpq, by omega, fun e2 hrf2 hl2 => ?_⟩
      exact ⟨par m, _, _, by unfold par; omega, ⟨swapL L' (par m) m, e2, par m, rfl, (swap_perm hpq (by omega)).trans hp, up_step (by omega) hi hq1 hu hp1 hp2 hs, by unfold par; omega, hl2, hrf2.trans hrf, rfl, rfl⟩, tau [], rfl, (by repeat' (first | exact rfl | exact trivial | assumption | refine ⟨?_, ?_⟩)), boxL_wk rfl hl2.here, hl2.wk _ _, trivial⟩
end Go.Proofs.Ytgcnknhfphgfnaa.Sx

/-
  container/heap: down.
-/
namespace Go.Proofs.Ytgcnknhfphgfnaa.Sx
open Go Go.Proofs
set_option maxRecDepth 100000
set_option linter.unusedSimpArgs false
set_option linter.unusedVariables false

/-- A function that changes the heap's row, by what it makes of the list. -/
theorem mut_row {f : Nat} {fn : Func} {cd : Code} {SP : SpT} (hf : Try.prog.funcs[f]? = some fn) (hx : (fn.name == "runtime.NumGoroutine") = false) (hb : fn.body = some cd) (hS : ∀ p ∈ SP, SpecOK Try.prog p.1 p.2) (s : Spec)
    (hs : ∀ args h nx K, s args h nx K → ∃ (bl ta cp : Nat) (L : List Pl) (e : Ent) (rest : List V), args = .iface 63 (.ptr 40 0 0) :: rest ∧ flatL rest ∧ args.length ≤ fn.ntmps ∧ (ta = 41 ∨ ta = 46) ∧ fd 40 h = boxL bl ta L.length cp ∧ fd ta h = e ∧ lstK R4 e L cp ∧ 0 < L.length ∧ ∃ post : Out → List Pl → Prop,
      (∀ o L', post o L' → o.flat ∧ L'.length = L.length ∧ ∀ e', e'.rf = e.rf → lstK R4 e' L' cp → K o ((40, boxL bl ta L.length cp) :: (ta, e') :: h) nx) ∧
      ∀ c, c.P = Try.prog → ∀ e0, lstK R4 e0 L cp → W ⟨c, fn, T, SP, fun o h1 _ => ∃ L' e', post o L' ∧ e'.rf = e0.rf ∧ lstK R4 e' L' cp ∧ fd 40 h1 = boxL bl 41 L.length cp ∧ fd 41 h1 = e'⟩ [.code cd] (argsS (.iface 63 (.ptr 40 0 0) :: rest) 0) [(40, boxL bl 41 L.length cp), (41, e0)] 0) : SpecOK Try.prog f s := by
  refine specOK_mut hf hx hb T_ok hS _ ?_
  intro args h nx K hk
  obtain ⟨bl, ta, cp, L, e, rest, rfl, hfl, hlen, hta, hbox, hfd, hl, h0, post, hpost, hW⟩ := hs _ _ _ _ hk
  obtain ⟨b, g, F, rfl, h1, h2, h3, h4⟩ := hl.blk h0
  obtain ⟨e0, he0⟩ : ∃ e0 : Ent, e0 = .blk b cp 4 (gF R4 F) 61 := ⟨_, rfl⟩
  have hl0 : lstK R4 e0 L cp := by rw [he0]; exact lstK.of (R := R4) h1 h2 (fun _ _ _ _ => rfl) h4
  have hne : ta ≠ 40 := by omega
  refine ⟨tau [(41, ta)], [(40, boxL bl 41 L.length cp), (41, e0)], .iface 63 (.ptr 40 0 0) :: rest, fun t b l e => ?_, by rw [he0]; rcases hta with rfl | rfl <;> rfl, ⟨?_, ?_, trivial⟩, ⟨⟨rfl, ⟨rfl, trivial⟩, rfl, rfl⟩, flatL_rn _ hfl⟩, hlen, fun o h1 => ∃ L' e', post o L' ∧ e'.rf = e0.rf ∧ lstK R4 e' L' cp ∧ fd 40 h1 = boxL bl 41 L.length cp ∧ fd 41 h1 = e', ?_, fun c hc => hW c hc e0 hl0⟩
  · rw [fd_cons] at e
    split at e
    · cases e
    · rw [fd_cons] at e
      split at e
      · rw [he0] at e; cases e
      · cases e
  · show wkE _ _ (fd 40 h) _
    rw [hbox]
    exact boxL_wk rfl (by subst he0; trivial)
  · show wkE _ _ (fd ta h) _
    rw [hfd, he0]
    exact ⟨rfl, rfl, rfl, rfl, fun x k hx hk => by rw [h3 x k hx hk]; exact flat_rn _ (gF_flat hk)⟩
  · rintro o h5 ⟨L', e', hp, hrf, hl', f40, f41⟩
    obtain ⟨hof, hlen', hk⟩ := hpost o L' hp
    obtain ⟨g', F', rfl, hg'⟩ := rf_blk hl' (by omega) (by rw [he0] at hrf; exact hrf)
    have lv : ∀ t, live [(40, boxL bl ta L.length cp), (ta, .blk b cp 4 g' 61)] t → t = 40 ∨ t = ta := fun t hl => by
      by_cases q : t = 40
      · exact .inl q
      by_cases q2 : t = ta
      · exact .inr q2
      · unfold live at hl
        rw [fd_cons, if_neg q, fd_cons, if_neg q2] at hl
        exact hl.elim
    have f1 : fd ta [(40, boxL bl ta L.length cp), (ta, .blk b cp 4 g' 61)] = .blk b cp 4 g' 61 := by rw [fd_cons, if_neg hne, fd_cons, if_pos rfl]
    have lt : live [(40, boxL bl ta L.length cp), (ta, .blk b cp 4 g' 61)] ta := by unfold live; rw [f1]; trivial
    refine ⟨fun t => if t = 40 then 40 else 41, [(40, boxL bl ta L.length cp), (ta, .blk b cp 4 g' 61)], o, ⟨fun p hp => ?_, fun t b' n sz g2 ty' e' => ?_, fun t hl => ?_, ?_⟩, hk _ rfl hl'⟩
    · simp at hp; rcases hp with rfl | rfl <;> simp
    · rw [fd_cons] at e'
      by_cases q : t = 40
      · subst q; trivial
      · rw [if_neg q, fd_cons] at e'
        by_cases q2 : t = 41
        · subst q2; exact lt
        · rw [if_neg q2] at e'; cases e'
    · rcases lv t hl with rfl | rfl
      · exact ⟨40, bl, 1, 1, _, _, _, 59, rfl, rfl, rfl, f40, rfl, fun x k hx hk => by
          obtain rfl : x = 0 := by omega
          obtain rfl : k = 0 := by omega
          exact ⟨⟨by show 41 = (if ta = 40 then 40 else 41); rw [if_neg hne], lt⟩, rfl, rfl, rfl⟩⟩
      · exact ⟨41, b, cp, 4, gF R4 F, g', g', 61, by rcases hta with rfl | rfl <;> rfl, by show (if t = 40 then 40 else 41) = 41; rw [if_neg hne], by rw [he0]; rfl, f41, f1, fun x k hx hk => by rw [hg' x k hx hk]; exact flat_rn _ (gF_flat (R := R4) hk)⟩
    · cases o with
      | ret v => exact flat_rn _ hof
      | pan v => exact flat_rn _ hof

def sDown : Spec := fun args h nx K => ∃ (bl ta cp n : Nat) (L : List Pl) (e : Ent), args = [.iface 63 (.ptr 40 0 0), .int .i64 0, .int .i64 (n : Int)] ∧ (ta = 41 ∨ ta = 46) ∧ fd 40 h = boxL bl ta L.length cp ∧ fd ta h = e ∧ lstK R4 e L cp ∧ 0 < L.length ∧ n ≤ L.length ∧ L.length ≤ 1000 ∧ downInv L 0 n ∧
  ∀ b L' e', L'.Perm L → (∀ k, n ≤ k → L'[k]? = L[k]?) → heapP L' n → e'.rf = e.rf → lstK R4 e' L' cp → K (.ret (.bool b)) ((40, boxL bl ta L.length cp) :: (ta, e') :: h) nx
theorem sDown_ok : SpecOK Try.prog 44 sDown := by
  refine mut_row (fn := Try.f44) rfl rfl rfl (SP := [(64, sLess), (65, sSwap)]) (consSP sLess_ok (consSP sSwap_ok noSP)) _ ?_
  rintro args h nx K ⟨bl, ta, cp, n, L, e, rfl, hta, hbox, hfd, hl, h0, hn, hsz, hd, hk⟩
  refine ⟨bl, ta, cp, L, e, _, rfl, ⟨trivial, trivial, trivial⟩, by simp [Try.f44], hta, hbox, hfd, hl, h0, fun o L' => ∃ b, o = .ret (.bool b) ∧ L'.Perm L ∧ (∀ k, n ≤ k → L'[k]? = L[k]?) ∧ heapP L' n, ?_, fun c hc e0 hl0 => ?_⟩
  · rintro o L' ⟨b, rfl, hp, hs, hh⟩
    exact ⟨trivial, hp.length_eq, fun e' h1 h2 => hk b L' e' hp hs hh h1 h2⟩
  have hE := mkE' (fn := Try.f44) (R := fun o h1 _ => ∃ L' e', (∃ b, o = .ret (.bool b) ∧ L'.Perm L ∧ (∀ k, n ≤ k → L'[k]? = L[k]?) ∧ heapP L' n) ∧ e'.rf = e0.rf ∧ lstK R4 e' L' cp ∧ fd 40 h1 = boxL bl 41 L.length cp ∧ fd 41 h1 = e') hc (consSP sLess_ok (consSP sSwap_ok noSP))
  refine vc_sound hE 12 _ _ _ 30 ?_
  refine W_loop (fun m σ h => ∃ (L' : List Pl) (e' : Ent) (i : Nat), m = n - i ∧ L'.Perm L ∧ (∀ k, n ≤ k → L'[k]? = L[k]?) ∧ downInv L' i n ∧ (i = 0 ∨ i < n) ∧ lstK R4 e' L' cp ∧ e'.rf = e0.rf ∧ σ = [(0, .iface 63 (.ptr 40 0 0)), (1, .int .i64 0), (2, .int .i64 (n : Int)), (7, .int .i64 (i : Int))] ∧ h = [(40, boxL bl 41 L.length cp), (41, e')])
    n ⟨L, e0, 0, rfl, List.Perm.refl _, fun _ _ => rfl, hd, .inl rfl, hl0, rfl, rfl, rfl⟩ (tau []) ⟨rfl, (by repeat' (first | exact rfl | exact trivial | assumption | refine ⟨?_, ?_⟩)), boxL_wk rfl hl0.here, hl0.wk _ _, trivial⟩ 30 ?_
  rintro m σ h5 ⟨L', e', i, rfl, hp, hs', hu, hi, hl', hrf, rfl, rfl⟩
  have hlen := hp.length_eq
  have stop : ∀ b, (n ≤ 2 * i + 1 ∨ ∃ j, Kid L' i n j ∧ leI L' i j) → ∃ L1 e1, (∃ b', (Out.ret (.bool b) : Out) = .ret (.bool b') ∧ L1.Perm L ∧ (∀ k, n ≤ k → L1[k]? = L[k]?) ∧ heapP L1 n) ∧ e1.rf = e0.rf ∧ lstK R4 e1 L1 cp ∧ fd 40 [(40, boxL bl 41 L.length cp), (41, e')] = boxL bl 41 L.length cp ∧ fd 41 [(40, boxL bl 41 L.length cp), (41, e')] = e1 := fun b h =>
    ⟨L', e', ⟨b, rfl, hp, hs', down_end (by omega) hu h⟩, hrf, hl', rfl, rfl⟩
  have h1 : IntKind.i64.wrap (IntKind.i64.wrap (2 * (i : Int)) + 1) = ((2 * i + 1 : Nat) : Int) := by
    have : IntKind.i64.wrap (2 * (i : Int)) = 2 * (i : Int) := by simp only [IntKind.wrap_i64]; omega
    rw [this]; simp only [IntKind.wrap_i64]; omega
  have h2 : IntKind.i64.wrap (((2 * i + 1 : Nat) : Int) + 1) = ((2 * i + 2 : Nat) : Int) := by simp only [IntKind.wrap_i64]; omega
  have hw : ∀ {e1 : Ent} {L1 : List Pl}, lstK R4 e1 L1 cp → wkH (tau []) [(40, boxL bl 41 L.length cp), (41, e1)] [(40, boxL bl 41 L.length cp), (41, e1)] [(40, boxL bl 41 L.length cp), (41, e1)] := fun hl => ⟨boxL_wk rfl hl.here, hl.wk _ _, trivial⟩
  refine vc_sound hE 1 _ _ _ 30 ?_
  refine W_seq (nx := 30) ?_
  refine W_to (nx := 30) [(0, .iface 63 (.ptr 40 0 0)), (1, .int .i64 0), (2, .int .i64 (n : Int)), (7, .int .i64 (i : Int)), (8, .int .i64 ((2 * i + 1 : Nat) : Int))] [(40, boxL bl 41 L.length cp), (41, e')] 30 ?_ ?_
  · refine vc_sound hE 20 _ _ _ 30 ?_
    exact ⟨tau [], rfl, ⟨⟨rfl, ⟨rfl, trivial⟩, rfl, rfl⟩, ⟨rfl, rfl⟩, ⟨rfl, rfl⟩, ⟨rfl, rfl⟩, ⟨rfl, h1⟩, trivial⟩, hw hl'⟩
  refine W_seq (nx := 30) ?_
  refine W_piece (nx := 30) (fun σ1 h1 _ => 2 * i + 1 < n ∧ ∃ τ, wk τ σ1 h1 [(0, .iface 63 (.ptr 40 0 0)), (1, .int .i64 0), (2, .int .i64 (n : Int)), (7, .int .i64 (i : Int)), (8, .int .i64 ((2 * i + 1 : Nat) : Int))] [(40, boxL bl 41 L.length cp), (41, e')]) ?_ ?_
  · refine vc_sound hE 60 _ _ _ 30 ?_
    (refine (?_ : br _ _ _); refine br_dec (fun q => ?_) (fun q => ?_))
    · have q1 : ((n : Nat) : Int) ≤ ((2 * i + 1 : Nat) : Int) := q
      exact stop _ (.inl (by omega))
    · have q1 : ¬ ((n : Nat) : Int) ≤ ((2 * i + 1 : Nat) : Int) := q
      exact ⟨by omega, tau [], rfl, (by repeat' (first | exact rfl | exact trivial | assumption | refine ⟨?_, ?_⟩)), hw hl'⟩
  rintro σ1 h5 _ ⟨hlt, τ1, hw1⟩
  refine W_weak (nx' := 30) τ1 hw1 ?_
  clear hw1
  obtain ⟨p1, hp1⟩ : ∃ p, L'[2 * i + 1]? = some p := ⟨_, List.getElem?_eq_getElem (by omega)⟩
  obtain ⟨p0, hp0⟩ : ∃ p, L'[i]? = some p := ⟨_, List.getElem?_eq_getElem (by omega)⟩
  refine W_seq (nx := 30) ?_
  refine W_to (nx := 30) [(0, .iface 63 (.ptr 40 0 0)), (1, .int .i64 0), (2, .int .i64 (n : Int)), (7, .int .i64 (i : Int)), (8, .int .i64 ((2 * i + 1 : Nat) : Int)), (9, .int .i64 ((2 * i + 1 : Nat) : Int))] [(40, boxL bl 41 L.length cp), (41, e')] 30 ?_ ?_
  · refine vc_sound hE 20 _ _ _ 30 ?_
    exact ⟨tau [], rfl, (by repeat' (first | exact rfl | exact trivial | assumption | refine ⟨?_, ?_⟩)), hw hl'⟩
  refine W_seq (nx := 30) ?_
  refine W_ex (nx := 30) (fun j => Kid L' i n j) (fun j => [(0, .iface 63 (.ptr 40 0 0)), (1, .int .i64 0), (2, .int .i64 (n : Int)), (7, .int .i64 (i : Int)), (9, .int .i64 (j : Int))]) (fun _ => [(40, boxL bl 41 L.length cp), (41, e')]) 30 ?_ ?_
  · refine W_seq (nx := 30) ?_
    refine W_to (nx := 30) [(0, .iface 63 (.ptr 40 0 0)), (1, .int .i64 0), (2, .int .i64 (n : Int)), (7, .int .i64 (i : Int)), (8, .int .i64 ((2 * i + 1 : Nat) : Int)), (9, .int .i64 ((2 * i + 1 : Nat) : Int)), (10, .int .i64 ((2 * i + 2 : Nat) : Int))] [(40, boxL bl 41 L.length cp), (41, e')] 30 ?_ ?_
    · refine vc_sound hE 20 _ _ _ 30 ?_
      exact ⟨tau [], rfl, ⟨⟨rfl, ⟨rfl, trivial⟩, rfl, rfl⟩, ⟨rfl, rfl⟩, ⟨rfl, rfl⟩, ⟨rfl, rfl⟩, ⟨rfl, rfl⟩, ⟨rfl, rfl⟩, ⟨rfl, h2⟩, trivial⟩, hw hl'⟩
    refine vc_sound hE 60 _ _ _ 30 ?_
    (refine (?_ : br _ _ _); refine br_dec (fun q => ?_) (fun q => ?_))
    · have q1 : ((2 * i + 2 : Nat) : Int) < ((n : Nat) : Int) := q
      obtain ⟨p2, hp2⟩ : ∃ p, L'[2 * i + 2]? = some p := ⟨_, List.getElem?_eq_getElem (by omega)⟩
      refine ⟨64, false, 59, Meth.of (by rw [hc]; kernel_rfl), ?_⟩
      refine ⟨_, L', 2 * i + 2, 2 * i + 1, p2, p1, rfl, hl'.rdn rfl hlen, fun tv i n c' q => by cases q; rw [← hlen]; exact hl'.cap, hp2, hp1, ?_⟩
      (refine (?_ : br _ _ _); refine br_both (fun hs => ?_) (fun hs => ?_))
      · have hs : lessP p2 p1 = true := by simpa using hs
        exact ⟨2 * i + 2, Kid.right (by omega) hp2 hp1 hs, tau [], rfl, (by repeat' (first | exact rfl | exact trivial | assumption | refine ⟨?_, ?_⟩)), hw hl'⟩
      · have hs : lessP p2 p1 = false := by simpa using hs
        exact ⟨2 * i + 1, Kid.left hlt (fun p q _ hp hq => by rw [hp2] at hp; rw [hp1] at hq; cases hp; cases hq; rw [hs]; simp), tau [], rfl, (by repeat' (first | exact rfl | exact trivial | assumption | refine ⟨?_, ?_⟩)), hw hl'⟩
    · have q1 : ¬ ((2 * i + 2 : Nat) : Int) < ((n : Nat) : Int) := q
      exact ⟨2 * i + 1, Kid.left hlt (fun p q h _ _ => absurd h (by omega)), tau [], rfl, (by repeat' (first | exact rfl | exact trivial | assumption | refine ⟨?_, ?_⟩)), hw hl'⟩
  intro j hkid
  have hjn := hkid.lt
  have hij : i < j := by have h3 := hkid.pr; have h4 := hkid.pos; unfold par at h3; omega
  obtain ⟨pj, hpj⟩ : ∃ p, L'[j]? = some p := ⟨_, List.getElem?_eq_getElem (by omega)⟩
  refine vc_sound hE 60 _ _ _ 30 ?_
  refine ⟨64, false, 59, Meth.of (by rw [hc]; kernel_rfl), ?_⟩
  refine ⟨_, L', j, i, pj, p0, rfl, hl'.rdn rfl hlen, fun tv i n c' q => by cases q; rw [← hlen]; exact hl'.cap, hpj, hp0, ?_⟩
  (refine (?_ : br _ _ _); refine br_both (fun hs => ?_) (fun hs => ?_))
  · have hs : lessP pj p0 = false := by simpa using hs
    refine stop _ (.inr ⟨j, hkid, fun x y hx hy => ?_⟩)
    rw [hp0] at hx; rw [hpj] at hy; cases hx; cases hy
    exact hs
  · have hs : lessP pj p0 = true := by simpa using hs
    refine ⟨65, false, 59, Meth.of (by rw [hc]; kernel_rfl), ?_⟩
    refine ⟨41, cp, L', i, j, e', by rw [hlen], rfl, hl', by omega, by omega, fun e2 hrf2 hl2 => ?_⟩
    refine ⟨n - j, _, _, by omega, ⟨swapL L' i j, e2, j, rfl, (swap_perm (by omega) (by omega)).trans hp, fun k hk => ?_, down_step (by omega) hkid hu hpj hp0 hs, .inr hjn, hl2, hrf2.trans hrf, rfl, rfl⟩, tau [], rfl, (by repeat' (first | exact rfl | exact trivial | assumption | refine ⟨?_, ?_⟩)), hw hl2⟩
    rw [swap_at (by omega) (by omega), if_neg (by omega), if_neg (by omega)]
    exact hs' k hk
end Go.Proofs.Ytgcnknhfphgfnaa.Sx

/-
  The heap's Push and Pop.
-/
namespace Go.Proofs.Ytgcnknhfphgfnaa.Sx
open Go Go.Proofs
set_option maxRecDepth 100000
set_option linter.unusedSimpArgs false
set_option linter.unusedVariables false

/-- But for the heap's tags, all is as it was. -/
def KeepL (h h' : Hp) : Prop := ∀ t, t ≠ 40 → t ≠ 41 → t ≠ 45 → t ≠ 46 → fd t h' = fd t h
theorem KeepL.cons {h h' : Hp} (H : KeepL h h') {t : Nat} {e : Ent} (ht : t = 40 ∨ t = 41 ∨ t = 45 ∨ t = 46) : KeepL h ((t, e) :: h') := fun u a b c d => by
  rw [fd_cons, if_neg (by omega)]; exact H u a b c d
theorem KeepL.of {h h' : Hp} (H : ∀ u, fd u h' = fd u h) : KeepL h h' := fun u _ _ _ _ => H u
def sLPush0 : Spec := fun args h nx K => ∃ (bl cp : Nat) (L : List Pl) (p : Pl) (e : Ent), args = [.ptr 40 0 0, .iface 61 (plV p)] ∧ fd 40 h = boxL bl 41 L.length cp ∧ fd 41 h = e ∧ lstK R4 e L cp ∧ fd 45 h = .gone ∧ fd 46 h = .gone ∧ L.length ≤ 1000 ∧
  ∀ ta' e' cp' g h', ((ta' = 41 ∧ e'.rf = e.rf) ∨ (ta' = 46 ∧ fd 41 h' = fd 41 h)) → lstK R4 e' (L ++ [p]) cp' → fd 40 h' = .blk bl 1 1 g 59 → g 0 0 = .slice ta' 0 (L ++ [p]).length cp' → fd ta' h' = e' → KeepL h h' → K (.ret (.tup [])) h' nx
theorem sLPush0_ok : SpecOK Try.prog 67 sLPush0 := specOK_imp (inlx_ok (fn := Try.f67) rfl rfl rfl T_ok (SP := []) noSP) <| by
  rintro args h nx K ⟨bl, cp, L, p, e, rfl, hbox, hfd, hl, h45, h46, hsz, hk⟩
  refine ⟨by simp [Try.f67], fun c hc => ?_⟩
  have hE := mkE' (fn := Try.f67) (R := fun o h' _ => Ext h h' ∧ ∃ m, K o h' m) hc noSP
  have heq : ∀ u, fd u ((40, boxL bl 41 L.length cp) :: (41, e) :: (45, .gone) :: (46, .gone) :: h) = fd u h := fdeq_cons2 hbox (fdeq_cons2 hfd (fdeq_cons2 h45 (fdeq_cons h46)))
  have k0 : KeepL h ((40, boxL bl 41 L.length cp) :: (41, e) :: (45, .gone) :: (46, .gone) :: h) := KeepL.of heq
  have hfin : ∀ ta' e' cp' g h', ((ta' = 41 ∧ e'.rf = e.rf) ∨ (ta' = 46 ∧ fd 41 h' = fd 41 h)) → lstK R4 e' (L ++ [p]) cp' → fd 40 h' = .blk bl 1 1 g 59 → g 0 0 = .slice ta' 0 (L ++ [p]).length cp' → fd ta' h' = e' → (fd 41 h').rf = e.rf → KeepL h h' → Ext h h' ∧ ∃ m, K (.ret (.tup [])) h' m := fun ta' e' cp' g h' a1 a2 a3 a4 a5 a6 a7 => by
    refine ⟨fun t r er => ?_, nx, hk ta' e' cp' g h' a1 a2 a3 a4 a5 a7⟩
    by_cases q0 : t = 40
    · subst q0; rw [hbox] at er; rw [a3]; exact er
    by_cases q1 : t = 41
    · subst q1; rw [hfd] at er; rw [a6]; exact er
    by_cases q5 : t = 45
    · subst q5; rw [h45] at er; cases er
    by_cases q6 : t = 46
    · subst q6; rw [h46] at er; cases er
    rw [a7 t q0 q1 q5 q6]; exact er
  refine W_fdeq (nx' := 45) heq ?_
  clear heq
  refine vc_sound hE 30 _ _ _ 45 ?_
  refine W_planw hE 45 [7, 9] (lineP 0 6 (oneP 6 (oneP 7 (oneP 8 (oneP 9 .done))))) (by rw [hc]; exact mix) (by kernel_rfl) 31 ?_
  iterate 6 (refine ⟨_, ⟨rfl, rfl⟩, ?_⟩)
  refine putS_some rfl ?_
  refine ⟨⟨fun b => trivial, fun b => ?_⟩, trivial⟩
  refine putS_some rfl ?_
  refine ⟨⟨trivial, ?_⟩, trivial⟩
  have hu : rdK R4 ((45, .blk b 1 4 (gOf 4 (plL p)) 61) :: (40, boxL bl 41 L.length cp) :: (41, e) :: (45, .gone) :: (46, .gone) :: h) (.slice 45 0 1 1) [p] := rdK.one rfl (by decide) fun k hk => by
    match k, hk with
    | 0, _ => rfl
    | 1, _ => rfl
    | 2, _ => rfl
    | 3, _ => rfl
  refine stepC_app rfl rfl (app_oneK appT4 hl rfl hu rfl (by omega) (fun e' hrf hl' => ?_) (fun e' cp' hl' => ?_))
  · refine putS_some (d := 11) (by rfl) ?_
    refine ⟨⟨trivial, ?_⟩, trivial⟩
    refine ⟨⟨trivial, ?_⟩, trivial⟩
    exact hfin 41 e' cp _ _ (.inl ⟨rfl, hrf⟩) hl' rfl rfl rfl hrf (by repeat' (first | exact k0 | refine KeepL.cons ?_ (by omega)))
  · refine putS_some (d := 11) (by rfl) ?_
    refine ⟨⟨trivial, ?_⟩, trivial⟩
    refine ⟨⟨trivial, ?_⟩, trivial⟩
    exact hfin 46 e' cp' _ _ (.inr ⟨rfl, hfd.symm⟩) hl' rfl rfl rfl rfl (by repeat' (first | exact k0 | refine KeepL.cons ?_ (by omega)))
end Go.Proofs.Ytgcnknhfphgfnaa.Sx

/-
  The heap's Push and Pop, told anew.
-/
namespace Go.Proofs.Ytgcnknhfphgfnaa.Sx
open Go Go.Proofs
set_option maxRecDepth 100000
set_option linter.unusedSimpArgs false
set_option linter.unusedVariables false

theorem lstK.tell2 {α : Type} {R : RK α} {e : Ent} {l : List α} {cap : Nat} (he : lstK R e l cap) {h1 h2 : Hp} : tellE2 h1 h2 e e := by
  rcases he with ⟨rfl, rfl, g, rfl⟩ | ⟨b, g, F, rfl, h1, h2, h3, h4⟩
  · exact ⟨rfl, Nat.le_refl _, rfl, fun i k hi => by omega⟩
  · exact ⟨rfl, rfl, rfl, rfl, fun i k hi hk => tell_flat (by rw [h3 i k hi hk]; exact gF_flat hk)⟩
theorem box_tell2 {h1 h2 : Hp} {bl ta n cp : Nat} {g : Nat → Nat → V} (hg : g 0 0 = .slice ta 0 n cp) (hr : (fd ta h2).rf = (fd ta h1).rf) : tellE2 h1 h2 (.blk bl 1 1 g 59) (boxL bl ta n cp) := ⟨rfl, rfl, rfl, rfl, fun i k hi hk => by
  obtain rfl : i = 0 := by omega
  obtain rfl : k = 0 := by omega
  rw [hg]
  exact tell_slice hr⟩
def sLPush : Spec := fun args h nx K => ∃ (bl cp : Nat) (L : List Pl) (p : Pl) (e : Ent), args = [.ptr 40 0 0, .iface 61 (plV p)] ∧ fd 40 h = boxL bl 41 L.length cp ∧ fd 41 h = e ∧ lstK R4 e L cp ∧ fd 45 h = .gone ∧ fd 46 h = .gone ∧ L.length ≤ 1000 ∧
  ∀ ta' e' cp', ((ta' = 41 ∧ e'.rf = e.rf) ∨ ta' = 46) → lstK R4 e' (L ++ [p]) cp' → K (.ret (.tup [])) ((40, boxL bl ta' (L ++ [p]).length cp') :: (ta', e') :: h) nx
theorem sLPush_ok : SpecOK Try.prog 67 sLPush := specOK_imp (specOK_ren sLPush0_ok) <| by
  rintro args h nx K ⟨bl, cp, L, p, e, rfl, hbox, hfd, hl, h45, h46, hsz, hk⟩
  refine ⟨bl, cp, L, p, e, rfl, hbox, hfd, hl, h45, h46, hsz, fun ta' e' cp' g h' hta hl' f40 hg fta kp hx => ?_⟩
  have hne : ta' ≠ 40 := by rcases hta with ⟨rfl, _⟩ | ⟨rfl, _⟩ <;> decide
  have hfd' : ∀ t, t ≠ 40 → t ≠ ta' → fd t ((40, boxL bl ta' (L ++ [p]).length cp') :: (ta', e') :: h) = fd t h := fun t a b => by rw [fd_cons, if_neg a, fd_cons, if_neg b]
  have hta'' : fd ta' ((40, boxL bl ta' (L ++ [p]).length cp') :: (ta', e') :: h) = e' := by rw [fd_cons, if_neg hne, fd_cons, if_pos rfl]
  refine ⟨_, (40, boxL bl ta' (L ++ [p]).length cp') :: (ta', e') :: h, nx, id, hk ta' e' cp' (by rcases hta with h | h; exact .inl h; exact .inr h.1) hl', fun t r er => ?_, fun t => ?_, fun t t' hne _ _ => hne, flat_out (o := .ret (.tup [])) trivial⟩
  · by_cases q0 : t = 40
    · subst q0; rw [hbox] at er; exact er
    by_cases q1 : t = ta'
    · subst q1
      rw [hta'']
      rcases hta with ⟨rfl, hr⟩ | ⟨rfl, _⟩
      · rw [hfd] at er; rw [hr]; exact er
      · rw [h46] at er; cases er
    rw [hfd' t q0 q1]; exact er
  · by_cases q0 : t = 40
    · subst q0
      exact .inr (.inr (.inr (by show tellE2 _ _ (fd 40 h') _; rw [f40]; exact box_tell2 hg (by rw [hta'', fta]))))
    by_cases q1 : t = ta'
    · subst q1
      exact .inr (.inr (.inr (by show tellE2 _ _ (fd t h') _; rw [fta, hta'']; exact hl'.tell2)))
    rw [RenE, hfd' t q0 q1]
    by_cases q5 : t = 45
    · subst q5; exact .inl h45
    by_cases q6 : t = 46
    · subst q6; exact .inl h46
    by_cases q41 : t = 41
    · subst q41
      have : fd 41 h' = fd 41 h := by
        rcases hta with ⟨rfl, hr⟩ | ⟨rfl, h⟩
        · exact absurd rfl q1
        · exact h
      exact .inr (.inl ⟨rfl, this.symm, this⟩)
    have := kp t q0 q41 q5 q6
    exact .inr (.inl ⟨rfl, this.symm, this⟩)

def sLPop0 : Spec := fun args h nx K => ∃ (bl b cp : Nat) (g : Nat → Nat → V) (F : Nat → Pl) (n : Nat), args = [.ptr 40 0 0] ∧ fd 40 h = boxL bl 41 (n + 1) cp ∧ fd 41 h = .blk b cp 4 g 61 ∧ (∀ j k, j < cp → k < 4 → g j k = gF R4 F j k) ∧ n + 1 ≤ cp ∧ n ≤ 1000 ∧ fd 45 h = .gone ∧
  ∀ gb h', fd 40 h' = .blk bl 1 1 gb 59 → gb 0 0 = .slice 41 0 n cp → fd 41 h' = .blk b cp 4 (gF R4 F) 61 → KeepL h h' → fd 46 h' = fd 46 h → K (.ret (.iface 61 (plV (F n)))) h' nx
theorem sLPop0_ok : SpecOK Try.prog 66 sLPop0 := specOK_imp (inlx_ok (fn := Try.f66) rfl rfl rfl T_ok (SP := []) noSP) <| by
  rintro args h nx K ⟨bl, b, cp, g, F, n, rfl, hbox, hfd, hg, hn, hsz, h45, hk⟩
  refine ⟨by simp [Try.f66], fun c hc => ?_⟩
  have hE := mkE' (fn := Try.f66) (R := fun o h' _ => Ext h h' ∧ ∃ m, K o h' m) hc noSP
  have heq : ∀ u, fd u ((41, .blk b cp 4 g 61) :: (40, boxL bl 41 (n + 1) cp) :: (45, .gone) :: h) = fd u h := fdeq_cons2 hfd (fdeq_cons2 hbox (fdeq_cons h45))
  have k0 : KeepL h ((41, .blk b cp 4 (gF R4 F) 61) :: (40, boxL bl 41 (n + 1) cp) :: (45, .gone) :: h) := KeepL.cons (KeepL.cons (KeepL.cons (KeepL.of fun _ => rfl) (by omega)) (by omega)) (by omega)
  have hfin : ∀ gb h', fd 40 h' = .blk bl 1 1 gb 59 → gb 0 0 = .slice 41 0 n cp → fd 41 h' = .blk b cp 4 (gF R4 F) 61 → KeepL h h' → (fd 46 h' = fd 46 h) → Ext h h' ∧ ∃ m, K (.ret (.iface 61 (plV (F n)))) h' m := fun gb h' a1 a2 a3 a4 a5 => by
    refine ⟨fun t r er => ?_, nx, hk gb h' a1 a2 a3 a4 a5⟩
    by_cases q0 : t = 40
    · subst q0; rw [hbox] at er; rw [a1]; exact er
    by_cases q1 : t = 41
    · subst q1; rw [hfd] at er; rw [a3]; exact er
    by_cases q5 : t = 45
    · subst q5; rw [h45] at er; cases er
    by_cases q6 : t = 46
    · subst q6; rw [a5]; exact er
    rw [a4 t q0 q1 q5 q6]; exact er
  refine W_fdeq (nx' := 45) heq ?_
  clear heq
  refine W_cells (g' := gF R4 F) (nx' := 45) (fun i k hi hk => hg i k hi hk) ?_
  have hw : IntKind.i64.wrap (((n + 1 : Nat) : Int) - 1) = (n : Int) := by simp only [IntKind.wrap_i64]; omega
  generalize hH : ((41, Ent.blk b cp 4 (gF R4 F) 61) :: (40, boxL bl 41 (n + 1) cp) :: (45, Ent.gone) :: h) = H
  refine W_seq (nx := 45) ?_
  refine W_keep (nx := 45) [(0, .ptr 40 0 0)] H 45 ?_ ?_
  · refine vc_sound hE 20 _ _ _ 45 ?_
    exact ⟨rfl, rfl, trivial⟩
  refine W_seq (nx := 45) ?_
  refine W_keep (nx := 45) [(0, .ptr 40 0 0), (3, .int .i64 (n : Int))] H 45 ?_ ?_
  · subst hH
    refine vc_sound hE 20 _ _ _ 45 ?_
    exact ⟨rfl, rfl, congrArg (fun x => some (V.int .i64 x)) hw, trivial⟩
  subst hH
  refine vc_sound hE 60 _ _ _ 45 ?_
  (refine (?_ : chk _ _); refine chk_ok (show (decide ((0 : Int) ≤ (n : Int)) && decide ((n : Int) < ((n + 1 : Nat) : Int))) = true by simp only [Bool.and_eq_true, decide_eq_true_eq]; omega) ?_)
  (refine (?_ : chk _ _); refine chk_ok rfl ?_)
  (refine (?_ : chk _ _); refine chk_ok (Nat.ble_eq_true_of_le (show addI 0 ((n : Int)).toNat * 4 + 0 + 4 ≤ cp * 4 by rw [nat0]; omega)) ?_)
  intro b1
  (refine (?_ : chk _ _); refine chk_ok (show (decide ((0 : Int) ≤ 0) && decide ((0 : Int) ≤ (n : Int)) && decide ((n : Int) ≤ (cp : Int))) = true by simp only [Bool.and_eq_true, decide_eq_true_eq]; omega) ?_)
  have hv : plV (F n) = plV (F (addI 0 ((n : Int)).toNat)) := by rw [nat0]
  rw [hv] at hfin
  refine hfin _ _ rfl ?_ rfl (by repeat' (first | exact k0 | refine KeepL.cons ?_ (by omega))) rfl
  show V.slice 41 (match Nat.beq cp 0 with | true => 0 | false => addI 0 0) n cp = _
  cases cp <;> rfl
end Go.Proofs.Ytgcnknhfphgfnaa.Sx

/-
  container/heap: Push and Pop.
-/
namespace Go.Proofs.Ytgcnknhfphgfnaa.Sx
open Go Go.Proofs
set_option maxRecDepth 100000
set_option linter.unusedSimpArgs false
set_option linter.unusedVariables false

theorem lstK.take {α : Type} {R : RK α} {e : Ent} {l : List α} {cap : Nat} (he : lstK R e l cap) (n : Nat) : lstK R e (l.take n) cap := by
  rcases he with ⟨rfl, rfl, g, rfl⟩ | ⟨b, g, F, rfl, h1, h2, h3, h4⟩
  · exact .inl ⟨by simp, rfl, g, rfl⟩
  · refine lstK.of (by rw [List.length_take]; omega) h2 h3 fun j a ha => ?_
    rw [List.getElem?_take] at ha
    split at ha
    · exact h4 j a ha
    · cases ha
def sLPop : Spec := fun args h nx K => ∃ (bl cp n : Nat) (L : List Pl) (x : Pl) (e : Ent), args = [.ptr 40 0 0] ∧ fd 40 h = boxL bl 41 L.length cp ∧ fd 41 h = e ∧ lstK R4 e L cp ∧ L.length = n + 1 ∧ n ≤ 1000 ∧ L[n]? = some x ∧ fd 45 h = .gone ∧ K (.ret (.iface 61 (plV x))) ((40, boxL bl 41 n cp) :: h) nx
theorem sLPop_ok : SpecOK Try.prog 66 sLPop := specOK_imp (specOK_ren sLPop0_ok) <| by
  rintro args h nx K ⟨bl, cp, n, L, x, e, rfl, hbox, hfd, hl, hn, hsz, hx, h45, hk⟩
  obtain ⟨b, g, F, rfl, h1, h2, h3, h4⟩ := hl.blk (by omega)
  have hF : F n = x := h4 n x hx
  rw [hn] at hbox
  refine ⟨bl, b, cp, g, F, n, rfl, hbox, hfd, h3, by omega, hsz, h45, fun gb h' f40 hgb f41 kp f46 hxx => ?_⟩
  have hfd' : ∀ t, t ≠ 40 → fd t ((40, boxL bl 41 n cp) :: h) = fd t h := fun t a => by rw [fd_cons, if_neg a]
  refine ⟨_, (40, boxL bl 41 n cp) :: h, nx, id, by rw [hF]; exact hk, Ext.same (by rw [hbox]; rfl), fun t => ?_, fun t t' hne _ _ => hne, flat_out (o := .ret (.iface 61 (plV (F n)))) ⟨trivial, trivial, trivial, trivial, trivial⟩⟩
  by_cases q0 : t = 40
  · subst q0
    exact .inr (.inr (.inr (by show tellE2 _ _ (fd 40 h') _; rw [f40]; exact box_tell2 hgb (by rw [f41, hfd' 41 (by decide), hfd]; rfl))))
  rw [RenE, hfd' t q0]
  by_cases q1 : t = 41
  · subst q1
    refine .inr (.inr (.inr ?_))
    show tellE2 _ _ (fd 41 h') _
    rw [f41, hfd]
    exact ⟨rfl, rfl, rfl, rfl, fun i k hi hk => by rw [h3 i k hi hk]; exact tell_flat (gF_flat hk)⟩
  by_cases q5 : t = 45
  · subst q5; exact .inl h45
  by_cases q6 : t = 46
  · subst q6; exact .inr (.inl ⟨rfl, f46.symm, f46⟩)
  have := kp t q0 q1 q5 q6
  exact .inr (.inl ⟨rfl, this.symm, this⟩)

def sHPush : Spec := fun args h nx K => ∃ (bl cp : Nat) (L : List Pl) (p : Pl) (e : Ent), args = [.iface 63 (.ptr 40 0 0), .iface 61 (plV p)] ∧ fd 40 h = boxL bl 41 L.length cp ∧ fd 41 h = e ∧ lstK R4 e L cp ∧ fd 45 h = .gone ∧ fd 46 h = .gone ∧ L.length ≤ 990 ∧ heapP L L.length ∧
  ∀ ta' e' cp' L', ((ta' = 41 ∧ e'.rf = e.rf) ∨ ta' = 46) → L'.Perm (p :: L) → heapP L' L'.length → lstK R4 e' L' cp' → K (.ret (.tup [])) ((40, boxL bl ta' L'.length cp') :: (ta', e') :: h) nx
theorem sHPush_ok : SpecOK Try.prog 29 sHPush := specOK_imp (inlx_ok (fn := Try.f29) rfl rfl rfl T_ok (SP := [(67, sLPush), (63, sLn), (43, sUp)]) (consSP sLPush_ok (consSP sLn_ok (consSP sUp_ok noSP)))) <| by
  rintro args h nx K ⟨bl, cp, L, p, e, rfl, hbox, hfd, hl, h45, h46, hsz, hh, hk⟩
  refine ⟨by simp [Try.f29], fun c hc => ?_⟩
  have hE := mkE' (fn := Try.f29) (R := fun o h' _ => Ext h h' ∧ ∃ m, K o h' m) hc (consSP sLPush_ok (consSP sLn_ok (consSP sUp_ok noSP)))
  have heq : ∀ u, fd u ((40, boxL bl 41 L.length cp) :: (41, e) :: (45, .gone) :: (46, .gone) :: h) = fd u h := fdeq_cons2 hbox (fdeq_cons2 hfd (fdeq_cons2 h45 (fdeq_cons h46)))
  refine W_piece (nx := 0) (fun σ1 h1 _ => ∃ ta' e' cp' L', ((ta' = 41 ∧ e'.rf = e.rf) ∨ ta' = 46) ∧ L'.Perm (p :: L) ∧ heapP L' L'.length ∧ lstK R4 e' L' cp' ∧ ∀ u, fd u ((40, boxL bl ta' L'.length cp') :: (ta', e') :: h) = fd u h1) ?_ ?_
  rotate_left
  · rintro σ1 h1 _ ⟨ta', e', cp', L', hta, hp, hh', hl', he⟩
    refine W_fdeq (nx' := 0) he ?_
    refine vc_sound hE 10 _ _ _ 0 ?_
    refine ⟨fun t r er => ?_, nx, hk ta' e' cp' L' hta hp hh' hl'⟩
    by_cases q0 : t = 40
    · subst q0; rw [hbox] at er; exact er
    by_cases q1 : t = ta'
    · subst q1
      rw [fd_cons, if_neg q0, fd_cons, if_pos rfl]
      rcases hta with ⟨rfl, hr⟩ | rfl
      · rw [hfd] at er; rw [hr]; exact er
      · rw [h46] at er; cases er
    rw [fd_cons, if_neg q0, fd_cons, if_neg q1]; exact er
  refine W_fdeq (nx' := 30) heq ?_
  have hlen : (L ++ [p]).length = L.length + 1 := by simp
  have hw : IntKind.i64.wrap (((L ++ [p]).length : Int) - 1) = (L.length : Int) := by rw [hlen]; simp only [IntKind.wrap_i64]; omega
  refine vc_sound hE 30 _ _ _ 30 ?_
  refine ⟨67, true, 59, Meth.of (by rw [hc]; kernel_rfl), ?_⟩
  refine ⟨bl, cp, L, p, e, rfl, rfl, rfl, hl, rfl, rfl, by omega, fun ta' e' cp' hta hl' => ?_⟩
  refine ⟨63, false, 59, Meth.of (by rw [hc]; kernel_rfl), ?_⟩
  refine ⟨_, _, _, _, rfl, ?_⟩
  have hup := up_start (p := p) hh
  rw [← hlen] at hup
  refine ⟨bl, ta', cp', L.length, L ++ [p], e', congrArg (fun x => [V.iface 63 (.ptr 40 0 0), .int .i64 x]) hw, by rcases hta with ⟨h, _⟩ | h; exact .inl h; exact .inr h, rfl, ?_, hl', by omega, by omega, hup, fun L' e2 hp hh' hrf hl2 => ?_⟩
  · rcases hta with ⟨rfl, _⟩ | rfl <;> rfl
  · refine ⟨ta', e2, cp', L', ?_, pow_law hp, hh', hl2, fun u => ?_⟩
    · rcases hta with ⟨h1, h2⟩ | h1
      · exact .inl ⟨h1, hrf.trans h2⟩
      · exact .inr h1
    · rw [hp.length_eq]
      by_cases q0 : u = 40
      · subst q0; rfl
      by_cases q1 : u = ta'
      · subst q1; rw [fd_cons, if_neg q0, fd_cons, if_pos rfl, fd_cons, if_neg q0, fd_cons, if_pos rfl]
      rw [fd_cons, if_neg q0, fd_cons, if_neg q1, fd_cons, if_neg q0, fd_cons, if_neg q1, fd_cons, if_neg q0, fd_cons, if_neg q1]
      exact (heq u).symm
end Go.Proofs.Ytgcnknhfphgfnaa.Sx

/-
  container/heap: Pop.
-/
namespace Go.Proofs.Ytgcnknhfphgfnaa.Sx
open Go Go.Proofs
set_option maxRecDepth 100000
set_option linter.unusedSimpArgs false
set_option linter.unusedVariables false

def sHPop : Spec := fun args h nx K => ∃ (bl cp n : Nat) (L : List Pl) (x : Pl) (e : Ent), args = [.iface 63 (.ptr 40 0 0)] ∧ fd 40 h = boxL bl 41 L.length cp ∧ fd 41 h = e ∧ lstK R4 e L cp ∧ L.length = n + 1 ∧ n ≤ 990 ∧ L[0]? = some x ∧ fd 45 h = .gone ∧ heapP L L.length ∧
  ∀ L' e', (x :: L').Perm L → heapP L' L'.length → (∀ y ∈ L', leP x y) → L'.length = n → e'.rf = e.rf → lstK R4 e' L' cp → K (.ret (.iface 61 (plV x))) ((40, boxL bl 41 L'.length cp) :: (41, e') :: h) nx
theorem sHPop_ok : SpecOK Try.prog 30 sHPop := specOK_imp (inlx_ok (fn := Try.f30) rfl rfl rfl T_ok (SP := [(66, sLPop), (63, sLn), (65, sSwap), (44, sDown)]) (consSP sLPop_ok (consSP sLn_ok (consSP sSwap_ok (consSP sDown_ok noSP))))) <| by
  rintro args h nx K ⟨bl, cp, n, L, x, e, rfl, hbox, hfd, hl, hn, hsz, hx, h45, hh, hk⟩
  refine ⟨by simp [Try.f30], fun c hc => ?_⟩
  have hE := mkE' (fn := Try.f30) (R := fun o h' _ => Ext h h' ∧ ∃ m, K o h' m) hc (consSP sLPop_ok (consSP sLn_ok (consSP sSwap_ok (consSP sDown_ok noSP))))
  have heq : ∀ u, fd u ((40, boxL bl 41 L.length cp) :: (41, e) :: (45, .gone) :: h) = fd u h := fdeq_cons2 hbox (fdeq_cons2 hfd (fdeq_cons h45))
  have hw : IntKind.i64.wrap ((L.length : Int) - 1) = (n : Int) := by rw [hn]; simp only [IntKind.wrap_i64]; omega
  refine W_fdeq (nx' := 30) heq ?_
  generalize hH : ((40, boxL bl 41 L.length cp) :: (41, e) :: (45, Ent.gone) :: h) = H at heq
  refine W_seq (nx := 30) ?_
  refine W_keep (nx := 30) [(0, .iface 63 (.ptr 40 0 0))] H 30 ?_ ?_
  · refine vc_sound hE 20 _ _ _ 30 ?_
    exact ⟨rfl, rfl, trivial⟩
  refine W_seq (nx := 30) ?_
  refine W_keep (nx := 30) [(0, .iface 63 (.ptr 40 0 0)), (3, .int .i64 (n : Int))] H 30 ?_ ?_
  · subst hH
    refine vc_sound hE 20 _ _ _ 30 ?_
    refine ⟨63, false, 59, Meth.of (by rw [hc]; kernel_rfl), ?_⟩
    refine ⟨_, _, _, _, rfl, ?_⟩
    exact ⟨rfl, rfl, congrArg (fun x => some (V.int .i64 x)) hw, trivial⟩
  refine W_seq (nx := 30) ?_
  refine W_some (nx := 30) (fun e1 => e1.rf = e.rf ∧ lstK R4 e1 (swapL L 0 n) cp) (fun _ => [(0, .iface 63 (.ptr 40 0 0)), (3, .int .i64 (n : Int))]) (fun e1 => (41, e1) :: H) 30 ?_ ?_
  · subst hH
    refine vc_sound hE 20 _ _ _ 30 ?_
    refine ⟨65, false, 59, Meth.of (by rw [hc]; kernel_rfl), ?_⟩
    refine ⟨41, cp, L, 0, n, e, rfl, rfl, hl, by omega, by omega, fun e1 hr1 hl1 => ?_⟩
    exact ⟨e1, ⟨hr1, hl1⟩, rfl, rfl, rfl, trivial⟩
  rintro e1 ⟨hr1, hl1⟩
  have hs : (swapL L 0 n).length = L.length := swap_len
  refine W_seq (nx := 30) ?_
  refine W_some (nx := 30) (fun (a : List Pl × Ent) => a.1.Perm (swapL L 0 n) ∧ (∀ k, n ≤ k → a.1[k]? = (swapL L 0 n)[k]?) ∧ heapP a.1 n ∧ a.2.rf = e.rf ∧ lstK R4 a.2 a.1 cp) (fun _ => [(0, .iface 63 (.ptr 40 0 0)), (3, .int .i64 (n : Int))]) (fun a => (40, boxL bl 41 (swapL L 0 n).length cp) :: (41, a.2) :: (41, e1) :: H) 30 ?_ ?_
  · refine vc_sound hE 20 _ _ _ 30 ?_
    refine ⟨bl, 41, cp, n, swapL L 0 n, e1, rfl, .inl rfl, by subst hH; rw [hs]; rfl, rfl, hl1, by omega, by omega, by omega, down_start (by omega) hh, fun b L2 e2 hp hsm hh2 hr2 hl2 => ?_⟩
    exact ⟨(L2, e2), ⟨hp, hsm, hh2, hr2.trans hr1, hl2⟩, rfl, rfl, rfl, trivial⟩
  rintro ⟨L2, e2⟩ ⟨hp, hsm, hh2, hr2, hl2⟩
  obtain ⟨p1, p2, p3, p4⟩ := pop_law hn.symm hh hp hsm hh2 hx
  have hl2n : L2.length = n + 1 := by rw [hp.length_eq, hs, hn]
  have htl : (L2.take n).length = n := by rw [List.length_take]; omega
  refine W_seq (nx := 30) ?_
  refine W_keep (nx := 30) [(2, .iface 61 (plV x))] ((40, boxL bl 41 n cp) :: (40, boxL bl 41 (swapL L 0 n).length cp) :: (41, e2) :: (41, e1) :: H) 30 ?_ ?_
  · refine vc_sound hE 20 _ _ _ 30 ?_
    refine ⟨66, true, 59, Meth.of (by rw [hc]; kernel_rfl), ?_⟩
    refine ⟨bl, cp, n, L2, x, e2, rfl, by rw [hp.length_eq]; rfl, rfl, hl2, hl2n, by omega, p1, by subst hH; rfl, ?_⟩
    exact ⟨rfl, rfl, trivial⟩
  have he : ∀ u, fd u ((40, boxL bl 41 (L2.take n).length cp) :: (41, e2) :: h) = fd u ((40, boxL bl 41 n cp) :: (40, boxL bl 41 (swapL L 0 n).length cp) :: (41, e2) :: (41, e1) :: H) := fun u => by
    rw [htl]
    by_cases q0 : u = 40
    · subst q0; rfl
    by_cases q1 : u = 41
    · subst q1; rfl
    rw [fd_cons, if_neg q0, fd_cons, if_neg q1, fd_cons, if_neg q0, fd_cons, if_neg q0, fd_cons, if_neg q1, fd_cons, if_neg q1]
    exact (heq u).symm
  refine W_fdeq (nx' := 30) he ?_
  refine vc_sound hE 20 _ _ _ 30 ?_
  refine ⟨fun t r er => ?_, nx, hk (L2.take n) e2 p2 p3 p4 htl hr2 (hl2.take n)⟩
  by_cases q0 : t = 40
  · subst q0; rw [hbox] at er; exact er
  by_cases q1 : t = 41
  · subst q1
    rw [hfd] at er
    rw [fd_cons, if_neg q0, fd_cons, if_pos rfl, hr2]; exact er
  rw [fd_cons, if_neg q0, fd_cons, if_neg q1]; exact er
end Go.Proofs.Ytgcnknhfphgfnaa.Sx

/-
  Waiting.
-/
namespace Go.Proofs.Ytgcnknhfphgfnaa.Sx
open Go Go.Proofs
set_option maxRecDepth 100000
set_option linter.unusedSimpArgs false
set_option linter.unusedVariables false

theorem tell_map {h1 h2 : Hp} {t t' : Nat} (e : (fd t' h2).rf = (fd t h1).rf) : tell h1 h2 (.map t) (.map t') := by
  rintro x ⟨b, e1, rfl⟩
  exact ⟨b, e.trans e1, rfl⟩
theorem perm_eraseIdx {α : Type} : ∀ {l : List α} {i : Nat} {x : α}, l[i]? = some x → l.Perm (x :: l.eraseIdx i)
  | [], i, x, h => by simp at h
  | y :: l, 0, x, h => by simp at h; subst h; exact List.Perm.refl _
  | y :: l, i + 1, x, h => by
    rw [List.eraseIdx_cons_succ]
    exact ((perm_eraseIdx (l := l) (i := i) (by simpa using h)).cons y).trans (List.Perm.swap x y _)
theorem intT : appT T 35 := ⟨_, _, rfl, rfl, rfl, rfl, rfl⟩
theorem HT.tl {bT bM : Nat} {d a n : Int} {S : List Pl} {h h' rest : Hp} (e8 : fd 8 h = .ro (some ⟨bT, 0, none⟩) 1 4 (gTn d a n)) (e9 : fd 9 h = .rmp bM (mpP S)) (e9' : fd 9 h' = .rmp bM (mpP S)) {τ : Nat → Nat} (t8 : τ 8 = 8) (t9 : τ 9 = 9) (hr : tlH τ h h' rest) : tlH τ h h' (HT bT bM d a n S ++ rest) := by
  refine ⟨.inr (.inr ?_), .inr (.inr ?_), hr⟩
  · rw [t8, e8]
    refine ⟨rfl, Nat.le_refl _, rfl, fun i c hi hc => ?_⟩
    obtain rfl : i = 0 := by omega
    match c, hc with
    | 0, _ => exact tell_map (by rw [e9', e9])
    | 1, _ => exact tell_flat trivial
    | 2, _ => exact tell_flat trivial
    | 3, _ => exact tell_flat trivial
  · rw [t9, e9]; exact ⟨rfl, rfl⟩
/-- What is waiting, sorted, is one list. -/
def OneW (S : List Pl) (l : List Int) : Prop := ∀ out : List Pl, out.Pairwise leP → out.Perm (S.filter (·.w)) → out.map (·.t) = l
def sWaiting : Spec := fun args h nx K => ∃ (bT bM : Nat) (d a n : Int) (S : List Pl) (l : List Int), args = [.ptr 8 0 0] ∧ TnR h bT bM d a n S ∧ S.length ≤ 900 ∧ OneW S l ∧ fd nx h = .gone ∧ newL l h nx K
abbrev WHp (bT bM bl : Nat) (d a n : Int) (S L : List Pl) (cp : Nat) (e : Ent) (rest : Hp) : Hp := HT bT bM d a n S ++ (40, boxL bl 41 L.length cp) :: (41, e) :: rest
theorem WHp.wk {bT bM bl : Nat} {d a n : Int} {S L : List Pl} {cp : Nat} {e : Ent} {h rest' : Hp} {τ : Nat → Nat} (e8 : fd (τ 8) h = .ro (some ⟨bT, 0, none⟩) 1 4 (gTn d a n)) (e9 : fd (τ 9) h = .rmp bM (mpP S)) (e40 : fd (τ 40) h = boxL bl (τ 41) L.length cp) (e41 : fd (τ 41) h = e) (t9 : τ 9 = 9) (hl : lstK R4 e L cp)
    (hr : wkH τ h (WHp bT bM bl d a n S L cp e rest') rest') : wkH τ h (WHp bT bM bl d a n S L cp e rest') (WHp bT bM bl d a n S L cp e rest') :=
  HT.wk e8 e9 t9 trivial ⟨by rw [e40]; exact boxL_wk rfl hl.here, by rw [e41]; exact hl.wk _ _, hr⟩
theorem sWaiting_ok : SpecOK Try.prog 13 sWaiting := by
  refine specOK_newL (fn := Try.f13) rfl rfl rfl T_ok (SP := [(29, sHPush), (30, sHPop)]) (consSP sHPush_ok (consSP sHPop_ok noSP)) _ ?_
  rintro args h nx K ⟨bT, bM, d, a, n, S, l, rfl, H, hn, ho, hgone, hnew⟩
  refine ⟨hgone, _, _, l, H.told (rest := []) trivial, by simp [Try.f13], hnew, fun c hc => ?_⟩
  have hE := mkE' (fn := Try.f13) (R := fun o h1 _ => retL l o h1) hc (consSP sHPush_ok (consSP sHPop_ok noSP))
  have l0 : lstK R4 (.ro none 0 4 (gF R4 fun _ => Pl.zero)) [] 0 := .inl ⟨rfl, rfl, _, rfl⟩
  refine W_nx (nx := 40) ?_
  refine W_seq (nx := 40) ?_
  refine W_to (nx := 40) [(0, .ptr 8 0 0)] (HT bT bM d a n S) 40 ?_ ?_
  · refine vc_sound hE 20 _ _ _ 40 ?_
    exact ⟨tau [], rfl, (by repeat' (first | exact rfl | exact trivial | assumption | refine ⟨?_, ?_⟩)), HT.wk (rest := []) rfl rfl rfl trivial trivial⟩
  refine W_seq (nx := 40) ?_
  refine W_ex (nx := 40) (fun (b : Nat) => True) (fun b => [(0, .ptr 8 0 0), (3, .ptr 40 0 0)]) (fun b => HT bT bM d a n S ++ [(40, .blk b 1 1 (gOf 1 [.nils]) 59)]) 40 ?_ ?_
  · refine vc_sound hE 20 _ _ _ 40 ?_
    intro b
    exact ⟨b, trivial, tau [], rfl, (by repeat' (first | exact rfl | exact trivial | assumption | refine ⟨?_, ?_⟩)), HT.wk (rest := [(40, .blk b 1 1 (gOf 1 [.nils]) 59)]) rfl rfl rfl trivial ⟨⟨rfl, rfl, rfl, rfl, fun i c hi hc => by
      have hi : i < 1 := hi
      have hc : c < 1 := hc
      obtain rfl : i = 0 := by omega
      obtain rfl : c = 0 := by omega
      trivial⟩, trivial⟩⟩
  intro bl _
  refine W_tell (σ' := [(0, .ptr 8 0 0), (3, .ptr 40 0 0)]) (h' := WHp bT bM bl d a n S [] 0 (.ro none 0 4 (gF R4 fun _ => Pl.zero)) []) (nx' := 42) (tau []) rfl ⟨⟨_, rfl, tell_ptr rfl⟩, ⟨_, rfl, tell_ptr rfl⟩, trivial⟩ (HT.tl rfl rfl rfl rfl rfl ⟨.inr (.inr ⟨rfl, rfl, rfl, rfl, fun i c hi hc => by
      obtain rfl : i = 0 := by omega
      obtain rfl : c = 0 := by omega
      exact tell_nil (n := 0) (sz := 4) rfl⟩), .inr (.inl ⟨_, _, rfl⟩), trivial⟩) ?_
  refine W_seq (nx := 42) ?_
  refine W_ex (nx := 42) (fun (x : List Pl × Nat × Ent) => x.1.Perm (S.filter (·.w)) ∧ heapP x.1 x.1.length ∧ lstK R4 x.2.2 x.1 x.2.1) (fun x => [(3, .ptr 40 0 0)]) (fun x => WHp bT bM bl d a n S x.1 x.2.1 x.2.2 []) 42 ?_ ?_
  · refine vc_sound hE 20 _ _ _ 42 ?_
    intro bi
    refine W_loop (fun q σ h => ∃ (Lf L : List Pl) (e : Ent) (cp : Nat) (cur : Option (Int × V)), q = Lf.length ∧ (L ++ Lf.filter (·.w)).Perm (S.filter (·.w)) ∧ L.length + Lf.length ≤ S.length ∧ heapP L L.length ∧ lstK R4 e L cp ∧ σ = [(0, .ptr 8 0 0), (3, .ptr 40 0 0), (11, .ptr 42 0 0)] ∧ h = WHp bT bM bl d a n S L cp e [(42, .it bi bM (mpP S) (mpP Lf) cur)])
      S.length ⟨S, [], _, 0, none, rfl, List.Perm.refl _, by simp, fun k h1 h2 => by simp at h2, l0, rfl, rfl⟩ (tau []) ⟨rfl, (by repeat' (first | exact rfl | exact trivial | assumption | refine ⟨?_, ?_⟩)), WHp.wk rfl rfl rfl rfl rfl l0 ⟨⟨rfl, rfl, rfl, rfl, rfl⟩, trivial⟩⟩ 50 ?_
    rintro q σ h1 ⟨Lf, L, e, cp, cur, rfl, hp, hlen, hh, hl, rfl, rfl⟩
    have hle := hl.here
    refine vc_sound hE 30 _ _ _ 50 ?_
    refine ⟨fun hL => ?_, fun i p hi => ?_⟩
    · obtain rfl : Lf = [] := by cases Lf with
        | nil => rfl
        | cons x l => simp [mpP] at hL
      rw [List.filter_nil, List.append_nil] at hp
      exact ⟨(L, cp, e), ⟨hp, hh, hl⟩, tau [], rfl, (by repeat' (first | exact rfl | exact trivial | assumption | refine ⟨?_, ?_⟩)), WHp.wk rfl rfl rfl rfl rfl hl trivial⟩
    · obtain ⟨x, hx, rfl⟩ := mpP_at hi
      have hpx := perm_eraseIdx hx
      have hlen2 : (Lf.eraseIdx i).length + 1 = Lf.length := by have := hpx.length_eq; simpa using this.symm
      rw [mpP_erase]
      intro bp
      obtain ⟨xt, xn, xa, xw⟩ := x
      have hpf := hpx.filter (·.w)
      cases xw with
      | false =>
        rw [List.filter_cons_of_neg (by simp)] at hpf
        exact ⟨_, _, _, show (Lf.eraseIdx i).length < Lf.length by omega, ⟨Lf.eraseIdx i, L, e, cp, _, rfl, (List.Perm.append_left L hpf.symm).trans hp, by omega, hh, hl, rfl, rfl⟩, tau [], rfl, (by repeat' (first | exact rfl | exact trivial | assumption | refine ⟨?_, ?_⟩)), WHp.wk rfl rfl rfl rfl rfl hl ⟨⟨rfl, rfl, rfl, rfl, rfl⟩, trivial⟩⟩
      | true =>
        rw [List.filter_cons_of_pos (by simp)] at hpf
        refine ⟨bl, cp, L, ⟨xt, xn, xa, true⟩, e, rfl, rfl, rfl, hl, rfl, rfl, by omega, hh, fun ta' e' cp' L' hta hp' hh' hl' => ?_⟩
        have hle' := hl'.here
        have hp2 : (L' ++ (Lf.eraseIdx i).filter (·.w)).Perm (S.filter (·.w)) := ((hp'.append_right _).trans ((List.perm_middle (a := (⟨xt, xn, xa, true⟩ : Pl)) (l₁ := L) (l₂ := (Lf.eraseIdx i).filter (·.w))).symm)).trans ((List.Perm.append_left L hpf.symm).trans hp)
        have hl3 : L'.length = L.length + 1 := by have := hp'.length_eq; simpa using this
        rcases hta with ⟨rfl, _⟩ | rfl
        · exact ⟨_, _, _, show (Lf.eraseIdx i).length < Lf.length by omega, ⟨Lf.eraseIdx i, L', e', cp', _, rfl, hp2, by omega, hh', hl', rfl, rfl⟩, tau [], rfl, (by repeat' (first | exact rfl | exact trivial | assumption | refine ⟨?_, ?_⟩)), WHp.wk rfl rfl rfl rfl rfl hl' ⟨⟨rfl, rfl, rfl, rfl, rfl⟩, trivial⟩⟩
        · exact ⟨_, _, _, show (Lf.eraseIdx i).length < Lf.length by omega, ⟨Lf.eraseIdx i, L', e', cp', _, rfl, hp2, by omega, hh', hl', rfl, rfl⟩, tau [(41, 46)], rfl, (by repeat' (first | exact rfl | exact trivial | assumption | refine ⟨?_, ?_⟩)), WHp.wk rfl rfl rfl rfl rfl hl' ⟨⟨rfl, rfl, rfl, rfl, rfl⟩, trivial⟩⟩
  rintro ⟨L0, cp0, e0⟩ ⟨hp0, hh0, hl0⟩
  have hle0 : e0.here := hl0.here
  have e40 : ∀ {L : List Pl} {cp : Nat} {e : Ent} {h2 : Hp}, e.here → (fd 41 h2) = e → tellE2 (WHp bT bM bl d a n S L cp e []) h2 (boxL bl 41 L.length cp) (boxL bl 41 L.length cp) := fun _ h41 => box_tell2 rfl (by rw [h41]; rfl)
  refine W_seq (nx := 42) ?_
  refine W_ex (nx := 42) (fun _ : Unit => True) (fun _ => [(3, .ptr 40 0 0), (6, .nils)]) (fun _ => WHp bT bM bl d a n S L0 cp0 e0 []) 42 ?_ ?_
  · refine vc_sound hE 20 _ _ _ 42 ?_
    exact ⟨(), trivial, tau [], rfl, (by repeat' (first | exact rfl | exact trivial | assumption | refine ⟨?_, ?_⟩)), WHp.wk rfl rfl rfl rfl rfl hl0 trivial⟩
  rintro _ _
  refine W_tell (σ' := [(3, .ptr 40 0 0), (6, .slice 60 0 0 0)]) (h' := WHp bT bM bl d a n S L0 cp0 e0 [(60, .ro none 0 1 (gl []))]) (nx' := 42) (tau []) rfl ⟨⟨_, rfl, tell_ptr rfl⟩, ⟨_, rfl, tell_nil (n := 0) (sz := 1) rfl⟩, trivial⟩ (HT.tl rfl rfl rfl rfl rfl ⟨.inr (.inr (e40 hle0 rfl)), .inr (.inr hl0.tell2), .inr (.inl ⟨_, _, rfl⟩), trivial⟩) ?_
  have lO0 : lstE (.ro none 0 1 (gl [])) (([] : List Pl).map (·.t)) 0 := .inl ⟨rfl, rfl, rfl⟩
  refine W_seq (nx := 42) ?_
  refine W_ex (nx := 42) (fun (x : Nat × Ent) => lstE x.2 l x.1) (fun x => [(6, .slice 60 0 l.length x.1)]) (fun x => [(60, x.2)]) 42 ?_ ?_
  · refine vc_sound hE 20 _ _ _ 42 ?_
    refine W_loop (fun q σ h => ∃ (O L : List Pl) (e eO : Ent) (cp cO : Nat), q = L.length ∧ (O ++ L).Perm (S.filter (·.w)) ∧ O.Pairwise leP ∧ (∀ x ∈ O, ∀ y ∈ L, leP x y) ∧ heapP L L.length ∧ lstK R4 e L cp ∧ lstE eO (O.map (·.t)) cO ∧ σ = [(3, .ptr 40 0 0), (6, .slice 60 0 (O.map (·.t)).length cO)] ∧ h = WHp bT bM bl d a n S L cp e [(60, eO)])
      L0.length ⟨[], L0, e0, _, cp0, 0, rfl, hp0, List.Pairwise.nil, fun x hx => (by cases hx), hh0, hl0, lO0, rfl, rfl⟩ (tau []) ⟨rfl, (by repeat' (first | exact rfl | exact trivial | assumption | refine ⟨?_, ?_⟩)), WHp.wk rfl rfl rfl rfl rfl hl0 ⟨lst_wk lO0 _ _, trivial⟩⟩ 50 ?_
    rintro q σ h1 ⟨O, L, e, eO, cp, cO, rfl, hp, hs, hOL, hh, hl, hO, rfl, rfl⟩
    have hle := hl.here
    have hlO := lst_live hO
    have hOLl : O.length + L.length ≤ S.length := by
      have h1 := hp.length_eq
      have h2 := List.length_filter_le (fun x : Pl => x.w) S
      rw [List.length_append] at h1; omega
    refine vc_sound hE 30 _ _ _ 50 ?_
    (refine (?_ : br _ _ _); refine br_dec (fun q => ?_) (fun q => ?_))
    · have q1 : (0 : Int) < (L.length : Int) := q
      obtain ⟨m, hm⟩ : ∃ m, L.length = m + 1 := ⟨L.length - 1, by omega⟩
      obtain ⟨x, hx⟩ : ∃ x, L[0]? = some x := ⟨_, List.getElem?_eq_getElem (by omega)⟩
      refine ⟨bl, cp, m, L, x, e, rfl, rfl, rfl, hl, hm, by omega, hx, rfl, hh, fun L' e' hp' hh' hle' hlen' hr' hl' => ?_⟩
      have hlive' := hl'.here
      intro b2
      have hu : rdL ((50, .blk b2 1 1 (gOf 1 [.int .i64 x.t]) 3) :: (40, boxL bl 41 L'.length cp) :: (41, e') :: WHp bT bM bl d a n S L cp e [(60, eO)]) (.slice 50 0 1 1) [x.t] :=
        .inr ⟨50, 0, 1, _, 1, _, rfl, rfl, Nat.le_refl _, fun j hj => by
          obtain rfl : j = 0 := by simpa using hj
          rfl⟩
      have hmap : (O ++ [x]).map (·.t) = O.map (·.t) ++ [x.t] := by simp
      have hperm : ((O ++ [x]) ++ L').Perm (S.filter (·.w)) := by
        rw [List.append_assoc]
        exact (List.Perm.append_left O (show ([x] ++ L').Perm L from hp')).trans hp
      have hxL : x ∈ L := hp'.mem_iff.1 (List.mem_cons_self ..)
      have hpw : (O ++ [x]).Pairwise leP := List.pairwise_append.2 ⟨hs, List.pairwise_singleton _ _, fun y hy z hz => by
        rw [List.mem_singleton.1 hz]; exact hOL y hy x hxL⟩
      have hOL' : ∀ y ∈ O ++ [x], ∀ z ∈ L', leP y z := fun y hy z hz => by
        rcases List.mem_append.1 hy with hy | hy
        · exact hOL y hy z (hp'.mem_iff.1 (List.mem_cons_of_mem _ hz))
        · rw [List.mem_singleton.1 hy]; exact hle' z hz
      refine putS_some rfl ?_
      refine vc_app (v := .slice 60 0 (O.map (·.t)).length cO) (u := .slice 50 0 1 1) rfl rfl ?_
      refine app_one intT hO rfl hu rfl (by rw [List.length_map]; omega) (fun e2 hl2 => ?_) (fun e2 cp2 hl2 => ?_)
      · rw [← hmap] at hl2 ⊢
        have hlive2 := lst_live hl2
        exact ⟨m, _, _, by omega, ⟨O ++ [x], L', e', e2, cp, cO, hlen'.symm, hperm, hpw, hOL', hh', hl', hl2, rfl, rfl⟩, tau [], rfl, (by repeat' (first | exact rfl | exact trivial | assumption | refine ⟨?_, ?_⟩)), WHp.wk rfl rfl rfl rfl rfl hl' ⟨lst_wk hl2 _ _, trivial⟩⟩
      · rw [← hmap] at hl2 ⊢
        have hlive2 := lst_live hl2
        exact ⟨m, _, _, by omega, ⟨O ++ [x], L', e', e2, cp, cp2, hlen'.symm, hperm, hpw, hOL', hh', hl', hl2, rfl, rfl⟩, tau [(60, 51)], rfl, (by repeat' (first | exact rfl | exact trivial | assumption | refine ⟨?_, ?_⟩)), WHp.wk rfl rfl rfl rfl rfl hl' ⟨lst_wk hl2 _ _, trivial⟩⟩
    · have q1 : ¬ (0 : Int) < (L.length : Int) := q
      obtain rfl : L = [] := List.length_eq_zero_iff.1 (by omega)
      rw [List.append_nil] at hp
      have hl := ho O hs hp
      rw [hl] at hO ⊢
      exact ⟨(cO, eO), hO, tau [], rfl, (by repeat' (first | exact rfl | exact trivial | assumption | refine ⟨?_, ?_⟩)), ⟨lst_wk hO _ _, trivial⟩⟩
  rintro ⟨cO, eO⟩ hO
  have hO : lstE eO l cO := hO
  rcases hO with ⟨rfl, rfl, rfl⟩ | ⟨b, g, ty, rfl, h1, h2, h3, h4⟩
  · refine W_tell (σ' := [(6, .nils)]) (h' := []) (nx' := 42) (tau []) rfl ⟨⟨_, rfl, ?_⟩, trivial⟩ trivial ?_
    · rintro x ⟨base, sz, e1, rfl, e3⟩
      have : base = none := by injection e1 with e1; injection e1 with e1; exact e1.symm
      subst this
      rfl
    refine vc_sound hE 20 _ _ _ 42 ?_
    exact .inl ⟨rfl, rfl⟩
  · refine vc_sound hE 20 _ _ _ 42 ?_
    exact .inr ⟨60, cO, b, g, ty, rfl, rfl, h1, h2, h3, h4⟩
end Go.Proofs.Ytgcnknhfphgfnaa.Sx

