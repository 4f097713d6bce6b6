import Derived.Test.YtdjekplkejkgdaaSxP4
/-
  A shelf's functions, told of two lists.
-/
namespace Go.Proofs.Ytdjekplkejkgdaa.Sx
open Go Go.Proofs
set_option maxRecDepth 100000
set_option linter.unusedSimpArgs false
set_option linter.unusedVariables false

theorem specOK_imp {P : Program} {f : Nat} {s s2 : Spec} (h1 : SpecOK P f s) (h2 : ∀ args h nx K, s2 args h nx K → s args h nx K) : SpecOK P f s2 := fun c hc args h nx K hk => h1 c hc args h nx K (h2 _ _ _ _ hk)

/-! ### Readers -/
def lastN (H : Nat → Bool) : List Nat → Int × Bool
  | [] => (0, false)
  | x :: xs => if H x = false then ((x : Int), true) else lastN H xs
def Md.lastI (m : Md) (L : Int) : Int × Bool := if rightB L = true then lastN m.H (m.L L.toNat).reverse else (0, false)
def Md.listI (m : Md) (L : Int) : List Nat := if rightB L = true then m.L L.toNat else []
def Md.lenI (m : Md) (L : Int) : Int := (m.listI L).length
def ix (k : Nat) : List Nat → Nat
  | [] => 0
  | x :: xs => if x = k then 0 else ix k xs + 1
def Md.low (m : Md) (q k : Nat) : Bool := decide ((m.L q).length ≤ ix k (m.L q) + m.b)
def Md.whI (m : Md) (k : Int) : Int × Bool × Bool := if m.lies k = 0 then (match m.at k.toNat with | some q => ((q : Int), m.low q k.toNat, true) | none => (0, false, false)) else (0, false, false)
def Md.held (m : Md) : List Nat := (List.range m.n).filter fun i => m.H i

theorem ix_lt {k : Nat} : ∀ {l : List Nat}, k ∈ l → ix k l < l.length
  | [], h => by simp at h
  | x :: l, h => by
    unfold ix
    split
    · simp
    · rename_i hne
      have := ix_lt (l := l) (by rcases List.mem_cons.1 h with e | e; exact absurd e.symm hne; exact e)
      simp; omega
theorem ix_app_in {k : Nat} : ∀ {P Q : List Nat}, k ∈ P → ix k (P ++ Q) = ix k P
  | [], Q, h => by simp at h
  | x :: P, Q, h => by
    show (if x = k then 0 else ix k (P ++ Q) + 1) = (if x = k then 0 else ix k P + 1)
    split
    · rfl
    · rename_i hne
      rw [ix_app_in (by rcases List.mem_cons.1 h with e | e; exact absurd e.symm hne; exact e)]
theorem ix_app_out {k : Nat} : ∀ {P Q : List Nat}, k ∉ P → ix k (P ++ Q) = P.length + ix k Q
  | [], Q, _ => by simp
  | x :: P, Q, h => by
    simp only [List.mem_cons, not_or] at h
    show (if x = k then 0 else ix k (P ++ Q) + 1) = _
    rw [if_neg (Ne.symm h.1), ix_app_out h.2]
    simp; omega

theorem Inv.lo {s : Sh} {m : Md} {x : Nat} (h : Inv s m x) {q k : Nat} (hq : q < 2) (hk : k ∈ m.L q) : s.lo k = m.low q k := by
  obtain ⟨P, Q, hL, hli⟩ := h.li q hq
  have hn := h.nq hq
  unfold Md.low
  rw [hL] at hk hn ⊢
  have hd := (List.nodup_append.1 hn).2.2
  rcases List.mem_append.1 hk with w | w
  · rw [hli.loP k w, ix_app_in w]
    have h1 := ix_lt w
    have h2 := hli.full (by rintro rfl; simp at w)
    rw [decide_eq_false]
    simp only [List.length_append]
    omega
  · have hnP : k ∉ P := fun z => hd k z k w rfl
    rw [hli.loQ k w, ix_app_out hnP, decide_eq_true]
    have := hli.len
    simp only [List.length_append]
    omega

theorem lk_of {s : Sh} {d : Nat → Int} {g b : Nat} : ∀ {L : List Nat} {a : Nat} {ys : List (Nd s)}, Seg d s.u a L b → (∀ x ∈ L, x < s.N ∧ x ≠ g) → Lk s g a ys → ∃ xs : List (Nd s), xs.map (·.1) = L.reverse ++ ys.map (·.1) ∧ Lk s g (s.u b) xs
  | [], a, ys, h, _, hy => ⟨ys, by simp, by rw [h.2]; exact hy⟩
  | x :: L, a, ys, ⟨⟨h1, h2⟩, h3⟩, hx, hy => by
    obtain ⟨xs, e, hl⟩ := lk_of (ys := (⟨x, (hx x (by simp)).1⟩ : Nd s) :: ys) h3 (fun y hy => hx y (List.mem_cons_of_mem _ hy)) ⟨rfl, (hx x (by simp)).2, by rw [h2]; exact hy⟩
    exact ⟨xs, by rw [e]; simp, hl⟩
theorem Inv.lkR {s : Sh} {m : Md} {x : Nat} (h : Inv s m x) {L : Int} (hL : rightB L = true) : LkR s L (m.L L.toNat).reverse := by
  obtain ⟨q, rfl, hq⟩ := right_nat hL
  obtain ⟨P, Q, e, hli⟩ := h.li q hq
  rw [Int.toNat_natCast]
  have hg : gd s q = m.n + q := by unfold gd; rw [h.N]; omega
  obtain ⟨xs, e1, e2⟩ := lk_of (s := s) (g := m.n + q) (ys := []) hli.seg (fun x hx => by
    have := h.lt q hq x (by rw [e]; exact hx)
    have := h.N
    omega) rfl
  refine ⟨xs, by rw [e1, e]; simp, ?_⟩
  rw [Int.toNat_natCast, hg]
  exact e2
theorem lastOf_eq {s : Sh} {H : Nat → Bool} : ∀ {l : List Nat}, (∀ i ∈ l, s.he i = H i) → lastOf s l = lastN H l
  | [], _ => rfl
  | x :: l, h => by
    unfold lastOf lastN
    rw [h x (by simp), lastOf_eq fun i hi => h i (List.mem_cons_of_mem _ hi)]
theorem Inv.last {s : Sh} {m : Md} {x : Nat} (h : Inv s m x) (L : Int) : (if rightB L = true then lastOf s (m.L L.toNat).reverse else (0, false)) = m.lastI L := by
  unfold Md.lastI
  cases e : rightB L with
  | false => rfl
  | true =>
    obtain ⟨q, rfl, hq⟩ := right_nat e
    rw [if_pos rfl, if_pos rfl, lastOf_eq]
    intro i hi
    exact h.he i (h.lt q hq i (by simpa using hi))
theorem Inv.heldN {s : Sh} {m : Md} {x : Nat} (h : Inv s m x) : heldTo s s.N = m.held := by
  rw [h.N]
  have h0 : s.he (m.n) = false := h.hg 0 (by omega)
  have h1 : s.he (m.n + 1) = false := h.hg 1 (by omega)
  rw [heldTo_no h1, heldTo_no h0]
  unfold heldTo Md.held
  exact List.filter_congr fun i hi => h.he i (by simpa using hi)
theorem Inv.lenS {s : Sh} {m : Md} {x : Nat} (h : Inv s m x) (L : Int) : lenS s L = m.lenI L := by
  unfold Sx.lenS Md.lenI Md.listI
  cases e : rightB L with
  | false => rfl
  | true =>
    obtain ⟨q, rfl, hq⟩ := right_nat e
    obtain ⟨P, Q, e1, hli⟩ := h.li q hq
    rw [if_pos rfl, if_pos rfl, Int.toNat_natCast, hli.e0, e1]
    simp
theorem Inv.wh {s : Sh} {m : Md} (h : Inv s m m.n) (k : Int) : whereO s k = [.int .i64 (m.whI k).1, .bool (m.whI k).2.1, .bool (m.whI k).2.2] := by
  unfold whereO Md.whI
  rw [h.lies]
  by_cases e : m.lies k = 0
  · rw [if_pos e, if_pos e]
    have hN : m.isN k = true := by
      unfold Md.lies at e
      cases q : m.isN k with
      | true => rfl
      | false => rw [if_pos q] at e; cases e
    obtain ⟨j, rfl, hj⟩ := isN_nat hN
    have hl := h.at_l hj
    rw [Int.toNat_natCast]
    obtain e2 | ⟨q, e2⟩ : m.at j = none ∨ ∃ q, m.at j = some q := by cases m.at j <;> simp
    · unfold Md.lies at e
      rw [if_neg (by rw [hN]; decide), Int.toNat_natCast, if_pos e2] at e
      cases e
    · obtain ⟨hq, hm⟩ := Md.at_some e2
      rw [e2] at hl ⊢
      rw [hl, h.lo hq hm]
  · rw [if_neg e, if_neg e]

/-- A shelf that holds m lies at p, to a reader. -/
def mS (h : Hp) (p : V) (m : Md) : Prop := ∃ s, Inv s m m.n ∧ shelfR h p s
def cI (l : List Nat) : List Int := l.map fun (x : Nat) => (x : Int)
theorem cI_len (l : List Nat) : (cI l).length = l.length := by simp [cI]
theorem cI_at {l : List Nat} {i : Nat} (hi : i < l.length) : (cI l).getD i 0 = ((l[i] : Nat) : Int) := by simp [cI, List.getD_eq_getElem?_getD, hi]

def mLast : Spec := fun args h nx K => ∃ (p : V) (m : Md) (L : Int), args = [p, .int .i64 L] ∧ mS h p m ∧ K (.ret (.tup [.int .i64 (m.lastI L).1, .bool (m.lastI L).2])) h nx
theorem mLast_ok : SpecOK Try.prog 17 mLast := specOK_imp sLast_ok <| by
  rintro args h nx K ⟨p, m, L, rfl, ⟨s, hi, hs⟩, hk⟩
  refine ⟨p, s, L, (m.L L.toNat).reverse, rfl, hs, hi.small.1, hi.small.2, fun e => hi.lkR e, ?_⟩
  rw [hi.last]
  exact hk
def mLen : Spec := fun args h nx K => ∃ (p : V) (m : Md) (L : Int), args = [p, .int .i64 L] ∧ mS h p m ∧ K (.ret (.int .i64 (m.lenI L))) h nx
theorem mLen_ok : SpecOK Try.prog 19 mLen := specOK_imp sLen_ok <| by
  rintro args h nx K ⟨p, m, L, rfl, ⟨s, hi, hs⟩, hk⟩
  exact ⟨p, s, L, rfl, hs, by rw [hi.lenS]; exact hk⟩
def mWhere : Spec := fun args h nx K => ∃ (p : V) (m : Md) (k : Int), args = [p, .int .i64 k] ∧ mS h p m ∧ K (.ret (.tup [.int .i64 (m.whI k).1, .bool (m.whI k).2.1, .bool (m.whI k).2.2])) h nx
theorem mWhere_ok : SpecOK Try.prog 15 mWhere := specOK_imp sWhere_ok <| by
  rintro args h nx K ⟨p, m, k, rfl, ⟨s, hi, hs⟩, hk⟩
  exact ⟨p, s, k, rfl, hs, by rw [hi.sn, hi.N]; omega, by rw [hi.wh]; exact hk⟩

/-- Such an answer, as newL has it. -/
def ansK (l : List Nat) (h : Hp) (nx : Nat) : Out → Hp → Nat → Prop := fun o h' nx' => (l = [] ∧ o = .ret .nils ∧ h' = h) ∨
  ∃ (b cap : Nat) (g : Nat → Nat → V), l.length ≤ cap ∧ cap ≤ 9223372036854775807 ∧ (∀ i (hi : i < l.length), g i 0 = .int .i64 (l[i] : Nat)) ∧ (∀ i, i < cap → flat (g i 0)) ∧ o = .ret (.slice nx 0 l.length cap) ∧ h' = (nx, .blk b cap 1 g 3) :: h
theorem ansK_row (l : List Nat) (h : Hp) (nx : Nat) : ansRow l h nx (ansK l h nx) := ⟨fun e => .inl ⟨e, rfl, rfl⟩, fun _ b cap g h1 h2 h3 h4 => .inr ⟨b, cap, g, h1, h2, h3, h4, rfl, rfl⟩⟩
theorem ansK_new {l : List Nat} {h : Hp} {nx : Nat} {K : Out → Hp → Nat → Prop} (hg : fd nx h = .gone) (hn : newL (cI l) h nx K) : ∀ (c : Cx) w' o h' nx' e, ansK l h nx o h' nx' → Rel c h' w' → Ext h h' → OutRel h' o e → ∃ o2 h'' nx'', K o2 h'' nx'' ∧ Rel c h'' w' ∧ Ext h h'' ∧ OutRel h'' o2 e := by
  rintro c w' o h' nx' e (⟨rfl, rfl, rfl⟩ | ⟨b, cap, g, h1, h2, h3, h4, rfl, rfl⟩) hr hx hor
  · obtain ⟨hr3, hx3⟩ := hr.ronil (nx := nx) (sz := 1) (g := gl []) hg
    refine ⟨_, _, _, hn _ 0 (.inl ⟨rfl, rfl, rfl⟩), hr3, hx3, ?_⟩
    obtain ⟨x, ex, rx⟩ := hor
    exact ⟨x, ex, tell_nil (h1 := h') (by rw [fd_cons, if_pos rfl]) x rx⟩
  · have hn := hn _ cap (.inr ⟨b, g, 3, rfl, by rw [cI_len]; exact h1, h2, fun j hj => by rw [cI_len] at hj; rw [h3 j hj, cI_at hj], h4⟩)
    rw [cI_len] at hn
    exact ⟨_, _, _, hn, hr, hx, hor⟩

def mList : Spec := fun args h nx K => ∃ (p : V) (m : Md) (L : Int), args = [p, .int .i64 L] ∧ mS h p m ∧ fd nx h = .gone ∧ newL (cI (m.listI L)) h nx K
theorem mList_ok : SpecOK Try.prog 14 mList := specOK_conv sList_ok <| by
  rintro args h nx K ⟨p, m, L, rfl, ⟨s, hi, hs⟩, hg, hk⟩
  refine ⟨ansK (m.listI L) h nx, ⟨p, s, L, m.listI L, rfl, hs, hi.small.1, hi.small.2, ?_, hg, fun e => ?_, fun e => ?_, ansK_row _ _ _⟩, ansK_new hg hk⟩
  · unfold Md.listI
    split
    · rename_i e
      obtain ⟨q, rfl, hq⟩ := right_nat e
      have := hi.lenq hq
      have := hi.n2
      rw [Int.toNat_natCast]
      omega
    · simp
  · unfold Md.listI
    rw [if_pos e]
    exact hi.lkR e
  · unfold Md.listI
    rw [if_neg (by rw [e]; decide)]
def mHeld : Spec := fun args h nx K => ∃ (p : V) (m : Md), args = [p] ∧ mS h p m ∧ fd nx h = .gone ∧ newL (cI m.held) h nx K
theorem mHeld_ok : SpecOK Try.prog 18 mHeld := specOK_conv sHeld_ok <| by
  rintro args h nx K ⟨p, m, rfl, ⟨s, hi, hs⟩, hg, hk⟩
  refine ⟨ansK m.held h nx, ⟨p, s, rfl, hs, hi.small.2, hg, ?_⟩, ansK_new hg hk⟩
  rw [hi.heldN]
  exact ansK_row _ _ _

/-! ### Functions that write -/
/-- The shelf at p holds m, and then m'; the answer is v. -/
def mMut (h : Hp) (nx : Nat) (K : Out → Hp → Nat → Prop) (p : V) (m m' : Md) (v : V) : Prop :=
  ∃ s tS tA bS bA gs ga, Inv s m m.n ∧ p = .ptr tS 0 0 ∧ tS ≠ tA ∧ fd tS h = .blk bS 1 8 gs 61 ∧ fd tA h = .blk bA s.N 5 ga 63 ∧ cells tA s gs ga ∧
    ∀ s', s'.N = s.N → Inv s' m' m'.n → K (.ret v) ((tS, .blk bS 1 8 (gS tA s'.N s'.bot s'.E) 61) :: (tA, .blk bA s.N 5 (gA s'.u s'.d s'.l s'.lo s'.he) 63) :: h) nx
theorem frontS_N (s : Sh) (L k : Int) : (frontS s L k).N = s.N := by
  unfold frontS; split
  · exact offS_N _ _
  · rfl
def mFront : Spec := fun args h nx K => ∃ (p : V) (m : Md) (L k : Int), args = [p, .int .i64 L, .int .i64 k] ∧ mMut h nx K p m (m.frontI L k) (.int .i64 (m.frontC L k))
theorem mFront_ok : SpecOK Try.prog 20 mFront := specOK_imp front_ok <| by
  rintro args h nx K ⟨p, m, L, k, rfl, s, tS, tA, bS, bA, gs, ga, hi, rfl, hne, e1, e2, hc, hk⟩
  obtain ⟨h1, h2, h3⟩ := front_inv hi L k
  exact ⟨_, _, s, _, _, rfl, h1, tS, tA, bS, bA, gs, ga, rfl, hne, e1, e2, hc, hk _ (frontS_N s L k) (by rw [h3]; exact h2)⟩
def mDrop : Spec := fun args h nx K => ∃ (p : V) (m : Md) (k : Int), args = [p, .int .i64 k] ∧ mMut h nx K p m (m.dropI k) (.int .i64 (m.lies k))
theorem mDrop_ok : SpecOK Try.prog 24 mDrop := specOK_imp drop_ok <| by
  rintro args h nx K ⟨p, m, k, rfl, s, tS, tA, bS, bA, gs, ga, hi, rfl, hne, e1, e2, hc, hk⟩
  obtain ⟨h1, h2, h3⟩ := drop_inv hi k
  refine ⟨_, _, s, _, _, rfl, h1, tS, tA, bS, bA, gs, ga, rfl, hne, e1, e2, hc, hk _ ?_ (by rw [h3]; exact h2)⟩
  unfold dropS; split
  · exact outS_N _ _ _
  · rfl
def mHold : Spec := fun args h nx K => ∃ (p : V) (m : Md) (k : Int) (b : Bool), args = [p, .int .i64 k, .bool b] ∧ mMut h nx K p m (m.holdI k b) (.int .i64 (m.lies k))
theorem mHold_ok : SpecOK Try.prog 23 mHold := specOK_imp hold_ok <| by
  rintro args h nx K ⟨p, m, k, b, rfl, s, tS, tA, bS, bA, gs, ga, hi, rfl, hne, e1, e2, hc, hk⟩
  obtain ⟨h1, h2, h3⟩ := hold_inv hi k b
  refine ⟨_, _, s, _, _, rfl, h1, tS, tA, bS, bA, gs, ga, rfl, hne, e1, e2, hc, hk _ ?_ (by rw [h3]; exact h2)⟩
  unfold holdS; split <;> rfl
def mNew : Spec := fun args h nx K => ∃ (n b : Int), args = [.int .i64 n, .int .i64 b] ∧ fd nx h = .gone ∧ fd (nx + 1) h = .gone ∧
  (mayB n b = false → K (.ret (.tup [.nilp, .int .i64 1])) h nx) ∧
  (mayB n b = true → ∀ (bS bA : Nat) (s : Sh), s.N = n.toNat + 2 → Inv s (Md.new n.toNat b.toNat) n.toNat → K (.ret (.tup [.ptr nx 0 0, .int .i64 0])) ((nx, .blk bS 1 8 (gS (nx + 1) s.N s.bot s.E) 61) :: (nx + 1, .blk bA s.N 5 (gA s.u s.d s.l s.lo s.he) 63) :: h) (nx + 2))
theorem mNew_ok : SpecOK Try.prog 9 mNew := specOK_imp new_ok <| by
  rintro args h nx K ⟨n, b, rfl, g0, g1, h0, h1⟩
  refine ⟨n, b, rfl, g0, g1, h0, fun e bS bA => h1 e bS bA _ rfl ?_⟩
  have hm' := e
  unfold mayB at hm'
  simp only [Bool.and_eq_true, decide_eq_true_eq] at hm'
  obtain ⟨j, rfl⟩ : ∃ j : Nat, n = j := ⟨n.toNat, by omega⟩
  obtain ⟨k, rfl⟩ : ∃ j : Nat, b = j := ⟨b.toNat, by omega⟩
  exact new_inv e
end Go.Proofs.Ytdjekplkejkgdaa.Sx
