import Derived.Test.YtiihiifcnkfjoaaDoorSxLa
import Derived.Test.YtiihiifcnkfjoaaDoorSxG4
/-
  The plain law of a shelf, fourth part: its functions, told of two lists.
-/
namespace Go.Proofs.YtiihiifcnkfjoaaDoor.Sx
open Go Go.Proofs
set_option maxRecDepth 100000
set_option linter.unusedSimpArgs false
set_option linter.unusedVariables false
set_option linter.constructorNameAsVariable false

/-- Which list a node lies in. -/
def Md.at (m : Md) (k : Nat) : Option Nat := if k ∈ m.L 0 then some 0 else if k ∈ m.L 1 then some 1 else none
def Md.out (m : Md) (k : Nat) : Md := match m.at k with | some q => m.set q ((m.L q).erase k) | none => m
def Md.front (m : Md) (q k : Nat) : Md := (m.out k).set q (k :: (m.out k).L q)
def Md.isN (m : Md) (k : Int) : Bool := decide (0 ≤ k) && decide (k < m.n)
def Md.lies (m : Md) (k : Int) : Int := if m.isN k = false then 1 else if m.at k.toNat = none then 3 else 0
def Md.frontI (m : Md) (L k : Int) : Md := if rightB L = true ∧ m.isN k = true then m.front L.toNat k.toNat else m
def Md.frontC (m : Md) (L k : Int) : Int := if rightB L = true ∧ m.isN k = true then 0 else 1
def Md.dropI (m : Md) (k : Int) : Md := if m.lies k = 0 then { m.out k.toNat with H := updB m.H k.toNat false } else m
def Md.holdI (m : Md) (k : Int) (b : Bool) : Md := if m.lies k = 0 then { m with H := updB m.H k.toNat b } else m

theorem Md.at_some {m : Md} {k q : Nat} (h : m.at k = some q) : q < 2 ∧ k ∈ m.L q := by
  unfold Md.at at h
  split at h
  · injection h with h; subst h; exact ⟨by omega, by assumption⟩
  · split at h
    · injection h with h; subst h; exact ⟨by omega, by assumption⟩
    · cases h
theorem Md.at_none {m : Md} {k : Nat} (h : m.at k = none) : k ∉ m.L 0 ∧ k ∉ m.L 1 := by
  unfold Md.at at h
  split at h
  · cases h
  · split at h
    · cases h
    · exact ⟨by assumption, by assumption⟩
theorem Inv.at_l {s : Sh} {m : Md} (h : Inv s m m.n) {k : Nat} (hk : k < m.n) : s.l k = (match m.at k with | some q => (q : Int) | none => -1) := by
  cases e : m.at k with
  | some q =>
    obtain ⟨hq, hm⟩ := Md.at_some e
    obtain ⟨P, Q, hL, hli⟩ := h.li q hq
    exact hli.ls k (by rw [← hL]; exact hm)
  | none =>
    obtain ⟨h0, h1⟩ := Md.at_none e
    exact h.no k hk (by omega) h0 h1
theorem Inv.sn {s : Sh} {m : Md} {x : Nat} (h : Inv s m x) : s.n = m.n := by unfold Sh.n; rw [h.N, IntKind.wrap_i64]; have := h.n2; omega
theorem Inv.isB {s : Sh} {m : Md} {x : Nat} (h : Inv s m x) (k : Int) : isB s k = m.isN k := by unfold Sx.isB Md.isN; rw [h.sn]
theorem isN_nat {m : Md} {k : Int} (h : m.isN k = true) : ∃ j : Nat, k = j ∧ j < m.n := by
  unfold Md.isN at h
  simp only [Bool.and_eq_true, decide_eq_true_eq] at h
  exact ⟨k.toNat, by omega, by omega⟩
theorem right_nat {L : Int} (h : rightB L = true) : ∃ q : Nat, L = q ∧ q < 2 := by
  unfold rightB at h
  simp only [Bool.and_eq_true, decide_eq_true_eq] at h
  exact ⟨L.toNat, by omega, by omega⟩
theorem Inv.lies {s : Sh} {m : Md} (h : Inv s m m.n) (k : Int) : liesI s k = m.lies k := by
  unfold liesI Md.lies
  rw [h.isB]
  cases e : m.isN k with
  | false => simp
  | true =>
    obtain ⟨j, rfl, hj⟩ := isN_nat e
    have hl := h.at_l hj
    simp only [Int.toNat_natCast]
    obtain e2 | ⟨q, e2⟩ : m.at j = none ∨ ∃ q, m.at j = some q := by cases m.at j <;> simp
    · rw [e2] at hl
      have hl : s.l j = -1 := hl
      have h0 : s.l j < 0 := by omega
      simp [h0, e2]
    · rw [e2] at hl
      have hl : s.l j = (q : Int) := hl
      have h0 : ¬ s.l j < 0 := by omega
      simp [h0, e2]
theorem Inv.small {s : Sh} {m : Md} {x : Nat} (h : Inv s m x) : 3 ≤ s.N ∧ s.N ≤ 1000 := by have := h.N; have := h.n1; have := h.n2; omega

theorem out_at {s : Sh} {m : Md} {k q : Nat} (e : m.at k = some q) : m.out k = m.set q ((m.L q).erase k) := by unfold Md.out; rw [e]
theorem out_no {m : Md} {k : Nat} (e : m.at k = none) : m.out k = m := by unfold Md.out; rw [e]

/-- A node goes out of its list, if it lies in one. -/
theorem off_inv {s : Sh} {m : Md} {k : Nat} (h : Inv s m m.n) (hk : k < m.n) : (0 ≤ s.l k → outOK s k (s.l k).toNat) ∧ ∃ x, (x = k ∨ x = m.n) ∧ Inv (offS s k) (m.out k) x ∧ k ∉ (m.out k).L 0 ∧ k ∉ (m.out k).L 1 ∧ (m.out k).n = m.n := by
  have hl := h.at_l hk
  cases e : m.at k with
  | some q =>
    obtain ⟨hq, hm⟩ := Md.at_some e
    rw [e] at hl
    have hl : s.l k = (q : Int) := hl
    have hi := out_inv h hq hm
    refine ⟨fun _ => by rw [hl, Int.toNat_natCast]; exact (out_r h hq hm).ok, k, .inl rfl, ?_, ?_, ?_, by rw [out_at (s := s) e]; rfl⟩
    · unfold offS
      rw [if_pos (by omega), hl, Int.toNat_natCast, out_at (s := s) e]
      exact hi
    · rw [out_at (s := s) e]; exact hi.ex 0 (by omega)
    · rw [out_at (s := s) e]; exact hi.ex 1 (by omega)
  | none =>
    rw [e] at hl
    have hl : s.l k = -1 := hl
    obtain ⟨h0, h1⟩ := Md.at_none e
    refine ⟨fun q => by omega, m.n, .inr rfl, ?_, ?_, ?_, by rw [out_no e]⟩
    · unfold offS
      rw [if_neg (by omega), out_no e]
      exact h
    · rw [out_no e]; exact h0
    · rw [out_no e]; exact h1

theorem front_inv {s : Sh} {m : Md} (h : Inv s m m.n) (L k : Int) : preFront [.int .i64 L, .int .i64 k] s (frontS s L k) (.int .i64 (m.frontC L k)) ∧ Inv (frontS s L k) (m.frontI L k) m.n ∧ (m.frontI L k).n = m.n := by
  have hm : mayF s L k = true ↔ (rightB L = true ∧ m.isN k = true) := by
    unfold mayF
    rw [h.isB, Bool.and_eq_true]
    rfl
  by_cases e : rightB L = true ∧ m.isN k = true
  · obtain ⟨q, rfl, hq⟩ := right_nat e.1
    obtain ⟨j, rfl, hj⟩ := isN_nat e.2
    obtain ⟨o1, x, hx, o2, o3, o4, o5⟩ := off_inv h hj
    have hin := in_inv o2 hq (by rw [o5]; exact hj) (by rw [o5]; exact hx) o3 o4
    have hgd : gd (offS s j) q = gd s q := by unfold gd; rw [offS_N]
    have hfS : frontS s q j = inS (offS s j) q j := by unfold frontS; rw [if_pos (hm.2 e)]; rfl
    have hfI : m.frontI q j = m.front q j := by unfold Md.frontI; rw [if_pos e]; rfl
    refine ⟨⟨q, j, rfl, h.small.1, h.small.2, fun _ => ⟨o1, ?_⟩, rfl, ?_⟩, ?_, ?_⟩
    · show 0 ≤ (offS s j).d (gd s q) ∧ (offS s j).d (gd s q) < s.N
      have := hin.1
      rw [hgd, offS_N] at this
      exact this
    · unfold Md.frontC; rw [if_pos e, if_pos (hm.2 e)]
    · rw [hfS, hfI]
      have := hin.2
      rw [o5] at this
      exact this
    · rw [hfI]
      exact o5
  · have hmf : ¬ mayF s L k = true := fun q => e (hm.1 q)
    have hfI : m.frontI L k = m := if_neg e
    refine ⟨⟨L, k, rfl, h.small.1, h.small.2, fun q => absurd q hmf, rfl, ?_⟩, ?_, by rw [hfI]⟩
    · unfold Md.frontC; rw [if_neg e, if_neg hmf]
    · rw [hfI]; unfold frontS; rw [if_neg hmf]; exact h

theorem hold_inv {s : Sh} {m : Md} (h : Inv s m m.n) (k : Int) (b : Bool) : preHold [.int .i64 k, .bool b] s (holdS s k b) (.int .i64 (m.lies k)) ∧ Inv (holdS s k b) (m.holdI k b) m.n ∧ (m.holdI k b).n = m.n := by
  have hl := h.lies k
  refine ⟨⟨k, b, rfl, by rw [h.sn, h.N]; omega, rfl, by rw [hl]⟩, ?_⟩
  unfold holdS Md.holdI
  rw [hl]
  by_cases e : m.lies k = 0
  · rw [if_pos e, if_pos e]
    have hN : m.isN k = true := by
      unfold Md.lies at e
      cases q : m.isN k with
      | true => rfl
      | false => rw [if_pos q] at e; cases e
    have hat : m.at k.toNat ≠ none := by
      intro q
      unfold Md.lies at e
      rw [if_neg (by rw [hN]; decide), if_pos q] at e
      cases e
    obtain ⟨j, rfl, hj⟩ := isN_nat hN
    rw [Int.toNat_natCast] at hat ⊢
    refine ⟨⟨h.N, h.n1, h.n2, h.bot, h.b1, h.b2, h.nd, h.lt, h.ex, fun q hq => ?_, h.no, fun i hi => ?_, fun q hq => ?_, fun i hi hH hne => ?_⟩, rfl⟩
    · obtain ⟨P, Q, hL, hli⟩ := h.li q hq
      exact ⟨P, Q, hL, ⟨hli.seg, hli.loP, hli.loQ, hli.len, hli.full, hli.e0, hli.e1, hli.e2, hli.ls⟩⟩
    · show updB s.he j b i = updB m.H j b i
      unfold updB
      split
      · rfl
      · exact h.he i hi
    · show updB s.he j b (m.n + q) = false
      rw [updB_ne (by omega)]
      exact h.hg q hq
    · by_cases q : i = j
      · subst q
        cases e2 : m.at i with
        | none => exact absurd e2 hat
        | some q =>
          obtain ⟨hq, hm⟩ := Md.at_some e2
          obtain rfl | rfl : q = 0 ∨ q = 1 := by omega
          · exact .inl hm
          · exact .inr hm
      · refine h.hin i hi ?_ hne
        have : updB m.H j b i = true := hH
        rw [updB_ne q] at this
        exact this
  · rw [if_neg e, if_neg e]
    exact ⟨h, rfl⟩

theorem drop_inv {s : Sh} {m : Md} (h : Inv s m m.n) (k : Int) : preDrop [.int .i64 k] s (dropS s k) (.int .i64 (m.lies k)) ∧ Inv (dropS s k) (m.dropI k) m.n ∧ (m.dropI k).n = m.n := by
  have hl := h.lies k
  have both : m.lies k = 0 → ∃ j q : Nat, k = j ∧ j < m.n ∧ m.at j = some q := by
    intro e
    have hN : m.isN k = true := by
      unfold Md.lies at e
      cases q : m.isN k with
      | true => rfl
      | false => rw [if_pos q] at e; cases e
    obtain ⟨j, rfl, hj⟩ := isN_nat hN
    cases e2 : m.at j with
    | some q => exact ⟨j, q, rfl, hj, e2⟩
    | none =>
      unfold Md.lies at e
      rw [if_neg (by rw [hN]; decide), Int.toNat_natCast, if_pos e2] at e
      cases e
  refine ⟨⟨k, rfl, h.small.1, h.small.2, fun e => ?_, rfl, by rw [hl]⟩, ?_⟩
  · rw [hl] at e
    obtain ⟨j, q, rfl, hj, e2⟩ := both e
    obtain ⟨hq, hm⟩ := Md.at_some e2
    have hlj := h.at_l hj
    rw [e2] at hlj
    have hlj : s.l j = (q : Int) := hlj
    rw [Int.toNat_natCast, hlj, Int.toNat_natCast]
    exact (out_r h hq hm).ok
  · unfold dropS Md.dropI
    rw [hl]
    by_cases e : m.lies k = 0
    · rw [if_pos e, if_pos e]
      obtain ⟨j, q, rfl, hj, e2⟩ := both e
      obtain ⟨hq, hm⟩ := Md.at_some e2
      have hlj := h.at_l hj
      rw [e2] at hlj
      have hlj : s.l j = (q : Int) := hlj
      rw [Int.toNat_natCast, hlj, Int.toNat_natCast, out_at (s := s) e2]
      have hi := out_inv h hq hm
      have hjx : ∀ j', j' < 2 → ∀ i ∈ (m.n + j') :: (m.set q ((m.L q).erase j)).L j', i ≠ j := by
        rintro j' hj' i hi' rfl
        rcases List.mem_cons.1 hi' with w | w
        · omega
        · exact hi.ex j' hj' w
      refine ⟨⟨hi.N, h.n1, h.n2, hi.bot, h.b1, h.b2, hi.nd, hi.lt, fun j' hj' w => ?_, fun j' hj' => ?_, fun i hi' hne g0 g1 => ?_, fun i hi' => ?_, fun j' hj' => ?_, fun i hi' hH hne => ?_⟩, rfl⟩
      · have := hi.lt j' hj' _ w
        exact absurd this (Nat.lt_irrefl _)
      · obtain ⟨P, Q, hL, hli⟩ := hi.li j' hj'
        refine ⟨P, Q, hL, hli.frame (fun i hi' => ?_) (fun i hi' => ?_) (fun i hi' => ?_) (fun c hc => rfl) (fun i hi' => ?_)⟩
        · exact updI_ne (hjx j' hj' i (by rw [hL]; exact hi'))
        · exact updI_ne (hjx j' hj' i (by rw [hL]; exact hi'))
        · exact updB_ne (hjx j' hj' i (by rw [hL]; exact List.mem_cons_of_mem _ hi'))
        · exact updI_ne (hjx j' hj' i (by rw [hL]; exact List.mem_cons_of_mem _ hi'))
      · show updI (outS s j q).l j (-1) i = -1
        by_cases w : i = j
        · subst w; exact updI_same
        · rw [updI_ne w]; exact hi.no i hi' w g0 g1
      · show updB (outS s j q).he j false i = updB m.H j false i
        unfold updB
        split
        · rfl
        · exact hi.he i hi'
      · show updB (outS s j q).he j false (m.n + j') = false
        rw [updB_ne (by omega)]
        exact hi.hg j' hj'
      · have hH : updB m.H j false i = true := hH
        by_cases w : i = j
        · subst w; rw [updB_same] at hH; cases hH
        · rw [updB_ne w] at hH
          exact hi.hin i hi' hH w
    · rw [if_neg e, if_neg e]
      exact ⟨h, rfl⟩

/-- A new shelf is empty. -/
def Md.new (n b : Nat) : Md := ⟨n, b, fun _ => [], fun _ => false⟩
theorem new_inv {n b : Nat} (h : mayB n b = true) : Inv (newS n b) (Md.new n b) n := by
  unfold mayB at h
  simp only [Bool.and_eq_true, decide_eq_true_eq] at h
  refine ⟨rfl, by show 1 ≤ n; omega, by show n ≤ 64; omega, rfl, by show 1 ≤ b; omega, by show b ≤ n; omega, by simp [Md.new], fun q hq i hi => by simp [Md.new] at hi, fun q hq hi => by simp [Md.new] at hi, fun q hq => ⟨[], [], rfl, ?_⟩, fun i _ _ _ _ => rfl, fun i _ => rfl, fun q _ => rfl, fun i _ hH => by cases hH⟩
  refine ⟨⟨?_, ?_⟩, fun i hi => by simp at hi, fun i hi => by simp at hi, by simp, fun w => absurd rfl w, ?_, ?_, ?_, fun i hi => by simp at hi⟩
  · show (if n ≤ n + q then ((n + q : Nat) : Int) else 0) = _
    rw [if_pos (by omega)]; rfl
  · show (if n ≤ n + q then ((n + q : Nat) : Int) else 0) = _
    rw [if_pos (by omega)]; rfl
  · obtain rfl | rfl : q = 0 ∨ q = 1 := by omega
    · rfl
    · rfl
  · obtain rfl | rfl : q = 0 ∨ q = 1 := by omega
    · rfl
    · rfl
  · obtain rfl | rfl : q = 0 ∨ q = 1 := by omega
    · rfl
    · show ((n : Int) + 1) = ((n + 1 : Nat) : Int); omega
end Go.Proofs.YtiihiifcnkfjoaaDoor.Sx

/-
  A shelf's functions, told of two lists.
-/
namespace Go.Proofs.YtiihiifcnkfjoaaDoor.Sx
open Go Go.Proofs
set_option maxRecDepth 100000
set_option linter.unusedSimpArgs false
set_option linter.unusedVariables false

theorem specOK_imp {P : Program} {f : Nat} {s s2 : Spec} (h1 : SpecOK P f s) (h2 : ∀ args h nx K, s2 args h nx K → s args h nx K) : SpecOK P f s2 := fun c hc args h nx K hk => h1 c hc args h nx K (h2 _ _ _ _ hk)

/-! ### Readers -/
def lastN (H : Nat → Bool) : List Nat → Int × Bool
  | [] => (0, false)
  | x :: xs => if H x = false then ((x : Int), true) else lastN H xs
def Md.lastI (m : Md) (L : Int) : Int × Bool := if rightB L = true then lastN m.H (m.L L.toNat).reverse else (0, false)
def Md.listI (m : Md) (L : Int) : List Nat := if rightB L = true then m.L L.toNat else []
def Md.lenI (m : Md) (L : Int) : Int := (m.listI L).length
def ix (k : Nat) : List Nat → Nat
  | [] => 0
  | x :: xs => if x = k then 0 else ix k xs + 1
def Md.low (m : Md) (q k : Nat) : Bool := decide ((m.L q).length ≤ ix k (m.L q) + m.b)
def Md.whI (m : Md) (k : Int) : Int × Bool × Bool := if m.lies k = 0 then (match m.at k.toNat with | some q => ((q : Int), m.low q k.toNat, true) | none => (0, false, false)) else (0, false, false)
def Md.held (m : Md) : List Nat := (List.range m.n).filter fun i => m.H i

theorem ix_lt {k : Nat} : ∀ {l : List Nat}, k ∈ l → ix k l < l.length
  | [], h => by simp at h
  | x :: l, h => by
    unfold ix
    split
    · simp
    · rename_i hne
      have := ix_lt (l := l) (by rcases List.mem_cons.1 h with e | e; exact absurd e.symm hne; exact e)
      simp; omega
theorem ix_app_in {k : Nat} : ∀ {P Q : List Nat}, k ∈ P → ix k (P ++ Q) = ix k P
  | [], Q, h => by simp at h
  | x :: P, Q, h => by
    show (if x = k then 0 else ix k (P ++ Q) + 1) = (if x = k then 0 else ix k P + 1)
    split
    · rfl
    · rename_i hne
      rw [ix_app_in (by rcases List.mem_cons.1 h with e | e; exact absurd e.symm hne; exact e)]
theorem ix_app_out {k : Nat} : ∀ {P Q : List Nat}, k ∉ P → ix k (P ++ Q) = P.length + ix k Q
  | [], Q, _ => by simp
  | x :: P, Q, h => by
    simp only [List.mem_cons, not_or] at h
    show (if x = k then 0 else ix k (P ++ Q) + 1) = _
    rw [if_neg (Ne.symm h.1), ix_app_out h.2]
    simp; omega

theorem Inv.lo {s : Sh} {m : Md} {x : Nat} (h : Inv s m x) {q k : Nat} (hq : q < 2) (hk : k ∈ m.L q) : s.lo k = m.low q k := by
  obtain ⟨P, Q, hL, hli⟩ := h.li q hq
  have hn := h.nq hq
  unfold Md.low
  rw [hL] at hk hn ⊢
  have hd := (List.nodup_append.1 hn).2.2
  rcases List.mem_append.1 hk with w | w
  · rw [hli.loP k w, ix_app_in w]
    have h1 := ix_lt w
    have h2 := hli.full (by rintro rfl; simp at w)
    rw [decide_eq_false]
    simp only [List.length_append]
    omega
  · have hnP : k ∉ P := fun z => hd k z k w rfl
    rw [hli.loQ k w, ix_app_out hnP, decide_eq_true]
    have := hli.len
    simp only [List.length_append]
    omega

theorem lk_of {s : Sh} {d : Nat → Int} {g b : Nat} : ∀ {L : List Nat} {a : Nat} {ys : List (Nd s)}, Seg d s.u a L b → (∀ x ∈ L, x < s.N ∧ x ≠ g) → Lk s g a ys → ∃ xs : List (Nd s), xs.map (·.1) = L.reverse ++ ys.map (·.1) ∧ Lk s g (s.u b) xs
  | [], a, ys, h, _, hy => ⟨ys, by simp, by rw [h.2]; exact hy⟩
  | x :: L, a, ys, ⟨⟨h1, h2⟩, h3⟩, hx, hy => by
    obtain ⟨xs, e, hl⟩ := lk_of (ys := (⟨x, (hx x (by simp)).1⟩ : Nd s) :: ys) h3 (fun y hy => hx y (List.mem_cons_of_mem _ hy)) ⟨rfl, (hx x (by simp)).2, by rw [h2]; exact hy⟩
    exact ⟨xs, by rw [e]; simp, hl⟩
theorem Inv.lkR {s : Sh} {m : Md} {x : Nat} (h : Inv s m x) {L : Int} (hL : rightB L = true) : LkR s L (m.L L.toNat).reverse := by
  obtain ⟨q, rfl, hq⟩ := right_nat hL
  obtain ⟨P, Q, e, hli⟩ := h.li q hq
  rw [Int.toNat_natCast]
  have hg : gd s q = m.n + q := by unfold gd; rw [h.N]; omega
  obtain ⟨xs, e1, e2⟩ := lk_of (s := s) (g := m.n + q) (ys := []) hli.seg (fun x hx => by
    have := h.lt q hq x (by rw [e]; exact hx)
    have := h.N
    omega) rfl
  refine ⟨xs, by rw [e1, e]; simp, ?_⟩
  rw [Int.toNat_natCast, hg]
  exact e2
theorem lastOf_eq {s : Sh} {H : Nat → Bool} : ∀ {l : List Nat}, (∀ i ∈ l, s.he i = H i) → lastOf s l = lastN H l
  | [], _ => rfl
  | x :: l, h => by
    unfold lastOf lastN
    rw [h x (by simp), lastOf_eq fun i hi => h i (List.mem_cons_of_mem _ hi)]
theorem Inv.last {s : Sh} {m : Md} {x : Nat} (h : Inv s m x) (L : Int) : (if rightB L = true then lastOf s (m.L L.toNat).reverse else (0, false)) = m.lastI L := by
  unfold Md.lastI
  cases e : rightB L with
  | false => rfl
  | true =>
    obtain ⟨q, rfl, hq⟩ := right_nat e
    rw [if_pos rfl, if_pos rfl, lastOf_eq]
    intro i hi
    exact h.he i (h.lt q hq i (by simpa using hi))
theorem Inv.heldN {s : Sh} {m : Md} {x : Nat} (h : Inv s m x) : heldTo s s.N = m.held := by
  rw [h.N]
  have h0 : s.he (m.n) = false := h.hg 0 (by omega)
  have h1 : s.he (m.n + 1) = false := h.hg 1 (by omega)
  rw [heldTo_no h1, heldTo_no h0]
  unfold heldTo Md.held
  exact List.filter_congr fun i hi => h.he i (by simpa using hi)
theorem Inv.lenS {s : Sh} {m : Md} {x : Nat} (h : Inv s m x) (L : Int) : lenS s L = m.lenI L := by
  unfold Sx.lenS Md.lenI Md.listI
  cases e : rightB L with
  | false => rfl
  | true =>
    obtain ⟨q, rfl, hq⟩ := right_nat e
    obtain ⟨P, Q, e1, hli⟩ := h.li q hq
    rw [if_pos rfl, if_pos rfl, Int.toNat_natCast, hli.e0, e1]
    simp
theorem Inv.wh {s : Sh} {m : Md} (h : Inv s m m.n) (k : Int) : whereO s k = [.int .i64 (m.whI k).1, .bool (m.whI k).2.1, .bool (m.whI k).2.2] := by
  unfold whereO Md.whI
  rw [h.lies]
  by_cases e : m.lies k = 0
  · rw [if_pos e, if_pos e]
    have hN : m.isN k = true := by
      unfold Md.lies at e
      cases q : m.isN k with
      | true => rfl
      | false => rw [if_pos q] at e; cases e
    obtain ⟨j, rfl, hj⟩ := isN_nat hN
    have hl := h.at_l hj
    rw [Int.toNat_natCast]
    obtain e2 | ⟨q, e2⟩ : m.at j = none ∨ ∃ q, m.at j = some q := by cases m.at j <;> simp
    · unfold Md.lies at e
      rw [if_neg (by rw [hN]; decide), Int.toNat_natCast, if_pos e2] at e
      cases e
    · obtain ⟨hq, hm⟩ := Md.at_some e2
      rw [e2] at hl ⊢
      rw [hl, h.lo hq hm]
  · rw [if_neg e, if_neg e]

/-- A shelf that holds m lies at p, to a reader. -/
def mS (h : Hp) (p : V) (m : Md) : Prop := ∃ s, Inv s m m.n ∧ shelfR h p s
def cI (l : List Nat) : List Int := l.map fun (x : Nat) => (x : Int)
theorem cI_len (l : List Nat) : (cI l).length = l.length := by simp [cI]
theorem cI_at {l : List Nat} {i : Nat} (hi : i < l.length) : (cI l).getD i 0 = ((l[i] : Nat) : Int) := by simp [cI, List.getD_eq_getElem?_getD, hi]

def mLast : Spec := fun args h nx K => ∃ (p : V) (m : Md) (L : Int), args = [p, .int .i64 L] ∧ mS h p m ∧ K (.ret (.tup [.int .i64 (m.lastI L).1, .bool (m.lastI L).2])) h nx
theorem mLast_ok : SpecOK Tryd.prog 61 mLast := specOK_imp sLast_ok <| by
  rintro args h nx K ⟨p, m, L, rfl, ⟨s, hi, hs⟩, hk⟩
  refine ⟨p, s, L, (m.L L.toNat).reverse, rfl, hs, hi.small.1, hi.small.2, fun e => hi.lkR e, ?_⟩
  rw [hi.last]
  exact hk
def mLen : Spec := fun args h nx K => ∃ (p : V) (m : Md) (L : Int), args = [p, .int .i64 L] ∧ mS h p m ∧ K (.ret (.int .i64 (m.lenI L))) h nx
theorem mLen_ok : SpecOK Tryd.prog 38 mLen := specOK_imp sLen_ok <| by
  rintro args h nx K ⟨p, m, L, rfl, ⟨s, hi, hs⟩, hk⟩
  exact ⟨p, s, L, rfl, hs, by rw [hi.lenS]; exact hk⟩
def mWhere : Spec := fun args h nx K => ∃ (p : V) (m : Md) (k : Int), args = [p, .int .i64 k] ∧ mS h p m ∧ K (.ret (.tup [.int .i64 (m.whI k).1, .bool (m.whI k).2.1, .bool (m.whI k).2.2])) h nx
theorem mWhere_ok : SpecOK Tryd.prog 45 mWhere := specOK_imp sWhere_ok <| by
  rintro args h nx K ⟨p, m, k, rfl, ⟨s, hi, hs⟩, hk⟩
  exact ⟨p, s, k, rfl, hs, by rw [hi.sn, hi.N]; omega, by rw [hi.wh]; exact hk⟩

/-- Such an answer, as newL has it. -/
def ansK (l : List Nat) (h : Hp) (nx : Nat) : Out → Hp → Nat → Prop := fun o h' nx' => (l = [] ∧ o = .ret .nils ∧ h' = h) ∨
  ∃ (b cap : Nat) (g : Nat → Nat → V), l.length ≤ cap ∧ cap ≤ 9223372036854775807 ∧ (∀ i (hi : i < l.length), g i 0 = .int .i64 (l[i] : Nat)) ∧ (∀ i, i < cap → flat (g i 0)) ∧ o = .ret (.slice nx 0 l.length cap) ∧ h' = (nx, .blk b cap 1 g 3) :: h
theorem ansK_row (l : List Nat) (h : Hp) (nx : Nat) : ansRow l h nx (ansK l h nx) := ⟨fun e => .inl ⟨e, rfl, rfl⟩, fun _ b cap g h1 h2 h3 h4 => .inr ⟨b, cap, g, h1, h2, h3, h4, rfl, rfl⟩⟩
theorem ansK_new {l : List Nat} {h : Hp} {nx : Nat} {K : Out → Hp → Nat → Prop} (hg : fd nx h = .gone) (hn : newL (cI l) h nx K) : ∀ (c : Cx) w' o h' nx' e, ansK l h nx o h' nx' → Rel c h' w' → Ext h h' → OutRel h' o e → ∃ o2 h'' nx'', K o2 h'' nx'' ∧ Rel c h'' w' ∧ Ext h h'' ∧ OutRel h'' o2 e := by
  rintro c w' o h' nx' e (⟨rfl, rfl, rfl⟩ | ⟨b, cap, g, h1, h2, h3, h4, rfl, rfl⟩) hr hx hor
  · obtain ⟨hr3, hx3⟩ := hr.ronil (nx := nx) (sz := 1) (g := gl []) hg
    refine ⟨_, _, _, hn _ 0 (.inl ⟨rfl, rfl, rfl⟩), hr3, hx3, ?_⟩
    obtain ⟨x, ex, rx⟩ := hor
    exact ⟨x, ex, tell_nil (h1 := h') (by rw [fd_cons, if_pos rfl]) x rx⟩
  · have hn := hn _ cap (.inr ⟨b, g, 3, rfl, by rw [cI_len]; exact h1, h2, fun j hj => by rw [cI_len] at hj; rw [h3 j hj, cI_at hj], h4⟩)
    rw [cI_len] at hn
    exact ⟨_, _, _, hn, hr, hx, hor⟩

def mList : Spec := fun args h nx K => ∃ (p : V) (m : Md) (L : Int), args = [p, .int .i64 L] ∧ mS h p m ∧ fd nx h = .gone ∧ newL (cI (m.listI L)) h nx K
theorem mList_ok : SpecOK Tryd.prog 36 mList := specOK_conv sList_ok <| by
  rintro args h nx K ⟨p, m, L, rfl, ⟨s, hi, hs⟩, hg, hk⟩
  refine ⟨ansK (m.listI L) h nx, ⟨p, s, L, m.listI L, rfl, hs, hi.small.1, hi.small.2, ?_, hg, fun e => ?_, fun e => ?_, ansK_row _ _ _⟩, ansK_new hg hk⟩
  · unfold Md.listI
    split
    · rename_i e
      obtain ⟨q, rfl, hq⟩ := right_nat e
      have := hi.lenq hq
      have := hi.n2
      rw [Int.toNat_natCast]
      omega
    · simp
  · unfold Md.listI
    rw [if_pos e]
    exact hi.lkR e
  · unfold Md.listI
    rw [if_neg (by rw [e]; decide)]
def mHeld : Spec := fun args h nx K => ∃ (p : V) (m : Md), args = [p] ∧ mS h p m ∧ fd nx h = .gone ∧ newL (cI m.held) h nx K
theorem mHeld_ok : SpecOK Tryd.prog 37 mHeld := specOK_conv sHeld_ok <| by
  rintro args h nx K ⟨p, m, rfl, ⟨s, hi, hs⟩, hg, hk⟩
  refine ⟨ansK m.held h nx, ⟨p, s, rfl, hs, hi.small.2, hg, ?_⟩, ansK_new hg hk⟩
  rw [hi.heldN]
  exact ansK_row _ _ _

/-! ### Functions that write -/
/-- The shelf at p holds m, and then m'; the answer is v. -/
def mMut (h : Hp) (nx : Nat) (K : Out → Hp → Nat → Prop) (p : V) (m m' : Md) (v : V) : Prop :=
  ∃ s tS tA bS bA gs ga, Inv s m m.n ∧ p = .ptr tS 0 0 ∧ tS ≠ tA ∧ fd tS h = .blk bS 1 8 gs 84 ∧ fd tA h = .blk bA s.N 5 ga 86 ∧ cells tA s gs ga ∧
    ∀ s', s'.N = s.N → Inv s' m' m'.n → K (.ret v) ((tS, .blk bS 1 8 (gS tA s'.N s'.bot s'.E) 84) :: (tA, .blk bA s.N 5 (gA s'.u s'.d s'.l s'.lo s'.he) 86) :: h) nx
theorem frontS_N (s : Sh) (L k : Int) : (frontS s L k).N = s.N := by
  unfold frontS; split
  · exact offS_N _ _
  · rfl
def mFront : Spec := fun args h nx K => ∃ (p : V) (m : Md) (L k : Int), args = [p, .int .i64 L, .int .i64 k] ∧ mMut h nx K p m (m.frontI L k) (.int .i64 (m.frontC L k))
theorem mFront_ok : SpecOK Tryd.prog 66 mFront := specOK_imp front_ok <| by
  rintro args h nx K ⟨p, m, L, k, rfl, s, tS, tA, bS, bA, gs, ga, hi, rfl, hne, e1, e2, hc, hk⟩
  obtain ⟨h1, h2, h3⟩ := front_inv hi L k
  exact ⟨_, _, s, _, _, rfl, h1, tS, tA, bS, bA, gs, ga, rfl, hne, e1, e2, hc, hk _ (frontS_N s L k) (by rw [h3]; exact h2)⟩
def mDrop : Spec := fun args h nx K => ∃ (p : V) (m : Md) (k : Int), args = [p, .int .i64 k] ∧ mMut h nx K p m (m.dropI k) (.int .i64 (m.lies k))
theorem mDrop_ok : SpecOK Tryd.prog 41 mDrop := specOK_imp drop_ok <| by
  rintro args h nx K ⟨p, m, k, rfl, s, tS, tA, bS, bA, gs, ga, hi, rfl, hne, e1, e2, hc, hk⟩
  obtain ⟨h1, h2, h3⟩ := drop_inv hi k
  refine ⟨_, _, s, _, _, rfl, h1, tS, tA, bS, bA, gs, ga, rfl, hne, e1, e2, hc, hk _ ?_ (by rw [h3]; exact h2)⟩
  unfold dropS; split
  · exact outS_N _ _ _
  · rfl
def mHold : Spec := fun args h nx K => ∃ (p : V) (m : Md) (k : Int) (b : Bool), args = [p, .int .i64 k, .bool b] ∧ mMut h nx K p m (m.holdI k b) (.int .i64 (m.lies k))
theorem mHold_ok : SpecOK Tryd.prog 47 mHold := specOK_imp hold_ok <| by
  rintro args h nx K ⟨p, m, k, b, rfl, s, tS, tA, bS, bA, gs, ga, hi, rfl, hne, e1, e2, hc, hk⟩
  obtain ⟨h1, h2, h3⟩ := hold_inv hi k b
  refine ⟨_, _, s, _, _, rfl, h1, tS, tA, bS, bA, gs, ga, rfl, hne, e1, e2, hc, hk _ ?_ (by rw [h3]; exact h2)⟩
  unfold holdS; split <;> rfl
def mNew : Spec := fun args h nx K => ∃ (n b : Int), args = [.int .i64 n, .int .i64 b] ∧ fd nx h = .gone ∧ fd (nx + 1) h = .gone ∧
  (mayB n b = false → K (.ret (.tup [.nilp, .int .i64 1])) h nx) ∧
  (mayB n b = true → ∀ (bS bA : Nat) (s : Sh), s.N = n.toNat + 2 → Inv s (Md.new n.toNat b.toNat) n.toNat → K (.ret (.tup [.ptr nx 0 0, .int .i64 0])) ((nx, .blk bS 1 8 (gS (nx + 1) s.N s.bot s.E) 84) :: (nx + 1, .blk bA s.N 5 (gA s.u s.d s.l s.lo s.he) 86) :: h) (nx + 2))
theorem mNew_ok : SpecOK Tryd.prog 27 mNew := specOK_imp new_ok <| by
  rintro args h nx K ⟨n, b, rfl, g0, g1, h0, h1⟩
  refine ⟨n, b, rfl, g0, g1, h0, fun e bS bA => h1 e bS bA _ rfl ?_⟩
  have hm' := e
  unfold mayB at hm'
  simp only [Bool.and_eq_true, decide_eq_true_eq] at hm'
  obtain ⟨j, rfl⟩ : ∃ j : Nat, n = j := ⟨n.toNat, by omega⟩
  obtain ⟨k, rfl⟩ : ∃ j : Nat, b = j := ⟨b.toNat, by omega⟩
  exact new_inv e
end Go.Proofs.YtiihiifcnkfjoaaDoor.Sx

/-
  The walks of this seat's functions: lists of integers (are two the same; where is a number; a list without one).
-/
namespace Go.Proofs.YtiihiifcnkfjoaaDoor.Sx
open Go Go.Proofs
set_option maxRecDepth 100000
set_option linter.unusedSimpArgs false
set_option linter.unusedVariables false

theorem gl_ro {τ : Nat → Nat} {h' : Hp} {l : List Int} {i c : Nat} : rn τ h' (gl l i c) (gl l i c) := ⟨rfl, rfl⟩
theorem getD_at {l : List Int} {i : Nat} (h : i < l.length) : l.getD i 0 = l[i] := by simp [List.getD_eq_getElem?_getD, h]
theorem same_lists {l m : List Int} (hl : l.length = m.length) (h : ∀ j, j < l.length → l.getD j 0 = m.getD j 0) : l = m := by
  refine List.ext_getElem hl fun i h1 h2 => ?_
  have := h i h1
  rw [getD_at h1, getD_at h2] at this
  exact this
def sInts : Spec := fun args h nx K => ∃ v v' l l', args = [v, v'] ∧ rdL h v l ∧ rdL h v' l' ∧ l.length ≤ 1000000000 ∧ l'.length ≤ 1000000000 ∧ K (.ret (.bool (decide (l = l')))) h nx
theorem sInts_ok : SpecOK Tryd.prog 25 sInts := by
  refine specOK_read2 (fn := Tryd.f25) rfl rfl rfl T_ok (SP := []) noSP 200 _ ?_
  rintro args h nx K ⟨v, v', l, l', rfl, hv, hv', hn, hn', hk⟩
  obtain ⟨b, c, b', c', told⟩ := told_L2 (rest := []) hv hv' trivial
  refine ⟨_, _, told, by simp [Tryd.f25], fun o => o = .ret (.bool (decide (l = l'))), ?_, ?_⟩
  · rintro o rfl; exact ⟨trivial, hk⟩
  intro cx hcx
  clear hk told hv hv'
  (refine (?_ : br _ _ _); refine br_ne (fun e => ?_) (fun e => ?_))
  · have e : (l.length : Int) ≠ (l'.length : Int) := e
    refine outB ?_
    rw [decide_eq_false]
    rintro rfl
    exact e rfl
  have e : (l.length : Int) = (l'.length : Int) := e
  have en : l.length = l'.length := by omega
  refine W_loop (fun r σ h => ∃ j : Nat, r = l.length - j ∧ j ≤ l.length ∧ (∀ k, k < j → l.getD k 0 = l'.getD k 0) ∧ σ = [(0, .slice 2000 0 l.length c), (1, .slice 2001 0 l'.length c'), (5, .int .i64 j)] ∧ h = [(2000, .ro b l.length 1 (gl l)), (2001, .ro b' l'.length 1 (gl l'))]) l.length ⟨0, rfl, by omega, fun k hk => by omega, rfl, rfl⟩ (tau []) ⟨rfl, ?_, ?_⟩ 30 ?_
  · repeat' (first | exact rfl | exact trivial | refine ⟨?_, ?_⟩)
  · exact ⟨⟨rfl, rfl, rfl, fun i c hi hc => gl_ro⟩, ⟨rfl, rfl, rfl, fun i c hi hc => gl_ro⟩, trivial⟩
  rintro r σ h1 ⟨j, rfl, hj, hall, rfl, rfl⟩
  refine vc_sound (mkE hcx T_ok noSP) 200 _ _ _ 30 ?_
  (refine (?_ : br _ _ _); refine br_dec (fun hlt => ?_) (fun hlt => ?_))
  · have hlt : (j : Int) < (l.length : Int) := hlt
    have hjn : j < l.length := by omega
    have hw : IntKind.i64.wrap ((j : Int) + 1) = ((j + 1 : Nat) : Int) := by simp [IntKind.wrap_i64]; omega
    have hz : addI 0 j = j := by rw [addI_eq, Nat.zero_add]
    refine W_drawn (id := 6) (mkE hcx T_ok noSP) 60 1000 (by rw [hcx]; exact mix) (by kernel_rfl) (by kernel_rfl) 200 ?_
    refine ⟨_, ⟨rfl, rfl⟩, ?_⟩
    refine ⟨_, ⟨rfl, rfl⟩, ?_⟩
    refine ⟨.ptr 2000 (addI 0 j) 0, (show chk _ _ from chk_ok (by simp; omega) (show chk _ _ from chk_ok rfl ⟨rfl, rfl⟩)), ?_⟩
    refine ⟨.int .i64 (l.getD (addI 0 j) 0), (show chk _ _ from chk_ok (Nat.ble_eq_true_of_le (show addI 0 j * 1 + 0 + 1 ≤ l.length * 1 by rw [hz]; omega)) ⟨rfl, rfl⟩), ?_⟩
    refine ⟨_, ⟨rfl, rfl⟩, ?_⟩
    refine ⟨_, ⟨rfl, rfl⟩, ?_⟩
    refine ⟨.ptr 2001 (addI 0 j) 0, (show chk _ _ from chk_ok (by simp; omega) (show chk _ _ from chk_ok rfl ⟨rfl, rfl⟩)), ?_⟩
    refine ⟨.int .i64 (l'.getD (addI 0 j) 0), (show chk _ _ from chk_ok (Nat.ble_eq_true_of_le (show addI 0 j * 1 + 0 + 1 ≤ l'.length * 1 by rw [hz]; omega)) ⟨rfl, rfl⟩), ?_⟩
    refine ⟨_, ⟨rfl, rfl⟩, ?_⟩
    (refine (?_ : br _ _ _); refine br_ne (fun e => ?_) (fun e => ?_))
    · rw [hz] at e
      refine outB ?_
      rw [decide_eq_false]
      rintro rfl
      exact e rfl
    · rw [hz] at e
      refine ⟨l.length - (j + 1), _, _, by omega, ⟨j + 1, rfl, by omega, fun k hk => ?_, rfl, rfl⟩, tau [], rfl, ?_, ?_⟩
      · by_cases hkj : k = j
        · subst hkj; exact e
        · exact hall k (by omega)
      · repeat' (first | exact rfl | exact trivial | exact hw | refine ⟨?_, ?_⟩)
      · exact ⟨⟨rfl, rfl, rfl, fun i c hi hc => gl_ro⟩, ⟨rfl, rfl, rfl, fun i c hi hc => gl_ro⟩, trivial⟩
  · have hlt : ¬ (j : Int) < (l.length : Int) := hlt
    refine outB ?_
    exact (decide_eq_true (same_lists en fun k hk => hall k (by omega))).symm
/-- Where a number is in a list. -/
def ixZ (k : Int) : List Int → Nat
  | [] => 0
  | x :: xs => if x = k then 0 else ixZ k xs + 1
def findI (k : Int) (l : List Int) : Int := if k ∈ l then (ixZ k l : Int) else -1
theorem ixZ_at {k : Int} : ∀ {l : List Int} {j : Nat}, j < l.length → (∀ i, i < j → l.getD i 0 ≠ k) → l.getD j 0 = k → ixZ k l = j ∧ k ∈ l
  | [], j, hj, _, _ => by simp at hj
  | x :: xs, 0, _, _, h => by
    have h : x = k := by simpa using h
    subst h
    exact ⟨if_pos rfl, by simp⟩
  | x :: xs, j + 1, hj, hn, h => by
    have h0 : x ≠ k := by simpa using hn 0 (by omega)
    obtain ⟨e1, e2⟩ := ixZ_at (k := k) (l := xs) (j := j) (by simpa using hj) (fun i hi => by simpa using hn (i + 1) (by omega)) (by simpa using h)
    exact ⟨by unfold ixZ; rw [if_neg h0, e1], by simp [e2]⟩
theorem ixZ_no {k : Int} {l : List Int} (h : ∀ i, i < l.length → l.getD i 0 ≠ k) : k ∉ l := by
  intro hm
  obtain ⟨i, hi, e⟩ := List.getElem_of_mem hm
  exact h i hi (by rw [getD_at hi]; exact e)
def sFind : Spec := fun args h nx K => ∃ v l k, args = [v, .int .i64 k] ∧ rdL h v l ∧ l.length ≤ 1000000000 ∧ K (.ret (.int .i64 (findI k l))) h nx
theorem sFind_ok : SpecOK Tryd.prog 19 sFind := by
  refine specOK_read2 (fn := Tryd.f19) rfl rfl rfl T_ok (SP := []) noSP 200 _ ?_
  rintro args h nx K ⟨v, l, k, rfl, hv, hn, hk⟩
  obtain ⟨b, c, told⟩ := told_L1 (rest := [.int .i64 k]) hv ⟨trivial, trivial⟩
  refine ⟨_, _, told, by simp [Tryd.f19], fun o => o = .ret (.int .i64 (findI k l)), ?_, ?_⟩
  · rintro o rfl; exact ⟨trivial, hk⟩
  intro cx hcx
  clear hk told hv
  refine W_loop (fun r σ h => ∃ j : Nat, r = l.length - j ∧ j ≤ l.length ∧ (∀ i, i < j → l.getD i 0 ≠ k) ∧ σ = [(0, .slice 2000 0 l.length c), (1, .int .i64 k), (5, .int .i64 j)] ∧ h = [(2000, .ro b l.length 1 (gl l))]) l.length ⟨0, rfl, by omega, fun k hk => by omega, rfl, rfl⟩ (tau []) ⟨rfl, ?_, ?_⟩ 30 ?_
  · repeat' (first | exact rfl | exact trivial | refine ⟨?_, ?_⟩)
  · exact ⟨⟨rfl, rfl, rfl, fun i c hi hc => gl_ro⟩, trivial⟩
  rintro r σ h1 ⟨j, rfl, hj, hall, rfl, rfl⟩
  refine vc_sound (mkE hcx T_ok noSP) 200 _ _ _ 30 ?_
  (refine (?_ : br _ _ _); refine br_dec (fun hlt => ?_) (fun hlt => ?_))
  · have hlt : (j : Int) < (l.length : Int) := hlt
    have hjn : j < l.length := by omega
    have hw : IntKind.i64.wrap ((j : Int) + 1) = ((j + 1 : Nat) : Int) := by simp [IntKind.wrap_i64]; omega
    have hz : addI 0 j = j := by rw [addI_eq, Nat.zero_add]
    (refine (?_ : chk _ _); refine chk_ok (show (decide ((0 : Int) ≤ (j : Int)) && decide ((j : Int) < (l.length : Int))) = true by simp only [Bool.and_eq_true, decide_eq_true_eq]; omega) ?_)
    (refine (?_ : chk _ _); refine chk_ok rfl ?_)
    (refine (?_ : chk _ _); refine chk_ok (Nat.ble_eq_true_of_le (show addI 0 j * 1 + 0 + 1 ≤ l.length * 1 by rw [hz]; omega)) ?_)
    (refine (?_ : br _ _ _); refine br_eq (fun e => ?_) (fun e => ?_))
    · have e : l.getD (addI 0 j) 0 = k := e
      rw [hz] at e
      obtain ⟨e1, e2⟩ := ixZ_at hjn hall e
      exact outI (by unfold findI; rw [if_pos e2, e1])
    · have e : l.getD (addI 0 j) 0 ≠ k := e
      rw [hz] at e
      refine ⟨l.length - (j + 1), _, _, by omega, ⟨j + 1, rfl, by omega, fun i hi => ?_, rfl, rfl⟩, tau [], rfl, ?_, ?_⟩
      · by_cases hkj : i = j
        · subst hkj; exact e
        · exact hall i (by omega)
      · repeat' (first | exact rfl | exact trivial | exact hw | refine ⟨?_, ?_⟩)
      · exact ⟨⟨rfl, rfl, rfl, fun i c hi hc => gl_ro⟩, trivial⟩
  · have hlt : ¬ (j : Int) < (l.length : Int) := hlt
    refine outI ?_
    unfold findI
    rw [if_neg (ixZ_no fun i hi => hall i (by omega))]
theorem intT : appT T 35 := ⟨_, _, rfl, rfl, rfl, rfl, rfl⟩
/-- A list without the number at a place. -/
theorem eraseIdx_app {l : List Int} {i : Nat} : l.take i ++ l.drop (i + 1) = l.eraseIdx i := (List.eraseIdx_eq_take_drop_succ l i).symm
def sWithoutB : Spec := fun args h nx K => ∃ v l, ∃ i : Nat, args = [v, .int .i64 i] ∧ rdL h v l ∧ (∀ tv j n c, v = .slice tv j n c → n ≤ c) ∧ i < l.length ∧ l.length ≤ 1000000 ∧ fd nx h = .gone ∧ newB (l.eraseIdx i) h nx K
theorem sWithoutB_ok : SpecOK Tryd.prog 24 sWithoutB := by
  refine specOK_newB (fn := Tryd.f24) rfl rfl rfl T_ok (SP := []) noSP _ ?_
  rintro args h nx K ⟨v, l, i, rfl, hv, hcap, hi, hn, hg, hk⟩
  obtain ⟨b, c, hc, told⟩ := told_L1c (rest := [.int .i64 i]) hv hcap ⟨trivial, trivial⟩
  refine ⟨hg, _, _, _, told, by simp [Tryd.f24], hk, ?_⟩
  intro cx hcx
  clear hk told hv hcap
  have hw : IntKind.i64.wrap ((i : Int) + 1) = ((i + 1 : Nat) : Int) := by simp [IntKind.wrap_i64]; omega
  refine vc_sound (mkE hcx T_ok noSP) 5 _ _ _ 0 ?_
  refine W_plan (mkE hcx T_ok noSP) 30 9 (.take 1 (.take 2 (.take 3 (.take 5 (.take 6 (.take 7 (.take 8 (.all (.cons 0 (.all (.cons 4 (.all (.cons 9 (.all (.cons 10 (.done) (.nil))) (.nil))) (.nil))) (.nil)))))))))) (by rw [hcx]; exact mix) (by kernel_rfl) 30 ?_
  refine ⟨_, ⟨rfl, rfl⟩, ?_⟩
  refine ⟨_, ⟨rfl, rfl⟩, ?_⟩
  refine ⟨.slice 2000 0 i c, (show chk _ _ from chk_ok (show (decide ((0 : Int) ≤ 0) && decide ((0 : Int) ≤ (i : Int)) && decide ((i : Int) ≤ (c : Int))) = true by simp only [Bool.and_eq_true, decide_eq_true_eq]; omega) ⟨by cases c <;> rfl, rfl⟩), ?_⟩
  refine ⟨_, ⟨rfl, rfl⟩, ?_⟩
  refine ⟨_, ⟨rfl, rfl⟩, ?_⟩
  refine ⟨.int .i64 ((i + 1 : Nat) : Int), ⟨congrArg (V.int .i64) hw, rfl⟩, ?_⟩
  have hbq : (match Nat.beq c (i + 1) with | true => 0 | false => addI 0 (i + 1)) = (if c = i + 1 then 0 else i + 1) := (beq_cases c (i + 1) 0 (addI 0 (i + 1))).trans (by rw [addI_eq, Nat.zero_add])
  refine ⟨.slice 2000 (if c = i + 1 then 0 else i + 1) (l.length - (i + 1)) (c - (i + 1)), (show chk _ _ from chk_ok (show (decide ((0 : Int) ≤ ((i + 1 : Nat) : Int)) && decide (((i + 1 : Nat) : Int) ≤ (l.length : Int))) = true by simp only [Bool.and_eq_true, decide_eq_true_eq]; omega) ⟨congrArg (fun z => V.slice 2000 z (l.length - (i + 1)) (c - (i + 1))) hbq, rfl⟩), ?_⟩
  refine ⟨⟨fun _ => trivial, fun bN => ?_⟩, trivial⟩
  have hd1 : ∀ (hh : Hp), fd 2000 (roH hh) = .ro b l.length 1 (gl l) → rdL hh (.slice 2000 0 i c) (l.take i) := fun hh e => .inr ⟨2000, 0, c, b, l.length, gl l, by rw [List.length_take, Nat.min_eq_left (by omega)], e, by rw [List.length_take]; omega, fun j hj => by
    rw [List.length_take] at hj
    show V.int .i64 (l.getD (0 + j) 0) = V.int .i64 ((l.take i).getD j 0)
    rw [Nat.zero_add, List.getD_eq_getElem?_getD, List.getD_eq_getElem?_getD, List.getElem?_take, if_pos (by omega)]⟩
  have hd2 : ∀ (hh : Hp), fd 2000 (roH hh) = .ro b l.length 1 (gl l) → rdL hh (.slice 2000 (if c = i + 1 then 0 else i + 1) (l.length - (i + 1)) (c - (i + 1))) (l.drop (i + 1)) := fun hh e => .inr ⟨2000, _, _, b, l.length, gl l, by rw [List.length_drop], e, by rw [List.length_drop]; split <;> omega, fun j hj => by
    rw [List.length_drop] at hj
    show V.int .i64 (l.getD (_ + j) 0) = V.int .i64 ((l.drop (i + 1)).getD j 0)
    rw [if_neg (by omega), List.getD_eq_getElem?_getD, List.getD_eq_getElem?_getD, List.getElem?_drop]⟩
  have hd0 : ∀ (hh : Hp) g, fd 30 (roH hh) = .ro (some ⟨bN, 0, none⟩) 0 1 g → rdL hh (.slice 30 0 0 0) [] := fun hh g e => .inr ⟨30, 0, 0, _, 0, g, rfl, e, Nat.le_refl _, fun j hj => absurd hj (by simp)⟩
  have hlen1 : (l.take i).length = i := by rw [List.length_take]; omega
  have hlen2 : (l.drop (i + 1)).length = l.length - (i + 1) := by rw [List.length_drop]
  refine ⟨⟨?_, ?_⟩, trivial⟩
  · refine step_app (v := .slice 30 0 0 0) (u := .slice 2000 0 i c) rfl rfl ?_
    exact app_L intT (hd0 _ _ rfl) (fun _ _ _ _ e => by cases e; exact Nat.le_refl _) (hd1 _ rfl) rfl (by rw [hlen1]; simp; omega) (fun _ => trivial) (fun tv j c e hm hle => by
      have hm' : (l.take i).length ≠ 0 := fun q => hm (List.eq_nil_of_length_eq_zero q)
      cases e
      simp only [List.length_nil] at hle
      omega) (fun _ _ _ _ _ _ _ _ => trivial)
  · refine stepC_app (v := .slice 30 0 0 0) (u := .slice 2000 0 i c) rfl rfl ?_
    have hex : l.take i ++ l.drop (i + 1) = l.eraseIdx i := eraseIdx_app
    refine app_L intT (hd0 _ _ rfl) (fun _ _ _ _ e => by cases e; exact Nat.le_refl _) (hd1 _ rfl) rfl (by rw [hlen1]; simp; omega) (fun hm => ?_) (fun tv j c e hm hle => by
      have hm' : (l.take i).length ≠ 0 := fun q => hm (List.eq_nil_of_length_eq_zero q)
      cases e
      simp only [List.length_nil] at hle
      omega) (fun hm b1 cap1 g1 ty1 p1 p2 p3 => ?_)
    · refine ⟨⟨trivial, ?_⟩, trivial⟩
      refine stepC_app (v := .slice 30 0 0 0) (u := .slice 2000 (if c = i + 1 then 0 else i + 1) (l.length - (i + 1)) (c - (i + 1))) rfl rfl ?_
      rw [hm, List.nil_append] at hex
      refine app_L intT (hd0 _ _ rfl) (fun _ _ _ _ e => by cases e; exact Nat.le_refl _) (hd2 _ rfl) rfl (by rw [hlen2]; simp; omega) (fun hm => ?_) (fun tv j c e hm hle => by
        have hm' : (l.drop (i + 1)).length ≠ 0 := fun q => hm (List.eq_nil_of_length_eq_zero q)
        cases e
        simp only [List.length_nil] at hle
        omega) (fun hm b2 cap2 g2 ty2 p1 p2 p3 => ?_)
      · refine ⟨⟨trivial, ?_⟩, trivial⟩
        rw [hm] at hex
        rw [← hex]
        exact retB.of (t := 30) (l := []) rfl ⟨fun j hj => absurd hj (by simp), fun j hj => absurd hj (by simp)⟩ (by simp) (by simp)
      · refine ⟨⟨trivial, ?_⟩, trivial⟩
        rw [← hex]
        rw [List.nil_append] at p1 p3
        exact retB.of (t := 31) rfl p3 p1 p2
    · refine ⟨⟨trivial, ?_⟩, trivial⟩
      rw [List.nil_append] at p1 p3
      refine stepC_app (v := .slice 31 0 (l.take i).length cap1) (u := .slice 2000 (if c = i + 1 then 0 else i + 1) (l.length - (i + 1)) (c - (i + 1))) rfl rfl ?_
      refine app_L (l := l.take i) intT (.inr ⟨31, 0, cap1, _, cap1, g1, rfl, rfl, by omega, fun j hj => by rw [Nat.zero_add]; exact p3.1 j hj⟩) (fun _ _ _ _ e => by cases e; exact p1) (hd2 _ rfl) rfl (by rw [hlen2, hlen1]; omega) (fun hm => ?_) (fun tv j c e hm hle => ?_) (fun hm b2 cap2 g2 ty2 p1 p2 p3 => ?_)
      · refine ⟨⟨trivial, ?_⟩, trivial⟩
        rw [hm, List.append_nil] at hex
        rw [← hex]
        exact retB.of (t := 31) rfl p3 p1 p2
      · cases e
        refine ⟨b1, cap1, g1, ty1, rfl, by omega, fun g2 q1 q2 => ?_⟩
        refine ⟨⟨trivial, ?_⟩, trivial⟩
        rw [← hex]
        refine retB.of (t := 31) (ty := ty1) (g := g2) rfl ⟨fun j hj => by have := q1 j hj; rw [Nat.zero_add] at this; exact this, fun j hj => ?_⟩ (by rw [List.length_append]; exact hle) p2
        by_cases w : j < (l.take i ++ l.drop (i + 1)).length
        · have := q1 j w
          rw [Nat.zero_add] at this
          rw [this]; trivial
        · rw [q2 j (.inr (by rw [List.length_append] at w; omega))]
          exact p3.2 j hj
      · refine ⟨⟨trivial, ?_⟩, trivial⟩
        rw [← hex]
        exact retB.of (t := 32) rfl p3 p1 p2
def sWithout : Spec := fun args h nx K => ∃ v l, ∃ i : Nat, args = [v, .int .i64 i] ∧ rdL h v l ∧ (∀ tv j n c, v = .slice tv j n c → n ≤ c) ∧ i < l.length ∧ l.length ≤ 1000000 ∧ fd nx h = .gone ∧ newL (l.eraseIdx i) h nx K
theorem sWithout_ok : SpecOK Tryd.prog 24 sWithout := fun c hc args h nx K ⟨v, l, i, e, h1, h2, h3, h4, h5, hk⟩ => sWithoutB_ok c hc args h nx K ⟨v, l, i, e, h1, h2, h3, h4, h5, hk.b⟩
end Go.Proofs.YtiihiifcnkfjoaaDoor.Sx

/-
  The walks of this seat's functions: awake.
-/
namespace Go.Proofs.YtiihiifcnkfjoaaDoor.Sx
open Go Go.Proofs
set_option maxRecDepth 100000
set_option linter.unusedSimpArgs false
set_option linter.unusedVariables false

/-- A piece leaves one of these. -/
theorem W_ex {E : Env} {x : Code} {k : List It} {σ : Sl} {h : Hp} {nx : Nat} {α : Type} (Q : α → Prop) (σ' : α → Sl) (h' : α → Hp) (nx' : Nat) (h1 : W E (.code x :: .fin (fun σ1 h1 _ => ∃ a, Q a ∧ ∃ τ, wk τ σ1 h1 (σ' a) (h' a)) :: k) σ h nx) (h2 : ∀ a, Q a → W E k (σ' a) (h' a) nx') : W E (.code x :: k) σ h nx :=
  W_piece _ h1 fun _ _ _ ⟨a, hq, τ, hw⟩ => W_weak (nx' := nx') τ hw (h2 a hq)

/-- A shelf's rows, by the tags 1 and 2. -/
abbrev eS (bS : Nat) (s : Sh) : Ent := .blk bS 1 8 (gS 2 s.N s.bot s.E) 84
abbrev eA (bA : Nat) (s : Sh) : Ent := .blk bA s.N 5 (gA s.u s.d s.l s.lo s.he) 86
theorem eS_wk {τ : Nat → Nat} {h' : Hp} {b : Nat} {t : Nat} {s : Sh} (ht : t = τ 2 ∧ live h' 2) : wkE τ h' (.blk b 1 8 (gS t s.N s.bot s.E) 84) (eS b s) := ⟨rfl, rfl, rfl, rfl, fun i c hi hc => by obtain rfl : i = 0 := (by omega); exact gS_rn ht⟩
theorem eA_wk {τ : Nat → Nat} {h' : Hp} {b N : Nat} {s : Sh} (hN : s.N = N) : wkE τ h' (.blk b N 5 (gA s.u s.d s.l s.lo s.he) 86) (eA b s) := ⟨rfl, hN.symm, rfl, rfl, fun i c hi hc => gA_rn hc⟩

theorem Inv.mS {s : Sh} {m : Md} (hi : Inv s m m.n) {h : Hp} {bS bA : Nat} (e1 : fd 1 h = eS bS s) (e2 : fd 2 h = eA bA s) : mS h (.ptr 1 0 0) m :=
  ⟨s, hi, shelf.r ⟨1, 2, bS, bA, _, _, rfl, by decide, e1, e2, fun c hc => rfl, fun i c hi hc => rfl⟩⟩
theorem Inv.mut {s : Sh} {m m' : Md} (hi : Inv s m m.n) {h : Hp} {nx : Nat} {K : Out → Hp → Nat → Prop} {v : V} {bS bA : Nat} (e1 : fd 1 h = eS bS s) (e2 : fd 2 h = eA bA s) (hk : ∀ s', s'.N = s.N → Inv s' m' m'.n → K (.ret v) ((1, eS bS s') :: (2, .blk bA s.N 5 (gA s'.u s'.d s'.l s'.lo s'.he) 86) :: h) nx) : mMut h nx K (.ptr 1 0 0) m m' v :=
  ⟨s, 1, 2, bS, bA, _, _, hi, rfl, by decide, e1, e2, ⟨fun c hc => rfl, fun i c hi hc => rfl⟩, hk⟩

end Go.Proofs.YtiihiifcnkfjoaaDoor.Sx

