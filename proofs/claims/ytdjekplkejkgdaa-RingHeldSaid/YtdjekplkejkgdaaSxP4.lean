import Derived.Test.YtdjekplkejkgdaaSxP3
/-
  The plain law of a shelf, fourth part: its functions, told of two lists.
-/
namespace Go.Proofs.Ytdjekplkejkgdaa.Sx
open Go Go.Proofs
set_option maxRecDepth 100000
set_option linter.unusedSimpArgs false
set_option linter.unusedVariables false
set_option linter.constructorNameAsVariable false

/-- Which list a node lies in. -/
def Md.at (m : Md) (k : Nat) : Option Nat := if k ∈ m.L 0 then some 0 else if k ∈ m.L 1 then some 1 else none
def Md.out (m : Md) (k : Nat) : Md := match m.at k with | some q => m.set q ((m.L q).erase k) | none => m
def Md.front (m : Md) (q k : Nat) : Md := (m.out k).set q (k :: (m.out k).L q)
def Md.isN (m : Md) (k : Int) : Bool := decide (0 ≤ k) && decide (k < m.n)
def Md.lies (m : Md) (k : Int) : Int := if m.isN k = false then 1 else if m.at k.toNat = none then 3 else 0
def Md.frontI (m : Md) (L k : Int) : Md := if rightB L = true ∧ m.isN k = true then m.front L.toNat k.toNat else m
def Md.frontC (m : Md) (L k : Int) : Int := if rightB L = true ∧ m.isN k = true then 0 else 1
def Md.dropI (m : Md) (k : Int) : Md := if m.lies k = 0 then { m.out k.toNat with H := updB m.H k.toNat false } else m
def Md.holdI (m : Md) (k : Int) (b : Bool) : Md := if m.lies k = 0 then { m with H := updB m.H k.toNat b } else m

theorem Md.at_some {m : Md} {k q : Nat} (h : m.at k = some q) : q < 2 ∧ k ∈ m.L q := by
  unfold Md.at at h
  split at h
  · injection h with h; subst h; exact ⟨by omega, by assumption⟩
  · split at h
    · injection h with h; subst h; exact ⟨by omega, by assumption⟩
    · cases h
theorem Md.at_none {m : Md} {k : Nat} (h : m.at k = none) : k ∉ m.L 0 ∧ k ∉ m.L 1 := by
  unfold Md.at at h
  split at h
  · cases h
  · split at h
    · cases h
    · exact ⟨by assumption, by assumption⟩
theorem Inv.at_l {s : Sh} {m : Md} (h : Inv s m m.n) {k : Nat} (hk : k < m.n) : s.l k = (match m.at k with | some q => (q : Int) | none => -1) := by
  cases e : m.at k with
  | some q =>
    obtain ⟨hq, hm⟩ := Md.at_some e
    obtain ⟨P, Q, hL, hli⟩ := h.li q hq
    exact hli.ls k (by rw [← hL]; exact hm)
  | none =>
    obtain ⟨h0, h1⟩ := Md.at_none e
    exact h.no k hk (by omega) h0 h1
theorem Inv.sn {s : Sh} {m : Md} {x : Nat} (h : Inv s m x) : s.n = m.n := by unfold Sh.n; rw [h.N, IntKind.wrap_i64]; have := h.n2; omega
theorem Inv.isB {s : Sh} {m : Md} {x : Nat} (h : Inv s m x) (k : Int) : isB s k = m.isN k := by unfold Sx.isB Md.isN; rw [h.sn]
theorem isN_nat {m : Md} {k : Int} (h : m.isN k = true) : ∃ j : Nat, k = j ∧ j < m.n := by
  unfold Md.isN at h
  simp only [Bool.and_eq_true, decide_eq_true_eq] at h
  exact ⟨k.toNat, by omega, by omega⟩
theorem right_nat {L : Int} (h : rightB L = true) : ∃ q : Nat, L = q ∧ q < 2 := by
  unfold rightB at h
  simp only [Bool.and_eq_true, decide_eq_true_eq] at h
  exact ⟨L.toNat, by omega, by omega⟩
theorem Inv.lies {s : Sh} {m : Md} (h : Inv s m m.n) (k : Int) : liesI s k = m.lies k := by
  unfold liesI Md.lies
  rw [h.isB]
  cases e : m.isN k with
  | false => simp
  | true =>
    obtain ⟨j, rfl, hj⟩ := isN_nat e
    have hl := h.at_l hj
    simp only [Int.toNat_natCast]
    obtain e2 | ⟨q, e2⟩ : m.at j = none ∨ ∃ q, m.at j = some q := by cases m.at j <;> simp
    · rw [e2] at hl
      have hl : s.l j = -1 := hl
      have h0 : s.l j < 0 := by omega
      simp [h0, e2]
    · rw [e2] at hl
      have hl : s.l j = (q : Int) := hl
      have h0 : ¬ s.l j < 0 := by omega
      simp [h0, e2]
theorem Inv.small {s : Sh} {m : Md} {x : Nat} (h : Inv s m x) : 3 ≤ s.N ∧ s.N ≤ 1000 := by have := h.N; have := h.n1; have := h.n2; omega

theorem out_at {s : Sh} {m : Md} {k q : Nat} (e : m.at k = some q) : m.out k = m.set q ((m.L q).erase k) := by unfold Md.out; rw [e]
theorem out_no {m : Md} {k : Nat} (e : m.at k = none) : m.out k = m := by unfold Md.out; rw [e]

/-- A node goes out of its list, if it lies in one. -/
theorem off_inv {s : Sh} {m : Md} {k : Nat} (h : Inv s m m.n) (hk : k < m.n) : (0 ≤ s.l k → outOK s k (s.l k).toNat) ∧ ∃ x, (x = k ∨ x = m.n) ∧ Inv (offS s k) (m.out k) x ∧ k ∉ (m.out k).L 0 ∧ k ∉ (m.out k).L 1 ∧ (m.out k).n = m.n := by
  have hl := h.at_l hk
  cases e : m.at k with
  | some q =>
    obtain ⟨hq, hm⟩ := Md.at_some e
    rw [e] at hl
    have hl : s.l k = (q : Int) := hl
    have hi := out_inv h hq hm
    refine ⟨fun _ => by rw [hl, Int.toNat_natCast]; exact (out_r h hq hm).ok, k, .inl rfl, ?_, ?_, ?_, by rw [out_at (s := s) e]; rfl⟩
    · unfold offS
      rw [if_pos (by omega), hl, Int.toNat_natCast, out_at (s := s) e]
      exact hi
    · rw [out_at (s := s) e]; exact hi.ex 0 (by omega)
    · rw [out_at (s := s) e]; exact hi.ex 1 (by omega)
  | none =>
    rw [e] at hl
    have hl : s.l k = -1 := hl
    obtain ⟨h0, h1⟩ := Md.at_none e
    refine ⟨fun q => by omega, m.n, .inr rfl, ?_, ?_, ?_, by rw [out_no e]⟩
    · unfold offS
      rw [if_neg (by omega), out_no e]
      exact h
    · rw [out_no e]; exact h0
    · rw [out_no e]; exact h1

theorem front_inv {s : Sh} {m : Md} (h : Inv s m m.n) (L k : Int) : preFront [.int .i64 L, .int .i64 k] s (frontS s L k) (.int .i64 (m.frontC L k)) ∧ Inv (frontS s L k) (m.frontI L k) m.n ∧ (m.frontI L k).n = m.n := by
  have hm : mayF s L k = true ↔ (rightB L = true ∧ m.isN k = true) := by
    unfold mayF
    rw [h.isB, Bool.and_eq_true]
    rfl
  by_cases e : rightB L = true ∧ m.isN k = true
  · obtain ⟨q, rfl, hq⟩ := right_nat e.1
    obtain ⟨j, rfl, hj⟩ := isN_nat e.2
    obtain ⟨o1, x, hx, o2, o3, o4, o5⟩ := off_inv h hj
    have hin := in_inv o2 hq (by rw [o5]; exact hj) (by rw [o5]; exact hx) o3 o4
    have hgd : gd (offS s j) q = gd s q := by unfold gd; rw [offS_N]
    have hfS : frontS s q j = inS (offS s j) q j := by unfold frontS; rw [if_pos (hm.2 e)]; rfl
    have hfI : m.frontI q j = m.front q j := by unfold Md.frontI; rw [if_pos e]; rfl
    refine ⟨⟨q, j, rfl, h.small.1, h.small.2, fun _ => ⟨o1, ?_⟩, rfl, ?_⟩, ?_, ?_⟩
    · show 0 ≤ (offS s j).d (gd s q) ∧ (offS s j).d (gd s q) < s.N
      have := hin.1
      rw [hgd, offS_N] at this
      exact this
    · unfold Md.frontC; rw [if_pos e, if_pos (hm.2 e)]
    · rw [hfS, hfI]
      have := hin.2
      rw [o5] at this
      exact this
    · rw [hfI]
      exact o5
  · have hmf : ¬ mayF s L k = true := fun q => e (hm.1 q)
    have hfI : m.frontI L k = m := if_neg e
    refine ⟨⟨L, k, rfl, h.small.1, h.small.2, fun q => absurd q hmf, rfl, ?_⟩, ?_, by rw [hfI]⟩
    · unfold Md.frontC; rw [if_neg e, if_neg hmf]
    · rw [hfI]; unfold frontS; rw [if_neg hmf]; exact h

theorem hold_inv {s : Sh} {m : Md} (h : Inv s m m.n) (k : Int) (b : Bool) : preHold [.int .i64 k, .bool b] s (holdS s k b) (.int .i64 (m.lies k)) ∧ Inv (holdS s k b) (m.holdI k b) m.n ∧ (m.holdI k b).n = m.n := by
  have hl := h.lies k
  refine ⟨⟨k, b, rfl, by rw [h.sn, h.N]; omega, rfl, by rw [hl]⟩, ?_⟩
  unfold holdS Md.holdI
  rw [hl]
  by_cases e : m.lies k = 0
  · rw [if_pos e, if_pos e]
    have hN : m.isN k = true := by
      unfold Md.lies at e
      cases q : m.isN k with
      | true => rfl
      | false => rw [if_pos q] at e; cases e
    have hat : m.at k.toNat ≠ none := by
      intro q
      unfold Md.lies at e
      rw [if_neg (by rw [hN]; decide), if_pos q] at e
      cases e
    obtain ⟨j, rfl, hj⟩ := isN_nat hN
    rw [Int.toNat_natCast] at hat ⊢
    refine ⟨⟨h.N, h.n1, h.n2, h.bot, h.b1, h.b2, h.nd, h.lt, h.ex, fun q hq => ?_, h.no, fun i hi => ?_, fun q hq => ?_, fun i hi hH hne => ?_⟩, rfl⟩
    · obtain ⟨P, Q, hL, hli⟩ := h.li q hq
      exact ⟨P, Q, hL, ⟨hli.seg, hli.loP, hli.loQ, hli.len, hli.full, hli.e0, hli.e1, hli.e2, hli.ls⟩⟩
    · show updB s.he j b i = updB m.H j b i
      unfold updB
      split
      · rfl
      · exact h.he i hi
    · show updB s.he j b (m.n + q) = false
      rw [updB_ne (by omega)]
      exact h.hg q hq
    · by_cases q : i = j
      · subst q
        cases e2 : m.at i with
        | none => exact absurd e2 hat
        | some q =>
          obtain ⟨hq, hm⟩ := Md.at_some e2
          obtain rfl | rfl : q = 0 ∨ q = 1 := by omega
          · exact .inl hm
          · exact .inr hm
      · refine h.hin i hi ?_ hne
        have : updB m.H j b i = true := hH
        rw [updB_ne q] at this
        exact this
  · rw [if_neg e, if_neg e]
    exact ⟨h, rfl⟩

theorem drop_inv {s : Sh} {m : Md} (h : Inv s m m.n) (k : Int) : preDrop [.int .i64 k] s (dropS s k) (.int .i64 (m.lies k)) ∧ Inv (dropS s k) (m.dropI k) m.n ∧ (m.dropI k).n = m.n := by
  have hl := h.lies k
  have both : m.lies k = 0 → ∃ j q : Nat, k = j ∧ j < m.n ∧ m.at j = some q := by
    intro e
    have hN : m.isN k = true := by
      unfold Md.lies at e
      cases q : m.isN k with
      | true => rfl
      | false => rw [if_pos q] at e; cases e
    obtain ⟨j, rfl, hj⟩ := isN_nat hN
    cases e2 : m.at j with
    | some q => exact ⟨j, q, rfl, hj, e2⟩
    | none =>
      unfold Md.lies at e
      rw [if_neg (by rw [hN]; decide), Int.toNat_natCast, if_pos e2] at e
      cases e
  refine ⟨⟨k, rfl, h.small.1, h.small.2, fun e => ?_, rfl, by rw [hl]⟩, ?_⟩
  · rw [hl] at e
    obtain ⟨j, q, rfl, hj, e2⟩ := both e
    obtain ⟨hq, hm⟩ := Md.at_some e2
    have hlj := h.at_l hj
    rw [e2] at hlj
    have hlj : s.l j = (q : Int) := hlj
    rw [Int.toNat_natCast, hlj, Int.toNat_natCast]
    exact (out_r h hq hm).ok
  · unfold dropS Md.dropI
    rw [hl]
    by_cases e : m.lies k = 0
    · rw [if_pos e, if_pos e]
      obtain ⟨j, q, rfl, hj, e2⟩ := both e
      obtain ⟨hq, hm⟩ := Md.at_some e2
      have hlj := h.at_l hj
      rw [e2] at hlj
      have hlj : s.l j = (q : Int) := hlj
      rw [Int.toNat_natCast, hlj, Int.toNat_natCast, out_at (s := s) e2]
      have hi := out_inv h hq hm
      have hjx : ∀ j', j' < 2 → ∀ i ∈ (m.n + j') :: (m.set q ((m.L q).erase j)).L j', i ≠ j := by
        rintro j' hj' i hi' rfl
        rcases List.mem_cons.1 hi' with w | w
        · omega
        · exact hi.ex j' hj' w
      refine ⟨⟨hi.N, h.n1, h.n2, hi.bot, h.b1, h.b2, hi.nd, hi.lt, fun j' hj' w => ?_, fun j' hj' => ?_, fun i hi' hne g0 g1 => ?_, fun i hi' => ?_, fun j' hj' => ?_, fun i hi' hH hne => ?_⟩, rfl⟩
      · have := hi.lt j' hj' _ w
        exact absurd this (Nat.lt_irrefl _)
      · obtain ⟨P, Q, hL, hli⟩ := hi.li j' hj'
        refine ⟨P, Q, hL, hli.frame (fun i hi' => ?_) (fun i hi' => ?_) (fun i hi' => ?_) (fun c hc => rfl) (fun i hi' => ?_)⟩
        · exact updI_ne (hjx j' hj' i (by rw [hL]; exact hi'))
        · exact updI_ne (hjx j' hj' i (by rw [hL]; exact hi'))
        · exact updB_ne (hjx j' hj' i (by rw [hL]; exact List.mem_cons_of_mem _ hi'))
        · exact updI_ne (hjx j' hj' i (by rw [hL]; exact List.mem_cons_of_mem _ hi'))
      · show updI (outS s j q).l j (-1) i = -1
        by_cases w : i = j
        · subst w; exact updI_same
        · rw [updI_ne w]; exact hi.no i hi' w g0 g1
      · show updB (outS s j q).he j false i = updB m.H j false i
        unfold updB
        split
        · rfl
        · exact hi.he i hi'
      · show updB (outS s j q).he j false (m.n + j') = false
        rw [updB_ne (by omega)]
        exact hi.hg j' hj'
      · have hH : updB m.H j false i = true := hH
        by_cases w : i = j
        · subst w; rw [updB_same] at hH; cases hH
        · rw [updB_ne w] at hH
          exact hi.hin i hi' hH w
    · rw [if_neg e, if_neg e]
      exact ⟨h, rfl⟩

/-- A new shelf is empty. -/
def Md.new (n b : Nat) : Md := ⟨n, b, fun _ => [], fun _ => false⟩
theorem new_inv {n b : Nat} (h : mayB n b = true) : Inv (newS n b) (Md.new n b) n := by
  unfold mayB at h
  simp only [Bool.and_eq_true, decide_eq_true_eq] at h
  refine ⟨rfl, by show 1 ≤ n; omega, by show n ≤ 64; omega, rfl, by show 1 ≤ b; omega, by show b ≤ n; omega, by simp [Md.new], fun q hq i hi => by simp [Md.new] at hi, fun q hq hi => by simp [Md.new] at hi, fun q hq => ⟨[], [], rfl, ?_⟩, fun i _ _ _ _ => rfl, fun i _ => rfl, fun q _ => rfl, fun i _ hH => by cases hH⟩
  refine ⟨⟨?_, ?_⟩, fun i hi => by simp at hi, fun i hi => by simp at hi, by simp, fun w => absurd rfl w, ?_, ?_, ?_, fun i hi => by simp at hi⟩
  · show (if n ≤ n + q then ((n + q : Nat) : Int) else 0) = _
    rw [if_pos (by omega)]; rfl
  · show (if n ≤ n + q then ((n + q : Nat) : Int) else 0) = _
    rw [if_pos (by omega)]; rfl
  · obtain rfl | rfl : q = 0 ∨ q = 1 := by omega
    · rfl
    · rfl
  · obtain rfl | rfl : q = 0 ∨ q = 1 := by omega
    · rfl
    · rfl
  · obtain rfl | rfl : q = 0 ∨ q = 1 := by omega
    · rfl
    · show ((n : Int) + 1) = ((n + 1 : Nat) : Int); omega
end Go.Proofs.Ytdjekplkejkgdaa.Sx
