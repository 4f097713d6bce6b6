import Derived.Test.YtdjekplkejkgdaaSxP1
/-
  The plain law of a shelf, second part: what its cells say of two lists, and how that is kept.
-/
namespace Go.Proofs.Ytdjekplkejkgdaa.Sx
open Go Go.Proofs
set_option maxRecDepth 100000
set_option linter.unusedSimpArgs false
set_option linter.unusedVariables false

/-- A list of a shelf: P, and its bottom Q. -/
structure LI (s : Sh) (g b q : Nat) (P Q : List Nat) : Prop where
  seg : Seg s.d s.u g (P ++ Q) g
  loP : ∀ i ∈ P, s.lo i = false
  loQ : ∀ i ∈ Q, s.lo i = true
  len : Q.length ≤ b
  full : P ≠ [] → Q.length = b
  e0 : s.E (3 * q) = ((P.length + Q.length : Nat) : Int)
  e1 : s.E (3 * q + 1) = (Q.length : Int)
  e2 : s.E (3 * q + 2) = ((hd Q g : Nat) : Int)
  ls : ∀ i ∈ P ++ Q, s.l i = q

/-- What a shelf is: so many nodes, the bottom's size, both lists, which nodes are held. -/
structure Md where
  n : Nat
  b : Nat
  L : Nat → List Nat
  H : Nat → Bool

/-- The shelf s holds m; of the node x nothing is said but that it lies in no list (x = m.n: of each node). -/
structure Inv (s : Sh) (m : Md) (x : Nat) : Prop where
  N : s.N = m.n + 2
  n1 : 1 ≤ m.n
  n2 : m.n ≤ 64
  bot : s.bot = m.b
  b1 : 1 ≤ m.b
  b2 : m.b ≤ m.n
  nd : (m.L 0 ++ m.L 1).Nodup
  lt : ∀ q, q < 2 → ∀ i ∈ m.L q, i < m.n
  ex : ∀ q, q < 2 → x ∉ m.L q
  li : ∀ q, q < 2 → ∃ P Q, m.L q = P ++ Q ∧ LI s (m.n + q) m.b q P Q
  no : ∀ i, i < m.n → i ≠ x → i ∉ m.L 0 → i ∉ m.L 1 → s.l i = -1
  he : ∀ i, i < m.n → s.he i = m.H i
  hg : ∀ q, q < 2 → s.he (m.n + q) = false
  hin : ∀ i, i < m.n → m.H i = true → i ≠ x → i ∈ m.L 0 ∨ i ∈ m.L 1

def Md.set (m : Md) (q : Nat) (l : List Nat) : Md := { m with L := fun j => if j = q then l else m.L j }
theorem Md.set_at {m : Md} {q : Nat} {l : List Nat} : (m.set q l).L q = l := if_pos rfl
theorem Md.set_ne {m : Md} {q j : Nat} {l : List Nat} (h : j ≠ q) : (m.set q l).L j = m.L j := if_neg h

theorem Inv.nq {s : Sh} {m : Md} {x : Nat} (h : Inv s m x) {q : Nat} (hq : q < 2) : (m.L q).Nodup := by
  have := List.nodup_append.1 h.nd
  match q, hq with
  | 0, _ => exact this.1
  | 1, _ => exact this.2.1
theorem Inv.other {s : Sh} {m : Md} {x : Nat} (h : Inv s m x) {q q' : Nat} (hq : q < 2) (hq' : q' < 2) (hne : q ≠ q') {i : Nat} (hi : i ∈ m.L q) : i ∉ m.L q' := by
  have := (List.nodup_append.1 h.nd).2.2
  intro hi'
  obtain rfl | rfl : q = 0 ∨ q = 1 := by omega
  · obtain rfl : q' = 1 := by omega
    exact this i hi i hi' rfl
  · obtain rfl : q' = 0 := by omega
    exact this i hi' i hi rfl
theorem Inv.len {s : Sh} {m : Md} {x : Nat} (h : Inv s m x) : (m.L 0).length + (m.L 1).length ≤ m.n := by
  have := nodup_len h.nd (n := m.n) fun i hi => by
    rcases List.mem_append.1 hi with q | q
    · exact h.lt 0 (by omega) i q
    · exact h.lt 1 (by omega) i q
  simpa using this
theorem Inv.lenq {s : Sh} {m : Md} {x : Nat} (h : Inv s m x) {q : Nat} (hq : q < 2) : (m.L q).length ≤ m.n := by
  have := h.len
  match q, hq with
  | 0, _ => omega
  | 1, _ => omega
theorem Inv.ring {s : Sh} {m : Md} {x : Nat} (h : Inv s m x) {q : Nat} (hq : q < 2) : ((m.n + q) :: m.L q).Nodup := by
  refine List.nodup_cons.2 ⟨fun hi => ?_, h.nq hq⟩
  have := h.lt q hq _ hi
  omega

/-- The other list is as it was. -/
theorem LI.frame {s s' : Sh} {g b q : Nat} {P Q : List Nat} (h : LI s g b q P Q) (hd : ∀ i ∈ g :: (P ++ Q), s'.d i = s.d i) (hu : ∀ i ∈ g :: (P ++ Q), s'.u i = s.u i) (hlo : ∀ i ∈ P ++ Q, s'.lo i = s.lo i)
    (hE : ∀ c, c < 3 → s'.E (3 * q + c) = s.E (3 * q + c)) (hl : ∀ i ∈ P ++ Q, s'.l i = s.l i) : LI s' g b q P Q :=
  ⟨seg_frame hd (fun i hi => hu i (by rcases List.mem_append.1 hi with q | q; exact List.mem_cons_of_mem _ q; rw [show i = g by simpa using q]; simp)) h.seg, fun i hi => (hlo i (by simp [hi])).trans (h.loP i hi), fun i hi => (hlo i (by simp [hi])).trans (h.loQ i hi), h.len, h.full, (hE 0 (by omega)).trans h.e0, (hE 1 (by omega)).trans h.e1, (hE 2 (by omega)).trans h.e2, fun i hi => (hl i hi).trans (h.ls i hi)⟩

theorem wrap_pred {n : Nat} (h : n ≤ 100) : IntKind.i64.wrap (((n + 1 : Nat) : Int) - 1) = (n : Int) := by simp only [IntKind.wrap_i64]; omega
theorem wrap_succ {n : Nat} (h : n ≤ 100) : IntKind.i64.wrap ((n : Int) + 1) = ((n + 1 : Nat) : Int) := by simp only [IntKind.wrap_i64]; omega

theorem out_unl (s : Sh) (k q : Nat) : (outS s k q).u = (unl s k).u ∧ (outS s k q).d = (unl s k).d ∧ (outS s k q).l = s.l ∧ (outS s k q).he = s.he ∧ (outS s k q).bot = s.bot := by
  unfold outS out4 out3 out2 out1 Sh.setE
  simp only
  repeat' split
  all_goals exact ⟨rfl, rfl, rfl, rfl, rfl⟩

/-- A node of the list's upper part is taken out. -/
theorem li_out_high {s : Sh} {g b q k : Nat} {A B Q : List Nat} (h : LI s g b q (A ++ k :: B) Q) (hn : (g :: (A ++ k :: B ++ Q)).Nodup) (hlen : (A ++ k :: B ++ Q).length ≤ 64) : outS s k q = out1 s k q ∧ LI (out1 s k q) g b q (A ++ B) Q := by
  have hlo : s.lo k = false := h.loP k (by simp)
  have hseg := h.seg
  rw [List.append_assoc, List.cons_append] at hseg hn
  have hg : g ∉ A ++ k :: (B ++ Q) := (List.nodup_cons.1 hn).1
  obtain ⟨e1, e2⟩ := seg_at hseg
  have h1 := seg_out hseg hn hg
  refine ⟨if_pos hlo, ?_, fun i hi => h.loP i ?_, h.loQ, h.len, fun _ => h.full (by simp), ?_, ?_, ?_, fun i hi => h.ls i ?_⟩
  · show Seg (updI s.d (s.u k).toNat (s.d k)) (updI s.u (s.d k).toNat (s.u k)) g (A ++ B ++ Q) g
    rw [e1, e2, List.append_assoc]
    exact h1
  · rcases List.mem_append.1 hi with q | q <;> simp [q]
  · show updI s.E (3 * q) (IntKind.i64.wrap (s.E (3 * q) - 1)) (3 * q) = _
    rw [updI_same, h.e0]
    simp only [List.length_append, List.length_cons] at hlen ⊢
    rw [show A.length + (B.length + 1) + Q.length = (A.length + B.length + Q.length) + 1 by omega, wrap_pred (by omega)]
  · show updI s.E (3 * q) _ (3 * q + 1) = _
    rw [updI_ne (by omega), h.e1]
  · show updI s.E (3 * q) _ (3 * q + 2) = _
    rw [updI_ne (by omega), h.e2]
  · simp only [List.mem_append, List.mem_cons] at hi ⊢
    rcases hi with (q | q) | q <;> simp [q]

/-- A list without k, before its bottom is filled up again. -/
theorem out3_at {s : Sh} {g b q k : Nat} {P Q1 Q2 : List Nat} (h : LI s g b q P (Q1 ++ k :: Q2)) (hn : (g :: (P ++ (Q1 ++ k :: Q2))).Nodup) (hlen : (P ++ (Q1 ++ k :: Q2)).length ≤ 64) :
    Seg (out3 s k q).d (out3 s k q).u g (P ++ (Q1 ++ Q2)) g ∧ (out3 s k q).lo = s.lo ∧ (out3 s k q).l = s.l ∧ (out3 s k q).E (3 * q) = ((P.length + (Q1 ++ Q2).length : Nat) : Int) ∧ (out3 s k q).E (3 * q + 1) = ((Q1 ++ Q2).length : Int) ∧ (out3 s k q).E (3 * q + 2) = ((hd (Q1 ++ Q2) g : Nat) : Int) := by
  have hseg := h.seg
  have ea : P ++ (Q1 ++ k :: Q2) = (P ++ Q1) ++ k :: Q2 := (List.append_assoc ..).symm
  rw [ea] at hseg hn
  have hg : g ∉ (P ++ Q1) ++ k :: Q2 := (List.nodup_cons.1 hn).1
  obtain ⟨e1, e2⟩ := seg_at hseg
  have h1 := seg_out hseg hn hg
  have hu : (out3 s k q).u = updI s.u (s.d k).toNat (s.u k) ∧ (out3 s k q).d = updI s.d (s.u k).toNat (s.d k) ∧ (out3 s k q).lo = s.lo ∧ (out3 s k q).l = s.l := by
    unfold out3 out2 out1 Sh.setE unl
    simp only
    split <;> exact ⟨rfl, rfl, rfl, rfl⟩
  obtain ⟨u1, u2, u3, u4⟩ := hu
  have hl1 : (Q1 ++ k :: Q2).length = (Q1 ++ Q2).length + 1 := by simp; omega
  have hlen2 : P.length + (Q1 ++ Q2).length + 1 ≤ 64 := by simp only [List.length_append] at hlen hl1 ⊢; omega
  have E0 : (out1 s k q).E (3 * q) = ((P.length + (Q1 ++ Q2).length : Nat) : Int) := by
    show updI s.E (3 * q) (IntKind.i64.wrap (s.E (3 * q) - 1)) (3 * q) = _
    rw [updI_same, h.e0, hl1, ← Nat.add_assoc, wrap_pred (by omega)]
  have E1 : (out1 s k q).E (3 * q + 1) = (((Q1 ++ Q2).length + 1 : Nat) : Int) := by
    show updI s.E (3 * q) _ (3 * q + 1) = _
    rw [updI_ne (by omega), h.e1, hl1]
  have E2 : (out1 s k q).E (3 * q + 2) = ((hd (Q1 ++ k :: Q2) g : Nat) : Int) := by
    show updI s.E (3 * q) _ (3 * q + 2) = _
    rw [updI_ne (by omega), h.e2]
  have O2 : (out2 s k q).E (3 * q) = ((P.length + (Q1 ++ Q2).length : Nat) : Int) ∧ (out2 s k q).E (3 * q + 1) = (((Q1 ++ Q2).length + 1 : Nat) : Int) ∧ (out2 s k q).E (3 * q + 2) = ((hd (Q1 ++ Q2) g : Nat) : Int) := by
    unfold out2
    simp only
    cases Q1 with
    | nil =>
      have : (out1 s k q).E (3 * q + 2) = (k : Int) := E2
      rw [if_pos this]
      refine ⟨?_, ?_, ?_⟩
      · show updI _ (3 * q + 2) _ (3 * q) = _
        rw [updI_ne (by omega)]; exact E0
      · show updI _ (3 * q + 2) _ (3 * q + 1) = _
        rw [updI_ne (by omega)]; exact E1
      · show updI _ (3 * q + 2) _ (3 * q + 2) = _
        rw [updI_same, e2]; rfl
    | cons y Q1 =>
      have hne : (out1 s k q).E (3 * q + 2) ≠ (k : Int) := by
        rw [E2]
        intro e
        have e : (y : Int) = (k : Int) := e
        have e : y = k := by omega
        subst e
        have := (List.nodup_append.1 (List.nodup_cons.1 hn).2)
        exact this.2.2 y (by simp) y (by simp) rfl
      rw [if_neg hne]
      exact ⟨E0, E1, E2⟩
  obtain ⟨F0, F1, F2⟩ := O2
  refine ⟨?_, u3, u4, ?_, ?_, ?_⟩
  · rw [u1, u2, e1, e2, ← List.append_assoc]
    exact h1
  · show updI (out2 s k q).E (3 * q + 1) _ (3 * q) = _
    rw [updI_ne (by omega)]; exact F0
  · show updI (out2 s k q).E (3 * q + 1) (IntKind.i64.wrap ((out2 s k q).E (3 * q + 1) - 1)) (3 * q + 1) = _
    rw [updI_same, F1, wrap_pred (by omega)]
  · show updI (out2 s k q).E (3 * q + 1) _ (3 * q + 2) = _
    rw [updI_ne (by omega)]; exact F2

/-- A node of the list's bottom is taken out. -/
theorem li_out_low {s : Sh} {g b q k : Nat} {P Q1 Q2 : List Nat} (h : LI s g b q P (Q1 ++ k :: Q2)) (hn : (g :: (P ++ (Q1 ++ k :: Q2))).Nodup) (hlen : (P ++ (Q1 ++ k :: Q2)).length ≤ 64) :
    outS s k q = out4 s k q ∧ (P = [] → out4 s k q = out3 s k q ∧ LI (out3 s k q) g b q [] (Q1 ++ Q2)) ∧
    (∀ (P' : List Nat) (p : Nat), P = P' ++ [p] → edgeUp (out3 s k q) q = (p : Int) ∧ (out3 s k q).E (3 * q + 1) < (out3 s k q).E (3 * q) ∧ (out4 s k q).lo = updB s.lo p true ∧ LI (out4 s k q) g b q P' (p :: (Q1 ++ Q2))) := by
  have hlo : s.lo k = true := h.loQ k (by simp)
  obtain ⟨h1, h2, h3, h4, h5, h6⟩ := out3_at h hn hlen
  have hl1 : (Q1 ++ k :: Q2).length = (Q1 ++ Q2).length + 1 := by simp; omega
  have hlen2 : P.length + (Q1 ++ Q2).length + 1 ≤ 64 := by simp only [List.length_append] at hlen hl1 ⊢; omega
  refine ⟨if_neg (by rw [hlo]; decide), ?_, ?_⟩
  · rintro rfl
    have e4 : out4 s k q = out3 s k q := by
      unfold out4
      simp only
      rw [if_neg (by rw [h4, h5]; simp)]
    refine ⟨e4, h1, fun i hi => by simp at hi, fun i hi => ?_, ?_, fun q => absurd rfl q, h4, h5, h6, fun i hi => ?_⟩
    · rw [h2]; exact h.loQ i (by rcases List.mem_append.1 hi with q | q <;> simp [q])
    · have := h.len; omega
    · rw [h3]
      have hi : i ∈ Q1 ++ Q2 := hi
      exact h.ls i (by rcases List.mem_append.1 hi with q | q <;> simp [q])
  · rintro P' p rfl
    have hup : edgeUp (out3 s k q) q = (p : Int) := by
      unfold edgeUp
      rw [h6, Int.toNat_natCast]
      have hp : pr g (P' ++ [p]) = p := by rw [pr_app]; rfl
      cases hQ : Q1 ++ Q2 with
      | nil =>
        rw [hQ, List.append_nil] at h1
        show (out3 s k q).u g = _
        rw [(seg_ends h1).2, hp]
      | cons y Y =>
        rw [hQ] at h1
        show (out3 s k q).u y = _
        rw [(seg_at h1).1, hp]
    have hlt : (out3 s k q).E (3 * q + 1) < (out3 s k q).E (3 * q) := by rw [h4, h5]; simp; omega
    have e4 : out4 s k q = (let t := out3 s k q; let e := edgeUp t q; { t with E := updI (updI t.E (3 * q + 2) e) (3 * q + 1) (IntKind.i64.wrap (t.E (3 * q + 1) + 1)), lo := updB t.lo e.toNat true }) := if_pos hlt
    have hlo4 : (out4 s k q).lo = updB s.lo p true := by
      rw [e4]
      show updB (out3 s k q).lo (edgeUp (out3 s k q) q).toNat true = _
      rw [h2, hup, Int.toNat_natCast]
    have hnd := (List.nodup_cons.1 hn).2
    refine ⟨hup, hlt, hlo4, ?_⟩
    have hfull := h.full (by simp)
    refine ⟨?_, fun i hi => ?_, fun i hi => ?_, ?_, fun _ => ?_, ?_, ?_, ?_, fun i hi => ?_⟩
    · rw [e4]
      show Seg (out3 s k q).d (out3 s k q).u g (P' ++ (p :: (Q1 ++ Q2))) g
      rw [show P' ++ (p :: (Q1 ++ Q2)) = P' ++ [p] ++ (Q1 ++ Q2) by simp]
      exact h1
    · rw [hlo4]
      have hne : i ≠ p := by
        rintro rfl
        have := List.nodup_append.1 (List.nodup_append.1 hnd).1
        exact this.2.2 i hi i (by simp) rfl
      rw [updB_ne hne]
      exact h.loP i (by simp [hi])
    · rw [hlo4]
      rcases List.mem_cons.1 hi with rfl | hi
      · exact updB_same
      · have : s.lo i = true := h.loQ i (by rcases List.mem_append.1 hi with q | q <;> simp [q])
        unfold updB
        split
        · rfl
        · exact this
    · have := h.len
      simp only [List.length_cons]
      omega
    · simp only [List.length_cons]
      omega
    · rw [e4]
      show updI (updI (out3 s k q).E _ _) (3 * q + 1) _ (3 * q) = _
      rw [updI_ne (by omega), updI_ne (by omega), h4]
      simp only [List.length_append, List.length_cons, List.length_nil]
      congr 1
      omega
    · rw [e4]
      show updI _ (3 * q + 1) (IntKind.i64.wrap ((out3 s k q).E (3 * q + 1) + 1)) (3 * q + 1) = _
      rw [updI_same, h5, wrap_succ (by omega)]
      rfl
    · rw [e4]
      show updI (updI (out3 s k q).E (3 * q + 2) (edgeUp (out3 s k q) q)) (3 * q + 1) _ (3 * q + 2) = _
      rw [updI_ne (by omega), updI_same, hup]
      rfl
    · rw [e4]
      show (out3 s k q).l i = _
      rw [h3]
      refine h.ls i ?_
      simp only [List.mem_append, List.mem_cons] at hi ⊢
      rcases hi with q | q | q | q <;> simp [q]

end Go.Proofs.Ytdjekplkejkgdaa.Sx
