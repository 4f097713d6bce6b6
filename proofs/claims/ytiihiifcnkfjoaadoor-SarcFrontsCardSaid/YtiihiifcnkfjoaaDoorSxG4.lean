import Derived.Test.YtiihiifcnkfjoaaDoorSxG3
/-
  The plain law of a shelf, first part: chains of nodes.
-/
namespace Go.Proofs.YtiihiifcnkfjoaaDoor.Sx
open Go Go.Proofs
set_option maxRecDepth 100000
set_option linter.unusedSimpArgs false
set_option linter.unusedVariables false

theorem updI_same {f : Nat → Int} {a : Nat} {v : Int} : updI f a v a = v := if_pos rfl
theorem updI_ne {f : Nat → Int} {a : Nat} {v : Int} {i : Nat} (h : i ≠ a) : updI f a v i = f i := if_neg h
theorem updB_same {f : Nat → Bool} {a : Nat} {v : Bool} : updB f a v a = v := if_pos rfl
theorem updB_ne {f : Nat → Bool} {a : Nat} {v : Bool} {i : Nat} (h : i ≠ a) : updB f a v i = f i := if_neg h

/-- From a over xs to b, down and up. -/
def Seg (d u : Nat → Int) : Nat → List Nat → Nat → Prop
  | a, [], b => d a = b ∧ u b = a
  | a, x :: xs, b => (d a = x ∧ u x = a) ∧ Seg d u x xs b
/-- The last of a and those behind it; the first of those ahead of b, and b. -/
def pr : Nat → List Nat → Nat
  | a, [] => a
  | _, x :: xs => pr x xs
def hd : List Nat → Nat → Nat
  | [], b => b
  | x :: _, _ => x
theorem pr_mem : ∀ (a : Nat) (l : List Nat), pr a l ∈ a :: l
  | a, [] => by simp [pr]
  | a, x :: xs => by
    have := pr_mem x xs
    unfold pr
    exact List.mem_cons_of_mem _ this
theorem hd_mem : ∀ (l : List Nat) (b : Nat), hd l b ∈ l ++ [b]
  | [], b => by simp [hd]
  | x :: xs, b => by simp [hd]
theorem pr_app : ∀ (a : Nat) (l m : List Nat), pr a (l ++ m) = pr (pr a l) m
  | a, [], m => rfl
  | a, x :: xs, m => pr_app x xs m
theorem hd_app : ∀ (l m : List Nat) (b : Nat), hd (l ++ m) b = hd l (hd m b)
  | [], m, b => rfl
  | x :: xs, m, b => rfl

theorem seg_frame {d u d' u' : Nat → Int} {b : Nat} : ∀ {xs : List Nat} {a : Nat}, (∀ i ∈ a :: xs, d' i = d i) → (∀ i ∈ xs ++ [b], u' i = u i) → Seg d u a xs b → Seg d' u' a xs b
  | [], a, hd, hu, ⟨h1, h2⟩ => ⟨(hd a (by simp)).trans h1, (hu b (by simp)).trans h2⟩
  | x :: xs, a, hd, hu, ⟨⟨h1, h2⟩, h3⟩ => ⟨⟨(hd a (by simp)).trans h1, (hu x (by simp)).trans h2⟩, seg_frame (fun i hi => hd i (List.mem_cons_of_mem _ hi)) (fun i hi => hu i (List.mem_cons_of_mem _ hi)) h3⟩
theorem seg_app {d u : Nat → Int} {b : Nat} : ∀ {A : List Nat} {a : Nat} {k : Nat} {B : List Nat}, Seg d u a (A ++ k :: B) b ↔ Seg d u a A k ∧ Seg d u k B b
  | [], a, k, B => Iff.rfl
  | x :: A, a, k, B => by
    show (_ ∧ Seg d u x (A ++ k :: B) b) ↔ (_ ∧ Seg d u x A k) ∧ _
    rw [seg_app, and_assoc, and_assoc, and_assoc]
theorem seg_ends {d u : Nat → Int} : ∀ {xs : List Nat} {a b : Nat}, Seg d u a xs b → d a = hd xs b ∧ u b = pr a xs
  | [], a, b, h => h
  | x :: xs, a, b, ⟨⟨h1, h2⟩, h3⟩ => ⟨h1, (seg_ends h3).2⟩
/-- A node between others: its neighbours. -/
theorem seg_at {d u : Nat → Int} {A B : List Nat} {a b k : Nat} (h : Seg d u a (A ++ k :: B) b) : u k = pr a A ∧ d k = hd B b := by
  obtain ⟨h1, h2⟩ := seg_app.1 h
  exact ⟨(seg_ends h1).2, (seg_ends h2).1⟩

theorem seg_out {d u : Nat → Int} {k b : Nat} {B : List Nat} : ∀ {A : List Nat} {a : Nat}, Seg d u a (A ++ k :: B) b → (a :: (A ++ k :: B)).Nodup → b ∉ A ++ k :: B →
    Seg (updI d (pr a A) (hd B b)) (updI u (hd B b) (pr a A)) a (A ++ B) b
  | [], a, h, hn, hb => by
    obtain ⟨⟨h1, h2⟩, h3⟩ : (d a = k ∧ u k = a) ∧ Seg d u k B b := h
    simp only [List.nil_append, List.nodup_cons, List.mem_cons, not_or] at hn hb
    cases B with
    | nil => exact ⟨updI_same, updI_same⟩
    | cons y B =>
      obtain ⟨⟨h4, h5⟩, h6⟩ : (d k = y ∧ u y = k) ∧ Seg d u y B b := h3
      simp only [List.nodup_cons, List.mem_cons, not_or] at hn hb
      refine ⟨⟨updI_same, updI_same⟩, seg_frame (fun i hi => updI_ne ?_) (fun i hi => updI_ne ?_) h6⟩
      · rintro rfl
        rcases List.mem_cons.1 hi with e | e
        · exact hn.1.2.1 e
        · exact hn.1.2.2 e
      · rintro rfl
        rcases List.mem_append.1 hi with e | e
        · exact hn.2.2.1 e
        · have e : i = b := by simpa using e
          exact hb.2.1 e.symm
  | z :: A, a, h, hn, hb => by
    obtain ⟨⟨h1, h2⟩, h3⟩ : (d a = z ∧ u z = a) ∧ Seg d u z (A ++ k :: B) b := h
    have hn' : (z :: (A ++ k :: B)).Nodup := (List.nodup_cons.1 hn).2
    have hb' : b ∉ A ++ k :: B := fun q => hb (List.mem_cons_of_mem _ q)
    have ih := seg_out (A := A) h3 hn' hb'
    have ha : a ∉ z :: (A ++ k :: B) := (List.nodup_cons.1 hn).1
    refine ⟨⟨(updI_ne ?_).trans h1, (updI_ne ?_).trans h2⟩, ih⟩
    · intro e
      have := pr_mem z A
      rw [show pr a (z :: A) = pr z A from rfl] at e
      rw [← e] at this
      rcases List.mem_cons.1 this with q | q
      · exact ha (by rw [q]; simp)
      · exact ha (by simp [q])
    · intro e
      have := hd_mem B b
      rw [← e] at this
      rcases List.mem_append.1 this with q | q
      · exact (List.nodup_cons.1 hn').1 (by simp [q])
      · have q : z = b := by simpa using q
        exact hb (by simp [q])

theorem seg_in {d u : Nat → Int} {k g : Nat} {L : List Nat} (h : Seg d u g L g) (hk : k ∉ g :: L) (hn : (g :: L).Nodup) :
    Seg (updI (updI d k (hd L g)) g k) (updI (updI u k g) (hd L g) k) g (k :: L) g := by
  simp only [List.mem_cons, not_or] at hk
  have hx : hd L g ≠ k := by
    intro e
    have := hd_mem L g
    rw [e] at this
    rcases List.mem_append.1 this with q | q
    · exact hk.2 q
    · exact hk.1 (by simpa using q)
  refine ⟨⟨updI_same, (updI_ne (Ne.symm hx)).trans updI_same⟩, ?_⟩
  cases L with
  | nil => exact ⟨(updI_ne hk.1).trans updI_same, updI_same⟩
  | cons y L =>
    obtain ⟨⟨h1, h2⟩, h3⟩ : (d g = y ∧ u y = g) ∧ Seg d u y L g := h
    simp only [List.nodup_cons, List.mem_cons, not_or] at hn hk
    refine ⟨⟨(updI_ne hk.1).trans updI_same, updI_same⟩, seg_frame (fun i hi => ?_) (fun i hi => ?_) h3⟩
    · have h4 : i ≠ g := by rintro rfl; rcases List.mem_cons.1 hi with q | q; exact hn.1.1 q; exact hn.1.2 q
      have h5 : i ≠ k := by rintro rfl; rcases List.mem_cons.1 hi with q | q; exact hk.2.1 q; exact hk.2.2 q
      rw [updI_ne h4, updI_ne h5]
    · have h4 : i ≠ y := by
        rintro rfl
        rcases List.mem_append.1 hi with q | q
        · exact hn.2.1 q
        · have q : i = g := by simpa using q
          exact hn.1.1 q.symm
      have h5 : i ≠ k := by
        rintro rfl
        rcases List.mem_append.1 hi with q | q
        · exact hk.2.2 q
        · exact hk.1 (by simpa using q)
      show updI (updI u k g) y k i = _
      rw [updI_ne h4, updI_ne h5]

/-- So many numbers below n. -/
theorem nodup_len : ∀ {n : Nat} {l : List Nat}, l.Nodup → (∀ i ∈ l, i < n) → l.length ≤ n
  | 0, [], _, _ => by simp
  | 0, x :: l, _, h => absurd (h x (by simp)) (by omega)
  | n + 1, l, hn, h => by
    have h1 : (l.erase n).length ≤ n := nodup_len (hn.erase n) fun i hi => by
      have h2 := h i (List.mem_of_mem_erase hi)
      have h3 : i ≠ n := by rintro rfl; exact (List.Nodup.not_mem_erase hn) hi
      omega
    by_cases hm : n ∈ l
    · have := List.length_erase_of_mem hm
      omega
    · rw [List.erase_of_not_mem hm] at h1
      omega
end Go.Proofs.YtiihiifcnkfjoaaDoor.Sx

/-
  The plain law of a shelf, second part: what its cells say of two lists, and how that is kept.
-/
namespace Go.Proofs.YtiihiifcnkfjoaaDoor.Sx
open Go Go.Proofs
set_option maxRecDepth 100000
set_option linter.unusedSimpArgs false
set_option linter.unusedVariables false

/-- A list of a shelf: P, and its bottom Q. -/
structure LI (s : Sh) (g b q : Nat) (P Q : List Nat) : Prop where
  seg : Seg s.d s.u g (P ++ Q) g
  loP : ∀ i ∈ P, s.lo i = false
  loQ : ∀ i ∈ Q, s.lo i = true
  len : Q.length ≤ b
  full : P ≠ [] → Q.length = b
  e0 : s.E (3 * q) = ((P.length + Q.length : Nat) : Int)
  e1 : s.E (3 * q + 1) = (Q.length : Int)
  e2 : s.E (3 * q + 2) = ((hd Q g : Nat) : Int)
  ls : ∀ i ∈ P ++ Q, s.l i = q

/-- What a shelf is: so many nodes, the bottom's size, both lists, which nodes are held. -/
structure Md where
  n : Nat
  b : Nat
  L : Nat → List Nat
  H : Nat → Bool

/-- The shelf s holds m; of the node x nothing is said but that it lies in no list (x = m.n: of each node). -/
structure Inv (s : Sh) (m : Md) (x : Nat) : Prop where
  N : s.N = m.n + 2
  n1 : 1 ≤ m.n
  n2 : m.n ≤ 64
  bot : s.bot = m.b
  b1 : 1 ≤ m.b
  b2 : m.b ≤ m.n
  nd : (m.L 0 ++ m.L 1).Nodup
  lt : ∀ q, q < 2 → ∀ i ∈ m.L q, i < m.n
  ex : ∀ q, q < 2 → x ∉ m.L q
  li : ∀ q, q < 2 → ∃ P Q, m.L q = P ++ Q ∧ LI s (m.n + q) m.b q P Q
  no : ∀ i, i < m.n → i ≠ x → i ∉ m.L 0 → i ∉ m.L 1 → s.l i = -1
  he : ∀ i, i < m.n → s.he i = m.H i
  hg : ∀ q, q < 2 → s.he (m.n + q) = false
  hin : ∀ i, i < m.n → m.H i = true → i ≠ x → i ∈ m.L 0 ∨ i ∈ m.L 1

def Md.set (m : Md) (q : Nat) (l : List Nat) : Md := { m with L := fun j => if j = q then l else m.L j }
theorem Md.set_at {m : Md} {q : Nat} {l : List Nat} : (m.set q l).L q = l := if_pos rfl
theorem Md.set_ne {m : Md} {q j : Nat} {l : List Nat} (h : j ≠ q) : (m.set q l).L j = m.L j := if_neg h

theorem Inv.nq {s : Sh} {m : Md} {x : Nat} (h : Inv s m x) {q : Nat} (hq : q < 2) : (m.L q).Nodup := by
  have := List.nodup_append.1 h.nd
  match q, hq with
  | 0, _ => exact this.1
  | 1, _ => exact this.2.1
theorem Inv.other {s : Sh} {m : Md} {x : Nat} (h : Inv s m x) {q q' : Nat} (hq : q < 2) (hq' : q' < 2) (hne : q ≠ q') {i : Nat} (hi : i ∈ m.L q) : i ∉ m.L q' := by
  have := (List.nodup_append.1 h.nd).2.2
  intro hi'
  obtain rfl | rfl : q = 0 ∨ q = 1 := by omega
  · obtain rfl : q' = 1 := by omega
    exact this i hi i hi' rfl
  · obtain rfl : q' = 0 := by omega
    exact this i hi' i hi rfl
theorem Inv.len {s : Sh} {m : Md} {x : Nat} (h : Inv s m x) : (m.L 0).length + (m.L 1).length ≤ m.n := by
  have := nodup_len h.nd (n := m.n) fun i hi => by
    rcases List.mem_append.1 hi with q | q
    · exact h.lt 0 (by omega) i q
    · exact h.lt 1 (by omega) i q
  simpa using this
theorem Inv.lenq {s : Sh} {m : Md} {x : Nat} (h : Inv s m x) {q : Nat} (hq : q < 2) : (m.L q).length ≤ m.n := by
  have := h.len
  match q, hq with
  | 0, _ => omega
  | 1, _ => omega
theorem Inv.ring {s : Sh} {m : Md} {x : Nat} (h : Inv s m x) {q : Nat} (hq : q < 2) : ((m.n + q) :: m.L q).Nodup := by
  refine List.nodup_cons.2 ⟨fun hi => ?_, h.nq hq⟩
  have := h.lt q hq _ hi
  omega

/-- The other list is as it was. -/
theorem LI.frame {s s' : Sh} {g b q : Nat} {P Q : List Nat} (h : LI s g b q P Q) (hd : ∀ i ∈ g :: (P ++ Q), s'.d i = s.d i) (hu : ∀ i ∈ g :: (P ++ Q), s'.u i = s.u i) (hlo : ∀ i ∈ P ++ Q, s'.lo i = s.lo i)
    (hE : ∀ c, c < 3 → s'.E (3 * q + c) = s.E (3 * q + c)) (hl : ∀ i ∈ P ++ Q, s'.l i = s.l i) : LI s' g b q P Q :=
  ⟨seg_frame hd (fun i hi => hu i (by rcases List.mem_append.1 hi with q | q; exact List.mem_cons_of_mem _ q; rw [show i = g by simpa using q]; simp)) h.seg, fun i hi => (hlo i (by simp [hi])).trans (h.loP i hi), fun i hi => (hlo i (by simp [hi])).trans (h.loQ i hi), h.len, h.full, (hE 0 (by omega)).trans h.e0, (hE 1 (by omega)).trans h.e1, (hE 2 (by omega)).trans h.e2, fun i hi => (hl i hi).trans (h.ls i hi)⟩

theorem wrap_pred {n : Nat} (h : n ≤ 100) : IntKind.i64.wrap (((n + 1 : Nat) : Int) - 1) = (n : Int) := by simp only [IntKind.wrap_i64]; omega
theorem wrap_succ {n : Nat} (h : n ≤ 100) : IntKind.i64.wrap ((n : Int) + 1) = ((n + 1 : Nat) : Int) := by simp only [IntKind.wrap_i64]; omega

theorem out_unl (s : Sh) (k q : Nat) : (outS s k q).u = (unl s k).u ∧ (outS s k q).d = (unl s k).d ∧ (outS s k q).l = s.l ∧ (outS s k q).he = s.he ∧ (outS s k q).bot = s.bot := by
  unfold outS out4 out3 out2 out1 Sh.setE
  simp only
  repeat' split
  all_goals exact ⟨rfl, rfl, rfl, rfl, rfl⟩

/-- A node of the list's upper part is taken out. -/
theorem li_out_high {s : Sh} {g b q k : Nat} {A B Q : List Nat} (h : LI s g b q (A ++ k :: B) Q) (hn : (g :: (A ++ k :: B ++ Q)).Nodup) (hlen : (A ++ k :: B ++ Q).length ≤ 64) : outS s k q = out1 s k q ∧ LI (out1 s k q) g b q (A ++ B) Q := by
  have hlo : s.lo k = false := h.loP k (by simp)
  have hseg := h.seg
  rw [List.append_assoc, List.cons_append] at hseg hn
  have hg : g ∉ A ++ k :: (B ++ Q) := (List.nodup_cons.1 hn).1
  obtain ⟨e1, e2⟩ := seg_at hseg
  have h1 := seg_out hseg hn hg
  refine ⟨if_pos hlo, ?_, fun i hi => h.loP i ?_, h.loQ, h.len, fun _ => h.full (by simp), ?_, ?_, ?_, fun i hi => h.ls i ?_⟩
  · show Seg (updI s.d (s.u k).toNat (s.d k)) (updI s.u (s.d k).toNat (s.u k)) g (A ++ B ++ Q) g
    rw [e1, e2, List.append_assoc]
    exact h1
  · rcases List.mem_append.1 hi with q | q <;> simp [q]
  · show updI s.E (3 * q) (IntKind.i64.wrap (s.E (3 * q) - 1)) (3 * q) = _
    rw [updI_same, h.e0]
    simp only [List.length_append, List.length_cons] at hlen ⊢
    rw [show A.length + (B.length + 1) + Q.length = (A.length + B.length + Q.length) + 1 by omega, wrap_pred (by omega)]
  · show updI s.E (3 * q) _ (3 * q + 1) = _
    rw [updI_ne (by omega), h.e1]
  · show updI s.E (3 * q) _ (3 * q + 2) = _
    rw [updI_ne (by omega), h.e2]
  · simp only [List.mem_append, List.mem_cons] at hi ⊢
    rcases hi with (q | q) | q <;> simp [q]

/-- A list without k, before its bottom is filled up again. -/
theorem out3_at {s : Sh} {g b q k : Nat} {P Q1 Q2 : List Nat} (h : LI s g b q P (Q1 ++ k :: Q2)) (hn : (g :: (P ++ (Q1 ++ k :: Q2))).Nodup) (hlen : (P ++ (Q1 ++ k :: Q2)).length ≤ 64) :
    Seg (out3 s k q).d (out3 s k q).u g (P ++ (Q1 ++ Q2)) g ∧ (out3 s k q).lo = s.lo ∧ (out3 s k q).l = s.l ∧ (out3 s k q).E (3 * q) = ((P.length + (Q1 ++ Q2).length : Nat) : Int) ∧ (out3 s k q).E (3 * q + 1) = ((Q1 ++ Q2).length : Int) ∧ (out3 s k q).E (3 * q + 2) = ((hd (Q1 ++ Q2) g : Nat) : Int) := by
  have hseg := h.seg
  have ea : P ++ (Q1 ++ k :: Q2) = (P ++ Q1) ++ k :: Q2 := (List.append_assoc ..).symm
  rw [ea] at hseg hn
  have hg : g ∉ (P ++ Q1) ++ k :: Q2 := (List.nodup_cons.1 hn).1
  obtain ⟨e1, e2⟩ := seg_at hseg
  have h1 := seg_out hseg hn hg
  have hu : (out3 s k q).u = updI s.u (s.d k).toNat (s.u k) ∧ (out3 s k q).d = updI s.d (s.u k).toNat (s.d k) ∧ (out3 s k q).lo = s.lo ∧ (out3 s k q).l = s.l := by
    unfold out3 out2 out1 Sh.setE unl
    simp only
    split <;> exact ⟨rfl, rfl, rfl, rfl⟩
  obtain ⟨u1, u2, u3, u4⟩ := hu
  have hl1 : (Q1 ++ k :: Q2).length = (Q1 ++ Q2).length + 1 := by simp; omega
  have hlen2 : P.length + (Q1 ++ Q2).length + 1 ≤ 64 := by simp only [List.length_append] at hlen hl1 ⊢; omega
  have E0 : (out1 s k q).E (3 * q) = ((P.length + (Q1 ++ Q2).length : Nat) : Int) := by
    show updI s.E (3 * q) (IntKind.i64.wrap (s.E (3 * q) - 1)) (3 * q) = _
    rw [updI_same, h.e0, hl1, ← Nat.add_assoc, wrap_pred (by omega)]
  have E1 : (out1 s k q).E (3 * q + 1) = (((Q1 ++ Q2).length + 1 : Nat) : Int) := by
    show updI s.E (3 * q) _ (3 * q + 1) = _
    rw [updI_ne (by omega), h.e1, hl1]
  have E2 : (out1 s k q).E (3 * q + 2) = ((hd (Q1 ++ k :: Q2) g : Nat) : Int) := by
    show updI s.E (3 * q) _ (3 * q + 2) = _
    rw [updI_ne (by omega), h.e2]
  have O2 : (out2 s k q).E (3 * q) = ((P.length + (Q1 ++ Q2).length : Nat) : Int) ∧ (out2 s k q).E (3 * q + 1) = (((Q1 ++ Q2).length + 1 : Nat) : Int) ∧ (out2 s k q).E (3 * q + 2) = ((hd (Q1 ++ Q2) g : Nat) : Int) := by
    unfold out2
    simp only
    cases Q1 with
    | nil =>
      have : (out1 s k q).E (3 * q + 2) = (k : Int) := E2
      rw [if_pos this]
      refine ⟨?_, ?_, ?_⟩
      · show updI _ (3 * q + 2) _ (3 * q) = _
        rw [updI_ne (by omega)]; exact E0
      · show updI _ (3 * q + 2) _ (3 * q + 1) = _
        rw [updI_ne (by omega)]; exact E1
      · show updI _ (3 * q + 2) _ (3 * q + 2) = _
        rw [updI_same, e2]; rfl
    | cons y Q1 =>
      have hne : (out1 s k q).E (3 * q + 2) ≠ (k : Int) := by
        rw [E2]
        intro e
        have e : (y : Int) = (k : Int) := e
        have e : y = k := by omega
        subst e
        have := (List.nodup_append.1 (List.nodup_cons.1 hn).2)
        exact this.2.2 y (by simp) y (by simp) rfl
      rw [if_neg hne]
      exact ⟨E0, E1, E2⟩
  obtain ⟨F0, F1, F2⟩ := O2
  refine ⟨?_, u3, u4, ?_, ?_, ?_⟩
  · rw [u1, u2, e1, e2, ← List.append_assoc]
    exact h1
  · show updI (out2 s k q).E (3 * q + 1) _ (3 * q) = _
    rw [updI_ne (by omega)]; exact F0
  · show updI (out2 s k q).E (3 * q + 1) (IntKind.i64.wrap ((out2 s k q).E (3 * q + 1) - 1)) (3 * q + 1) = _
    rw [updI_same, F1, wrap_pred (by omega)]
  · show updI (out2 s k q).E (3 * q + 1) _ (3 * q + 2) = _
    rw [updI_ne (by omega)]; exact F2

/-- A node of the list's bottom is taken out. -/
theorem li_out_low {s : Sh} {g b q k : Nat} {P Q1 Q2 : List Nat} (h : LI s g b q P (Q1 ++ k :: Q2)) (hn : (g :: (P ++ (Q1 ++ k :: Q2))).Nodup) (hlen : (P ++ (Q1 ++ k :: Q2)).length ≤ 64) :
    outS s k q = out4 s k q ∧ (P = [] → out4 s k q = out3 s k q ∧ LI (out3 s k q) g b q [] (Q1 ++ Q2)) ∧
    (∀ (P' : List Nat) (p : Nat), P = P' ++ [p] → edgeUp (out3 s k q) q = (p : Int) ∧ (out3 s k q).E (3 * q + 1) < (out3 s k q).E (3 * q) ∧ (out4 s k q).lo = updB s.lo p true ∧ LI (out4 s k q) g b q P' (p :: (Q1 ++ Q2))) := by
  have hlo : s.lo k = true := h.loQ k (by simp)
  obtain ⟨h1, h2, h3, h4, h5, h6⟩ := out3_at h hn hlen
  have hl1 : (Q1 ++ k :: Q2).length = (Q1 ++ Q2).length + 1 := by simp; omega
  have hlen2 : P.length + (Q1 ++ Q2).length + 1 ≤ 64 := by simp only [List.length_append] at hlen hl1 ⊢; omega
  refine ⟨if_neg (by rw [hlo]; decide), ?_, ?_⟩
  · rintro rfl
    have e4 : out4 s k q = out3 s k q := by
      unfold out4
      simp only
      rw [if_neg (by rw [h4, h5]; simp)]
    refine ⟨e4, h1, fun i hi => by simp at hi, fun i hi => ?_, ?_, fun q => absurd rfl q, h4, h5, h6, fun i hi => ?_⟩
    · rw [h2]; exact h.loQ i (by rcases List.mem_append.1 hi with q | q <;> simp [q])
    · have := h.len; omega
    · rw [h3]
      have hi : i ∈ Q1 ++ Q2 := hi
      exact h.ls i (by rcases List.mem_append.1 hi with q | q <;> simp [q])
  · rintro P' p rfl
    have hup : edgeUp (out3 s k q) q = (p : Int) := by
      unfold edgeUp
      rw [h6, Int.toNat_natCast]
      have hp : pr g (P' ++ [p]) = p := by rw [pr_app]; rfl
      cases hQ : Q1 ++ Q2 with
      | nil =>
        rw [hQ, List.append_nil] at h1
        show (out3 s k q).u g = _
        rw [(seg_ends h1).2, hp]
      | cons y Y =>
        rw [hQ] at h1
        show (out3 s k q).u y = _
        rw [(seg_at h1).1, hp]
    have hlt : (out3 s k q).E (3 * q + 1) < (out3 s k q).E (3 * q) := by rw [h4, h5]; simp; omega
    have e4 : out4 s k q = (let t := out3 s k q; let e := edgeUp t q; { t with E := updI (updI t.E (3 * q + 2) e) (3 * q + 1) (IntKind.i64.wrap (t.E (3 * q + 1) + 1)), lo := updB t.lo e.toNat true }) := if_pos hlt
    have hlo4 : (out4 s k q).lo = updB s.lo p true := by
      rw [e4]
      show updB (out3 s k q).lo (edgeUp (out3 s k q) q).toNat true = _
      rw [h2, hup, Int.toNat_natCast]
    have hnd := (List.nodup_cons.1 hn).2
    refine ⟨hup, hlt, hlo4, ?_⟩
    have hfull := h.full (by simp)
    refine ⟨?_, fun i hi => ?_, fun i hi => ?_, ?_, fun _ => ?_, ?_, ?_, ?_, fun i hi => ?_⟩
    · rw [e4]
      show Seg (out3 s k q).d (out3 s k q).u g (P' ++ (p :: (Q1 ++ Q2))) g
      rw [show P' ++ (p :: (Q1 ++ Q2)) = P' ++ [p] ++ (Q1 ++ Q2) by simp]
      exact h1
    · rw [hlo4]
      have hne : i ≠ p := by
        rintro rfl
        have := List.nodup_append.1 (List.nodup_append.1 hnd).1
        exact this.2.2 i hi i (by simp) rfl
      rw [updB_ne hne]
      exact h.loP i (by simp [hi])
    · rw [hlo4]
      rcases List.mem_cons.1 hi with rfl | hi
      · exact updB_same
      · have : s.lo i = true := h.loQ i (by rcases List.mem_append.1 hi with q | q <;> simp [q])
        unfold updB
        split
        · rfl
        · exact this
    · have := h.len
      simp only [List.length_cons]
      omega
    · simp only [List.length_cons]
      omega
    · rw [e4]
      show updI (updI (out3 s k q).E _ _) (3 * q + 1) _ (3 * q) = _
      rw [updI_ne (by omega), updI_ne (by omega), h4]
      simp only [List.length_append, List.length_cons, List.length_nil]
      congr 1
      omega
    · rw [e4]
      show updI _ (3 * q + 1) (IntKind.i64.wrap ((out3 s k q).E (3 * q + 1) + 1)) (3 * q + 1) = _
      rw [updI_same, h5, wrap_succ (by omega)]
      rfl
    · rw [e4]
      show updI (updI (out3 s k q).E (3 * q + 2) (edgeUp (out3 s k q) q)) (3 * q + 1) _ (3 * q + 2) = _
      rw [updI_ne (by omega), updI_same, hup]
      rfl
    · rw [e4]
      show (out3 s k q).l i = _
      rw [h3]
      refine h.ls i ?_
      simp only [List.mem_append, List.mem_cons] at hi ⊢
      rcases hi with q | q | q | q <;> simp [q]

end Go.Proofs.YtiihiifcnkfjoaaDoor.Sx

/-
  The plain law of a shelf, third part: a node is taken out of its list, put in front of a list, dropped, held.
-/
namespace Go.Proofs.YtiihiifcnkfjoaaDoor.Sx
open Go Go.Proofs
set_option maxRecDepth 100000
set_option linter.unusedSimpArgs false
set_option linter.unusedVariables false

theorem out_E {s : Sh} {k q c : Nat} (h : c < 3 * q ∨ 3 * q + 2 < c) : (outS s k q).E c = s.E c := by
  have e1 : (out1 s k q).E c = s.E c := updI_ne (by omega)
  have e2 : (out2 s k q).E c = s.E c := by
    unfold out2
    simp only
    split
    · exact (updI_ne (by omega)).trans e1
    · exact e1
  have e3 : (out3 s k q).E c = s.E c := (updI_ne (by omega)).trans e2
  unfold outS
  split
  · exact e1
  · unfold out4
    simp only
    split
    · exact (updI_ne (by omega)).trans ((updI_ne (by omega)).trans e3)
    · exact e3
theorem erase_at {A B : List Nat} {k : Nat} (h : (A ++ k :: B).Nodup) : (A ++ k :: B).erase k = A ++ B := by
  have hk : k ∉ A := fun hk => (List.nodup_append.1 h).2.2 k hk k (by simp) rfl
  rw [List.erase_append_right _ hk, List.erase_cons_head]
theorem snoc_of {P : List Nat} (h : P ≠ []) : ∃ P' p, P = P' ++ [p] := ⟨P.dropLast, P.getLast h, (List.dropLast_concat_getLast h).symm⟩

/-- What the cells of a list's node lead to. -/
theorem Inv.ends {s : Sh} {m : Md} {x : Nat} (h : Inv s m x) {q : Nat} (hq : q < 2) {i : Nat} (hi : i ∈ (m.n + q) :: m.L q) : i < s.N := by
  rw [h.N]
  rcases List.mem_cons.1 hi with rfl | hi
  · omega
  · have := h.lt q hq i hi; omega

structure OutR (s : Sh) (m : Md) (k q : Nat) : Prop where
  ok : outOK s k q
  li : ∃ P Q, (m.L q).erase k = P ++ Q ∧ LI (outS s k q) (m.n + q) m.b q P Q
  lo : ∀ i, i ∉ m.L q → (outS s k q).lo i = s.lo i
  um : (s.u k).toNat ∈ (m.n + q) :: m.L q
  dm : (s.d k).toNat ∈ (m.n + q) :: m.L q

theorem out_r {s : Sh} {m : Md} {k q : Nat} (h : Inv s m m.n) (hq : q < 2) (hk : k ∈ m.L q) : OutR s m k q := by
  obtain ⟨P, Q, hL, hli⟩ := h.li q hq
  have hring := h.ring hq
  have hlq := h.lenq hq
  have hn2 := h.n2
  have hN := h.N
  have hlt := h.lt q hq
  have hring' := hring
  rw [hL] at hk hring hlq
  have hkl : s.l k = q := hli.ls k hk
  have hkN : k < s.N := by have := hlt k (by rw [hL]; exact hk); omega
  obtain ⟨A, B, eAB⟩ := List.append_of_mem hk
  have hseg := hli.seg
  rw [eAB] at hseg
  obtain ⟨e1, e2⟩ := seg_at hseg
  have um : pr (m.n + q) A ∈ (m.n + q) :: m.L q := by
    rw [hL, eAB]
    have := pr_mem (m.n + q) A
    rcases List.mem_cons.1 this with w | w
    · rw [w]; simp
    · simp [w]
  have dm : hd B (m.n + q) ∈ (m.n + q) :: m.L q := by
    rw [hL, eAB]
    have := hd_mem B (m.n + q)
    rcases List.mem_append.1 this with w | w
    · simp [w]
    · have w : hd B (m.n + q) = m.n + q := by simpa using w
      rw [w]; simp
  have ub := h.ends hq um
  have db := h.ends hq dm
  have um' : (s.u k).toNat ∈ (m.n + q) :: m.L q := by rw [e1]; exact um
  have dm' : (s.d k).toNat ∈ (m.n + q) :: m.L q := by rw [e2]; exact dm
  rcases List.mem_append.1 hk with hkP | hkQ
  · obtain ⟨A', B', rfl⟩ := List.append_of_mem hkP
    obtain ⟨h1, h2⟩ := li_out_high hli hring (by omega)
    refine ⟨⟨hq, hkl, hkN, by omega, by omega, fun hlo => ?_⟩, ⟨A' ++ B', Q, ?_, by rw [h1]; exact h2⟩, fun i hi => by rw [h1]; rfl, um', dm'⟩
    · rw [hli.loP k (by simp)] at hlo; cases hlo
    · rw [hL, List.append_assoc, List.cons_append, erase_at (by have := (List.nodup_cons.1 hring).2; simpa using this), List.append_assoc]
  · obtain ⟨Q1, Q2, rfl⟩ := List.append_of_mem hkQ
    obtain ⟨h1, h2, h3⟩ := li_out_low hli hring (by omega)
    obtain ⟨g1, g2, g3, g4, g5, g6⟩ := out3_at hli hring (by omega)
    have her : (m.L q).erase k = P ++ (Q1 ++ Q2) := by
      have e : P ++ (Q1 ++ k :: Q2) = (P ++ Q1) ++ k :: Q2 := (List.append_assoc ..).symm
      rw [hL, e, erase_at (by have := (List.nodup_cons.1 hring).2; rw [e] at this; exact this), List.append_assoc]
    have hm : hd (Q1 ++ Q2) (m.n + q) ∈ (m.n + q) :: m.L q := by
      rw [hL]
      have := hd_mem (Q1 ++ Q2) (m.n + q)
      simp only [List.mem_append, List.mem_singleton] at this
      rcases this with (w | w) | w
      · simp [w]
      · simp [w]
      · rw [w]; simp
    have hmb := h.ends hq hm
    by_cases hP : P = []
    · subst hP
      obtain ⟨h4, h5⟩ := h2 rfl
      refine ⟨⟨hq, hkl, hkN, by omega, by omega, fun _ hcon => ?_⟩, ⟨[], Q1 ++ Q2, her, by rw [h1, h4]; exact h5⟩, fun i hi => by rw [h1, h4, g2], um', dm'⟩
      rw [g4, g5] at hcon
      simp at hcon
    · obtain ⟨P', p, rfl⟩ := snoc_of hP
      obtain ⟨h4, h5, h6, h7⟩ := h3 P' p rfl
      have hpm : p ∈ m.L q := by rw [hL]; simp
      have hpb := hlt p hpm
      refine ⟨⟨hq, hkl, hkN, by omega, by omega, fun _ _ => ⟨by rw [g6]; omega, by rw [h4]; omega⟩⟩, ⟨P', p :: (Q1 ++ Q2), by rw [her]; simp, by rw [h1]; exact h7⟩, fun i hi => ?_, um', dm'⟩
      rw [h1, h6]
      exact updB_ne (by rintro rfl; exact hi hpm)

theorem ring_other {s : Sh} {m : Md} {x : Nat} (h : Inv s m x) {q q' : Nat} (hq : q < 2) (hq' : q' < 2) (hne : q ≠ q') {i j : Nat} (hi : i ∈ (m.n + q) :: m.L q) (hj : j ∈ (m.n + q') :: m.L q') : i ≠ j := by
  rintro rfl
  rcases List.mem_cons.1 hi with rfl | hi <;> rcases List.mem_cons.1 hj with e | hj
  · omega
  · have := h.lt q' hq' _ hj; omega
  · subst e; have := h.lt q hq _ hi; omega
  · exact h.other hq hq' hne hi hj

theorem out_inv {s : Sh} {m : Md} {k q : Nat} (h : Inv s m m.n) (hq : q < 2) (hk : k ∈ m.L q) : Inv (outS s k q) (m.set q ((m.L q).erase k)) k := by
  obtain ⟨ok, li, hlo, um, dm⟩ := out_r h hq hk
  obtain ⟨u1, u2, u3, u4, u5⟩ := out_unl s k q
  have hnq := h.nq hq
  have sub : ∀ i, i ∈ (m.L q).erase k → i ∈ m.L q := fun i hi => List.mem_of_mem_erase hi
  have at_ : ∀ j, j < 2 → ∀ i ∈ (m.set q ((m.L q).erase k)).L j, i ∈ m.L j := by
    intro j hj i hi
    by_cases e : j = q
    · subst e; rw [Md.set_at] at hi; exact sub i hi
    · rw [Md.set_ne e] at hi; exact hi
  have back : ∀ j, j < 2 → ∀ i, i ≠ k → i ∈ m.L j → i ∈ (m.set q ((m.L q).erase k)).L j := by
    intro j hj i hne hi
    by_cases e : j = q
    · subst e; rw [Md.set_at]; exact (List.mem_erase_of_ne hne).2 hi
    · rw [Md.set_ne e]; exact hi
  refine ⟨(outS_N s k q).trans h.N, h.n1, h.n2, u5.trans h.bot, h.b1, h.b2, ?_, fun j hj i hi => h.lt j hj i (at_ j hj i hi), fun j hj hi => ?_, fun j hj => ?_, fun i hi hne h0 h1 => ?_, fun i hi => by rw [u4]; exact h.he i hi, fun j hj => by rw [u4]; exact h.hg j hj, fun i hi hH hne => ?_⟩
  · have hnd := List.nodup_append.1 h.nd
    refine List.nodup_append.2 ⟨?_, ?_, fun a ha b hb => hnd.2.2 a (at_ 0 (by omega) a ha) b (at_ 1 (by omega) b hb)⟩
    · by_cases e : q = 0
      · subst e; rw [Md.set_at]; exact hnd.1.erase k
      · rw [Md.set_ne (Ne.symm e)]; exact hnd.1
    · by_cases e : q = 1
      · subst e; rw [Md.set_at]; exact hnd.2.1.erase k
      · rw [Md.set_ne (Ne.symm e)]; exact hnd.2.1
  · by_cases e : j = q
    · subst e; rw [Md.set_at] at hi; exact (List.Nodup.not_mem_erase hnq) hi
    · rw [Md.set_ne e] at hi; exact h.other hq hj (Ne.symm e) hk hi
  · by_cases e : j = q
    · subst e; rw [Md.set_at]; exact li
    · obtain ⟨P, Q, hL, hli⟩ := h.li j hj
      refine ⟨P, Q, by rw [Md.set_ne e]; exact hL, hli.frame (fun i hi => ?_) (fun i hi => ?_) (fun i hi => hlo i ?_) (fun c hc => out_E (by omega)) (fun i hi => by rw [u3])⟩
      · rw [u2]; exact updI_ne (ring_other h hj hq e (by rw [hL]; exact hi) um)
      · rw [u1]; exact updI_ne (ring_other h hj hq e (by rw [hL]; exact hi) dm)
      · exact h.other hj hq e (by rw [hL]; exact hi)
  · rw [u3]
    have hi : i < m.n := hi
    refine h.no i hi (by omega) (fun w => h0 (back 0 (by omega) i hne w)) (fun w => h1 (back 1 (by omega) i hne w))
  · have hi : i < m.n := hi
    rcases h.hin i hi hH (by omega) with w | w
    · exact .inl (back 0 (by omega) i hne w)
    · exact .inr (back 1 (by omega) i hne w)

theorem in_inv {s : Sh} {m : Md} {k q x : Nat} (h : Inv s m x) (hq : q < 2) (hk : k < m.n) (hx : x = k ∨ x = m.n) (h0 : k ∉ m.L 0) (h1 : k ∉ m.L 1) :
    (0 ≤ s.d (gd s q) ∧ s.d (gd s q) < s.N) ∧ Inv (inS s q k) (m.set q (k :: m.L q)) m.n := by
  obtain ⟨P, Q, hL, hli⟩ := h.li q hq
  have hg : gd s q = m.n + q := by unfold gd; rw [h.N]; omega
  have hkq : ∀ j, j < 2 → k ∉ m.L j := fun j hj => by match j, hj with | 0, _ => exact h0 | 1, _ => exact h1
  have hring := h.ring hq
  have hln := h.len
  have hln' : (m.L q).length < m.n := by
    have := nodup_len (n := m.n) (l := k :: m.L q) (List.nodup_cons.2 ⟨hkq q hq, h.nq hq⟩) fun i hi => by
      rcases List.mem_cons.1 hi with rfl | hi
      · exact hk
      · exact h.lt q hq i hi
    simp only [List.length_cons] at this
    omega
  have hn2 := h.n2
  have he := (seg_ends hli.seg).1
  have hdg : s.d (gd s q) = ((hd (m.L q) (m.n + q) : Nat) : Int) := by rw [hg, he, hL]
  have hhm : hd (m.L q) (m.n + q) ∈ (m.n + q) :: m.L q := by
    have := hd_mem (m.L q) (m.n + q)
    rcases List.mem_append.1 this with w | w
    · simp [w]
    · rw [show hd (m.L q) (m.n + q) = m.n + q by simpa using w]; simp
  have hhb := h.ends hq hhm
  have hu : (inS s q k).u = updI (updI s.u k (m.n + q : Nat)) (hd (m.L q) (m.n + q)) k := by
    show updI (updI s.u k (gd s q)) (s.d (gd s q)).toNat k = _
    rw [hdg, hg, Int.toNat_natCast]
  have hd' : (inS s q k).d = updI (updI s.d k (hd (m.L q) (m.n + q) : Nat)) (m.n + q) k := by
    show updI (updI s.d k (s.d (gd s q))) (gd s q) k = _
    rw [hdg, hg]
  have hl' : (inS s q k).l = updI s.l k q := rfl
  have hlo' : (inS s q k).lo = updB s.lo k (decide (s.E (3 * q + 1) < s.bot)) := rfl
  have hlow : decide (s.E (3 * q + 1) < s.bot) = decide (Q.length < m.b) := by
    rw [hli.e1, h.bot]
    by_cases w : Q.length < m.b
    · rw [decide_eq_true w, decide_eq_true (by omega)]
    · rw [decide_eq_false w, decide_eq_false (by omega)]
  have hPQ : P.length + Q.length = (m.L q).length := by rw [hL]; simp
  have hE : ∀ c, (inS s q k).E c = if c = 3 * q then (((P.length + Q.length) + 1 : Nat) : Int) else if Q.length < m.b ∧ c = 3 * q + 1 then ((Q.length + 1 : Nat) : Int) else if Q.length < m.b ∧ c = 3 * q + 2 then (k : Int) else s.E c := by
    intro c
    show (if decide (s.E (3 * q + 1) < s.bot) = true then updI (updI (updI s.E (3 * q) (IntKind.i64.wrap (s.E (3 * q) + 1))) (3 * q + 1) (IntKind.i64.wrap (updI s.E (3 * q) (IntKind.i64.wrap (s.E (3 * q) + 1)) (3 * q + 1) + 1))) (3 * q + 2) k else updI s.E (3 * q) (IntKind.i64.wrap (s.E (3 * q) + 1))) c = _
    rw [hlow, hli.e0, wrap_succ (by omega), updI_ne (i := 3 * q + 1) (a := 3 * q) (by omega), hli.e1, wrap_succ (by have := hli.len; have := h.b2; omega)]
    by_cases w : Q.length < m.b
    · rw [if_pos (decide_eq_true w)]
      unfold updI
      by_cases c0 : c = 3 * q
      · subst c0
        rw [if_neg (by omega), if_neg (by omega), if_pos rfl, if_pos rfl]
      · by_cases c1 : c = 3 * q + 1
        · subst c1
          rw [if_neg (by omega), if_pos rfl, if_neg (by omega), if_pos ⟨w, rfl⟩]
        · by_cases c2 : c = 3 * q + 2
          · subst c2
            rw [if_pos rfl, if_neg (by omega), if_neg (by omega), if_pos ⟨w, rfl⟩]
          · rw [if_neg c2, if_neg c1, if_neg c0, if_neg c0, if_neg (fun z => c1 z.2), if_neg (fun z => c2 z.2)]
    · rw [if_neg (by rw [decide_eq_false w]; decide)]
      unfold updI
      by_cases c0 : c = 3 * q
      · rw [if_pos c0, if_pos c0]
      · rw [if_neg c0, if_neg c0, if_neg (fun z => w z.1), if_neg (fun z => w z.1)]
  have hkg : k ≠ m.n + q := by omega
  have hseg' : Seg (inS s q k).d (inS s q k).u (m.n + q) (k :: m.L q) (m.n + q) := by
    rw [hu, hd']
    refine seg_in (by rw [hL]; exact hli.seg) ?_ hring
    intro w
    rcases List.mem_cons.1 w with w | w
    · exact hkg w
    · exact hkq q hq w
  refine ⟨by rw [hdg]; omega, h.N, h.n1, h.n2, h.bot, h.b1, h.b2, ?_, fun j hj i hi => ?_, fun j hj hi => ?_, fun j hj => ?_, fun i hi hne g0 g1 => ?_, h.he, h.hg, fun i hi hH hne => ?_⟩
  · have hnd := List.nodup_append.1 h.nd
    refine List.nodup_append.2 ⟨?_, ?_, ?_⟩
    · by_cases e : q = 0
      · subst e; rw [Md.set_at]; exact List.nodup_cons.2 ⟨h0, hnd.1⟩
      · rw [Md.set_ne (Ne.symm e)]; exact hnd.1
    · by_cases e : q = 1
      · subst e; rw [Md.set_at]; exact List.nodup_cons.2 ⟨h1, hnd.2.1⟩
      · rw [Md.set_ne (Ne.symm e)]; exact hnd.2.1
    · obtain rfl | rfl : q = 0 ∨ q = 1 := by omega
      · rw [Md.set_at, Md.set_ne (by decide)]
        intro a ha b hb
        rcases List.mem_cons.1 ha with rfl | ha
        · rintro rfl; exact h1 hb
        · exact hnd.2.2 a ha b hb
      · rw [Md.set_at, Md.set_ne (by decide)]
        intro a ha b hb
        rcases List.mem_cons.1 hb with rfl | hb
        · rintro rfl; exact h0 ha
        · exact hnd.2.2 a ha b hb
  · by_cases e : j = q
    · subst e
      rw [Md.set_at] at hi
      rcases List.mem_cons.1 hi with rfl | hi
      · exact hk
      · exact h.lt j hj i hi
    · rw [Md.set_ne e] at hi; exact h.lt j hj i hi
  · have : m.n < m.n := by
      by_cases e : j = q
      · subst e
        rw [Md.set_at] at hi
        rcases List.mem_cons.1 hi with w | hi
        · omega
        · exact h.lt j hj _ hi
      · rw [Md.set_ne e] at hi; exact h.lt j hj _ hi
    omega
  · by_cases e : j = q
    · subst e
      rw [Md.set_at]
      have hloK : (inS s j k).lo k = decide (Q.length < m.b) := by rw [hlo', hlow]; exact updB_same
      have hloO : ∀ i ∈ m.L j, (inS s j k).lo i = s.lo i := fun i hi => by rw [hlo']; exact updB_ne (by rintro rfl; exact hkq j hj hi)
      have hls : ∀ i ∈ k :: m.L j, (inS s j k).l i = j := fun i hi => by
        rw [hl']
        rcases List.mem_cons.1 hi with rfl | hi
        · exact updI_same
        · rw [updI_ne (show i ≠ k from fun w => hkq j hj (by rw [← w]; exact hi))]; exact hli.ls i (by rw [← hL]; exact hi)
      by_cases w : Q.length < m.b
      · have hP : P = [] := Classical.byContradiction fun z => by have := hli.full z; omega
        subst hP
        have hLQ : m.L j = Q := by rw [hL]; rfl
        refine ⟨[], k :: m.L j, rfl, hseg', fun i hi => by simp at hi, fun i hi => ?_, ?_, fun z => absurd rfl z, ?_, ?_, ?_, hls⟩
        · rcases List.mem_cons.1 hi with rfl | hi
          · rw [hloK, decide_eq_true w]
          · rw [hloO i hi]; exact hli.loQ i (by rw [← hLQ]; exact hi)
        · show (k :: m.L j).length ≤ m.b
          rw [hLQ]; simp only [List.length_cons]; omega
        · rw [hE, if_pos rfl, hLQ]; simp
        · rw [hE, if_neg (by omega), if_pos ⟨w, rfl⟩, hLQ]; simp
        · rw [hE, if_neg (by omega), if_neg (by omega), if_pos ⟨w, rfl⟩]; rfl
      · refine ⟨k :: P, Q, by rw [hL]; rfl, ?_, fun i hi => ?_, fun i hi => ?_, hli.len, fun _ => (by have := hli.len; show Q.length = m.b; omega), ?_, ?_, ?_, fun i hi => hls i (by rw [hL]; exact hi)⟩
        · have := hseg'; rw [hL] at this; exact this
        · rcases List.mem_cons.1 hi with rfl | hi
          · rw [hloK, decide_eq_false w]
          · rw [hloO i (by rw [hL]; simp [hi])]; exact hli.loP i hi
        · rw [hloO i (by rw [hL]; simp [hi])]; exact hli.loQ i hi
        · rw [hE, if_pos rfl]; simp only [List.length_cons]; congr 1; omega
        · rw [hE, if_neg (by omega), if_neg (fun z => w z.1), if_neg (fun z => w z.1)]; exact hli.e1
        · rw [hE, if_neg (by omega), if_neg (fun z => w z.1), if_neg (fun z => w z.1)]; exact hli.e2
    · obtain ⟨P', Q', hL', hli'⟩ := h.li j hj
      refine ⟨P', Q', by rw [Md.set_ne e]; exact hL', hli'.frame (fun i hi => ?_) (fun i hi => ?_) (fun i hi => ?_) (fun c hc => ?_) (fun i hi => ?_)⟩
      · have hi' : i ∈ (m.n + j) :: m.L j := by rw [hL']; exact hi
        have n1 : i ≠ k := by
          rintro rfl
          rcases List.mem_cons.1 hi' with w | w
          · omega
          · exact hkq j hj w
        rw [hd', updI_ne (ring_other h hj hq e hi' (by simp)), updI_ne n1]
      · have hi' : i ∈ (m.n + j) :: m.L j := by rw [hL']; exact hi
        have n1 : i ≠ k := by
          rintro rfl
          rcases List.mem_cons.1 hi' with w | w
          · omega
          · exact hkq j hj w
        rw [hu, updI_ne (ring_other h hj hq e hi' hhm), updI_ne n1]
      · rw [hlo']; exact updB_ne (by rintro rfl; exact hkq j hj (by rw [hL']; exact hi))
      · rw [hE, if_neg (by omega), if_neg (by omega), if_neg (by omega)]
      · rw [hl']; exact updI_ne (by rintro rfl; exact hkq j hj (by rw [hL']; exact hi))
  · have hik : i ≠ k := by
      rintro rfl
      obtain rfl | rfl : q = 0 ∨ q = 1 := by omega
      · exact g0 (by rw [Md.set_at]; simp)
      · exact g1 (by rw [Md.set_at]; simp)
    rw [hl', updI_ne hik]
    refine h.no i hi (by rcases hx with rfl | rfl; exact hik; exact hne) (fun w => g0 ?_) (fun w => g1 ?_)
    · by_cases e : 0 = q
      · subst e; rw [Md.set_at]; simp [w]
      · rw [Md.set_ne e]; exact w
    · by_cases e : 1 = q
      · subst e; rw [Md.set_at]; simp [w]
      · rw [Md.set_ne e]; exact w
  · have up : ∀ j, j < 2 → i ∈ m.L j → i ∈ (m.set q (k :: m.L q)).L j := fun j hj w => by
      by_cases e : j = q
      · subst e; rw [Md.set_at]; simp [w]
      · rw [Md.set_ne e]; exact w
    by_cases hik : i = k
    · subst hik
      obtain rfl | rfl : q = 0 ∨ q = 1 := by omega
      · exact .inl (by rw [Md.set_at]; simp)
      · exact .inr (by rw [Md.set_at]; simp)
    · rcases h.hin i hi hH (by rcases hx with rfl | rfl; exact hik; exact hne) with w | w
      · exact .inl (up 0 (by omega) w)
      · exact .inr (up 1 (by omega) w)
end Go.Proofs.YtiihiifcnkfjoaaDoor.Sx

