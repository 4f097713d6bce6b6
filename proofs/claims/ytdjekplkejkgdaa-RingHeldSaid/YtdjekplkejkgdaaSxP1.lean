import Derived.Test.YtdjekplkejkgdaaSxWE
/-
  The plain law of a shelf, first part: chains of nodes.
-/
namespace Go.Proofs.Ytdjekplkejkgdaa.Sx
open Go Go.Proofs
set_option maxRecDepth 100000
set_option linter.unusedSimpArgs false
set_option linter.unusedVariables false

theorem updI_same {f : Nat → Int} {a : Nat} {v : Int} : updI f a v a = v := if_pos rfl
theorem updI_ne {f : Nat → Int} {a : Nat} {v : Int} {i : Nat} (h : i ≠ a) : updI f a v i = f i := if_neg h
theorem updB_same {f : Nat → Bool} {a : Nat} {v : Bool} : updB f a v a = v := if_pos rfl
theorem updB_ne {f : Nat → Bool} {a : Nat} {v : Bool} {i : Nat} (h : i ≠ a) : updB f a v i = f i := if_neg h

/-- From a over xs to b, down and up. -/
def Seg (d u : Nat → Int) : Nat → List Nat → Nat → Prop
  | a, [], b => d a = b ∧ u b = a
  | a, x :: xs, b => (d a = x ∧ u x = a) ∧ Seg d u x xs b
/-- The last of a and those behind it; the first of those ahead of b, and b. -/
def pr : Nat → List Nat → Nat
  | a, [] => a
  | _, x :: xs => pr x xs
def hd : List Nat → Nat → Nat
  | [], b => b
  | x :: _, _ => x
theorem pr_mem : ∀ (a : Nat) (l : List Nat), pr a l ∈ a :: l
  | a, [] => by simp [pr]
  | a, x :: xs => by
    have := pr_mem x xs
    unfold pr
    exact List.mem_cons_of_mem _ this
theorem hd_mem : ∀ (l : List Nat) (b : Nat), hd l b ∈ l ++ [b]
  | [], b => by simp [hd]
  | x :: xs, b => by simp [hd]
theorem pr_app : ∀ (a : Nat) (l m : List Nat), pr a (l ++ m) = pr (pr a l) m
  | a, [], m => rfl
  | a, x :: xs, m => pr_app x xs m
theorem hd_app : ∀ (l m : List Nat) (b : Nat), hd (l ++ m) b = hd l (hd m b)
  | [], m, b => rfl
  | x :: xs, m, b => rfl

theorem seg_frame {d u d' u' : Nat → Int} {b : Nat} : ∀ {xs : List Nat} {a : Nat}, (∀ i ∈ a :: xs, d' i = d i) → (∀ i ∈ xs ++ [b], u' i = u i) → Seg d u a xs b → Seg d' u' a xs b
  | [], a, hd, hu, ⟨h1, h2⟩ => ⟨(hd a (by simp)).trans h1, (hu b (by simp)).trans h2⟩
  | x :: xs, a, hd, hu, ⟨⟨h1, h2⟩, h3⟩ => ⟨⟨(hd a (by simp)).trans h1, (hu x (by simp)).trans h2⟩, seg_frame (fun i hi => hd i (List.mem_cons_of_mem _ hi)) (fun i hi => hu i (List.mem_cons_of_mem _ hi)) h3⟩
theorem seg_app {d u : Nat → Int} {b : Nat} : ∀ {A : List Nat} {a : Nat} {k : Nat} {B : List Nat}, Seg d u a (A ++ k :: B) b ↔ Seg d u a A k ∧ Seg d u k B b
  | [], a, k, B => Iff.rfl
  | x :: A, a, k, B => by
    show (_ ∧ Seg d u x (A ++ k :: B) b) ↔ (_ ∧ Seg d u x A k) ∧ _
    rw [seg_app, and_assoc, and_assoc, and_assoc]
theorem seg_ends {d u : Nat → Int} : ∀ {xs : List Nat} {a b : Nat}, Seg d u a xs b → d a = hd xs b ∧ u b = pr a xs
  | [], a, b, h => h
  | x :: xs, a, b, ⟨⟨h1, h2⟩, h3⟩ => ⟨h1, (seg_ends h3).2⟩
/-- A node between others: its neighbours. -/
theorem seg_at {d u : Nat → Int} {A B : List Nat} {a b k : Nat} (h : Seg d u a (A ++ k :: B) b) : u k = pr a A ∧ d k = hd B b := by
  obtain ⟨h1, h2⟩ := seg_app.1 h
  exact ⟨(seg_ends h1).2, (seg_ends h2).1⟩

theorem seg_out {d u : Nat → Int} {k b : Nat} {B : List Nat} : ∀ {A : List Nat} {a : Nat}, Seg d u a (A ++ k :: B) b → (a :: (A ++ k :: B)).Nodup → b ∉ A ++ k :: B →
    Seg (updI d (pr a A) (hd B b)) (updI u (hd B b) (pr a A)) a (A ++ B) b
  | [], a, h, hn, hb => by
    obtain ⟨⟨h1, h2⟩, h3⟩ : (d a = k ∧ u k = a) ∧ Seg d u k B b := h
    simp only [List.nil_append, List.nodup_cons, List.mem_cons, not_or] at hn hb
    cases B with
    | nil => exact ⟨updI_same, updI_same⟩
    | cons y B =>
      obtain ⟨⟨h4, h5⟩, h6⟩ : (d k = y ∧ u y = k) ∧ Seg d u y B b := h3
      simp only [List.nodup_cons, List.mem_cons, not_or] at hn hb
      refine ⟨⟨updI_same, updI_same⟩, seg_frame (fun i hi => updI_ne ?_) (fun i hi => updI_ne ?_) h6⟩
      · rintro rfl
        rcases List.mem_cons.1 hi with e | e
        · exact hn.1.2.1 e
        · exact hn.1.2.2 e
      · rintro rfl
        rcases List.mem_append.1 hi with e | e
        · exact hn.2.2.1 e
        · have e : i = b := by simpa using e
          exact hb.2.1 e.symm
  | z :: A, a, h, hn, hb => by
    obtain ⟨⟨h1, h2⟩, h3⟩ : (d a = z ∧ u z = a) ∧ Seg d u z (A ++ k :: B) b := h
    have hn' : (z :: (A ++ k :: B)).Nodup := (List.nodup_cons.1 hn).2
    have hb' : b ∉ A ++ k :: B := fun q => hb (List.mem_cons_of_mem _ q)
    have ih := seg_out (A := A) h3 hn' hb'
    have ha : a ∉ z :: (A ++ k :: B) := (List.nodup_cons.1 hn).1
    refine ⟨⟨(updI_ne ?_).trans h1, (updI_ne ?_).trans h2⟩, ih⟩
    · intro e
      have := pr_mem z A
      rw [show pr a (z :: A) = pr z A from rfl] at e
      rw [← e] at this
      rcases List.mem_cons.1 this with q | q
      · exact ha (by rw [q]; simp)
      · exact ha (by simp [q])
    · intro e
      have := hd_mem B b
      rw [← e] at this
      rcases List.mem_append.1 this with q | q
      · exact (List.nodup_cons.1 hn').1 (by simp [q])
      · have q : z = b := by simpa using q
        exact hb (by simp [q])

theorem seg_in {d u : Nat → Int} {k g : Nat} {L : List Nat} (h : Seg d u g L g) (hk : k ∉ g :: L) (hn : (g :: L).Nodup) :
    Seg (updI (updI d k (hd L g)) g k) (updI (updI u k g) (hd L g) k) g (k :: L) g := by
  simp only [List.mem_cons, not_or] at hk
  have hx : hd L g ≠ k := by
    intro e
    have := hd_mem L g
    rw [e] at this
    rcases List.mem_append.1 this with q | q
    · exact hk.2 q
    · exact hk.1 (by simpa using q)
  refine ⟨⟨updI_same, (updI_ne (Ne.symm hx)).trans updI_same⟩, ?_⟩
  cases L with
  | nil => exact ⟨(updI_ne hk.1).trans updI_same, updI_same⟩
  | cons y L =>
    obtain ⟨⟨h1, h2⟩, h3⟩ : (d g = y ∧ u y = g) ∧ Seg d u y L g := h
    simp only [List.nodup_cons, List.mem_cons, not_or] at hn hk
    refine ⟨⟨(updI_ne hk.1).trans updI_same, updI_same⟩, seg_frame (fun i hi => ?_) (fun i hi => ?_) h3⟩
    · have h4 : i ≠ g := by rintro rfl; rcases List.mem_cons.1 hi with q | q; exact hn.1.1 q; exact hn.1.2 q
      have h5 : i ≠ k := by rintro rfl; rcases List.mem_cons.1 hi with q | q; exact hk.2.1 q; exact hk.2.2 q
      rw [updI_ne h4, updI_ne h5]
    · have h4 : i ≠ y := by
        rintro rfl
        rcases List.mem_append.1 hi with q | q
        · exact hn.2.1 q
        · have q : i = g := by simpa using q
          exact hn.1.1 q.symm
      have h5 : i ≠ k := by
        rintro rfl
        rcases List.mem_append.1 hi with q | q
        · exact hk.2.2 q
        · exact hk.1 (by simpa using q)
      show updI (updI u k g) y k i = _
      rw [updI_ne h4, updI_ne h5]

/-- So many numbers below n. -/
theorem nodup_len : ∀ {n : Nat} {l : List Nat}, l.Nodup → (∀ i ∈ l, i < n) → l.length ≤ n
  | 0, [], _, _ => by simp
  | 0, x :: l, _, h => absurd (h x (by simp)) (by omega)
  | n + 1, l, hn, h => by
    have h1 : (l.erase n).length ≤ n := nodup_len (hn.erase n) fun i hi => by
      have h2 := h i (List.mem_of_mem_erase hi)
      have h3 : i ≠ n := by rintro rfl; exact (List.Nodup.not_mem_erase hn) hi
      omega
    by_cases hm : n ∈ l
    · have := List.length_erase_of_mem hm
      omega
    · rw [List.erase_of_not_mem hm] at h1
      omega
end Go.Proofs.Ytdjekplkejkgdaa.Sx
