import Derived.Test.YtkncijljkfpdiaaSxW4
/-
  The lanes' lists in the heap: one entry for each lane.
-/
namespace Go.Proofs.Ytkncijljkfpdiaa.Sx
open Go Go.Proofs
set_option maxRecDepth 100000
set_option linter.unusedSimpArgs false
set_option linter.unusedVariables false

def lanes (o n : Nat) (e : Nat → Ent) : Hp := (List.range n).map fun i => (i + o, e i)
theorem lanes_succ {o n : Nat} {e : Nat → Ent} : lanes o (n + 1) e = lanes o n e ++ [(n + o, e n)] := by unfold lanes; rw [List.range_succ, List.map_append]; rfl
theorem lanes_mem {o n : Nat} {e : Nat → Ent} {p : Nat × Ent} : p ∈ lanes o n e ↔ ∃ i, i < n ∧ p = (i + o, e i) := by
  unfold lanes
  rw [List.mem_map]
  constructor
  · rintro ⟨i, hi, rfl⟩; exact ⟨i, List.mem_range.1 hi, rfl⟩
  · rintro ⟨i, hi, rfl⟩; exact ⟨i, List.mem_range.2 hi, rfl⟩
theorem lanes_keys {o n : Nat} {e : Nat → Ent} : (lanes o n e).map (·.1) = (List.range n).map (· + o) := by unfold lanes; rw [List.map_map]; rfl
theorem fd_out {t : Nat} : ∀ {h : Hp}, t ∉ h.map (·.1) → fd t h = .gone
  | [], _ => rfl
  | (u, e) :: h, H => by
    rw [List.map_cons, List.mem_cons] at H
    rw [fd_cons, if_neg (fun q => H (.inl q))]
    exact fd_out fun q => H (.inr q)
theorem fd_of_nodup {t : Nat} {e : Ent} : ∀ {h : Hp}, (h.map (·.1)).Nodup → (t, e) ∈ h → fd t h = e
  | [], _, H => by cases H
  | (u, f) :: h, hn, H => by
    rw [List.map_cons, List.nodup_cons] at hn
    rw [fd_cons]
    rcases List.mem_cons.1 H with q | q
    · cases q; rw [if_pos rfl]
    · rw [if_neg (by rintro rfl; exact hn.1 (List.mem_map_of_mem (f := (·.1)) q))]
      exact fd_of_nodup hn.2 q
theorem nodup_shift {o n : Nat} : ((List.range n).map (· + o)).Nodup := by
  unfold List.Nodup
  rw [List.pairwise_map]
  exact List.nodup_range.imp fun h e => h (by omega)
theorem fd_lanes {o n i : Nat} {e : Nat → Ent} (hi : i < n) : fd (i + o) (lanes o n e) = e i := by
  refine fd_of_nodup ?_ (lanes_mem.2 ⟨i, hi, rfl⟩)
  rw [lanes_keys]; exact nodup_shift
theorem fd_lanes_out {o n t : Nat} {e : Nat → Ent} (h : ∀ i, i < n → t ≠ i + o) : fd t (lanes o n e) = .gone := by
  refine fd_out fun q => ?_
  rw [lanes_keys, List.mem_map] at q
  obtain ⟨i, hi, rfl⟩ := q
  exact h i (List.mem_range.1 hi) rfl
theorem fd_lanes_low {o n t : Nat} {e : Nat → Ent} (h : t < o) : fd t (lanes o n e) = .gone := fd_lanes_out fun i hi => by omega
theorem wkH_mem {τ : Nat → Nat} {h h' : Hp} : ∀ {G : Hp}, (∀ p ∈ G, wkE τ h' (fd (τ p.1) h) p.2) → wkH τ h h' G
  | [], _ => trivial
  | (t, e) :: G, H => ⟨H _ List.mem_cons_self, wkH_mem fun p hp => H p (List.mem_cons_of_mem _ hp)⟩
theorem wkH_lanes {τ : Nat → Nat} {h h' : Hp} {o n : Nat} {e : Nat → Ent} (H : ∀ i, i < n → wkE τ h' (fd (τ (i + o)) h) (e i)) : wkH τ h h' (lanes o n e) := by
  refine wkH_mem fun p hp => ?_
  obtain ⟨i, hi, rfl⟩ := lanes_mem.1 hp
  exact H i hi
theorem wkH_app {τ : Nat → Nat} {h h' : Hp} : ∀ {A B : Hp}, wkH τ h h' A → wkH τ h h' B → wkH τ h h' (A ++ B)
  | [], _, _, hB => hB
  | (_, _) :: _, _, hA, hB => ⟨hA.1, wkH_app hA.2 hB⟩
theorem roH_app : ∀ {A B : Hp}, roH (A ++ B) = roH A ++ roH B
  | [], _ => rfl
  | (t, e) :: A, B => congrArg ((t, e.toRo) :: ·) roH_app
theorem fd_appL {A B : Hp} {t : Nat} (h : t ∉ B.map (·.1)) : fd t (A ++ B) = fd t A := by
  rcases fd_app A B t with ⟨_, q⟩ | ⟨_, q, z⟩
  · exact q
  · rw [q, z]; exact fd_out h
theorem fd_appR {A B : Hp} {t : Nat} (h : t ∉ A.map (·.1)) : fd t (A ++ B) = fd t B := by
  rcases fd_app A B t with ⟨m, q⟩ | ⟨_, q, z⟩
  · exact absurd (memB_iff.1 m) h
  · exact q
theorem nodupB_of : ∀ {l : List Nat}, l.Nodup → nodupB l = true
  | [], _ => rfl
  | t :: r, h => by
    rw [List.nodup_cons] at h
    unfold nodupB
    cases e : memB t r with
    | true => exact absurd (memB_iff.1 e) h.1
    | false => exact nodupB_of h.2
/-- The keys of a heap that ends with the lanes: told anew under other tags, they differ. -/
theorem nodup_lanes {A : Hp} {τ : Nat → Nat} {o n : Nat} {e : Nat → Ent} (hA : nodupB ((A.map (·.1)).map τ) = true) (h1 : ∀ i j, i < n → j < n → τ (i + o) = τ (j + o) → i = j) (h2 : ∀ a ∈ A.map (·.1), ∀ i, i < n → τ a ≠ τ (i + o)) : nodupB (((A ++ lanes o n e).map (·.1)).map τ) = true := by
  refine nodupB_of ?_
  rw [List.map_append, List.map_append, List.nodup_append]
  refine ⟨nodupB_iff hA, ?_, ?_⟩
  · rw [lanes_keys, List.map_map]
    unfold List.Nodup
    rw [List.pairwise_map]
    refine (List.nodup_range).imp_of_mem fun {a b} ha hb hab q => hab (h1 a b (List.mem_range.1 ha) (List.mem_range.1 hb) q)
  · intro a ha b hb
    obtain ⟨x, hx, rfl⟩ := List.mem_map.1 ha
    obtain ⟨y, hy, rfl⟩ := List.mem_map.1 hb
    rw [lanes_keys, List.mem_map] at hy
    obtain ⟨i, hi, rfl⟩ := hy
    exact h2 x hx i (List.mem_range.1 hi)
end Go.Proofs.Ytkncijljkfpdiaa.Sx
