import Derived.Test.YtmohokeeglnliaaDoorSxY
import Derived.Test.YtmohokeeglnliaaDoorSxF4
/-
  Slices of gauges, wherever they lie; the greatest of some gauges.
-/
namespace Go.Proofs.YtmohokeeglnliaaDoor.Sx
open Go Go.Proofs

/-- A slice of integers, wherever it lies. -/
def rdU (h : Hp) (v : V) (n : Nat) (f : Nat → Int) : Prop :=
  (v = .nils ∧ n = 0) ∨ ∃ t i c b N g, v = .slice t i n c ∧ fd t (roH h) = .ro b N 1 g ∧ i + n ≤ N ∧ ∃ F : Nat → Int, (∀ j, j < N → g j 0 = .int .u64 (F j)) ∧ ∀ j, j < n → f j = F (i + j)


/-- One slice of integers, told anew by the tag t0. -/
theorem rdU_one {h : Hp} {v : V} {n : Nat} {f : Nat → Int} (hv : rdU h v n f) (t0 : Nat) : ∃ (b : Option Addr) (N i c : Nat) (F : Nat → Int), i + n ≤ N ∧ (∀ j, j < n → f j = F (i + j)) ∧
    ∀ (cx : Cx) (w : World) (x : Value), Rel cx h w → vrel h v x → roOK w [(t0, .ro b N 1 (g1 .u64 F))] ∧ ∀ G : Hp, (fd t0 G).rf = some (.mem b 1) → vrel G (.slice t0 i n c) x := by
  rcases hv with ⟨rfl, rfl⟩ | ⟨t, i, c, b, N, g, rfl, e, hN, F, hF, hf⟩
  · refine ⟨none, 0, 0, 0, fun _ => 0, by omega, fun j hj => by omega, fun cx w x hr rx => ⟨⟨fun i k hi hk => by omega, trivial⟩, fun G eG => ⟨none, 1, eG, rx, .inr ⟨rfl, rfl⟩⟩⟩⟩
  · refine ⟨b, N, i, c, F, hN, hf, fun cx w x hr rx => ⟨⟨fun j k hj hk => ?_, trivial⟩, fun G eG => ?_⟩⟩
    · have H := hr.ro.holds t
      rw [e] at H
      obtain ⟨ad, y, e1, e2, e3, _⟩ := H j k hj hk
      obtain rfl : k = 0 := by omega
      rw [hF j hj] at e3
      exact ⟨ad, y, e1, e2, e3⟩
    · obtain ⟨base, sz, e1, e2, e3⟩ := rx
      have e4 : (fd t (roH h)).rf = (fd t h).rf := by rw [fd_roH, Ent.toRo_rf]
      rw [e1, e] at e4
      injection e4 with e4
      injection e4 with e4 e5
      subst e4 e5
      exact ⟨_, _, eG, e2, e3⟩

theorem toldU_one {h : Hp} {v : V} {n : Nat} {f : Nat → Int} {rest : List V} (hv : rdU h v n f) (hf : flatL rest) : ∃ (b : Option Addr) (N i c : Nat) (F : Nat → Int), i + n ≤ N ∧ (∀ j, j < n → f j = F (i + j)) ∧
    Told h (v :: rest) [(2000, .ro b N 1 (g1 .u64 F))] (.slice 2000 i n c :: rest) := by
  obtain ⟨b, N, i, c, F, h1, h2, h3⟩ := rdU_one hv 2000
  refine ⟨b, N, i, c, F, h1, h2, ⟨fun hr hvv => ?_⟩⟩
  obtain ⟨y, ys, rfl, ry, rys⟩ := hvv
  obtain ⟨k1, k2⟩ := h3 _ _ _ hr ry
  exact ⟨rel_ros k1 hr.qtabs, y, ys, rfl, k2 _ rfl, flatL_rel _ _ hf rys⟩


/-- The place of the greatest of the first n. -/
def bestN (f : Nat → Int) : Nat → Nat
  | 0 => 0
  | n + 1 => if 0 < cmpV (f n).toNat (f (bestN f n)).toNat then n else bestN f n
theorem bestN_le (f : Nat → Int) : ∀ n, bestN f n ≤ n - 1
  | 0 => Nat.le_refl _
  | n + 1 => by
    unfold bestN
    have := bestN_le f n
    split <;> omega
end Go.Proofs.YtmohokeeglnliaaDoor.Sx
