import Derived.Test.YtdjekplkejkgdaaSxW8
import Derived.RangeFuncNested
import Derived.RangeFuncBound
import Derived.RangeFuncCalls
import Derived.RangeFuncLeaves
import Derived.Shelf.Abstract
import Derived.Shelf.RegionOpen
import Derived.WalkKit
import Derived.OwnWalkIn
import Derived.TacticsInMore
import Derived.LoopNIn
import Derived.LoopIn
/-
  A shelf's lists are gone through by a range over a function: the iterator.
-/
namespace Go.Proofs.Ytdjekplkejkgdaa.Sx
open Go Go.Proofs
open Go.RowKit Go.Shelf
set_option maxRecDepth 100000
set_option linter.unusedSimpArgs false
set_option linter.unusedVariables false
attribute [local go_sem] Oper.semAt_some

/-- What the world holds of a shelf that is read: the row of nodes, who is ahead, who is held. -/
structure Lay (W : World) (bS bA : Nat) (s : Sh) : Prop where
  at_ : W.cell? ⟨bS, 0, none⟩ = some (.slice (some ⟨bA, 0, none⟩) s.N s.N)
  up : ∀ i, i < s.N → W.cell? ⟨bA, i * 5, none⟩ = some (.int .i64 (s.u i))
  he : ∀ i, i < s.N → W.cell? ⟨bA, i * 5 + 4, none⟩ = some (.bool (s.he i))

theorem Lay.below {n₀ : Nat} {A B : World} {bS bA : Nat} {s : Sh} (h : Below n₀ A B) (hS : bS < n₀) (hA : bA < n₀) (hl : Lay A bS bA s) : Lay B bS bA s :=
  ⟨(h.cell (p := ⟨bS, 0, none⟩) hS).trans hl.at_, fun i hi => (h.cell (p := ⟨bA, i * 5, none⟩) hA).trans (hl.up i hi), fun i hi => (h.cell (p := ⟨bA, i * 5 + 4, none⟩) hA).trans (hl.he i hi)⟩

theorem guard_in (F : Fence) (n : Nat) (hf : F.fn 25) (hro : F.round = none) (bS bA : Nat) (s : Sh) (q : Nat) (h3 : 3 ≤ s.N) (h1 : s.N ≤ 1000) (hq : q < 2) (w : World) (hL : Lay w bS bA s) :
    CallsIn F n Try.prog 25 #[.pointer (some ⟨bS, 0, none⟩), .int .i64 q] w fun e w' => e = .returned (.int .i64 (gd s q : Nat)) ∧ w' = w := by
  have h1' := hL.at_
  have hg : (s.N : Int) - 2 + (q : Int) = ((gd s q : Nat) : Int) := by unfold gd; omega
  refine callsIn_of_wp Try.func25 rfl hf ?_ hro
  simp only [Try.ntmps25, List.size_toArray, List.length_cons, List.length_nil, Nat.reduceAdd, Nat.reduceSub, Array.replicate_succ, Array.replicate_zero, List.push_toArray, List.append_toArray, List.nil_append, List.cons_append]
  gi_wp2
  go_ret
  exact ⟨rfl, rfl⟩

theorem right_in (F : Fence) (n : Nat) (hf : F.fn 32) (hro : F.round = none) (L : Int) (w : World) :
    CallsIn F n Try.prog 32 #[.int .i64 L] w fun e w' => e = .returned (.bool (rightB L)) ∧ w' = w := by
  refine callsIn_of_wp Try.func32 rfl hf ?_ hro
  simp only [Try.ntmps32, List.size_toArray, List.length_cons, List.length_nil, Nat.reduceAdd, Nat.reduceSub, Array.replicate_succ, Array.replicate_zero, List.push_toArray, List.append_toArray, List.nil_append, List.cons_append]
  gi_wp2
  · go_ret
    refine ⟨congrArg (fun z => Ending.returned (.bool z)) ?_, rfl⟩
    unfold rightB
    rw [decide_eq_true (show (0 : Int) ≤ L by assumption), Bool.true_and]
  · go_ret
    refine ⟨congrArg (fun z => Ending.returned (.bool z)) ?_, rfl⟩
    unfold rightB
    rw [decide_eq_false (show ¬ (0 : Int) ≤ L by omega), Bool.false_and]

theorem rise_in (F : Fence) (n : Nat) (hf : F.fn 33) (hro : F.round = none) (p : Option Addr) (L : Int) (w : World) :
    CallsIn F n Try.prog 33 #[.pointer p, .int .i64 L] w fun e w' => e = .returned (.func (.func 42) #[] #[.pointer (some ⟨w.heap.size, 0, none⟩), .pointer (some ⟨w.heap.size + 1, 0, none⟩)]) ∧
      w' = (w.alloc (.cells #[.pointer p] 24)).alloc (.cells #[.int .i64 L] 3) := by
  refine callsIn_of_wp Try.func33 rfl hf ?_ hro
  simp only [Try.ntmps33, List.size_toArray, List.length_cons, List.length_nil, Nat.reduceAdd, Nat.reduceSub, Array.replicate_succ, Array.replicate_zero, List.push_toArray, List.append_toArray, List.nil_append, List.cons_append]
  gi_wp2
  go_ret
  exact ⟨rfl, rfl⟩

abbrev Nd (s : Sh) := { m : Nat // m < s.N }
/-- From n on, towards the first: these, and then the guard. -/
def Lk (s : Sh) (g : Nat) : Int → List (Nd s) → Prop
  | n, [] => n = g
  | n, x :: xs => n = (x.1 : Int) ∧ x.1 ≠ g ∧ Lk s g (s.u x.1) xs
theorem Lk.unique {s : Sh} {g : Nat} : ∀ {n : Int} {xs ys : List (Nd s)}, Lk s g n xs → Lk s g n ys → xs = ys
  | _, [], [], _, _ => rfl
  | _, [], _ :: _, h, ⟨e, hne, _⟩ => absurd (e.symm.trans h) (fun e => hne (by omega))
  | _, _ :: _, [], ⟨e, hne, _⟩, h => absurd (e.symm.trans h) (fun e => hne (by omega))
  | _, x :: xs, y :: ys, ⟨e, _, h⟩, ⟨e', _, h'⟩ => by
    obtain rfl : x = y := Subtype.ext (by have := e.symm.trans e'; omega)
    rw [Lk.unique h h']
open Classical in
/-- How many are still to come. -/
noncomputable def left (s : Sh) (g : Nat) (v : Value) : Nat :=
  if h : ∃ r : Int × List (Nd s), v = .int .i64 r.1 ∧ Lk s g r.1 r.2 then (Classical.choose h).2.length else 0
theorem left_eq {s : Sh} {g : Nat} {n : Int} {xs : List (Nd s)} (h : Lk s g n xs) : left s g (.int .i64 n) = xs.length := by
  have hex : ∃ r : Int × List (Nd s), Value.int .i64 n = .int .i64 r.1 ∧ Lk s g r.1 r.2 := ⟨(n, xs), rfl, h⟩
  unfold left
  rw [dif_pos hex]
  obtain ⟨e, hl⟩ := Classical.choose_spec hex
  have e' : n = (Classical.choose hex).1 := by simpa using e
  rw [← e'] at hl
  rw [Lk.unique hl h]

/-- What a round that goes on keeps. -/
structure KpB (n₀ B1 : Nat) (A B : World) : Prop where
  below : Below n₀ A B
  box : B.heap[B1]? = A.heap[B1]?
theorem KpB.trans {n₀ B1 : Nat} {A B C : World} (h : KpB n₀ B1 A B) (k : KpB n₀ B1 B C) : KpB n₀ B1 A C := ⟨h.below.trans k.below, k.box.trans h.box⟩
theorem KpB.cell {n₀ B1 : Nat} {A B : World} (h : KpB n₀ B1 A B) : B.cell? ⟨B1, 0, none⟩ = A.cell? ⟨B1, 0, none⟩ := by unfold World.cell?; rw [h.box]

set_option maxHeartbeats 1000000 in
theorem rise1_in (F : Fence) (n : Nat) (hF : F.fn 42) (hF25 : F.fn 25) (hro : F.round = none) (hn : 2 ≤ n) (l B1 B2 n₀ bS bA : Nat) (s : Sh) (q : Nat) (h3 : 3 ≤ s.N) (h1 : s.N ≤ 1000) (hq : q < 2) (xs : List (Nd s)) (J Jx : List (Nd s) → World → Prop)
    (hS : bS < n₀) (hA : bA < n₀)
    (hY : ∀ pre x W, J pre W → pre.length < xs.length → YieldAt F (n - 1) Try.prog l #[.int .i64 (x.1 : Int)] W fun e W' =>
      (e = .returned (.bool true) ∧ J (pre ++ [x]) W' ∧ KpB n₀ B1 W W') ∨ (e = .returned (.bool false) ∧ Jx (pre ++ [x]) W'))
    (W : World) (hB1 : W.cell? ⟨B1, 0, none⟩ = some (.pointer (some ⟨bS, 0, none⟩))) (hB2 : W.cell? ⟨B2, 0, none⟩ = some (.int .i64 q)) (hL : Lay W bS bA s) (hX : Lk s (gd s q) (s.u (gd s q)) xs) (h0 : J [] W) :
    CallsIn F n Try.prog 42 #[.func (.yield l) #[] #[], .pointer (some ⟨B1, 0, none⟩), .pointer (some ⟨B2, 0, none⟩)] W fun e W' => (∃ v, e = .returned v) ∧
      ((∃ ys, ys = xs ∧ J ys W') ∨ (∃ pre, pre <+: xs ∧ Jx pre W')) := by
  have hat := hL.at_
  have h1n : 1 ≤ n := by omega
  have hg0 : gd s q < s.N := by unfold gd; omega
  have hgu := hL.up (gd s q) hg0
  refine callsIn_of_wp Try.func42 rfl hF ?_ hro
  simp only [Try.ntmps42, List.size_toArray, List.length_cons, List.length_nil, Nat.reduceAdd, Nat.reduceSub, Array.replicate_succ, Array.replicate_zero, List.push_toArray, List.append_toArray, List.nil_append, List.cons_append]
  gi_wp2_with (gi_at_call 25; refine (guard_in F (n - 1) hF25 hro bS bA s q h3 h1 hq _ hL).mono ?_; rintro e w' ⟨rfl, rfl⟩)
  gi_loopw [5] (fun p wr => ∃ (pre rest : List (Nd s)) (k : Int), p = .int .i64 k ∧ xs = pre ++ rest ∧ Lk s (gd s q) k rest ∧ J pre wr ∧ Lay wr bS bA s ∧ wr.cell? ⟨B1, 0, none⟩ = some (.pointer (some ⟨bS, 0, none⟩)))
    (fun p wr => left s (gd s q) p)
  case atStart =>
    exact ⟨[], xs, _, rfl, rfl, hX, h0, hL, hB1⟩
  case round =>
    clear hat hgu hL hB1 hB2 h0
    obtain ⟨pre, rest, k, rfl, hx, hl, hJs, hL, hB1⟩ := hrel
    have hat := hL.at_
    cases rest with
    | nil =>
      obtain rfl : k = gd s q := hl
      gi_wp2
      go_end0
      exact ⟨⟨_, rfl⟩, .inl ⟨pre, by simp [hx], hJs⟩⟩
    | cons x rest =>
      have hl' := hl
      obtain ⟨rfl, hne, hr⟩ := hl
      obtain ⟨m, hmN⟩ := x
      have hne : m ≠ gd s q := hne
      have hr : Lk s (gd s q) (s.u m) rest := hr
      obtain ⟨fn, tmps, assign, body, hy, hR⟩ := hY pre ⟨m, hmN⟩ wr hJs (by rw [hx]; simp)
      dsimp only at hy
      have hne' : (m : Int) ≠ ((gd s q : Nat) : Int) := by omega
      gi_wp2
      refine hR.mono ?_
      rintro e W3 (⟨rfl, hJ3, hk3⟩ | ⟨rfl, hJx3⟩)
      · have hL3 := hL.below hk3.below hS hA
        have hB3 := hk3.cell.trans hB1
        have hat3 := hL3.at_
        have hu3 := hL3.up m hmN
        clear hat hL hB1
        gi_wp2
        go_roundw
        case rel => exact ⟨pre ++ [⟨m, hmN⟩], rest, _, rfl, by simp [hx], hr, hJ3, hL3, hB3⟩
        case measure => rw [left_eq hr, left_eq hl']; simp
      · gi_wp2
        refine bodyPost_ret (results_none rfl _ _ _) rfl ?_
        exact ⟨⟨_, rfl⟩, .inr ⟨pre ++ [⟨m, hmN⟩], ⟨rest, by simp [hx]⟩, hJx3⟩⟩
theorem rise_stops (F : Fence) (n : Nat) (hF : F.fn 42) (hF25 : F.fn 25) (hro : F.round = none) (hn : 2 ≤ n) (B1 B2 n₀ bS bA : Nat) (s : Sh) (q : Nat) (h3 : 3 ≤ s.N) (h1 : s.N ≤ 1000) (hq : q < 2) (xs : List (Nd s))
    (hS : bS < n₀) (hA : bA < n₀) (w : World) (hb1 : B1 < w.heap.size) (hb2 : B2 < w.heap.size) (hn₀ : n₀ ≤ w.heap.size)
    (hB1 : w.cell? ⟨B1, 0, none⟩ = some (.pointer (some ⟨bS, 0, none⟩))) (hB2 : w.cell? ⟨B2, 0, none⟩ = some (.int .i64 q)) (hL : Lay w bS bA s) (hX : Lk s (gd s q) (s.u (gd s q)) xs) :
    SeqStopsK F n Try.prog 42 #[.pointer (some ⟨B1, 0, none⟩), .pointer (some ⟨B2, 0, none⟩)] (fun x : Nd s => #[Value.int .i64 (x.1 : Int)]) (KpB n₀ B1) (fun ys => ys = xs) (fun pre => pre <+: xs) xs.length w := fun l J Jx W hW _ _ hY h0 =>
  rise1_in F n hF hF25 hro hn l B1 B2 n₀ bS bA s q h3 h1 hq xs J Jx hS hA hY W ((hW.cell (p := ⟨B1, 0, none⟩) hb1).trans hB1) ((hW.cell (p := ⟨B2, 0, none⟩) hb2).trans hB2) (hL.below (hW.mono hn₀) hS hA) hX h0
theorem kpB_b {n₀ B1 : Nat} {w : World} (hn₀ : n₀ ≤ w.heap.size) (hb1 : B1 < w.heap.size) : ∀ (W : World) (l : Nat) (o o' : Obj), w.heap.size ≤ l → W.heap[l]? = some o → o.isCells = false → o.isWalk = false → KpB n₀ B1 W (W.putObj l o') :=
  fun W l o o' hl ho h1 h2 => ⟨belowK_b hn₀ W l o o' hl ho h1 h2, by rw [World.putObj_heap_other (by omega)]⟩
end Go.Proofs.Ytdjekplkejkgdaa.Sx
