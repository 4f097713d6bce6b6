import Derived.Test.YtdjekplkejkgdaaSxW9
/-
  The walks of this seat's functions: Last.
-/
namespace Go.Proofs.Ytdjekplkejkgdaa.Sx
open Go Go.Proofs
open Go.RowKit Go.Shelf
set_option maxRecDepth 100000
set_option linter.unusedSimpArgs false
set_option linter.unusedVariables false
attribute [local go_sem] Oper.semAt_some

theorem cell_of_box_l {W : World} {B : Nat} {v : Value} {t : TypeId} (h : W.heap[B]? = some (.cells #[v] t (0, 0))) : W.cell? ⟨B, 0, none⟩ = some v ∧ W.frozen? ⟨B, 0, none⟩ = false := by
  constructor <;> simp [World.cell?, World.frozen?, h]
theorem cell_new_l (W : World) (v : Value) (t : TypeId) : (W.alloc (.cells #[v] t)).cell? ⟨W.heap.size, 0, none⟩ = some v ∧ (W.alloc (.cells #[v] t)).frozen? ⟨W.heap.size, 0, none⟩ = false :=
  cell_of_box_l (World.alloc_heap_new W _)
theorem cell_alloc_l {W : World} {a : Addr} {v : Value} (o : Obj) (h : W.cell? a = some v) : (W.alloc o).cell? a = some v := cell_kept h (World.grownBy_alloc W o none) (fun r e => by cases e)
theorem frozen_alloc_l {W : World} {a : Addr} {v : Value} (o : Obj) (h : W.cell? a = some v) (hf : W.frozen? a = false) : (W.alloc o).frozen? a = false := (frozen_kept h (World.grownBy_alloc W o none) (fun r e => by cases e)).trans hf

def lastOf (s : Sh) : List Nat → Int × Bool
  | [] => (0, false)
  | x :: xs => if s.he x = false then ((x : Int), true) else lastOf s xs
theorem lastOf_all {s : Sh} : ∀ {xs : List Nat}, (∀ y ∈ xs, s.he y = true) → lastOf s xs = (0, false)
  | [], _ => rfl
  | x :: xs, h => by
    rw [lastOf, if_neg (by rw [h x (by simp)]; decide)]
    exact lastOf_all fun y hy => h y (by simp [hy])
theorem lastOf_some {s : Sh} : ∀ {pre : List Nat} {x : Nat} {suf : List Nat}, (∀ y ∈ pre, s.he y = true) → s.he x = false → lastOf s (pre ++ x :: suf) = ((x : Int), true)
  | [], x, suf, _, hx => by show lastOf s (x :: suf) = _; rw [lastOf, if_pos hx]
  | y :: pre, x, suf, h, hx => by
    show lastOf s (y :: (pre ++ x :: suf)) = _
    rw [lastOf, if_neg (by rw [h y (by simp)]; decide)]
    exact lastOf_some (fun z hz => h z (by simp [hz])) hx

set_option maxHeartbeats 2000000 in
theorem last_in (F : Fence) (n : Nat) (hF : F.fn 17) (hF32 : F.fn 32) (hF33 : F.fn 33) (hF42 : F.fn 42) (hF25 : F.fn 25) (hro : F.round = none) (hn : 4 ≤ n) (bS bA : Nat) (s : Sh) (q : Nat) (h3 : 3 ≤ s.N) (h1 : s.N ≤ 1000) (hq : q < 2) (xs : List (Nd s))
    (w : World) (hS : bS < w.heap.size) (hA : bA < w.heap.size) (hL : Lay w bS bA s) (hX : Lk s (gd s q) (s.u (gd s q)) xs) :
    CallsIn F n Try.prog 17 #[.pointer (some ⟨bS, 0, none⟩), .int .i64 q] w fun e W' =>
      e = .returned (.tuple #[.int .i64 (lastOf s (xs.map (·.1))).1, .bool (lastOf s (xs.map (·.1))).2]) ∧ Below w.heap.size w W' := by
  have h1n : 1 ≤ n := by omega
  have hrq : rightB q = true := by unfold rightB; simp only [Bool.and_eq_true, decide_eq_true_eq]; omega
  refine callsIn_of_wp_marks Try.func17 rfl hF ?_ hro
  simp only [Try.ntmps17, List.size_toArray, List.length_cons, List.length_nil, Nat.reduceAdd, Nat.reduceSub, Array.replicate_succ, Array.replicate_zero, List.push_toArray, List.append_toArray, List.nil_append, List.cons_append]
  gi_wp2_with (first | (gi_at_call 32; refine (right_in F (n - 1) hF32 hro q _).mono ?_; rw [hrq]; rintro e w' ⟨rfl, rfl⟩) | (gi_at_call 33; refine (rise_in F (n - 1) hF33 hro _ _ _).mono ?_; rintro e w' ⟨rfl, rfl⟩))
  obtain ⟨w0, hw0⟩ : ∃ w0, (w.alloc (.cells #[.pointer (some ⟨bS, 0, none⟩)] 24)).alloc (.cells #[.int .i64 0] 3) = w0 := ⟨_, rfl⟩
  have hz0 : w0.heap.size = w.heap.size + 2 := by rw [← hw0]; simp
  have hB0 : Below w.heap.size w w0 := by rw [← hw0]; exact ((Below.refl _ w).alloc (Nat.le_refl _) _).alloc (by simp) _
  have d2 : w0.cell? ⟨w.heap.size, 0, none⟩ = some (.pointer (some ⟨bS, 0, none⟩)) := by rw [← hw0]; exact cell_alloc_l _ (cell_new_l _ _ _).1
  have d4 : w0.cell? ⟨w.heap.size + 1, 0, none⟩ = some (.int .i64 0) ∧ w0.frozen? ⟨w.heap.size + 1, 0, none⟩ = false := by rw [← hw0]; have := cell_new_l (w.alloc (.cells #[.pointer (some ⟨bS, 0, none⟩)] 24)) (.int .i64 0) 3; rwa [World.size_alloc] at this
  rw [hw0]
  obtain ⟨w1, hw1⟩ : ∃ w1, ((w0.alloc (.cells #[.bool false] 4)).alloc (.cells #[.pointer (some ⟨bS, 0, none⟩)] 24)).alloc (.cells #[.int .i64 q] 3) = w1 := ⟨_, rfl⟩
  have hz1 : w1.heap.size = w.heap.size + 5 := by rw [← hw1]; simp [hz0]
  have hB01 : Below w0.heap.size w0 w1 := by rw [← hw1]; exact (((Below.refl _ w0).alloc (Nat.le_refl _) _).alloc (by simp) _).alloc (by simp; omega) _
  have hB1 : Below w.heap.size w w1 := hB0.trans (hB01.mono hB0.size)
  have e2 : w1.cell? ⟨w.heap.size, 0, none⟩ = some (.pointer (some ⟨bS, 0, none⟩)) := (hB01.cell (p := ⟨w.heap.size, 0, none⟩) (by simp [hz0])).trans d2
  have e4 : w1.cell? ⟨w.heap.size + 1, 0, none⟩ = some (.int .i64 0) ∧ w1.frozen? ⟨w.heap.size + 1, 0, none⟩ = false := by
    rw [← hw1]
    exact ⟨cell_alloc_l _ (cell_alloc_l _ (cell_alloc_l _ d4.1)), frozen_alloc_l _ (cell_alloc_l _ (cell_alloc_l _ d4.1)) (frozen_alloc_l _ (cell_alloc_l _ d4.1) (frozen_alloc_l _ d4.1 d4.2))⟩
  have e5 : w1.cell? ⟨w.heap.size + 1 + 1, 0, none⟩ = some (.bool false) ∧ w1.frozen? ⟨w.heap.size + 1 + 1, 0, none⟩ = false := by
    rw [← hw1]
    have := cell_new_l w0 (.bool false) 4
    rw [hz0] at this
    exact ⟨cell_alloc_l _ (cell_alloc_l _ this.1), frozen_alloc_l _ (cell_alloc_l _ this.1) (frozen_alloc_l _ this.1 this.2)⟩
  have e6 : w1.cell? ⟨w.heap.size + 1 + 1 + 1, 0, none⟩ = some (.pointer (some ⟨bS, 0, none⟩)) := by
    rw [← hw1]
    have := cell_new_l (w0.alloc (.cells #[.bool false] 4)) (.pointer (some ⟨bS, 0, none⟩)) 24
    rw [World.size_alloc, hz0] at this
    exact cell_alloc_l _ this.1
  have e7 : w1.cell? ⟨w.heap.size + 1 + 1 + 1 + 1, 0, none⟩ = some (.int .i64 q) := by
    rw [← hw1]
    have := cell_new_l ((w0.alloc (.cells #[.bool false] 4)).alloc (.cells #[.pointer (some ⟨bS, 0, none⟩)] 24)) (.int .i64 q) 3
    rw [World.size_alloc, World.size_alloc, hz0] at this
    exact this.1
  rw [hw1]
  have hL1 : Lay w1 bS bA s := hL.below hB1 hS hA
  refine wpIn_rangeFunc_ownF hro h1n (gf := 42) (lb := #[.pointer (some ⟨w.heap.size + 1 + 1 + 1, 0, none⟩), .pointer (some ⟨w.heap.size + 1 + 1 + 1 + 1, 0, none⟩)]) rfl hF42 (enters_of Try.func42 (by kernel_rfl) rfl)
    (rise_stops F (n - 1) hF42 hF25 hro (by omega) (w.heap.size + 1 + 1 + 1) (w.heap.size + 1 + 1 + 1 + 1) w.heap.size bS bA s q h3 h1 hq xs hS hA w1 (by omega) (by omega) (by omega) e6 e7 hL1 hX)
    (fun h k => KpB.trans h k) (kpB_b (by omega) (by omega)) (Below.refl _ _) (fun _ => rfl)
    (fun pre W => ((∀ y ∈ pre, s.he y.1 = true) ∧ W.cell? ⟨w.heap.size, 0, none⟩ = some (.pointer (some ⟨bS, 0, none⟩)) ∧ (W.cell? ⟨w.heap.size + 1, 0, none⟩ = some (.int .i64 0) ∧ W.frozen? ⟨w.heap.size + 1, 0, none⟩ = false) ∧ (W.cell? ⟨w.heap.size + 1 + 1, 0, none⟩ = some (.bool false) ∧ W.frozen? ⟨w.heap.size + 1 + 1, 0, none⟩ = false)) ∧ Below w.heap.size w W)
    (fun c pre W => (∃ pre' x, c = .ret ∧ pre = pre' ++ [x] ∧ (∀ y ∈ pre', s.he y.1 = true) ∧ s.he x.1 = false ∧ W.cell? ⟨w.heap.size + 1, 0, none⟩ = some (.int .i64 (x.1 : Int)) ∧ W.cell? ⟨w.heap.size + 1 + 1, 0, none⟩ = some (.bool true)) ∧ Below w.heap.size w W)
    (OwnFrom.and (Own.from (fun s A B row hs hg hr => ⟨hs.1, cell_kept hs.2.1 hg hr, ⟨cell_kept hs.2.2.1.1 hg hr, (frozen_kept hs.2.2.1.1 hg hr).trans hs.2.2.1.2⟩, cell_kept hs.2.2.2.1 hg hr, (frozen_kept hs.2.2.2.1 hg hr).trans hs.2.2.2.2⟩) _) (ownFrom_below (Nat.le_refl _) (by omega)))
    (fun c => OwnFrom.and (Own.from (fun s A B row hs hg hr => let ⟨p, x, h1, h2, h3, h4, h5, h6⟩ := hs; ⟨p, x, h1, h2, h3, h4, cell_kept h5 hg hr, cell_kept h6 hg hr⟩) _) (ownFrom_below (Nat.le_refl _) (by omega)))
    ⟨⟨by simp, e2, e4, e5⟩, hB1⟩
    (fun x => { tmps := #[.pointer (some ⟨bS, 0, none⟩), .int .i64 q, .pointer (some ⟨w.heap.size, 0, none⟩), undef, .pointer (some ⟨w.heap.size + 1, 0, none⟩), .pointer (some ⟨w.heap.size + 1 + 1, 0, none⟩), .int .i64 (x.1 : Int), .int .i64 q, .bool true, .bool false, .pointer (some ⟨bS, 0, none⟩), .int .i64 q, .func (.func 42) #[] #[.pointer (some ⟨w.heap.size + 1 + 1 + 1, 0, none⟩), .pointer (some ⟨w.heap.size + 1 + 1 + 1 + 1, 0, none⟩)], .int .i64 (x.1 : Int), undef, undef, undef, undef, undef, undef, undef, undef, undef, undef], defers := [] }) ?assign ?body ?done ?stop
  case assign =>
    intro l x W K hK
    gi_wp2
    exact hK
  case body =>
    rintro l pre ⟨m, hm⟩ W ⟨⟨hall, hc2, ⟨hc4, hf4⟩, hc5, hf5⟩, hB⟩ _
    have hLW := hL.below hB hS hA
    have hat := hLW.at_
    have hhe := hLW.he m hm
    dsimp only
    gi_wp2
    · rename_i hx
      have hx : s.he m = false := by simpa using hx
      have g5 : (W.setCell ⟨w.heap.size + 1, 0, none⟩ (.int .i64 (m : Int))).cell? ⟨w.heap.size + 1 + 1, 0, none⟩ = some (.bool false) := (World.cell?_setCell_other _ _ _ _ (by simp)).trans hc5
      refine ⟨(KeepsOthers.setCell _ _ _).trans (KeepsOthers.setCell _ _ _), ⟨pre, ⟨m, hm⟩, rfl, rfl, hall, hx, ?_, World.cell?_setCell_same' _ _ _ (by rw [g5]; rfl)⟩, (hB.setCell (p := ⟨w.heap.size + 1, 0, none⟩) (by simp) _).setCell (p := ⟨w.heap.size + 1 + 1, 0, none⟩) (by simp; omega) _⟩
      exact (World.cell?_setCell_other _ _ _ _ (by simp)).trans (World.cell?_setCell_same' _ _ _ (by rw [hc4]; rfl))
    · rename_i hx
      have hx : s.he m = true := by simpa using hx
      refine ⟨KeepsOthers.refl _, ⟨Below.refl _ _, rfl⟩, ⟨fun y hy => ?_, hc2, ⟨hc4, hf4⟩, hc5, hf5⟩, hB⟩
      rcases List.mem_append.1 hy with h | h
      · exact hall y h
      · rw [List.mem_singleton.1 h]; exact hx
  case done =>
    rintro D ys W hD rfl ⟨⟨hall, hc2, ⟨hc4, hf4⟩, hc5, hf5⟩, hB⟩ hK
    gi_wp2
    have hK1 := (KeepsOthers.setCell W ⟨w.heap.size + 1, 0, none⟩ (.int .i64 0)).same D _ hK rfl
    have hK2 := (KeepsOthers.setCell (W.setCell ⟨w.heap.size + 1, 0, none⟩ (.int .i64 0)) ⟨w.heap.size + 1 + 1, 0, none⟩ (.bool false)).same D _ hK1 rfl
    refine ⟨by simp, .inl ⟨_, _, rfl, run_takeDeferred hK2, ?_⟩⟩
    have g5 : (W.setCell ⟨w.heap.size + 1, 0, none⟩ (.int .i64 0)).cell? ⟨w.heap.size + 1 + 1, 0, none⟩ = some (.bool false) := (World.cell?_setCell_other _ _ _ _ (by simp)).trans hc5
    have r5 := cell_kept (World.cell?_setCell_same' (W.setCell ⟨w.heap.size + 1, 0, none⟩ (.int .i64 0)) ⟨w.heap.size + 1 + 1, 0, none⟩ (.bool false) (by rw [g5]; rfl)) (grownBy_putObj' _ D (.deferred none)) (fun r e => by cases e; exact ⟨_, hK2, rfl⟩)
    have g4 : ((W.setCell ⟨w.heap.size + 1, 0, none⟩ (.int .i64 0)).setCell ⟨w.heap.size + 1 + 1, 0, none⟩ (.bool false)).cell? ⟨w.heap.size + 1, 0, none⟩ = some (.int .i64 0) := (World.cell?_setCell_other _ _ _ _ (by simp)).trans (World.cell?_setCell_same' _ _ _ (by rw [hc4]; rfl))
    have r4 := cell_kept g4 (grownBy_putObj' _ D (.deferred none)) (fun r e => by cases e; exact ⟨_, hK2, rfl⟩)
    refine ⟨.tuple #[.int .i64 0, .bool false], ?_, ?_, ((hB.setCell (p := ⟨w.heap.size + 1, 0, none⟩) (by simp) _).setCell (p := ⟨w.heap.size + 1 + 1, 0, none⟩) (by simp; omega) _).trans (belowK_b (w := w) (Nat.le_refl _) _ D _ _ (by omega) hK2 rfl rfl)⟩
    · simp [results, Try.f17, go_sem, r4, r5]
    · rw [lastOf_all (fun y hy => by obtain ⟨z, hz, rfl⟩ := List.mem_map.1 hy; exact hall z hz)]
  case stop =>
    rintro D c pre W hD hpre ⟨⟨pre', x, rfl, rfl, hall, hx, hc4, hc5⟩, hB⟩ hK
    gi_wp2
    refine ⟨by simp, .inl ⟨_, _, rfl, run_takeDeferred hK, ?_⟩⟩
    have r5 := cell_kept hc5 (grownBy_putObj' _ D (.deferred none)) (fun r e => by cases e; exact ⟨_, hK, rfl⟩)
    have r4 := cell_kept hc4 (grownBy_putObj' _ D (.deferred none)) (fun r e => by cases e; exact ⟨_, hK, rfl⟩)
    refine ⟨.tuple #[.int .i64 (x.1 : Int), .bool true], ?_, ?_, hB.trans (belowK_b (w := w) (Nat.le_refl _) W D _ _ (by omega) hK rfl rfl)⟩
    · simp [results, Try.f17, go_sem, r4, r5]
    · obtain ⟨suf, rfl⟩ := hpre
      have e : (pre' ++ [x] ++ suf).map (fun y : Nd s => y.1) = pre'.map (·.1) ++ x.1 :: suf.map (·.1) := by simp
      rw [e, lastOf_some (fun y hy => by obtain ⟨z, hz, rfl⟩ := List.mem_map.1 hy; exact hall z hz) hx]
end Go.Proofs.Ytdjekplkejkgdaa.Sx
