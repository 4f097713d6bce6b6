import Derived.Test.YtdjekplkejkgdaaSxWA
import Derived.Test.YtdjekplkejkgdaaSxRv
import Derived.RangeFuncBox
import Derived.Maps.AppendAt
/-
  The walks of this seat's functions: List.
-/
namespace Go.Proofs.Ytdjekplkejkgdaa.Sx
open Go Go.Proofs
open Go.RowKit Go.Shelf
set_option maxRecDepth 100000
set_option linter.unusedSimpArgs false
set_option linter.unusedVariables false
attribute [local go_sem] Oper.semAt_some

theorem info3 : (Try.prog.info? 3).map (fun i => (i.zero, i.size, i.bytes)) = some (some (.int .i64 0), 1, 8) := by kernel_rfl

/-- A slice of integers of the call's own. -/
def RowAt (W : World) (base : Nat) (v : Value) (zs : List Int) : Prop :=
  (zs = [] ∧ v = .slice none 0 0) ∨ (zs ≠ [] ∧ ∃ g cap cur, v = .slice (some ⟨g, 0, none⟩) zs.length cap ∧ base ≤ g ∧ W.heap[g]? = some (.cells cur 3 (0, 0)) ∧ zs.length ≤ cap ∧ cap ≤ maxLen ∧ cur.size = cap ∧
    ∀ i (h : i < zs.length), cur[i]? = some (.int .i64 zs[i]))

/-- What stood in a row, turned round. -/
theorem rowAt_put {W : World} {g n : Nat} {cur : Array Value} {zs : List Int} (h1 : W.heap[g]? = some (.cells cur 3 (0, 0))) (hz : zs.length ≤ cur.size) :
    ∃ cur', (Sort.putRow (Value.int .i64) (Sort.ahead W n) g 0 zs.reverse.toArray).heap[g]? = some (.cells cur' 3 (0, 0)) ∧ cur'.size = cur.size ∧ ∀ i (h : i < zs.reverse.length), cur'[i]? = some (.int .i64 zs.reverse[i]) := by
  refine ⟨Sort.putCells (Value.int .i64) 0 zs.reverse.toArray cur, ?_, ?_, ?_⟩
  · unfold Sort.putRow Sort.mapBlock
    show ((W.heap.modify g _)[g]?) = _
    rw [Array.getElem?_modify, if_pos rfl, h1]
    rfl
  · simp [Sort.putCells]
  · intro i hi
    have hi2 : i < cur.size := by simp at hi; omega
    unfold Sort.putCells
    rw [Array.getElem?_mapIdx, Array.getElem?_eq_getElem hi2, Option.map_some, if_pos ⟨by omega, by simpa using hi⟩]
    rw [Nat.sub_zero, getElem!_pos _ i (by simpa using hi)]
    simp
theorem below_put {B : Nat} {W : World} {g n off : Nat} {d : Array Int} (hg : B ≤ g) : Below B W (Sort.putRow (Value.int .i64) (Sort.ahead W n) g off d) := by
  refine ⟨rfl, rfl, rfl, by simp [Sort.ahead], fun k hk => ?_⟩
  unfold Sort.putRow Sort.mapBlock
  show ((W.heap.modify g _)[k]?) = _
  rw [Array.getElem?_modify, if_neg (by omega)]

theorem heap_put {W : World} {g n off k : Nat} {d : Array Int} (hk : k ≠ g) : (Sort.putRow (Value.int .i64) (Sort.ahead W n) g off d).heap[k]? = W.heap[k]? := by
  unfold Sort.putRow Sort.mapBlock
  show ((W.heap.modify g _)[k]?) = _
  rw [Array.getElem?_modify, if_neg (by omega)]

theorem reverse_row {W : World} {g cap : Nat} {cur : Array Value} {zs : List Int} (hgb : W.heap[g]? = some (.cells cur 3 (0, 0))) (hz : zs.length ≤ cur.size) (hz2 : zs.length ≤ 1000) (hc : ∀ i (h : i < zs.length), cur[i]? = some (.int .i64 zs[i])) :
    Calls Try.prog 34 #[.slice (some ⟨g, 0, none⟩) zs.length cap] W fun e w' => e = .returned (.tuple #[]) ∧ (∃ cur', w'.heap[g]? = some (.cells cur' 3 (0, 0)) ∧ cur'.size = cur.size ∧ ∀ i (h : i < zs.reverse.length), cur'[i]? = some (.int .i64 zs.reverse[i])) ∧
      (∀ k, k ≠ g → w'.heap[k]? = W.heap[k]?) ∧ ∀ B, B ≤ g → Below B W w' := by
  have hH : Sort.Holds (Value.int .i64) W g 0 zs.toArray := by
    intro j hj
    simp at hj
    refine ⟨?_, by simp [World.frozen?, hgb]⟩
    simp only [World.cell?, hgb, Nat.zero_add]
    rw [hc j hj]
    simp [getElem!_pos, hj]
  refine (reverse_ok g 0 cap zs W hH (by omega)).mono ?_
  rintro e w' ⟨rfl, k, rfl⟩
  exact ⟨rfl, rowAt_put hgb hz, fun k hk => heap_put hk, fun B hB => below_put hB⟩

set_option maxHeartbeats 2000000 in
theorem list_in (F : Fence) (n : Nat) (hF : F.fn 14) (hF32 : F.fn 32) (hF33 : F.fn 33) (hF42 : F.fn 42) (hF25 : F.fn 25) (hF34 : F.fn 34) (hro : F.round = none) (hn : 4 ≤ n) (hR : ∀ args w R, Calls Try.prog 34 args w R → CallsIn F (n - 1) Try.prog 34 args w R)
    (bS bA : Nat) (s : Sh) (q : Nat) (h3 : 3 ≤ s.N) (h1 : s.N ≤ 1000) (hq : q < 2) (xs : List (Nd s)) (hlen : xs.length ≤ 1000)
    (w : World) (hS : bS < w.heap.size) (hA : bA < w.heap.size) (hL : Lay w bS bA s) (hX : Lk s (gd s q) (s.u (gd s q)) xs) :
    CallsIn F n Try.prog 14 #[.pointer (some ⟨bS, 0, none⟩), .int .i64 q] w fun e W' =>
      ∃ v, e = .returned v ∧ RowAt W' w.heap.size v (xs.map fun x => (x.1 : Int)).reverse ∧ Below w.heap.size w W' := by
  have h1n : 1 ≤ n := by omega
  have hrq : rightB q = true := by unfold rightB; simp only [Bool.and_eq_true, decide_eq_true_eq]; omega
  obtain ⟨i0, hi, hz0, hz1, hz2⟩ := info_parts info3
  refine callsIn_of_wp_marks Try.func14 rfl hF ?_ hro
  simp only [Try.ntmps14, List.size_toArray, List.length_cons, List.length_nil, Nat.reduceAdd, Nat.reduceSub, Array.replicate_succ, Array.replicate_zero, List.push_toArray, List.append_toArray, List.nil_append, List.cons_append]
  gi_wp2_with (first | (gi_at_call 32; refine (right_in F (n - 1) hF32 hro q _).mono ?_; rw [hrq]; rintro e w' ⟨rfl, hw'⟩; obtain rfl := hw'.symm) | (gi_at_call 33; refine (rise_in F (n - 1) hF33 hro _ _ _).mono ?_; rintro e w' ⟨rfl, rfl⟩))
  have b0 := Boxed.new w 36 (.slice none 0 0)
  have b1 := Boxed.new (w.alloc (.cells #[.slice none 0 0] 36)) 24 (.pointer (some ⟨bS, 0, none⟩))
  have b2 := Boxed.new ((w.alloc (.cells #[.slice none 0 0] 36)).alloc (.cells #[.pointer (some ⟨bS, 0, none⟩)] 24)) 3 (.int .i64 q)
  simp only [World.size_alloc] at b1 b2
  have hB1 : Below w.heap.size w (((w.alloc (.cells #[.slice none 0 0] 36)).alloc (.cells #[.pointer (some ⟨bS, 0, none⟩)] 24)).alloc (.cells #[.int .i64 q] 3)) := (((Below.refl _ w).alloc (Nat.le_refl _) _).alloc (by simp) _).alloc (by simp; omega) _
  have hz1' : (((w.alloc (.cells #[.slice none 0 0] 36)).alloc (.cells #[.pointer (some ⟨bS, 0, none⟩)] 24)).alloc (.cells #[.int .i64 q] 3)).heap.size = w.heap.size + 3 := by simp
  have b0 := (b0.alloc (.cells #[.pointer (some ⟨bS, 0, none⟩)] 24)).alloc (.cells #[.int .i64 q] 3)
  have b1 := b1.alloc (.cells #[.int .i64 q] 3)
  obtain ⟨w1, hw1⟩ : ∃ w1, ((w.alloc (.cells #[.slice none 0 0] 36)).alloc (.cells #[.pointer (some ⟨bS, 0, none⟩)] 24)).alloc (.cells #[.int .i64 q] 3) = w1 := ⟨_, rfl⟩
  rw [hw1] at b0 b1 b2 hB1 hz1' ⊢
  have hL1 : Lay w1 bS bA s := hL.below hB1 hS hA
  refine wpIn_rangeFunc_ownF hro h1n (gf := 42) (lb := #[.pointer (some ⟨w.heap.size + 1, 0, none⟩), .pointer (some ⟨w.heap.size + 1 + 1, 0, none⟩)]) rfl hF42 (enters_of Try.func42 (by kernel_rfl) rfl)
    (rise_stops F (n - 1) hF42 hF25 hro (by omega) (w.heap.size + 1) (w.heap.size + 1 + 1) w.heap.size bS bA s q h3 h1 hq xs hS hA w1 (by omega) (by omega) (by omega) b1.cell b2.cell hL1 hX)
    (fun h k => KpB.trans h k) (kpB_b (by omega) (by omega)) (Below.refl _ _) (fun _ => rfl)
    (fun pre W => ((∃ v, Boxed W w.heap.size 36 v ∧ W.ownsRow w.heap.size 3 1 v pre.length (pre.map fun x => Value.int .i64 (x.1 : Int)) ∧ (v = .slice none 0 0 ↔ pre = [])) ∧ Boxed W (w.heap.size + 1) 24 (.pointer (some ⟨bS, 0, none⟩))) ∧ Below w.heap.size w W)
    (fun _ _ _ => False)
    (OwnFrom.and (OwnFrom.and (Own.from (holdsRow_own w.heap.size w.heap.size 36 3 1 (fun pre => pre.length) (fun pre => pre.map fun x : Nd s => Value.int .i64 (x.1 : Int)) (fun pre v => v = .slice none 0 0 ↔ pre = [])) _) (Own.from (boxed_own _ _ _) _)) (ownFrom_below (Nat.le_refl _) (by omega)))
    (fun _ _ _ _ _ hs _ _ => hs)
    ⟨⟨⟨_, b0, World.ownsRow_nil _ _ _ _, by simp⟩, b1⟩, hB1⟩
    (fun x => { tmps := #[.pointer (some ⟨bS, 0, none⟩), .int .i64 q, undef, undef, .slice none 0 0, .pointer (some ⟨w.heap.size, 0, none⟩), .int .i64 (x.1 : Int), .int .i64 q, .bool true, .bool false, .pointer (some ⟨bS, 0, none⟩), .int .i64 q, .func (.func 42) #[] #[.pointer (some ⟨w.heap.size + 1, 0, none⟩), .pointer (some ⟨w.heap.size + 1 + 1, 0, none⟩)], .int .i64 (x.1 : Int), undef, undef, undef, undef, undef, undef, undef], defers := [] }) ?assign ?body ?done ?stop
  case assign =>
    intro l x W K hK
    gi_wp2
    exact hK
  case body =>
    rintro l pre ⟨m, hm⟩ W ⟨⟨⟨v, hv, hrow, hnil⟩, hb⟩, hB⟩ hlt
    have hc := hv.cell
    dsimp only
    gi_wp2_with (gi_at_builtin; refine wpListIn_append_own _ rfl _ _ 36 rfl w.heap.size 3 i0 (.int .i64 0) 1 8 Try.underlying36 hi hz0 hz1 hz2 rfl (by decide) _ _ _ rfl (hrow.alloc _) ⟨W.heap.size, 0, none⟩ 1 1 [.int .i64 (m : Int)] rfl rfl (cell_one_new _ _ _) (by simp [Value.oneCell']) (by unfold maxLen; omega) (by omega) (by have := hB.size; simp; omega) ?_; intro v' w2 hown' hgrow _; obtain ⟨g', cap', rfl⟩ := ownsRow_succ hown'; have hbw := (hb.alloc _).kept hgrow (hb.not_row (by decide) hrow); obtain ⟨hv1, hv2, hr2, hk2, hb2⟩ := hv.appended (by decide) hrow hB.size (Nat.le_refl _) hown' hgrow; have hc1 := hv1.cell; have hf1 := hv1.frozen)
    have hbw2 := hbw.other (B' := w.heap.size) (by omega) (Value.slice (some ⟨g', 0, none⟩) (pre.length + 1) cap')
    exact ⟨hk2, ⟨hb2, by rw [show _ = _ from hbw2, show _ = _ from hb]⟩, ⟨⟨_, hv2, by simpa using hr2, by simp⟩, hbw2⟩, hB.trans hb2⟩
  case done =>
    rintro D ys W hD rfl ⟨⟨⟨v, hv, hrow, hnil⟩, hb⟩, hB⟩ hK
    have hc := hv.cell
    have hf := hv.frozen
    have hDne : D ≠ w.heap.size := by omega
    rcases hrow.2 with ⟨rfl, h0⟩ | ⟨g, cap, cur, rfl, hg, hgb, hle, hcap, hcs, htk⟩
    · have hys : ys = [] := List.eq_nil_of_length_eq_zero h0
      subst hys
      have hcall := hR _ _ _ (reverse_nil none 0 W)
      gi_wp2_with (gi_at_call 34; refine hcall.mono ?_; rintro e w' ⟨rfl, hw'⟩; obtain rfl := hw'.symm)
      refine ⟨by simp, .inl ⟨_, _, rfl, run_takeDeferred hK, ?_⟩⟩
      exact ⟨_, results_tmp rfl _ _ _, _, rfl, .inl ⟨rfl, rfl⟩, hB.trans (belowK_b (w := w) (Nat.le_refl _) W D _ _ (by omega) hK rfl rfl)⟩
    · have hyl : ys ≠ [] := by intro e; have := hnil.2 e; cases this
      obtain ⟨zs, hzs⟩ : ∃ zs, (ys.map fun x => (x.1 : Int)) = zs := ⟨_, rfl⟩
      have hzl : zs.length = ys.length := by rw [← hzs]; simp
      have hzn : zs ≠ [] := fun e => hyl (List.eq_nil_of_length_eq_zero (by rw [← hzl, e]; rfl))
      have hmap : (ys.map fun x => Value.int .i64 (x.1 : Int)) = zs.map (Value.int .i64) := by rw [← hzs, List.map_map]; rfl
      have hcells : ∀ i (h : i < zs.length), cur[i]? = some (.int .i64 zs[i]) := by
        intro j hj
        rw [hmap] at htk
        have := congrArg (fun l => l[j]?) htk
        simp only [Nat.mul_one] at this
        rw [List.getElem?_take, if_pos (by omega), List.getElem?_map, List.getElem?_eq_getElem (l := zs) hj] at this
        rw [← Array.getElem?_toList, this]
        rfl
      have hcall := reverse_row (cap := cap) hgb (by omega) (by omega) hcells
      rw [hzl] at hcall
      have hne2 : w.heap.size ≠ g := by
        intro e
        have := (show W.heap[w.heap.size]? = _ from hv).symm.trans (e ▸ hgb)
        simp at this
      have hcall := hR _ _ _ hcall
      gi_wp2_with (gi_at_call 34; refine hcall.mono ?_; rintro e w' ⟨rfl, ⟨cur', p1, p2, p3⟩, p4, p5⟩; have hv' : Boxed w' w.heap.size 36 (Value.slice (some ⟨g, 0, none⟩) ys.length cap) := Eq.trans (p4 _ hne2) hv; have hc' := hv'.cell; have hf' := hv'.frozen)
      have hDg : D ≠ g := by rintro rfl; rw [hgb] at hK; cases hK
      have hK' : w'.heap[D]? = some (.deferred (some [])) := by rw [p4 D hDg]; exact hK
      refine ⟨by simp, .inl ⟨_, _, rfl, run_takeDeferred hK', ?_⟩⟩
      refine ⟨_, results_tmp rfl _ _ _, _, rfl, (by rw [hzs]; exact .inr ⟨by simpa using hzn, g, cap, cur', by simp [hzl], hg, by rw [World.putObj_heap_other (by omega)]; exact p1, by simp; omega, hcap, by rw [p2, hcs, Nat.mul_one], p3⟩), (hB.trans (p5 _ hg)).trans (belowK_b (w := w) (Nat.le_refl _) w' D _ _ (by omega) hK' rfl rfl)⟩
  case stop =>
    rintro D c pre W _ _ h _
    exact h.elim
end Go.Proofs.Ytdjekplkejkgdaa.Sx
