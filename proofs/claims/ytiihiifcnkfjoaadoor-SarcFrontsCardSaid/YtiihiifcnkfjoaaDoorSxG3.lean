import Derived.Shelf.Slices.Reverse
import Derived.Test.YtiihiifcnkfjoaaDoorProg
import Derived.RangeFuncBox
import Derived.Maps.AppendAt
import Derived.Test.YtiihiifcnkfjoaaDoorSxG2
/-
  The library's slices.Reverse at this program.
-/
namespace Go.Proofs.YtiihiifcnkfjoaaDoor.Sx
open Go Go.Proofs
open Go.Shelf Go.RowKit
def ren112 : Go.Shelf.Ren := ⟨fun | 112 => 60 | n => n, fun | 28 => 35 | n => n, fun n => n⟩
theorem lays112 : Go.Proofs.Lays.n112 Tryd.prog ren112 := {
  mixed := by kernel_rfl
  f112 := Tryd.func60.trans (congrArg some (by kernel_rfl))
  t0 := Tryd.underlying0
  a0 := Tryd.isAgg0
  z0 := Tryd.sizeOf0
  v0 := Tryd.zeroValue0
  t3 := Tryd.underlying3
  a3 := Tryd.isAgg3
  z3 := Tryd.sizeOf3
  v3 := Tryd.zeroValue3
  t4 := Tryd.underlying4
  a4 := Tryd.isAgg4
  z4 := Tryd.sizeOf4
  v4 := Tryd.zeroValue4
  t28 := Tryd.underlying35
  a28 := Tryd.isAgg35
  z28 := Tryd.sizeOf35
  v28 := Tryd.zeroValue35
}
theorem reverse_ok (blk off cap : Nat) (zs : List Int) (w : World) (hH : Sort.Holds (Value.int .i64) w blk off zs.toArray) (hsz : zs.length ≤ 9223372036854775807) :
    Calls Tryd.prog 60 #[.slice (some ⟨blk, off, none⟩) zs.length cap] w fun e w' => e = .returned (.tuple #[]) ∧ ∃ n, w' = Sort.putRow (Value.int .i64) (Sort.ahead w n) blk off zs.reverse.toArray :=
  Any.slices_Reverse_int lays112 blk off cap zs w hH hsz
theorem reverse_nil (a : Option Addr) (cap : Nat) (w : World) :
    Calls Tryd.prog 60 #[.slice a 0 cap] w fun e w' => e = .returned (.tuple #[]) ∧ w' = w :=
  Any.slices_Reverse_int_empty lays112 a cap w
end Go.Proofs.YtiihiifcnkfjoaaDoor.Sx

/-
  The walks of this seat's functions: List.
-/
namespace Go.Proofs.YtiihiifcnkfjoaaDoor.Sx
open Go Go.Proofs
open Go.RowKit Go.Shelf
set_option maxRecDepth 100000
set_option linter.unusedSimpArgs false
set_option linter.unusedVariables false
attribute [local go_sem] Oper.semAt_some

theorem info3 : (Tryd.prog.info? 3).map (fun i => (i.zero, i.size, i.bytes)) = some (some (.int .i64 0), 1, 8) := by kernel_rfl

/-- A slice of integers of the call's own. -/
def RowAt (W : World) (base : Nat) (v : Value) (zs : List Int) : Prop :=
  (zs = [] ∧ v = .slice none 0 0) ∨ (zs ≠ [] ∧ ∃ g cap cur, v = .slice (some ⟨g, 0, none⟩) zs.length cap ∧ base ≤ g ∧ W.heap[g]? = some (.cells cur 3 (0, 0)) ∧ zs.length ≤ cap ∧ cap ≤ maxLen ∧ cur.size = cap ∧
    ∀ i (h : i < zs.length), cur[i]? = some (.int .i64 zs[i]))

/-- What stood in a row, turned round. -/
theorem rowAt_put {W : World} {g n : Nat} {cur : Array Value} {zs : List Int} (h1 : W.heap[g]? = some (.cells cur 3 (0, 0))) (hz : zs.length ≤ cur.size) :
    ∃ cur', (Sort.putRow (Value.int .i64) (Sort.ahead W n) g 0 zs.reverse.toArray).heap[g]? = some (.cells cur' 3 (0, 0)) ∧ cur'.size = cur.size ∧ ∀ i (h : i < zs.reverse.length), cur'[i]? = some (.int .i64 zs.reverse[i]) := by
  refine ⟨Sort.putCells (Value.int .i64) 0 zs.reverse.toArray cur, ?_, ?_, ?_⟩
  · unfold Sort.putRow Sort.mapBlock
    show ((W.heap.modify g _)[g]?) = _
    rw [Array.getElem?_modify, if_pos rfl, h1]
    rfl
  · simp [Sort.putCells]
  · intro i hi
    have hi2 : i < cur.size := by simp at hi; omega
    unfold Sort.putCells
    rw [Array.getElem?_mapIdx, Array.getElem?_eq_getElem hi2, Option.map_some, if_pos ⟨by omega, by simpa using hi⟩]
    rw [Nat.sub_zero, getElem!_pos _ i (by simpa using hi)]
    simp
theorem below_put {B : Nat} {W : World} {g n off : Nat} {d : Array Int} (hg : B ≤ g) : Below B W (Sort.putRow (Value.int .i64) (Sort.ahead W n) g off d) := by
  refine ⟨rfl, rfl, rfl, by simp [Sort.ahead], fun k hk => ?_⟩
  unfold Sort.putRow Sort.mapBlock
  show ((W.heap.modify g _)[k]?) = _
  rw [Array.getElem?_modify, if_neg (by omega)]

theorem heap_put {W : World} {g n off k : Nat} {d : Array Int} (hk : k ≠ g) : (Sort.putRow (Value.int .i64) (Sort.ahead W n) g off d).heap[k]? = W.heap[k]? := by
  unfold Sort.putRow Sort.mapBlock
  show ((W.heap.modify g _)[k]?) = _
  rw [Array.getElem?_modify, if_neg (by omega)]

theorem reverse_row {W : World} {g cap : Nat} {cur : Array Value} {zs : List Int} (hgb : W.heap[g]? = some (.cells cur 3 (0, 0))) (hz : zs.length ≤ cur.size) (hz2 : zs.length ≤ 1000) (hc : ∀ i (h : i < zs.length), cur[i]? = some (.int .i64 zs[i])) :
    Calls Tryd.prog 60 #[.slice (some ⟨g, 0, none⟩) zs.length cap] W fun e w' => e = .returned (.tuple #[]) ∧ (∃ cur', w'.heap[g]? = some (.cells cur' 3 (0, 0)) ∧ cur'.size = cur.size ∧ ∀ i (h : i < zs.reverse.length), cur'[i]? = some (.int .i64 zs.reverse[i])) ∧
      (∀ k, k ≠ g → w'.heap[k]? = W.heap[k]?) ∧ ∀ B, B ≤ g → Below B W w' := by
  have hH : Sort.Holds (Value.int .i64) W g 0 zs.toArray := by
    intro j hj
    simp at hj
    refine ⟨?_, by simp [World.frozen?, hgb]⟩
    simp only [World.cell?, hgb, Nat.zero_add]
    rw [hc j hj]
    simp [getElem!_pos, hj]
  refine (reverse_ok g 0 cap zs W hH (by omega)).mono ?_
  rintro e w' ⟨rfl, k, rfl⟩
  exact ⟨rfl, rowAt_put hgb hz, fun k hk => heap_put hk, fun B hB => below_put hB⟩

set_option maxHeartbeats 2000000 in
theorem list_in (F : Fence) (n : Nat) (hF : F.fn 36) (hF32 : F.fn 58) (hF33 : F.fn 59) (hF42 : F.fn 72) (hF25 : F.fn 49) (hF34 : F.fn 60) (hro : F.round = none) (hn : 4 ≤ n) (hR : ∀ args w R, Calls Tryd.prog 60 args w R → CallsIn F (n - 1) Tryd.prog 60 args w R)
    (bS bA : Nat) (s : Sh) (q : Nat) (h3 : 3 ≤ s.N) (h1 : s.N ≤ 1000) (hq : q < 2) (xs : List (Nd s)) (hlen : xs.length ≤ 1000)
    (w : World) (hS : bS < w.heap.size) (hA : bA < w.heap.size) (hL : Lay w bS bA s) (hX : Lk s (gd s q) (s.u (gd s q)) xs) :
    CallsIn F n Tryd.prog 36 #[.pointer (some ⟨bS, 0, none⟩), .int .i64 q] w fun e W' =>
      ∃ v, e = .returned v ∧ RowAt W' w.heap.size v (xs.map fun x => (x.1 : Int)).reverse ∧ Below w.heap.size w W' := by
  have h1n : 1 ≤ n := by omega
  have hrq : rightB q = true := by unfold rightB; simp only [Bool.and_eq_true, decide_eq_true_eq]; omega
  obtain ⟨i0, hi, hz0, hz1, hz2⟩ := info_parts info3
  refine callsIn_of_wp_marks Tryd.func36 rfl hF ?_ hro
  simp only [Tryd.ntmps36, List.size_toArray, List.length_cons, List.length_nil, Nat.reduceAdd, Nat.reduceSub, Array.replicate_succ, Array.replicate_zero, List.push_toArray, List.append_toArray, List.nil_append, List.cons_append]
  gi_wp2_with (first | (gi_at_call 58; refine (right_in F (n - 1) hF32 hro q _).mono ?_; rw [hrq]; rintro e w' ⟨rfl, hw'⟩; obtain rfl := hw'.symm) | (gi_at_call 59; refine (rise_in F (n - 1) hF33 hro _ _ _).mono ?_; rintro e w' ⟨rfl, rfl⟩))
  have b0 := Boxed.new w 35 (.slice none 0 0)
  have b1 := Boxed.new (w.alloc (.cells #[.slice none 0 0] 35)) 58 (.pointer (some ⟨bS, 0, none⟩))
  have b2 := Boxed.new ((w.alloc (.cells #[.slice none 0 0] 35)).alloc (.cells #[.pointer (some ⟨bS, 0, none⟩)] 58)) 3 (.int .i64 q)
  simp only [World.size_alloc] at b1 b2
  have hB1 : Below w.heap.size w (((w.alloc (.cells #[.slice none 0 0] 35)).alloc (.cells #[.pointer (some ⟨bS, 0, none⟩)] 58)).alloc (.cells #[.int .i64 q] 3)) := (((Below.refl _ w).alloc (Nat.le_refl _) _).alloc (by simp) _).alloc (by simp; omega) _
  have hz1' : (((w.alloc (.cells #[.slice none 0 0] 35)).alloc (.cells #[.pointer (some ⟨bS, 0, none⟩)] 58)).alloc (.cells #[.int .i64 q] 3)).heap.size = w.heap.size + 3 := by simp
  have b0 := (b0.alloc (.cells #[.pointer (some ⟨bS, 0, none⟩)] 58)).alloc (.cells #[.int .i64 q] 3)
  have b1 := b1.alloc (.cells #[.int .i64 q] 3)
  obtain ⟨w1, hw1⟩ : ∃ w1, ((w.alloc (.cells #[.slice none 0 0] 35)).alloc (.cells #[.pointer (some ⟨bS, 0, none⟩)] 58)).alloc (.cells #[.int .i64 q] 3) = w1 := ⟨_, rfl⟩
  rw [hw1] at b0 b1 b2 hB1 hz1' ⊢
  have hL1 : Lay w1 bS bA s := hL.below hB1 hS hA
  refine wpIn_rangeFunc_ownF hro h1n (gf := 72) (lb := #[.pointer (some ⟨w.heap.size + 1, 0, none⟩), .pointer (some ⟨w.heap.size + 1 + 1, 0, none⟩)]) rfl hF42 (enters_of Tryd.func72 (by kernel_rfl) rfl)
    (rise_stops F (n - 1) hF42 hF25 hro (by omega) (w.heap.size + 1) (w.heap.size + 1 + 1) w.heap.size bS bA s q h3 h1 hq xs hS hA w1 (by omega) (by omega) (by omega) b1.cell b2.cell hL1 hX)
    (fun h k => KpB.trans h k) (kpB_b (by omega) (by omega)) (Below.refl _ _) (fun _ => rfl)
    (fun pre W => ((∃ v, Boxed W w.heap.size 35 v ∧ W.ownsRow w.heap.size 3 1 v pre.length (pre.map fun x => Value.int .i64 (x.1 : Int)) ∧ (v = .slice none 0 0 ↔ pre = [])) ∧ Boxed W (w.heap.size + 1) 58 (.pointer (some ⟨bS, 0, none⟩))) ∧ Below w.heap.size w W)
    (fun _ _ _ => False)
    (OwnFrom.and (OwnFrom.and (Own.from (holdsRow_own w.heap.size w.heap.size 35 3 1 (fun pre => pre.length) (fun pre => pre.map fun x : Nd s => Value.int .i64 (x.1 : Int)) (fun pre v => v = .slice none 0 0 ↔ pre = [])) _) (Own.from (boxed_own _ _ _) _)) (ownFrom_below (Nat.le_refl _) (by omega)))
    (fun _ _ _ _ _ hs _ _ => hs)
    ⟨⟨⟨_, b0, World.ownsRow_nil _ _ _ _, by simp⟩, b1⟩, hB1⟩
    (fun x => { tmps := #[.pointer (some ⟨bS, 0, none⟩), .int .i64 q, undef, undef, .slice none 0 0, .pointer (some ⟨w.heap.size, 0, none⟩), .int .i64 (x.1 : Int), .int .i64 q, .bool true, .bool false, .pointer (some ⟨bS, 0, none⟩), .int .i64 q, .func (.func 72) #[] #[.pointer (some ⟨w.heap.size + 1, 0, none⟩), .pointer (some ⟨w.heap.size + 1 + 1, 0, none⟩)], .int .i64 (x.1 : Int), undef, undef, undef, undef, undef, undef, undef], defers := [] }) ?assign ?body ?done ?stop
  case assign =>
    intro l x W K hK
    gi_wp2
    exact hK
  case body =>
    rintro l pre ⟨m, hm⟩ W ⟨⟨⟨v, hv, hrow, hnil⟩, hb⟩, hB⟩ hlt
    have hc := hv.cell
    dsimp only
    gi_wp2_with (gi_at_builtin; refine wpListIn_append_own _ rfl _ _ 35 rfl w.heap.size 3 i0 (.int .i64 0) 1 8 Tryd.underlying35 hi hz0 hz1 hz2 rfl (by decide) _ _ _ rfl (hrow.alloc _) ⟨W.heap.size, 0, none⟩ 1 1 [.int .i64 (m : Int)] rfl rfl (cell_one_new _ _ _) (by simp [Value.oneCell']) (by unfold maxLen; omega) (by omega) (by have := hB.size; simp; omega) ?_; intro v' w2 hown' hgrow _; obtain ⟨g', cap', rfl⟩ := ownsRow_succ hown'; have hbw := (hb.alloc _).kept hgrow (hb.not_row (by decide) hrow); obtain ⟨hv1, hv2, hr2, hk2, hb2⟩ := hv.appended (by decide) hrow hB.size (Nat.le_refl _) hown' hgrow; have hc1 := hv1.cell; have hf1 := hv1.frozen)
    have hbw2 := hbw.other (B' := w.heap.size) (by omega) (Value.slice (some ⟨g', 0, none⟩) (pre.length + 1) cap')
    exact ⟨hk2, ⟨hb2, by rw [show _ = _ from hbw2, show _ = _ from hb]⟩, ⟨⟨_, hv2, by simpa using hr2, by simp⟩, hbw2⟩, hB.trans hb2⟩
  case done =>
    rintro D ys W hD rfl ⟨⟨⟨v, hv, hrow, hnil⟩, hb⟩, hB⟩ hK
    have hc := hv.cell
    have hf := hv.frozen
    have hDne : D ≠ w.heap.size := by omega
    rcases hrow.2 with ⟨rfl, h0⟩ | ⟨g, cap, cur, rfl, hg, hgb, hle, hcap, hcs, htk⟩
    · have hys : ys = [] := List.eq_nil_of_length_eq_zero h0
      subst hys
      have hcall := hR _ _ _ (reverse_nil none 0 W)
      gi_wp2_with (gi_at_call 60; refine hcall.mono ?_; rintro e w' ⟨rfl, hw'⟩; obtain rfl := hw'.symm)
      refine ⟨by simp, .inl ⟨_, _, rfl, run_takeDeferred hK, ?_⟩⟩
      exact ⟨_, results_tmp rfl _ _ _, _, rfl, .inl ⟨rfl, rfl⟩, hB.trans (belowK_b (w := w) (Nat.le_refl _) W D _ _ (by omega) hK rfl rfl)⟩
    · have hyl : ys ≠ [] := by intro e; have := hnil.2 e; cases this
      obtain ⟨zs, hzs⟩ : ∃ zs, (ys.map fun x => (x.1 : Int)) = zs := ⟨_, rfl⟩
      have hzl : zs.length = ys.length := by rw [← hzs]; simp
      have hzn : zs ≠ [] := fun e => hyl (List.eq_nil_of_length_eq_zero (by rw [← hzl, e]; rfl))
      have hmap : (ys.map fun x => Value.int .i64 (x.1 : Int)) = zs.map (Value.int .i64) := by rw [← hzs, List.map_map]; rfl
      have hcells : ∀ i (h : i < zs.length), cur[i]? = some (.int .i64 zs[i]) := by
        intro j hj
        rw [hmap] at htk
        have := congrArg (fun l => l[j]?) htk
        simp only [Nat.mul_one] at this
        rw [List.getElem?_take, if_pos (by omega), List.getElem?_map, List.getElem?_eq_getElem (l := zs) hj] at this
        rw [← Array.getElem?_toList, this]
        rfl
      have hcall := reverse_row (cap := cap) hgb (by omega) (by omega) hcells
      rw [hzl] at hcall
      have hne2 : w.heap.size ≠ g := by
        intro e
        have := (show W.heap[w.heap.size]? = _ from hv).symm.trans (e ▸ hgb)
        simp at this
      have hcall := hR _ _ _ hcall
      gi_wp2_with (gi_at_call 60; refine hcall.mono ?_; rintro e w' ⟨rfl, ⟨cur', p1, p2, p3⟩, p4, p5⟩; have hv' : Boxed w' w.heap.size 35 (Value.slice (some ⟨g, 0, none⟩) ys.length cap) := Eq.trans (p4 _ hne2) hv; have hc' := hv'.cell; have hf' := hv'.frozen)
      have hDg : D ≠ g := by rintro rfl; rw [hgb] at hK; cases hK
      have hK' : w'.heap[D]? = some (.deferred (some [])) := by rw [p4 D hDg]; exact hK
      refine ⟨by simp, .inl ⟨_, _, rfl, run_takeDeferred hK', ?_⟩⟩
      refine ⟨_, results_tmp rfl _ _ _, _, rfl, (by rw [hzs]; exact .inr ⟨by simpa using hzn, g, cap, cur', by simp [hzl], hg, by rw [World.putObj_heap_other (by omega)]; exact p1, by simp; omega, hcap, by rw [p2, hcs, Nat.mul_one], p3⟩), (hB.trans (p5 _ hg)).trans (belowK_b (w := w) (Nat.le_refl _) w' D _ _ (by omega) hK' rfl rfl)⟩
  case stop =>
    rintro D c pre W _ _ h _
    exact h.elim
end Go.Proofs.YtiihiifcnkfjoaaDoor.Sx

/-
  Last and List, told as the other functions are.
-/
namespace Go.Proofs.YtiihiifcnkfjoaaDoor.Sx
open Go Go.Proofs
open Go.RowKit Go.Shelf
set_option maxRecDepth 100000
set_option linter.unusedSimpArgs false
set_option linter.unusedVariables false

theorem fr_below {P : Program} {w w' : World} (h : Below w.heap.size w w') : Fr (quiet P w) w' := ⟨h.os, h.tape, h.output, h.size, fun k hk _ => h.block k hk⟩
theorem cell_lt {w : World} {b o : Nat} {v : Value} (h : w.cell? ⟨b, o, none⟩ = some v) : b < w.heap.size := World.block_lt_of_cell? w ⟨b, o, none⟩ h

/-- What a shelf that is read holds in the world. -/
theorem lay_of {c : Cx} {h : Hp} {w : World} {p : V} {s : Sh} (hr : Rel c h w) (hs : shelfR h p s) (hN : 0 < s.N) : ∃ bS bA, Lay w bS bA s ∧ bS < w.heap.size ∧ bA < w.heap.size ∧ ∀ x, vrel h p x → x = .pointer (some ⟨bS, 0, none⟩) := by
  obtain ⟨tS, tA, bS, bA, gs, ga, rfl, hne, e1, e2, h1, h2⟩ := hs
  have hro := hr.ro
  have HS := hro.holds tS
  have HA := hro.holds tA
  rw [e1] at HS
  rw [e2] at HA
  have S : ∀ k, k < 8 → ∃ x, w.cell? ⟨bS, k, none⟩ = some x ∧ vrel (roH h) (gs 0 k) x := by
    intro k hk
    obtain ⟨ad, x, e, hc, hv⟩ := Ent.ro_cell hro.fr HS (i := 0) (k := k) (by omega) hk
    cases e
    have ea : (⟨bS, 0, none⟩ : Addr).add (0 * 8 + k) = ⟨bS, k, none⟩ := by unfold Addr.add; split <;> simp_all
    rw [ea] at hc
    exact ⟨x, hc, hv⟩
  have A : ∀ i k, i < s.N → k < 5 → ∃ x, w.cell? ⟨bA, i * 5 + k, none⟩ = some x ∧ vrel (roH h) (ga i k) x := by
    intro i k hi hk
    obtain ⟨ad, x, e, hc, hv⟩ := Ent.ro_cell hro.fr HA (i := i) (k := k) hi hk
    cases e
    have ea : (⟨bA, 0, none⟩ : Addr).add (i * 5 + k) = ⟨bA, i * 5 + k, none⟩ := by unfold Addr.add; split <;> simp_all
    rw [ea] at hc
    exact ⟨x, hc, hv⟩
  refine ⟨bS, bA, ⟨?_, fun i hi => ?_, fun i hi => ?_⟩, ?_, ?_, ?_⟩
  · obtain ⟨x, hc, hv⟩ := S 0 (by omega)
    rw [h1 0 (by omega)] at hv
    obtain ⟨base, sz, er, ex, _⟩ := hv
    rw [e2] at er
    cases er
    rw [hc, ex]
    have ea : (⟨bA, 0, none⟩ : Addr).add 0 = ⟨bA, 0, none⟩ := by unfold Addr.add; split <;> simp_all
    simp [ea]
  · obtain ⟨x, hc, hv⟩ := A i 0 hi (by omega)
    rw [h2 i 0 hi (by omega)] at hv
    rw [show x = _ from hv] at hc
    exact hc
  · obtain ⟨x, hc, hv⟩ := A i 4 hi (by omega)
    rw [h2 i 4 hi (by omega)] at hv
    rw [show x = _ from hv] at hc
    exact hc
  · obtain ⟨x, hc, hv⟩ := S 0 (by omega)
    exact cell_lt hc
  · obtain ⟨x, hc, hv⟩ := A 0 0 hN (by omega)
    exact cell_lt hc
  · rintro x ⟨ad, sz, er, ex⟩
    have er' : (fd tS (roH h)).rf = some (.mem (some ad) sz) := by rw [fd_roH, Ent.toRo_rf]; exact er
    rw [e1] at er'
    cases er'
    rw [ex]
    have ea : (⟨bS, 0, none⟩ : Addr).add (0 * 8 + 0) = ⟨bS, 0, none⟩ := by unfold Addr.add; split <;> simp_all
    simp [ea]

attribute [local go_sem] Oper.semAt_some in
theorem last_no (n : Nat) (bS : Nat) (L : Int) (hL : rightB L = false) (hn : 1 ≤ n) (w : World) :
    CallsIn Fence.wide n Tryd.prog 61 #[.pointer (some ⟨bS, 0, none⟩), .int .i64 L] w fun e W' => e = .returned (.tuple #[.int .i64 0, .bool false]) ∧ Below w.heap.size w W' := by
  obtain ⟨F, hFe⟩ : ∃ F, F = Fence.wide := ⟨_, rfl⟩
  have hF17 : F.fn 61 := by rw [hFe]; trivial
  have hF32 : F.fn 58 := by rw [hFe]; trivial
  have hro : F.round = none := by rw [hFe]; rfl
  rw [← hFe]
  clear hFe
  refine callsIn_of_wp_marks Tryd.func61 rfl hF17 ?_ hro
  simp only [Tryd.ntmps61, List.size_toArray, List.length_cons, List.length_nil, Nat.reduceAdd, Nat.reduceSub, Array.replicate_succ, Array.replicate_zero, List.push_toArray, List.append_toArray, List.nil_append, List.cons_append]
  gi_wp2_with (gi_at_call 58; refine (right_in F (n - 1) hF32 hro L _).mono ?_; rw [hL]; rintro e w' ⟨rfl, rfl⟩)
  have e4 : (((w.alloc (Obj.cells #[Value.pointer (some ⟨bS, 0, none⟩)] 58)).alloc (Obj.cells #[Value.int IntKind.i64 0] 3)).alloc (Obj.cells #[Value.bool false] 4)).cell? ⟨w.heap.size + 1, 0, none⟩ = some (.int .i64 0) := by
    have := cell_new_l (w.alloc (.cells #[.pointer (some ⟨bS, 0, none⟩)] 58)) (.int .i64 0) 3
    rw [World.size_alloc] at this
    exact cell_alloc_l _ this.1
  have e5 : (((w.alloc (Obj.cells #[Value.pointer (some ⟨bS, 0, none⟩)] 58)).alloc (Obj.cells #[Value.int IntKind.i64 0] 3)).alloc (Obj.cells #[Value.bool false] 4)).cell? ⟨w.heap.size + 1 + 1, 0, none⟩ = some (.bool false) := by
    have := cell_new_l ((w.alloc (.cells #[.pointer (some ⟨bS, 0, none⟩)] 58)).alloc (Obj.cells #[Value.int IntKind.i64 0] 3)) (.bool false) 4
    rw [World.size_alloc, World.size_alloc] at this
    exact this.1
  refine ⟨.tuple #[.int .i64 0, .bool false], ?_, rfl, (((Below.refl _ w).alloc (Nat.le_refl _) _).alloc (by simp) _).alloc (by simp; omega) _⟩
  simp [results, Tryd.f61, go_sem, e4, e5]

attribute [local go_sem] Oper.semAt_some in
theorem list_no (n : Nat) (bS : Nat) (L : Int) (hL : rightB L = false) (hn : 1 ≤ n) (w : World) :
    CallsIn Fence.wide n Tryd.prog 36 #[.pointer (some ⟨bS, 0, none⟩), .int .i64 L] w fun e W' => e = .returned (.slice none 0 0) ∧ Below w.heap.size w W' := by
  obtain ⟨F, hFe⟩ : ∃ F, F = Fence.wide := ⟨_, rfl⟩
  have hF14 : F.fn 36 := by rw [hFe]; trivial
  have hF32 : F.fn 58 := by rw [hFe]; trivial
  have hro : F.round = none := by rw [hFe]; rfl
  rw [← hFe]
  clear hFe
  refine callsIn_of_wp Tryd.func36 rfl hF14 ?_ hro
  simp only [Tryd.ntmps36, List.size_toArray, List.length_cons, List.length_nil, Nat.reduceAdd, Nat.reduceSub, Array.replicate_succ, Array.replicate_zero, List.push_toArray, List.append_toArray, List.nil_append, List.cons_append]
  gi_wp2_with (gi_at_call 58; refine (right_in F (n - 1) hF32 hro L _).mono ?_; rw [hL]; rintro e w' ⟨rfl, hw'⟩; obtain rfl := hw'.symm)
  go_ret
  exact ⟨rfl, Below.refl _ _⟩

/-- Towards the first: these. -/
def LkR (s : Sh) (L : Int) (l : List Nat) : Prop := ∃ xs : List (Nd s), xs.map (·.1) = l ∧ Lk s (gd s L.toNat) (s.u (gd s L.toNat)) xs
def sLast : Spec := fun args h nx K => ∃ (p : V) (s : Sh) (L : Int) (l : List Nat), args = [p, .int .i64 L] ∧ shelfR h p s ∧ 3 ≤ s.N ∧ s.N ≤ 1000 ∧ (rightB L = true → LkR s L l) ∧
  (let r := if rightB L = true then lastOf s l else (0, false); K (.ret (.tup [.int .i64 r.1, .bool r.2])) h nx)
theorem sLast_ok : SpecOK Tryd.prog 61 sLast := by
  rintro c hc args h nx K ⟨p, s, L, l, rfl, hs, h3, h1, hX, hk⟩ w xs hr hv
  obtain ⟨bS, bA, hLay, hS, hA, hp⟩ := lay_of hr hs (by omega)
  obtain ⟨x, ys, rfl, hx, y, zs, rfl, hy, rfl⟩ := hv
  obtain rfl := hp x hx
  obtain rfl : y = .int .i64 L := hy
  refine .inl ⟨callFunc_enter (cd := _) Tryd.func61 rfl rfl _ w, ?_⟩
  cases e : rightB L with
  | false =>
    rw [e] at hk
    refine (callsIn_wide.1 (last_no 4 bS L e (by omega) w)).mono ?_
    rintro e w' ⟨rfl, hB⟩
    exact ⟨_, h, nx, hk, hr.after (fr_below (P := c.P) hB), Ext.refl h, _, rfl, _, rfl, _, _, rfl, rfl, _, _, rfl, rfl, rfl⟩
  | true =>
    rw [e] at hk
    obtain ⟨ms, rfl, hl⟩ := hX e
    have hq : 0 ≤ L ∧ L < 2 := by unfold rightB at e; simpa using e
    obtain ⟨q, rfl⟩ : ∃ q : Nat, L = q := ⟨L.toNat, by omega⟩
    refine (callsIn_wide.1 (last_in Fence.wide 4 trivial trivial trivial trivial trivial rfl (by omega) bS bA s q h3 h1 (by omega) ms w hS hA hLay hl)).mono ?_
    rintro e w' ⟨rfl, hB⟩
    exact ⟨_, h, nx, hk, hr.after (fr_below (P := c.P) hB), Ext.refl h, _, rfl, _, rfl, _, _, rfl, rfl, _, _, rfl, rfl, rfl⟩

/-- The cells of such a row. -/
def gL (l : List Nat) (cur : Array Value) : Nat → Nat → V := fun i _ => if hi : i < l.length then .int .i64 (l[i] : Nat) else .raw (cur.getD i undef)
theorem gL_in {l : List Nat} {cur : Array Value} {i k : Nat} (hi : i < l.length) : gL l cur i k = .int .i64 (l[i] : Nat) := dif_pos hi
theorem gL_out {l : List Nat} {cur : Array Value} {i k : Nat} (hi : ¬ i < l.length) : gL l cur i k = .raw (cur.getD i undef) := dif_neg hi
/-- A function that answers a new row of these numbers, or nil. -/
def ansRow (l : List Nat) (h : Hp) (nx : Nat) (K : Out → Hp → Nat → Prop) : Prop :=
  (l = [] → K (.ret .nils) h nx) ∧
  (l ≠ [] → ∀ (b cap : Nat) (g : Nat → Nat → V), l.length ≤ cap → cap ≤ 9223372036854775807 → (∀ i (hi : i < l.length), g i 0 = .int .i64 (l[i] : Nat)) → (∀ i, i < cap → flat (g i 0)) → K (.ret (.slice nx 0 l.length cap)) ((nx, .blk b cap 1 g 3) :: h) (nx + 1))
def sList : Spec := fun args h nx K => ∃ (p : V) (s : Sh) (L : Int) (l : List Nat), args = [p, .int .i64 L] ∧ shelfR h p s ∧ 3 ≤ s.N ∧ s.N ≤ 1000 ∧ l.length ≤ 1000 ∧ fd nx h = .gone ∧ (rightB L = true → LkR s L l.reverse) ∧ (rightB L = false → l = []) ∧ ansRow l h nx K
theorem sList_ok : SpecOK Tryd.prog 36 sList := by
  rintro c hc args h nx K ⟨p, s, L, l, rfl, hs, h3, h1, hlen, hgone, hX, hX0, hk0, hk1⟩ w xs hr hv
  obtain ⟨bS, bA, hLay, hS, hA, hp⟩ := lay_of hr hs (by omega)
  obtain ⟨x, ys, rfl, hx, y, zs, rfl, hy, rfl⟩ := hv
  obtain rfl := hp x hx
  obtain rfl : y = .int .i64 L := hy
  refine .inl ⟨callFunc_enter (cd := _) Tryd.func36 rfl rfl _ w, ?_⟩
  cases e : rightB L with
  | false =>
    refine (callsIn_wide.1 (list_no 4 bS L e (by omega) w)).mono ?_
    rintro e' w' ⟨rfl, hB⟩
    exact ⟨_, h, nx, hk0 (hX0 e), hr.after (fr_below (P := c.P) hB), Ext.refl h, _, rfl, rfl⟩
  | true =>
    obtain ⟨ms, hms, hl⟩ := hX e
    have hq : 0 ≤ L ∧ L < 2 := by unfold rightB at e; simpa using e
    obtain ⟨q, rfl⟩ : ∃ q : Nat, L = q := ⟨L.toNat, by omega⟩
    have hml : ms.length ≤ 1000 := by have := congrArg List.length hms; simp at this; omega
    refine (callsIn_wide.1 (list_in Fence.wide 4 trivial trivial trivial trivial trivial trivial rfl (by omega) (fun _ _ _ h => callsIn_wide.2 h) bS bA s q h3 h1 (by omega) ms hml w hS hA hLay hl)).mono ?_
    have hz : (ms.map fun x => (x.1 : Int)).reverse = l.map fun (x : Nat) => (x : Int) := by
      have : (ms.map fun x => (x.1 : Int)) = (ms.map (·.1)).map fun (x : Nat) => (x : Int) := by rw [List.map_map]; rfl
      rw [this, hms]; simp
    rw [hz]
    rintro e' w' ⟨v, rfl, hrow, hB⟩
    have hr2 := hr.after (fr_below (P := c.P) hB)
    rcases hrow with ⟨h0, rfl⟩ | ⟨h0, g, cap, cur, rfl, hg, hgb, hle, hcap, hcs, hcells⟩
    · exact ⟨_, h, nx, hk0 (by simpa using h0), hr2, Ext.refl h, _, rfl, rfl⟩
    · have hle' : l.length ≤ cap := by simpa using hle
      have key := hk1 (by simpa using h0) g cap (gL l cur) hle' hcap (fun i hi => gL_in hi) (fun i _ => by unfold gL; split <;> trivial)
      refine ⟨_, _, nx + 1, key, hr2.add hgone ⟨⟨cur.toList, by simpa using hgb, by simp [hcs], fun i k hi hk => ?_⟩, .inr (Nat.le_trans hr.fr.size hg)⟩ (fun t b' n' sz' g' ty' e' => ?_), Ext.new (by rw [hgone]; rfl), ?_⟩
      · obtain rfl : k = 0 := by omega
        have hic : i < cur.size := by omega
        refine ⟨cur[i], by simp [hic], ?_⟩
        by_cases hi2 : i < l.length
        · rw [gL_in hi2]
          have := hcells i (by simpa using hi2)
          rw [Array.getElem?_eq_getElem hic] at this
          injection this with this
          show cur[i] = _
          rw [this]
          simp
        · rw [gL_out hi2]
          show cur[i] = _
          simp [hic]
      · have := hr.lt e'
        omega
      · refine ⟨_, rfl, some ⟨g, 0, none⟩, 1, ?_, ?_, .inl rfl⟩
        · rw [fd_cons, if_pos rfl]; rfl
        · have ea : (⟨g, 0, none⟩ : Addr).add 0 = ⟨g, 0, none⟩ := by unfold Addr.add; split <;> simp_all
          simp [ea]
end Go.Proofs.YtiihiifcnkfjoaaDoor.Sx

/-
  The walks of this seat's functions: Held.
-/
namespace Go.Proofs.YtiihiifcnkfjoaaDoor.Sx
open Go Go.Proofs
set_option maxRecDepth 100000
set_option linter.unusedSimpArgs false
set_option linter.unusedVariables false

/-- Those below n that are held. -/
def heldTo (s : Sh) (n : Nat) : List Nat := (List.range n).filter fun i => s.he i
theorem heldTo_yes {s : Sh} {n : Nat} (h : s.he n = true) : heldTo s (n + 1) = heldTo s n ++ [n] := by simp [heldTo, List.range_succ, h]
theorem heldTo_no {s : Sh} {n : Nat} (h : s.he n = false) : heldTo s (n + 1) = heldTo s n := by simp [heldTo, List.range_succ, h]
theorem heldTo_len (s : Sh) (n : Nat) : (heldTo s n).length ≤ n := by have := List.length_filter_le (fun i => s.he i) (List.range n); simpa [heldTo] using this

/-- What a collecting loop has: nothing yet, or a row of its own (tag 9). -/
def Got (l : List Nat) (v : V) (hx : Hp) : Prop := (l = [] ∧ v = .nils ∧ hx = []) ∨ (l ≠ [] ∧ ∃ bb cap F, l.length ≤ cap ∧ cap ≤ 9223372036854775807 ∧ (∀ i (hi : i < l.length), F i = ((l[i] : Nat) : Int)) ∧ v = .slice 9 0 l.length cap ∧ hx = [(9, .blk bb cap 1 (g1 .i64 F) 3)])

theorem g1_self {τ : Nat → Nat} {hh : Hp} {F : Nat → Int} {i c : Nat} (hc : c < 1) : rn τ hh (g1 .i64 F i c) (g1 .i64 F i c) := ⟨rfl, rfl⟩
def sHeld : Spec := fun args h nx K => ∃ (p : V) (s : Sh), args = [p] ∧ shelfR h p s ∧ s.N ≤ 1000 ∧ fd nx h = .gone ∧ ansRow (heldTo s s.N) h nx K
theorem sHeld_ok : SpecOK Tryd.prog 37 sHeld := by
  refine specOK_new (fn := Tryd.f37) rfl rfl rfl T_ok (SP := []) noSP 200 _ ?_
  rintro args h nx K ⟨p, s, rfl, hs, h1, hgone, hk0, hk1⟩
  obtain ⟨bS, bA, told⟩ := told_shelf (rest := []) hs trivial
  refine ⟨_, _, told, by simp [Tryd.f37], fun o h1 => (heldTo s s.N = [] ∧ o = .ret .nils) ∨ (heldTo s s.N ≠ [] ∧ ∃ (t bb cap : Nat) (F : Nat → Int), o = .ret (.slice t 0 (heldTo s s.N).length cap) ∧ (heldTo s s.N).length ≤ cap ∧ cap ≤ 9223372036854775807 ∧ (∀ i (hi : i < (heldTo s s.N).length), F i = (((heldTo s s.N)[i] : Nat) : Int)) ∧ fd t h1 = .blk bb cap 1 (g1 .i64 F) 3), ?_, ?_⟩
  · rintro o h1 (⟨e, rfl⟩ | ⟨e, t, bb, cap, F, rfl, h2, h3, h4, h5⟩)
    · exact .inl ⟨trivial, hk0 e⟩
    · exact .inr ⟨_, t, bb, cap, 1, _, 3, .slice nx 0 (heldTo s s.N).length cap, rfl, h5, fun i c _ _ => trivial, ⟨⟨rfl, by simp [live, fd]⟩, rfl, rfl, rfl⟩, hgone, hk1 e bb cap _ h2 h3 (fun i hi => by show V.int .i64 (F i) = _; rw [h4 i hi]) (fun _ _ => trivial)⟩
  intro cx hcx
  clear hk0 hk1 told hs hgone
  have eS : ∀ {τ : Nat → Nat} {hh : Hp}, (2001 = τ 2001 ∧ live hh 2001) → ∀ i c, i < 1 → c < 8 → rn τ hh (gS 2001 s.N s.bot s.E i c) (gS 2001 s.N s.bot s.E i c) := fun ht i c hi hc => gS_rn ht
  refine W_loop (fun r σ h => ∃ (j : Nat) (v : V) (hx : Hp), r = s.N - j ∧ j ≤ s.N ∧ Got (heldTo s j) v hx ∧ σ = [(3, v), (9, .slice 2001 0 s.N s.N), (10, .int .i64 s.N), (11, .int .i64 j)] ∧ h = (2001, .ro (some ⟨bA, 0, none⟩) s.N 5 (gA s.u s.d s.l s.lo s.he)) :: hx) s.N ⟨0, .nils, [], rfl, by omega, .inl ⟨rfl, rfl, rfl⟩, rfl, rfl⟩ (tau []) ⟨rfl, ?_, ?_⟩ 30 ?_
  · repeat' (first | exact rfl | exact trivial | refine ⟨?_, ?_⟩)
  · exact ⟨⟨rfl, rfl, rfl, fun i c hi hc => gA_rn hc⟩, trivial⟩
  rintro r σ h ⟨j, v, hx, rfl, hj, hHas, rfl, rfl⟩
  have w1 : IntKind.i64.wrap ((j : Int) + 1) = ((j + 1 : Nat) : Int) := by simp [IntKind.wrap_i64]; omega
  rcases hHas with ⟨hl, rfl, rfl⟩ | ⟨hl, bb, cap, F, hc1, hc2, hF, rfl, rfl⟩
  · refine vc_sound (mkE hcx T_ok noSP) 200 _ _ _ 30 ?_
    (refine (?_ : br _ _ _); refine br_dec (fun hlt => ?_) (fun hlt => ?_))
    · have hlt : (j : Int) < (s.N : Int) := hlt
      (refine (?_ : chk _ _); refine chk_ok (show (decide ((0 : Int) ≤ (j : Int)) && decide ((j : Int) < (s.N : Int))) = true by simp only [Bool.and_eq_true, decide_eq_true_eq]; omega) ?_)
      (refine (?_ : chk _ _); refine chk_ok rfl ?_)
      (refine (?_ : chk _ _); refine chk_ok (Nat.ble_eq_true_of_le (show j * 5 + 0 + 5 ≤ s.N * 5 by omega)) ?_)
      intro b0
      (refine (?_ : br _ _ _); refine br_both (fun e => ?_) (fun e => ?_))
      · have e : s.he j = true := by simpa [addI_eq] using e
        have hy := heldTo_yes e
        rw [hl, List.nil_append] at hy
        intro b1
        refine ⟨rfl, fun bb cap q1 q2 => ?_⟩
        refine ⟨s.N - (j + 1), _, _, by omega, ⟨j + 1, .slice 9 0 1 cap, [(9, .blk bb cap 1 (g1 .i64 fun i => if i < 0 then 0 else if i = 0 then (j : Int) else 0) 3)], rfl, by omega, .inr ⟨by rw [hy]; simp, bb, cap, _, by rw [hy]; exact q1, q2, fun i hi => ?_, by rw [hy]; rfl, rfl⟩, rfl, rfl⟩, tau [(9, 32)], rfl, ?_, ?_⟩
        · have hi0 : i = 0 := by rw [hy] at hi; simpa using hi
          subst hi0
          simp [hy]
        · repeat' (first | exact rfl | exact trivial | exact w1 | refine ⟨?_, ?_⟩)
        · exact ⟨⟨rfl, rfl, rfl, fun i c hi hc => gA_rn hc⟩, ⟨rfl, rfl, rfl, rfl, fun i c hi hc => appG_int (F := fun _ => 0) (fun i hi => absurd hi (by omega)) rfl rfl i c hc⟩, trivial⟩
      · have e : s.he j = false := by simpa [addI_eq] using e
        refine ⟨s.N - (j + 1), _, _, by omega, ⟨j + 1, .nils, [], rfl, by omega, .inl ⟨by rw [heldTo_no e]; exact hl, rfl, rfl⟩, rfl, rfl⟩, tau [], rfl, ?_, ?_⟩
        · repeat' (first | exact rfl | exact trivial | exact w1 | refine ⟨?_, ?_⟩)
        · exact ⟨⟨rfl, rfl, rfl, fun i c hi hc => gA_rn hc⟩, trivial⟩
    · have hlt : ¬ (j : Int) < (s.N : Int) := hlt
      obtain rfl : j = s.N := by omega
      exact .inl ⟨hl, rfl⟩
  · have hlen := heldTo_len s j
    refine vc_sound (mkE hcx T_ok noSP) 200 _ _ _ 30 ?_
    (refine (?_ : br _ _ _); refine br_dec (fun hlt => ?_) (fun hlt => ?_))
    · have hlt : (j : Int) < (s.N : Int) := hlt
      (refine (?_ : chk _ _); refine chk_ok (show (decide ((0 : Int) ≤ (j : Int)) && decide ((j : Int) < (s.N : Int))) = true by simp only [Bool.and_eq_true, decide_eq_true_eq]; omega) ?_)
      (refine (?_ : chk _ _); refine chk_ok rfl ?_)
      (refine (?_ : chk _ _); refine chk_ok (Nat.ble_eq_true_of_le (show j * 5 + 0 + 5 ≤ s.N * 5 by omega)) ?_)
      intro b0
      (refine (?_ : br _ _ _); refine br_both (fun e => ?_) (fun e => ?_))
      · have e : s.he j = true := by simpa [addI_eq] using e
        have hy := heldTo_yes e
        have hyl : (heldTo s (j + 1)).length = (heldTo s j).length + 1 := by rw [hy]; simp
        generalize heldTo s j = l at hl hc1 hF hlen hy hyl ⊢
        intro b1
        (refine (?_ : br _ _ _); refine br_both (fun hcap => ?_) (fun hcap => ?_))
        · have hcap : l.length + 1 ≤ cap := Nat.le_of_ble_eq_true hcap
          (refine (?_ : chk _ _); refine chk_ok (show (Nat.beq 1 1 && Nat.ble (0 + l.length + 1) cap) = true by rw [Nat.ble_eq_true_of_le (by omega)]; rfl) ?_)
          refine ⟨fun i k hi hk => ?_, ?_⟩
          · have hi : i < 1 := hi
            have hk : k < 1 := hk
            obtain rfl : i = 0 := by omega
            obtain rfl : k = 0 := by omega
            rfl
          refine ⟨s.N - (j + 1), _, _, by omega, ⟨j + 1, .slice 9 0 (l.length + 1) cap, [(9, .blk bb cap 1 (g1 .i64 fun i => if i = l.length then (j : Int) else F i) 3)], rfl, by omega, .inr ⟨by rw [hy]; simp, bb, cap, _, by omega, hc2, fun i hi => ?_, by rw [hyl], rfl⟩, rfl, rfl⟩, tau [], rfl, ?_, ?_⟩
          · simp only [hy]
            by_cases q : i = l.length
            · subst q; simp
            · rw [if_neg q, hF i (by omega), List.getElem_append_left (by omega)]
          · repeat' (first | exact rfl | exact trivial | exact w1 | refine ⟨?_, ?_⟩)
          · exact ⟨⟨rfl, rfl, rfl, fun i c hi hc => gA_rn hc⟩, ⟨rfl, rfl, rfl, rfl, fun i c hi hc => appR_int rfl i c hc⟩, trivial⟩
        · (refine (?_ : chk _ _); refine chk_ok (Nat.ble_eq_true_of_le (by omega)) ?_)
          (refine (?_ : chk _ _); refine chk_ok (show (Nat.beq 1 1 && Nat.ble (0 + l.length) cap) = true by rw [Nat.ble_eq_true_of_le (by omega)]; rfl) ?_)
          refine ⟨rfl, fun bb' cap' q1 q2 => ?_⟩
          refine ⟨s.N - (j + 1), _, _, by omega, ⟨j + 1, .slice 9 0 (l.length + 1) cap', [(9, .blk bb' cap' 1 (g1 .i64 fun i => if i < l.length then F i else if i = l.length then (j : Int) else 0) 3)], rfl, by omega, .inr ⟨by rw [hy]; simp, bb', cap', _, by omega, q2, fun i hi => ?_, by rw [hyl], rfl⟩, rfl, rfl⟩, tau [(9, 32)], rfl, ?_, ?_⟩
          · simp only [hy]
            by_cases q : i < l.length
            · rw [if_pos q, hF i q, List.getElem_append_left q]
            · have q2 : i = l.length := by omega
              subst q2; simp
          · repeat' (first | exact rfl | exact trivial | exact w1 | refine ⟨?_, ?_⟩)
          · exact ⟨⟨rfl, rfl, rfl, fun i c hi hc => gA_rn hc⟩, ⟨rfl, rfl, rfl, rfl, fun i c hi hc => appG_int (fun i hi => rfl) rfl rfl i c hc⟩, trivial⟩
      · have e : s.he j = false := by simpa [addI_eq] using e
        have hn := heldTo_no e
        refine ⟨s.N - (j + 1), _, _, by omega, ⟨j + 1, .slice 9 0 (heldTo s j).length cap, [(9, .blk bb cap 1 (g1 .i64 F) 3)], rfl, by omega, .inr ⟨by rw [hn]; exact hl, bb, cap, F, by rw [hn]; exact hc1, hc2, fun i hi => by simp only [hn]; exact hF i (by rw [hn] at hi; exact hi), by rw [hn], rfl⟩, rfl, rfl⟩, tau [], rfl, ?_, ?_⟩
        · repeat' (first | exact rfl | exact trivial | exact w1 | refine ⟨?_, ?_⟩)
        · exact ⟨⟨rfl, rfl, rfl, fun i c hi hc => gA_rn hc⟩, ⟨rfl, rfl, rfl, rfl, fun i c hi hc => g1_self hc⟩, trivial⟩
    · have hlt : ¬ (j : Int) < (s.N : Int) := hlt
      obtain rfl : j = s.N := by omega
      exact .inr ⟨hl, 9, bb, cap, F, rfl, hc1, hc2, hF, rfl⟩
end Go.Proofs.YtiihiifcnkfjoaaDoor.Sx

/-
  The walks of this seat's functions: New.
-/
namespace Go.Proofs.YtiihiifcnkfjoaaDoor.Sx
open Go Go.Proofs
set_option maxRecDepth 100000
set_option linter.unusedSimpArgs false
set_option linter.unusedVariables false

def mayB (n b : Int) : Bool := decide (1 ≤ n) && decide (n ≤ 64) && decide (1 ≤ b) && decide (b ≤ n)
/-- A new shelf. -/
def newS (n b : Nat) : Sh := { N := n + 2, bot := b, E := fun c => if c = 2 then n else if c = 5 then n + 1 else 0, u := fun i => if n ≤ i then i else 0, d := fun i => if n ≤ i then i else 0, l := fun _ => -1, lo := fun _ => false, he := fun _ => false }
def sNew : Spec := fun args h nx K => ∃ (n b : Int), args = [.int .i64 n, .int .i64 b] ∧ fd nx h = .gone ∧ fd (nx + 1) h = .gone ∧
  (mayB n b = false → K (.ret (.tup [.nilp, .int .i64 1])) h nx) ∧
  (mayB n b = true → ∀ bS bA : Nat, K (.ret (.tup [.ptr nx 0 0, .int .i64 0])) ((nx, .blk bS 1 8 (gS (nx + 1) (newS n.toNat b.toNat).N (newS n.toNat b.toNat).bot (newS n.toNat b.toNat).E) 84) :: (nx + 1, .blk bA (newS n.toNat b.toNat).N 5 (gA (newS n.toNat b.toNat).u (newS n.toNat b.toNat).d (newS n.toNat b.toNat).l (newS n.toNat b.toNat).lo (newS n.toNat b.toNat).he) 86) :: h) (nx + 2))

/-- What New leaves. -/
def postNew (n b : Int) (o : Out) (h1 : Hp) : Prop := (mayB n b = false ∧ o = .ret (.tup [.nilp, .int .i64 1])) ∨
  (mayB n b = true ∧ ∃ (bS bA : Nat) (gs ga : Nat → Nat → V), o = .ret (.tup [.ptr 1 0 0, .int .i64 0]) ∧ fd 1 h1 = .blk bS 1 8 gs 84 ∧ fd 0 h1 = .blk bA (newS n.toNat b.toNat).N 5 ga 86 ∧ cells 0 (newS n.toNat b.toNat) gs ga)

def shE (n q : Nat) : Nat → Int := fun c => if c = 2 ∧ 0 < q then n else if c = 5 ∧ 1 < q then ((n + 1 : Nat) : Int) else 0
def shU (n q : Nat) : Nat → Int := fun i => if n ≤ i ∧ i < n + q then i else 0
def shL (n q : Nat) : Nat → Int := fun i => if i < n + q then -1 else 0
theorem shE_zero (n : Nat) : shE n 0 = fun _ => 0 := by funext c; unfold shE; simp
theorem shU_zero (n : Nat) : shU n 0 = fun _ => 0 := by funext c; unfold shU; rw [if_neg (by omega)]
theorem new_walk {n b : Nat} {c : Cx} (hc : c.P = Tryd.prog) (hm : mayB n b = true) : ∃ cd, Tryd.f27.body = some cd ∧ W ⟨c, Tryd.f27, T, [(49, sGuard)], fun o h _ => postNew n b o h⟩ [.code cd] (argsS [.int .i64 n, .int .i64 b] 0) [] 0 := by
  refine ⟨_, rfl, ?_⟩
  have hm' := hm
  unfold mayB at hm'
  simp only [Bool.and_eq_true, decide_eq_true_eq] at hm'
  have hE := mkE' (fn := Tryd.f27) (R := fun o h _ => postNew n b o h) hc (SP := [(49, sGuard)]) (consSP sGuard_ok noSP)
  have hw : IntKind.i64.wrap ((n : Int) + 2) = ((n + 2 : Nat) : Int) := by simp [IntKind.wrap_i64]; omega
  -- the rows are made
  refine W_seq (nx := 0) ?_
  refine W_to (nx := 0) [(0, .int .i64 n), (1, .int .i64 b)] [] 0 ?_ ?_
  · refine vc_sound hE 20 _ _ _ 0 ?_
    exact ⟨tau [], rfl, ⟨⟨rfl, rfl⟩, ⟨rfl, rfl⟩, trivial⟩, trivial⟩
  refine W_seq (nx := 0) ?_
  refine W_to (nx := 0) [(0, .int .i64 n), (1, .int .i64 b)] [] 0 ?_ ?_
  · refine vc_sound hE 60 _ _ _ 0 ?_
    (refine (?_ : br _ _ _); refine br_decF (by omega) ?_)
    (refine (?_ : br _ _ _); refine br_decF (by omega) ?_)
    (refine (?_ : br _ _ _); refine br_decF (by omega) ?_)
    (refine (?_ : br _ _ _); refine br_decF (by omega) ?_)
    exact ⟨tau [], rfl, ⟨⟨rfl, rfl⟩, ⟨rfl, rfl⟩, trivial⟩, trivial⟩
  refine W_seq (nx := 0) ?_
  refine W_piece (fun σ h _ => ∃ bS bA, ∃ τ, wk τ σ h [(0, .int .i64 n), (6, .ptr 1 0 0)] [(1, .blk bS 1 8 (gS 0 (n + 2) b fun _ => 0) 84), (0, .blk bA (n + 2) 5 (gA (fun _ => 0) (fun _ => 0) (fun _ => 0) (fun _ => false) fun _ => false) 86)]) ?_ ?_
  · refine vc_sound hE 60 _ _ _ 0 ?_
    refine ⟨⟨?_, ?_, ?_⟩, ?_⟩
    · show 0 ≤ IntKind.i64.wrap ((n : Int) + 2); omega
    · exact Int.le_refl _
    · show IntKind.i64.wrap ((n : Int) + 2) ≤ 1048576; omega
    intro bA bS
    have hw2 : (IntKind.i64.wrap ((n : Int) + 2)).toNat = n + 2 := by omega
    refine ⟨bS, bA, tau [], rfl, ⟨⟨rfl, rfl⟩, ⟨⟨rfl, trivial⟩, rfl, rfl⟩, trivial⟩, ?_, ?_, trivial⟩
    · refine ⟨rfl, rfl, rfl, rfl, fun i c hi hc => ?_⟩
      have hi : i < 1 := hi
      have hc : c < 8 := hc
      obtain rfl : i = 0 := by omega
      match c, hc with
      | 0, _ => exact ⟨⟨rfl, trivial⟩, rfl, hw2, hw2⟩
      | 1, _ | 2, _ | 3, _ | 4, _ | 5, _ | 6, _ | 7, _ => exact ⟨rfl, rfl⟩
    · refine ⟨rfl, hw2, rfl, rfl, fun i c hi hc => ?_⟩
      have hc : c < 5 := hc
      match c, hc with
      | 0, _ | 1, _ | 2, _ => exact ⟨rfl, rfl⟩
      | 3, _ | 4, _ => rfl
  rintro σ1 h1 _ ⟨bS, bA, τ1, hw1⟩
  refine W_weak (nx' := 30) τ1 hw1 ?_
  clear hw1
  -- the nodes lie in no list
  refine W_seq (nx := 30) ?_
  refine W_to (nx := 30) [(6, .ptr 1 0 0)] [(1, .blk bS 1 8 (gS 0 (n + 2) b fun _ => 0) 84), (0, .blk bA (n + 2) 5 (gA (fun _ => 0) (fun _ => 0) (fun i => if i < n then -1 else 0) (fun _ => false) fun _ => false) 86)] 30 ?_ ?_
  · refine vc_sound hE 60 _ _ _ 30 ?_
    refine W_loop (fun r σ h => ∃ j : Nat, r = n - j ∧ j ≤ n ∧ σ = [(6, .ptr 1 0 0), (31, .int .i64 n), (32, .int .i64 j)] ∧ h = [(1, .blk bS 1 8 (gS 0 (n + 2) b fun _ => 0) 84), (0, .blk bA (n + 2) 5 (gA (fun _ => 0) (fun _ => 0) (fun i => if i < j then -1 else 0) (fun _ => false) fun _ => false) 86)]) n ⟨0, rfl, by omega, rfl, rfl⟩ (tau []) ⟨rfl, ?_, ?_⟩ 30 ?_
    · repeat' (first | exact rfl | exact trivial | refine ⟨?_, ?_⟩)
    · refine ⟨⟨rfl, rfl, rfl, rfl, fun i c hi hc => ?_⟩, ⟨rfl, rfl, rfl, rfl, fun i c hi hc => gA_rn hc⟩, trivial⟩
      obtain rfl : i = 0 := by omega
      exact gS_rn ⟨rfl, trivial⟩
    rintro r σ h ⟨j, rfl, hj, rfl, rfl⟩
    refine vc_sound hE 60 _ _ _ 30 ?_
    (refine (?_ : br _ _ _); refine br_dec (fun e => ?_) (fun e => ?_))
    · have e : (j : Int) < n := e
      (refine (?_ : chk _ _); refine chk_ok (show (decide ((0 : Int) ≤ (j : Int)) && decide ((j : Int) < ((n + 2 : Nat) : Int))) = true by simp only [Bool.and_eq_true, decide_eq_true_eq]; omega) ?_)
      (refine (?_ : chk _ _); refine chk_ok rfl ?_)
      (refine (?_ : chk _ _); refine chk_ok (Nat.ble_eq_true_of_le (show j * 5 + (0 + 2) + 1 ≤ (n + 2) * 5 by omega)) ?_)
      have hw3 : IntKind.i64.wrap ((j : Int) + 1) = ((j + 1 : Nat) : Int) := by simp [IntKind.wrap_i64]; omega
      refine ⟨n - (j + 1), _, _, by omega, ⟨j + 1, rfl, by omega, rfl, rfl⟩, tau [], rfl, ?_, ?_⟩
      · repeat' (first | exact rfl | exact trivial | exact hw3 | refine ⟨?_, ?_⟩)
      · refine ⟨⟨rfl, rfl, rfl, rfl, fun i c hi hc => ?_⟩, ⟨rfl, rfl, rfl, rfl, fun i c hi hc => ?_⟩, trivial⟩
        · obtain rfl : i = 0 := by omega
          exact gS_rn ⟨rfl, trivial⟩
        · refine gA_eq ?_ hc
          refine (put2 (N := n + 2) gA_self j (-1) i c hi hc).trans ?_
          have : updI (fun i => if i < j then (-1 : Int) else 0) j (-1) = fun i => if i < j + 1 then (-1 : Int) else 0 := by
            funext i
            unfold updI
            show (if i = j then (-1 : Int) else if i < j then -1 else 0) = _
            by_cases q : i = j
            · subst q; simp
            · rw [if_neg q]
              by_cases q2 : i < j
              · rw [if_pos q2, if_pos (by omega)]
              · rw [if_neg q2, if_neg (by omega)]
          rw [this]
    · have e : ¬ (j : Int) < n := e
      obtain rfl : j = n := by omega
      refine ⟨tau [], rfl, ?_, ⟨rfl, rfl, rfl, rfl, fun i c hi hc => ?_⟩, ⟨rfl, rfl, rfl, rfl, fun i c hi hc => gA_rn hc⟩, trivial⟩
      · repeat' (first | exact rfl | exact trivial | refine ⟨?_, ?_⟩)
      · obtain rfl : i = 0 := by omega
        exact gS_rn ⟨rfl, trivial⟩
  -- the lists' own nodes
  refine W_seq (nx := 30) ?_
  refine W_to (nx := 30) [(6, .ptr 1 0 0)] [(1, .blk bS 1 8 (gS 0 (n + 2) b (shE n 2)) 84), (0, .blk bA (n + 2) 5 (gA (shU n 2) (shU n 2) (shL n 2) (fun _ => false) fun _ => false) 86)] 30 ?_ ?_
  · refine vc_sound hE 60 _ _ _ 30 ?_
    refine W_loop (fun r σ h => ∃ q : Nat, r = 2 - q ∧ q ≤ 2 ∧ σ = [(6, .ptr 1 0 0), (43, .int .i64 q)] ∧ h = [(1, .blk bS 1 8 (gS 0 (n + 2) b (shE n q)) 84), (0, .blk bA (n + 2) 5 (gA (shU n q) (shU n q) (shL n q) (fun _ => false) fun _ => false) 86)]) 2 ⟨0, rfl, by omega, rfl, rfl⟩ (tau []) ⟨rfl, ?_, ?_⟩ 30 ?_
    · repeat' (first | exact rfl | exact trivial | refine ⟨?_, ?_⟩)
    · refine ⟨⟨rfl, rfl, rfl, rfl, fun i c hi hc => ?_⟩, ⟨rfl, rfl, rfl, rfl, fun i c hi hc => ?_⟩, trivial⟩
      · obtain rfl : i = 0 := by omega
        rw [shE_zero]
        exact gS_rn ⟨rfl, trivial⟩
      · rw [shU_zero]
        exact gA_rn hc
    rintro r σ h ⟨q, rfl, hq, rfl, rfl⟩
    obtain rfl | rfl | rfl : q = 0 ∨ q = 1 ∨ q = 2 := by omega
    · -- list 0
      have hg : IntKind.i64.wrap ((⟨n + 2, b, shE n 0, shU n 0, shU n 0, shL n 0, fun _ => false, fun _ => false⟩ : Sh).n + (0 : Int)) = ((n : Nat) : Int) := by unfold Sh.n; simp only [IntKind.wrap_i64]; omega
      refine vc_sound hE 6 _ _ _ 30 ?_
      refine vc_sound hE 3 _ _ _ 30 ?_
      refine W_seq (nx := 30) ?_
      refine W_to (nx := 30) [(6, .ptr 1 0 0), (43, .int .i64 0), (8, .int .i64 0)] [(1, .blk bS 1 8 (gS 0 (n + 2) b (shE n 0)) 84), (0, .blk bA (n + 2) 5 (gA (shU n 0) (shU n 0) (shL n 0) (fun _ => false) fun _ => false) 86)] 30 ?_ ?_
      · refine vc_sound hE 20 _ _ _ 30 ?_
        exact ⟨tau [], rfl, ⟨⟨⟨rfl, trivial⟩, rfl, rfl⟩, ⟨rfl, rfl⟩, ⟨rfl, rfl⟩, trivial⟩, ⟨rfl, rfl, rfl, rfl, fun i c hi hc => (by obtain rfl : i = 0 := (by omega); exact gS_rn ⟨rfl, trivial⟩)⟩, ⟨rfl, rfl, rfl, rfl, fun i c hi hc => gA_rn hc⟩, trivial⟩
      refine W_seq (nx := 30) ?_
      refine W_to (nx := 30) [(6, .ptr 1 0 0), (43, .int .i64 0), (8, .int .i64 0), (9, .int .i64 ((n : Nat) : Int))] [(1, .blk bS 1 8 (gS 0 (n + 2) b (shE n 0)) 84), (0, .blk bA (n + 2) 5 (gA (shU n 0) (shU n 0) (shL n 0) (fun _ => false) fun _ => false) 86)] 30 ?_ ?_
      · refine vc_sound hE 20 _ _ _ 30 ?_
        refine ⟨_, ⟨n + 2, b, shE n 0, shU n 0, shU n 0, shL n 0, fun _ => false, fun _ => false⟩, _, rfl, ⟨1, 0, bS, bA, _, _, rfl, by decide, rfl, rfl, fun c hc => rfl, fun i c hi hc => rfl⟩, ?_⟩
        rw [hg]
        exact ⟨tau [], rfl, ⟨⟨⟨rfl, trivial⟩, rfl, rfl⟩, ⟨rfl, rfl⟩, ⟨rfl, rfl⟩, ⟨rfl, rfl⟩, trivial⟩, ⟨rfl, rfl, rfl, rfl, fun i c hi hc => (by obtain rfl : i = 0 := (by omega); exact gS_rn ⟨rfl, trivial⟩)⟩, ⟨rfl, rfl, rfl, rfl, fun i c hi hc => gA_rn hc⟩, trivial⟩
      refine W_seq (nx := 30) ?_
      refine W_to (nx := 30) [(6, .ptr 1 0 0), (43, .int .i64 0), (8, .int .i64 0), (9, .int .i64 ((n : Nat) : Int))] [(1, .blk bS 1 8 (gS 0 (n + 2) b (shE n 0)) 84), (0, .blk bA (n + 2) 5 (gA (shU n 1) (shU n 1) (shL n 1) (fun _ => false) fun _ => false) 86)] 30 ?_ ?_
      · refine vc_sound hE 30 _ _ _ 30 ?_
        (refine (?_ : chk _ _); refine chk_ok (show (decide ((0 : Int) ≤ ((n : Nat) : Int)) && decide (((n : Nat) : Int) < ((n + 2 : Nat) : Int))) = true by simp only [Bool.and_eq_true, decide_eq_true_eq]; omega) ?_)
        (refine (?_ : chk _ _); refine chk_ok rfl ?_)
        (refine (?_ : chk _ _); refine chk_ok (Nat.ble_eq_true_of_le (show (n) * 5 + 0 + 5 ≤ (n + 2) * 5 by omega)) ?_)
        refine ⟨tau [], rfl, ⟨⟨⟨rfl, trivial⟩, rfl, rfl⟩, ⟨rfl, rfl⟩, ⟨rfl, rfl⟩, ⟨rfl, rfl⟩, trivial⟩, ⟨rfl, rfl, rfl, rfl, fun i c hi hc => (by obtain rfl : i = 0 := (by omega); exact gS_rn ⟨rfl, trivial⟩)⟩, ⟨rfl, rfl, rfl, rfl, fun i c hi hc => ?_⟩, trivial⟩
        refine gA_eq ((put5 (N := n + 2) gA_self (n) ((n : Nat) : Int) ((n : Nat) : Int) (-1) false false i c hi hc).trans ?_) hc
        have e1 : updI (shU n 0) (n) ((n : Nat) : Int) = shU n 1 := by
          funext i
          unfold updI shU
          by_cases q1 : i = n
          · subst q1; simp
          · rw [if_neg q1]
            by_cases q2 : n ≤ i ∧ i < n + 0
            · rw [if_pos q2, if_pos (by omega)]
            · rw [if_neg q2, if_neg (by omega)]
        have e2 : updI (shL n 0) (n) (-1) = shL n 1 := by
          funext i
          unfold updI shL
          by_cases q1 : i = n
          · subst q1; simp
          · rw [if_neg q1]
            by_cases q2 : i < n + 0
            · rw [if_pos q2, if_pos (by omega)]
            · rw [if_neg q2, if_neg (by omega)]
        have e3 : updB (fun _ => false) (n) false = fun _ => false := by funext i; unfold updB; split <;> rfl
        rw [e1, e2, e3]
      refine W_to (nx := 30) [(6, .ptr 1 0 0), (43, .int .i64 0)] [(1, .blk bS 1 8 (gS 0 (n + 2) b (shE n 1)) 84), (0, .blk bA (n + 2) 5 (gA (shU n 1) (shU n 1) (shL n 1) (fun _ => false) fun _ => false) 86)] 30 ?_ ?_
      · refine vc_sound hE 30 _ _ _ 30 ?_
        refine ⟨tau [], rfl, ⟨⟨⟨rfl, trivial⟩, rfl, rfl⟩, ⟨rfl, rfl⟩, trivial⟩, ⟨rfl, rfl, rfl, rfl, fun i c hi hc => ?_⟩, ⟨rfl, rfl, rfl, rfl, fun i c hi hc => gA_rn hc⟩, trivial⟩
        obtain rfl : i = 0 := by omega
        have e1 := putE (g := gS 0 (n + 2) b (shE n 0)) (fun c hc => rfl) 2 ((n : Nat) : Int) (by omega) c hc
        have e2 : updI (shE n 0) 2 ((n : Nat) : Int) = shE n 1 := by
          funext i
          unfold updI shE
          by_cases q1 : i = 2
          · subst q1; simp
          · by_cases q2 : i = 5
            · subst q2; simp
            · simp [q1, q2]
        rw [e2] at e1
        show rn _ _ (putG 8 (gS 0 (n + 2) b (shE n 0)) 0 (2 + 2) [V.int .i64 ((n : Nat) : Int)] 0 c) _
        rw [e1]
        exact gS_rn ⟨rfl, trivial⟩
      refine vc_sound hE 20 _ _ _ 30 ?_
      refine ⟨2 - 1, _, _, by omega, ⟨1, rfl, by omega, rfl, rfl⟩, tau [], rfl, ⟨⟨⟨rfl, trivial⟩, rfl, rfl⟩, ⟨rfl, rfl⟩, trivial⟩, ⟨rfl, rfl, rfl, rfl, fun i c hi hc => (by obtain rfl : i = 0 := (by omega); exact gS_rn ⟨rfl, trivial⟩)⟩, ⟨rfl, rfl, rfl, rfl, fun i c hi hc => gA_rn hc⟩, trivial⟩
    · -- list 1
      have hg : IntKind.i64.wrap ((⟨n + 2, b, shE n 1, shU n 1, shU n 1, shL n 1, fun _ => false, fun _ => false⟩ : Sh).n + (1 : Int)) = ((n + 1 : Nat) : Int) := by unfold Sh.n; simp only [IntKind.wrap_i64]; omega
      refine vc_sound hE 6 _ _ _ 30 ?_
      refine vc_sound hE 3 _ _ _ 30 ?_
      refine W_seq (nx := 30) ?_
      refine W_to (nx := 30) [(6, .ptr 1 0 0), (43, .int .i64 1), (8, .int .i64 1)] [(1, .blk bS 1 8 (gS 0 (n + 2) b (shE n 1)) 84), (0, .blk bA (n + 2) 5 (gA (shU n 1) (shU n 1) (shL n 1) (fun _ => false) fun _ => false) 86)] 30 ?_ ?_
      · refine vc_sound hE 20 _ _ _ 30 ?_
        exact ⟨tau [], rfl, ⟨⟨⟨rfl, trivial⟩, rfl, rfl⟩, ⟨rfl, rfl⟩, ⟨rfl, rfl⟩, trivial⟩, ⟨rfl, rfl, rfl, rfl, fun i c hi hc => (by obtain rfl : i = 0 := (by omega); exact gS_rn ⟨rfl, trivial⟩)⟩, ⟨rfl, rfl, rfl, rfl, fun i c hi hc => gA_rn hc⟩, trivial⟩
      refine W_seq (nx := 30) ?_
      refine W_to (nx := 30) [(6, .ptr 1 0 0), (43, .int .i64 1), (8, .int .i64 1), (9, .int .i64 ((n + 1 : Nat) : Int))] [(1, .blk bS 1 8 (gS 0 (n + 2) b (shE n 1)) 84), (0, .blk bA (n + 2) 5 (gA (shU n 1) (shU n 1) (shL n 1) (fun _ => false) fun _ => false) 86)] 30 ?_ ?_
      · refine vc_sound hE 20 _ _ _ 30 ?_
        refine ⟨_, ⟨n + 2, b, shE n 1, shU n 1, shU n 1, shL n 1, fun _ => false, fun _ => false⟩, _, rfl, ⟨1, 0, bS, bA, _, _, rfl, by decide, rfl, rfl, fun c hc => rfl, fun i c hi hc => rfl⟩, ?_⟩
        rw [hg]
        exact ⟨tau [], rfl, ⟨⟨⟨rfl, trivial⟩, rfl, rfl⟩, ⟨rfl, rfl⟩, ⟨rfl, rfl⟩, ⟨rfl, rfl⟩, trivial⟩, ⟨rfl, rfl, rfl, rfl, fun i c hi hc => (by obtain rfl : i = 0 := (by omega); exact gS_rn ⟨rfl, trivial⟩)⟩, ⟨rfl, rfl, rfl, rfl, fun i c hi hc => gA_rn hc⟩, trivial⟩
      refine W_seq (nx := 30) ?_
      refine W_to (nx := 30) [(6, .ptr 1 0 0), (43, .int .i64 1), (8, .int .i64 1), (9, .int .i64 ((n + 1 : Nat) : Int))] [(1, .blk bS 1 8 (gS 0 (n + 2) b (shE n 1)) 84), (0, .blk bA (n + 2) 5 (gA (shU n 2) (shU n 2) (shL n 2) (fun _ => false) fun _ => false) 86)] 30 ?_ ?_
      · refine vc_sound hE 30 _ _ _ 30 ?_
        (refine (?_ : chk _ _); refine chk_ok (show (decide ((0 : Int) ≤ ((n + 1 : Nat) : Int)) && decide (((n + 1 : Nat) : Int) < ((n + 2 : Nat) : Int))) = true by simp only [Bool.and_eq_true, decide_eq_true_eq]; omega) ?_)
        (refine (?_ : chk _ _); refine chk_ok rfl ?_)
        (refine (?_ : chk _ _); refine chk_ok (Nat.ble_eq_true_of_le (show (n + 1) * 5 + 0 + 5 ≤ (n + 2) * 5 by omega)) ?_)
        refine ⟨tau [], rfl, ⟨⟨⟨rfl, trivial⟩, rfl, rfl⟩, ⟨rfl, rfl⟩, ⟨rfl, rfl⟩, ⟨rfl, rfl⟩, trivial⟩, ⟨rfl, rfl, rfl, rfl, fun i c hi hc => (by obtain rfl : i = 0 := (by omega); exact gS_rn ⟨rfl, trivial⟩)⟩, ⟨rfl, rfl, rfl, rfl, fun i c hi hc => ?_⟩, trivial⟩
        refine gA_eq ((put5 (N := n + 2) gA_self (n + 1) ((n + 1 : Nat) : Int) ((n + 1 : Nat) : Int) (-1) false false i c hi hc).trans ?_) hc
        have e1 : updI (shU n 1) (n + 1) ((n + 1 : Nat) : Int) = shU n 2 := by
          funext i
          unfold updI shU
          by_cases q1 : i = n + 1
          · subst q1; simp
          · rw [if_neg q1]
            by_cases q2 : n ≤ i ∧ i < n + 1
            · rw [if_pos q2, if_pos (by omega)]
            · rw [if_neg q2, if_neg (by omega)]
        have e2 : updI (shL n 1) (n + 1) (-1) = shL n 2 := by
          funext i
          unfold updI shL
          by_cases q1 : i = n + 1
          · subst q1; simp
          · rw [if_neg q1]
            by_cases q2 : i < n + 1
            · rw [if_pos q2, if_pos (by omega)]
            · rw [if_neg q2, if_neg (by omega)]
        have e3 : updB (fun _ => false) (n + 1) false = fun _ => false := by funext i; unfold updB; split <;> rfl
        rw [e1, e2, e3]
      refine W_to (nx := 30) [(6, .ptr 1 0 0), (43, .int .i64 1)] [(1, .blk bS 1 8 (gS 0 (n + 2) b (shE n 2)) 84), (0, .blk bA (n + 2) 5 (gA (shU n 2) (shU n 2) (shL n 2) (fun _ => false) fun _ => false) 86)] 30 ?_ ?_
      · refine vc_sound hE 30 _ _ _ 30 ?_
        refine ⟨tau [], rfl, ⟨⟨⟨rfl, trivial⟩, rfl, rfl⟩, ⟨rfl, rfl⟩, trivial⟩, ⟨rfl, rfl, rfl, rfl, fun i c hi hc => ?_⟩, ⟨rfl, rfl, rfl, rfl, fun i c hi hc => gA_rn hc⟩, trivial⟩
        obtain rfl : i = 0 := by omega
        have e1 := putE (g := gS 0 (n + 2) b (shE n 1)) (fun c hc => rfl) 5 ((n + 1 : Nat) : Int) (by omega) c hc
        have e2 : updI (shE n 1) 5 ((n + 1 : Nat) : Int) = shE n 2 := by
          funext i
          unfold updI shE
          by_cases q1 : i = 2
          · subst q1; simp
          · by_cases q2 : i = 5
            · subst q2; simp
            · simp [q1, q2]
        rw [e2] at e1
        show rn _ _ (putG 8 (gS 0 (n + 2) b (shE n 1)) 0 (2 + 5) [V.int .i64 ((n + 1 : Nat) : Int)] 0 c) _
        rw [e1]
        exact gS_rn ⟨rfl, trivial⟩
      refine vc_sound hE 20 _ _ _ 30 ?_
      refine ⟨2 - 2, _, _, by omega, ⟨2, rfl, by omega, rfl, rfl⟩, tau [], rfl, ⟨⟨⟨rfl, trivial⟩, rfl, rfl⟩, ⟨rfl, rfl⟩, trivial⟩, ⟨rfl, rfl, rfl, rfl, fun i c hi hc => (by obtain rfl : i = 0 := (by omega); exact gS_rn ⟨rfl, trivial⟩)⟩, ⟨rfl, rfl, rfl, rfl, fun i c hi hc => gA_rn hc⟩, trivial⟩
    · refine vc_sound hE 40 _ _ _ 30 ?_
      refine ⟨tau [], rfl, ?_, ⟨rfl, rfl, rfl, rfl, fun i c hi hc => ?_⟩, ⟨rfl, rfl, rfl, rfl, fun i c hi hc => gA_rn hc⟩, trivial⟩
      · repeat' (first | exact rfl | exact trivial | refine ⟨?_, ?_⟩)
      · obtain rfl : i = 0 := by omega
        exact gS_rn ⟨rfl, trivial⟩
  refine vc_sound hE 60 _ _ _ 30 ?_
  exact .inr ⟨hm, bS, bA, _, _, rfl, rfl, rfl, fun c hc => by
    match c, hc with
    | 0, _ | 1, _ => rfl
    | c + 2, _ =>
      show V.int .i64 (shE n 2 c) = V.int .i64 _
      congr 1
      unfold shE newS
      by_cases q1 : c = 2
      · subst q1; simp
      · by_cases q2 : c = 5
        · subst q2; simp
        · simp [q1, q2], fun i c hi hc => by
    have hi : i < n + 2 := hi
    match c, hc with
    | 0, _ | 1, _ =>
      show V.int .i64 (shU n 2 i) = V.int .i64 (if n ≤ i then (i : Int) else 0)
      congr 1
      unfold shU
      by_cases q1 : n ≤ i
      · rw [if_pos ⟨q1, hi⟩, if_pos q1]
      · rw [if_neg (fun q => q1 q.1), if_neg q1]
    | 2, _ =>
      show V.int .i64 (shL n 2 i) = V.int .i64 (-1)
      unfold shL
      rw [if_pos hi]
    | 3, _ | 4, _ => rfl⟩

theorem new_ok : SpecOK Tryd.prog 27 sNew := by
  refine specOK_gen (fn := Tryd.f27) rfl rfl rfl T_ok (SP := [(49, sGuard)]) (consSP sGuard_ok noSP) _ ?_
  rintro args h nx K ⟨n, b, rfl, g0, g1, hk0, hk1⟩
  refine ⟨fun t => t, [], [.int .i64 n, .int .i64 b], rfl, fun p hp => absurd hp (by simp), ⟨⟨rfl, rfl⟩, ⟨rfl, rfl⟩, trivial⟩, by simp [Tryd.f27], fun o h1 => postNew n b o h1, ?_, ?_⟩
  · rintro o h1 (⟨e, rfl⟩ | ⟨e, bS, bA, gs, ga, rfl, e1, e2, c1, c2⟩)
    · refine ⟨fun t => t, [], _, nx, ⟨fun t ht => (by cases ht), fun t b n sz g ty e => (by cases e), fun t t' ht => (by cases ht), fun e he => ?_⟩, hk0 e⟩
      obtain ⟨x, rfl, rx⟩ := he
      exact ⟨x, rfl, flat_rel _ _ ⟨trivial, trivial, trivial⟩ rx⟩
    · refine ⟨tau [(nx, 1), (nx + 1, 0)], [(nx, _), (nx + 1, _)], _, nx + 2, ⟨fun t ht => ?_, fun t b n sz g ty e => (by cases e), fun t t' ht ht' hne => ?_, fun e he => ?_⟩, hk1 e bS bA⟩
      · have hkeys := memB_iff.1 ht
        simp only [List.map_cons, List.map_nil, List.mem_cons, List.not_mem_nil, or_false] at hkeys
        have hne : nx + 1 ≠ nx := by omega
        rcases hkeys with rfl | rfl
        · refine .inr (.inr ⟨bS, 1, 8, gs, _, 84, g0, ?_, by rw [fd_cons, if_pos rfl], fun t' b' n' sz' g' ty' q => (by cases q), fun i k hi hk => ?_⟩)
          · have : tau [(t, 1), (t + 1, 0)] t = 1 := by simp [tau]
            rw [this]; exact e1
          · obtain rfl : i = 0 := by omega
            rw [c1 k hk]
            match k, hk with
            | 0, _ => exact tell_slice (by rw [e2]; show (fd (t + 1) ((t, _) :: (t + 1, _) :: h)).rf = _; rw [fd_cons, if_neg hne, fd_cons, if_pos rfl]; rfl)
            | 1, _ => exact tell_flat (by trivial)
            | k + 2, _ => exact tell_flat (by trivial)
        · refine .inr (.inr ⟨bA, _, 5, ga, _, 86, g1, ?_, by rw [fd_cons, if_neg hne, fd_cons, if_pos rfl], fun t' b' n' sz' g' ty' q => (by cases q), fun i k hi hk => ?_⟩)
          · have : tau [(nx, 1), (nx + 1, 0)] (nx + 1) = 0 := by simp [tau, beq_ne hne]
            rw [this]; exact e2
          · rw [c2 i k hi hk]
            refine tell_flat ?_
            match k, hk with
            | 0, _ | 1, _ | 2, _ | 3, _ | 4, _ => trivial
      · have hk1 := memB_iff.1 ht
        have hk2 := memB_iff.1 ht'
        simp only [List.map_cons, List.map_nil, List.mem_cons, List.not_mem_nil, or_false] at hk1 hk2
        have hne2 : nx + 1 ≠ nx := by omega
        have t0 : tau [(nx, 1), (nx + 1, 0)] nx = 1 := by simp [tau]
        have t1 : tau [(nx, 1), (nx + 1, 0)] (nx + 1) = 0 := by simp [tau, beq_ne hne2]
        rcases hk1 with rfl | rfl <;> rcases hk2 with rfl | rfl
        · exact absurd rfl hne
        · rw [t0, t1]; decide
        · rw [t0, t1]; decide
        · exact absurd rfl hne
      · obtain ⟨x, rfl, rx⟩ := he
        obtain ⟨xs, rfl, y, ys, rfl, ry, rys⟩ := rx
        refine ⟨_, rfl, _, rfl, y, ys, rfl, tell_ptr (h1 := h1) ?_ _ ry, flatL_rel [.int .i64 0] _ ⟨trivial, trivial⟩ rys⟩
        rw [e1]; show (fd nx ((nx, _) :: _)).rf = _; rw [fd_cons, if_pos rfl]; rfl
  · intro c hc
    cases e : mayB n b with
    | true =>
      have hm' := e
      unfold mayB at hm'
      simp only [Bool.and_eq_true, decide_eq_true_eq] at hm'
      obtain ⟨m, rfl⟩ : ∃ m : Nat, n = m := ⟨n.toNat, by omega⟩
      obtain ⟨k, rfl⟩ : ∃ m : Nat, b = m := ⟨b.toNat, by omega⟩
      obtain ⟨cd, h1, h2⟩ := new_walk hc e
      cases h1
      exact h2
    | false =>
      have hE := mkE' (fn := Tryd.f27) (R := fun o h _ => postNew n b o h) hc (SP := [(49, sGuard)]) (consSP sGuard_ok noSP)
      refine W_seq (nx := 0) ?_
      refine W_to (nx := 0) [(0, .int .i64 n), (1, .int .i64 b)] [] 0 ?_ ?_
      · refine vc_sound hE 20 _ _ _ 0 ?_
        exact ⟨tau [], rfl, ⟨⟨rfl, rfl⟩, ⟨rfl, rfl⟩, trivial⟩, trivial⟩
      refine W_seq (nx := 0) ?_
      refine W_piece (fun _ _ _ => False) ?_ fun _ _ _ q => q.elim
      refine vc_sound hE 60 _ _ _ 0 ?_
      have no : ¬ (((1 ≤ n ∧ n ≤ 64) ∧ 1 ≤ b) ∧ b ≤ n) := by
        rintro q
        unfold mayB at e
        simp only [← Bool.not_eq_true, Bool.and_eq_true, decide_eq_true_eq] at e
        exact e q
      have fin : postNew n b (.ret (.tup [.nilp, .int .i64 1])) [] := .inl ⟨e, rfl⟩
      (refine (?_ : br _ _ _); refine br_dec (fun q => ?_) (fun q => ?_))
      · exact fin
      (refine (?_ : br _ _ _); refine br_dec (fun q2 => ?_) (fun q2 => ?_))
      · exact fin
      (refine (?_ : br _ _ _); refine br_dec (fun q3 => ?_) (fun q3 => ?_))
      · exact fin
      (refine (?_ : br _ _ _); refine br_dec (fun q4 => ?_) (fun q4 => ?_))
      · exact fin
      have q : ¬ n < 1 := q
      have q2 : ¬ 64 < n := q2
      have q3 : ¬ b < 1 := q3
      have q4 : ¬ n < b := q4
      exact absurd ⟨⟨⟨by omega, by omega⟩, by omega⟩, by omega⟩ no
end Go.Proofs.YtiihiifcnkfjoaaDoor.Sx

