import Derived.Test.YtfmnebdfanaafaaSxW5
import Derived.Test.YtfmnebdfanaafaaSxZ
/-
  The walks of this seat's functions, sixth part: run.Cover.
-/
namespace Go.Proofs.Ytfmnebdfanaafaa.Sx
open Go Go.Proofs
set_option maxRecDepth 100000
set_option linter.unusedSimpArgs false
set_option linter.unusedVariables false
set_option linter.unnecessarySimpa false

/-- The runs so far, and one more block. -/
def covStep (most : Int) (inn : Bool) (b : Int) (l : List (Int × Int)) : List (Int × Int) :=
  match inn with
  | false => l
  | true => (match l.getLast? with
    | some (a, c) => if a + c = b ∧ c < most then l.dropLast ++ [(a, c + 1)] else l ++ [(b, 1)]
    | none => l ++ [(b, 1)])
def cov (most : Int) (H : Int → Bool) : Nat → List (Int × Int)
  | 0 => []
  | k + 1 => covStep most (H k) k (cov most H k)
def rowsL (n : Nat) (F F' : Nat → Int) : List (Int × Int) := (List.range n).map fun j => (F j, F' j)
theorem rowsL_succ (p : Nat) (F F' : Nat → Int) : rowsL (p + 1) F F' = rowsL p F F' ++ [(F p, F' p)] := by simp [rowsL, List.range_succ]
theorem rowsL_congr {n : Nat} {F F' G G' : Nat → Int} (h : ∀ j, j < n → F j = G j ∧ F' j = G' j) : rowsL n F F' = rowsL n G G' := by
  unfold rowsL
  apply List.map_congr_left
  intro j hj
  obtain ⟨a, b⟩ := h j (List.mem_range.1 hj)
  rw [a, b]
theorem cov_ok {most : Int} {H : Int → Bool} : ∀ k, (∀ q ∈ cov most H k, 0 ≤ q.1 ∧ 1 ≤ q.2 ∧ q.1 + q.2 ≤ k) ∧ (cov most H k).length ≤ k
  | 0 => ⟨fun q hq => by simp [cov] at hq, by simp [cov]⟩
  | k + 1 => by
    obtain ⟨h1, h2⟩ := cov_ok (most := most) (H := H) k
    unfold cov covStep
    cases H k with
    | false => exact ⟨fun q hq => by have := h1 q hq; omega, by simp only; omega⟩
    | true =>
      simp only
      split
      · rename_i a c e
        have hm : (a, c) ∈ cov most H k := List.mem_of_getLast? e
        have hac := h1 _ hm
        split
        · rename_i hc
          refine ⟨fun q hq => ?_, ?_⟩
          · rcases List.mem_append.1 hq with hq | hq
            · have := h1 q ((List.dropLast_sublist _).subset hq); omega
            · simp at hq; subst hq; simp only; simp only at hac; omega
          · have : 0 < (cov most H k).length := List.length_pos_of_mem hm
            simp; omega
        · refine ⟨fun q hq => ?_, by simp; omega⟩
          rcases List.mem_append.1 hq with hq | hq
          · have := h1 q hq; omega
          · simp at hq; subst hq; simp only; omega
      · refine ⟨fun q hq => ?_, by simp; omega⟩
        rcases List.mem_append.1 hq with hq | hq
        · have := h1 q hq; omega
        · simp at hq; subst hq; simp only; omega
theorem cov_off {most : Int} {H : Int → Bool} {k : Nat} (h : H k = false) : cov most H (k + 1) = cov most H k := by rw [cov, h]; rfl
theorem cov_new {most : Int} {H : Int → Bool} {k : Nat} (h : H k = true) (e : cov most H k = []) : cov most H (k + 1) = [((k : Int), 1)] := by rw [cov, h, e]; rfl
theorem cov_more {most : Int} {H : Int → Bool} {k p : Nat} {F F' : Nat → Int} (h : H k = true) (e : cov most H k = rowsL (p + 1) F F') :
    cov most H (k + 1) = if F p + F' p = k ∧ F' p < most then rowsL (p + 1) F (fun i => if i = p then F' p + 1 else F' i) else rowsL (p + 2) (fun i => if i < p + 1 then F i else if i = p + 1 then (k : Int) else 0) (fun i => if i < p + 1 then F' i else if i = p + 1 then 1 else 0) := by
  rw [cov, h, e]
  unfold covStep
  rw [rowsL_succ]
  simp only [List.getLast?_append, List.getLast?_singleton, Option.some_or]
  split
  · rw [List.dropLast_concat, rowsL_succ]
    congr 1
    · exact rowsL_congr fun j hj => ⟨rfl, by rw [if_neg (by omega)]⟩
    · simp
  · rw [rowsL_succ (p + 1), rowsL_succ p]
    congr 1
    · congr 1
      · exact rowsL_congr fun j hj => ⟨by rw [if_pos (by omega)], by rw [if_pos (by omega)]⟩
      · simp
    · simp

def covBad (most : Int) (n : Nat) (f : Nat → Int) : Bool := decide (most < 1) || (decide (8 < most) || offB n f)
def sCover : Spec := fun args h nx K => ∃ v n f most, args = [v, .int .i64 most] ∧ rdI h v n f ∧ n ≤ 1000000000 ∧ i64 most ∧
  (covBad most n f = true → K (.ret (.tup [.nils, .int .i64 1])) h nx) ∧
  (covBad most n f = false → (cov most (hasB n f) 256 = [] → K (.ret (.tup [.nils, .int .i64 0])) h nx) ∧
    ∀ (p bb cap : Nat) (F F' : Nat → Int), cov most (hasB n f) 256 = rowsL (p + 1) F F' → p + 1 ≤ cap → fd nx h = .gone ∧ K (.ret (.tup [.slice nx 0 (p + 1) cap, .int .i64 0])) ((nx, .blk bb cap 2 (g2 .i64 .i64 F F') 27) :: h) (nx + 1))

def SPC : SpT := [(24, sCF)]
theorem spc : ∀ p ∈ SPC, SpecOK Try.prog p.1 p.2 := consSP sCF_ok noSP

/-- What is known at the head of the second loop. -/
def JC (most : Int) (H : Int → Bool) (L : List V) : Nat → Sl → Hp → Prop := fun r σ h => ∃ k : Nat, r = 256 - k ∧ k ≤ 256 ∧
  ((cov most H k = [] ∧ σ = [(1, .int .i64 most), (9, .nils), (32, .agg L), (33, .int .i64 k)] ∧ h = []) ∨
   ∃ (p bb cap : Nat) (F F' : Nat → Int), cov most H k = rowsL (p + 1) F F' ∧ p + 1 ≤ cap ∧ σ = [(1, .int .i64 most), (9, .slice 9 0 (p + 1) cap), (32, .agg L), (33, .int .i64 k)] ∧ h = [(9, .blk bb cap 2 (g2 .i64 .i64 F F') 27)])

set_option maxHeartbeats 4000000 in
theorem sCover_ok : SpecOK Try.prog 10 sCover := by
  refine specOK_new (fn := Try.f10) rfl rfl rfl T_ok (SP := SPC) spc 300 _ ?_
  rintro args h nx K ⟨v, n, f, most, rfl, hv, hn, im, hbad, hgood⟩
  obtain ⟨b, N, i, c, F, hN, hF, told⟩ := told_one (rest := [.int .i64 most]) hv ⟨trivial, trivial⟩
  refine ⟨_, _, told, by simp [Try.f10], fun o h1 => (covBad most n f = true ∧ o = .ret (.tup [.nils, .int .i64 1])) ∨ (covBad most n f = false ∧ ((cov most (hasB n f) 256 = [] ∧ o = .ret (.tup [.nils, .int .i64 0])) ∨ ∃ (t p bb cap : Nat) (F F' : Nat → Int), cov most (hasB n f) 256 = rowsL (p + 1) F F' ∧ p + 1 ≤ cap ∧ fd t h1 = .blk bb cap 2 (g2 .i64 .i64 F F') 27 ∧ o = .ret (.tup [.slice t 0 (p + 1) cap, .int .i64 0]))), ?_, ?_⟩
  · rintro o h1 (⟨e, rfl⟩ | ⟨e, (⟨e2, rfl⟩ | ⟨t, p, bb, cap, F, F', e2, e3, e4, rfl⟩)⟩)
    · exact .inl ⟨by repeat constructor, hbad e⟩
    · exact .inl ⟨by repeat constructor, (hgood e).1 e2⟩
    · obtain ⟨q1, q2⟩ := (hgood e).2 p bb cap F F' e2 e3
      refine .inr ⟨_, t, bb, cap, 2, _, 27, .tup [.slice nx 0 (p + 1) cap, .int .i64 0], rfl, e4, fun i c _ hc => ?_, ⟨⟨⟨rfl, by simp [live, fd]⟩, rfl, rfl, rfl⟩, ⟨rfl, rfl⟩, trivial⟩, q1, q2⟩
      match c, hc with
      | 0, _ | 1, _ => trivial
  intro cx hcx
  clear hbad hgood told hv
  unfold i64 at im
  (refine (?_ : br _ _ _); refine br_dec (fun a1 => ?_) (fun a1 => ?_))
  · have a1 : most < 1 := a1
    exact .inl ⟨by simp [covBad, a1], rfl⟩
  have a1 : ¬ most < 1 := a1
  (refine (?_ : br _ _ _); refine br_dec (fun a2 => ?_) (fun a2 => ?_))
  · have a2 : 8 < most := a2
    exact .inl ⟨by simp [covBad, a2], rfl⟩
  have a2 : ¬ 8 < most := a2
  refine ⟨_, n, f, rfl, .inr ⟨2000, i, c, b, N, _, rfl, rfl, hN, F, fun _ _ => rfl, hF⟩, hn, ?_⟩
  (refine (?_ : br _ _ _); refine br_both (fun a3 => ?_) (fun a3 => ?_))
  · have a3 : offB n f = true := a3
    exact .inl ⟨by simp [covBad, a3], rfl⟩
  have a3 : offB n f = false := a3
  have hcb : covBad most n f = false := by simp [covBad, a3]; omega
  have hin : ∀ j, j < n → 0 ≤ f j ∧ f j < 256 := fun j hj => by
    have : isB (f j) = true := by
      cases e : isB (f j) with
      | true => rfl
      | false => rw [offB_iff.2 ⟨j, hj, e⟩] at a3; cases a3
    simpa [isB] using this
  intro b0
  refine W_loop (fun r σ h => ∃ (k : Nat) (H : Nat → Bool), r = n - k ∧ k ≤ n ∧ (∀ x : Nat, H x = hasB k f x) ∧ σ = [(1, .int .i64 most), (6, .ptr 0 0 0), (23, .slice 2000 i n c), (24, .int .i64 n), (25, .int .i64 k)] ∧ h = [(0, .blk b0 256 1 (gb H) 48), (2000, .ro b N 1 (g1 .i64 F))]) n ⟨0, fun _ => false, rfl, by omega, fun x => rfl, rfl, rfl⟩ (tau []) ⟨rfl, ?_, ?_⟩ 30 ?_
  · repeat' (first | exact rfl | exact trivial | refine ⟨?_, ?_⟩)
  · refine ⟨⟨rfl, rfl, rfl, rfl, fun i c hi hc => ?_⟩, ⟨rfl, rfl, rfl, fun i c hi hc => ⟨rfl, rfl⟩⟩, trivial⟩
    have hi : i < 256 := hi
    have hc : c < 1 := hc
    obtain rfl : c = 0 := by omega
    have e : gOf 1 (List.replicate 256 (.bool false)) i 0 = .bool false := by unfold gOf; rw [List.getElem?_replicate, if_pos (by omega)]
    show rn _ _ (gOf 1 (List.replicate 256 (.bool false)) i 0) (.bool false)
    rw [e]
    rfl
  rintro r σ h1 ⟨k, H, rfl, hk, hH, rfl, rfl⟩
  refine vc_sound (mkE hcx T_ok spc) 300 _ _ _ 30 ?_
  (refine (?_ : br _ _ _); refine br_dec (fun hlt => ?_) (fun hlt => ?_))
  · have hlt : (k : Int) < (n : Int) := hlt
    have hkn : k < n := by omega
    have hw : IntKind.i64.wrap ((k : Int) + 1) = ((k + 1 : Nat) : Int) := by simp [IntKind.wrap_i64]; omega
    have q1 : f k = F (addI i k) := by rw [hF k hkn, addI_eq]
    have hr := hin k hkn
    rw [q1] at hr
    (refine (?_ : chk _ _); refine chk_ok (by simp; omega) ?_)
    (refine (?_ : chk _ _); refine chk_ok rfl ?_)
    (refine (?_ : chk _ _); refine chk_ok (Nat.ble_eq_true_of_le (show addI i k * 1 + 0 + 1 ≤ N * 1 by rw [addI_eq]; omega)) ?_)
    (refine (?_ : chk _ _); refine chk_ok rfl ?_)
    (refine (?_ : chk _ _); refine chk_ok (show (decide (0 ≤ F (addI i k)) && decide (F (addI i k) < 256)) = true by simp; omega) ?_)
    (refine (?_ : chk _ _); refine chk_ok (Nat.ble_eq_true_of_le (show addI 0 (F (addI i k)).toNat * 1 + 0 + 1 ≤ 256 * 1 by rw [addI_eq]; omega)) ?_)
    refine ⟨n - (k + 1), _, _, by omega, ⟨k + 1, fun x => if x = addI 0 (F (addI i k)).toNat then true else H x, rfl, by omega, fun x => ?_, rfl, rfl⟩, tau [], rfl, ?_, ?_⟩
    · have e1 : hasB (k + 1) f x = (hasB k f x || decide (f k = x)) := by simp [hasB, List.range_succ]
      simp only [e1, hH x, addI_eq, Nat.zero_add, q1]
      rw [addI_eq] at hr
      by_cases hx : x = (F (i + k)).toNat
      · rw [if_pos hx, decide_eq_true (by omega)]; simp
      · rw [if_neg hx, decide_eq_false (by omega)]; simp
    · repeat' (first | exact rfl | exact trivial | exact hw | refine ⟨?_, ?_⟩)
    · refine ⟨⟨rfl, rfl, rfl, rfl, fun i' c' hi hc => ?_⟩, ⟨rfl, rfl, rfl, fun i c hi hc => ⟨rfl, rfl⟩⟩, trivial⟩
      have hc : c' < 1 := hc
      obtain rfl : c' = 0 := by omega
      show rn _ _ (putG 1 (gb H) (addI 0 (F (addI i k)).toNat) 0 [.bool true] i' 0) _
      rw [putG_one (by omega) (by omega)]
      unfold gb
      by_cases hx : i' = addI 0 (F (addI i k)).toNat
      · rw [if_pos ⟨hx, rfl⟩]; simp only [if_pos hx]; rfl
      · rw [if_neg (fun q => hx q.1)]; simp only [if_neg hx]; rfl
  have hlt : ¬ (k : Int) < (n : Int) := hlt
  obtain rfl : k = n := by omega
  refine W_loop (JC most (hasB k f) (cellsFrom 1 (gb H) 0 0 256)) 256 ⟨0, rfl, by omega, .inl ⟨rfl, rfl, rfl⟩⟩ (tau []) ⟨rfl, ?_, trivial⟩ 30 ?_
  · have hb := rnL_bools (τ := tau []) (h := []) (cellsFrom 1 (gb H) 0 0 256) (cells_bools H 256 0)
    refine ⟨⟨rfl, rfl⟩, trivial, hb, ⟨rfl, rfl⟩, trivial⟩
  have hb := fun (τ : Nat → Nat) (h : Hp) => rnL_bools (τ := τ) (h := h) (cellsFrom 1 (gb H) 0 0 256) (cells_bools H 256 0)
  have hH2 : ∀ x : Nat, H x = hasB k f x := hH
  clear hin hlt hk
  rintro r2 σ2 h2 ⟨j, rfl, hj, (⟨e, rfl, rfl⟩ | ⟨p, bb, cap, F0, F1, e, hcap, rfl, rfl⟩)⟩
  · refine vc_sound (mkE hcx T_ok spc) 300 _ _ _ 30 ?_
    (refine (?_ : br _ _ _); refine br_dec (fun hlt => ?_) (fun hlt => ?_))
    · have hlt : (j : Int) < 256 := hlt
      have hw : IntKind.i64.wrap ((j : Int) + 1) = ((j + 1 : Nat) : Int) := by simp [IntKind.wrap_i64]; omega
      cases hHj : H j with
      | false =>
        have hcov := cov_off (most := most) (H := hasB k f) (k := j) (by rw [← hH2 j]; exact hHj)
        have hat : (cellsFrom 1 (gb H) 0 0 256)[j]? = some (.bool false) := by
          rw [cellsFrom_at _ _ _ _ _ _ (by omega)]
          simp [gb, hHj]
        (refine (?_ : chk _ _); refine chk_ok (show (decide (0 ≤ (j : Int)) && decide ((j : Int) < 256)) = true by simp; omega) ?_)
        dsimp only
        rw [Int.toNat_natCast, Nat.mul_one, hat]
        refine ⟨256 - (j + 1), _, _, by omega, ⟨j + 1, rfl, by omega, .inl ⟨hcov.trans e, rfl, rfl⟩⟩, tau [], rfl, ?_, trivial⟩
        repeat' (first | exact rfl | exact trivial | exact hw | exact hb _ _ | refine ⟨?_, ?_⟩)
      | true =>
        have hcov := cov_new (most := most) (H := hasB k f) (k := j) (by rw [← hH2 j]; exact hHj) e
        have hat : (cellsFrom 1 (gb H) 0 0 256)[j]? = some (.bool true) := by
          rw [cellsFrom_at _ _ _ _ _ _ (by omega)]
          simp [gb, hHj]
        (refine (?_ : chk _ _); refine chk_ok (show (decide (0 ≤ (j : Int)) && decide ((j : Int) < 256)) = true by simp; omega) ?_)
        dsimp only
        rw [Int.toNat_natCast, Nat.mul_one, hat]
        refine W_drawn (id := 16) (mkE hcx T_ok spc) 60 1000 (by rw [hcx]; exact mix) (by kernel_rfl) (by kernel_rfl) 200 ?_
        refine ⟨_, ⟨rfl, rfl⟩, ?_⟩
        refine ⟨_, ⟨rfl, rfl⟩, ?_⟩
        refine ⟨_, ⟨rfl, rfl⟩, ?_⟩
        repeat' (first | refine ⟨_, ⟨rfl, rfl⟩, ?_⟩ | fail)
        intro b1
        refine ⟨rfl, fun bb cap h1 h2 => ?_⟩
        refine ⟨256 - (j + 1), _, _, by omega, ⟨j + 1, rfl, by omega, .inr ⟨0, bb, cap, fun i => if i < 0 then 0 else if i = 0 then (j : Int) else 0, fun i => if i < 0 then 0 else if i = 0 then 1 else 0, hcov.trans rfl, h1, rfl, rfl⟩⟩, tau [(9, 61)], rfl, ?_, ?_⟩
        · repeat' (first | exact rfl | exact trivial | exact hw | exact hb _ _ | refine ⟨?_, ?_⟩)
        · exact ⟨⟨rfl, rfl, rfl, rfl, fun i c hi hc => appG_pair (F := fun _ => 0) (F' := fun _ => 0) (fun i c hi hc => absurd hi (by omega)) rfl rfl rfl rfl i c hc⟩, trivial⟩
    · have hlt : ¬ (j : Int) < 256 := hlt
      obtain rfl : j = 256 := by omega
      exact .inr ⟨hcb, .inl ⟨e, rfl⟩⟩
  · refine vc_sound (mkE hcx T_ok spc) 300 _ _ _ 30 ?_
    (refine (?_ : br _ _ _); refine br_dec (fun hlt => ?_) (fun hlt => ?_))
    · have hlt : (j : Int) < 256 := hlt
      have hw : IntKind.i64.wrap ((j : Int) + 1) = ((j + 1 : Nat) : Int) := by simp [IntKind.wrap_i64]; omega
      have hlen := (cov_ok (most := most) (H := hasB k f) j).2
      rw [e] at hlen
      have hp : p + 1 ≤ 256 := by simp [rowsL] at hlen; omega
      have hrow := (cov_ok (most := most) (H := hasB k f) j).1 (F0 p, F1 p) (by rw [e, rowsL_succ]; simp)
      have wl : IntKind.i64.wrap (((p + 1 : Nat) : Int) - 1) = p := by simp [IntKind.wrap_i64]; omega
      have hPP : addI 0 (IntKind.i64.wrap (((p + 1 : Nat) : Int) - 1)).toNat = p := by rw [wl, addI_eq]; omega
      cases hHj : H j with
      | false =>
        have hcov := cov_off (most := most) (H := hasB k f) (k := j) (by rw [← hH2 j]; exact hHj)
        have hat : (cellsFrom 1 (gb H) 0 0 256)[j]? = some (.bool false) := by
          rw [cellsFrom_at _ _ _ _ _ _ (by omega)]
          simp [gb, hHj]
        (refine (?_ : chk _ _); refine chk_ok (show (decide (0 ≤ (j : Int)) && decide ((j : Int) < 256)) = true by simp; omega) ?_)
        dsimp only
        rw [Int.toNat_natCast, Nat.mul_one, hat]
        refine ⟨256 - (j + 1), _, _, by omega, ⟨j + 1, rfl, by omega, .inr ⟨p, bb, cap, F0, F1, hcov.trans e, hcap, rfl, rfl⟩⟩, tau [], rfl, ?_, ⟨⟨rfl, rfl, rfl, rfl, fun i c hi hc => g2_rn rfl rfl⟩, trivial⟩⟩
        repeat' (first | exact rfl | exact trivial | exact hw | exact hb _ _ | refine ⟨?_, ?_⟩)
      | true =>
        have hcov := cov_more (most := most) (H := hasB k f) (k := j) (by rw [← hH2 j]; exact hHj) e
        have hat : (cellsFrom 1 (gb H) 0 0 256)[j]? = some (.bool true) := by
          rw [cellsFrom_at _ _ _ _ _ _ (by omega)]
          simp [gb, hHj]
        (refine (?_ : chk _ _); refine chk_ok (show (decide (0 ≤ (j : Int)) && decide ((j : Int) < 256)) = true by simp; omega) ?_)
        dsimp only
        rw [Int.toNat_natCast, Nat.mul_one, hat]
        refine W_drawn (id := 16) (mkE hcx T_ok spc) 60 1000 (by rw [hcx]; exact mix) (by kernel_rfl) (by kernel_rfl) 200 ?_
        have hidx : (decide (0 ≤ IntKind.i64.wrap (((p + 1 : Nat) : Int) - 1)) && decide (IntKind.i64.wrap (((p + 1 : Nat) : Int) - 1) < ((p + 1 : Nat) : Int))) = true := by rw [wl]; simp; omega
        have hld0 : Nat.ble (addI 0 (IntKind.i64.wrap (((p + 1 : Nat) : Int) - 1)).toNat * 2 + (0 + 0) + 1) (cap * 2) = true := by rw [hPP]; exact Nat.ble_eq_true_of_le (by omega)
        have hld1 : Nat.ble (addI 0 (IntKind.i64.wrap (((p + 1 : Nat) : Int) - 1)).toNat * 2 + (0 + 1) + 1) (cap * 2) = true := by rw [hPP]; exact Nat.ble_eq_true_of_le (by omega)
        have v0 : F0 (addI 0 (IntKind.i64.wrap (((p + 1 : Nat) : Int) - 1)).toNat + (0 + 0) / 2) = F0 p := congrArg F0 hPP
        have v1 : F1 (addI 0 (IntKind.i64.wrap (((p + 1 : Nat) : Int) - 1)).toNat + (0 + 1) / 2) = F1 p := congrArg F1 hPP
        have wsum : IntKind.i64.wrap (F0 p + F1 p) = F0 p + F1 p := by simp [IntKind.wrap_i64]; omega
        refine ⟨_, ⟨rfl, rfl⟩, ?_⟩
        refine ⟨_, ⟨rfl, rfl⟩, ?_⟩
        refine ⟨_, ⟨rfl, rfl⟩, ?_⟩
        (refine (?_ : br _ _ _); refine br_decT (by rw [wl]; omega) ?_)
        refine ⟨_, ⟨rfl, rfl⟩, ?_⟩
        refine ⟨_, ⟨rfl, rfl⟩, ?_⟩
        refine ⟨_, (show chk _ _ from chk_ok hidx (show chk _ _ from chk_ok rfl ⟨rfl, rfl⟩)), ?_⟩
        refine ⟨_, ⟨rfl, rfl⟩, ?_⟩
        refine ⟨_, (show chk _ _ from chk_ok hld0 ⟨rfl, rfl⟩), ?_⟩
        refine ⟨_, ⟨rfl, rfl⟩, ?_⟩
        refine ⟨_, ⟨rfl, rfl⟩, ?_⟩
        refine ⟨_, (show chk _ _ from chk_ok hidx (show chk _ _ from chk_ok rfl ⟨rfl, rfl⟩)), ?_⟩
        refine ⟨_, ⟨rfl, rfl⟩, ?_⟩
        refine ⟨_, (show chk _ _ from chk_ok hld1 ⟨rfl, rfl⟩), ?_⟩
        refine ⟨_, ⟨rfl, rfl⟩, ?_⟩
        refine ⟨_, ⟨rfl, rfl⟩, ?_⟩
        refine ⟨_, ⟨rfl, rfl⟩, ?_⟩
        refine ⟨_, ⟨rfl, rfl⟩, ?_⟩
        refine ⟨_, ⟨rfl, rfl⟩, ?_⟩
        (refine (?_ : br _ _ _); refine br_eq (fun e1 => ?_) (fun e1 => ?_))
        · have e1 : IntKind.i64.wrap (F0 (addI 0 (IntKind.i64.wrap (((p + 1 : Nat) : Int) - 1)).toNat + (0 + 0) / 2) + F1 (addI 0 (IntKind.i64.wrap (((p + 1 : Nat) : Int) - 1)).toNat + (0 + 1) / 2)) = (j : Int) := e1
          rw [v0, v1, wsum] at e1
          refine ⟨_, ⟨rfl, rfl⟩, ?_⟩
          refine ⟨_, ⟨rfl, rfl⟩, ?_⟩
          refine ⟨_, (show chk _ _ from chk_ok hidx (show chk _ _ from chk_ok rfl ⟨rfl, rfl⟩)), ?_⟩
          refine ⟨_, ⟨rfl, rfl⟩, ?_⟩
          refine ⟨_, (show chk _ _ from chk_ok hld1 ⟨rfl, rfl⟩), ?_⟩
          refine ⟨_, ⟨rfl, rfl⟩, ?_⟩
          refine ⟨_, ⟨rfl, rfl⟩, ?_⟩
          refine ⟨_, ⟨rfl, rfl⟩, ?_⟩
          refine ⟨_, ⟨rfl, rfl⟩, ?_⟩
          (refine (?_ : br _ _ _); refine br_dec (fun e2 => ?_) (fun e2 => ?_))
          · have e2 : F1 (addI 0 (IntKind.i64.wrap (((p + 1 : Nat) : Int) - 1)).toNat + (0 + 1) / 2) < most := e2
            rw [v1] at e2
            rw [if_pos ⟨e1, e2⟩] at hcov
            have w1 : IntKind.i64.wrap (F1 (addI 0 (IntKind.i64.wrap (((p + 1 : Nat) : Int) - 1)).toNat + (0 + 1) / 2) + 1) = F1 p + 1 := by rw [v1]; simp [IntKind.wrap_i64]; omega
            (refine (?_ : chk _ _); refine chk_ok hidx ?_)
            (refine (?_ : chk _ _); refine chk_ok rfl ?_)
            (refine (?_ : chk _ _); refine chk_ok hld1 ?_)
            (refine (?_ : chk _ _); refine chk_ok rfl ?_)
            (refine (?_ : chk _ _); refine chk_ok hidx ?_)
            (refine (?_ : chk _ _); refine chk_ok rfl ?_)
            (refine (?_ : chk _ _); refine chk_ok hld1 ?_)
            refine ⟨256 - (j + 1), _, _, by omega, ⟨j + 1, rfl, by omega, .inr ⟨p, bb, cap, _, _, hcov, hcap, rfl, rfl⟩⟩, tau [], rfl, ?_, ⟨⟨rfl, rfl, rfl, rfl, fun i c hi hc => ?_⟩, trivial⟩⟩
            · repeat' (first | exact rfl | exact trivial | exact hw | exact hb _ _ | refine ⟨?_, ?_⟩)
            · have hfun : (fun i => if i = addI 0 (IntKind.i64.wrap (((p + 1 : Nat) : Int) - 1)).toNat then IntKind.i64.wrap (F1 (addI 0 (IntKind.i64.wrap (((p + 1 : Nat) : Int) - 1)).toNat + (0 + 1) / 2) + 1) else F1 i) = (fun i => if i = p then F1 p + 1 else F1 i) := by
                funext i
                rw [w1, hPP]
              rw [← hfun]
              exact put_snd i c hc
          · have e2 : ¬ F1 (addI 0 (IntKind.i64.wrap (((p + 1 : Nat) : Int) - 1)).toNat + (0 + 1) / 2) < most := e2
            rw [v1] at e2
            have hcov2 := hcov.trans (if_neg (fun q => e2 q.2))
            intro b1
            (refine (?_ : br _ _ _); refine br_both (fun hc1 => ?_) (fun hc1 => ?_))
            · have hc1 : p + 1 + 1 ≤ cap := Nat.le_of_ble_eq_true hc1
              (refine (?_ : chk _ _); refine chk_ok (show (Nat.beq 2 2 && Nat.ble (0 + (p + 1) + 1) cap) = true by rw [Nat.ble_eq_true_of_le (by omega)]; rfl) ?_)
              refine ⟨fun i k hi hk => ?_, ?_⟩
              · have hi : i < 1 := hi
                have hk : k < 2 := hk
                obtain rfl : i = 0 := by omega
                match k, hk with
                | 0, _ | 1, _ => rfl
              refine ⟨256 - (j + 1), _, _, by omega, ⟨j + 1, rfl, by omega, .inr ⟨p + 1, bb, cap, fun i => if i = p + 1 then (j : Int) else F0 i, fun i => if i = p + 1 then 1 else F1 i, hcov2.trans (rowsL_congr fun i hi => ?_), hc1, rfl, rfl⟩⟩, tau [], rfl, ?_, ?_⟩
              · by_cases q : i < p + 1
                · simp only [if_pos q, if_neg (show ¬ i = p + 1 by omega)]; exact ⟨trivial, trivial⟩
                · have q2 : i = p + 1 := by omega
                  subst q2
                  simp
              · repeat' (first | exact rfl | exact trivial | exact hw | exact hb _ _ | refine ⟨?_, ?_⟩)
              · exact ⟨⟨rfl, rfl, rfl, rfl, fun i c hi hc => appR_pair rfl rfl i c hc⟩, trivial⟩
            · (refine (?_ : chk _ _); refine chk_ok (Nat.ble_eq_true_of_le (by omega)) ?_)
              (refine (?_ : chk _ _); refine chk_ok (show (Nat.beq 2 2 && Nat.ble (0 + (p + 1)) cap) = true by rw [Nat.ble_eq_true_of_le (by omega)]; rfl) ?_)
              refine ⟨rfl, fun bb' cap' h1 h2 => ?_⟩
              refine ⟨256 - (j + 1), _, _, by omega, ⟨j + 1, rfl, by omega, .inr ⟨p + 1, bb', cap', _, _, hcov2, h1, rfl, rfl⟩⟩, tau [(9, 61)], rfl, ?_, ?_⟩
              · repeat' (first | exact rfl | exact trivial | exact hw | exact hb _ _ | refine ⟨?_, ?_⟩)
              · exact ⟨⟨rfl, rfl, rfl, rfl, fun i c hi hc => appG_pair (fun i c hi hc => rfl) rfl rfl rfl rfl i c hc⟩, trivial⟩
        · have e1 : IntKind.i64.wrap (F0 (addI 0 (IntKind.i64.wrap (((p + 1 : Nat) : Int) - 1)).toNat + (0 + 0) / 2) + F1 (addI 0 (IntKind.i64.wrap (((p + 1 : Nat) : Int) - 1)).toNat + (0 + 1) / 2)) ≠ (j : Int) := e1
          rw [v0, v1, wsum] at e1
          have hcov2 := hcov.trans (if_neg (fun q => e1 q.1))
          repeat' (first | refine ⟨_, ⟨rfl, rfl⟩, ?_⟩ | fail)
          intro b1
          (refine (?_ : br _ _ _); refine br_both (fun hc1 => ?_) (fun hc1 => ?_))
          · have hc1 : p + 1 + 1 ≤ cap := Nat.le_of_ble_eq_true hc1
            (refine (?_ : chk _ _); refine chk_ok (show (Nat.beq 2 2 && Nat.ble (0 + (p + 1) + 1) cap) = true by rw [Nat.ble_eq_true_of_le (by omega)]; rfl) ?_)
            refine ⟨fun i k hi hk => ?_, ?_⟩
            · have hi : i < 1 := hi
              have hk : k < 2 := hk
              obtain rfl : i = 0 := by omega
              match k, hk with
              | 0, _ | 1, _ => rfl
            refine ⟨256 - (j + 1), _, _, by omega, ⟨j + 1, rfl, by omega, .inr ⟨p + 1, bb, cap, fun i => if i = p + 1 then (j : Int) else F0 i, fun i => if i = p + 1 then 1 else F1 i, hcov2.trans (rowsL_congr fun i hi => ?_), hc1, rfl, rfl⟩⟩, tau [], rfl, ?_, ?_⟩
            · by_cases q : i < p + 1
              · simp only [if_pos q, if_neg (show ¬ i = p + 1 by omega)]; exact ⟨trivial, trivial⟩
              · have q2 : i = p + 1 := by omega
                subst q2
                simp
            · repeat' (first | exact rfl | exact trivial | exact hw | exact hb _ _ | refine ⟨?_, ?_⟩)
            · exact ⟨⟨rfl, rfl, rfl, rfl, fun i c hi hc => appR_pair rfl rfl i c hc⟩, trivial⟩
          · (refine (?_ : chk _ _); refine chk_ok (Nat.ble_eq_true_of_le (by omega)) ?_)
            (refine (?_ : chk _ _); refine chk_ok (show (Nat.beq 2 2 && Nat.ble (0 + (p + 1)) cap) = true by rw [Nat.ble_eq_true_of_le (by omega)]; rfl) ?_)
            refine ⟨rfl, fun bb' cap' h1 h2 => ?_⟩
            refine ⟨256 - (j + 1), _, _, by omega, ⟨j + 1, rfl, by omega, .inr ⟨p + 1, bb', cap', _, _, hcov2, h1, rfl, rfl⟩⟩, tau [(9, 61)], rfl, ?_, ?_⟩
            · repeat' (first | exact rfl | exact trivial | exact hw | exact hb _ _ | refine ⟨?_, ?_⟩)
            · exact ⟨⟨rfl, rfl, rfl, rfl, fun i c hi hc => appG_pair (fun i c hi hc => rfl) rfl rfl rfl rfl i c hc⟩, trivial⟩
    · have hlt : ¬ (j : Int) < 256 := hlt
      obtain rfl : j = 256 := by omega
      exact .inr ⟨hcb, .inr ⟨9, p, bb, cap, F0, F1, e, hcap, rfl, rfl⟩⟩
end Go.Proofs.Ytfmnebdfanaafaa.Sx
