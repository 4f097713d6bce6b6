import Derived.Test.YtmohokeeglnliaaDoorSxL3
import Derived.Test.YtmohokeeglnliaaDoorSxL5
/-
  ReportBest, walked.
-/
namespace Go.Proofs.YtmohokeeglnliaaDoor.Sx
open Go Go.Proofs Go.RowKit Go.Sort
set_option maxRecDepth 100000
set_option linter.unusedSimpArgs false
set_option linter.unusedVariables false

theorem toldK_two {h : Hp} {v v' : V} {n n' : Nat} {f f' : Nat → Nat → Int} (hv : rdK 10 kT h v n f) (hv' : rdK 6 kR h v' n' f') : ∃ (b : Option Addr) (N i c : Nat) (F : Nat → Nat → Int) (b' : Option Addr) (N' i' c' : Nat) (F' : Nat → Nat → Int), i + n ≤ N ∧ (∀ j k, j < n → k < 10 → f j k = F (i + j) k) ∧ i' + n' ≤ N' ∧ (∀ j k, j < n' → k < 6 → f' j k = F' (i' + j) k) ∧
    Told h [v, v'] [(2000, .ro b N 10 (gK kT F)), (2001, .ro b' N' 6 (gK kR F'))] [.slice 2000 i n c, .slice 2001 i' n' c'] := by
  obtain ⟨b, N, i, c, F, h1, h2, h3⟩ := rdK_one hv 2000
  obtain ⟨b', N', i', c', F', h1', h2', h3'⟩ := rdK_one hv' 2001
  refine ⟨b, N, i, c, F, b', N', i', c', F', h1, h2, h1', h2', ⟨fun hr hvv => ?_⟩⟩
  obtain ⟨y, ys, rfl, ry, y', ys', rfl, ry', rfl⟩ := hvv
  obtain ⟨k1, k2⟩ := h3 _ _ _ hr ry
  obtain ⟨k1', k2'⟩ := h3' _ _ _ hr ry'
  exact ⟨rel_ros ⟨k1.1, k1'⟩ hr.qtabs, y, _, rfl, k2 _ rfl, y', _, rfl, k2' _ rfl, rfl⟩

theorem btr_anti (a0 a1 a4 a5 a6 b0 b1 b4 b5 b6 : Int) : btrV b0 b1 b4 b5 b6 a0 a1 a4 a5 a6 = -btrV a0 a1 a4 a5 a6 b0 b1 b4 b5 b6 := by
  rw [btr_rk, btr_rk]
  simp only
  (repeat' split) <;> omega
theorem btr_mem (a0 a1 a4 a5 a6 b0 b1 b4 b5 b6 : Int) : -1 ≤ btrV a0 a1 a4 a5 a6 b0 b1 b4 b5 b6 ∧ btrV a0 a1 a4 a5 a6 b0 b1 b4 b5 b6 ≤ 1 := by
  rw [btr_rk]
  simp only
  (repeat' split) <;> omega

def SPBL : SpT := [(8, sAwake), (13, sBestR), (14, sBestR), (15, sMeanR), (16, sMeanR), (17, sBetter), (18, sBetter)]
theorem spbl : ∀ p ∈ SPBL, SpecOK Tryd.prog p.1 p.2 := consSP sAwake_ok (consSP sBestR_ok (consSP sRefBestR_ok (consSP sMeanR_ok (consSP sRefMeanR_ok (consSP sBetter_ok (consSP sRefBetter_ok noSP))))))
def sBestL : Spec := fun args h nx K => ∃ (v : V) (n : Nat) (f : Nat → Nat → Int) (v' : V) (n' : Nat) (f' : Nat → Nat → Int), args = [v, v'] ∧ rdK 10 kT h v n f ∧ rdK 6 kR h v' n' f' ∧ (∀ j k, j < n → k < 10 → bnd (f j k)) ∧ K (.ret (.bool true)) h nx
theorem sBestL_ok : SpecOK Tryd.prog 4 sBestL := by
  refine specOK_read2 (fn := Tryd.f4) rfl rfl rfl T_ok (SP := SPBL) spbl 400 _ ?_
  rintro args h nx K ⟨v, n, f, v', n', f', rfl, hv, hv', hb, hk⟩
  obtain ⟨b, N, i, c, F, b', N', i', c', F', hN, hF, hN', hF', told⟩ := toldK_two hv hv'
  refine ⟨_, _, told, by simp [Tryd.f4], fun o => o = .ret (.bool true), ?_, ?_⟩
  · rintro o rfl; exact ⟨trivial, hk⟩
  intro cx hc
  clear hk told hv hv'
  have hb' : ∀ j k, j < n → k < 10 → bnd (F (i + j) k) := fun j k hj hk => by rw [← hF j k hj hk]; exact hb j k hj hk
  refine ⟨rfl, ?_⟩
  (refine (?_ : br _ _ _); refine br_dec (fun e => ?_) (fun e => ?_))
  · exact outB rfl
  have e : ¬ (100 : Int) < (n : Int) := e
  (refine (?_ : br _ _ _); refine br_dec (fun e' => ?_) (fun e' => ?_))
  · exact outB rfl
  have e' : ¬ (100 : Int) < (n' : Int) := e'
  refine ⟨_, n, fun j k => F (i + j) k, rfl, .inr ⟨2000, i, c, b, N, _, rfl, rfl, hN, F, fun j k _ _ => rfl, fun j k _ _ => rfl⟩, hb', by omega, ?_⟩
  obtain ⟨B, hB⟩ : ∃ B, B = bestN (fun j => hitV fun k => F (i + j) k) n := ⟨_, rfl⟩
  obtain ⟨D, hD⟩ : ∃ D, D = decide (0 < n) := ⟨_, rfl⟩
  rw [← hB, ← hD]
  refine ⟨_, n, fun j k => F (i + j) k, rfl, .inr ⟨2000, i, c, b, N, _, rfl, rfl, hN, F, fun j k _ _ => rfl, fun j k _ _ => rfl⟩, hb', by omega, ?_⟩
  rw [← hB, ← hD]
  obtain ⟨p, hp⟩ : ∃ p, p = (if n' = 0 then 0 else chainN (fun j => F' (i' + j) 0) (n' - 1)) := ⟨_, rfl⟩
  obtain ⟨q, hq⟩ : ∃ p, p = (if n' = 0 then 0 else chainN (fun j => F' (i' + j) 1) (n' - 1)) := ⟨_, rfl⟩
  obtain ⟨r, hr⟩ : ∃ p, p = decide (0 < n') := ⟨_, rfl⟩
  have eM : meanO (fun j k => F' (i' + j) k) n' = [.int .u64 p, .int .u64 q, .bool r] := by rw [hp, hq, hr]; rfl
  refine ⟨_, n', fun j k => F' (i' + j) k, rfl, .inr ⟨2001, i', c', b', N', _, rfl, rfl, hN', F', fun j k _ _ => rfl, fun j k _ _ => rfl⟩, by omega, ?_⟩
  rw [eM]
  refine ⟨_, n', fun j k => F' (i' + j) k, rfl, .inr ⟨2001, i', c', b', N', _, rfl, rfl, hN', F', fun j k _ _ => rfl, fun j k _ _ => rfl⟩, by omega, ?_⟩
  rw [eM]
  clear hB hD hp hq hr eM
  (refine (?_ : br _ _ _); refine br_f (show ((B : Int) != (B : Int)) = false by simp) ?_)
  (refine (?_ : br _ _ _); refine br_f (by simp) ?_)
  (refine (?_ : br _ _ _); refine br_f (show (p != p) = false by simp) ?_)
  (refine (?_ : br _ _ _); refine br_f (show (q != q) = false by simp) ?_)
  (refine (?_ : br _ _ _); refine br_f (by simp) ?_)
  refine W_loop (fun r σ h => ∃ j : Nat, r = n - j ∧ j ≤ n ∧
    σ = [(0, .slice 2000 i n c), (15, .int .i64 j)] ∧ h = [(2000, .ro b N 10 (gK kT F))]) n ⟨0, rfl, by omega, rfl, rfl⟩ (tau []) ⟨rfl, ?_, ?_⟩ 30 ?_
  · repeat' (first | exact rfl | exact trivial | refine ⟨?_, ?_⟩)
  · exact ⟨⟨rfl, rfl, rfl, fun i c hi hc => ⟨rfl, rfl⟩⟩, trivial⟩
  rintro r0 σ h1 ⟨j, rfl, hj, rfl, rfl⟩
  have hw : IntKind.i64.wrap ((j : Int) + 1) = ((j + 1 : Nat) : Int) := by simp [IntKind.wrap_i64]; omega
  refine vc_sound (mkE hc T_ok spbl) 300 _ _ _ 30 ?_
  (refine (?_ : br _ _ _); refine br_dec (fun hlt => ?_) (fun hlt => ?_))
  · have hlt : IntKind.i64.wrap ((j : Int) + 1) < (n : Int) := hlt
    rw [hw] at hlt
    have hjn : j + 1 < n := by omega
    have b0 : bnd (F (addI i j) 0) := by rw [addI_eq]; exact hb' j 0 (by omega) (by omega)
    have b4 : bnd (F (addI i j) 4) := by rw [addI_eq]; exact hb' j 4 (by omega) (by omega)
    have c0 : bnd (F (addI i (j + 1)) 0) := by rw [addI_eq]; exact hb' (j + 1) 0 (by omega) (by omega)
    have c4 : bnd (F (addI i (j + 1)) 4) := by rw [addI_eq]; exact hb' (j + 1) 4 (by omega) (by omega)
    obtain ⟨X, hX⟩ : ∃ X, X = btrV (F (addI i j) 0) (F (addI i j) 1) (F (addI i j) 4) (F (addI i j) 5) (F (addI i j) 6) (F (addI i (j + 1)) 0) (F (addI i (j + 1)) 1) (F (addI i (j + 1)) 4) (F (addI i (j + 1)) 5) (F (addI i (j + 1)) 6) := ⟨_, rfl⟩
    have hY : btrV (F (addI i (j + 1)) 0) (F (addI i (j + 1)) 1) (F (addI i (j + 1)) 4) (F (addI i (j + 1)) 5) (F (addI i (j + 1)) 6) (F (addI i j) 0) (F (addI i j) 1) (F (addI i j) 4) (F (addI i j) 5) (F (addI i j) 6) = -X := by rw [hX]; exact btr_anti _ _ _ _ _ _ _ _ _ _
    have hXm := btr_mem (F (addI i j) 0) (F (addI i j) 1) (F (addI i j) 4) (F (addI i j) 5) (F (addI i j) 6) (F (addI i (j + 1)) 0) (F (addI i (j + 1)) 1) (F (addI i (j + 1)) 4) (F (addI i (j + 1)) 5) (F (addI i (j + 1)) 6)
    rw [← hX] at hXm
    have hneg : IntKind.i64.wrap (0 - -X) = X := by rw [IntKind.wrap_i64]; omega
    refine W_plan (mkE hc T_ok spbl) 30 45 (lineP 0 45 .done) (by rw [hc]; exact mix) (by kernel_rfl) 300 ?_
    · skip
      refine ⟨_, ⟨rfl, rfl⟩, ?_⟩
      refine ⟨_, ⟨rfl, rfl⟩, ?_⟩
      refine ⟨.ptr 2000 (addI i j) 0, (show chk _ _ from chk_ok (by simp only [Bool.and_eq_true, decide_eq_true_eq]; omega) (show chk _ _ from chk_ok rfl ⟨rfl, rfl⟩)), ?_⟩
      refine ⟨_, (show chk _ _ from chk_ok (Nat.ble_eq_true_of_le (show addI i j * 10 + 0 + 10 ≤ N * 10 by rw [addI_eq]; omega)) ⟨rfl, rfl⟩), ?_⟩
      refine ⟨_, ⟨rfl, rfl⟩, ?_⟩
      refine ⟨_, ⟨rfl, rfl⟩, ?_⟩
      refine ⟨.int .i64 ((j + 1 : Nat) : Int), ⟨congrArg (V.int .i64) hw, rfl⟩, ?_⟩
      refine ⟨.ptr 2000 (addI i (j + 1)) 0, (show chk _ _ from chk_ok (by simp only [Bool.and_eq_true, decide_eq_true_eq]; omega) (show chk _ _ from chk_ok rfl ⟨rfl, rfl⟩)), ?_⟩
      refine ⟨_, (show chk _ _ from chk_ok (Nat.ble_eq_true_of_le (show addI i (j + 1) * 10 + 0 + 10 ≤ N * 10 by rw [addI_eq]; omega)) ⟨rfl, rfl⟩), ?_⟩
      refine ⟨.int .i64 X, ⟨b0, b4, c0, c4, congrArg (V.int .i64) hX.symm, rfl⟩, ?_⟩
      refine ⟨_, ⟨rfl, rfl⟩, ?_⟩
      refine ⟨_, ⟨rfl, rfl⟩, ?_⟩
      refine ⟨.ptr 2000 (addI i j) 0, (show chk _ _ from chk_ok (by simp only [Bool.and_eq_true, decide_eq_true_eq]; omega) (show chk _ _ from chk_ok rfl ⟨rfl, rfl⟩)), ?_⟩
      refine ⟨_, (show chk _ _ from chk_ok (Nat.ble_eq_true_of_le (show addI i j * 10 + 0 + 10 ≤ N * 10 by rw [addI_eq]; omega)) ⟨rfl, rfl⟩), ?_⟩
      refine ⟨_, ⟨rfl, rfl⟩, ?_⟩
      refine ⟨_, ⟨rfl, rfl⟩, ?_⟩
      refine ⟨.int .i64 ((j + 1 : Nat) : Int), ⟨congrArg (V.int .i64) hw, rfl⟩, ?_⟩
      refine ⟨.ptr 2000 (addI i (j + 1)) 0, (show chk _ _ from chk_ok (by simp only [Bool.and_eq_true, decide_eq_true_eq]; omega) (show chk _ _ from chk_ok rfl ⟨rfl, rfl⟩)), ?_⟩
      refine ⟨_, (show chk _ _ from chk_ok (Nat.ble_eq_true_of_le (show addI i (j + 1) * 10 + 0 + 10 ≤ N * 10 by rw [addI_eq]; omega)) ⟨rfl, rfl⟩), ?_⟩
      refine ⟨.int .i64 X, ⟨b0, b4, c0, c4, congrArg (V.int .i64) hX.symm, rfl⟩, ?_⟩
      refine ⟨.bool false, ⟨congrArg V.bool (show (X != X) = false by simp), rfl⟩, ?_⟩
      refine ⟨_, ⟨rfl, rfl⟩, ?_⟩
      refine ⟨_, ⟨rfl, rfl⟩, ?_⟩
      refine ⟨_, ⟨rfl, rfl⟩, ?_⟩
      refine ⟨.ptr 2000 (addI i j) 0, (show chk _ _ from chk_ok (by simp only [Bool.and_eq_true, decide_eq_true_eq]; omega) (show chk _ _ from chk_ok rfl ⟨rfl, rfl⟩)), ?_⟩
      refine ⟨_, (show chk _ _ from chk_ok (Nat.ble_eq_true_of_le (show addI i j * 10 + 0 + 10 ≤ N * 10 by rw [addI_eq]; omega)) ⟨rfl, rfl⟩), ?_⟩
      refine ⟨_, ⟨rfl, rfl⟩, ?_⟩
      refine ⟨_, ⟨rfl, rfl⟩, ?_⟩
      refine ⟨.int .i64 ((j + 1 : Nat) : Int), ⟨congrArg (V.int .i64) hw, rfl⟩, ?_⟩
      refine ⟨.ptr 2000 (addI i (j + 1)) 0, (show chk _ _ from chk_ok (by simp only [Bool.and_eq_true, decide_eq_true_eq]; omega) (show chk _ _ from chk_ok rfl ⟨rfl, rfl⟩)), ?_⟩
      refine ⟨_, (show chk _ _ from chk_ok (Nat.ble_eq_true_of_le (show addI i (j + 1) * 10 + 0 + 10 ≤ N * 10 by rw [addI_eq]; omega)) ⟨rfl, rfl⟩), ?_⟩
      refine ⟨.int .i64 X, ⟨b0, b4, c0, c4, congrArg (V.int .i64) hX.symm, rfl⟩, ?_⟩
      refine ⟨_, ⟨rfl, rfl⟩, ?_⟩
      refine ⟨_, ⟨rfl, rfl⟩, ?_⟩
      refine ⟨.int .i64 ((j + 1 : Nat) : Int), ⟨congrArg (V.int .i64) hw, rfl⟩, ?_⟩
      refine ⟨.ptr 2000 (addI i (j + 1)) 0, (show chk _ _ from chk_ok (by simp only [Bool.and_eq_true, decide_eq_true_eq]; omega) (show chk _ _ from chk_ok rfl ⟨rfl, rfl⟩)), ?_⟩
      refine ⟨_, (show chk _ _ from chk_ok (Nat.ble_eq_true_of_le (show addI i (j + 1) * 10 + 0 + 10 ≤ N * 10 by rw [addI_eq]; omega)) ⟨rfl, rfl⟩), ?_⟩
      refine ⟨_, ⟨rfl, rfl⟩, ?_⟩
      refine ⟨_, ⟨rfl, rfl⟩, ?_⟩
      refine ⟨.ptr 2000 (addI i j) 0, (show chk _ _ from chk_ok (by simp only [Bool.and_eq_true, decide_eq_true_eq]; omega) (show chk _ _ from chk_ok rfl ⟨rfl, rfl⟩)), ?_⟩
      refine ⟨_, (show chk _ _ from chk_ok (Nat.ble_eq_true_of_le (show addI i j * 10 + 0 + 10 ≤ N * 10 by rw [addI_eq]; omega)) ⟨rfl, rfl⟩), ?_⟩
      refine ⟨.int .i64 (-X), ⟨c0, c4, b0, b4, congrArg (V.int .i64) hY, rfl⟩, ?_⟩
      refine ⟨.int .i64 X, ⟨congrArg (V.int .i64) hneg, rfl⟩, ?_⟩
      refine ⟨.bool false, ⟨congrArg V.bool (show (X != X) = false by simp), rfl⟩, ?_⟩
      refine ⟨_, ⟨rfl, rfl⟩, ?_⟩
      refine ⟨n - (j + 1), _, _, by omega, ⟨j + 1, rfl, by omega, rfl, rfl⟩, tau [], rfl, ?_, ?_⟩
      · repeat' (first | exact rfl | exact trivial | exact hw | refine ⟨?_, ?_⟩)
      · exact ⟨⟨rfl, rfl, rfl, fun i c hi hc => ⟨rfl, rfl⟩⟩, trivial⟩
  · exact outB rfl
end Go.Proofs.YtmohokeeglnliaaDoor.Sx
