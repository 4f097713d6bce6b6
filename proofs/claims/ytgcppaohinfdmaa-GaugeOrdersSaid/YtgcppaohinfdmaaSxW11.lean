import Derived.Test.YtgcppaohinfdmaaSxW10
/-
  The walks of this seat's functions, eleventh part: the law GaugeOrders.
-/
namespace Go.Proofs.Ytgcppaohinfdmaa.Sx
open Go Go.Proofs
set_option maxRecDepth 100000
set_option linter.unusedSimpArgs false
set_option linter.unusedVariables false

theorem toldU_3 {h : Hp} {v p q : V} {n : Nat} {f : Nat → Int} (hv : rdU h v n f) (hp : flat p) (hq : flat q) : ∃ (b : Option Addr) (N i c : Nat) (F : Nat → Int), i + n ≤ N ∧ (∀ j, j < n → f j = F (i + j)) ∧
    Told h [p, q, v] [(2000, .ro b N 1 (g1 .u64 F))] [p, q, .slice 2000 i n c] := by
  obtain ⟨b, N, i, c, F, h1, h2, h3⟩ := rdU_one hv 2000
  refine ⟨b, N, i, c, F, h1, h2, ⟨fun hr hvv => ?_⟩⟩
  obtain ⟨y, ys, rfl, ry, y2, ys2, rfl, ry2, y3, ys3, rfl, ry3, rfl⟩ := hvv
  obtain ⟨k1, k2⟩ := h3 _ _ _ hr ry3
  exact ⟨rel_ros k1, y, _, rfl, flat_rel _ _ hp ry, y2, _, rfl, flat_rel _ _ hq ry2, y3, _, rfl, k2 _ rfl, rfl⟩

def SPO : SpT := [(8, sAwake), (9, sBest), (10, sRefBest), (11, sCmp), (12, sRefCmp)]
theorem spo : ∀ p ∈ SPO, SpecOK Try.prog p.1 p.2 := consSP sAwake_ok (consSP sBest_ok (consSP sRefBest_ok (consSP sCmp_ok (consSP sRefCmp_ok noSP))))

def sLaw3 : Spec := fun args h nx K => ∃ a b v n f, args = [.int .u64 a, .int .u64 b, v] ∧ rdU h v n f ∧ n ≤ 9223372036854775807 ∧ bnd a ∧ bnd b ∧ (∀ j, j < n → bnd (f j)) ∧ K (.ret (.bool true)) h nx

theorem sLaw3_ok : SpecOK Try.prog 3 sLaw3 := by
  refine specOK_read2 (fn := Try.f3) rfl rfl rfl T_ok (SP := SPO) spo 300 _ ?_
  rintro args h nx K ⟨a, b, v, n, f, rfl, hv, hn, ha, hb, hbd, hk⟩
  obtain ⟨bs, N, i, c, F, hN, hF, told⟩ := toldU_3 (p := .int .u64 a) (q := .int .u64 b) hv trivial trivial
  refine ⟨_, _, told, by simp [Try.f3], fun o => o = .ret (.bool true), ?_, ?_⟩
  · rintro o rfl; exact ⟨trivial, hk⟩
  intro cx hc
  clear hk told hv
  refine br_dec (fun e => ?_) (fun e => ?_)
  · exact outB rfl
  have e : ¬ (100 : Int) < (n : Int) := e
  have hbest := bestN_le f n
  obtain ⟨top, _⟩ := bestN_top f n
  refine ⟨_, n, f, rfl, .inr ⟨2000, i, c, bs, N, _, rfl, rfl, hN, F, fun _ _ => rfl, hF⟩, hn, ?_⟩
  refine ⟨_, n, f, rfl, .inr ⟨2000, i, c, bs, N, _, rfl, rfl, hN, F, fun _ _ => rfl, hF⟩, by omega, hbd, ?_⟩
  refine ⟨ha, hb, ?_⟩
  refine br_f (show (cmpV a.toNat b.toNat != cmpV a.toNat b.toNat) = false by simp) ?_
  refine br_f (show (cmpV a.toNat b.toNat != IntKind.i64.wrap (0 - cmpV b.toNat a.toNat)) = false by rw [wrap_neg, ← cmp_anti]; simp) ?_
  refine br_f (show (((bestN f n : Nat) : Int) != ((bestN f n : Nat) : Int)) = false by simp) ?_
  refine br_f (show (!(decide (0 < n) == decide (0 < n))) = false by simp) ?_
  refine W_loop (fun r σ h => ∃ j : Nat, r = n - j ∧ j ≤ n ∧
    σ = [(0, .int .u64 a), (1, .int .u64 b), (2, .slice 2000 i n c), (7, .int .i64 (bestN f n : Nat)), (11, .int .i64 j)] ∧ h = [(2000, .ro bs N 1 (g1 .u64 F))]) n ⟨0, rfl, by omega, rfl, rfl⟩ (tau []) ⟨rfl, ?_, ?_⟩ 30 ?_
  · repeat' (first | exact rfl | exact trivial | refine ⟨?_, ?_⟩)
  · exact ⟨⟨rfl, rfl, rfl, fun i c hi hc => ⟨rfl, rfl⟩⟩, trivial⟩
  rintro r σ h1 ⟨j, rfl, hj, rfl, rfl⟩
  refine vc_sound (mkE hc T_ok spo) 200 _ _ _ 30 ?_
  refine br_dec (fun hlt => ?_) (fun hlt => ?_)
  · have hlt : (j : Int) < (n : Int) := hlt
    have hjn : j < n := by omega
    have hw : IntKind.i64.wrap ((j : Int) + 1) = ((j + 1 : Nat) : Int) := by simp [IntKind.wrap_i64]; omega
    have e1 : F (addI i j) = f j := by rw [hF j hjn, addI_eq]
    have e2 : F (addI i (bestN f n)) = f (bestN f n) := by rw [hF _ (by omega), addI_eq]
    have t1 := top j hjn
    have c1 := cmp_rk (f j).toNat (f (bestN f n)).toNat
    have c2 := cmp_rk a.toNat b.toNat
    have c3 := cmp_rk b.toNat (f j).toNat
    have c4 := cmp_rk a.toNat (f j).toNat
    refine W_drawn (id := 12) (mkE hc T_ok spo) 60 1000 (by rw [hc]; exact mix) (by kernel_rfl) (by kernel_rfl) 200 ?_
    repeat' (first | refine ⟨_, ⟨rfl, rfl⟩, ?_⟩ | fail)
    refine ⟨.ptr 2000 (addI i j) 0, (show chk _ _ from chk_ok (by simp; omega) (show chk _ _ from chk_ok rfl ⟨rfl, rfl⟩)), ?_⟩
    refine ⟨.int .u64 (f j), (show chk _ _ from chk_ok (Nat.ble_eq_true_of_le (show addI i j * 1 + 0 + 1 ≤ N * 1 by rw [addI_eq]; omega)) ⟨by rw [← e1]; rfl, rfl⟩), ?_⟩
    repeat' (first | refine ⟨_, ⟨rfl, rfl⟩, ?_⟩ | fail)
    refine ⟨.ptr 2000 (addI i (bestN f n)) 0, (show chk _ _ from chk_ok (by simp; omega) (show chk _ _ from chk_ok rfl ⟨rfl, rfl⟩)), ?_⟩
    refine ⟨.int .u64 (f (bestN f n)), (show chk _ _ from chk_ok (Nat.ble_eq_true_of_le (show addI i (bestN f n) * 1 + 0 + 1 ≤ N * 1 by rw [addI_eq]; omega)) ⟨by rw [← e2]; rfl, rfl⟩), ?_⟩
    repeat' (first | refine ⟨_, ⟨rfl, rfl⟩, ?_⟩ | fail)
    refine br_f (show decide (0 < cmpV (f j).toNat (f (bestN f n)).toNat) = false by rw [c1]; refine decide_eq_false ?_; split; decide; split; omega; decide) ?_
    repeat' (first | refine ⟨_, ⟨rfl, rfl⟩, ?_⟩ | fail)
    refine br_dec (fun h2 => ?_) (fun h2 => ?_)
    · have h2 : cmpV a.toNat b.toNat ≤ 0 := h2
      repeat' (first | refine ⟨_, ⟨rfl, rfl⟩, ?_⟩ | fail)
      refine ⟨.ptr 2000 (addI i j) 0, (show chk _ _ from chk_ok (by simp; omega) (show chk _ _ from chk_ok rfl ⟨rfl, rfl⟩)), ?_⟩
      refine ⟨.int .u64 (f j), (show chk _ _ from chk_ok (Nat.ble_eq_true_of_le (show addI i j * 1 + 0 + 1 ≤ N * 1 by rw [addI_eq]; omega)) ⟨by rw [← e1]; rfl, rfl⟩), ?_⟩
      repeat' (first | refine ⟨_, ⟨rfl, rfl⟩, ?_⟩ | fail)
      refine br_dec (fun h3 => ?_) (fun h3 => ?_)
      · have h3 : cmpV b.toNat (f j).toNat ≤ 0 := h3
        repeat' (first | refine ⟨_, ⟨rfl, rfl⟩, ?_⟩ | fail)
        refine ⟨.ptr 2000 (addI i j) 0, (show chk _ _ from chk_ok (by simp; omega) (show chk _ _ from chk_ok rfl ⟨rfl, rfl⟩)), ?_⟩
        refine ⟨.int .u64 (f j), (show chk _ _ from chk_ok (Nat.ble_eq_true_of_le (show addI i j * 1 + 0 + 1 ≤ N * 1 by rw [addI_eq]; omega)) ⟨by rw [← e1]; rfl, rfl⟩), ?_⟩
        repeat' (first | refine ⟨_, ⟨rfl, rfl⟩, ?_⟩ | fail)
        have h4 : ¬ 0 < cmpV a.toNat (f j).toNat := by
          rw [c2] at h2
          rw [c3] at h3
          rw [c4]
          split
          · decide
          · split
            · rename_i q1 q2
              exfalso
              by_cases z1 : rk b.toNat < rk a.toNat
              · rw [if_neg (by omega), if_pos z1] at h2; exact absurd h2 (by decide)
              · by_cases z2 : rk (f j).toNat < rk b.toNat
                · rw [if_neg (by omega), if_pos z2] at h3; exact absurd h3 (by decide)
                · omega
            · decide
        refine br_decF h4 ?_
        refine ⟨n - (j + 1), _, _, by omega, ⟨j + 1, rfl, by omega, rfl, rfl⟩, tau [], rfl, ?_, ?_⟩
        · repeat' (first | exact rfl | exact trivial | exact hw | refine ⟨?_, ?_⟩)
        · exact ⟨⟨rfl, rfl, rfl, fun i c hi hc => ⟨rfl, rfl⟩⟩, trivial⟩
      · repeat' (first | refine ⟨_, ⟨rfl, rfl⟩, ?_⟩ | fail)
        refine ⟨n - (j + 1), _, _, by omega, ⟨j + 1, rfl, by omega, rfl, rfl⟩, tau [], rfl, ?_, ?_⟩
        · repeat' (first | exact rfl | exact trivial | exact hw | refine ⟨?_, ?_⟩)
        · exact ⟨⟨rfl, rfl, rfl, fun i c hi hc => ⟨rfl, rfl⟩⟩, trivial⟩
    · repeat' (first | refine ⟨_, ⟨rfl, rfl⟩, ?_⟩ | fail)
      refine ⟨n - (j + 1), _, _, by omega, ⟨j + 1, rfl, by omega, rfl, rfl⟩, tau [], rfl, ?_, ?_⟩
      · repeat' (first | exact rfl | exact trivial | exact hw | refine ⟨?_, ?_⟩)
      · exact ⟨⟨rfl, rfl, rfl, fun i c hi hc => ⟨rfl, rfl⟩⟩, trivial⟩
  · exact outB rfl
end Go.Proofs.Ytgcppaohinfdmaa.Sx
