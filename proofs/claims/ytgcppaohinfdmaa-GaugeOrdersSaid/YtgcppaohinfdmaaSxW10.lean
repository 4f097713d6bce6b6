import Derived.Test.YtgcppaohinfdmaaSxW9
import Derived.Test.YtgcppaohinfdmaaSxF7
/-
  The walks of this seat's functions, tenth part: the document's greatest.
-/
namespace Go.Proofs.Ytgcppaohinfdmaa.Sx
open Go Go.Proofs
set_option maxRecDepth 100000
set_option linter.unusedSimpArgs false
set_option linter.unusedVariables false

theorem cmp_three (a b : Nat) : cmpV a b = 1 ∨ cmpV a b = 0 ∨ cmpV a b = -1 := by have := cmp_rng a b; omega

def sRefBest : Spec := fun args h nx K => ∃ v n f, args = [v] ∧ rdU h v n f ∧ n ≤ 1000000000 ∧ (∀ j, j < n → bnd (f j)) ∧ K (.ret (.tup [.int .i64 (bestN f n : Nat), .bool (decide (0 < n))])) h nx

theorem sRefBest_ok : SpecOK Try.prog 10 sRefBest := by
  refine specOK_read2 (fn := Try.f10) rfl rfl rfl T_ok (SP := [(12, sRefCmp)]) (consSP sRefCmp_ok noSP) 200 _ ?_
  rintro args h nx K ⟨v, n, f, rfl, hv, hn, hbd, hk⟩
  obtain ⟨b, N, i, c, F, hN, hF, told⟩ := toldU_one (rest := []) hv trivial
  refine ⟨_, _, told, by simp [Try.f10], fun o => o = .ret (.tup [.int .i64 (bestN f n : Nat), .bool (decide (0 < n))]), ?_, ?_⟩
  · rintro o rfl; exact ⟨⟨trivial, trivial, trivial⟩, hk⟩
  intro cx hc
  clear hk told hv
  have hbest := bestN_le f n
  refine W_loop (fun r σ h => ∃ j : Nat, r = n - j ∧ j ≤ n ∧ (0 < n → j ≤ bestN f n) ∧
    σ = [(0, .slice 2000 i n c), (4, .int .i64 j)] ∧ h = [(2000, .ro b N 1 (g1 .u64 F))]) n ⟨0, rfl, by omega, by omega, rfl, rfl⟩ (tau []) ⟨rfl, ?_, ?_⟩ 30 ?_
  · repeat' (first | exact rfl | exact trivial | refine ⟨?_, ?_⟩)
  · exact ⟨⟨rfl, rfl, rfl, fun i c hi hc => ⟨rfl, rfl⟩⟩, trivial⟩
  rintro r σ h1 ⟨j, rfl, hj, hjb, rfl, rfl⟩
  refine vc_sound (mkE hc T_ok (consSP sRefCmp_ok noSP)) 200 _ _ _ 30 ?_
  (refine (?_ : br _ _ _); refine br_dec (fun hlt => ?_) (fun hlt => ?_))
  · have hlt : (j : Int) < (n : Int) := hlt
    have hjn : j < n := by omega
    have hw : IntKind.i64.wrap ((j : Int) + 1) = ((j + 1 : Nat) : Int) := by simp [IntKind.wrap_i64]; omega
    refine W_loop (fun r σ h => ∃ k : Nat, r = n - k ∧ k ≤ n ∧
      σ = [(0, .slice 2000 i n c), (4, .int .i64 j), (5, .bool (mB f j k)), (6, .int .i64 k)] ∧ h = [(2000, .ro b N 1 (g1 .u64 F))]) n ⟨0, rfl, by omega, rfl, rfl⟩ (tau []) ⟨rfl, ?_, ?_⟩ 30 ?_
    · repeat' (first | exact rfl | exact trivial | refine ⟨?_, ?_⟩)
    · exact ⟨⟨rfl, rfl, rfl, fun i c hi hc => ⟨rfl, rfl⟩⟩, trivial⟩
    rintro r σ h1 ⟨k, rfl, hk, rfl, rfl⟩
    refine vc_sound (mkE hc T_ok (consSP sRefCmp_ok noSP)) 200 _ _ _ 30 ?_
    (refine (?_ : br _ _ _); refine br_dec (fun hlt => ?_) (fun hlt => ?_))
    · have hlt : (k : Int) < (n : Int) := hlt
      have hkn : k < n := by omega
      have hwk : IntKind.i64.wrap ((k : Int) + 1) = ((k + 1 : Nat) : Int) := by simp [IntKind.wrap_i64]; omega
      have e1 : F (addI i j) = f j := by rw [hF j hjn, addI_eq]
      have e2 : F (addI i k) = f k := by rw [hF k hkn, addI_eq]
      refine W_drawn (id := 8) (mkE hc T_ok (consSP sRefCmp_ok noSP)) 60 1000 (by rw [hc]; exact mix) (by kernel_rfl) (by kernel_rfl) 200 ?_
      refine ⟨_, ⟨rfl, rfl⟩, ?_⟩
      refine ⟨_, ⟨rfl, rfl⟩, ?_⟩
      refine ⟨.ptr 2000 (addI i j) 0, (show chk _ _ from chk_ok (by simp; omega) (show chk _ _ from chk_ok rfl ⟨rfl, rfl⟩)), ?_⟩
      refine ⟨.int .u64 (f j), (show chk _ _ from chk_ok (Nat.ble_eq_true_of_le (show addI i j * 1 + 0 + 1 ≤ N * 1 by rw [addI_eq]; omega)) ⟨by rw [← e1]; rfl, rfl⟩), ?_⟩
      refine ⟨_, ⟨rfl, rfl⟩, ?_⟩
      refine ⟨_, ⟨rfl, rfl⟩, ?_⟩
      refine ⟨.ptr 2000 (addI i k) 0, (show chk _ _ from chk_ok (by simp; omega) (show chk _ _ from chk_ok rfl ⟨rfl, rfl⟩)), ?_⟩
      refine ⟨.int .u64 (f k), (show chk _ _ from chk_ok (Nat.ble_eq_true_of_le (show addI i k * 1 + 0 + 1 ≤ N * 1 by rw [addI_eq]; omega)) ⟨by rw [← e2]; rfl, rfl⟩), ?_⟩
      refine ⟨.int .i64 (cmpV (f j).toNat (f k).toNat), ⟨hbd j hjn, hbd k hkn, rfl, rfl⟩, ?_⟩
      refine ⟨_, ⟨rfl, rfl⟩, ?_⟩
      have hm2 : mB f j (k + 1) = (mB f j k && (decide (0 < cmpV (f j).toNat (f k).toNat) || (decide (cmpV (f j).toNat (f k).toNat = 0) && decide (j ≤ k)))) := rfl
      have hself : j = k → cmpV (f j).toNat (f k).toNat = 0 := fun q => by subst q; exact cmp_self _
      have h3 := cmp_three (f j).toNat (f k).toNat
      generalize hm : mB f j (k + 1) = m2 at *
      generalize hm0 : mB f j k = m0 at *
      generalize cmpV (f j).toNat (f k).toNat = cv at *
      refine W_drawn (id := 9) (mkE hc T_ok (consSP sRefCmp_ok noSP)) 60 1000 (by rw [hc]; exact mix) (by kernel_rfl) (by kernel_rfl) 200 ?_
      have jk : (j : Int) = (k : Int) → j = k := by omega
      cases m0
      · repeat' (first | refine ⟨_, ⟨rfl, rfl⟩, ?_⟩ | fail)
        have hE : false = mB f j (k + 1) := by rw [hm, hm2]; rfl
        refine ⟨n - (k + 1), _, _, by omega, ⟨k + 1, rfl, by omega, rfl, rfl⟩, tau [], rfl, ?_, ?_⟩
        · repeat' (first | exact rfl | exact trivial | exact hwk | exact hE | refine ⟨?_, ?_⟩)
        · exact ⟨⟨rfl, rfl, rfl, fun i c hi hc => ⟨rfl, rfl⟩⟩, trivial⟩
      · rcases h3 with rfl | rfl | rfl
        · repeat' (first | refine ⟨_, ⟨rfl, rfl⟩, ?_⟩ | fail)
          have hE : true = mB f j (k + 1) := by rw [hm, hm2]; rfl
          refine ⟨n - (k + 1), _, _, by omega, ⟨k + 1, rfl, by omega, rfl, rfl⟩, tau [], rfl, ?_, ?_⟩
          · repeat' (first | exact rfl | exact trivial | exact hwk | exact hE | refine ⟨?_, ?_⟩)
          · exact ⟨⟨rfl, rfl, rfl, fun i c hi hc => ⟨rfl, rfl⟩⟩, trivial⟩
        · repeat' (first | refine ⟨_, ⟨rfl, rfl⟩, ?_⟩ | fail)
          refine br_dec (fun e => ?_) (fun e => ?_)
          · have e : (j : Int) ≤ (k : Int) := e
            have e3 : j ≤ k := by omega
            repeat' (first | refine ⟨_, ⟨rfl, rfl⟩, ?_⟩ | fail)
            have hE : true = mB f j (k + 1) := by rw [hm, hm2, decide_eq_true e3]; rfl
            refine ⟨n - (k + 1), _, _, by omega, ⟨k + 1, rfl, by omega, rfl, rfl⟩, tau [], rfl, ?_, ?_⟩
            · repeat' (first | exact rfl | exact trivial | exact hwk | exact hE | refine ⟨?_, ?_⟩)
            · exact ⟨⟨rfl, rfl, rfl, fun i c hi hc => ⟨rfl, rfl⟩⟩, trivial⟩
          · have e : ¬ (j : Int) ≤ (k : Int) := e
            have e3 : ¬ j ≤ k := by omega
            have e4 : ((k : Int) == (j : Int)) = false := by simp; omega
            repeat' (first | refine ⟨_, ⟨rfl, rfl⟩, ?_⟩ | fail)
            refine ⟨.ptr 2000 (addI i k) 0, (show chk _ _ from chk_ok (by simp; omega) (show chk _ _ from chk_ok rfl ⟨rfl, rfl⟩)), ?_⟩
            refine ⟨.int .u64 (F (addI i k)), (show chk _ _ from chk_ok (Nat.ble_eq_true_of_le (show addI i k * 1 + 0 + 1 ≤ N * 1 by rw [addI_eq]; omega)) ⟨rfl, rfl⟩), ?_⟩
            repeat' (first | refine ⟨_, ⟨rfl, rfl⟩, ?_⟩ | fail)
            refine ⟨.ptr 2000 (addI i j) 0, (show chk _ _ from chk_ok (by simp; omega) (show chk _ _ from chk_ok rfl ⟨rfl, rfl⟩)), ?_⟩
            refine ⟨.int .u64 (F (addI i j)), (show chk _ _ from chk_ok (Nat.ble_eq_true_of_le (show addI i j * 1 + 0 + 1 ≤ N * 1 by rw [addI_eq]; omega)) ⟨rfl, rfl⟩), ?_⟩
            repeat' (first | refine ⟨_, ⟨rfl, rfl⟩, ?_⟩ | fail)
            refine br_eq (fun e5 => ?_) (fun e5 => ?_)
            · repeat' (first | refine ⟨_, ⟨rfl, rfl⟩, ?_⟩ | fail)
              refine br_decF (by omega) ?_
              repeat' (first | refine ⟨_, ⟨rfl, rfl⟩, ?_⟩ | fail)
              have hE : ((k : Int) == (j : Int)) = mB f j (k + 1) := by rw [hm, hm2, decide_eq_false e3, e4]; rfl
              refine ⟨n - (k + 1), _, _, by omega, ⟨k + 1, rfl, by omega, rfl, rfl⟩, tau [], rfl, ?_, ?_⟩
              · repeat' (first | exact rfl | exact trivial | exact hwk | exact hE | refine ⟨?_, ?_⟩)
              · exact ⟨⟨rfl, rfl, rfl, fun i c hi hc => ⟨rfl, rfl⟩⟩, trivial⟩
            · repeat' (first | refine ⟨_, ⟨rfl, rfl⟩, ?_⟩ | fail)
              have hE : ((k : Int) == (j : Int)) = mB f j (k + 1) := by rw [hm, hm2, decide_eq_false e3, e4]; rfl
              refine ⟨n - (k + 1), _, _, by omega, ⟨k + 1, rfl, by omega, rfl, rfl⟩, tau [], rfl, ?_, ?_⟩
              · repeat' (first | exact rfl | exact trivial | exact hwk | exact hE | refine ⟨?_, ?_⟩)
              · exact ⟨⟨rfl, rfl, rfl, fun i c hi hc => ⟨rfl, rfl⟩⟩, trivial⟩
        · have e4 : ((k : Int) == (j : Int)) = false := by
            simp only [beq_eq_false_iff_ne]
            intro q
            have := hself (jk q.symm)
            omega
          repeat' (first | refine ⟨_, ⟨rfl, rfl⟩, ?_⟩ | fail)
          have hE : ((k : Int) == (j : Int)) = mB f j (k + 1) := by rw [hm, hm2, e4]; rfl
          refine ⟨n - (k + 1), _, _, by omega, ⟨k + 1, rfl, by omega, rfl, rfl⟩, tau [], rfl, ?_, ?_⟩
          · repeat' (first | exact rfl | exact trivial | exact hwk | exact hE | refine ⟨?_, ?_⟩)
          · exact ⟨⟨rfl, rfl, rfl, fun i c hi hc => ⟨rfl, rfl⟩⟩, trivial⟩
    · have hlt : ¬ (k : Int) < (n : Int) := hlt
      obtain rfl : k = n := by omega
      refine br_both (fun e => ?_) (fun e => ?_)
      · have e : mB f j k = true := e
        have e2 := (mB_best hjn).1 e
        exact outIB (by rw [← e2]) (by rw [decide_eq_true (by omega)])
      · have e : mB f j k = false := e
        have e2 : j ≠ bestN f k := fun q => by rw [(mB_best hjn).2 q] at e; cases e
        have e3 := hjb (by omega)
        refine ⟨k - (j + 1), _, _, by omega, ⟨j + 1, rfl, by omega, fun _ => by omega, rfl, rfl⟩, tau [], rfl, ?_, ?_⟩
        · repeat' (first | exact rfl | exact trivial | exact hw | refine ⟨?_, ?_⟩)
        · exact ⟨⟨rfl, rfl, rfl, fun i c hi hc => ⟨rfl, rfl⟩⟩, trivial⟩
  · have hlt : ¬ (j : Int) < (n : Int) := hlt
    have n0 : n = 0 := by
      rcases Nat.eq_zero_or_pos n with q | q
      · exact q
      · have := hjb q; omega
    subst n0
    exact outIB rfl rfl
end Go.Proofs.Ytgcppaohinfdmaa.Sx
