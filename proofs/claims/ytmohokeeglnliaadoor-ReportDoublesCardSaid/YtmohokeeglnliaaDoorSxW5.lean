import Derived.Test.YtmohokeeglnliaaDoorSxW4
import Derived.Test.YtmohokeeglnliaaDoorSxF5
/-
  The walks of this seat's functions, fifth part: the greatest; whether it is awake.
-/
namespace Go.Proofs.YtmohokeeglnliaaDoor.Sx
open Go Go.Proofs
set_option maxRecDepth 100000
set_option linter.unusedSimpArgs false
set_option linter.unusedVariables false

def sBest : Spec := fun args h nx K => ∃ v n f, args = [v] ∧ rdU h v n f ∧ n ≤ 9223372036854775807 ∧ K (.ret (.tup [.int .i64 (bestN f n : Nat), .bool (decide (0 < n))])) h nx

theorem sBest_ok : SpecOK Tryd.prog 33 sBest := by
  refine specOK_read2 (fn := Tryd.f33) rfl rfl rfl T_ok (SP := [(42, sCmp)]) (consSP sCmp_ok noSP) 200 _ ?_
  rintro args h nx K ⟨v, n, f, rfl, hv, hn, hk⟩
  obtain ⟨b, N, i, c, F, hN, hF, told⟩ := toldU_one (rest := []) hv trivial
  refine ⟨_, _, told, by simp [Tryd.f33], fun o => o = .ret (.tup [.int .i64 (bestN f n : Nat), .bool (decide (0 < n))]), ?_, ?_⟩
  · rintro o rfl; exact ⟨⟨trivial, trivial, trivial⟩, hk⟩
  intro cx hc
  clear hk told hv
  refine W_loop (fun r σ h => ∃ j : Nat, r = n - j ∧ j ≤ n ∧
    σ = [(0, .slice 2000 i n c), (4, .int .i64 (bestN f j : Nat)), (7, .slice 2000 i n c), (8, .int .i64 n), (9, .int .i64 j)] ∧ h = [(2000, .ro b N 1 (g1 .u64 F))]) n ⟨0, rfl, by omega, rfl, rfl⟩ (tau []) ⟨rfl, ?_, ?_⟩ 30 ?_
  · repeat' (first | exact rfl | exact trivial | refine ⟨?_, ?_⟩)
  · exact ⟨⟨rfl, rfl, rfl, fun i c hi hc => ⟨rfl, rfl⟩⟩, trivial⟩
  rintro r σ h1 ⟨j, rfl, hj, rfl, rfl⟩
  refine vc_sound (mkE hc T_ok (consSP sCmp_ok noSP)) 200 _ _ _ 30 ?_
  (refine (?_ : br _ _ _); refine br_dec (fun hlt => ?_) (fun hlt => ?_))
  · have hlt : (j : Int) < (n : Int) := hlt
    have hjn : j < n := by omega
    have hw : IntKind.i64.wrap ((j : Int) + 1) = ((j + 1 : Nat) : Int) := by simp [IntKind.wrap_i64]; omega
    have hb := bestN_le f j
    repeat' ((refine (?_ : chk _ _)); (first
      | refine chk_ok rfl ?_
      | refine chk_ok (by simp only [Bool.and_eq_true, decide_eq_true_eq]; omega) ?_
      | refine chk_ok (Nat.ble_eq_true_of_le (show addI i j * 1 + 0 + 1 ≤ N * 1 by rw [addI_eq]; omega)) ?_
      | refine chk_ok (Nat.ble_eq_true_of_le (show addI i (bestN f j) * 1 + 0 + 1 ≤ N * 1 by rw [addI_eq]; omega)) ?_))
    have e1 : F (addI i j) = f j := by rw [hF j hjn, addI_eq]
    have e2 : F (addI i (bestN f j)) = f (bestN f j) := by rw [hF _ (by omega), addI_eq]
    (refine (?_ : br _ _ _); refine br_dec (fun e => ?_) (fun e => ?_))
    · have e : 0 < cmpV (F (addI i j)).toNat (F (addI i (bestN f j))).toNat := e
      rw [e1, e2] at e
      have hb2 : bestN f (j + 1) = j := by unfold bestN; rw [if_pos e]
      refine ⟨n - (j + 1), _, _, by omega, ⟨j + 1, rfl, by omega, rfl, rfl⟩, tau [], rfl, ?_, ?_⟩
      · repeat' (first | exact rfl | exact trivial | exact hw | exact congrArg Int.ofNat hb2.symm | refine ⟨?_, ?_⟩)
      · exact ⟨⟨rfl, rfl, rfl, fun i c hi hc => ⟨rfl, rfl⟩⟩, trivial⟩
    · have e : ¬ 0 < cmpV (F (addI i j)).toNat (F (addI i (bestN f j))).toNat := e
      rw [e1, e2] at e
      have hb2 : bestN f (j + 1) = bestN f j := by rw [bestN, if_neg e]
      refine ⟨n - (j + 1), _, _, by omega, ⟨j + 1, rfl, by omega, rfl, rfl⟩, tau [], rfl, ?_, ?_⟩
      · repeat' (first | exact rfl | exact trivial | exact hw | exact congrArg Int.ofNat hb2.symm | refine ⟨?_, ?_⟩)
      · exact ⟨⟨rfl, rfl, rfl, fun i c hi hc => ⟨rfl, rfl⟩⟩, trivial⟩
  · have hlt : ¬ (j : Int) < (n : Int) := hlt
    obtain rfl : j = n := by omega
    show Out.ret (.tup [.int .i64 (bestN f j : Nat), .bool (decide ((0 : Int) < (j : Int)))]) = _
    congr 4
    simp

end Go.Proofs.YtmohokeeglnliaaDoor.Sx
