import Derived.Test.YtgcppaohinfdmaaSxW4
import Derived.Test.YtgcppaohinfdmaaSxF5
/-
  The walks of this seat's functions, fifth part: the greatest; whether it is awake.
-/
namespace Go.Proofs.Ytgcppaohinfdmaa.Sx
open Go Go.Proofs
set_option maxRecDepth 100000
set_option linter.unusedSimpArgs false
set_option linter.unusedVariables false

def sBest : Spec := fun args h nx K => ∃ v n f, args = [v] ∧ rdU h v n f ∧ n ≤ 9223372036854775807 ∧ K (.ret (.tup [.int .i64 (bestN f n : Nat), .bool (decide (0 < n))])) h nx

theorem sBest_ok : SpecOK Try.prog 9 sBest := by
  refine specOK_read2 (fn := Try.f9) rfl rfl rfl T_ok (SP := [(11, sCmp)]) (consSP sCmp_ok noSP) 200 _ ?_
  rintro args h nx K ⟨v, n, f, rfl, hv, hn, hk⟩
  obtain ⟨b, N, i, c, F, hN, hF, told⟩ := toldU_one (rest := []) hv trivial
  refine ⟨_, _, told, by simp [Try.f9], fun o => o = .ret (.tup [.int .i64 (bestN f n : Nat), .bool (decide (0 < n))]), ?_, ?_⟩
  · rintro o rfl; exact ⟨⟨trivial, trivial, trivial⟩, hk⟩
  intro cx hc
  clear hk told hv
  refine W_loop (fun r σ h => ∃ j : Nat, r = n - j ∧ j ≤ n ∧
    σ = [(0, .slice 2000 i n c), (4, .int .i64 (bestN f j : Nat)), (7, .slice 2000 i n c), (8, .int .i64 n), (9, .int .i64 j)] ∧ h = [(2000, .ro b N 1 (g1 .u64 F))]) n ⟨0, rfl, by omega, rfl, rfl⟩ (tau []) ⟨rfl, ?_, ?_⟩ 30 ?_
  · repeat' (first | exact rfl | exact trivial | refine ⟨?_, ?_⟩)
  · exact ⟨⟨rfl, rfl, rfl, fun i c hi hc => ⟨rfl, rfl⟩⟩, trivial⟩
  rintro r σ h1 ⟨j, rfl, hj, rfl, rfl⟩
  refine vc_sound (mkE hc T_ok (consSP sCmp_ok noSP)) 200 _ _ _ 30 ?_
  (refine (?_ : br _ _ _); refine br_dec (fun hlt => ?_) (fun hlt => ?_))
  · have hlt : (j : Int) < (n : Int) := hlt
    have hjn : j < n := by omega
    have hw : IntKind.i64.wrap ((j : Int) + 1) = ((j + 1 : Nat) : Int) := by simp [IntKind.wrap_i64]; omega
    have hb := bestN_le f j
    repeat' ((refine (?_ : chk _ _)); (first
      | refine chk_ok rfl ?_
      | refine chk_ok (by simp only [Bool.and_eq_true, decide_eq_true_eq]; omega) ?_
      | refine chk_ok (Nat.ble_eq_true_of_le (show addI i j * 1 + 0 + 1 ≤ N * 1 by rw [addI_eq]; omega)) ?_
      | refine chk_ok (Nat.ble_eq_true_of_le (show addI i (bestN f j) * 1 + 0 + 1 ≤ N * 1 by rw [addI_eq]; omega)) ?_))
    have e1 : F (addI i j) = f j := by rw [hF j hjn, addI_eq]
    have e2 : F (addI i (bestN f j)) = f (bestN f j) := by rw [hF _ (by omega), addI_eq]
    (refine (?_ : br _ _ _); refine br_dec (fun e => ?_) (fun e => ?_))
    · have e : 0 < cmpV (F (addI i j)).toNat (F (addI i (bestN f j))).toNat := e
      rw [e1, e2] at e
      have hb2 : bestN f (j + 1) = j := by unfold bestN; rw [if_pos e]
      refine ⟨n - (j + 1), _, _, by omega, ⟨j + 1, rfl, by omega, rfl, rfl⟩, tau [], rfl, ?_, ?_⟩
      · repeat' (first | exact rfl | exact trivial | exact hw | exact congrArg Int.ofNat hb2.symm | refine ⟨?_, ?_⟩)
      · exact ⟨⟨rfl, rfl, rfl, fun i c hi hc => ⟨rfl, rfl⟩⟩, trivial⟩
    · have e : ¬ 0 < cmpV (F (addI i j)).toNat (F (addI i (bestN f j))).toNat := e
      rw [e1, e2] at e
      have hb2 : bestN f (j + 1) = bestN f j := by rw [bestN, if_neg e]
      refine ⟨n - (j + 1), _, _, by omega, ⟨j + 1, rfl, by omega, rfl, rfl⟩, tau [], rfl, ?_, ?_⟩
      · repeat' (first | exact rfl | exact trivial | exact hw | exact congrArg Int.ofNat hb2.symm | refine ⟨?_, ?_⟩)
      · exact ⟨⟨rfl, rfl, rfl, fun i c hi hc => ⟨rfl, rfl⟩⟩, trivial⟩
  · have hlt : ¬ (j : Int) < (n : Int) := hlt
    obtain rfl : j = n := by omega
    show Out.ret (.tup [.int .i64 (bestN f j : Nat), .bool (decide ((0 : Int) < (j : Int)))]) = _
    congr 4
    simp

def sAwake : Spec := fun args h nx K => match args with
  | [] => K (.ret (.bool true)) h nx
  | _ => False
def SPA : SpT := [(9, sBest), (18, sRate), (11, sCmp), (16, sPerc), (13, sMean)]
theorem spa : ∀ p ∈ SPA, SpecOK Try.prog p.1 p.2 := consSP sBest_ok (consSP sRate_ok (consSP sCmp_ok (consSP sPerc_ok (consSP sMean_ok noSP))))
def fA : Nat → Int := fun j => match j with | 0 => 9221120237041090561 | 1 => 4598175219545276416 | 2 => 9218868437227405312 | 3 => 9218868437227405312 | _ => 0
theorem sAwake_ok : SpecOK Try.prog 8 sAwake := by
  refine specOK_pure (fn := Try.f8) rfl rfl rfl T_ok (SP := SPA) spa [] trivial 300 _ ?_
  intro args h nx K hs
  unfold sAwake at hs
  split at hs
  · refine ⟨trivial, by repeat constructor, by simp [Try.f8], fun o => o = .ret (.bool true), ?_, ?_⟩
    · rintro o rfl; exact ⟨trivial, hs⟩
    intro c hc
    intro b0
    refine ⟨_, 4, fA, rfl, .inr ⟨0, 0, _, _, 4, _, rfl, rfl, by omega, fA, fun j hj => ?_, fun j hj => by rw [Nat.zero_add]⟩, by omega, ?_⟩
    · match j, hj with
      | 0, _ => rfl
      | 1, _ => rfl
      | 2, _ => rfl
      | 3, _ => rfl
    refine ⟨_, 0, fA, rfl, .inl ⟨rfl, rfl⟩, by omega, ?_⟩
    exact outB (by decide +kernel)
  · exact hs.elim
end Go.Proofs.Ytgcppaohinfdmaa.Sx
