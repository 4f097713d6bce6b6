import Derived.Test.YtfmnebdfanaafaaSxW6
/-
  The walks of this seat's functions, seventh part: whether two lists of runs are the same.
-/
namespace Go.Proofs.Ytfmnebdfanaafaa.Sx
open Go Go.Proofs
set_option maxRecDepth 100000
set_option linter.unusedSimpArgs false
set_option linter.unusedVariables false
set_option linter.unnecessarySimpa false

def sSame : Spec := fun args h nx K => ∃ v v' n n' f f1 f' f1', args = [v, v'] ∧ rdR h v n f f1 ∧ rdR h v' n' f' f1' ∧ n ≤ 1000000000 ∧ n' ≤ 1000000000 ∧ K (.ret (.bool (decide (n = n') && (sameB n f f' && sameB n f1 f1')))) h nx

theorem sSame_ok : SpecOK Try.prog 12 sSame := by
  refine specOK_read2 (fn := Try.f12) rfl rfl rfl T_ok (SP := []) noSP 200 _ ?_
  rintro args h nx K ⟨v, v', n, n', f, f1, f', f1', rfl, hv, hv', hn, hn', hk⟩
  obtain ⟨b, N, i, c, F, F1, b', N', i', c', F', F1', hN, hF, hN', hF', told⟩ := told_twoR (rest := []) hv hv' trivial
  refine ⟨_, _, told, by simp [Try.f12], fun o => o = .ret (.bool (decide (n = n') && (sameB n f f' && sameB n f1 f1'))), ?_, ?_⟩
  · rintro o rfl; exact ⟨trivial, hk⟩
  intro cx hcx
  clear hk told hv hv'
  (refine (?_ : br _ _ _); refine br_ne (fun e => ?_) (fun e => ?_))
  · have e : (n : Int) ≠ (n' : Int) := e
    refine outB ?_
    rw [decide_eq_false (by omega : ¬ n = n')]; rfl
  have e : (n : Int) = (n' : Int) := e
  have en : n = n' := by omega
  subst en
  have hres : (decide (n = n) && (sameB n f f' && sameB n f1 f1')) = (sameB n f f' && sameB n f1 f1') := by simp
  rw [hres]
  refine W_loop (fun r σ h => ∃ j : Nat, r = n - j ∧ j ≤ n ∧ (∀ k, k < j → f k = f' k ∧ f1 k = f1' k) ∧ σ = [(0, .slice 2000 i n c), (1, .slice 2001 i' n c'), (5, .int .i64 j)] ∧ h = [(2000, .ro b N 2 (g2 .i64 .i64 F F1)), (2001, .ro b' N' 2 (g2 .i64 .i64 F' F1'))]) n ⟨0, rfl, by omega, fun k hk => by omega, rfl, rfl⟩ (tau []) ⟨rfl, ?_, ?_⟩ 30 ?_
  · repeat' (first | exact rfl | exact trivial | refine ⟨?_, ?_⟩)
  · exact ⟨⟨rfl, rfl, rfl, fun i c hi hc => g2_rn rfl rfl⟩, ⟨rfl, rfl, rfl, fun i c hi hc => g2_rn rfl rfl⟩, trivial⟩
  rintro r σ h1 ⟨j, rfl, hj, hall, rfl, rfl⟩
  refine vc_sound (mkE hcx T_ok noSP) 200 _ _ _ 30 ?_
  (refine (?_ : br _ _ _); refine br_dec (fun hlt => ?_) (fun hlt => ?_))
  · have hlt : (j : Int) < (n : Int) := hlt
    have hjn : j < n := by omega
    have hw : IntKind.i64.wrap ((j : Int) + 1) = ((j + 1 : Nat) : Int) := by simp [IntKind.wrap_i64]; omega
    refine W_drawn (id := 6) (mkE hcx T_ok noSP) 60 1000 (by rw [hcx]; exact mix) (by kernel_rfl) (by kernel_rfl) 200 ?_
    refine ⟨_, ⟨rfl, rfl⟩, ?_⟩
    refine ⟨_, ⟨rfl, rfl⟩, ?_⟩
    refine ⟨.ptr 2000 (addI i j) 0, (show chk _ _ from chk_ok (by simp; omega) (show chk _ _ from chk_ok rfl ⟨rfl, rfl⟩)), ?_⟩
    refine ⟨.agg [.int .i64 (F (addI i j)), .int .i64 (F1 (addI i j))], (show chk _ _ from chk_ok (Nat.ble_eq_true_of_le (show addI i j * 2 + 0 + 2 ≤ N * 2 by rw [addI_eq]; omega)) ⟨rfl, rfl⟩), ?_⟩
    refine ⟨_, ⟨rfl, rfl⟩, ?_⟩
    refine ⟨_, ⟨rfl, rfl⟩, ?_⟩
    refine ⟨.ptr 2001 (addI i' j) 0, (show chk _ _ from chk_ok (by simp; omega) (show chk _ _ from chk_ok rfl ⟨rfl, rfl⟩)), ?_⟩
    refine ⟨.agg [.int .i64 (F' (addI i' j)), .int .i64 (F1' (addI i' j))], (show chk _ _ from chk_ok (Nat.ble_eq_true_of_le (show addI i' j * 2 + 0 + 2 ≤ N' * 2 by rw [addI_eq]; omega)) ⟨rfl, rfl⟩), ?_⟩
    refine ⟨_, ⟨rfl, rfl⟩, ?_⟩
    have q1 : f j = F (addI i j) := by rw [(hF j hjn).1, addI_eq]
    have q2 : f' j = F' (addI i' j) := by rw [(hF' j hjn).1, addI_eq]
    have q3 : f1 j = F1 (addI i j) := by rw [(hF j hjn).2, addI_eq]
    have q4 : f1' j = F1' (addI i' j) := by rw [(hF' j hjn).2, addI_eq]
    (refine (?_ : br _ _ _); refine br_both (fun e => ?_) (fun e => ?_))
    · have e : (!(F (addI i j) == F' (addI i' j) && (F1 (addI i j) == F1' (addI i' j) && true))) = true := e
      rw [← q1, ← q2, ← q3, ← q4] at e
      refine outB ?_
      by_cases e1 : f j = f' j
      · have e2 : f1 j ≠ f1' j := by intro q; simp [e1, q] at e
        rw [sameB_no (f := f1) hjn e2]; simp
      · rw [sameB_no (f := f) hjn e1]; simp
    · have e : (!(F (addI i j) == F' (addI i' j) && (F1 (addI i j) == F1' (addI i' j) && true))) = false := e
      rw [← q1, ← q2, ← q3, ← q4] at e
      have e : f j = f' j ∧ f1 j = f1' j := by simpa using e
      refine ⟨n - (j + 1), _, _, by omega, ⟨j + 1, rfl, by omega, fun k hk => ?_, rfl, rfl⟩, tau [], rfl, ?_, ?_⟩
      · by_cases hkj : k = j
        · subst hkj; exact e
        · exact hall k (by omega)
      · repeat' (first | exact rfl | exact trivial | exact hw | refine ⟨?_, ?_⟩)
      · exact ⟨⟨rfl, rfl, rfl, fun i c hi hc => g2_rn rfl rfl⟩, ⟨rfl, rfl, rfl, fun i c hi hc => g2_rn rfl rfl⟩, trivial⟩
  · have hlt : ¬ (j : Int) < (n : Int) := hlt
    refine outB ?_
    rw [sameB_iff.2 fun k hk => (hall k (by omega)).1, sameB_iff.2 fun k hk => (hall k (by omega)).2]
    rfl

end Go.Proofs.Ytfmnebdfanaafaa.Sx
