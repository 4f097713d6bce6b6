import Derived.Test.YtfmnebdfanaafaaSxW2
/-
  The walks of this seat's functions, fifth part: whether two lists are the same; whether a list has what is no block.
-/
namespace Go.Proofs.Ytfmnebdfanaafaa.Sx
open Go Go.Proofs
set_option maxRecDepth 100000
set_option linter.unusedSimpArgs false
set_option linter.unusedVariables false
set_option linter.unnecessarySimpa false

/-- The first n of two lists are the same. -/
def sameB (n : Nat) (f f' : Nat → Int) : Bool := (List.range n).all fun j => decide (f j = f' j)
theorem sameB_iff {n : Nat} {f f' : Nat → Int} : sameB n f f' = true ↔ ∀ j, j < n → f j = f' j := by simp [sameB]
theorem sameB_no {n : Nat} {f f' : Nat → Int} {j : Nat} (hj : j < n) (h : f j ≠ f' j) : sameB n f f' = false := by
  cases e : sameB n f f' with
  | false => rfl
  | true => exact absurd (sameB_iff.1 e j hj) h

def sInts : Spec := fun args h nx K => ∃ v v' n n' f f', args = [v, v'] ∧ rdI h v n f ∧ rdI h v' n' f' ∧ n ≤ 1000000000 ∧ n' ≤ 1000000000 ∧ K (.ret (.bool (decide (n = n') && sameB n f f'))) h nx

theorem sInts_ok : SpecOK Try.prog 15 sInts := by
  refine specOK_read2 (fn := Try.f15) rfl rfl rfl T_ok (SP := []) noSP 200 _ ?_
  rintro args h nx K ⟨v, v', n, n', f, f', rfl, hv, hv', hn, hn', hk⟩
  obtain ⟨b, N, i, c, F, b', N', i', c', F', hN, hF, hN', hF', told⟩ := told_two (rest := []) hv hv' trivial
  refine ⟨_, _, told, by simp [Try.f15], fun o => o = .ret (.bool (decide (n = n') && sameB n f f')), ?_, ?_⟩
  · rintro o rfl; exact ⟨trivial, hk⟩
  intro cx hcx
  clear hk told hv hv'
  (refine (?_ : br _ _ _); refine br_ne (fun e => ?_) (fun e => ?_))
  · have e : (n : Int) ≠ (n' : Int) := e
    refine outB ?_
    rw [decide_eq_false (by omega : ¬ n = n')]; rfl
  have e : (n : Int) = (n' : Int) := e
  have en : n = n' := by omega
  subst en
  have hres : (decide (n = n) && sameB n f f') = sameB n f f' := by simp
  rw [hres]
  refine W_loop (fun r σ h => ∃ j : Nat, r = n - j ∧ j ≤ n ∧ (∀ k, k < j → f k = f' k) ∧ σ = [(0, .slice 2000 i n c), (1, .slice 2001 i' n c'), (5, .int .i64 j)] ∧ h = [(2000, .ro b N 1 (g1 .i64 F)), (2001, .ro b' N' 1 (g1 .i64 F'))]) n ⟨0, rfl, by omega, fun k hk => by omega, rfl, rfl⟩ (tau []) ⟨rfl, ?_, ?_⟩ 30 ?_
  · repeat' (first | exact rfl | exact trivial | refine ⟨?_, ?_⟩)
  · exact ⟨⟨rfl, rfl, rfl, fun i c hi hc => ⟨rfl, rfl⟩⟩, ⟨rfl, rfl, rfl, fun i c hi hc => ⟨rfl, rfl⟩⟩, trivial⟩
  rintro r σ h1 ⟨j, rfl, hj, hall, rfl, rfl⟩
  refine vc_sound (mkE hcx T_ok noSP) 200 _ _ _ 30 ?_
  (refine (?_ : br _ _ _); refine br_dec (fun hlt => ?_) (fun hlt => ?_))
  · have hlt : (j : Int) < (n : Int) := hlt
    have hjn : j < n := by omega
    have hw : IntKind.i64.wrap ((j : Int) + 1) = ((j + 1 : Nat) : Int) := by simp [IntKind.wrap_i64]; omega
    refine W_drawn (id := 6) (mkE hcx T_ok noSP) 60 1000 (by rw [hcx]; exact mix) (by kernel_rfl) (by kernel_rfl) 200 ?_
    refine ⟨_, ⟨rfl, rfl⟩, ?_⟩
    refine ⟨_, ⟨rfl, rfl⟩, ?_⟩
    refine ⟨.ptr 2000 (addI i j) 0, (show chk _ _ from chk_ok (by simp; omega) (show chk _ _ from chk_ok rfl ⟨rfl, rfl⟩)), ?_⟩
    refine ⟨.int .i64 (F (addI i j)), (show chk _ _ from chk_ok (Nat.ble_eq_true_of_le (show addI i j * 1 + 0 + 1 ≤ N * 1 by rw [addI_eq]; omega)) ⟨rfl, rfl⟩), ?_⟩
    refine ⟨_, ⟨rfl, rfl⟩, ?_⟩
    refine ⟨_, ⟨rfl, rfl⟩, ?_⟩
    refine ⟨.ptr 2001 (addI i' j) 0, (show chk _ _ from chk_ok (by simp; omega) (show chk _ _ from chk_ok rfl ⟨rfl, rfl⟩)), ?_⟩
    refine ⟨.int .i64 (F' (addI i' j)), (show chk _ _ from chk_ok (Nat.ble_eq_true_of_le (show addI i' j * 1 + 0 + 1 ≤ N' * 1 by rw [addI_eq]; omega)) ⟨rfl, rfl⟩), ?_⟩
    refine ⟨_, ⟨rfl, rfl⟩, ?_⟩
    have q1 : f j = F (addI i j) := by rw [hF j hjn, addI_eq]
    have q2 : f' j = F' (addI i' j) := by rw [hF' j hjn, addI_eq]
    (refine (?_ : br _ _ _); refine br_ne (fun e => ?_) (fun e => ?_))
    · refine outB ?_
      rw [sameB_no hjn (by rw [q1, q2]; exact e)]
    · refine ⟨n - (j + 1), _, _, by omega, ⟨j + 1, rfl, by omega, fun k hk => ?_, rfl, rfl⟩, tau [], rfl, ?_, ?_⟩
      · by_cases hkj : k = j
        · subst hkj; rw [q1, q2]; exact e
        · exact hall k (by omega)
      · repeat' (first | exact rfl | exact trivial | exact hw | refine ⟨?_, ?_⟩)
      · exact ⟨⟨rfl, rfl, rfl, fun i c hi hc => ⟨rfl, rfl⟩⟩, ⟨rfl, rfl, rfl, fun i c hi hc => ⟨rfl, rfl⟩⟩, trivial⟩
  · have hlt : ¬ (j : Int) < (n : Int) := hlt
    refine outB ?_
    exact (sameB_iff.2 fun k hk => hall k (by omega)).symm

/-- Is there anything among the first n of f that is no block? -/
def offB (n : Nat) (f : Nat → Int) : Bool := (List.range n).any fun j => !isB (f j)
theorem offB_iff {n : Nat} {f : Nat → Int} : offB n f = true ↔ ∃ j, j < n ∧ isB (f j) = false := by simp [offB]

def sNot : Spec := fun args h nx K => match args with
  | [.int .i64 x] => K (.ret (.bool (!isB x))) h nx
  | _ => False
theorem sNot_ok : SpecOK Try.prog 25 sNot := by
  refine specOK_pure (fn := Try.f25) rfl rfl rfl T_ok (SP := [(21, sIs)]) (consSP sIs_ok noSP) [] trivial 100 _ ?_
  intro args h nx K hs
  unfold sNot at hs
  split at hs
  · rename_i x
    refine ⟨trivial, by repeat constructor, by simp [Try.f25], fun o => o = .ret (.bool (!isB x)), ?_, ?_⟩
    · rintro o rfl; exact ⟨trivial, hs⟩
    intro c hc
    rfl
  · exact hs.elim

def sIxF : Spec := fun args h nx K => ∃ v n f, args = [v, .fn (.func 25) [] []] ∧ rdI h v n f ∧ n ≤ 1000000000 ∧ ∀ r : Int, (0 ≤ r ↔ offB n f = true) → K (.ret (.int .i64 r)) h nx
theorem sIxF_ok : SpecOK Try.prog 28 sIxF := by
  refine specOK_read2 (fn := Try.f28) rfl rfl rfl T_ok (SP := [(25, sNot)]) (consSP sNot_ok noSP) 200 _ ?_
  rintro args h nx K ⟨v, n, f, rfl, hv, hn, hk⟩
  obtain ⟨b, N, i, c, F, hN, hF, told⟩ := told_one (rest := [.fn (.func 25) [] []]) hv ⟨⟨trivial, trivial⟩, trivial⟩
  refine ⟨_, _, told, by simp [Try.f28], fun o => ∃ r : Int, o = .ret (.int .i64 r) ∧ (0 ≤ r ↔ offB n f = true), ?_, ?_⟩
  · rintro o ⟨r, rfl, hr⟩; exact ⟨trivial, hk r hr⟩
  intro cx hc
  clear hk told hv
  refine W_loop (fun r σ h => ∃ j : Nat, r = n - j ∧ j ≤ n ∧ (∀ k, k < j → isB (f k) = true) ∧ σ = [(0, .slice 2000 i n c), (1, .fn (.func 25) [] []), (7, .int .i64 n), (8, .int .i64 j)] ∧ h = [(2000, .ro b N 1 (g1 .i64 F))]) n ⟨0, rfl, by omega, fun k hk => by omega, rfl, rfl⟩ (tau []) ⟨rfl, ?_, ?_⟩ 30 ?_
  · repeat' (first | exact rfl | exact trivial | refine ⟨?_, ?_⟩)
  · exact ⟨⟨rfl, rfl, rfl, fun i c hi hc => ⟨rfl, rfl⟩⟩, trivial⟩
  rintro r σ h1 ⟨j, rfl, hj, hall, rfl, rfl⟩
  refine vc_sound (mkE hc T_ok (consSP sNot_ok noSP)) 200 _ _ _ 30 ?_
  (refine (?_ : br _ _ _); refine br_dec (fun hlt => ?_) (fun hlt => ?_))
  · have hlt : (j : Int) < (n : Int) := hlt
    have hjn : j < n := by omega
    have hw : IntKind.i64.wrap ((j : Int) + 1) = ((j + 1 : Nat) : Int) := by simp [IntKind.wrap_i64]; omega
    have q1 : f j = F (addI i j) := by rw [hF j hjn, addI_eq]
    (refine (?_ : chk _ _); refine chk_ok (by simp; omega) ?_)
    (refine (?_ : chk _ _); refine chk_ok rfl ?_)
    (refine (?_ : chk _ _); refine chk_ok (Nat.ble_eq_true_of_le (show addI i j * 1 + 0 + 1 ≤ N * 1 by rw [addI_eq]; omega)) ?_)
    (refine (?_ : br _ _ _); refine br_both (fun e => ?_) (fun e => ?_))
    · have e : (!isB (F (addI i j))) = true := e
      refine ⟨j, rfl, ⟨fun _ => offB_iff.2 ⟨j, hjn, by rw [q1]; simpa using e⟩, fun _ => by omega⟩⟩
    · have e : (!isB (F (addI i j))) = false := e
      refine ⟨n - (j + 1), _, _, by omega, ⟨j + 1, rfl, by omega, fun k hk => ?_, rfl, rfl⟩, tau [], rfl, ?_, ?_⟩
      · by_cases hkj : k = j
        · subst hkj; rw [q1]; simpa using e
        · exact hall k (by omega)
      · repeat' (first | exact rfl | exact trivial | exact hw | refine ⟨?_, ?_⟩)
      · exact ⟨⟨rfl, rfl, rfl, fun i c hi hc => ⟨rfl, rfl⟩⟩, trivial⟩
  · have hlt : ¬ (j : Int) < (n : Int) := hlt
    refine ⟨-1, rfl, ⟨fun q => absurd q (by decide), fun q => ?_⟩⟩
    obtain ⟨k, hk, e⟩ := offB_iff.1 q
    rw [hall k (by omega)] at e
    cases e

def sCF : Spec := fun args h nx K => ∃ v n f, args = [v, .fn (.func 25) [] []] ∧ rdI h v n f ∧ n ≤ 1000000000 ∧ K (.ret (.bool (offB n f))) h nx
theorem sCF_ok : SpecOK Try.prog 24 sCF := by
  refine specOK_read2 (fn := Try.f24) rfl rfl rfl T_ok (SP := [(28, sIxF)]) (consSP sIxF_ok noSP) 200 _ ?_
  rintro args h nx K ⟨v, n, f, rfl, hv, hn, hk⟩
  obtain ⟨b, N, i, c, F, hN, hF, told⟩ := told_one (rest := [.fn (.func 25) [] []]) hv ⟨⟨trivial, trivial⟩, trivial⟩
  refine ⟨_, _, told, by simp [Try.f24], fun o => o = .ret (.bool (offB n f)), ?_, ?_⟩
  · rintro o rfl; exact ⟨trivial, hk⟩
  intro cx hc
  clear hk told hv
  refine ⟨_, n, f, rfl, .inr ⟨2000, i, c, b, N, _, rfl, rfl, hN, F, fun _ _ => rfl, hF⟩, hn, fun r hr => ?_⟩
  refine outB ?_
  cases e : offB n f with
  | true => simpa using hr.2 e
  | false =>
    have : ¬ 0 ≤ r := fun q => by rw [hr.1 q] at e; cases e
    simpa using this

end Go.Proofs.Ytfmnebdfanaafaa.Sx
