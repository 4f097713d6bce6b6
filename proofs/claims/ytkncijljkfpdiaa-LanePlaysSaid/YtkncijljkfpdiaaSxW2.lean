import Derived.Test.YtkncijljkfpdiaaSxW1
/-
  Lists of integers: are two the same (16), where a number stands (34).
-/
namespace Go.Proofs.Ytkncijljkfpdiaa.Sx
open Go Go.Proofs
set_option maxRecDepth 100000
set_option linter.unusedSimpArgs false
set_option linter.unusedVariables false

theorem gl_ro {τ : Nat → Nat} {h' : Hp} {l : List Int} {i c : Nat} : rn τ h' (gl l i c) (gl l i c) := ⟨rfl, rfl⟩
theorem getD_at {l : List Int} {i : Nat} (h : i < l.length) : l.getD i 0 = l[i] := by simp [List.getD_eq_getElem?_getD, h]
theorem same_lists {l m : List Int} (hl : l.length = m.length) (h : ∀ j, j < l.length → l.getD j 0 = m.getD j 0) : l = m := by
  refine List.ext_getElem hl fun i h1 h2 => ?_
  have := h i h1
  rw [getD_at h1, getD_at h2] at this
  exact this
def sInts : Spec := fun args h nx K => ∃ v v' l l', args = [v, v'] ∧ rdL h v l ∧ rdL h v' l' ∧ l.length ≤ 1000000000 ∧ l'.length ≤ 1000000000 ∧ K (.ret (.bool (decide (l = l')))) h nx
theorem sInts_ok : SpecOK Try.prog 16 sInts := by
  refine specOK_read2 (fn := Try.f16) rfl rfl rfl T_ok (SP := []) noSP 200 _ ?_
  rintro args h nx K ⟨v, v', l, l', rfl, hv, hv', hn, hn', hk⟩
  obtain ⟨b, c, b', c', told⟩ := told_L2 (rest := []) hv hv' trivial
  refine ⟨_, _, told, by simp [Try.f16], fun o => o = .ret (.bool (decide (l = l'))), ?_, ?_⟩
  · rintro o rfl; exact ⟨trivial, hk⟩
  intro cx hcx
  clear hk told hv hv'
  (refine (?_ : br _ _ _); refine br_ne (fun e => ?_) (fun e => ?_))
  · have e : (l.length : Int) ≠ (l'.length : Int) := e
    refine outB ?_
    rw [decide_eq_false]
    rintro rfl
    exact e rfl
  have e : (l.length : Int) = (l'.length : Int) := e
  have en : l.length = l'.length := by omega
  refine W_loop (fun r σ h => ∃ j : Nat, r = l.length - j ∧ j ≤ l.length ∧ (∀ k, k < j → l.getD k 0 = l'.getD k 0) ∧ σ = [(0, .slice 2000 0 l.length c), (1, .slice 2001 0 l'.length c'), (5, .int .i64 j)] ∧ h = [(2000, .ro b l.length 1 (gl l)), (2001, .ro b' l'.length 1 (gl l'))]) l.length ⟨0, rfl, by omega, fun k hk => by omega, rfl, rfl⟩ (tau []) ⟨rfl, ?_, ?_⟩ 30 ?_
  · repeat' (first | exact rfl | exact trivial | refine ⟨?_, ?_⟩)
  · exact ⟨⟨rfl, rfl, rfl, fun i c hi hc => gl_ro⟩, ⟨rfl, rfl, rfl, fun i c hi hc => gl_ro⟩, trivial⟩
  rintro r σ h1 ⟨j, rfl, hj, hall, rfl, rfl⟩
  refine vc_sound (mkE hcx T_ok noSP) 200 _ _ _ 30 ?_
  (refine (?_ : br _ _ _); refine br_dec (fun hlt => ?_) (fun hlt => ?_))
  · have hlt : (j : Int) < (l.length : Int) := hlt
    have hjn : j < l.length := by omega
    have hw : IntKind.i64.wrap ((j : Int) + 1) = ((j + 1 : Nat) : Int) := by simp [IntKind.wrap_i64]; omega
    have hz : addI 0 j = j := by rw [addI_eq, Nat.zero_add]
    refine W_drawn (id := 6) (mkE hcx T_ok noSP) 60 1000 (by rw [hcx]; exact mix) (by kernel_rfl) (by kernel_rfl) 200 ?_
    refine ⟨_, ⟨rfl, rfl⟩, ?_⟩
    refine ⟨_, ⟨rfl, rfl⟩, ?_⟩
    refine ⟨.ptr 2000 (addI 0 j) 0, (show chk _ _ from chk_ok (by simp; omega) (show chk _ _ from chk_ok rfl ⟨rfl, rfl⟩)), ?_⟩
    refine ⟨.int .i64 (l.getD (addI 0 j) 0), (show chk _ _ from chk_ok (Nat.ble_eq_true_of_le (show addI 0 j * 1 + 0 + 1 ≤ l.length * 1 by rw [hz]; omega)) ⟨rfl, rfl⟩), ?_⟩
    refine ⟨_, ⟨rfl, rfl⟩, ?_⟩
    refine ⟨_, ⟨rfl, rfl⟩, ?_⟩
    refine ⟨.ptr 2001 (addI 0 j) 0, (show chk _ _ from chk_ok (by simp; omega) (show chk _ _ from chk_ok rfl ⟨rfl, rfl⟩)), ?_⟩
    refine ⟨.int .i64 (l'.getD (addI 0 j) 0), (show chk _ _ from chk_ok (Nat.ble_eq_true_of_le (show addI 0 j * 1 + 0 + 1 ≤ l'.length * 1 by rw [hz]; omega)) ⟨rfl, rfl⟩), ?_⟩
    refine ⟨_, ⟨rfl, rfl⟩, ?_⟩
    (refine (?_ : br _ _ _); refine br_ne (fun e => ?_) (fun e => ?_))
    · rw [hz] at e
      refine outB ?_
      rw [decide_eq_false]
      rintro rfl
      exact e rfl
    · rw [hz] at e
      refine ⟨l.length - (j + 1), _, _, by omega, ⟨j + 1, rfl, by omega, fun k hk => ?_, rfl, rfl⟩, tau [], rfl, ?_, ?_⟩
      · by_cases hkj : k = j
        · subst hkj; exact e
        · exact hall k (by omega)
      · repeat' (first | exact rfl | exact trivial | exact hw | refine ⟨?_, ?_⟩)
      · exact ⟨⟨rfl, rfl, rfl, fun i c hi hc => gl_ro⟩, ⟨rfl, rfl, rfl, fun i c hi hc => gl_ro⟩, trivial⟩
  · have hlt : ¬ (j : Int) < (l.length : Int) := hlt
    refine outB ?_
    exact (decide_eq_true (same_lists en fun k hk => hall k (by omega))).symm
/-- Where a number is in a list. -/
def ixZ (k : Int) : List Int → Nat
  | [] => 0
  | x :: xs => if x = k then 0 else ixZ k xs + 1
def findI (k : Int) (l : List Int) : Int := if k ∈ l then (ixZ k l : Int) else -1
theorem ixZ_at {k : Int} : ∀ {l : List Int} {j : Nat}, j < l.length → (∀ i, i < j → l.getD i 0 ≠ k) → l.getD j 0 = k → ixZ k l = j ∧ k ∈ l
  | [], j, hj, _, _ => by simp at hj
  | x :: xs, 0, _, _, h => by
    have h : x = k := by simpa using h
    subst h
    exact ⟨if_pos rfl, by simp⟩
  | x :: xs, j + 1, hj, hn, h => by
    have h0 : x ≠ k := by simpa using hn 0 (by omega)
    obtain ⟨e1, e2⟩ := ixZ_at (k := k) (l := xs) (j := j) (by simpa using hj) (fun i hi => by simpa using hn (i + 1) (by omega)) (by simpa using h)
    exact ⟨by unfold ixZ; rw [if_neg h0, e1], by simp [e2]⟩
theorem ixZ_no {k : Int} {l : List Int} (h : ∀ i, i < l.length → l.getD i 0 ≠ k) : k ∉ l := by
  intro hm
  obtain ⟨i, hi, e⟩ := List.getElem_of_mem hm
  exact h i hi (by rw [getD_at hi]; exact e)
def sIndex : Spec := fun args h nx K => ∃ v l k, args = [v, .int .i64 k] ∧ rdL h v l ∧ l.length ≤ 1000000000 ∧ K (.ret (.int .i64 (findI k l))) h nx
theorem sIndex_ok : SpecOK Try.prog 34 sIndex := by
  refine specOK_read2 (fn := Try.f34) rfl rfl rfl T_ok (SP := []) noSP 0 _ ?_
  rintro args h nx K ⟨v, l, k, rfl, hv, hn, hk⟩
  obtain ⟨b, c, told⟩ := told_L1 (rest := [.int .i64 k]) hv ⟨trivial, trivial⟩
  refine ⟨_, _, told, by simp [Try.f34], fun o => o = .ret (.int .i64 (findI k l)), ?_, ?_⟩
  · rintro o rfl; exact ⟨trivial, hk⟩
  intro cx hcx
  clear hk told hv
  show W _ _ _ _ 0
  have hE := mkE' (fn := Try.f34) (R := fun o _ _ => o = .ret (.int .i64 (findI k l))) hcx noSP
  have ew : ∀ {τ : Nat → Nat} {h' : Hp}, wkE τ h' (.ro b l.length 1 (gl l)) (.ro b l.length 1 (gl l)) := ⟨rfl, rfl, rfl, fun i c hi hc => gl_ro⟩
  refine vc_sound hE 40 _ _ _ 0 ?_
  refine W_loop (fun r σ h => ∃ j : Nat, r = l.length - j ∧ j ≤ l.length ∧ (∀ i, i < j → l.getD i 0 ≠ k) ∧ σ = [(0, .slice 2000 0 l.length c), (1, .int .i64 k), (7, .int .i64 l.length), (8, .int .i64 j)] ∧ h = [(2000, .ro b l.length 1 (gl l))]) l.length ⟨0, rfl, by omega, fun k hk => by omega, rfl, rfl⟩ (tau []) ⟨rfl, (by repeat' (first | exact rfl | exact trivial | assumption | refine ⟨?_, ?_⟩)), ew, trivial⟩ 30 ?_
  rintro r σ h1 ⟨j, rfl, hj, hall, rfl, rfl⟩
  refine vc_sound hE 60 _ _ _ 30 ?_
  (refine (?_ : br _ _ _); refine br_dec (fun q => ?_) (fun q => ?_))
  · have hlt : (j : Int) < (l.length : Int) := q
    have hjn : j < l.length := by omega
    have hw : IntKind.i64.wrap ((j : Int) + 1) = ((j + 1 : Nat) : Int) := by simp [IntKind.wrap_i64]; omega
    have hz : addI 0 ((j : Int)).toNat = j := by rw [Int.toNat_natCast, addI_eq, Nat.zero_add]
    (refine (?_ : chk _ _); refine chk_ok (show (decide ((0 : Int) ≤ (j : Int)) && decide ((j : Int) < (l.length : Int))) = true by simp only [Bool.and_eq_true, decide_eq_true_eq]; omega) ?_)
    (refine (?_ : chk _ _); refine chk_ok rfl ?_)
    (refine (?_ : chk _ _); refine chk_ok (Nat.ble_eq_true_of_le (show addI 0 ((j : Int)).toNat * 1 + 0 + 1 ≤ l.length * 1 by rw [hz]; omega)) ?_)
    (refine (?_ : br _ _ _); refine br_eq (fun e => ?_) (fun e => ?_))
    · have e : k = l.getD (addI 0 ((j : Int)).toNat) 0 := e
      rw [hz] at e
      obtain ⟨e1, e2⟩ := ixZ_at hjn hall e.symm
      exact outI (by unfold findI; rw [if_pos e2, e1])
    · have e : k ≠ l.getD (addI 0 ((j : Int)).toNat) 0 := e
      rw [hz] at e
      refine ⟨l.length - (j + 1), _, _, by omega, ⟨j + 1, rfl, by omega, fun i hi => ?_, rfl, rfl⟩, tau [], rfl, (by repeat' (first | exact rfl | exact trivial | assumption | refine ⟨?_, ?_⟩)), ew, trivial⟩
      by_cases hkj : i = j
      · subst hkj; exact Ne.symm e
      · exact hall i (by omega)
  · have hlt : ¬ (j : Int) < (l.length : Int) := q
    refine outI ?_
    unfold findI
    rw [if_neg (ixZ_no fun i hi => hall i (by omega))]

theorem lst_cap {e : Ent} {l : List Int} {cap : Nat} (hl : lstE e l cap) : l.length ≤ cap := by
  rcases hl with ⟨rfl, rfl, rfl⟩ | ⟨b, g, ty, rfl, h1, h2, h3, h4⟩
  · simp
  · exact h1
end Go.Proofs.Ytkncijljkfpdiaa.Sx
