import Derived.Test.YtdjekplkejkgdaaSxP5
import Derived.Test.YtdjekplkejkgdaaSxLa
/-
  The walks of this seat's functions: lists of integers (are two the same; where is a number; a list without one).
-/
namespace Go.Proofs.Ytdjekplkejkgdaa.Sx
open Go Go.Proofs
set_option maxRecDepth 100000
set_option linter.unusedSimpArgs false
set_option linter.unusedVariables false

theorem gl_ro {τ : Nat → Nat} {h' : Hp} {l : List Int} {i c : Nat} : rn τ h' (gl l i c) (gl l i c) := ⟨rfl, rfl⟩
theorem getD_at {l : List Int} {i : Nat} (h : i < l.length) : l.getD i 0 = l[i] := by simp [List.getD_eq_getElem?_getD, h]
theorem same_lists {l m : List Int} (hl : l.length = m.length) (h : ∀ j, j < l.length → l.getD j 0 = m.getD j 0) : l = m := by
  refine List.ext_getElem hl fun i h1 h2 => ?_
  have := h i h1
  rw [getD_at h1, getD_at h2] at this
  exact this
def sInts : Spec := fun args h nx K => ∃ v v' l l', args = [v, v'] ∧ rdL h v l ∧ rdL h v' l' ∧ l.length ≤ 1000000000 ∧ l'.length ≤ 1000000000 ∧ K (.ret (.bool (decide (l = l')))) h nx
theorem sInts_ok : SpecOK Try.prog 22 sInts := by
  refine specOK_read2 (fn := Try.f22) rfl rfl rfl T_ok (SP := []) noSP 200 _ ?_
  rintro args h nx K ⟨v, v', l, l', rfl, hv, hv', hn, hn', hk⟩
  obtain ⟨b, c, b', c', told⟩ := told_L2 (rest := []) hv hv' trivial
  refine ⟨_, _, told, by simp [Try.f22], fun o => o = .ret (.bool (decide (l = l'))), ?_, ?_⟩
  · rintro o rfl; exact ⟨trivial, hk⟩
  intro cx hcx
  clear hk told hv hv'
  (refine (?_ : br _ _ _); refine br_ne (fun e => ?_) (fun e => ?_))
  · have e : (l.length : Int) ≠ (l'.length : Int) := e
    refine outB ?_
    rw [decide_eq_false]
    rintro rfl
    exact e rfl
  have e : (l.length : Int) = (l'.length : Int) := e
  have en : l.length = l'.length := by omega
  refine W_loop (fun r σ h => ∃ j : Nat, r = l.length - j ∧ j ≤ l.length ∧ (∀ k, k < j → l.getD k 0 = l'.getD k 0) ∧ σ = [(0, .slice 2000 0 l.length c), (1, .slice 2001 0 l'.length c'), (5, .int .i64 j)] ∧ h = [(2000, .ro b l.length 1 (gl l)), (2001, .ro b' l'.length 1 (gl l'))]) l.length ⟨0, rfl, by omega, fun k hk => by omega, rfl, rfl⟩ (tau []) ⟨rfl, ?_, ?_⟩ 30 ?_
  · repeat' (first | exact rfl | exact trivial | refine ⟨?_, ?_⟩)
  · exact ⟨⟨rfl, rfl, rfl, fun i c hi hc => gl_ro⟩, ⟨rfl, rfl, rfl, fun i c hi hc => gl_ro⟩, trivial⟩
  rintro r σ h1 ⟨j, rfl, hj, hall, rfl, rfl⟩
  refine vc_sound (mkE hcx T_ok noSP) 200 _ _ _ 30 ?_
  (refine (?_ : br _ _ _); refine br_dec (fun hlt => ?_) (fun hlt => ?_))
  · have hlt : (j : Int) < (l.length : Int) := hlt
    have hjn : j < l.length := by omega
    have hw : IntKind.i64.wrap ((j : Int) + 1) = ((j + 1 : Nat) : Int) := by simp [IntKind.wrap_i64]; omega
    have hz : addI 0 j = j := by rw [addI_eq, Nat.zero_add]
    refine W_drawn (id := 6) (mkE hcx T_ok noSP) 60 1000 (by rw [hcx]; exact mix) (by kernel_rfl) (by kernel_rfl) 200 ?_
    refine ⟨_, ⟨rfl, rfl⟩, ?_⟩
    refine ⟨_, ⟨rfl, rfl⟩, ?_⟩
    refine ⟨.ptr 2000 (addI 0 j) 0, (show chk _ _ from chk_ok (by simp; omega) (show chk _ _ from chk_ok rfl ⟨rfl, rfl⟩)), ?_⟩
    refine ⟨.int .i64 (l.getD (addI 0 j) 0), (show chk _ _ from chk_ok (Nat.ble_eq_true_of_le (show addI 0 j * 1 + 0 + 1 ≤ l.length * 1 by rw [hz]; omega)) ⟨rfl, rfl⟩), ?_⟩
    refine ⟨_, ⟨rfl, rfl⟩, ?_⟩
    refine ⟨_, ⟨rfl, rfl⟩, ?_⟩
    refine ⟨.ptr 2001 (addI 0 j) 0, (show chk _ _ from chk_ok (by simp; omega) (show chk _ _ from chk_ok rfl ⟨rfl, rfl⟩)), ?_⟩
    refine ⟨.int .i64 (l'.getD (addI 0 j) 0), (show chk _ _ from chk_ok (Nat.ble_eq_true_of_le (show addI 0 j * 1 + 0 + 1 ≤ l'.length * 1 by rw [hz]; omega)) ⟨rfl, rfl⟩), ?_⟩
    refine ⟨_, ⟨rfl, rfl⟩, ?_⟩
    (refine (?_ : br _ _ _); refine br_ne (fun e => ?_) (fun e => ?_))
    · rw [hz] at e
      refine outB ?_
      rw [decide_eq_false]
      rintro rfl
      exact e rfl
    · rw [hz] at e
      refine ⟨l.length - (j + 1), _, _, by omega, ⟨j + 1, rfl, by omega, fun k hk => ?_, rfl, rfl⟩, tau [], rfl, ?_, ?_⟩
      · by_cases hkj : k = j
        · subst hkj; exact e
        · exact hall k (by omega)
      · repeat' (first | exact rfl | exact trivial | exact hw | refine ⟨?_, ?_⟩)
      · exact ⟨⟨rfl, rfl, rfl, fun i c hi hc => gl_ro⟩, ⟨rfl, rfl, rfl, fun i c hi hc => gl_ro⟩, trivial⟩
  · have hlt : ¬ (j : Int) < (l.length : Int) := hlt
    refine outB ?_
    exact (decide_eq_true (same_lists en fun k hk => hall k (by omega))).symm
/-- Where a number is in a list. -/
def ixZ (k : Int) : List Int → Nat
  | [] => 0
  | x :: xs => if x = k then 0 else ixZ k xs + 1
def findI (k : Int) (l : List Int) : Int := if k ∈ l then (ixZ k l : Int) else -1
theorem ixZ_at {k : Int} : ∀ {l : List Int} {j : Nat}, j < l.length → (∀ i, i < j → l.getD i 0 ≠ k) → l.getD j 0 = k → ixZ k l = j ∧ k ∈ l
  | [], j, hj, _, _ => by simp at hj
  | x :: xs, 0, _, _, h => by
    have h : x = k := by simpa using h
    subst h
    exact ⟨if_pos rfl, by simp⟩
  | x :: xs, j + 1, hj, hn, h => by
    have h0 : x ≠ k := by simpa using hn 0 (by omega)
    obtain ⟨e1, e2⟩ := ixZ_at (k := k) (l := xs) (j := j) (by simpa using hj) (fun i hi => by simpa using hn (i + 1) (by omega)) (by simpa using h)
    exact ⟨by unfold ixZ; rw [if_neg h0, e1], by simp [e2]⟩
theorem ixZ_no {k : Int} {l : List Int} (h : ∀ i, i < l.length → l.getD i 0 ≠ k) : k ∉ l := by
  intro hm
  obtain ⟨i, hi, e⟩ := List.getElem_of_mem hm
  exact h i hi (by rw [getD_at hi]; exact e)
def sFind : Spec := fun args h nx K => ∃ v l k, args = [v, .int .i64 k] ∧ rdL h v l ∧ l.length ≤ 1000000000 ∧ K (.ret (.int .i64 (findI k l))) h nx
theorem sFind_ok : SpecOK Try.prog 16 sFind := by
  refine specOK_read2 (fn := Try.f16) rfl rfl rfl T_ok (SP := []) noSP 200 _ ?_
  rintro args h nx K ⟨v, l, k, rfl, hv, hn, hk⟩
  obtain ⟨b, c, told⟩ := told_L1 (rest := [.int .i64 k]) hv ⟨trivial, trivial⟩
  refine ⟨_, _, told, by simp [Try.f16], fun o => o = .ret (.int .i64 (findI k l)), ?_, ?_⟩
  · rintro o rfl; exact ⟨trivial, hk⟩
  intro cx hcx
  clear hk told hv
  refine W_loop (fun r σ h => ∃ j : Nat, r = l.length - j ∧ j ≤ l.length ∧ (∀ i, i < j → l.getD i 0 ≠ k) ∧ σ = [(0, .slice 2000 0 l.length c), (1, .int .i64 k), (5, .int .i64 j)] ∧ h = [(2000, .ro b l.length 1 (gl l))]) l.length ⟨0, rfl, by omega, fun k hk => by omega, rfl, rfl⟩ (tau []) ⟨rfl, ?_, ?_⟩ 30 ?_
  · repeat' (first | exact rfl | exact trivial | refine ⟨?_, ?_⟩)
  · exact ⟨⟨rfl, rfl, rfl, fun i c hi hc => gl_ro⟩, trivial⟩
  rintro r σ h1 ⟨j, rfl, hj, hall, rfl, rfl⟩
  refine vc_sound (mkE hcx T_ok noSP) 200 _ _ _ 30 ?_
  (refine (?_ : br _ _ _); refine br_dec (fun hlt => ?_) (fun hlt => ?_))
  · have hlt : (j : Int) < (l.length : Int) := hlt
    have hjn : j < l.length := by omega
    have hw : IntKind.i64.wrap ((j : Int) + 1) = ((j + 1 : Nat) : Int) := by simp [IntKind.wrap_i64]; omega
    have hz : addI 0 j = j := by rw [addI_eq, Nat.zero_add]
    (refine (?_ : chk _ _); refine chk_ok (show (decide ((0 : Int) ≤ (j : Int)) && decide ((j : Int) < (l.length : Int))) = true by simp only [Bool.and_eq_true, decide_eq_true_eq]; omega) ?_)
    (refine (?_ : chk _ _); refine chk_ok rfl ?_)
    (refine (?_ : chk _ _); refine chk_ok (Nat.ble_eq_true_of_le (show addI 0 j * 1 + 0 + 1 ≤ l.length * 1 by rw [hz]; omega)) ?_)
    (refine (?_ : br _ _ _); refine br_eq (fun e => ?_) (fun e => ?_))
    · have e : l.getD (addI 0 j) 0 = k := e
      rw [hz] at e
      obtain ⟨e1, e2⟩ := ixZ_at hjn hall e
      exact outI (by unfold findI; rw [if_pos e2, e1])
    · have e : l.getD (addI 0 j) 0 ≠ k := e
      rw [hz] at e
      refine ⟨l.length - (j + 1), _, _, by omega, ⟨j + 1, rfl, by omega, fun i hi => ?_, rfl, rfl⟩, tau [], rfl, ?_, ?_⟩
      · by_cases hkj : i = j
        · subst hkj; exact e
        · exact hall i (by omega)
      · repeat' (first | exact rfl | exact trivial | exact hw | refine ⟨?_, ?_⟩)
      · exact ⟨⟨rfl, rfl, rfl, fun i c hi hc => gl_ro⟩, trivial⟩
  · have hlt : ¬ (j : Int) < (l.length : Int) := hlt
    refine outI ?_
    unfold findI
    rw [if_neg (ixZ_no fun i hi => hall i (by omega))]
theorem intT : appT T 36 := ⟨_, _, rfl, rfl, rfl, rfl, rfl⟩
/-- A list without the number at a place. -/
theorem eraseIdx_app {l : List Int} {i : Nat} : l.take i ++ l.drop (i + 1) = l.eraseIdx i := (List.eraseIdx_eq_take_drop_succ l i).symm
def sWithout : Spec := fun args h nx K => ∃ v l, ∃ i : Nat, args = [v, .int .i64 i] ∧ rdL h v l ∧ (∀ tv j n c, v = .slice tv j n c → n ≤ c) ∧ i < l.length ∧ l.length ≤ 1000000 ∧ fd nx h = .gone ∧ newL (l.eraseIdx i) h nx K
theorem sWithout_ok : SpecOK Try.prog 21 sWithout := by
  refine specOK_newL (fn := Try.f21) rfl rfl rfl T_ok (SP := []) noSP _ ?_
  rintro args h nx K ⟨v, l, i, rfl, hv, hcap, hi, hn, hg, hk⟩
  obtain ⟨b, c, hc, told⟩ := told_L1c (rest := [.int .i64 i]) hv hcap ⟨trivial, trivial⟩
  refine ⟨hg, _, _, _, told, by simp [Try.f21], hk, ?_⟩
  intro cx hcx
  clear hk told hv hcap
  have hw : IntKind.i64.wrap ((i : Int) + 1) = ((i + 1 : Nat) : Int) := by simp [IntKind.wrap_i64]; omega
  refine vc_sound (mkE hcx T_ok noSP) 5 _ _ _ 0 ?_
  refine W_plan (mkE hcx T_ok noSP) 30 9 (.take 1 (.take 2 (.take 3 (.take 5 (.take 6 (.take 7 (.take 8 (.all (.cons 0 (.all (.cons 4 (.all (.cons 9 (.all (.cons 10 (.done) (.nil))) (.nil))) (.nil))) (.nil)))))))))) (by rw [hcx]; exact mix) (by kernel_rfl) 30 ?_
  refine ⟨_, ⟨rfl, rfl⟩, ?_⟩
  refine ⟨_, ⟨rfl, rfl⟩, ?_⟩
  refine ⟨.slice 2000 0 i c, (show chk _ _ from chk_ok (show (decide ((0 : Int) ≤ 0) && decide ((0 : Int) ≤ (i : Int)) && decide ((i : Int) ≤ (c : Int))) = true by simp only [Bool.and_eq_true, decide_eq_true_eq]; omega) ⟨by cases c <;> rfl, rfl⟩), ?_⟩
  refine ⟨_, ⟨rfl, rfl⟩, ?_⟩
  refine ⟨_, ⟨rfl, rfl⟩, ?_⟩
  refine ⟨.int .i64 ((i + 1 : Nat) : Int), ⟨congrArg (V.int .i64) hw, rfl⟩, ?_⟩
  have hbq : (match Nat.beq c (i + 1) with | true => 0 | false => addI 0 (i + 1)) = (if c = i + 1 then 0 else i + 1) := (beq_cases c (i + 1) 0 (addI 0 (i + 1))).trans (by rw [addI_eq, Nat.zero_add])
  refine ⟨.slice 2000 (if c = i + 1 then 0 else i + 1) (l.length - (i + 1)) (c - (i + 1)), (show chk _ _ from chk_ok (show (decide ((0 : Int) ≤ ((i + 1 : Nat) : Int)) && decide (((i + 1 : Nat) : Int) ≤ (l.length : Int))) = true by simp only [Bool.and_eq_true, decide_eq_true_eq]; omega) ⟨congrArg (fun z => V.slice 2000 z (l.length - (i + 1)) (c - (i + 1))) hbq, rfl⟩), ?_⟩
  refine ⟨⟨fun _ => trivial, fun bN => ?_⟩, trivial⟩
  have hd1 : ∀ (hh : Hp), fd 2000 (roH hh) = .ro b l.length 1 (gl l) → rdL hh (.slice 2000 0 i c) (l.take i) := fun hh e => .inr ⟨2000, 0, c, b, l.length, gl l, by rw [List.length_take, Nat.min_eq_left (by omega)], e, by rw [List.length_take]; omega, fun j hj => by
    rw [List.length_take] at hj
    show V.int .i64 (l.getD (0 + j) 0) = V.int .i64 ((l.take i).getD j 0)
    rw [Nat.zero_add, List.getD_eq_getElem?_getD, List.getD_eq_getElem?_getD, List.getElem?_take, if_pos (by omega)]⟩
  have hd2 : ∀ (hh : Hp), fd 2000 (roH hh) = .ro b l.length 1 (gl l) → rdL hh (.slice 2000 (if c = i + 1 then 0 else i + 1) (l.length - (i + 1)) (c - (i + 1))) (l.drop (i + 1)) := fun hh e => .inr ⟨2000, _, _, b, l.length, gl l, by rw [List.length_drop], e, by rw [List.length_drop]; split <;> omega, fun j hj => by
    rw [List.length_drop] at hj
    show V.int .i64 (l.getD (_ + j) 0) = V.int .i64 ((l.drop (i + 1)).getD j 0)
    rw [if_neg (by omega), List.getD_eq_getElem?_getD, List.getD_eq_getElem?_getD, List.getElem?_drop]⟩
  have hd0 : ∀ (hh : Hp) g, fd 30 (roH hh) = .ro (some ⟨bN, 0, none⟩) 0 1 g → rdL hh (.slice 30 0 0 0) [] := fun hh g e => .inr ⟨30, 0, 0, _, 0, g, rfl, e, Nat.le_refl _, fun j hj => absurd hj (by simp)⟩
  have hlen1 : (l.take i).length = i := by rw [List.length_take]; omega
  have hlen2 : (l.drop (i + 1)).length = l.length - (i + 1) := by rw [List.length_drop]
  refine ⟨⟨?_, ?_⟩, trivial⟩
  · refine step_app (v := .slice 30 0 0 0) (u := .slice 2000 0 i c) rfl rfl ?_
    exact app_L intT (hd0 _ _ rfl) (fun _ _ _ _ e => by cases e; exact Nat.le_refl _) (hd1 _ rfl) rfl (by rw [hlen1]; simp; omega) (fun _ => trivial) (fun tv j c e hm hle => by
      have hm' : (l.take i).length ≠ 0 := fun q => hm (List.eq_nil_of_length_eq_zero q)
      cases e
      simp only [List.length_nil] at hle
      omega) (fun _ _ _ _ _ _ _ _ => trivial)
  · refine stepC_app (v := .slice 30 0 0 0) (u := .slice 2000 0 i c) rfl rfl ?_
    have hex : l.take i ++ l.drop (i + 1) = l.eraseIdx i := eraseIdx_app
    refine app_L intT (hd0 _ _ rfl) (fun _ _ _ _ e => by cases e; exact Nat.le_refl _) (hd1 _ rfl) rfl (by rw [hlen1]; simp; omega) (fun hm => ?_) (fun tv j c e hm hle => by
      have hm' : (l.take i).length ≠ 0 := fun q => hm (List.eq_nil_of_length_eq_zero q)
      cases e
      simp only [List.length_nil] at hle
      omega) (fun hm b1 cap1 g1 ty1 p1 p2 p3 => ?_)
    · refine ⟨⟨trivial, ?_⟩, trivial⟩
      refine stepC_app (v := .slice 30 0 0 0) (u := .slice 2000 (if c = i + 1 then 0 else i + 1) (l.length - (i + 1)) (c - (i + 1))) rfl rfl ?_
      rw [hm, List.nil_append] at hex
      refine app_L intT (hd0 _ _ rfl) (fun _ _ _ _ e => by cases e; exact Nat.le_refl _) (hd2 _ rfl) rfl (by rw [hlen2]; simp; omega) (fun hm => ?_) (fun tv j c e hm hle => by
        have hm' : (l.drop (i + 1)).length ≠ 0 := fun q => hm (List.eq_nil_of_length_eq_zero q)
        cases e
        simp only [List.length_nil] at hle
        omega) (fun hm b2 cap2 g2 ty2 p1 p2 p3 => ?_)
      · refine ⟨⟨trivial, ?_⟩, trivial⟩
        rw [hm] at hex
        rw [← hex]
        exact retL.of (t := 30) (l := []) rfl ⟨fun j hj => absurd hj (by simp), fun j hj => absurd hj (by simp)⟩ (by simp) (by simp)
      · refine ⟨⟨trivial, ?_⟩, trivial⟩
        rw [← hex]
        rw [List.nil_append] at p1 p3
        exact retL.of (t := 31) rfl p3 p1 p2
    · refine ⟨⟨trivial, ?_⟩, trivial⟩
      rw [List.nil_append] at p1 p3
      refine stepC_app (v := .slice 31 0 (l.take i).length cap1) (u := .slice 2000 (if c = i + 1 then 0 else i + 1) (l.length - (i + 1)) (c - (i + 1))) rfl rfl ?_
      refine app_L (l := l.take i) intT (.inr ⟨31, 0, cap1, _, cap1, g1, rfl, rfl, by omega, fun j hj => by rw [Nat.zero_add]; exact p3.1 j hj⟩) (fun _ _ _ _ e => by cases e; exact p1) (hd2 _ rfl) rfl (by rw [hlen2, hlen1]; omega) (fun hm => ?_) (fun tv j c e hm hle => ?_) (fun hm b2 cap2 g2 ty2 p1 p2 p3 => ?_)
      · refine ⟨⟨trivial, ?_⟩, trivial⟩
        rw [hm, List.append_nil] at hex
        rw [← hex]
        exact retL.of (t := 31) rfl p3 p1 p2
      · cases e
        refine ⟨b1, cap1, g1, ty1, rfl, by omega, fun g2 q1 q2 => ?_⟩
        refine ⟨⟨trivial, ?_⟩, trivial⟩
        rw [← hex]
        refine retL.of (t := 31) (ty := ty1) (g := g2) rfl ⟨fun j hj => by have := q1 j hj; rw [Nat.zero_add] at this; exact this, fun j hj => ?_⟩ (by rw [List.length_append]; exact hle) p2
        by_cases w : j < (l.take i ++ l.drop (i + 1)).length
        · have := q1 j w
          rw [Nat.zero_add] at this
          rw [this]; trivial
        · rw [q2 j (.inr (by rw [List.length_append] at w; omega))]
          exact p3.2 j hj
      · refine ⟨⟨trivial, ?_⟩, trivial⟩
        rw [← hex]
        exact retL.of (t := 32) rfl p3 p1 p2
end Go.Proofs.Ytdjekplkejkgdaa.Sx
