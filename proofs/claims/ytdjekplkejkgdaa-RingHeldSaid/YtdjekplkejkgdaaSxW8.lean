import Derived.Test.YtdjekplkejkgdaaSxW7
/-
  The walks of this seat's functions: Where, Len.
-/
namespace Go.Proofs.Ytdjekplkejkgdaa.Sx
open Go Go.Proofs
set_option maxRecDepth 100000
set_option linter.unusedSimpArgs false
set_option linter.unusedVariables false

def rightB (L : Int) : Bool := decide (0 ≤ L) && decide (L < 2)
def lenS (s : Sh) (L : Int) : Int := if rightB L = true then s.E (3 * L.toNat) else 0
def sLen : Spec := fun args h nx K => ∃ (p : V) (s : Sh) (L : Int), args = [p, .int .i64 L] ∧ shelfR h p s ∧ K (.ret (.int .i64 (lenS s L))) h nx
theorem sLen_ok : SpecOK Try.prog 19 sLen := by
  refine specOK_read2 (fn := Try.f19) rfl rfl rfl T_ok (SP := [(32, sRight)]) (consSP sRight_ok noSP) 100 _ ?_
  rintro args h nx K ⟨p, s, L, rfl, hs, hk⟩
  obtain ⟨bS, bA, told⟩ := told_shelf (rest := [.int .i64 L]) hs ⟨trivial, trivial⟩
  refine ⟨_, _, told, by simp [Try.f19], fun o => o = .ret (.int .i64 (lenS s L)), ?_, ?_⟩
  · rintro o rfl; exact ⟨trivial, hk⟩
  intro c hc
  clear hk told hs
  by_cases h0 : L = 0
  · subst h0
    exact outI rfl
  · by_cases h1 : L = 1
    · subst h1
      exact outI rfl
    · have hr : rightB L = false := by
        unfold rightB
        by_cases q : 0 ≤ L
        · rw [decide_eq_false (show ¬ L < 2 by omega), Bool.and_false]
        · rw [decide_eq_false q, Bool.false_and]
      (refine (?_ : br _ _ _); refine br_not (br_both (fun e => ?_) (fun e => ?_)))
      · have e : rightB L = true := e
        rw [hr] at e; cases e
      · exact outI (by rw [lenS, if_neg (by rw [hr]; decide)])

def whereO (s : Sh) (k : Int) : List V := if liesI s k = 0 then [.int .i64 (s.l k.toNat), .bool (s.lo k.toNat), .bool true] else [.int .i64 0, .bool false, .bool false]
def sWhere : Spec := fun args h nx K => ∃ (p : V) (s : Sh) (k : Int), args = [p, .int .i64 k] ∧ shelfR h p s ∧ s.n ≤ s.N ∧ K (.ret (.tup (whereO s k))) h nx
theorem outTup {l m : List V} (h : l = m) : Out.ret (.tup l) = Out.ret (.tup m) := by rw [h]
theorem sWhere_ok : SpecOK Try.prog 15 sWhere := by
  refine specOK_read2 (fn := Try.f15) rfl rfl rfl T_ok (SP := [(35, sLies)]) (consSP sLies_ok noSP) 100 _ ?_
  rintro args h nx K ⟨p, s, k, rfl, hs, hN, hk⟩
  obtain ⟨bS, bA, told⟩ := told_shelf (rest := [.int .i64 k]) hs ⟨trivial, trivial⟩
  refine ⟨_, _, told, by simp [Try.f15], fun o => o = .ret (.tup (whereO s k)), ?_, ?_⟩
  · rintro o rfl
    refine ⟨?_, hk⟩
    show flatL (whereO s k)
    unfold whereO
    split
    · exact ⟨trivial, trivial, trivial, trivial⟩
    · exact ⟨trivial, trivial, trivial, trivial⟩
  intro c hc
  clear hk told hs
  refine ⟨_, s, k, rfl, ⟨2000, 2001, bS, bA, _, _, rfl, by decide, rfl, rfl, fun c hc => rfl, fun i c hi hc => rfl⟩, hN, ?_⟩
  (refine (?_ : br _ _ _); refine br_ne (fun e => ?_) (fun e => ?_))
  · have e : liesI s k ≠ 0 := e
    exact outTup (by unfold whereO; rw [if_neg e])
  · have e : liesI s k = 0 := e
    have hk : isB s k = true := by
      cases q : isB s k with
      | true => rfl
      | false => rw [liesI, if_pos q] at e; cases e
    unfold isB at hk
    simp only [Bool.and_eq_true, decide_eq_true_eq] at hk
    refine W_plan (mkE' hc (consSP sLies_ok noSP)) 3 19 (lineP 0 19 .done) (by rw [hc]; exact mix) (by kernel_rfl) 30 ?_
    have rk : (decide ((0 : Int) ≤ k) && decide (k < (s.N : Int))) = true := by simp only [Bool.and_eq_true, decide_eq_true_eq]; omega
    refine ⟨_, ⟨rfl, rfl⟩, ?_⟩
    refine ⟨_, ⟨rfl, rfl⟩, ?_⟩
    refine ⟨_, ⟨rfl, rfl⟩, ?_⟩
    refine ⟨_, ⟨rfl, rfl⟩, ?_⟩
    refine ⟨_, ⟨rfl, rfl⟩, ?_⟩
    refine ⟨.ptr 2001 k.toNat 0, (show chk _ _ from chk_ok rk (show chk _ _ from chk_ok rfl ⟨rfl, rfl⟩)), ?_⟩
    refine ⟨_, ⟨rfl, rfl⟩, ?_⟩
    refine ⟨.int .i64 (s.l k.toNat), (show chk _ _ from chk_ok (Nat.ble_eq_true_of_le (show k.toNat * 5 + (0 + 2) + 1 ≤ s.N * 5 by omega)) ⟨rfl, rfl⟩), ?_⟩
    refine ⟨_, ⟨rfl, rfl⟩, ?_⟩
    refine ⟨_, ⟨rfl, rfl⟩, ?_⟩
    refine ⟨_, ⟨rfl, rfl⟩, ?_⟩
    refine ⟨_, ⟨rfl, rfl⟩, ?_⟩
    refine ⟨_, ⟨rfl, rfl⟩, ?_⟩
    refine ⟨.ptr 2001 k.toNat 0, (show chk _ _ from chk_ok rk (show chk _ _ from chk_ok rfl ⟨rfl, rfl⟩)), ?_⟩
    refine ⟨_, ⟨rfl, rfl⟩, ?_⟩
    refine ⟨.bool (s.lo k.toNat), (show chk _ _ from chk_ok (Nat.ble_eq_true_of_le (show k.toNat * 5 + (0 + 3) + 1 ≤ s.N * 5 by omega)) ⟨rfl, rfl⟩), ?_⟩
    refine ⟨_, ⟨rfl, rfl⟩, ?_⟩
    refine ⟨_, ⟨rfl, rfl⟩, ?_⟩
    refine ⟨_, ⟨rfl, rfl⟩, ?_⟩
    exact outTup (by unfold whereO; rw [if_pos e])
end Go.Proofs.Ytdjekplkejkgdaa.Sx
