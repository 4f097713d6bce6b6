import Derived.RangeFuncNested
import Derived.RangeFuncBound
import Derived.RangeFuncCalls
import Derived.RangeFuncLeaves
import Derived.Shelf.Abstract
import Derived.Shelf.RegionOpen
import Derived.WalkKit
import Derived.OwnWalkIn
import Derived.TacticsInMore
import Derived.LoopNIn
import Derived.LoopIn
import Derived.Test.YtiihiifcnkfjoaaDoorSxG1
/-
  The walks of this seat's functions: Front.
-/
namespace Go.Proofs.YtiihiifcnkfjoaaDoor.Sx
open Go Go.Proofs
set_option maxRecDepth 100000
set_option linter.unusedSimpArgs false
set_option linter.unusedVariables false

/-- Out of its list, if it lies in one. -/
def offS (s : Sh) (n : Nat) : Sh := if 0 ≤ s.l n then outS s n (s.l n).toNat else s
def mayF (s : Sh) (L k : Int) : Bool := decide (0 ≤ L) && decide (L < 2) && isB s k
def frontS (s : Sh) (L k : Int) : Sh := if mayF s L k = true then inS (offS s k.toNat) L.toNat k.toNat else s
/-- What taking a node out asks. -/
def outOK (s : Sh) (n q : Nat) : Prop := q < 2 ∧ s.l n = q ∧ n < s.N ∧ (0 ≤ s.u n ∧ s.u n < s.N) ∧ (0 ≤ s.d n ∧ s.d n < s.N) ∧
  (s.lo n = true → (out3 s n q).E (3 * q + 1) < (out3 s n q).E (3 * q) → (0 ≤ (out3 s n q).E (3 * q + 2) ∧ (out3 s n q).E (3 * q + 2) < s.N) ∧ (0 ≤ edgeUp (out3 s n q) q ∧ edgeUp (out3 s n q) q < s.N))
def preFront : List V → Sh → Sh → V → Prop := fun rest s s' v => ∃ (L k : Int), rest = [.int .i64 L, .int .i64 k] ∧ 3 ≤ s.N ∧ s.N ≤ 1000 ∧
  (mayF s L k = true → (0 ≤ s.l k.toNat → outOK s k.toNat (s.l k.toNat).toNat) ∧ (0 ≤ (offS s k.toNat).d (gd s L.toNat) ∧ (offS s k.toNat).d (gd s L.toNat) < s.N)) ∧ s' = frontS s L k ∧ v = .int .i64 (if mayF s L k = true then 0 else 1)
theorem offS_N (s : Sh) (n : Nat) : (offS s n).N = s.N := by unfold offS; split; exact outS_N _ _ _; rfl
def SPF : SpT := [(58, sRight), (73, sIs), (63, fun args h nx K => ∃ p rest s s' v, args = p :: rest ∧ preOut rest s s' v ∧ sMut h nx K p s s' v), (77, fun args h nx K => ∃ p rest s s' v, args = p :: rest ∧ preIn rest s s' v ∧ sMut h nx K p s s' v)]
theorem spf : ∀ p ∈ SPF, SpecOK Tryd.prog p.1 p.2 := consSP sRight_ok (consSP sIs_ok (consSP out_ok (consSP in_ok noSP)))
theorem front_ok : SpecOK Tryd.prog 66 (fun args h nx K => ∃ p rest s s' v, args = p :: rest ∧ preFront rest s s' v ∧ sMut h nx K p s s' v) := by
  refine specOK_shelf (fn := Tryd.f66) rfl rfl rfl T_ok (SP := SPF) spf preFront ?_ ?_
  · rintro rest s s' v ⟨L, k, rfl, _, _, _, rfl, rfl⟩
    refine ⟨⟨trivial, trivial, trivial⟩, trivial, ?_, by simp [Tryd.f66]⟩
    unfold frontS; split
    · exact offS_N _ _
    · rfl
  · rintro rest s s' v bS bA c ⟨L, k, rfl, h3, h1, hok, rfl, rfl⟩ hc
    refine vc_sound (mkE' hc spf) 200 _ _ _ 0 ?_
    (refine (?_ : br _ _ _); refine br_not (br_both (fun e => ?_) (fun e => ?_)))
    rotate_left
    · have e : (decide (0 ≤ L) && decide (L < 2)) = false := e
      have hm : mayF s L k = false := by unfold mayF; rw [e]; rfl
      refine ⟨?_, _, _, rfl, rfl, ?_⟩
      · rw [hm]; rfl
      · rw [frontS, if_neg (by rw [hm]; decide)]
        exact ⟨fun c hc => rfl, fun i c hi hc => rfl⟩
    have e : (decide (0 ≤ L) && decide (L < 2)) = true := e
    refine ⟨_, s, k, rfl, ⟨2000, 2001, bS, bA, _, _, rfl, by decide, rfl, rfl, fun c hc => rfl, fun i c hi hc => rfl⟩, ?_⟩
    (refine (?_ : br _ _ _); refine br_not (br_both (fun e2 => ?_) (fun e2 => ?_)))
    rotate_left
    · have e2 : isB s k = false := e2
      have hm : mayF s L k = false := by unfold mayF; rw [e2]; simp
      refine ⟨?_, _, _, rfl, rfl, ?_⟩
      · rw [hm]; rfl
      · rw [frontS, if_neg (by rw [hm]; decide)]
        exact ⟨fun c hc => rfl, fun i c hi hc => rfl⟩
    have e2 : isB s k = true := e2
    have hm : mayF s L k = true := by unfold mayF; rw [e, e2]; rfl
    obtain ⟨ho, hd⟩ := hok hm
    have hsn : s.n = (s.N : Int) - 2 := by unfold Sh.n; rw [IntKind.wrap_i64]; omega
    have e3 := e2
    unfold isB at e3
    simp only [Bool.and_eq_true, decide_eq_true_eq] at e e3
    obtain ⟨n, rfl⟩ : ∃ n : Nat, k = n := ⟨k.toNat, by omega⟩
    obtain ⟨q, rfl⟩ : ∃ q : Nat, L = q := ⟨L.toNat, by omega⟩
    have ho : 0 ≤ s.l n → outOK s n (s.l n).toNat := ho
    have hd : 0 ≤ (offS s n).d (gd s q) ∧ (offS s n).d (gd s q) < s.N := hd
    (refine (?_ : chk _ _); refine chk_ok (show (decide ((0 : Int) ≤ (n : Int)) && decide ((n : Int) < (s.N : Int))) = true by simp only [Bool.and_eq_true, decide_eq_true_eq]; omega) ?_)
    (refine (?_ : chk _ _); refine chk_ok rfl ?_)
    (refine (?_ : chk _ _); refine chk_ok (Nat.ble_eq_true_of_le (show n * 5 + (0 + 2) + 1 ≤ s.N * 5 by omega)) ?_)
    (refine (?_ : br _ _ _); refine br_dec (fun g => ?_) (fun g => ?_))
    · have g : 0 ≤ s.l n := g
      obtain ⟨o1, o2, o3, o4, o5, o6⟩ := ho g
      refine ⟨_, _, s, outS s n (s.l n).toNat, .tup [], rfl, ⟨n, (s.l n).toNat, rfl, o1, o2, o3, o4, o5, o6, rfl, rfl⟩, 2000, 2001, bS, bA, _, _, rfl, by decide, rfl, rfl, ⟨fun c hc => rfl, fun i c hi hc => rfl⟩, ?_⟩
      have hoff : offS s n = outS s n (s.l n).toNat := if_pos g
      have hN1 := outS_N s n (s.l n).toNat
      rw [hoff] at hd
      refine ⟨_, _, outS s n (s.l n).toNat, inS (outS s n (s.l n).toNat) q n, .tup [], rfl, ⟨q, n, rfl, by omega, by omega, by omega, by omega, ?_, rfl, rfl⟩, 2000, 2001, bS, bA, _, _, rfl, by decide, rfl, ?_, ⟨fun c hc => rfl, fun i c hi hc => rfl⟩, ?_⟩
      · have : gd (outS s n (s.l n).toNat) q = gd s q := by unfold gd; rw [hN1]
        rw [this, hN1]
        exact hd
      · rw [hN1]; rfl
      · refine ⟨?_, _, gA (inS (outS s n (s.l n).toNat) q n).u (inS (outS s n (s.l n).toNat) q n).d (inS (outS s n (s.l n).toNat) q n).l (inS (outS s n (s.l n).toNat) q n).lo (inS (outS s n (s.l n).toNat) q n).he, rfl, ?_, ?_⟩
        · rw [hm]; rfl
        · rw [hN1]; rfl
        · rw [frontS, if_pos hm]
          show cells 2001 (inS (offS s n) q n) _ _
          rw [hoff]
          exact ⟨fun c hc => rfl, fun i c hi hc => rfl⟩
    · have g : ¬ 0 ≤ s.l n := g
      have hoff : offS s n = s := if_neg g
      rw [hoff] at hd
      refine ⟨_, _, s, inS s q n, .tup [], rfl, ⟨q, n, rfl, by omega, by omega, by omega, by omega, hd, rfl, rfl⟩, 2000, 2001, bS, bA, _, _, rfl, by decide, rfl, rfl, ⟨fun c hc => rfl, fun i c hi hc => rfl⟩, ?_⟩
      refine ⟨?_, _, _, rfl, rfl, ?_⟩
      · rw [hm]; rfl
      · rw [frontS, if_pos hm]
        show cells 2001 (inS (offS s n) q n) _ _
        rw [hoff]
        exact ⟨fun c hc => rfl, fun i c hi hc => rfl⟩
end Go.Proofs.YtiihiifcnkfjoaaDoor.Sx

/-
  The walks of this seat's functions: Drop, Where, Len.
-/
namespace Go.Proofs.YtiihiifcnkfjoaaDoor.Sx
open Go Go.Proofs
set_option maxRecDepth 100000
set_option linter.unusedSimpArgs false
set_option linter.unusedVariables false

theorem put5 {g : Nat → Nat → V} {u d l : Nat → Int} {lo he : Nat → Bool} {N : Nat} (hg : ∀ i c, i < N → c < 5 → g i c = gA u d l lo he i c) (a : Nat) (x y z : Int) (p r : Bool) :
    ∀ i c, i < N → c < 5 → putG 5 g a 0 [.int .i64 x, .int .i64 y, .int .i64 z, .bool p, .bool r] i c = gA (updI u a x) (updI d a y) (updI l a z) (updB lo a p) (updB he a r) i c := by
  intro i c hi hc
  unfold putG
  by_cases e : i = a
  · subst e
    rw [Nat.ble_eq_true_of_le (by omega)]
    have e2 : i * 5 + c - (i * 5 + 0) = c := by omega
    simp only [e2]
    match c, hc with
    | 0, _ | 1, _ | 2, _ | 3, _ | 4, _ => simp [gA, updI, updB]
  · have e3 : gA (updI u a x) (updI d a y) (updI l a z) (updB lo a p) (updB he a r) i c = g i c := by
      rw [hg i c hi hc]
      match c, hc with
      | 0, _ | 1, _ | 2, _ | 3, _ | 4, _ => simp [gA, updI, updB, e]
    rw [e3]
    cases hb : Nat.ble (a * 5 + 0) (i * 5 + c) with
    | false => rfl
    | true =>
      have hle : a * 5 + 0 ≤ i * 5 + c := Nat.le_of_ble_eq_true hb
      obtain ⟨m, hm⟩ : ∃ m, i * 5 + c - (a * 5 + 0) = m + 5 := ⟨i * 5 + c - (a * 5 + 0) - 5, by omega⟩
      simp only [hm]
      rfl

/-- A node lies in no list. -/
def clearS (s : Sh) (n : Nat) : Sh := { s with u := updI s.u n 0, d := updI s.d n 0, l := updI s.l n (-1), lo := updB s.lo n false, he := updB s.he n false }
def dropS (s : Sh) (k : Int) : Sh := if liesI s k = 0 then clearS (outS s k.toNat (s.l k.toNat).toNat) k.toNat else s
def preDrop : List V → Sh → Sh → V → Prop := fun rest s s' v => ∃ (k : Int), rest = [.int .i64 k] ∧ 3 ≤ s.N ∧ s.N ≤ 1000 ∧ (liesI s k = 0 → outOK s k.toNat (s.l k.toNat).toNat) ∧ s' = dropS s k ∧ v = .int .i64 (liesI s k)
def SPD : SpT := [(62, sLies), (63, fun args h nx K => ∃ p rest s s' v, args = p :: rest ∧ preOut rest s s' v ∧ sMut h nx K p s s' v)]
theorem spd : ∀ p ∈ SPD, SpecOK Tryd.prog p.1 p.2 := consSP sLies_ok (consSP out_ok noSP)
theorem drop_ok : SpecOK Tryd.prog 41 (fun args h nx K => ∃ p rest s s' v, args = p :: rest ∧ preDrop rest s s' v ∧ sMut h nx K p s s' v) := by
  refine specOK_shelf (fn := Tryd.f41) rfl rfl rfl T_ok (SP := SPD) spd preDrop ?_ ?_
  · rintro rest s s' v ⟨k, rfl, _, _, _, rfl, rfl⟩
    refine ⟨⟨trivial, trivial⟩, trivial, ?_, by simp [Tryd.f41]⟩
    unfold dropS; split
    · exact outS_N _ _ _
    · rfl
  · rintro rest s s' v bS bA c ⟨k, rfl, h3, h1, hok, rfl, rfl⟩ hc
    have hsn : s.n = (s.N : Int) - 2 := by unfold Sh.n; rw [IntKind.wrap_i64]; omega
    refine vc_sound (mkE' hc spd) 200 _ _ _ 0 ?_
    refine ⟨_, s, k, rfl, ⟨2000, 2001, bS, bA, _, _, rfl, by decide, rfl, rfl, fun c hc => rfl, fun i c hi hc => rfl⟩, by omega, ?_⟩
    (refine (?_ : br _ _ _); refine br_eq (fun e => ?_) (fun e => ?_))
    · have e : liesI s k = 0 := e
      have hk : isB s k = true := by
        cases q : isB s k with
        | true => rfl
        | false => rw [liesI, if_pos q] at e; cases e
      unfold isB at hk
      simp only [Bool.and_eq_true, decide_eq_true_eq] at hk
      obtain ⟨n, rfl⟩ : ∃ n : Nat, k = n := ⟨k.toNat, by omega⟩
      have ho : outOK s n (s.l n).toNat := hok e
      obtain ⟨o1, o2, o3, o4, o5, o6⟩ := ho
      have hN1 := outS_N s n (s.l n).toNat
      refine ⟨_, _, s, outS s n (s.l n).toNat, .tup [], rfl, ⟨n, (s.l n).toNat, rfl, o1, o2, o3, o4, o5, o6, rfl, rfl⟩, 2000, 2001, bS, bA, _, _, rfl, by decide, rfl, rfl, ⟨fun c hc => rfl, fun i c hi hc => rfl⟩, ?_⟩
      have hE5 : (outS s n (s.l n).toNat).N = s.N := hN1
      (refine (?_ : chk _ _); refine chk_ok (show (decide ((0 : Int) ≤ (n : Int)) && decide ((n : Int) < ((outS s n (s.l n).toNat).N : Int))) = true by simp only [Bool.and_eq_true, decide_eq_true_eq]; omega) ?_)
      (refine (?_ : chk _ _); refine chk_ok rfl ?_)
      (refine (?_ : chk _ _); refine chk_ok (Nat.ble_eq_true_of_le (show n * 5 + 0 + 5 ≤ s.N * 5 by omega)) ?_)
      refine ⟨rfl, _, _, rfl, rfl, ?_⟩
      rw [dropS, if_pos e]
      exact ⟨fun c hc => rfl, fun i c hi hc => put5 (N := (outS s n (s.l n).toNat).N) gA_self n 0 0 (-1) false false i c hi hc⟩
    · have e : liesI s k ≠ 0 := e
      refine ⟨rfl, _, _, rfl, rfl, ?_⟩
      rw [dropS, if_neg e]
      exact ⟨fun c hc => rfl, fun i c hi hc => rfl⟩
end Go.Proofs.YtiihiifcnkfjoaaDoor.Sx

/-
  The walks of this seat's functions: Where, Len.
-/
namespace Go.Proofs.YtiihiifcnkfjoaaDoor.Sx
open Go Go.Proofs
set_option maxRecDepth 100000
set_option linter.unusedSimpArgs false
set_option linter.unusedVariables false

def rightB (L : Int) : Bool := decide (0 ≤ L) && decide (L < 2)
def lenS (s : Sh) (L : Int) : Int := if rightB L = true then s.E (3 * L.toNat) else 0
def sLen : Spec := fun args h nx K => ∃ (p : V) (s : Sh) (L : Int), args = [p, .int .i64 L] ∧ shelfR h p s ∧ K (.ret (.int .i64 (lenS s L))) h nx
theorem sLen_ok : SpecOK Tryd.prog 38 sLen := by
  refine specOK_read2 (fn := Tryd.f38) rfl rfl rfl T_ok (SP := [(58, sRight)]) (consSP sRight_ok noSP) 100 _ ?_
  rintro args h nx K ⟨p, s, L, rfl, hs, hk⟩
  obtain ⟨bS, bA, told⟩ := told_shelf (rest := [.int .i64 L]) hs ⟨trivial, trivial⟩
  refine ⟨_, _, told, by simp [Tryd.f38], fun o => o = .ret (.int .i64 (lenS s L)), ?_, ?_⟩
  · rintro o rfl; exact ⟨trivial, hk⟩
  intro c hc
  clear hk told hs
  by_cases h0 : L = 0
  · subst h0
    exact outI rfl
  · by_cases h1 : L = 1
    · subst h1
      exact outI rfl
    · have hr : rightB L = false := by
        unfold rightB
        by_cases q : 0 ≤ L
        · rw [decide_eq_false (show ¬ L < 2 by omega), Bool.and_false]
        · rw [decide_eq_false q, Bool.false_and]
      (refine (?_ : br _ _ _); refine br_not (br_both (fun e => ?_) (fun e => ?_)))
      · have e : rightB L = true := e
        rw [hr] at e; cases e
      · exact outI (by rw [lenS, if_neg (by rw [hr]; decide)])

def whereO (s : Sh) (k : Int) : List V := if liesI s k = 0 then [.int .i64 (s.l k.toNat), .bool (s.lo k.toNat), .bool true] else [.int .i64 0, .bool false, .bool false]
def sWhere : Spec := fun args h nx K => ∃ (p : V) (s : Sh) (k : Int), args = [p, .int .i64 k] ∧ shelfR h p s ∧ s.n ≤ s.N ∧ K (.ret (.tup (whereO s k))) h nx
theorem outTup {l m : List V} (h : l = m) : Out.ret (.tup l) = Out.ret (.tup m) := by rw [h]
theorem sWhere_ok : SpecOK Tryd.prog 45 sWhere := by
  refine specOK_read2 (fn := Tryd.f45) rfl rfl rfl T_ok (SP := [(62, sLies)]) (consSP sLies_ok noSP) 100 _ ?_
  rintro args h nx K ⟨p, s, k, rfl, hs, hN, hk⟩
  obtain ⟨bS, bA, told⟩ := told_shelf (rest := [.int .i64 k]) hs ⟨trivial, trivial⟩
  refine ⟨_, _, told, by simp [Tryd.f45], fun o => o = .ret (.tup (whereO s k)), ?_, ?_⟩
  · rintro o rfl
    refine ⟨?_, hk⟩
    show flatL (whereO s k)
    unfold whereO
    split
    · exact ⟨trivial, trivial, trivial, trivial⟩
    · exact ⟨trivial, trivial, trivial, trivial⟩
  intro c hc
  clear hk told hs
  refine ⟨_, s, k, rfl, ⟨2000, 2001, bS, bA, _, _, rfl, by decide, rfl, rfl, fun c hc => rfl, fun i c hi hc => rfl⟩, hN, ?_⟩
  (refine (?_ : br _ _ _); refine br_ne (fun e => ?_) (fun e => ?_))
  · have e : liesI s k ≠ 0 := e
    exact outTup (by unfold whereO; rw [if_neg e])
  · have e : liesI s k = 0 := e
    have hk : isB s k = true := by
      cases q : isB s k with
      | true => rfl
      | false => rw [liesI, if_pos q] at e; cases e
    unfold isB at hk
    simp only [Bool.and_eq_true, decide_eq_true_eq] at hk
    refine W_plan (mkE' hc (consSP sLies_ok noSP)) 3 19 (lineP 0 19 .done) (by rw [hc]; exact mix) (by kernel_rfl) 30 ?_
    have rk : (decide ((0 : Int) ≤ k) && decide (k < (s.N : Int))) = true := by simp only [Bool.and_eq_true, decide_eq_true_eq]; omega
    refine ⟨_, ⟨rfl, rfl⟩, ?_⟩
    refine ⟨_, ⟨rfl, rfl⟩, ?_⟩
    refine ⟨_, ⟨rfl, rfl⟩, ?_⟩
    refine ⟨_, ⟨rfl, rfl⟩, ?_⟩
    refine ⟨_, ⟨rfl, rfl⟩, ?_⟩
    refine ⟨.ptr 2001 k.toNat 0, (show chk _ _ from chk_ok rk (show chk _ _ from chk_ok rfl ⟨rfl, rfl⟩)), ?_⟩
    refine ⟨_, ⟨rfl, rfl⟩, ?_⟩
    refine ⟨.int .i64 (s.l k.toNat), (show chk _ _ from chk_ok (Nat.ble_eq_true_of_le (show k.toNat * 5 + (0 + 2) + 1 ≤ s.N * 5 by omega)) ⟨rfl, rfl⟩), ?_⟩
    refine ⟨_, ⟨rfl, rfl⟩, ?_⟩
    refine ⟨_, ⟨rfl, rfl⟩, ?_⟩
    refine ⟨_, ⟨rfl, rfl⟩, ?_⟩
    refine ⟨_, ⟨rfl, rfl⟩, ?_⟩
    refine ⟨_, ⟨rfl, rfl⟩, ?_⟩
    refine ⟨.ptr 2001 k.toNat 0, (show chk _ _ from chk_ok rk (show chk _ _ from chk_ok rfl ⟨rfl, rfl⟩)), ?_⟩
    refine ⟨_, ⟨rfl, rfl⟩, ?_⟩
    refine ⟨.bool (s.lo k.toNat), (show chk _ _ from chk_ok (Nat.ble_eq_true_of_le (show k.toNat * 5 + (0 + 3) + 1 ≤ s.N * 5 by omega)) ⟨rfl, rfl⟩), ?_⟩
    refine ⟨_, ⟨rfl, rfl⟩, ?_⟩
    refine ⟨_, ⟨rfl, rfl⟩, ?_⟩
    refine ⟨_, ⟨rfl, rfl⟩, ?_⟩
    exact outTup (by unfold whereO; rw [if_pos e])
end Go.Proofs.YtiihiifcnkfjoaaDoor.Sx

/-
  A shelf's lists are gone through by a range over a function: the iterator.
-/
namespace Go.Proofs.YtiihiifcnkfjoaaDoor.Sx
open Go Go.Proofs
open Go.RowKit Go.Shelf
set_option maxRecDepth 100000
set_option linter.unusedSimpArgs false
set_option linter.unusedVariables false
attribute [local go_sem] Oper.semAt_some

/-- What the world holds of a shelf that is read: the row of nodes, who is ahead, who is held. -/
structure Lay (W : World) (bS bA : Nat) (s : Sh) : Prop where
  at_ : W.cell? ⟨bS, 0, none⟩ = some (.slice (some ⟨bA, 0, none⟩) s.N s.N)
  up : ∀ i, i < s.N → W.cell? ⟨bA, i * 5, none⟩ = some (.int .i64 (s.u i))
  he : ∀ i, i < s.N → W.cell? ⟨bA, i * 5 + 4, none⟩ = some (.bool (s.he i))

theorem Lay.below {n₀ : Nat} {A B : World} {bS bA : Nat} {s : Sh} (h : Below n₀ A B) (hS : bS < n₀) (hA : bA < n₀) (hl : Lay A bS bA s) : Lay B bS bA s :=
  ⟨(h.cell (p := ⟨bS, 0, none⟩) hS).trans hl.at_, fun i hi => (h.cell (p := ⟨bA, i * 5, none⟩) hA).trans (hl.up i hi), fun i hi => (h.cell (p := ⟨bA, i * 5 + 4, none⟩) hA).trans (hl.he i hi)⟩

theorem guard_in (F : Fence) (n : Nat) (hf : F.fn 49) (hro : F.round = none) (bS bA : Nat) (s : Sh) (q : Nat) (h3 : 3 ≤ s.N) (h1 : s.N ≤ 1000) (hq : q < 2) (w : World) (hL : Lay w bS bA s) :
    CallsIn F n Tryd.prog 49 #[.pointer (some ⟨bS, 0, none⟩), .int .i64 q] w fun e w' => e = .returned (.int .i64 (gd s q : Nat)) ∧ w' = w := by
  have h1' := hL.at_
  have hg : (s.N : Int) - 2 + (q : Int) = ((gd s q : Nat) : Int) := by unfold gd; omega
  refine callsIn_of_wp Tryd.func49 rfl hf ?_ hro
  simp only [Tryd.ntmps49, List.size_toArray, List.length_cons, List.length_nil, Nat.reduceAdd, Nat.reduceSub, Array.replicate_succ, Array.replicate_zero, List.push_toArray, List.append_toArray, List.nil_append, List.cons_append]
  gi_wp2
  go_ret
  exact ⟨rfl, rfl⟩

theorem right_in (F : Fence) (n : Nat) (hf : F.fn 58) (hro : F.round = none) (L : Int) (w : World) :
    CallsIn F n Tryd.prog 58 #[.int .i64 L] w fun e w' => e = .returned (.bool (rightB L)) ∧ w' = w := by
  refine callsIn_of_wp Tryd.func58 rfl hf ?_ hro
  simp only [Tryd.ntmps58, List.size_toArray, List.length_cons, List.length_nil, Nat.reduceAdd, Nat.reduceSub, Array.replicate_succ, Array.replicate_zero, List.push_toArray, List.append_toArray, List.nil_append, List.cons_append]
  gi_wp2
  · go_ret
    refine ⟨congrArg (fun z => Ending.returned (.bool z)) ?_, rfl⟩
    unfold rightB
    rw [decide_eq_true (show (0 : Int) ≤ L by assumption), Bool.true_and]
  · go_ret
    refine ⟨congrArg (fun z => Ending.returned (.bool z)) ?_, rfl⟩
    unfold rightB
    rw [decide_eq_false (show ¬ (0 : Int) ≤ L by omega), Bool.false_and]

theorem rise_in (F : Fence) (n : Nat) (hf : F.fn 59) (hro : F.round = none) (p : Option Addr) (L : Int) (w : World) :
    CallsIn F n Tryd.prog 59 #[.pointer p, .int .i64 L] w fun e w' => e = .returned (.func (.func 72) #[] #[.pointer (some ⟨w.heap.size, 0, none⟩), .pointer (some ⟨w.heap.size + 1, 0, none⟩)]) ∧
      w' = (w.alloc (.cells #[.pointer p] 58)).alloc (.cells #[.int .i64 L] 3) := by
  refine callsIn_of_wp Tryd.func59 rfl hf ?_ hro
  simp only [Tryd.ntmps59, List.size_toArray, List.length_cons, List.length_nil, Nat.reduceAdd, Nat.reduceSub, Array.replicate_succ, Array.replicate_zero, List.push_toArray, List.append_toArray, List.nil_append, List.cons_append]
  gi_wp2
  go_ret
  exact ⟨rfl, rfl⟩

abbrev Nd (s : Sh) := { m : Nat // m < s.N }
/-- From n on, towards the first: these, and then the guard. -/
def Lk (s : Sh) (g : Nat) : Int → List (Nd s) → Prop
  | n, [] => n = g
  | n, x :: xs => n = (x.1 : Int) ∧ x.1 ≠ g ∧ Lk s g (s.u x.1) xs
theorem Lk.unique {s : Sh} {g : Nat} : ∀ {n : Int} {xs ys : List (Nd s)}, Lk s g n xs → Lk s g n ys → xs = ys
  | _, [], [], _, _ => rfl
  | _, [], _ :: _, h, ⟨e, hne, _⟩ => absurd (e.symm.trans h) (fun e => hne (by omega))
  | _, _ :: _, [], ⟨e, hne, _⟩, h => absurd (e.symm.trans h) (fun e => hne (by omega))
  | _, x :: xs, y :: ys, ⟨e, _, h⟩, ⟨e', _, h'⟩ => by
    obtain rfl : x = y := Subtype.ext (by have := e.symm.trans e'; omega)
    rw [Lk.unique h h']
open Classical in
/-- How many are still to come. -/
noncomputable def left (s : Sh) (g : Nat) (v : Value) : Nat :=
  if h : ∃ r : Int × List (Nd s), v = .int .i64 r.1 ∧ Lk s g r.1 r.2 then (Classical.choose h).2.length else 0
theorem left_eq {s : Sh} {g : Nat} {n : Int} {xs : List (Nd s)} (h : Lk s g n xs) : left s g (.int .i64 n) = xs.length := by
  have hex : ∃ r : Int × List (Nd s), Value.int .i64 n = .int .i64 r.1 ∧ Lk s g r.1 r.2 := ⟨(n, xs), rfl, h⟩
  unfold left
  rw [dif_pos hex]
  obtain ⟨e, hl⟩ := Classical.choose_spec hex
  have e' : n = (Classical.choose hex).1 := by simpa using e
  rw [← e'] at hl
  rw [Lk.unique hl h]

/-- What a round that goes on keeps. -/
structure KpB (n₀ B1 : Nat) (A B : World) : Prop where
  below : Below n₀ A B
  box : B.heap[B1]? = A.heap[B1]?
theorem KpB.trans {n₀ B1 : Nat} {A B C : World} (h : KpB n₀ B1 A B) (k : KpB n₀ B1 B C) : KpB n₀ B1 A C := ⟨h.below.trans k.below, k.box.trans h.box⟩
theorem KpB.cell {n₀ B1 : Nat} {A B : World} (h : KpB n₀ B1 A B) : B.cell? ⟨B1, 0, none⟩ = A.cell? ⟨B1, 0, none⟩ := by unfold World.cell?; rw [h.box]

set_option maxHeartbeats 1000000 in
theorem rise1_in (F : Fence) (n : Nat) (hF : F.fn 72) (hF25 : F.fn 49) (hro : F.round = none) (hn : 2 ≤ n) (l B1 B2 n₀ bS bA : Nat) (s : Sh) (q : Nat) (h3 : 3 ≤ s.N) (h1 : s.N ≤ 1000) (hq : q < 2) (xs : List (Nd s)) (J Jx : List (Nd s) → World → Prop)
    (hS : bS < n₀) (hA : bA < n₀)
    (hY : ∀ pre x W, J pre W → pre.length < xs.length → YieldAt F (n - 1) Tryd.prog l #[.int .i64 (x.1 : Int)] W fun e W' =>
      (e = .returned (.bool true) ∧ J (pre ++ [x]) W' ∧ KpB n₀ B1 W W') ∨ (e = .returned (.bool false) ∧ Jx (pre ++ [x]) W'))
    (W : World) (hB1 : W.cell? ⟨B1, 0, none⟩ = some (.pointer (some ⟨bS, 0, none⟩))) (hB2 : W.cell? ⟨B2, 0, none⟩ = some (.int .i64 q)) (hL : Lay W bS bA s) (hX : Lk s (gd s q) (s.u (gd s q)) xs) (h0 : J [] W) :
    CallsIn F n Tryd.prog 72 #[.func (.yield l) #[] #[], .pointer (some ⟨B1, 0, none⟩), .pointer (some ⟨B2, 0, none⟩)] W fun e W' => (∃ v, e = .returned v) ∧
      ((∃ ys, ys = xs ∧ J ys W') ∨ (∃ pre, pre <+: xs ∧ Jx pre W')) := by
  have hat := hL.at_
  have h1n : 1 ≤ n := by omega
  have hg0 : gd s q < s.N := by unfold gd; omega
  have hgu := hL.up (gd s q) hg0
  refine callsIn_of_wp Tryd.func72 rfl hF ?_ hro
  simp only [Tryd.ntmps72, List.size_toArray, List.length_cons, List.length_nil, Nat.reduceAdd, Nat.reduceSub, Array.replicate_succ, Array.replicate_zero, List.push_toArray, List.append_toArray, List.nil_append, List.cons_append]
  gi_wp2_with (gi_at_call 49; refine (guard_in F (n - 1) hF25 hro bS bA s q h3 h1 hq _ hL).mono ?_; rintro e w' ⟨rfl, rfl⟩)
  gi_loopw [5] (fun p wr => ∃ (pre rest : List (Nd s)) (k : Int), p = .int .i64 k ∧ xs = pre ++ rest ∧ Lk s (gd s q) k rest ∧ J pre wr ∧ Lay wr bS bA s ∧ wr.cell? ⟨B1, 0, none⟩ = some (.pointer (some ⟨bS, 0, none⟩)))
    (fun p wr => left s (gd s q) p)
  case atStart =>
    exact ⟨[], xs, _, rfl, rfl, hX, h0, hL, hB1⟩
  case round =>
    clear hat hgu hL hB1 hB2 h0
    obtain ⟨pre, rest, k, rfl, hx, hl, hJs, hL, hB1⟩ := hrel
    have hat := hL.at_
    cases rest with
    | nil =>
      obtain rfl : k = gd s q := hl
      gi_wp2
      go_end0
      exact ⟨⟨_, rfl⟩, .inl ⟨pre, by simp [hx], hJs⟩⟩
    | cons x rest =>
      have hl' := hl
      obtain ⟨rfl, hne, hr⟩ := hl
      obtain ⟨m, hmN⟩ := x
      have hne : m ≠ gd s q := hne
      have hr : Lk s (gd s q) (s.u m) rest := hr
      obtain ⟨fn, tmps, assign, body, hy, hR⟩ := hY pre ⟨m, hmN⟩ wr hJs (by rw [hx]; simp)
      dsimp only at hy
      have hne' : (m : Int) ≠ ((gd s q : Nat) : Int) := by omega
      gi_wp2
      refine hR.mono ?_
      rintro e W3 (⟨rfl, hJ3, hk3⟩ | ⟨rfl, hJx3⟩)
      · have hL3 := hL.below hk3.below hS hA
        have hB3 := hk3.cell.trans hB1
        have hat3 := hL3.at_
        have hu3 := hL3.up m hmN
        clear hat hL hB1
        gi_wp2
        go_roundw
        case rel => exact ⟨pre ++ [⟨m, hmN⟩], rest, _, rfl, by simp [hx], hr, hJ3, hL3, hB3⟩
        case measure => rw [left_eq hr, left_eq hl']; simp
      · gi_wp2
        refine bodyPost_ret (results_none rfl _ _ _) rfl ?_
        exact ⟨⟨_, rfl⟩, .inr ⟨pre ++ [⟨m, hmN⟩], ⟨rest, by simp [hx]⟩, hJx3⟩⟩
theorem rise_stops (F : Fence) (n : Nat) (hF : F.fn 72) (hF25 : F.fn 49) (hro : F.round = none) (hn : 2 ≤ n) (B1 B2 n₀ bS bA : Nat) (s : Sh) (q : Nat) (h3 : 3 ≤ s.N) (h1 : s.N ≤ 1000) (hq : q < 2) (xs : List (Nd s))
    (hS : bS < n₀) (hA : bA < n₀) (w : World) (hb1 : B1 < w.heap.size) (hb2 : B2 < w.heap.size) (hn₀ : n₀ ≤ w.heap.size)
    (hB1 : w.cell? ⟨B1, 0, none⟩ = some (.pointer (some ⟨bS, 0, none⟩))) (hB2 : w.cell? ⟨B2, 0, none⟩ = some (.int .i64 q)) (hL : Lay w bS bA s) (hX : Lk s (gd s q) (s.u (gd s q)) xs) :
    SeqStopsK F n Tryd.prog 72 #[.pointer (some ⟨B1, 0, none⟩), .pointer (some ⟨B2, 0, none⟩)] (fun x : Nd s => #[Value.int .i64 (x.1 : Int)]) (KpB n₀ B1) (fun ys => ys = xs) (fun pre => pre <+: xs) xs.length w := fun l J Jx W hW _ _ hY h0 =>
  rise1_in F n hF hF25 hro hn l B1 B2 n₀ bS bA s q h3 h1 hq xs J Jx hS hA hY W ((hW.cell (p := ⟨B1, 0, none⟩) hb1).trans hB1) ((hW.cell (p := ⟨B2, 0, none⟩) hb2).trans hB2) (hL.below (hW.mono hn₀) hS hA) hX h0
theorem kpB_b {n₀ B1 : Nat} {w : World} (hn₀ : n₀ ≤ w.heap.size) (hb1 : B1 < w.heap.size) : ∀ (W : World) (l : Nat) (o o' : Obj), w.heap.size ≤ l → W.heap[l]? = some o → o.isCells = false → o.isWalk = false → KpB n₀ B1 W (W.putObj l o') :=
  fun W l o o' hl ho h1 h2 => ⟨belowK_b hn₀ W l o o' hl ho h1 h2, by rw [World.putObj_heap_other (by omega)]⟩
end Go.Proofs.YtiihiifcnkfjoaaDoor.Sx

/-
  The walks of this seat's functions: Last.
-/
namespace Go.Proofs.YtiihiifcnkfjoaaDoor.Sx
open Go Go.Proofs
open Go.RowKit Go.Shelf
set_option maxRecDepth 100000
set_option linter.unusedSimpArgs false
set_option linter.unusedVariables false
attribute [local go_sem] Oper.semAt_some

theorem cell_of_box_l {W : World} {B : Nat} {v : Value} {t : TypeId} (h : W.heap[B]? = some (.cells #[v] t (0, 0))) : W.cell? ⟨B, 0, none⟩ = some v ∧ W.frozen? ⟨B, 0, none⟩ = false := by
  constructor <;> simp [World.cell?, World.frozen?, h]
theorem cell_new_l (W : World) (v : Value) (t : TypeId) : (W.alloc (.cells #[v] t)).cell? ⟨W.heap.size, 0, none⟩ = some v ∧ (W.alloc (.cells #[v] t)).frozen? ⟨W.heap.size, 0, none⟩ = false :=
  cell_of_box_l (World.alloc_heap_new W _)
theorem cell_alloc_l {W : World} {a : Addr} {v : Value} (o : Obj) (h : W.cell? a = some v) : (W.alloc o).cell? a = some v := cell_kept h (World.grownBy_alloc W o none) (fun r e => by cases e)
theorem frozen_alloc_l {W : World} {a : Addr} {v : Value} (o : Obj) (h : W.cell? a = some v) (hf : W.frozen? a = false) : (W.alloc o).frozen? a = false := (frozen_kept h (World.grownBy_alloc W o none) (fun r e => by cases e)).trans hf

def lastOf (s : Sh) : List Nat → Int × Bool
  | [] => (0, false)
  | x :: xs => if s.he x = false then ((x : Int), true) else lastOf s xs
theorem lastOf_all {s : Sh} : ∀ {xs : List Nat}, (∀ y ∈ xs, s.he y = true) → lastOf s xs = (0, false)
  | [], _ => rfl
  | x :: xs, h => by
    rw [lastOf, if_neg (by rw [h x (by simp)]; decide)]
    exact lastOf_all fun y hy => h y (by simp [hy])
theorem lastOf_some {s : Sh} : ∀ {pre : List Nat} {x : Nat} {suf : List Nat}, (∀ y ∈ pre, s.he y = true) → s.he x = false → lastOf s (pre ++ x :: suf) = ((x : Int), true)
  | [], x, suf, _, hx => by show lastOf s (x :: suf) = _; rw [lastOf, if_pos hx]
  | y :: pre, x, suf, h, hx => by
    show lastOf s (y :: (pre ++ x :: suf)) = _
    rw [lastOf, if_neg (by rw [h y (by simp)]; decide)]
    exact lastOf_some (fun z hz => h z (by simp [hz])) hx

set_option maxHeartbeats 2000000 in
theorem last_in (F : Fence) (n : Nat) (hF : F.fn 61) (hF32 : F.fn 58) (hF33 : F.fn 59) (hF42 : F.fn 72) (hF25 : F.fn 49) (hro : F.round = none) (hn : 4 ≤ n) (bS bA : Nat) (s : Sh) (q : Nat) (h3 : 3 ≤ s.N) (h1 : s.N ≤ 1000) (hq : q < 2) (xs : List (Nd s))
    (w : World) (hS : bS < w.heap.size) (hA : bA < w.heap.size) (hL : Lay w bS bA s) (hX : Lk s (gd s q) (s.u (gd s q)) xs) :
    CallsIn F n Tryd.prog 61 #[.pointer (some ⟨bS, 0, none⟩), .int .i64 q] w fun e W' =>
      e = .returned (.tuple #[.int .i64 (lastOf s (xs.map (·.1))).1, .bool (lastOf s (xs.map (·.1))).2]) ∧ Below w.heap.size w W' := by
  have h1n : 1 ≤ n := by omega
  have hrq : rightB q = true := by unfold rightB; simp only [Bool.and_eq_true, decide_eq_true_eq]; omega
  refine callsIn_of_wp_marks Tryd.func61 rfl hF ?_ hro
  simp only [Tryd.ntmps61, List.size_toArray, List.length_cons, List.length_nil, Nat.reduceAdd, Nat.reduceSub, Array.replicate_succ, Array.replicate_zero, List.push_toArray, List.append_toArray, List.nil_append, List.cons_append]
  gi_wp2_with (first | (gi_at_call 58; refine (right_in F (n - 1) hF32 hro q _).mono ?_; rw [hrq]; rintro e w' ⟨rfl, rfl⟩) | (gi_at_call 59; refine (rise_in F (n - 1) hF33 hro _ _ _).mono ?_; rintro e w' ⟨rfl, rfl⟩))
  obtain ⟨w0, hw0⟩ : ∃ w0, (w.alloc (.cells #[.pointer (some ⟨bS, 0, none⟩)] 58)).alloc (.cells #[.int .i64 0] 3) = w0 := ⟨_, rfl⟩
  have hz0 : w0.heap.size = w.heap.size + 2 := by rw [← hw0]; simp
  have hB0 : Below w.heap.size w w0 := by rw [← hw0]; exact ((Below.refl _ w).alloc (Nat.le_refl _) _).alloc (by simp) _
  have d2 : w0.cell? ⟨w.heap.size, 0, none⟩ = some (.pointer (some ⟨bS, 0, none⟩)) := by rw [← hw0]; exact cell_alloc_l _ (cell_new_l _ _ _).1
  have d4 : w0.cell? ⟨w.heap.size + 1, 0, none⟩ = some (.int .i64 0) ∧ w0.frozen? ⟨w.heap.size + 1, 0, none⟩ = false := by rw [← hw0]; have := cell_new_l (w.alloc (.cells #[.pointer (some ⟨bS, 0, none⟩)] 58)) (.int .i64 0) 3; rwa [World.size_alloc] at this
  rw [hw0]
  obtain ⟨w1, hw1⟩ : ∃ w1, ((w0.alloc (.cells #[.bool false] 4)).alloc (.cells #[.pointer (some ⟨bS, 0, none⟩)] 58)).alloc (.cells #[.int .i64 q] 3) = w1 := ⟨_, rfl⟩
  have hz1 : w1.heap.size = w.heap.size + 5 := by rw [← hw1]; simp [hz0]
  have hB01 : Below w0.heap.size w0 w1 := by rw [← hw1]; exact (((Below.refl _ w0).alloc (Nat.le_refl _) _).alloc (by simp) _).alloc (by simp; omega) _
  have hB1 : Below w.heap.size w w1 := hB0.trans (hB01.mono hB0.size)
  have e2 : w1.cell? ⟨w.heap.size, 0, none⟩ = some (.pointer (some ⟨bS, 0, none⟩)) := (hB01.cell (p := ⟨w.heap.size, 0, none⟩) (by simp [hz0])).trans d2
  have e4 : w1.cell? ⟨w.heap.size + 1, 0, none⟩ = some (.int .i64 0) ∧ w1.frozen? ⟨w.heap.size + 1, 0, none⟩ = false := by
    rw [← hw1]
    exact ⟨cell_alloc_l _ (cell_alloc_l _ (cell_alloc_l _ d4.1)), frozen_alloc_l _ (cell_alloc_l _ (cell_alloc_l _ d4.1)) (frozen_alloc_l _ (cell_alloc_l _ d4.1) (frozen_alloc_l _ d4.1 d4.2))⟩
  have e5 : w1.cell? ⟨w.heap.size + 1 + 1, 0, none⟩ = some (.bool false) ∧ w1.frozen? ⟨w.heap.size + 1 + 1, 0, none⟩ = false := by
    rw [← hw1]
    have := cell_new_l w0 (.bool false) 4
    rw [hz0] at this
    exact ⟨cell_alloc_l _ (cell_alloc_l _ this.1), frozen_alloc_l _ (cell_alloc_l _ this.1) (frozen_alloc_l _ this.1 this.2)⟩
  have e6 : w1.cell? ⟨w.heap.size + 1 + 1 + 1, 0, none⟩ = some (.pointer (some ⟨bS, 0, none⟩)) := by
    rw [← hw1]
    have := cell_new_l (w0.alloc (.cells #[.bool false] 4)) (.pointer (some ⟨bS, 0, none⟩)) 58
    rw [World.size_alloc, hz0] at this
    exact cell_alloc_l _ this.1
  have e7 : w1.cell? ⟨w.heap.size + 1 + 1 + 1 + 1, 0, none⟩ = some (.int .i64 q) := by
    rw [← hw1]
    have := cell_new_l ((w0.alloc (.cells #[.bool false] 4)).alloc (.cells #[.pointer (some ⟨bS, 0, none⟩)] 58)) (.int .i64 q) 3
    rw [World.size_alloc, World.size_alloc, hz0] at this
    exact this.1
  rw [hw1]
  have hL1 : Lay w1 bS bA s := hL.below hB1 hS hA
  refine wpIn_rangeFunc_ownF hro h1n (gf := 72) (lb := #[.pointer (some ⟨w.heap.size + 1 + 1 + 1, 0, none⟩), .pointer (some ⟨w.heap.size + 1 + 1 + 1 + 1, 0, none⟩)]) rfl hF42 (enters_of Tryd.func72 (by kernel_rfl) rfl)
    (rise_stops F (n - 1) hF42 hF25 hro (by omega) (w.heap.size + 1 + 1 + 1) (w.heap.size + 1 + 1 + 1 + 1) w.heap.size bS bA s q h3 h1 hq xs hS hA w1 (by omega) (by omega) (by omega) e6 e7 hL1 hX)
    (fun h k => KpB.trans h k) (kpB_b (by omega) (by omega)) (Below.refl _ _) (fun _ => rfl)
    (fun pre W => ((∀ y ∈ pre, s.he y.1 = true) ∧ W.cell? ⟨w.heap.size, 0, none⟩ = some (.pointer (some ⟨bS, 0, none⟩)) ∧ (W.cell? ⟨w.heap.size + 1, 0, none⟩ = some (.int .i64 0) ∧ W.frozen? ⟨w.heap.size + 1, 0, none⟩ = false) ∧ (W.cell? ⟨w.heap.size + 1 + 1, 0, none⟩ = some (.bool false) ∧ W.frozen? ⟨w.heap.size + 1 + 1, 0, none⟩ = false)) ∧ Below w.heap.size w W)
    (fun c pre W => (∃ pre' x, c = .ret ∧ pre = pre' ++ [x] ∧ (∀ y ∈ pre', s.he y.1 = true) ∧ s.he x.1 = false ∧ W.cell? ⟨w.heap.size + 1, 0, none⟩ = some (.int .i64 (x.1 : Int)) ∧ W.cell? ⟨w.heap.size + 1 + 1, 0, none⟩ = some (.bool true)) ∧ Below w.heap.size w W)
    (OwnFrom.and (Own.from (fun s A B row hs hg hr => ⟨hs.1, cell_kept hs.2.1 hg hr, ⟨cell_kept hs.2.2.1.1 hg hr, (frozen_kept hs.2.2.1.1 hg hr).trans hs.2.2.1.2⟩, cell_kept hs.2.2.2.1 hg hr, (frozen_kept hs.2.2.2.1 hg hr).trans hs.2.2.2.2⟩) _) (ownFrom_below (Nat.le_refl _) (by omega)))
    (fun c => OwnFrom.and (Own.from (fun s A B row hs hg hr => let ⟨p, x, h1, h2, h3, h4, h5, h6⟩ := hs; ⟨p, x, h1, h2, h3, h4, cell_kept h5 hg hr, cell_kept h6 hg hr⟩) _) (ownFrom_below (Nat.le_refl _) (by omega)))
    ⟨⟨by simp, e2, e4, e5⟩, hB1⟩
    (fun x => { tmps := #[.pointer (some ⟨bS, 0, none⟩), .int .i64 q, .pointer (some ⟨w.heap.size, 0, none⟩), undef, .pointer (some ⟨w.heap.size + 1, 0, none⟩), .pointer (some ⟨w.heap.size + 1 + 1, 0, none⟩), .int .i64 (x.1 : Int), .int .i64 q, .bool true, .bool false, .pointer (some ⟨bS, 0, none⟩), .int .i64 q, .func (.func 72) #[] #[.pointer (some ⟨w.heap.size + 1 + 1 + 1, 0, none⟩), .pointer (some ⟨w.heap.size + 1 + 1 + 1 + 1, 0, none⟩)], .int .i64 (x.1 : Int), undef, undef, undef, undef, undef, undef, undef, undef, undef, undef], defers := [] }) ?assign ?body ?done ?stop
  case assign =>
    intro l x W K hK
    gi_wp2
    exact hK
  case body =>
    rintro l pre ⟨m, hm⟩ W ⟨⟨hall, hc2, ⟨hc4, hf4⟩, hc5, hf5⟩, hB⟩ _
    have hLW := hL.below hB hS hA
    have hat := hLW.at_
    have hhe := hLW.he m hm
    dsimp only
    gi_wp2
    · rename_i hx
      have hx : s.he m = false := by simpa using hx
      have g5 : (W.setCell ⟨w.heap.size + 1, 0, none⟩ (.int .i64 (m : Int))).cell? ⟨w.heap.size + 1 + 1, 0, none⟩ = some (.bool false) := (World.cell?_setCell_other _ _ _ _ (by simp)).trans hc5
      refine ⟨(KeepsOthers.setCell _ _ _).trans (KeepsOthers.setCell _ _ _), ⟨pre, ⟨m, hm⟩, rfl, rfl, hall, hx, ?_, World.cell?_setCell_same' _ _ _ (by rw [g5]; rfl)⟩, (hB.setCell (p := ⟨w.heap.size + 1, 0, none⟩) (by simp) _).setCell (p := ⟨w.heap.size + 1 + 1, 0, none⟩) (by simp; omega) _⟩
      exact (World.cell?_setCell_other _ _ _ _ (by simp)).trans (World.cell?_setCell_same' _ _ _ (by rw [hc4]; rfl))
    · rename_i hx
      have hx : s.he m = true := by simpa using hx
      refine ⟨KeepsOthers.refl _, ⟨Below.refl _ _, rfl⟩, ⟨fun y hy => ?_, hc2, ⟨hc4, hf4⟩, hc5, hf5⟩, hB⟩
      rcases List.mem_append.1 hy with h | h
      · exact hall y h
      · rw [List.mem_singleton.1 h]; exact hx
  case done =>
    rintro D ys W hD rfl ⟨⟨hall, hc2, ⟨hc4, hf4⟩, hc5, hf5⟩, hB⟩ hK
    gi_wp2
    have hK1 := (KeepsOthers.setCell W ⟨w.heap.size + 1, 0, none⟩ (.int .i64 0)).same D _ hK rfl
    have hK2 := (KeepsOthers.setCell (W.setCell ⟨w.heap.size + 1, 0, none⟩ (.int .i64 0)) ⟨w.heap.size + 1 + 1, 0, none⟩ (.bool false)).same D _ hK1 rfl
    refine ⟨by simp, .inl ⟨_, _, rfl, run_takeDeferred hK2, ?_⟩⟩
    have g5 : (W.setCell ⟨w.heap.size + 1, 0, none⟩ (.int .i64 0)).cell? ⟨w.heap.size + 1 + 1, 0, none⟩ = some (.bool false) := (World.cell?_setCell_other _ _ _ _ (by simp)).trans hc5
    have r5 := cell_kept (World.cell?_setCell_same' (W.setCell ⟨w.heap.size + 1, 0, none⟩ (.int .i64 0)) ⟨w.heap.size + 1 + 1, 0, none⟩ (.bool false) (by rw [g5]; rfl)) (grownBy_putObj' _ D (.deferred none)) (fun r e => by cases e; exact ⟨_, hK2, rfl⟩)
    have g4 : ((W.setCell ⟨w.heap.size + 1, 0, none⟩ (.int .i64 0)).setCell ⟨w.heap.size + 1 + 1, 0, none⟩ (.bool false)).cell? ⟨w.heap.size + 1, 0, none⟩ = some (.int .i64 0) := (World.cell?_setCell_other _ _ _ _ (by simp)).trans (World.cell?_setCell_same' _ _ _ (by rw [hc4]; rfl))
    have r4 := cell_kept g4 (grownBy_putObj' _ D (.deferred none)) (fun r e => by cases e; exact ⟨_, hK2, rfl⟩)
    refine ⟨.tuple #[.int .i64 0, .bool false], ?_, ?_, ((hB.setCell (p := ⟨w.heap.size + 1, 0, none⟩) (by simp) _).setCell (p := ⟨w.heap.size + 1 + 1, 0, none⟩) (by simp; omega) _).trans (belowK_b (w := w) (Nat.le_refl _) _ D _ _ (by omega) hK2 rfl rfl)⟩
    · simp [results, Tryd.f61, go_sem, r4, r5]
    · rw [lastOf_all (fun y hy => by obtain ⟨z, hz, rfl⟩ := List.mem_map.1 hy; exact hall z hz)]
  case stop =>
    rintro D c pre W hD hpre ⟨⟨pre', x, rfl, rfl, hall, hx, hc4, hc5⟩, hB⟩ hK
    gi_wp2
    refine ⟨by simp, .inl ⟨_, _, rfl, run_takeDeferred hK, ?_⟩⟩
    have r5 := cell_kept hc5 (grownBy_putObj' _ D (.deferred none)) (fun r e => by cases e; exact ⟨_, hK, rfl⟩)
    have r4 := cell_kept hc4 (grownBy_putObj' _ D (.deferred none)) (fun r e => by cases e; exact ⟨_, hK, rfl⟩)
    refine ⟨.tuple #[.int .i64 (x.1 : Int), .bool true], ?_, ?_, hB.trans (belowK_b (w := w) (Nat.le_refl _) W D _ _ (by omega) hK rfl rfl)⟩
    · simp [results, Tryd.f61, go_sem, r4, r5]
    · obtain ⟨suf, rfl⟩ := hpre
      have e : (pre' ++ [x] ++ suf).map (fun y : Nd s => y.1) = pre'.map (·.1) ++ x.1 :: suf.map (·.1) := by simp
      rw [e, lastOf_some (fun y hy => by obtain ⟨z, hz, rfl⟩ := List.mem_map.1 hy; exact hall z hz) hx]
end Go.Proofs.YtiihiifcnkfjoaaDoor.Sx

