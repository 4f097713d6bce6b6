import Derived.Test.YtdjekplkejkgdaaSxW6
/-
  The walks of this seat's functions: Drop, Where, Len.
-/
namespace Go.Proofs.Ytdjekplkejkgdaa.Sx
open Go Go.Proofs
set_option maxRecDepth 100000
set_option linter.unusedSimpArgs false
set_option linter.unusedVariables false

theorem put5 {g : Nat → Nat → V} {u d l : Nat → Int} {lo he : Nat → Bool} {N : Nat} (hg : ∀ i c, i < N → c < 5 → g i c = gA u d l lo he i c) (a : Nat) (x y z : Int) (p r : Bool) :
    ∀ i c, i < N → c < 5 → putG 5 g a 0 [.int .i64 x, .int .i64 y, .int .i64 z, .bool p, .bool r] i c = gA (updI u a x) (updI d a y) (updI l a z) (updB lo a p) (updB he a r) i c := by
  intro i c hi hc
  unfold putG
  by_cases e : i = a
  · subst e
    rw [Nat.ble_eq_true_of_le (by omega)]
    have e2 : i * 5 + c - (i * 5 + 0) = c := by omega
    simp only [e2]
    match c, hc with
    | 0, _ | 1, _ | 2, _ | 3, _ | 4, _ => simp [gA, updI, updB]
  · have e3 : gA (updI u a x) (updI d a y) (updI l a z) (updB lo a p) (updB he a r) i c = g i c := by
      rw [hg i c hi hc]
      match c, hc with
      | 0, _ | 1, _ | 2, _ | 3, _ | 4, _ => simp [gA, updI, updB, e]
    rw [e3]
    cases hb : Nat.ble (a * 5 + 0) (i * 5 + c) with
    | false => rfl
    | true =>
      have hle : a * 5 + 0 ≤ i * 5 + c := Nat.le_of_ble_eq_true hb
      obtain ⟨m, hm⟩ : ∃ m, i * 5 + c - (a * 5 + 0) = m + 5 := ⟨i * 5 + c - (a * 5 + 0) - 5, by omega⟩
      simp only [hm]
      rfl

/-- A node lies in no list. -/
def clearS (s : Sh) (n : Nat) : Sh := { s with u := updI s.u n 0, d := updI s.d n 0, l := updI s.l n (-1), lo := updB s.lo n false, he := updB s.he n false }
def dropS (s : Sh) (k : Int) : Sh := if liesI s k = 0 then clearS (outS s k.toNat (s.l k.toNat).toNat) k.toNat else s
def preDrop : List V → Sh → Sh → V → Prop := fun rest s s' v => ∃ (k : Int), rest = [.int .i64 k] ∧ 3 ≤ s.N ∧ s.N ≤ 1000 ∧ (liesI s k = 0 → outOK s k.toNat (s.l k.toNat).toNat) ∧ s' = dropS s k ∧ v = .int .i64 (liesI s k)
def SPD : SpT := [(35, sLies), (37, fun args h nx K => ∃ p rest s s' v, args = p :: rest ∧ preOut rest s s' v ∧ sMut h nx K p s s' v)]
theorem spd : ∀ p ∈ SPD, SpecOK Try.prog p.1 p.2 := consSP sLies_ok (consSP out_ok noSP)
theorem drop_ok : SpecOK Try.prog 24 (fun args h nx K => ∃ p rest s s' v, args = p :: rest ∧ preDrop rest s s' v ∧ sMut h nx K p s s' v) := by
  refine specOK_shelf (fn := Try.f24) rfl rfl rfl T_ok (SP := SPD) spd preDrop ?_ ?_
  · rintro rest s s' v ⟨k, rfl, _, _, _, rfl, rfl⟩
    refine ⟨⟨trivial, trivial⟩, trivial, ?_, by simp [Try.f24]⟩
    unfold dropS; split
    · exact outS_N _ _ _
    · rfl
  · rintro rest s s' v bS bA c ⟨k, rfl, h3, h1, hok, rfl, rfl⟩ hc
    have hsn : s.n = (s.N : Int) - 2 := by unfold Sh.n; rw [IntKind.wrap_i64]; omega
    refine vc_sound (mkE' hc spd) 200 _ _ _ 0 ?_
    refine ⟨_, s, k, rfl, ⟨2000, 2001, bS, bA, _, _, rfl, by decide, rfl, rfl, fun c hc => rfl, fun i c hi hc => rfl⟩, by omega, ?_⟩
    (refine (?_ : br _ _ _); refine br_eq (fun e => ?_) (fun e => ?_))
    · have e : liesI s k = 0 := e
      have hk : isB s k = true := by
        cases q : isB s k with
        | true => rfl
        | false => rw [liesI, if_pos q] at e; cases e
      unfold isB at hk
      simp only [Bool.and_eq_true, decide_eq_true_eq] at hk
      obtain ⟨n, rfl⟩ : ∃ n : Nat, k = n := ⟨k.toNat, by omega⟩
      have ho : outOK s n (s.l n).toNat := hok e
      obtain ⟨o1, o2, o3, o4, o5, o6⟩ := ho
      have hN1 := outS_N s n (s.l n).toNat
      refine ⟨_, _, s, outS s n (s.l n).toNat, .tup [], rfl, ⟨n, (s.l n).toNat, rfl, o1, o2, o3, o4, o5, o6, rfl, rfl⟩, 2000, 2001, bS, bA, _, _, rfl, by decide, rfl, rfl, ⟨fun c hc => rfl, fun i c hi hc => rfl⟩, ?_⟩
      have hE5 : (outS s n (s.l n).toNat).N = s.N := hN1
      (refine (?_ : chk _ _); refine chk_ok (show (decide ((0 : Int) ≤ (n : Int)) && decide ((n : Int) < ((outS s n (s.l n).toNat).N : Int))) = true by simp only [Bool.and_eq_true, decide_eq_true_eq]; omega) ?_)
      (refine (?_ : chk _ _); refine chk_ok rfl ?_)
      (refine (?_ : chk _ _); refine chk_ok (Nat.ble_eq_true_of_le (show n * 5 + 0 + 5 ≤ s.N * 5 by omega)) ?_)
      refine ⟨rfl, _, _, rfl, rfl, ?_⟩
      rw [dropS, if_pos e]
      exact ⟨fun c hc => rfl, fun i c hi hc => put5 (N := (outS s n (s.l n).toNat).N) gA_self n 0 0 (-1) false false i c hi hc⟩
    · have e : liesI s k ≠ 0 := e
      refine ⟨rfl, _, _, rfl, rfl, ?_⟩
      rw [dropS, if_neg e]
      exact ⟨fun c hc => rfl, fun i c hi hc => rfl⟩
end Go.Proofs.Ytdjekplkejkgdaa.Sx
