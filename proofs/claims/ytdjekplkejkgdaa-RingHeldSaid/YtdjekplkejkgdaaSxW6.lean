import Derived.Test.YtdjekplkejkgdaaSxW5
/-
  The walks of this seat's functions: Front.
-/
namespace Go.Proofs.Ytdjekplkejkgdaa.Sx
open Go Go.Proofs
set_option maxRecDepth 100000
set_option linter.unusedSimpArgs false
set_option linter.unusedVariables false

/-- Out of its list, if it lies in one. -/
def offS (s : Sh) (n : Nat) : Sh := if 0 ≤ s.l n then outS s n (s.l n).toNat else s
def mayF (s : Sh) (L k : Int) : Bool := decide (0 ≤ L) && decide (L < 2) && isB s k
def frontS (s : Sh) (L k : Int) : Sh := if mayF s L k = true then inS (offS s k.toNat) L.toNat k.toNat else s
/-- What taking a node out asks. -/
def outOK (s : Sh) (n q : Nat) : Prop := q < 2 ∧ s.l n = q ∧ n < s.N ∧ (0 ≤ s.u n ∧ s.u n < s.N) ∧ (0 ≤ s.d n ∧ s.d n < s.N) ∧
  (s.lo n = true → (out3 s n q).E (3 * q + 1) < (out3 s n q).E (3 * q) → (0 ≤ (out3 s n q).E (3 * q + 2) ∧ (out3 s n q).E (3 * q + 2) < s.N) ∧ (0 ≤ edgeUp (out3 s n q) q ∧ edgeUp (out3 s n q) q < s.N))
def preFront : List V → Sh → Sh → V → Prop := fun rest s s' v => ∃ (L k : Int), rest = [.int .i64 L, .int .i64 k] ∧ 3 ≤ s.N ∧ s.N ≤ 1000 ∧
  (mayF s L k = true → (0 ≤ s.l k.toNat → outOK s k.toNat (s.l k.toNat).toNat) ∧ (0 ≤ (offS s k.toNat).d (gd s L.toNat) ∧ (offS s k.toNat).d (gd s L.toNat) < s.N)) ∧ s' = frontS s L k ∧ v = .int .i64 (if mayF s L k = true then 0 else 1)
theorem offS_N (s : Sh) (n : Nat) : (offS s n).N = s.N := by unfold offS; split; exact outS_N _ _ _; rfl
def SPF : SpT := [(32, sRight), (36, sIs), (37, fun args h nx K => ∃ p rest s s' v, args = p :: rest ∧ preOut rest s s' v ∧ sMut h nx K p s s' v), (38, fun args h nx K => ∃ p rest s s' v, args = p :: rest ∧ preIn rest s s' v ∧ sMut h nx K p s s' v)]
theorem spf : ∀ p ∈ SPF, SpecOK Try.prog p.1 p.2 := consSP sRight_ok (consSP sIs_ok (consSP out_ok (consSP in_ok noSP)))
theorem front_ok : SpecOK Try.prog 20 (fun args h nx K => ∃ p rest s s' v, args = p :: rest ∧ preFront rest s s' v ∧ sMut h nx K p s s' v) := by
  refine specOK_shelf (fn := Try.f20) rfl rfl rfl T_ok (SP := SPF) spf preFront ?_ ?_
  · rintro rest s s' v ⟨L, k, rfl, _, _, _, rfl, rfl⟩
    refine ⟨⟨trivial, trivial, trivial⟩, trivial, ?_, by simp [Try.f20]⟩
    unfold frontS; split
    · exact offS_N _ _
    · rfl
  · rintro rest s s' v bS bA c ⟨L, k, rfl, h3, h1, hok, rfl, rfl⟩ hc
    refine vc_sound (mkE' hc spf) 200 _ _ _ 0 ?_
    (refine (?_ : br _ _ _); refine br_not (br_both (fun e => ?_) (fun e => ?_)))
    rotate_left
    · have e : (decide (0 ≤ L) && decide (L < 2)) = false := e
      have hm : mayF s L k = false := by unfold mayF; rw [e]; rfl
      refine ⟨?_, _, _, rfl, rfl, ?_⟩
      · rw [hm]; rfl
      · rw [frontS, if_neg (by rw [hm]; decide)]
        exact ⟨fun c hc => rfl, fun i c hi hc => rfl⟩
    have e : (decide (0 ≤ L) && decide (L < 2)) = true := e
    refine ⟨_, s, k, rfl, ⟨2000, 2001, bS, bA, _, _, rfl, by decide, rfl, rfl, fun c hc => rfl, fun i c hi hc => rfl⟩, ?_⟩
    (refine (?_ : br _ _ _); refine br_not (br_both (fun e2 => ?_) (fun e2 => ?_)))
    rotate_left
    · have e2 : isB s k = false := e2
      have hm : mayF s L k = false := by unfold mayF; rw [e2]; simp
      refine ⟨?_, _, _, rfl, rfl, ?_⟩
      · rw [hm]; rfl
      · rw [frontS, if_neg (by rw [hm]; decide)]
        exact ⟨fun c hc => rfl, fun i c hi hc => rfl⟩
    have e2 : isB s k = true := e2
    have hm : mayF s L k = true := by unfold mayF; rw [e, e2]; rfl
    obtain ⟨ho, hd⟩ := hok hm
    have hsn : s.n = (s.N : Int) - 2 := by unfold Sh.n; rw [IntKind.wrap_i64]; omega
    have e3 := e2
    unfold isB at e3
    simp only [Bool.and_eq_true, decide_eq_true_eq] at e e3
    obtain ⟨n, rfl⟩ : ∃ n : Nat, k = n := ⟨k.toNat, by omega⟩
    obtain ⟨q, rfl⟩ : ∃ q : Nat, L = q := ⟨L.toNat, by omega⟩
    have ho : 0 ≤ s.l n → outOK s n (s.l n).toNat := ho
    have hd : 0 ≤ (offS s n).d (gd s q) ∧ (offS s n).d (gd s q) < s.N := hd
    (refine (?_ : chk _ _); refine chk_ok (show (decide ((0 : Int) ≤ (n : Int)) && decide ((n : Int) < (s.N : Int))) = true by simp only [Bool.and_eq_true, decide_eq_true_eq]; omega) ?_)
    (refine (?_ : chk _ _); refine chk_ok rfl ?_)
    (refine (?_ : chk _ _); refine chk_ok (Nat.ble_eq_true_of_le (show n * 5 + (0 + 2) + 1 ≤ s.N * 5 by omega)) ?_)
    (refine (?_ : br _ _ _); refine br_dec (fun g => ?_) (fun g => ?_))
    · have g : 0 ≤ s.l n := g
      obtain ⟨o1, o2, o3, o4, o5, o6⟩ := ho g
      refine ⟨_, _, s, outS s n (s.l n).toNat, .tup [], rfl, ⟨n, (s.l n).toNat, rfl, o1, o2, o3, o4, o5, o6, rfl, rfl⟩, 2000, 2001, bS, bA, _, _, rfl, by decide, rfl, rfl, ⟨fun c hc => rfl, fun i c hi hc => rfl⟩, ?_⟩
      have hoff : offS s n = outS s n (s.l n).toNat := if_pos g
      have hN1 := outS_N s n (s.l n).toNat
      rw [hoff] at hd
      refine ⟨_, _, outS s n (s.l n).toNat, inS (outS s n (s.l n).toNat) q n, .tup [], rfl, ⟨q, n, rfl, by omega, by omega, by omega, by omega, ?_, rfl, rfl⟩, 2000, 2001, bS, bA, _, _, rfl, by decide, rfl, ?_, ⟨fun c hc => rfl, fun i c hi hc => rfl⟩, ?_⟩
      · have : gd (outS s n (s.l n).toNat) q = gd s q := by unfold gd; rw [hN1]
        rw [this, hN1]
        exact hd
      · rw [hN1]; rfl
      · refine ⟨?_, _, gA (inS (outS s n (s.l n).toNat) q n).u (inS (outS s n (s.l n).toNat) q n).d (inS (outS s n (s.l n).toNat) q n).l (inS (outS s n (s.l n).toNat) q n).lo (inS (outS s n (s.l n).toNat) q n).he, rfl, ?_, ?_⟩
        · rw [hm]; rfl
        · rw [hN1]; rfl
        · rw [frontS, if_pos hm]
          show cells 2001 (inS (offS s n) q n) _ _
          rw [hoff]
          exact ⟨fun c hc => rfl, fun i c hi hc => rfl⟩
    · have g : ¬ 0 ≤ s.l n := g
      have hoff : offS s n = s := if_neg g
      rw [hoff] at hd
      refine ⟨_, _, s, inS s q n, .tup [], rfl, ⟨q, n, rfl, by omega, by omega, by omega, by omega, hd, rfl, rfl⟩, 2000, 2001, bS, bA, _, _, rfl, by decide, rfl, rfl, ⟨fun c hc => rfl, fun i c hi hc => rfl⟩, ?_⟩
      refine ⟨?_, _, _, rfl, rfl, ?_⟩
      · rw [hm]; rfl
      · rw [frontS, if_pos hm]
        show cells 2001 (inS (offS s n) q n) _ _
        rw [hoff]
        exact ⟨fun c hc => rfl, fun i c hi hc => rfl⟩
end Go.Proofs.Ytdjekplkejkgdaa.Sx
