import Derived.Test.YtdjekplkejkgdaaSxW2
/-
  The walks of this seat's functions: a node is held; a node is taken out of its list.
-/
namespace Go.Proofs.Ytdjekplkejkgdaa.Sx
open Go Go.Proofs
set_option maxRecDepth 100000
set_option linter.unusedSimpArgs false
set_option linter.unusedVariables false

def updI (f : Nat → Int) (a : Nat) (v : Int) : Nat → Int := fun i => if i = a then v else f i
def updB (f : Nat → Bool) (a : Nat) (v : Bool) : Nat → Bool := fun i => if i = a then v else f i

section
variable {g : Nat → Nat → V} {u d l : Nat → Int} {lo he : Nat → Bool} {N : Nat} (hg : ∀ i c, i < N → c < 5 → g i c = gA u d l lo he i c)
include hg
theorem put0 (a : Nat) (v : Int) : ∀ i c, i < N → c < 5 → putG 5 g a 0 [.int .i64 v] i c = gA (updI u a v) d l lo he i c := by
  intro i c hi hc
  rw [putG_one (by omega) hc, hg i c hi hc]
  match c, hc with
  | 0, _ => by_cases e : i = a <;> simp [e, gA, updI]
  | 1, _ | 2, _ | 3, _ | 4, _ => simp [gA]
theorem put1 (a : Nat) (v : Int) : ∀ i c, i < N → c < 5 → putG 5 g a 1 [.int .i64 v] i c = gA u (updI d a v) l lo he i c := by
  intro i c hi hc
  rw [putG_one (by omega) hc, hg i c hi hc]
  match c, hc with
  | 1, _ => by_cases e : i = a <;> simp [e, gA, updI]
  | 0, _ | 2, _ | 3, _ | 4, _ => simp [gA]
theorem put2 (a : Nat) (v : Int) : ∀ i c, i < N → c < 5 → putG 5 g a 2 [.int .i64 v] i c = gA u d (updI l a v) lo he i c := by
  intro i c hi hc
  rw [putG_one (by omega) hc, hg i c hi hc]
  match c, hc with
  | 2, _ => by_cases e : i = a <;> simp [e, gA, updI]
  | 0, _ | 1, _ | 3, _ | 4, _ => simp [gA]
theorem put3 (a : Nat) (v : Bool) : ∀ i c, i < N → c < 5 → putG 5 g a 3 [.bool v] i c = gA u d l (updB lo a v) he i c := by
  intro i c hi hc
  rw [putG_one (by omega) hc, hg i c hi hc]
  match c, hc with
  | 3, _ => by_cases e : i = a <;> simp [e, gA, updB]
  | 0, _ | 1, _ | 2, _ | 4, _ => simp [gA]
theorem put4 (a : Nat) (v : Bool) : ∀ i c, i < N → c < 5 → putG 5 g a 4 [.bool v] i c = gA u d l lo (updB he a v) i c := by
  intro i c hi hc
  rw [putG_one (by omega) hc, hg i c hi hc]
  match c, hc with
  | 4, _ => by_cases e : i = a <;> simp [e, gA, updB]
  | 0, _ | 1, _ | 2, _ | 3, _ => simp [gA]
end
theorem gA_self {N : Nat} {u d l : Nat → Int} {lo he : Nat → Bool} : ∀ i c, i < N → c < 5 → gA u d l lo he i c = gA u d l lo he i c := fun _ _ _ _ => rfl

theorem mkE' {c : Cx} (hc : c.P = Try.prog) {fn : Func} {SP : SpT} {R : Out → Hp → Nat → Prop} (hS : ∀ p ∈ SP, SpecOK Try.prog p.1 p.2) : EnvOK ⟨c, fn, T, SP, R⟩ := mkE hc T_ok hS

/-- A node is held, or is not. -/
def holdS (s : Sh) (k : Int) (b : Bool) : Sh := if liesI s k = 0 then { s with he := updB s.he k.toNat b } else s
def preHold : List V → Sh → Sh → V → Prop := fun rest s s' v => ∃ (k : Int) (b : Bool), rest = [.int .i64 k, .bool b] ∧ s.n ≤ s.N ∧ s' = holdS s k b ∧ v = .int .i64 (liesI s k)
theorem hold_ok : SpecOK Try.prog 23 (fun args h nx K => ∃ p rest s s' v, args = p :: rest ∧ preHold rest s s' v ∧ sMut h nx K p s s' v) := by
  refine specOK_shelf (fn := Try.f23) rfl rfl rfl T_ok (SP := [(35, sLies)]) (consSP sLies_ok noSP) preHold ?_ ?_
  · rintro rest s s' v ⟨k, b, rfl, hN, rfl, rfl⟩
    refine ⟨⟨trivial, trivial, trivial⟩, trivial, ?_, by simp [Try.f23]⟩
    unfold holdS; split <;> rfl
  · rintro rest s s' v bS bA c ⟨k, b, rfl, hN, rfl, rfl⟩ hc
    refine vc_sound (mkE' hc (consSP sLies_ok noSP)) 200 _ _ _ 0 ?_
    refine ⟨_, s, k, rfl, ⟨2000, 2001, bS, bA, _, _, rfl, by decide, rfl, rfl, fun c hc => rfl, fun i c hi hc => rfl⟩, hN, ?_⟩
    (refine (?_ : br _ _ _); refine br_eq (fun e => ?_) (fun e => ?_))
    · have e : liesI s k = 0 := e
      have hk : isB s k = true := by
        cases q : isB s k with
        | true => rfl
        | false => rw [liesI, if_pos q] at e; cases e
      have e2 := hk
      unfold isB at e2
      simp only [Bool.and_eq_true, decide_eq_true_eq] at e2
      repeat' ((refine (?_ : chk _ _)); (first
        | refine chk_ok rfl ?_
        | refine chk_ok (by simp only [Bool.and_eq_true, decide_eq_true_eq]; omega) ?_
        | refine chk_ok (Nat.ble_eq_true_of_le (show addI 0 k.toNat * 5 + (0 + 4) + 1 ≤ s.N * 5 by rw [addI_eq]; omega)) ?_))
      have ek : addI 0 k.toNat = k.toNat := by rw [addI_eq, Nat.zero_add]
      refine ⟨rfl, _, _, rfl, rfl, ?_⟩
      rw [holdS, if_pos e]
      refine ⟨fun c hc => rfl, fun i c hi hc => ?_⟩
      have := put4 (N := s.N) (gA_self (u := s.u) (d := s.d) (l := s.l) (lo := s.lo) (he := s.he)) (addI 0 k.toNat) b i c hi hc
      rw [ek] at this
      exact this
    · have e : liesI s k ≠ 0 := e
      refine ⟨rfl, _, _, rfl, rfl, ?_⟩
      rw [holdS, if_neg e]
      exact ⟨fun c hc => rfl, fun i c hi hc => rfl⟩
end Go.Proofs.Ytdjekplkejkgdaa.Sx
