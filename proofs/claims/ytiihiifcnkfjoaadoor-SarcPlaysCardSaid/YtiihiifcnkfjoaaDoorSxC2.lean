import Derived.Test.YtiihiifcnkfjoaaDoorSxVC
import Derived.Test.YtiihiifcnkfjoaaDoorSxCl
/-
  The walks of this seat's laws: SarcPlays.
-/
namespace Go.Proofs.YtiihiifcnkfjoaaDoor.Sx
open Go Go.Proofs
set_option maxRecDepth 100000
set_option linter.unusedSimpArgs false
set_option linter.unusedVariables false

/-- A script's cells: three numbers a step. -/
def gT (z : Nat → Nat → Int) : Nat → Nat → V := fun i j => .int .i64 (z i j)
theorem gT_wk {b : Option Addr} {n : Nat} {z : Nat → Nat → Int} (τ : Nat → Nat) (h' : Hp) : wkE τ h' (.ro b n 3 (gT z)) (.ro b n 3 (gT z)) := ⟨rfl, rfl, rfl, fun i c hi hc => ⟨rfl, rfl⟩⟩
theorem gone_wk (τ : Nat → Nat) (h' : Hp) : wkE τ h' .gone .gone := trivial

def SPL2 : SpT := [(9, sAwake), (10, sPNew), (11, sMay), (12, sQNew), (13, sStep), (15, sPolicy), (14, sQSame), (16, sPRoom), (17, sQRoom)]
theorem spl2 : ∀ p ∈ SPL2, SpecOK Tryd.prog p.1 p.2 := consSP sAwake_ok (consSP sPNew_ok (consSP sMay_ok (consSP sQNew_ok (consSP sStep_ok (consSP sPolicy_ok (consSP sQSame_ok (consSP sPRoom_ok (consSP sQRoom_ok noSP))))))))

theorem plays_walk {c : Cx} (hc : c.P = Tryd.prog) {fr bo : Int} {ub : Option Addr} {len cap : Nat} {z : Nat → Nat → Int} (hlen : len ≤ 9223372036854775807) :
    ∃ cd, Tryd.f3.body = some cd ∧ W ⟨c, Tryd.f3, T, SPL2, fun o _ _ => o = .ret (.bool true)⟩ [.code cd] (argsS [.int .i64 fr, .int .i64 bo, .slice 100 0 len cap] 0) [(1000, eB), (100, .ro ub len 3 (gT z))] 0 := by
  refine ⟨_, rfl, ?_⟩
  have hE := mkE' (fn := Tryd.f3) (R := fun o _ _ => o = .ret (.bool true)) hc spl2
  have hwk : wkH (tau []) [(1000, eB), (100, Ent.ro ub len 3 (gT z))] [(1000, eB), (100, Ent.ro ub len 3 (gT z))] [(1000, eB), (100, Ent.ro ub len 3 (gT z))] := ⟨⟨rfl, rfl, rfl, fun i c hi hc => ⟨rfl, rfl⟩⟩, gT_wk _ _, trivial⟩
  refine W_seq (nx := 0) ?_
  refine W_to (nx := 0) [(0, .int .i64 fr), (1, .int .i64 bo), (2, .slice 100 0 len cap)] [(1000, eB), (100, .ro ub len 3 (gT z))] 30 ?_ ?_
  · refine vc_sound hE 20 _ _ _ 30 ?_
    exact ⟨tau [], rfl, (by repeat' (first | exact rfl | exact trivial | assumption | refine ⟨?_, ?_⟩)), hwk⟩
  refine W_seq (nx := 30) ?_
  refine W_to (nx := 30) [(0, .int .i64 fr), (1, .int .i64 bo), (2, .slice 100 0 len cap)] [(1000, eB), (100, .ro ub len 3 (gT z))] 30 ?_ ?_
  · refine vc_sound hE 60 _ _ _ 30 ?_
    refine ⟨rfl, rfl, ?_⟩
    exact ⟨tau [], rfl, (by repeat' (first | exact rfl | exact trivial | assumption | refine ⟨?_, ?_⟩)), hwk⟩
  refine W_seq (nx := 30) ?_
  cases hm : mayB fr bo with
  | false =>
    refine W_to (nx := 30) [(0, .int .i64 fr), (1, .int .i64 bo), (7, .nilp), (8, .int .i64 1)] [(1000, eB), (100, .ro ub len 3 (gT z))] 30 ?_ ?_
    · refine vc_sound hE 60 _ _ _ 30 ?_
      refine ⟨fr, bo, rfl, fun e => (by rw [hm] at e; cases e), fun e => ?_, fun e => (by rw [hm] at e; cases e)⟩
      exact ⟨tau [], rfl, (by repeat' (first | exact rfl | exact trivial | assumption | refine ⟨?_, ?_⟩)), hwk⟩
    refine vc_sound hE 60 _ _ _ 30 ?_
    refine ⟨fr, bo, rfl, ?_⟩
    (refine (?_ : br _ _ _); refine br_not (br_f hm ?_))
    rfl
  | true =>
  have hm' := hm
  unfold mayB at hm'
  simp only [Bool.and_eq_true, decide_eq_true_eq] at hm'
  obtain ⟨n, rfl⟩ : ∃ n : Nat, fr = n := ⟨fr.toNat, by omega⟩
  obtain ⟨b, rfl⟩ : ∃ n : Nat, bo = n := ⟨bo.toNat, by omega⟩
  have hn1 : 1 ≤ n ∧ n ≤ 64 := by omega
  refine W_piece (nx := 30) (fun σ1 h1 _ => ∃ (bS bA bP bU : Nat) (s : Sh), Inv s (Pol.new n b).m (Pol.new n b).m.n ∧ ∃ τ, wk τ σ1 h1 [(0, .int .i64 n), (1, .int .i64 b), (2, .slice 100 0 len cap), (7, .ptr 8 0 0), (8, .int .i64 0)] (HPW bS bA bP bU s (Pol.new n b) ++ [(100, .ro ub len 3 (gT z))])) ?_ ?_
  · refine vc_sound hE 60 _ _ _ 30 ?_
    refine ⟨n, b, rfl, fun _ => ⟨rfl, rfl, rfl, rfl⟩, fun e => (by rw [hm] at e; cases e), fun e bS bA bP bU s hN hi => ?_⟩
    exact ⟨bS, bA, bP, bU, s, hi, tau [], rfl, (by repeat' (first | exact rfl | exact trivial | assumption | refine ⟨?_, ?_⟩)), HPW.wkIn rfl rfl rfl rfl rfl trivial trivial trivial ⟨gT_wk _ _, trivial⟩⟩
  rintro σ1 h1 _ ⟨bS, bA, bP, bU, s, hi, τ1, hw1⟩
  refine W_weak (nx' := 30) τ1 hw1 ?_
  clear hw1
  have hwR : wkH (tau []) (HPW bS bA bP bU s (Pol.new n b) ++ [(100, .ro ub len 3 (gT z))]) (HPW bS bA bP bU s (Pol.new n b) ++ [(100, .ro ub len 3 (gT z))]) (HPW bS bA bP bU s (Pol.new n b) ++ [(100, .ro ub len 3 (gT z))]) := HPW.wkR ⟨gT_wk _ _, trivial⟩
  refine W_seq (nx := 30) ?_
  refine W_to (nx := 30) [(0, .int .i64 n), (1, .int .i64 b), (2, .slice 100 0 len cap), (7, .ptr 8 0 0), (8, .int .i64 0)] (HPW bS bA bP bU s (Pol.new n b) ++ [(100, .ro ub len 3 (gT z))]) 30 ?_ ?_
  · refine vc_sound hE 60 _ _ _ 30 ?_
    refine ⟨n, b, rfl, ?_⟩
    (refine (?_ : br _ _ _); refine br_not (br_t hm ?_))
    exact ⟨tau [], rfl, (by repeat' (first | exact rfl | exact trivial | assumption | refine ⟨?_, ?_⟩)), hwR⟩
  refine W_seq (nx := 30) ?_
  refine W_to (nx := 30) [(0, .int .i64 n), (1, .int .i64 b), (2, .slice 100 0 len cap), (7, .ptr 8 0 0)] (HPW bS bA bP bU s (Pol.new n b) ++ [(100, .ro ub len 3 (gT z))]) 30 ?_ ?_
  · refine vc_sound hE 60 _ _ _ 30 ?_
    exact ⟨tau [], rfl, (by repeat' (first | exact rfl | exact trivial | assumption | refine ⟨?_, ?_⟩)), hwR⟩
  refine W_seq (nx := 30) ?_
  refine W_piece (nx := 30) (fun σ1 h1 _ => ∃ (bQ bR bH : Nat), ∃ τ, wk τ σ1 h1 [(2, .slice 100 0 len cap), (7, .ptr 8 0 0), (9, .ptr 3000 0 0)] (HB bS bA bP bU bQ bR bH s (Pol.new n b) (Pol.new n b) nilE nilE nilE 0 0 0 (.ro ub len 3 (gT z)) .gone)) ?_ ?_
  · refine vc_sound hE 60 _ _ _ 30 ?_
    refine ⟨n, b, rfl, by omega, rfl, rfl, rfl, rfl, rfl, rfl, fun bQ bR bH => ?_⟩
    exact ⟨bQ, bR, bH, tau [(40, 40), (41, 41), (42, 42)], rfl, (by repeat' (first | exact rfl | exact trivial | assumption | refine ⟨?_, ?_⟩)), HPW.wkIn2 rfl rfl rfl rfl rfl trivial trivial trivial (HQ.wkIn (LQ.nil n b) (.inl rfl) (.inl rfl) rfl rfl rfl rfl rfl rfl trivial trivial trivial trivial trivial ⟨gT_wk _ _, trivial, trivial⟩)⟩
  rintro σ1 h1 _ ⟨bQ, bR, bH, τ1, hw1⟩
  refine W_weak (nx' := 30) τ1 hw1 ?_
  clear hw1 hwR
  have fin : ∀ (s : Sh) (p : Pol) (X0 X1 e0 e1 eU : Ent) (c0 c1 cU : Nat), Inv s p.m p.m.n → LQ e0 e1 eU c0 c1 cU p → (X0 = e0 ∨ X0 = e0.toRo) → (X1 = e1 ∨ X1 = e1.toRo) → rQ (HB bS bA bP bU bQ bR bH s p p X0 X1 eU c0 c1 cU (.ro ub len 3 (gT z)) .gone) p := fun s p X0 X1 e0 e1 eU c0 c1 cU hi hl h0 h1 =>
    ⟨bQ, bR, bH, e0, e1, eU, c0, c1, cU, hl, rfl, rfl, orRo h0, orRo h1, rfl, rfl⟩
  refine W_seq (nx := 30) ?_
  -- the loop
  refine W_piece (nx := 30) (fun σ1 h1 _ => ∃ (s : Sh) (p : Pol) (X0 X1 e0 e1 eU : Ent) (c0 c1 cU : Nat), (Inv s p.m p.m.n ∧ LQ e0 e1 eU c0 c1 cU p ∧ (X0 = e0 ∨ X0 = e0.toRo) ∧ (X1 = e1 ∨ X1 = e1.toRo)) ∧ ∃ τ, wk τ σ1 h1 [(7, .ptr 8 0 0), (9, .ptr 3000 0 0)] (HB bS bA bP bU bQ bR bH s p p X0 X1 eU c0 c1 cU (.ro ub len 3 (gT z)) .gone)) ?_ ?_
  rotate_left
  · rintro σ1 h1 _ ⟨s, p, X0, X1, e0, e1, eU, c0, c1, cU, ⟨hi, hl, h0, h1⟩, τ1, hw1⟩
    refine W_weak (nx' := 70) τ1 hw1 ?_
    clear hw1
    refine vc_sound hE 60 _ _ _ 70 ?_
    refine ⟨p, rfl, ⟨bS, bA, bP, bU, s, hi, rfl, rfl, rfl, rfl, rfl⟩, rfl, rfl, rfl, fun f0 d0 f1 d1 f2 d2 hl0 hl1 hl2 => ?_⟩
    refine ⟨p, f0, f1, f2, d0, d1, d2, rfl, ⟨bQ, bR, bH, e0, e1, eU, c0, c1, cU, hl, rfl, rfl, orRo h0, orRo h1, rfl, rfl⟩, ⟨s, hi⟩, hl0, hl1, hl2, rfl, rfl, rfl, ?_⟩
    rfl
  refine W_seq (nx := 30) ?_
  have hw0 := HB.wk (bS := bS) (bA := bA) (bP := bP) (bU := bU) (bQ := bQ) (bR := bR) (bH := bH) (s := s) (p := Pol.new n b) (LQ.nil n b) (.inl rfl) (.inl rfl) (gT_wk (b := ub) (n := len) (z := z)) gone_wk
  refine W_to (nx := 30) [(2, .slice 100 0 len cap), (7, .ptr 8 0 0), (9, .ptr 3000 0 0), (10, .int .i64 ((0 : Nat) : Int))] (HB bS bA bP bU bQ bR bH s (Pol.new n b) (Pol.new n b) nilE nilE nilE 0 0 0 (.ro ub len 3 (gT z)) .gone) 30 ?_ ?_
  · refine vc_sound hE 60 _ _ _ 30 ?_
    exact ⟨tau [(40, 40), (41, 41), (42, 42)], rfl, (by repeat' (first | exact rfl | exact trivial | assumption | refine ⟨?_, ?_⟩)), hw0⟩
  refine vc_sound hE 2 _ _ _ 30 ?_
  refine W_loop (fun q σ h => ∃ (j : Nat) (s : Sh) (p : Pol) (X0 X1 e0 e1 eU : Ent) (c0 c1 cU : Nat), q = len - j ∧ j ≤ len ∧ j ≤ 150 ∧ p.Fit2 j ∧ Inv s p.m p.m.n ∧ LQ e0 e1 eU c0 c1 cU p ∧ (X0 = e0 ∨ X0 = e0.toRo) ∧ (X1 = e1 ∨ X1 = e1.toRo) ∧ σ = [(2, .slice 100 0 len cap), (7, .ptr 8 0 0), (9, .ptr 3000 0 0), (10, .int .i64 (j : Int))] ∧ h = HB bS bA bP bU bQ bR bH s p p X0 X1 eU c0 c1 cU (.ro ub len 3 (gT z)) .gone)
    len ⟨0, s, Pol.new n b, nilE, nilE, nilE, nilE, nilE, 0, 0, 0, rfl, by omega, by omega, ⟨Nat.zero_le _, Nat.zero_le _, Nat.zero_le _, Nat.zero_le _⟩, hi, LQ.nil n b, .inl rfl, .inl rfl, rfl, rfl⟩ (tau [(40, 40), (41, 41), (42, 42)]) ⟨rfl, (by repeat' (first | exact rfl | exact trivial | assumption | refine ⟨?_, ?_⟩)), hw0⟩ 30 ?_
  clear hi s hw0
  rintro q σ h1 ⟨j, s, p, X0, X1, e0, e1, eU, c0, c1, cU, rfl, hj, hj150, hfit, hi, hl, hx0, hx1, rfl, rfl⟩
  have hwk := HB.wk (bS := bS) (bA := bA) (bP := bP) (bU := bU) (bQ := bQ) (bR := bR) (bH := bH) (s := s) (p := p) hl hx0 hx1 (gT_wk (b := ub) (n := len) (z := z)) gone_wk
  refine W_seq (nx := 30) ?_
  refine W_piece (nx := 30) (fun σ1 h1 _ => (j < len ∧ j < 150) ∧ ∃ τ, wk τ σ1 h1 [(2, .slice 100 0 len cap), (7, .ptr 8 0 0), (9, .ptr 3000 0 0), (10, .int .i64 (j : Int))] (HB bS bA bP bU bQ bR bH s p p X0 X1 eU c0 c1 cU (.ro ub len 3 (gT z)) .gone)) ?_ ?_
  · refine vc_sound hE 60 _ _ _ 30 ?_
    (refine (?_ : br _ _ _); refine br_dec (fun q => ?_) (fun q => ?_))
    · have q1 : (j : Int) < (len : Int) := q
      (refine (?_ : br _ _ _); refine br_dec (fun q => ?_) (fun q => ?_))
      · have q2 : (j : Int) < 150 := q
        exact ⟨⟨by omega, by omega⟩, tau [(40, 40), (41, 41), (42, 42)], rfl, (by repeat' (first | exact rfl | exact trivial | assumption | refine ⟨?_, ?_⟩)), hwk⟩
      · exact ⟨s, p, X0, X1, e0, e1, eU, c0, c1, cU, ⟨hi, hl, hx0, hx1⟩, tau [(40, 40), (41, 41), (42, 42)], rfl, (by repeat' (first | exact rfl | exact trivial | assumption | refine ⟨?_, ?_⟩)), hwk⟩
    · exact ⟨s, p, X0, X1, e0, e1, eU, c0, c1, cU, ⟨hi, hl, hx0, hx1⟩, tau [(40, 40), (41, 41), (42, 42)], rfl, (by repeat' (first | exact rfl | exact trivial | assumption | refine ⟨?_, ?_⟩)), hwk⟩
  rintro σ1 h1 _ ⟨⟨hjl, hj3⟩, τ1, hw1⟩
  refine W_weak (nx' := 90) τ1 hw1 ?_
  clear hw1
  have hwj : IntKind.i64.wrap ((j : Int) + 1) = ((j + 1 : Nat) : Int) := by simp only [IntKind.wrap_i64]; omega
  have hz : addI 0 ((j : Int)).toNat = j := by rw [Int.toNat_natCast, addI_eq, Nat.zero_add]
  have hok : Ok p.m := ⟨s, hi⟩
  refine W_seq (nx := 90) ?_
  refine W_piece (nx := 90) (fun σ1 h1 _ => ∃ (p' : Pol) (s' : Sh) (X0 X1 e0 e1 eU : Ent) (c0 c1 cU : Nat), (p'.Fit2 (j + 1) ∧ Inv s' p'.m p'.m.n ∧ LQ e0 e1 eU c0 c1 cU p' ∧ (X0 = e0 ∨ X0 = e0.toRo) ∧ (X1 = e1 ∨ X1 = e1.toRo)) ∧ ∃ τ, wk τ σ1 h1 [(2, .slice 100 0 len cap), (7, .ptr 8 0 0), (9, .ptr 3000 0 0), (10, .int .i64 (j : Int))] (HB bS bA bP bU bQ bR bH s' p' p' X0 X1 eU c0 c1 cU (.ro ub len 3 (gT z)) .gone)) ?_ ?_
  · refine vc_sound hE 10 _ _ _ 90 ?_
    (refine (?_ : chk _ _); refine chk_ok (show (decide ((0 : Int) ≤ (j : Int)) && decide ((j : Int) < (len : Int))) = true by simp only [Bool.and_eq_true, decide_eq_true_eq]; omega) ?_)
    (refine (?_ : chk _ _); refine chk_ok rfl ?_)
    (refine (?_ : chk _ _); refine chk_ok (Nat.ble_eq_true_of_le (show addI 0 ((j : Int)).toNat * 3 + 0 + 3 ≤ len * 3 by rw [hz]; omega)) ?_)
    refine ⟨p, p, _, _, _, bS, bA, bP, bU, bQ, bR, bH, s, X0, X1, e0, e1, eU, c0, c1, cU, _, .gone, rfl, rfl, hi, hfit.fit (by omega), hl, hx0, hx1, hok, hfit.fit (by omega), rfl, fun ha bx s' EU E0 E1 EN t0 t1 tU u0 u1 uU hN' hi' n0 n1 nU => ?_, fun hna bx => ?_⟩
    · rw [stepB_self]
      have hn' := actP_n p
      obtain ⟨Y0, Y1, gU, g0, g1, hl', y0, y1, hnd, hwk'⟩ := step_wk (bS := bS) (bA := bA) (bP := bP) (bU := bU) (bQ := bQ) (bR := bR) (bH := bH) (bx := .blk bx 1 3 (gOf 3 [.int .i64 _, .int .i64 _, .int .i64 _]) 33) (gT_wk (b := ub) (n := len) (z := z)) gone_wk hl hx0 hx1 hN' (actP_n p _ _ _) n0 n1 nU
      have hfit' := actP_fit hfit (z (addI 0 ((j : Int)).toNat + 0 / 3) (0 % 3)) (z (addI 0 ((j : Int)).toNat + (0 + 1) / 3) ((0 + 1) % 3)) (z (addI 0 ((j : Int)).toNat + (0 + 1 + 1) / 3) ((0 + 1 + 1) % 3))
      refine W_weak (nx := 91) (σ' := [(2, .slice 100 0 len cap), (7, .ptr 8 0 0), (9, .ptr 3000 0 0), (10, .int .i64 (j : Int)), (54, .bool true)]) (h' := HB bS bA bP bU bQ bR bH s' (p.actP (z (addI 0 ((j : Int)).toNat + 0 / 3) (0 % 3)) (z (addI 0 ((j : Int)).toNat + (0 + 1) / 3) ((0 + 1) % 3)) (z (addI 0 ((j : Int)).toNat + (0 + 1 + 1) / 3) ((0 + 1 + 1) % 3))) (p.actP (z (addI 0 ((j : Int)).toNat + 0 / 3) (0 % 3)) (z (addI 0 ((j : Int)).toNat + (0 + 1) / 3) ((0 + 1) % 3)) (z (addI 0 ((j : Int)).toNat + (0 + 1 + 1) / 3) ((0 + 1 + 1) % 3))) Y0 Y1 gU u0 u1 uU (.ro ub len 3 (gT z)) .gone) (nx' := 70) (tau [(40, t0), (41, t1), (42, tU)]) ⟨hnd, (by repeat' (first | exact rfl | exact trivial | assumption | refine ⟨?_, ?_⟩)), hwk'⟩ ?_
      generalize p.actP _ _ _ = p' at hi' hl' hfit' ⊢
      refine vc_sound hE 60 _ _ _ 70 ?_
      refine ⟨p', rfl, ⟨bS, bA, bP, bU, s', hi', rfl, rfl, rfl, rfl, rfl⟩, rfl, rfl, rfl, fun f0 d0 f1 d1 f2 d2 hl0 hl1 hl2 => ?_⟩
      refine ⟨p', f0, f1, f2, d0, d1, d2, rfl, ⟨bQ, bR, bH, g0, g1, gU, u0, u1, uU, hl', rfl, rfl, orRo y0, orRo y1, rfl, rfl⟩, ⟨s', hi'⟩, hl0, hl1, hl2, rfl, rfl, rfl, ?_⟩
      refine ⟨p', rfl, ⟨bS, bA, bP, bU, s', hi', rfl, rfl, rfl, rfl, rfl⟩, ?_⟩
      refine ⟨p', rfl, ⟨bQ, bR, bH, g0, g1, gU, u0, u1, uU, hl', rfl, rfl, orRo y0, orRo y1, rfl, rfl⟩, ⟨s', hi'⟩, ?_⟩
      (refine (?_ : br _ _ _); refine br_neF rfl ?_)
      exact ⟨p', s', Y0, Y1, g0, g1, gU, u0, u1, uU, ⟨hfit', hi', hl', y0, y1⟩, tau [(40, 40), (41, 41), (42, 42)], rfl, (by repeat' (first | exact rfl | exact trivial | assumption | refine ⟨?_, ?_⟩)), HPW.wkIn2 rfl rfl rfl rfl rfl trivial trivial trivial (HQ.wkIn hl' y0 y1 rfl rfl rfl rfl rfl rfl (show Y0.here from live_or hl'.l0 y0) (show Y1.here from live_or hl'.l1 y1) (show gU.here from lst_live hl'.lU) trivial trivial ⟨gT_wk _ _, trivial, trivial⟩)⟩
    · refine W_weak (nx := 91) (σ' := [(2, .slice 100 0 len cap), (7, .ptr 8 0 0), (9, .ptr 3000 0 0), (10, .int .i64 (j : Int)), (54, .bool true)]) (h' := HB bS bA bP bU bQ bR bH s p p X0 X1 eU c0 c1 cU (.ro ub len 3 (gT z)) .gone) (nx' := 70) (tau [(40, 40), (41, 41), (42, 42)]) ⟨rfl, (by repeat' (first | exact rfl | exact trivial | assumption | refine ⟨?_, ?_⟩)), HPW.wkIn2 rfl rfl rfl rfl rfl trivial trivial trivial (HQ.wkIn hl hx0 hx1 rfl rfl rfl rfl rfl rfl (show X0.here from live_or hl.l0 hx0) (show X1.here from live_or hl.l1 hx1) (show eU.here from lst_live hl.lU) trivial trivial ⟨gT_wk _ _, trivial, trivial⟩)⟩ ?_
      have hfit' := hfit.mono (Nat.le_succ j)
      refine vc_sound hE 60 _ _ _ 70 ?_
      refine ⟨p, rfl, ⟨bS, bA, bP, bU, s, hi, rfl, rfl, rfl, rfl, rfl⟩, rfl, rfl, rfl, fun f0 d0 f1 d1 f2 d2 hl0 hl1 hl2 => ?_⟩
      refine ⟨p, f0, f1, f2, d0, d1, d2, rfl, ⟨bQ, bR, bH, e0, e1, eU, c0, c1, cU, hl, rfl, rfl, orRo hx0, orRo hx1, rfl, rfl⟩, ⟨s, hi⟩, hl0, hl1, hl2, rfl, rfl, rfl, ?_⟩
      refine ⟨p, rfl, ⟨bS, bA, bP, bU, s, hi, rfl, rfl, rfl, rfl, rfl⟩, ?_⟩
      refine ⟨p, rfl, ⟨bQ, bR, bH, e0, e1, eU, c0, c1, cU, hl, rfl, rfl, orRo hx0, orRo hx1, rfl, rfl⟩, ⟨s, hi⟩, ?_⟩
      (refine (?_ : br _ _ _); refine br_neF rfl ?_)
      exact ⟨p, s, X0, X1, e0, e1, eU, c0, c1, cU, ⟨hfit', hi, hl, hx0, hx1⟩, tau [(40, 40), (41, 41), (42, 42)], rfl, (by repeat' (first | exact rfl | exact trivial | assumption | refine ⟨?_, ?_⟩)), HPW.wkIn2 rfl rfl rfl rfl rfl trivial trivial trivial (HQ.wkIn hl hx0 hx1 rfl rfl rfl rfl rfl rfl (show X0.here from live_or hl.l0 hx0) (show X1.here from live_or hl.l1 hx1) (show eU.here from lst_live hl.lU) trivial trivial ⟨gT_wk _ _, trivial, trivial⟩)⟩
  rintro σ1 h1 _ ⟨p', s', Y0, Y1, g0, g1, gU, u0, u1, uU, ⟨hfit', hi', hl', y0, y1⟩, τ1, hw1⟩
  refine W_weak (nx' := 90) τ1 hw1 ?_
  clear hw1
  refine vc_sound hE 60 _ _ _ 90 ?_
  exact ⟨len - (j + 1), _, _, by omega, ⟨j + 1, s', p', Y0, Y1, g0, g1, gU, u0, u1, uU, rfl, by omega, by omega, hfit', hi', hl', y0, y1, rfl, rfl⟩, tau [(40, 40), (41, 41), (42, 42)], rfl, ⟨⟨⟨rfl, trivial⟩, rfl, rfl, rfl⟩, ⟨⟨rfl, trivial⟩, rfl, rfl⟩, ⟨⟨rfl, trivial⟩, rfl, rfl⟩, ⟨rfl, hwj⟩, trivial⟩, HB.wk hl' y0 y1 gT_wk gone_wk⟩

def sPlays : Spec := fun args h nx K => ∃ (fr bo : Int) (ub : Option Addr) (len cap : Nat) (z : Nat → Nat → Int), args = [.int .i64 fr, .int .i64 bo, .slice 100 0 len cap] ∧ h = [(1000, eB), (100, .ro ub len 3 (gT z))] ∧ len ≤ 9223372036854775807 ∧ K (.ret (.bool true)) h nx
theorem sPlays_ok : SpecOK Tryd.prog 3 sPlays := by
  refine specOK_read (fn := Tryd.f3) rfl rfl rfl T_ok (SP := SPL2) spl2 0 _ ?_
  rintro args h nx K ⟨fr, bo, ub, len, cap, z, rfl, rfl, hlen, hk⟩
  refine ⟨[(1000, eB), (100, .ro ub len 3 (gT z))], ⟨fun i c hi hc => trivial, fun i c hi hc => trivial, trivial⟩, ⟨⟨rfl, _, _, _, _, rfl⟩, ⟨rfl, _, _, _, _, rfl⟩, trivial⟩, ⟨trivial, trivial, rfl, trivial⟩, by simp [Tryd.f3], fun o => o = .ret (.bool true), ?_, ?_⟩
  · rintro o rfl
    exact ⟨trivial, hk⟩
  · intro c hc
    obtain ⟨cd, h1, h2⟩ := plays_walk hc (fr := fr) (bo := bo) (ub := ub) (cap := cap) (z := z) hlen
    cases h1
    exact h2
end Go.Proofs.YtiihiifcnkfjoaaDoor.Sx
