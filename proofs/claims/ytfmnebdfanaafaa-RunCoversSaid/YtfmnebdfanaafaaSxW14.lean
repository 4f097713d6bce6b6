import Derived.Test.YtfmnebdfanaafaaSxW8
/-
  The walks of this seat's functions, fourteenth part: the document's Cover.
-/
namespace Go.Proofs.Ytfmnebdfanaafaa.Sx
open Go Go.Proofs
set_option maxRecDepth 100000
set_option linter.unusedSimpArgs false
set_option linter.unusedVariables false
set_option linter.unnecessarySimpa false

/-- No run so far goes on with block A. -/
def clo (most : Int) (H : Int → Bool) (A : Nat) : Prop := A < 256 → ∀ a c, (cov most H A).getLast? = some (a, c) → a + c = A → c < most → H A = false
theorem cov_run {most : Int} {H : Int → Bool} {A : Nat} (cl : clo most H A) (hA : A < 256) : ∀ {q : Nat}, (∀ j : Nat, j < q → H ((A + j : Nat) : Int) = true) → (q : Int) ≤ most → 0 < q → cov most H (A + q) = cov most H A ++ [((A : Int), (q : Int))]
  | 0, _, _, h => absurd h (by omega)
  | 1, hq, hm, _ => by
    have h0 : H (A : Int) = true := by simpa using hq 0 (by omega)
    show cov most H (A + 1) = _
    rw [cov, h0]
    unfold covStep
    simp only
    split
    · rename_i a c e
      rw [if_neg (fun w => by have := cl hA a c e w.1 w.2; rw [h0] at this; cases this)]
      rfl
    · rfl
  | q + 2, hq, hm, _ => by
    have ih := cov_run cl hA (q := q + 1) (fun j hj => hq j (by omega)) (by omega) (by omega)
    have h0 : H ((A + (q + 1) : Nat) : Int) = true := hq (q + 1) (by omega)
    show cov most H (A + (q + 1) + 1) = _
    rw [cov, h0, ih]
    unfold covStep
    simp only [List.getLast?_append, List.getLast?_singleton, Option.some_or]
    rw [if_pos ⟨by omega, by omega⟩, List.dropLast_concat]
    congr 3
theorem rows_app {p : Nat} {F F' : Nat → Int} {x y : Int} : rowsL (p + 1) F F' ++ [(x, y)] = rowsL (p + 2) (fun i => if i < p + 1 then F i else if i = p + 1 then x else 0) (fun i => if i < p + 1 then F' i else if i = p + 1 then y else 0) := by
  rw [rowsL_succ (p + 1)]
  congr 1
  · exact rowsL_congr fun j hj => ⟨by rw [if_pos hj], by rw [if_pos hj]⟩
  · simp

def SPI : SpT := [(18, sIn)]
theorem spi : ∀ p ∈ SPI, SpecOK Try.prog p.1 p.2 := consSP sRefIn_ok noSP

set_option maxHeartbeats 4000000 in
theorem sRefCover_ok : SpecOK Try.prog 11 sCover := by
  refine specOK_new (fn := Try.f11) rfl rfl rfl T_ok (SP := SPI) spi 300 _ ?_
  rintro args h nx K ⟨v, n, f, most, rfl, hv, hn, im, hbad, hgood⟩
  obtain ⟨b, N, i, c, F, hN, hF, told⟩ := told_one (rest := [.int .i64 most]) hv ⟨trivial, trivial⟩
  refine ⟨_, _, told, by simp [Try.f11], fun o h1 => (covBad most n f = true ∧ o = .ret (.tup [.nils, .int .i64 1])) ∨ (covBad most n f = false ∧ ((cov most (hasB n f) 256 = [] ∧ o = .ret (.tup [.nils, .int .i64 0])) ∨ ∃ (t p bb cap : Nat) (F F' : Nat → Int), cov most (hasB n f) 256 = rowsL (p + 1) F F' ∧ p + 1 ≤ cap ∧ fd t h1 = .blk bb cap 2 (g2 .i64 .i64 F F') 27 ∧ o = .ret (.tup [.slice t 0 (p + 1) cap, .int .i64 0]))), ?_, ?_⟩
  · rintro o h1 (⟨e, rfl⟩ | ⟨e, (⟨e2, rfl⟩ | ⟨t, p, bb, cap, F, F', e2, e3, e4, rfl⟩)⟩)
    · exact .inl ⟨by repeat constructor, hbad e⟩
    · exact .inl ⟨by repeat constructor, (hgood e).1 e2⟩
    · obtain ⟨q1, q2⟩ := (hgood e).2 p bb cap F F' e2 e3
      refine .inr ⟨_, t, bb, cap, 2, _, 27, .tup [.slice nx 0 (p + 1) cap, .int .i64 0], rfl, e4, fun i c _ hc => ?_, ⟨⟨⟨rfl, by simp [live, fd]⟩, rfl, rfl, rfl⟩, ⟨rfl, rfl⟩, trivial⟩, q1, q2⟩
      match c, hc with
      | 0, _ | 1, _ => trivial
  intro cx hcx
  clear hbad hgood told hv
  unfold i64 at im
  (refine (?_ : br _ _ _); refine br_dec (fun a1 => ?_) (fun a1 => ?_))
  · have a1 : most < 1 := a1
    exact .inl ⟨by simp [covBad, a1], rfl⟩
  have a1 : ¬ most < 1 := a1
  (refine (?_ : br _ _ _); refine br_dec (fun a2 => ?_) (fun a2 => ?_))
  · have a2 : 8 < most := a2
    exact .inl ⟨by simp [covBad, a2], rfl⟩
  have a2 : ¬ 8 < most := a2
  refine W_loop (fun r σ h => ∃ k : Nat, r = n - k ∧ k ≤ n ∧ (∀ j, j < k → isB (f j) = true) ∧ σ = [(0, .slice 2000 i n c), (1, .int .i64 most), (6, .int .i64 k)] ∧ h = [(2000, .ro b N 1 (g1 .i64 F))]) n ⟨0, rfl, by omega, fun j hj => by omega, rfl, rfl⟩ (tau []) ⟨rfl, ?_, ?_⟩ 30 ?_
  · repeat' (first | exact rfl | exact trivial | refine ⟨?_, ?_⟩)
  · exact ⟨⟨rfl, rfl, rfl, fun i c hi hc => ⟨rfl, rfl⟩⟩, trivial⟩
  rintro r σ h1 ⟨k, rfl, hk, hall, rfl, rfl⟩
  refine vc_sound (mkE hcx T_ok spi) 300 _ _ _ 30 ?_
  (refine (?_ : br _ _ _); refine br_dec (fun hlt => ?_) (fun hlt => ?_))
  · have hlt : (k : Int) < (n : Int) := hlt
    have hkn : k < n := by omega
    have hw : IntKind.i64.wrap ((k : Int) + 1) = ((k + 1 : Nat) : Int) := by simp [IntKind.wrap_i64]; omega
    have q1 : f k = F (addI i k) := by rw [hF k hkn, addI_eq]
    (refine (?_ : chk _ _); refine chk_ok (by simp; omega) ?_)
    (refine (?_ : chk _ _); refine chk_ok rfl ?_)
    (refine (?_ : chk _ _); refine chk_ok (Nat.ble_eq_true_of_le (show addI i k * 1 + 0 + 1 ≤ N * 1 by rw [addI_eq]; omega)) ?_)
    (refine (?_ : br _ _ _); refine br_dec (fun e1 => ?_) (fun e1 => ?_))
    · have e1 : F (addI i k) < 0 := e1
      have : offB n f = true := offB_iff.2 ⟨k, hkn, by rw [q1]; unfold isB; simp; omega⟩
      exact .inl ⟨by simp [covBad, this], rfl⟩
    have e1 : ¬ F (addI i k) < 0 := e1
    (refine (?_ : chk _ _); refine chk_ok (by simp; omega) ?_)
    (refine (?_ : chk _ _); refine chk_ok rfl ?_)
    (refine (?_ : chk _ _); refine chk_ok (Nat.ble_eq_true_of_le (show addI i k * 1 + 0 + 1 ≤ N * 1 by rw [addI_eq]; omega)) ?_)
    (refine (?_ : br _ _ _); refine br_dec (fun e2 => ?_) (fun e2 => ?_))
    · have e2 : 255 < F (addI i k) := e2
      have : offB n f = true := offB_iff.2 ⟨k, hkn, by rw [q1]; unfold isB; simp; omega⟩
      exact .inl ⟨by simp [covBad, this], rfl⟩
    have e2 : ¬ 255 < F (addI i k) := e2
    refine ⟨n - (k + 1), _, _, by omega, ⟨k + 1, rfl, by omega, fun j hj => ?_, rfl, rfl⟩, tau [], rfl, ?_, ?_⟩
    · by_cases hjk : j = k
      · subst hjk; rw [q1]; unfold isB; simp; omega
      · exact hall j (by omega)
    · repeat' (first | exact rfl | exact trivial | exact hw | refine ⟨?_, ?_⟩)
    · exact ⟨⟨rfl, rfl, rfl, fun i c hi hc => ⟨rfl, rfl⟩⟩, trivial⟩
  have hlt : ¬ (k : Int) < (n : Int) := hlt
  obtain rfl : k = n := by omega
  have hoff : offB k f = false := by
    cases e : offB k f with
    | false => rfl
    | true =>
      obtain ⟨j, hj, e1⟩ := offB_iff.1 e
      rw [hall j hj] at e1; cases e1
  have hcb : covBad most k f = false := by simp [covBad, hoff]; omega
  refine W_loop (fun r σ h => ∃ A : Nat, r = 256 - A ∧ A ≤ 256 ∧ clo most (hasB k f) A ∧
    ((cov most (hasB k f) A = [] ∧ σ = [(0, .slice 2000 i k c), (1, .int .i64 most), (7, .nils), (8, .int .i64 A)] ∧ h = [(2000, .ro b N 1 (g1 .i64 F))]) ∨
     ∃ (p bb cap : Nat) (F0 F1 : Nat → Int), cov most (hasB k f) A = rowsL (p + 1) F0 F1 ∧ p + 1 ≤ cap ∧ σ = [(0, .slice 2000 i k c), (1, .int .i64 most), (7, .slice 9 0 (p + 1) cap), (8, .int .i64 A)] ∧ h = [(9, .blk bb cap 2 (g2 .i64 .i64 F0 F1) 27), (2000, .ro b N 1 (g1 .i64 F))])) 256 ⟨0, rfl, by omega, fun _ a c e => by simp [cov] at e, .inl ⟨rfl, rfl, rfl⟩⟩ (tau []) ⟨rfl, ?_, ?_⟩ 60 ?_
  · repeat' (first | exact rfl | exact trivial | refine ⟨?_, ?_⟩)
  · exact ⟨⟨rfl, rfl, rfl, fun i c hi hc => ⟨rfl, rfl⟩⟩, trivial⟩
  obtain ⟨n, hnk⟩ : ∃ n, n = k := ⟨k, rfl⟩
  subst hnk
  rintro r2 σ2 h2 ⟨A, rfl, hA2, cl, (⟨e, rfl, rfl⟩ | ⟨p, bb, cap, F0, F1, e, hcap, rfl, rfl⟩)⟩
  · refine vc_sound (mkE hcx T_ok spi) 300 _ _ _ 60 ?_
    (refine (?_ : br _ _ _); refine br_dec (fun hlt => ?_) (fun hlt => ?_))
    rotate_left
    · have hlt : ¬ (A : Int) < 256 := hlt
      obtain rfl : A = 256 := by omega
      exact .inr ⟨hcb, .inl ⟨e, rfl⟩⟩
    have hlt : (A : Int) < 256 := hlt
    refine W_loop (fun r σ h => ∃ q : Nat, r = 8 - q ∧ (q : Int) ≤ most ∧ A + q ≤ 256 ∧ (∀ j : Nat, j < q → hasB n f ((A + j : Nat) : Int) = true) ∧ σ = [(0, .slice 2000 i n c), (1, .int .i64 most), (7, .nils), (8, .int .i64 A), (9, .int .i64 q)] ∧ h = [(2000, .ro b N 1 (g1 .i64 F))]) 8 ⟨0, rfl, by omega, by omega, fun j hj => by omega, rfl, rfl⟩ (tau []) ⟨rfl, ?_, ?_⟩ 90 ?_
    · repeat' (first | exact rfl | exact trivial | refine ⟨?_, ?_⟩)
    · exact ⟨⟨rfl, rfl, rfl, fun i c hi hc => ⟨rfl, rfl⟩⟩, trivial⟩
    rintro r3 σ3 h3 ⟨q, rfl, hqm, hq256, hq, rfl, rfl⟩
    refine vc_sound (mkE hcx T_ok spi) 300 _ _ _ 90 ?_
    have hA : A < 256 := by omega
    have ws : IntKind.i64.wrap ((A : Int) + (q : Int)) = ((A + q : Nat) : Int) := by simp [IntKind.wrap_i64]; omega
    (refine (?_ : br _ _ _); refine br_dec (fun y1 => ?_) (fun y1 => ?_))
    rotate_left
    · have y1 : ¬ (q : Int) < most := y1
      have hx : (q : Int) = most ∨ A + q = 256 ∨ hasB n f ((A + q : Nat) : Int) = false := .inl (by omega)
      (refine (?_ : br _ _ _); refine br_dec (fun hgt => ?_) (fun hgt => ?_))
      rotate_left
      · have hgt : ¬ (0 : Int) < (q : Int) := hgt
        obtain rfl : q = 0 := by omega
        have hA0 : hasB n f ((A : Nat) : Int) = false := by
          rcases hx with x | x | x
          · omega
          · omega
          · simpa using x
        have hcov := cov_off (most := most) (H := hasB n f) (k := A) hA0
        have wA : IntKind.i64.wrap ((A : Int) + 1) = ((A + 1 : Nat) : Int) := by simp [IntKind.wrap_i64]; omega
        have cl1 : clo most (hasB n f) (A + 1) := by
          intro _ a c e _ _
          rw [hcov] at e
          have := (cov_ok (most := most) (H := hasB n f) A).1 (a, c) (List.mem_of_getLast? e)
          simp only at this
          omega
        refine ⟨256 - (A + 1), _, _, by omega, ⟨A + 1, rfl, by omega, cl1, .inl ⟨hcov.trans e, rfl, rfl⟩⟩, tau [], rfl, ?_, ?_⟩
        · repeat' (first | exact rfl | exact trivial | exact wA | refine ⟨?_, ?_⟩)
        · exact ⟨⟨rfl, rfl, rfl, fun i c hi hc => ⟨rfl, rfl⟩⟩, trivial⟩
      have hgt : (0 : Int) < (q : Int) := hgt
      have hq0 : 0 < q := by omega
      have hcov := cov_run (most := most) (H := hasB n f) cl hA hq hqm hq0
      have w2 : IntKind.i64.wrap (((A + q : Nat) : Int) - 1) = ((A + q : Nat) : Int) - 1 := by simp only [IntKind.wrap_i64]; omega
      have w3 : IntKind.i64.wrap (((A + q : Nat) : Int) - 1 + 1) = ((A + q : Nat) : Int) := by simp only [IntKind.wrap_i64]; omega
      have wA : IntKind.i64.wrap (IntKind.i64.wrap (IntKind.i64.wrap ((A : Int) + (q : Int)) - 1) + 1) = ((A + q : Nat) : Int) := by rw [ws, w2, w3]
      have cl1 : clo most (hasB n f) (A + q) := by
        intro h256 a c e e1 e2
        rw [hcov] at e
        simp at e
        rcases hx with x | x | x
        · omega
        · omega
        · simpa using x
      rw [e] at hcov
      intro b1
      refine ⟨rfl, fun bb cap h1 h2 => ?_⟩
      refine ⟨256 - (A + q), _, _, by omega, ⟨A + q, rfl, by omega, cl1, .inr ⟨0, bb, cap, fun i => if i < 0 then 0 else if i = 0 then (A : Int) else 0, fun i => if i < 0 then 0 else if i = 0 then (q : Int) else 0, hcov.trans rfl, h1, rfl, rfl⟩⟩, tau [(9, 91)], rfl, ?_, ?_⟩
      · repeat' (first | exact rfl | exact trivial | exact wA | refine ⟨?_, ?_⟩)
      · exact ⟨⟨rfl, rfl, rfl, rfl, fun i c hi hc => appG_pair (F := fun _ => 0) (F' := fun _ => 0) (fun i c hi hc => absurd hi (by omega)) rfl rfl rfl rfl i c hc⟩, ⟨rfl, rfl, rfl, fun i c hi hc => ⟨rfl, rfl⟩⟩, trivial⟩
    have y1 : (q : Int) < most := y1
    (refine (?_ : br _ _ _); refine br_dec (fun y2 => ?_) (fun y2 => ?_))
    rotate_left
    · have y2 : ¬ IntKind.i64.wrap ((A : Int) + (q : Int)) < 256 := y2
      rw [ws] at y2
      have hx : (q : Int) = most ∨ A + q = 256 ∨ hasB n f ((A + q : Nat) : Int) = false := .inr (.inl (by omega))
      (refine (?_ : br _ _ _); refine br_dec (fun hgt => ?_) (fun hgt => ?_))
      rotate_left
      · have hgt : ¬ (0 : Int) < (q : Int) := hgt
        obtain rfl : q = 0 := by omega
        have hA0 : hasB n f ((A : Nat) : Int) = false := by
          rcases hx with x | x | x
          · omega
          · omega
          · simpa using x
        have hcov := cov_off (most := most) (H := hasB n f) (k := A) hA0
        have wA : IntKind.i64.wrap ((A : Int) + 1) = ((A + 1 : Nat) : Int) := by simp [IntKind.wrap_i64]; omega
        have cl1 : clo most (hasB n f) (A + 1) := by
          intro _ a c e _ _
          rw [hcov] at e
          have := (cov_ok (most := most) (H := hasB n f) A).1 (a, c) (List.mem_of_getLast? e)
          simp only at this
          omega
        refine ⟨256 - (A + 1), _, _, by omega, ⟨A + 1, rfl, by omega, cl1, .inl ⟨hcov.trans e, rfl, rfl⟩⟩, tau [], rfl, ?_, ?_⟩
        · repeat' (first | exact rfl | exact trivial | exact wA | refine ⟨?_, ?_⟩)
        · exact ⟨⟨rfl, rfl, rfl, fun i c hi hc => ⟨rfl, rfl⟩⟩, trivial⟩
      have hgt : (0 : Int) < (q : Int) := hgt
      have hq0 : 0 < q := by omega
      have hcov := cov_run (most := most) (H := hasB n f) cl hA hq hqm hq0
      have w2 : IntKind.i64.wrap (((A + q : Nat) : Int) - 1) = ((A + q : Nat) : Int) - 1 := by simp only [IntKind.wrap_i64]; omega
      have w3 : IntKind.i64.wrap (((A + q : Nat) : Int) - 1 + 1) = ((A + q : Nat) : Int) := by simp only [IntKind.wrap_i64]; omega
      have wA : IntKind.i64.wrap (IntKind.i64.wrap (IntKind.i64.wrap ((A : Int) + (q : Int)) - 1) + 1) = ((A + q : Nat) : Int) := by rw [ws, w2, w3]
      have cl1 : clo most (hasB n f) (A + q) := by
        intro h256 a c e e1 e2
        rw [hcov] at e
        simp at e
        rcases hx with x | x | x
        · omega
        · omega
        · simpa using x
      rw [e] at hcov
      intro b1
      refine ⟨rfl, fun bb cap h1 h2 => ?_⟩
      refine ⟨256 - (A + q), _, _, by omega, ⟨A + q, rfl, by omega, cl1, .inr ⟨0, bb, cap, fun i => if i < 0 then 0 else if i = 0 then (A : Int) else 0, fun i => if i < 0 then 0 else if i = 0 then (q : Int) else 0, hcov.trans rfl, h1, rfl, rfl⟩⟩, tau [(9, 91)], rfl, ?_, ?_⟩
      · repeat' (first | exact rfl | exact trivial | exact wA | refine ⟨?_, ?_⟩)
      · exact ⟨⟨rfl, rfl, rfl, rfl, fun i c hi hc => appG_pair (F := fun _ => 0) (F' := fun _ => 0) (fun i c hi hc => absurd hi (by omega)) rfl rfl rfl rfl i c hc⟩, ⟨rfl, rfl, rfl, fun i c hi hc => ⟨rfl, rfl⟩⟩, trivial⟩
    have y2 : IntKind.i64.wrap ((A : Int) + (q : Int)) < 256 := y2
    rw [ws] at y2
    refine ⟨_, _, n, f, rfl, .inr ⟨2000, i, c, b, N, _, rfl, rfl, hN, F, fun _ _ => rfl, hF⟩, by omega, ?_⟩
    (refine (?_ : br _ _ _); refine br_both (fun y3 => ?_) (fun y3 => ?_))
    rotate_left
    · have y3 : hasB n f (IntKind.i64.wrap ((A : Int) + (q : Int))) = false := y3
      rw [ws] at y3
      have hx : (q : Int) = most ∨ A + q = 256 ∨ hasB n f ((A + q : Nat) : Int) = false := .inr (.inr y3)
      (refine (?_ : br _ _ _); refine br_dec (fun hgt => ?_) (fun hgt => ?_))
      rotate_left
      · have hgt : ¬ (0 : Int) < (q : Int) := hgt
        obtain rfl : q = 0 := by omega
        have hA0 : hasB n f ((A : Nat) : Int) = false := by
          rcases hx with x | x | x
          · omega
          · omega
          · simpa using x
        have hcov := cov_off (most := most) (H := hasB n f) (k := A) hA0
        have wA : IntKind.i64.wrap ((A : Int) + 1) = ((A + 1 : Nat) : Int) := by simp [IntKind.wrap_i64]; omega
        have cl1 : clo most (hasB n f) (A + 1) := by
          intro _ a c e _ _
          rw [hcov] at e
          have := (cov_ok (most := most) (H := hasB n f) A).1 (a, c) (List.mem_of_getLast? e)
          simp only at this
          omega
        refine ⟨256 - (A + 1), _, _, by omega, ⟨A + 1, rfl, by omega, cl1, .inl ⟨hcov.trans e, rfl, rfl⟩⟩, tau [], rfl, ?_, ?_⟩
        · repeat' (first | exact rfl | exact trivial | exact wA | refine ⟨?_, ?_⟩)
        · exact ⟨⟨rfl, rfl, rfl, fun i c hi hc => ⟨rfl, rfl⟩⟩, trivial⟩
      have hgt : (0 : Int) < (q : Int) := hgt
      have hq0 : 0 < q := by omega
      have hcov := cov_run (most := most) (H := hasB n f) cl hA hq hqm hq0
      have w2 : IntKind.i64.wrap (((A + q : Nat) : Int) - 1) = ((A + q : Nat) : Int) - 1 := by simp only [IntKind.wrap_i64]; omega
      have w3 : IntKind.i64.wrap (((A + q : Nat) : Int) - 1 + 1) = ((A + q : Nat) : Int) := by simp only [IntKind.wrap_i64]; omega
      have wA : IntKind.i64.wrap (IntKind.i64.wrap (IntKind.i64.wrap ((A : Int) + (q : Int)) - 1) + 1) = ((A + q : Nat) : Int) := by rw [ws, w2, w3]
      have cl1 : clo most (hasB n f) (A + q) := by
        intro h256 a c e e1 e2
        rw [hcov] at e
        simp at e
        rcases hx with x | x | x
        · omega
        · omega
        · simpa using x
      rw [e] at hcov
      intro b1
      refine ⟨rfl, fun bb cap h1 h2 => ?_⟩
      refine ⟨256 - (A + q), _, _, by omega, ⟨A + q, rfl, by omega, cl1, .inr ⟨0, bb, cap, fun i => if i < 0 then 0 else if i = 0 then (A : Int) else 0, fun i => if i < 0 then 0 else if i = 0 then (q : Int) else 0, hcov.trans rfl, h1, rfl, rfl⟩⟩, tau [(9, 91)], rfl, ?_, ?_⟩
      · repeat' (first | exact rfl | exact trivial | exact wA | refine ⟨?_, ?_⟩)
      · exact ⟨⟨rfl, rfl, rfl, rfl, fun i c hi hc => appG_pair (F := fun _ => 0) (F' := fun _ => 0) (fun i c hi hc => absurd hi (by omega)) rfl rfl rfl rfl i c hc⟩, ⟨rfl, rfl, rfl, fun i c hi hc => ⟨rfl, rfl⟩⟩, trivial⟩
    have y3 : hasB n f (IntKind.i64.wrap ((A : Int) + (q : Int))) = true := y3
    rw [ws] at y3
    have wq : IntKind.i64.wrap ((q : Int) + 1) = ((q + 1 : Nat) : Int) := by simp [IntKind.wrap_i64]; omega
    refine ⟨8 - (q + 1), _, _, by omega, ⟨q + 1, rfl, by omega, by omega, fun j hj => ?_, rfl, rfl⟩, tau [], rfl, ?_, ?_⟩
    · by_cases hjq : j = q
      · subst hjq; exact y3
      · exact hq j (by omega)
    · repeat' (first | exact rfl | exact trivial | exact wq | refine ⟨?_, ?_⟩)
    · exact ⟨⟨rfl, rfl, rfl, fun i c hi hc => ⟨rfl, rfl⟩⟩, trivial⟩
  · refine vc_sound (mkE hcx T_ok spi) 300 _ _ _ 60 ?_
    (refine (?_ : br _ _ _); refine br_dec (fun hlt => ?_) (fun hlt => ?_))
    rotate_left
    · have hlt : ¬ (A : Int) < 256 := hlt
      obtain rfl : A = 256 := by omega
      exact .inr ⟨hcb, .inr ⟨9, p, bb, cap, F0, F1, e, hcap, rfl, rfl⟩⟩
    have hlt : (A : Int) < 256 := hlt
    refine W_loop (fun r σ h => ∃ q : Nat, r = 8 - q ∧ (q : Int) ≤ most ∧ A + q ≤ 256 ∧ (∀ j : Nat, j < q → hasB n f ((A + j : Nat) : Int) = true) ∧ σ = [(0, .slice 2000 i n c), (1, .int .i64 most), (7, .slice 9 0 (p + 1) cap), (8, .int .i64 A), (9, .int .i64 q)] ∧ h = [(9, .blk bb cap 2 (g2 .i64 .i64 F0 F1) 27), (2000, .ro b N 1 (g1 .i64 F))]) 8 ⟨0, rfl, by omega, by omega, fun j hj => by omega, rfl, rfl⟩ (tau []) ⟨rfl, ?_, ?_⟩ 90 ?_
    · repeat' (first | exact rfl | exact trivial | refine ⟨?_, ?_⟩)
    · exact ⟨⟨rfl, rfl, rfl, rfl, fun i c hi hc => g2_rn rfl rfl⟩, ⟨rfl, rfl, rfl, fun i c hi hc => ⟨rfl, rfl⟩⟩, trivial⟩
    rintro r3 σ3 h3 ⟨q, rfl, hqm, hq256, hq, rfl, rfl⟩
    refine vc_sound (mkE hcx T_ok spi) 300 _ _ _ 90 ?_
    have hA : A < 256 := by omega
    have ws : IntKind.i64.wrap ((A : Int) + (q : Int)) = ((A + q : Nat) : Int) := by simp [IntKind.wrap_i64]; omega
    (refine (?_ : br _ _ _); refine br_dec (fun y1 => ?_) (fun y1 => ?_))
    rotate_left
    · have y1 : ¬ (q : Int) < most := y1
      have hx : (q : Int) = most ∨ A + q = 256 ∨ hasB n f ((A + q : Nat) : Int) = false := .inl (by omega)
      (refine (?_ : br _ _ _); refine br_dec (fun hgt => ?_) (fun hgt => ?_))
      rotate_left
      · have hgt : ¬ (0 : Int) < (q : Int) := hgt
        obtain rfl : q = 0 := by omega
        have hA0 : hasB n f ((A : Nat) : Int) = false := by
          rcases hx with x | x | x
          · omega
          · omega
          · simpa using x
        have hcov := cov_off (most := most) (H := hasB n f) (k := A) hA0
        have wA : IntKind.i64.wrap ((A : Int) + 1) = ((A + 1 : Nat) : Int) := by simp [IntKind.wrap_i64]; omega
        have cl1 : clo most (hasB n f) (A + 1) := by
          intro _ a c e _ _
          rw [hcov] at e
          have := (cov_ok (most := most) (H := hasB n f) A).1 (a, c) (List.mem_of_getLast? e)
          simp only at this
          omega
        refine ⟨256 - (A + 1), _, _, by omega, ⟨A + 1, rfl, by omega, cl1, .inr ⟨p, bb, cap, F0, F1, hcov.trans e, hcap, rfl, rfl⟩⟩, tau [], rfl, ?_, ?_⟩
        · repeat' (first | exact rfl | exact trivial | exact wA | refine ⟨?_, ?_⟩)
        · exact ⟨⟨rfl, rfl, rfl, rfl, fun i c hi hc => g2_rn rfl rfl⟩, ⟨rfl, rfl, rfl, fun i c hi hc => ⟨rfl, rfl⟩⟩, trivial⟩
      have hgt : (0 : Int) < (q : Int) := hgt
      have hq0 : 0 < q := by omega
      have hcov := cov_run (most := most) (H := hasB n f) cl hA hq hqm hq0
      have w2 : IntKind.i64.wrap (((A + q : Nat) : Int) - 1) = ((A + q : Nat) : Int) - 1 := by simp only [IntKind.wrap_i64]; omega
      have w3 : IntKind.i64.wrap (((A + q : Nat) : Int) - 1 + 1) = ((A + q : Nat) : Int) := by simp only [IntKind.wrap_i64]; omega
      have wA : IntKind.i64.wrap (IntKind.i64.wrap (IntKind.i64.wrap ((A : Int) + (q : Int)) - 1) + 1) = ((A + q : Nat) : Int) := by rw [ws, w2, w3]
      have cl1 : clo most (hasB n f) (A + q) := by
        intro h256 a c e e1 e2
        rw [hcov] at e
        simp at e
        rcases hx with x | x | x
        · omega
        · omega
        · simpa using x
      rw [e, rows_app] at hcov
      have hlen := (cov_ok (most := most) (H := hasB n f) A).2
      rw [e] at hlen
      have hp : p + 1 ≤ 256 := by simp [rowsL] at hlen; omega
      intro b1
      (refine (?_ : br _ _ _); refine br_both (fun hc1 => ?_) (fun hc1 => ?_))
      · have hc1 : p + 1 + 1 ≤ cap := Nat.le_of_ble_eq_true hc1
        (refine (?_ : chk _ _); refine chk_ok (show (Nat.beq 2 2 && Nat.ble (0 + (p + 1) + 1) cap) = true by rw [Nat.ble_eq_true_of_le (by omega)]; rfl) ?_)
        refine ⟨fun i k hi hk => ?_, ?_⟩
        · have hi : i < 1 := hi
          have hk : k < 2 := hk
          obtain rfl : i = 0 := by omega
          match k, hk with
          | 0, _ | 1, _ => rfl
        refine ⟨256 - (A + q), _, _, by omega, ⟨A + q, rfl, by omega, cl1, .inr ⟨p + 1, bb, cap, fun i => if i = p + 1 then (A : Int) else F0 i, fun i => if i = p + 1 then (q : Int) else F1 i, hcov.trans (rowsL_congr fun i hi => ?_), hc1, rfl, rfl⟩⟩, tau [], rfl, ?_, ?_⟩
        · by_cases qq : i < p + 1
          · simp only [if_pos qq, if_neg (show ¬ i = p + 1 by omega)]; exact ⟨trivial, trivial⟩
          · have q2 : i = p + 1 := by omega
            subst q2
            simp
        · repeat' (first | exact rfl | exact trivial | exact wA | refine ⟨?_, ?_⟩)
        · exact ⟨⟨rfl, rfl, rfl, rfl, fun i c hi hc => appR_pair rfl rfl i c hc⟩, ⟨rfl, rfl, rfl, fun i c hi hc => ⟨rfl, rfl⟩⟩, trivial⟩
      · (refine (?_ : chk _ _); refine chk_ok (Nat.ble_eq_true_of_le (by omega)) ?_)
        (refine (?_ : chk _ _); refine chk_ok (show (Nat.beq 2 2 && Nat.ble (0 + (p + 1)) cap) = true by rw [Nat.ble_eq_true_of_le (by omega)]; rfl) ?_)
        refine ⟨rfl, fun bb' cap' h1 h2 => ?_⟩
        refine ⟨256 - (A + q), _, _, by omega, ⟨A + q, rfl, by omega, cl1, .inr ⟨p + 1, bb', cap', _, _, hcov, h1, rfl, rfl⟩⟩, tau [(9, 91)], rfl, ?_, ?_⟩
        · repeat' (first | exact rfl | exact trivial | exact wA | refine ⟨?_, ?_⟩)
        · exact ⟨⟨rfl, rfl, rfl, rfl, fun i c hi hc => appG_pair (fun i c hi hc => rfl) rfl rfl rfl rfl i c hc⟩, ⟨rfl, rfl, rfl, fun i c hi hc => ⟨rfl, rfl⟩⟩, trivial⟩
    have y1 : (q : Int) < most := y1
    (refine (?_ : br _ _ _); refine br_dec (fun y2 => ?_) (fun y2 => ?_))
    rotate_left
    · have y2 : ¬ IntKind.i64.wrap ((A : Int) + (q : Int)) < 256 := y2
      rw [ws] at y2
      have hx : (q : Int) = most ∨ A + q = 256 ∨ hasB n f ((A + q : Nat) : Int) = false := .inr (.inl (by omega))
      (refine (?_ : br _ _ _); refine br_dec (fun hgt => ?_) (fun hgt => ?_))
      rotate_left
      · have hgt : ¬ (0 : Int) < (q : Int) := hgt
        obtain rfl : q = 0 := by omega
        have hA0 : hasB n f ((A : Nat) : Int) = false := by
          rcases hx with x | x | x
          · omega
          · omega
          · simpa using x
        have hcov := cov_off (most := most) (H := hasB n f) (k := A) hA0
        have wA : IntKind.i64.wrap ((A : Int) + 1) = ((A + 1 : Nat) : Int) := by simp [IntKind.wrap_i64]; omega
        have cl1 : clo most (hasB n f) (A + 1) := by
          intro _ a c e _ _
          rw [hcov] at e
          have := (cov_ok (most := most) (H := hasB n f) A).1 (a, c) (List.mem_of_getLast? e)
          simp only at this
          omega
        refine ⟨256 - (A + 1), _, _, by omega, ⟨A + 1, rfl, by omega, cl1, .inr ⟨p, bb, cap, F0, F1, hcov.trans e, hcap, rfl, rfl⟩⟩, tau [], rfl, ?_, ?_⟩
        · repeat' (first | exact rfl | exact trivial | exact wA | refine ⟨?_, ?_⟩)
        · exact ⟨⟨rfl, rfl, rfl, rfl, fun i c hi hc => g2_rn rfl rfl⟩, ⟨rfl, rfl, rfl, fun i c hi hc => ⟨rfl, rfl⟩⟩, trivial⟩
      have hgt : (0 : Int) < (q : Int) := hgt
      have hq0 : 0 < q := by omega
      have hcov := cov_run (most := most) (H := hasB n f) cl hA hq hqm hq0
      have w2 : IntKind.i64.wrap (((A + q : Nat) : Int) - 1) = ((A + q : Nat) : Int) - 1 := by simp only [IntKind.wrap_i64]; omega
      have w3 : IntKind.i64.wrap (((A + q : Nat) : Int) - 1 + 1) = ((A + q : Nat) : Int) := by simp only [IntKind.wrap_i64]; omega
      have wA : IntKind.i64.wrap (IntKind.i64.wrap (IntKind.i64.wrap ((A : Int) + (q : Int)) - 1) + 1) = ((A + q : Nat) : Int) := by rw [ws, w2, w3]
      have cl1 : clo most (hasB n f) (A + q) := by
        intro h256 a c e e1 e2
        rw [hcov] at e
        simp at e
        rcases hx with x | x | x
        · omega
        · omega
        · simpa using x
      rw [e, rows_app] at hcov
      have hlen := (cov_ok (most := most) (H := hasB n f) A).2
      rw [e] at hlen
      have hp : p + 1 ≤ 256 := by simp [rowsL] at hlen; omega
      intro b1
      (refine (?_ : br _ _ _); refine br_both (fun hc1 => ?_) (fun hc1 => ?_))
      · have hc1 : p + 1 + 1 ≤ cap := Nat.le_of_ble_eq_true hc1
        (refine (?_ : chk _ _); refine chk_ok (show (Nat.beq 2 2 && Nat.ble (0 + (p + 1) + 1) cap) = true by rw [Nat.ble_eq_true_of_le (by omega)]; rfl) ?_)
        refine ⟨fun i k hi hk => ?_, ?_⟩
        · have hi : i < 1 := hi
          have hk : k < 2 := hk
          obtain rfl : i = 0 := by omega
          match k, hk with
          | 0, _ | 1, _ => rfl
        refine ⟨256 - (A + q), _, _, by omega, ⟨A + q, rfl, by omega, cl1, .inr ⟨p + 1, bb, cap, fun i => if i = p + 1 then (A : Int) else F0 i, fun i => if i = p + 1 then (q : Int) else F1 i, hcov.trans (rowsL_congr fun i hi => ?_), hc1, rfl, rfl⟩⟩, tau [], rfl, ?_, ?_⟩
        · by_cases qq : i < p + 1
          · simp only [if_pos qq, if_neg (show ¬ i = p + 1 by omega)]; exact ⟨trivial, trivial⟩
          · have q2 : i = p + 1 := by omega
            subst q2
            simp
        · repeat' (first | exact rfl | exact trivial | exact wA | refine ⟨?_, ?_⟩)
        · exact ⟨⟨rfl, rfl, rfl, rfl, fun i c hi hc => appR_pair rfl rfl i c hc⟩, ⟨rfl, rfl, rfl, fun i c hi hc => ⟨rfl, rfl⟩⟩, trivial⟩
      · (refine (?_ : chk _ _); refine chk_ok (Nat.ble_eq_true_of_le (by omega)) ?_)
        (refine (?_ : chk _ _); refine chk_ok (show (Nat.beq 2 2 && Nat.ble (0 + (p + 1)) cap) = true by rw [Nat.ble_eq_true_of_le (by omega)]; rfl) ?_)
        refine ⟨rfl, fun bb' cap' h1 h2 => ?_⟩
        refine ⟨256 - (A + q), _, _, by omega, ⟨A + q, rfl, by omega, cl1, .inr ⟨p + 1, bb', cap', _, _, hcov, h1, rfl, rfl⟩⟩, tau [(9, 91)], rfl, ?_, ?_⟩
        · repeat' (first | exact rfl | exact trivial | exact wA | refine ⟨?_, ?_⟩)
        · exact ⟨⟨rfl, rfl, rfl, rfl, fun i c hi hc => appG_pair (fun i c hi hc => rfl) rfl rfl rfl rfl i c hc⟩, ⟨rfl, rfl, rfl, fun i c hi hc => ⟨rfl, rfl⟩⟩, trivial⟩
    have y2 : IntKind.i64.wrap ((A : Int) + (q : Int)) < 256 := y2
    rw [ws] at y2
    refine ⟨_, _, n, f, rfl, .inr ⟨2000, i, c, b, N, _, rfl, rfl, hN, F, fun _ _ => rfl, hF⟩, by omega, ?_⟩
    (refine (?_ : br _ _ _); refine br_both (fun y3 => ?_) (fun y3 => ?_))
    rotate_left
    · have y3 : hasB n f (IntKind.i64.wrap ((A : Int) + (q : Int))) = false := y3
      rw [ws] at y3
      have hx : (q : Int) = most ∨ A + q = 256 ∨ hasB n f ((A + q : Nat) : Int) = false := .inr (.inr y3)
      (refine (?_ : br _ _ _); refine br_dec (fun hgt => ?_) (fun hgt => ?_))
      rotate_left
      · have hgt : ¬ (0 : Int) < (q : Int) := hgt
        obtain rfl : q = 0 := by omega
        have hA0 : hasB n f ((A : Nat) : Int) = false := by
          rcases hx with x | x | x
          · omega
          · omega
          · simpa using x
        have hcov := cov_off (most := most) (H := hasB n f) (k := A) hA0
        have wA : IntKind.i64.wrap ((A : Int) + 1) = ((A + 1 : Nat) : Int) := by simp [IntKind.wrap_i64]; omega
        have cl1 : clo most (hasB n f) (A + 1) := by
          intro _ a c e _ _
          rw [hcov] at e
          have := (cov_ok (most := most) (H := hasB n f) A).1 (a, c) (List.mem_of_getLast? e)
          simp only at this
          omega
        refine ⟨256 - (A + 1), _, _, by omega, ⟨A + 1, rfl, by omega, cl1, .inr ⟨p, bb, cap, F0, F1, hcov.trans e, hcap, rfl, rfl⟩⟩, tau [], rfl, ?_, ?_⟩
        · repeat' (first | exact rfl | exact trivial | exact wA | refine ⟨?_, ?_⟩)
        · exact ⟨⟨rfl, rfl, rfl, rfl, fun i c hi hc => g2_rn rfl rfl⟩, ⟨rfl, rfl, rfl, fun i c hi hc => ⟨rfl, rfl⟩⟩, trivial⟩
      have hgt : (0 : Int) < (q : Int) := hgt
      have hq0 : 0 < q := by omega
      have hcov := cov_run (most := most) (H := hasB n f) cl hA hq hqm hq0
      have w2 : IntKind.i64.wrap (((A + q : Nat) : Int) - 1) = ((A + q : Nat) : Int) - 1 := by simp only [IntKind.wrap_i64]; omega
      have w3 : IntKind.i64.wrap (((A + q : Nat) : Int) - 1 + 1) = ((A + q : Nat) : Int) := by simp only [IntKind.wrap_i64]; omega
      have wA : IntKind.i64.wrap (IntKind.i64.wrap (IntKind.i64.wrap ((A : Int) + (q : Int)) - 1) + 1) = ((A + q : Nat) : Int) := by rw [ws, w2, w3]
      have cl1 : clo most (hasB n f) (A + q) := by
        intro h256 a c e e1 e2
        rw [hcov] at e
        simp at e
        rcases hx with x | x | x
        · omega
        · omega
        · simpa using x
      rw [e, rows_app] at hcov
      have hlen := (cov_ok (most := most) (H := hasB n f) A).2
      rw [e] at hlen
      have hp : p + 1 ≤ 256 := by simp [rowsL] at hlen; omega
      intro b1
      (refine (?_ : br _ _ _); refine br_both (fun hc1 => ?_) (fun hc1 => ?_))
      · have hc1 : p + 1 + 1 ≤ cap := Nat.le_of_ble_eq_true hc1
        (refine (?_ : chk _ _); refine chk_ok (show (Nat.beq 2 2 && Nat.ble (0 + (p + 1) + 1) cap) = true by rw [Nat.ble_eq_true_of_le (by omega)]; rfl) ?_)
        refine ⟨fun i k hi hk => ?_, ?_⟩
        · have hi : i < 1 := hi
          have hk : k < 2 := hk
          obtain rfl : i = 0 := by omega
          match k, hk with
          | 0, _ | 1, _ => rfl
        refine ⟨256 - (A + q), _, _, by omega, ⟨A + q, rfl, by omega, cl1, .inr ⟨p + 1, bb, cap, fun i => if i = p + 1 then (A : Int) else F0 i, fun i => if i = p + 1 then (q : Int) else F1 i, hcov.trans (rowsL_congr fun i hi => ?_), hc1, rfl, rfl⟩⟩, tau [], rfl, ?_, ?_⟩
        · by_cases qq : i < p + 1
          · simp only [if_pos qq, if_neg (show ¬ i = p + 1 by omega)]; exact ⟨trivial, trivial⟩
          · have q2 : i = p + 1 := by omega
            subst q2
            simp
        · repeat' (first | exact rfl | exact trivial | exact wA | refine ⟨?_, ?_⟩)
        · exact ⟨⟨rfl, rfl, rfl, rfl, fun i c hi hc => appR_pair rfl rfl i c hc⟩, ⟨rfl, rfl, rfl, fun i c hi hc => ⟨rfl, rfl⟩⟩, trivial⟩
      · (refine (?_ : chk _ _); refine chk_ok (Nat.ble_eq_true_of_le (by omega)) ?_)
        (refine (?_ : chk _ _); refine chk_ok (show (Nat.beq 2 2 && Nat.ble (0 + (p + 1)) cap) = true by rw [Nat.ble_eq_true_of_le (by omega)]; rfl) ?_)
        refine ⟨rfl, fun bb' cap' h1 h2 => ?_⟩
        refine ⟨256 - (A + q), _, _, by omega, ⟨A + q, rfl, by omega, cl1, .inr ⟨p + 1, bb', cap', _, _, hcov, h1, rfl, rfl⟩⟩, tau [(9, 91)], rfl, ?_, ?_⟩
        · repeat' (first | exact rfl | exact trivial | exact wA | refine ⟨?_, ?_⟩)
        · exact ⟨⟨rfl, rfl, rfl, rfl, fun i c hi hc => appG_pair (fun i c hi hc => rfl) rfl rfl rfl rfl i c hc⟩, ⟨rfl, rfl, rfl, fun i c hi hc => ⟨rfl, rfl⟩⟩, trivial⟩
    have y3 : hasB n f (IntKind.i64.wrap ((A : Int) + (q : Int))) = true := y3
    rw [ws] at y3
    have wq : IntKind.i64.wrap ((q : Int) + 1) = ((q + 1 : Nat) : Int) := by simp [IntKind.wrap_i64]; omega
    refine ⟨8 - (q + 1), _, _, by omega, ⟨q + 1, rfl, by omega, by omega, fun j hj => ?_, rfl, rfl⟩, tau [], rfl, ?_, ?_⟩
    · by_cases hjq : j = q
      · subst hjq; exact y3
      · exact hq j (by omega)
    · repeat' (first | exact rfl | exact trivial | exact wq | refine ⟨?_, ?_⟩)
    · exact ⟨⟨rfl, rfl, rfl, rfl, fun i c hi hc => g2_rn rfl rfl⟩, ⟨rfl, rfl, rfl, fun i c hi hc => ⟨rfl, rfl⟩⟩, trivial⟩

end Go.Proofs.Ytfmnebdfanaafaa.Sx
