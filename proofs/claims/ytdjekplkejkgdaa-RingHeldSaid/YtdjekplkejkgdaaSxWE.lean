import Derived.Test.YtdjekplkejkgdaaSxWD
/-
  The walks of this seat's functions: New.
-/
namespace Go.Proofs.Ytdjekplkejkgdaa.Sx
open Go Go.Proofs
set_option maxRecDepth 100000
set_option linter.unusedSimpArgs false
set_option linter.unusedVariables false

def mayB (n b : Int) : Bool := decide (1 ≤ n) && decide (n ≤ 64) && decide (1 ≤ b) && decide (b ≤ n)
/-- A new shelf. -/
def newS (n b : Nat) : Sh := { N := n + 2, bot := b, E := fun c => if c = 2 then n else if c = 5 then n + 1 else 0, u := fun i => if n ≤ i then i else 0, d := fun i => if n ≤ i then i else 0, l := fun _ => -1, lo := fun _ => false, he := fun _ => false }
def sNew : Spec := fun args h nx K => ∃ (n b : Int), args = [.int .i64 n, .int .i64 b] ∧ fd nx h = .gone ∧ fd (nx + 1) h = .gone ∧
  (mayB n b = false → K (.ret (.tup [.nilp, .int .i64 1])) h nx) ∧
  (mayB n b = true → ∀ bS bA : Nat, K (.ret (.tup [.ptr nx 0 0, .int .i64 0])) ((nx, .blk bS 1 8 (gS (nx + 1) (newS n.toNat b.toNat).N (newS n.toNat b.toNat).bot (newS n.toNat b.toNat).E) 61) :: (nx + 1, .blk bA (newS n.toNat b.toNat).N 5 (gA (newS n.toNat b.toNat).u (newS n.toNat b.toNat).d (newS n.toNat b.toNat).l (newS n.toNat b.toNat).lo (newS n.toNat b.toNat).he) 63) :: h) (nx + 2))

/-- What New leaves. -/
def postNew (n b : Int) (o : Out) (h1 : Hp) : Prop := (mayB n b = false ∧ o = .ret (.tup [.nilp, .int .i64 1])) ∨
  (mayB n b = true ∧ ∃ (bS bA : Nat) (gs ga : Nat → Nat → V), o = .ret (.tup [.ptr 1 0 0, .int .i64 0]) ∧ fd 1 h1 = .blk bS 1 8 gs 61 ∧ fd 0 h1 = .blk bA (newS n.toNat b.toNat).N 5 ga 63 ∧ cells 0 (newS n.toNat b.toNat) gs ga)

def shE (n q : Nat) : Nat → Int := fun c => if c = 2 ∧ 0 < q then n else if c = 5 ∧ 1 < q then ((n + 1 : Nat) : Int) else 0
def shU (n q : Nat) : Nat → Int := fun i => if n ≤ i ∧ i < n + q then i else 0
def shL (n q : Nat) : Nat → Int := fun i => if i < n + q then -1 else 0
theorem shE_zero (n : Nat) : shE n 0 = fun _ => 0 := by funext c; unfold shE; simp
theorem shU_zero (n : Nat) : shU n 0 = fun _ => 0 := by funext c; unfold shU; rw [if_neg (by omega)]
theorem new_walk {n b : Nat} {c : Cx} (hc : c.P = Try.prog) (hm : mayB n b = true) : ∃ cd, Try.f9.body = some cd ∧ W ⟨c, Try.f9, T, [(25, sGuard)], fun o h _ => postNew n b o h⟩ [.code cd] (argsS [.int .i64 n, .int .i64 b] 0) [] 0 := by
  refine ⟨_, rfl, ?_⟩
  have hm' := hm
  unfold mayB at hm'
  simp only [Bool.and_eq_true, decide_eq_true_eq] at hm'
  have hE := mkE' (fn := Try.f9) (R := fun o h _ => postNew n b o h) hc (SP := [(25, sGuard)]) (consSP sGuard_ok noSP)
  have hw : IntKind.i64.wrap ((n : Int) + 2) = ((n + 2 : Nat) : Int) := by simp [IntKind.wrap_i64]; omega
  -- the rows are made
  refine W_seq (nx := 0) ?_
  refine W_to (nx := 0) [(0, .int .i64 n), (1, .int .i64 b)] [] 0 ?_ ?_
  · refine vc_sound hE 20 _ _ _ 0 ?_
    exact ⟨tau [], rfl, ⟨⟨rfl, rfl⟩, ⟨rfl, rfl⟩, trivial⟩, trivial⟩
  refine W_seq (nx := 0) ?_
  refine W_to (nx := 0) [(0, .int .i64 n), (1, .int .i64 b)] [] 0 ?_ ?_
  · refine vc_sound hE 60 _ _ _ 0 ?_
    (refine (?_ : br _ _ _); refine br_decF (by omega) ?_)
    (refine (?_ : br _ _ _); refine br_decF (by omega) ?_)
    (refine (?_ : br _ _ _); refine br_decF (by omega) ?_)
    (refine (?_ : br _ _ _); refine br_decF (by omega) ?_)
    exact ⟨tau [], rfl, ⟨⟨rfl, rfl⟩, ⟨rfl, rfl⟩, trivial⟩, trivial⟩
  refine W_seq (nx := 0) ?_
  refine W_piece (fun σ h _ => ∃ bS bA, ∃ τ, wk τ σ h [(0, .int .i64 n), (6, .ptr 1 0 0)] [(1, .blk bS 1 8 (gS 0 (n + 2) b fun _ => 0) 61), (0, .blk bA (n + 2) 5 (gA (fun _ => 0) (fun _ => 0) (fun _ => 0) (fun _ => false) fun _ => false) 63)]) ?_ ?_
  · refine vc_sound hE 60 _ _ _ 0 ?_
    refine ⟨⟨?_, ?_, ?_⟩, ?_⟩
    · show 0 ≤ IntKind.i64.wrap ((n : Int) + 2); omega
    · exact Int.le_refl _
    · show IntKind.i64.wrap ((n : Int) + 2) ≤ 1048576; omega
    intro bA bS
    have hw2 : (IntKind.i64.wrap ((n : Int) + 2)).toNat = n + 2 := by omega
    refine ⟨bS, bA, tau [], rfl, ⟨⟨rfl, rfl⟩, ⟨⟨rfl, trivial⟩, rfl, rfl⟩, trivial⟩, ?_, ?_, trivial⟩
    · refine ⟨rfl, rfl, rfl, rfl, fun i c hi hc => ?_⟩
      have hi : i < 1 := hi
      have hc : c < 8 := hc
      obtain rfl : i = 0 := by omega
      match c, hc with
      | 0, _ => exact ⟨⟨rfl, trivial⟩, rfl, hw2, hw2⟩
      | 1, _ | 2, _ | 3, _ | 4, _ | 5, _ | 6, _ | 7, _ => exact ⟨rfl, rfl⟩
    · refine ⟨rfl, hw2, rfl, rfl, fun i c hi hc => ?_⟩
      have hc : c < 5 := hc
      match c, hc with
      | 0, _ | 1, _ | 2, _ => exact ⟨rfl, rfl⟩
      | 3, _ | 4, _ => rfl
  rintro σ1 h1 _ ⟨bS, bA, τ1, hw1⟩
  refine W_weak (nx' := 30) τ1 hw1 ?_
  clear hw1
  -- the nodes lie in no list
  refine W_seq (nx := 30) ?_
  refine W_to (nx := 30) [(6, .ptr 1 0 0)] [(1, .blk bS 1 8 (gS 0 (n + 2) b fun _ => 0) 61), (0, .blk bA (n + 2) 5 (gA (fun _ => 0) (fun _ => 0) (fun i => if i < n then -1 else 0) (fun _ => false) fun _ => false) 63)] 30 ?_ ?_
  · refine vc_sound hE 60 _ _ _ 30 ?_
    refine W_loop (fun r σ h => ∃ j : Nat, r = n - j ∧ j ≤ n ∧ σ = [(6, .ptr 1 0 0), (31, .int .i64 n), (32, .int .i64 j)] ∧ h = [(1, .blk bS 1 8 (gS 0 (n + 2) b fun _ => 0) 61), (0, .blk bA (n + 2) 5 (gA (fun _ => 0) (fun _ => 0) (fun i => if i < j then -1 else 0) (fun _ => false) fun _ => false) 63)]) n ⟨0, rfl, by omega, rfl, rfl⟩ (tau []) ⟨rfl, ?_, ?_⟩ 30 ?_
    · repeat' (first | exact rfl | exact trivial | refine ⟨?_, ?_⟩)
    · refine ⟨⟨rfl, rfl, rfl, rfl, fun i c hi hc => ?_⟩, ⟨rfl, rfl, rfl, rfl, fun i c hi hc => gA_rn hc⟩, trivial⟩
      obtain rfl : i = 0 := by omega
      exact gS_rn ⟨rfl, trivial⟩
    rintro r σ h ⟨j, rfl, hj, rfl, rfl⟩
    refine vc_sound hE 60 _ _ _ 30 ?_
    (refine (?_ : br _ _ _); refine br_dec (fun e => ?_) (fun e => ?_))
    · have e : (j : Int) < n := e
      (refine (?_ : chk _ _); refine chk_ok (show (decide ((0 : Int) ≤ (j : Int)) && decide ((j : Int) < ((n + 2 : Nat) : Int))) = true by simp only [Bool.and_eq_true, decide_eq_true_eq]; omega) ?_)
      (refine (?_ : chk _ _); refine chk_ok rfl ?_)
      (refine (?_ : chk _ _); refine chk_ok (Nat.ble_eq_true_of_le (show j * 5 + (0 + 2) + 1 ≤ (n + 2) * 5 by omega)) ?_)
      have hw3 : IntKind.i64.wrap ((j : Int) + 1) = ((j + 1 : Nat) : Int) := by simp [IntKind.wrap_i64]; omega
      refine ⟨n - (j + 1), _, _, by omega, ⟨j + 1, rfl, by omega, rfl, rfl⟩, tau [], rfl, ?_, ?_⟩
      · repeat' (first | exact rfl | exact trivial | exact hw3 | refine ⟨?_, ?_⟩)
      · refine ⟨⟨rfl, rfl, rfl, rfl, fun i c hi hc => ?_⟩, ⟨rfl, rfl, rfl, rfl, fun i c hi hc => ?_⟩, trivial⟩
        · obtain rfl : i = 0 := by omega
          exact gS_rn ⟨rfl, trivial⟩
        · refine gA_eq ?_ hc
          refine (put2 (N := n + 2) gA_self j (-1) i c hi hc).trans ?_
          have : updI (fun i => if i < j then (-1 : Int) else 0) j (-1) = fun i => if i < j + 1 then (-1 : Int) else 0 := by
            funext i
            unfold updI
            show (if i = j then (-1 : Int) else if i < j then -1 else 0) = _
            by_cases q : i = j
            · subst q; simp
            · rw [if_neg q]
              by_cases q2 : i < j
              · rw [if_pos q2, if_pos (by omega)]
              · rw [if_neg q2, if_neg (by omega)]
          rw [this]
    · have e : ¬ (j : Int) < n := e
      obtain rfl : j = n := by omega
      refine ⟨tau [], rfl, ?_, ⟨rfl, rfl, rfl, rfl, fun i c hi hc => ?_⟩, ⟨rfl, rfl, rfl, rfl, fun i c hi hc => gA_rn hc⟩, trivial⟩
      · repeat' (first | exact rfl | exact trivial | refine ⟨?_, ?_⟩)
      · obtain rfl : i = 0 := by omega
        exact gS_rn ⟨rfl, trivial⟩
  -- the lists' own nodes
  refine W_seq (nx := 30) ?_
  refine W_to (nx := 30) [(6, .ptr 1 0 0)] [(1, .blk bS 1 8 (gS 0 (n + 2) b (shE n 2)) 61), (0, .blk bA (n + 2) 5 (gA (shU n 2) (shU n 2) (shL n 2) (fun _ => false) fun _ => false) 63)] 30 ?_ ?_
  · refine vc_sound hE 60 _ _ _ 30 ?_
    refine W_loop (fun r σ h => ∃ q : Nat, r = 2 - q ∧ q ≤ 2 ∧ σ = [(6, .ptr 1 0 0), (43, .int .i64 q)] ∧ h = [(1, .blk bS 1 8 (gS 0 (n + 2) b (shE n q)) 61), (0, .blk bA (n + 2) 5 (gA (shU n q) (shU n q) (shL n q) (fun _ => false) fun _ => false) 63)]) 2 ⟨0, rfl, by omega, rfl, rfl⟩ (tau []) ⟨rfl, ?_, ?_⟩ 30 ?_
    · repeat' (first | exact rfl | exact trivial | refine ⟨?_, ?_⟩)
    · refine ⟨⟨rfl, rfl, rfl, rfl, fun i c hi hc => ?_⟩, ⟨rfl, rfl, rfl, rfl, fun i c hi hc => ?_⟩, trivial⟩
      · obtain rfl : i = 0 := by omega
        rw [shE_zero]
        exact gS_rn ⟨rfl, trivial⟩
      · rw [shU_zero]
        exact gA_rn hc
    rintro r σ h ⟨q, rfl, hq, rfl, rfl⟩
    obtain rfl | rfl | rfl : q = 0 ∨ q = 1 ∨ q = 2 := by omega
    · -- list 0
      have hg : IntKind.i64.wrap ((⟨n + 2, b, shE n 0, shU n 0, shU n 0, shL n 0, fun _ => false, fun _ => false⟩ : Sh).n + (0 : Int)) = ((n : Nat) : Int) := by unfold Sh.n; simp only [IntKind.wrap_i64]; omega
      refine vc_sound hE 6 _ _ _ 30 ?_
      refine vc_sound hE 3 _ _ _ 30 ?_
      refine W_seq (nx := 30) ?_
      refine W_to (nx := 30) [(6, .ptr 1 0 0), (43, .int .i64 0), (8, .int .i64 0)] [(1, .blk bS 1 8 (gS 0 (n + 2) b (shE n 0)) 61), (0, .blk bA (n + 2) 5 (gA (shU n 0) (shU n 0) (shL n 0) (fun _ => false) fun _ => false) 63)] 30 ?_ ?_
      · refine vc_sound hE 20 _ _ _ 30 ?_
        exact ⟨tau [], rfl, ⟨⟨⟨rfl, trivial⟩, rfl, rfl⟩, ⟨rfl, rfl⟩, ⟨rfl, rfl⟩, trivial⟩, ⟨rfl, rfl, rfl, rfl, fun i c hi hc => (by obtain rfl : i = 0 := (by omega); exact gS_rn ⟨rfl, trivial⟩)⟩, ⟨rfl, rfl, rfl, rfl, fun i c hi hc => gA_rn hc⟩, trivial⟩
      refine W_seq (nx := 30) ?_
      refine W_to (nx := 30) [(6, .ptr 1 0 0), (43, .int .i64 0), (8, .int .i64 0), (9, .int .i64 ((n : Nat) : Int))] [(1, .blk bS 1 8 (gS 0 (n + 2) b (shE n 0)) 61), (0, .blk bA (n + 2) 5 (gA (shU n 0) (shU n 0) (shL n 0) (fun _ => false) fun _ => false) 63)] 30 ?_ ?_
      · refine vc_sound hE 20 _ _ _ 30 ?_
        refine ⟨_, ⟨n + 2, b, shE n 0, shU n 0, shU n 0, shL n 0, fun _ => false, fun _ => false⟩, _, rfl, ⟨1, 0, bS, bA, _, _, rfl, by decide, rfl, rfl, fun c hc => rfl, fun i c hi hc => rfl⟩, ?_⟩
        rw [hg]
        exact ⟨tau [], rfl, ⟨⟨⟨rfl, trivial⟩, rfl, rfl⟩, ⟨rfl, rfl⟩, ⟨rfl, rfl⟩, ⟨rfl, rfl⟩, trivial⟩, ⟨rfl, rfl, rfl, rfl, fun i c hi hc => (by obtain rfl : i = 0 := (by omega); exact gS_rn ⟨rfl, trivial⟩)⟩, ⟨rfl, rfl, rfl, rfl, fun i c hi hc => gA_rn hc⟩, trivial⟩
      refine W_seq (nx := 30) ?_
      refine W_to (nx := 30) [(6, .ptr 1 0 0), (43, .int .i64 0), (8, .int .i64 0), (9, .int .i64 ((n : Nat) : Int))] [(1, .blk bS 1 8 (gS 0 (n + 2) b (shE n 0)) 61), (0, .blk bA (n + 2) 5 (gA (shU n 1) (shU n 1) (shL n 1) (fun _ => false) fun _ => false) 63)] 30 ?_ ?_
      · refine vc_sound hE 30 _ _ _ 30 ?_
        (refine (?_ : chk _ _); refine chk_ok (show (decide ((0 : Int) ≤ ((n : Nat) : Int)) && decide (((n : Nat) : Int) < ((n + 2 : Nat) : Int))) = true by simp only [Bool.and_eq_true, decide_eq_true_eq]; omega) ?_)
        (refine (?_ : chk _ _); refine chk_ok rfl ?_)
        (refine (?_ : chk _ _); refine chk_ok (Nat.ble_eq_true_of_le (show (n) * 5 + 0 + 5 ≤ (n + 2) * 5 by omega)) ?_)
        refine ⟨tau [], rfl, ⟨⟨⟨rfl, trivial⟩, rfl, rfl⟩, ⟨rfl, rfl⟩, ⟨rfl, rfl⟩, ⟨rfl, rfl⟩, trivial⟩, ⟨rfl, rfl, rfl, rfl, fun i c hi hc => (by obtain rfl : i = 0 := (by omega); exact gS_rn ⟨rfl, trivial⟩)⟩, ⟨rfl, rfl, rfl, rfl, fun i c hi hc => ?_⟩, trivial⟩
        refine gA_eq ((put5 (N := n + 2) gA_self (n) ((n : Nat) : Int) ((n : Nat) : Int) (-1) false false i c hi hc).trans ?_) hc
        have e1 : updI (shU n 0) (n) ((n : Nat) : Int) = shU n 1 := by
          funext i
          unfold updI shU
          by_cases q1 : i = n
          · subst q1; simp
          · rw [if_neg q1]
            by_cases q2 : n ≤ i ∧ i < n + 0
            · rw [if_pos q2, if_pos (by omega)]
            · rw [if_neg q2, if_neg (by omega)]
        have e2 : updI (shL n 0) (n) (-1) = shL n 1 := by
          funext i
          unfold updI shL
          by_cases q1 : i = n
          · subst q1; simp
          · rw [if_neg q1]
            by_cases q2 : i < n + 0
            · rw [if_pos q2, if_pos (by omega)]
            · rw [if_neg q2, if_neg (by omega)]
        have e3 : updB (fun _ => false) (n) false = fun _ => false := by funext i; unfold updB; split <;> rfl
        rw [e1, e2, e3]
      refine W_to (nx := 30) [(6, .ptr 1 0 0), (43, .int .i64 0)] [(1, .blk bS 1 8 (gS 0 (n + 2) b (shE n 1)) 61), (0, .blk bA (n + 2) 5 (gA (shU n 1) (shU n 1) (shL n 1) (fun _ => false) fun _ => false) 63)] 30 ?_ ?_
      · refine vc_sound hE 30 _ _ _ 30 ?_
        refine ⟨tau [], rfl, ⟨⟨⟨rfl, trivial⟩, rfl, rfl⟩, ⟨rfl, rfl⟩, trivial⟩, ⟨rfl, rfl, rfl, rfl, fun i c hi hc => ?_⟩, ⟨rfl, rfl, rfl, rfl, fun i c hi hc => gA_rn hc⟩, trivial⟩
        obtain rfl : i = 0 := by omega
        have e1 := putE (g := gS 0 (n + 2) b (shE n 0)) (fun c hc => rfl) 2 ((n : Nat) : Int) (by omega) c hc
        have e2 : updI (shE n 0) 2 ((n : Nat) : Int) = shE n 1 := by
          funext i
          unfold updI shE
          by_cases q1 : i = 2
          · subst q1; simp
          · by_cases q2 : i = 5
            · subst q2; simp
            · simp [q1, q2]
        rw [e2] at e1
        show rn _ _ (putG 8 (gS 0 (n + 2) b (shE n 0)) 0 (2 + 2) [V.int .i64 ((n : Nat) : Int)] 0 c) _
        rw [e1]
        exact gS_rn ⟨rfl, trivial⟩
      refine vc_sound hE 20 _ _ _ 30 ?_
      refine ⟨2 - 1, _, _, by omega, ⟨1, rfl, by omega, rfl, rfl⟩, tau [], rfl, ⟨⟨⟨rfl, trivial⟩, rfl, rfl⟩, ⟨rfl, rfl⟩, trivial⟩, ⟨rfl, rfl, rfl, rfl, fun i c hi hc => (by obtain rfl : i = 0 := (by omega); exact gS_rn ⟨rfl, trivial⟩)⟩, ⟨rfl, rfl, rfl, rfl, fun i c hi hc => gA_rn hc⟩, trivial⟩
    · -- list 1
      have hg : IntKind.i64.wrap ((⟨n + 2, b, shE n 1, shU n 1, shU n 1, shL n 1, fun _ => false, fun _ => false⟩ : Sh).n + (1 : Int)) = ((n + 1 : Nat) : Int) := by unfold Sh.n; simp only [IntKind.wrap_i64]; omega
      refine vc_sound hE 6 _ _ _ 30 ?_
      refine vc_sound hE 3 _ _ _ 30 ?_
      refine W_seq (nx := 30) ?_
      refine W_to (nx := 30) [(6, .ptr 1 0 0), (43, .int .i64 1), (8, .int .i64 1)] [(1, .blk bS 1 8 (gS 0 (n + 2) b (shE n 1)) 61), (0, .blk bA (n + 2) 5 (gA (shU n 1) (shU n 1) (shL n 1) (fun _ => false) fun _ => false) 63)] 30 ?_ ?_
      · refine vc_sound hE 20 _ _ _ 30 ?_
        exact ⟨tau [], rfl, ⟨⟨⟨rfl, trivial⟩, rfl, rfl⟩, ⟨rfl, rfl⟩, ⟨rfl, rfl⟩, trivial⟩, ⟨rfl, rfl, rfl, rfl, fun i c hi hc => (by obtain rfl : i = 0 := (by omega); exact gS_rn ⟨rfl, trivial⟩)⟩, ⟨rfl, rfl, rfl, rfl, fun i c hi hc => gA_rn hc⟩, trivial⟩
      refine W_seq (nx := 30) ?_
      refine W_to (nx := 30) [(6, .ptr 1 0 0), (43, .int .i64 1), (8, .int .i64 1), (9, .int .i64 ((n + 1 : Nat) : Int))] [(1, .blk bS 1 8 (gS 0 (n + 2) b (shE n 1)) 61), (0, .blk bA (n + 2) 5 (gA (shU n 1) (shU n 1) (shL n 1) (fun _ => false) fun _ => false) 63)] 30 ?_ ?_
      · refine vc_sound hE 20 _ _ _ 30 ?_
        refine ⟨_, ⟨n + 2, b, shE n 1, shU n 1, shU n 1, shL n 1, fun _ => false, fun _ => false⟩, _, rfl, ⟨1, 0, bS, bA, _, _, rfl, by decide, rfl, rfl, fun c hc => rfl, fun i c hi hc => rfl⟩, ?_⟩
        rw [hg]
        exact ⟨tau [], rfl, ⟨⟨⟨rfl, trivial⟩, rfl, rfl⟩, ⟨rfl, rfl⟩, ⟨rfl, rfl⟩, ⟨rfl, rfl⟩, trivial⟩, ⟨rfl, rfl, rfl, rfl, fun i c hi hc => (by obtain rfl : i = 0 := (by omega); exact gS_rn ⟨rfl, trivial⟩)⟩, ⟨rfl, rfl, rfl, rfl, fun i c hi hc => gA_rn hc⟩, trivial⟩
      refine W_seq (nx := 30) ?_
      refine W_to (nx := 30) [(6, .ptr 1 0 0), (43, .int .i64 1), (8, .int .i64 1), (9, .int .i64 ((n + 1 : Nat) : Int))] [(1, .blk bS 1 8 (gS 0 (n + 2) b (shE n 1)) 61), (0, .blk bA (n + 2) 5 (gA (shU n 2) (shU n 2) (shL n 2) (fun _ => false) fun _ => false) 63)] 30 ?_ ?_
      · refine vc_sound hE 30 _ _ _ 30 ?_
        (refine (?_ : chk _ _); refine chk_ok (show (decide ((0 : Int) ≤ ((n + 1 : Nat) : Int)) && decide (((n + 1 : Nat) : Int) < ((n + 2 : Nat) : Int))) = true by simp only [Bool.and_eq_true, decide_eq_true_eq]; omega) ?_)
        (refine (?_ : chk _ _); refine chk_ok rfl ?_)
        (refine (?_ : chk _ _); refine chk_ok (Nat.ble_eq_true_of_le (show (n + 1) * 5 + 0 + 5 ≤ (n + 2) * 5 by omega)) ?_)
        refine ⟨tau [], rfl, ⟨⟨⟨rfl, trivial⟩, rfl, rfl⟩, ⟨rfl, rfl⟩, ⟨rfl, rfl⟩, ⟨rfl, rfl⟩, trivial⟩, ⟨rfl, rfl, rfl, rfl, fun i c hi hc => (by obtain rfl : i = 0 := (by omega); exact gS_rn ⟨rfl, trivial⟩)⟩, ⟨rfl, rfl, rfl, rfl, fun i c hi hc => ?_⟩, trivial⟩
        refine gA_eq ((put5 (N := n + 2) gA_self (n + 1) ((n + 1 : Nat) : Int) ((n + 1 : Nat) : Int) (-1) false false i c hi hc).trans ?_) hc
        have e1 : updI (shU n 1) (n + 1) ((n + 1 : Nat) : Int) = shU n 2 := by
          funext i
          unfold updI shU
          by_cases q1 : i = n + 1
          · subst q1; simp
          · rw [if_neg q1]
            by_cases q2 : n ≤ i ∧ i < n + 1
            · rw [if_pos q2, if_pos (by omega)]
            · rw [if_neg q2, if_neg (by omega)]
        have e2 : updI (shL n 1) (n + 1) (-1) = shL n 2 := by
          funext i
          unfold updI shL
          by_cases q1 : i = n + 1
          · subst q1; simp
          · rw [if_neg q1]
            by_cases q2 : i < n + 1
            · rw [if_pos q2, if_pos (by omega)]
            · rw [if_neg q2, if_neg (by omega)]
        have e3 : updB (fun _ => false) (n + 1) false = fun _ => false := by funext i; unfold updB; split <;> rfl
        rw [e1, e2, e3]
      refine W_to (nx := 30) [(6, .ptr 1 0 0), (43, .int .i64 1)] [(1, .blk bS 1 8 (gS 0 (n + 2) b (shE n 2)) 61), (0, .blk bA (n + 2) 5 (gA (shU n 2) (shU n 2) (shL n 2) (fun _ => false) fun _ => false) 63)] 30 ?_ ?_
      · refine vc_sound hE 30 _ _ _ 30 ?_
        refine ⟨tau [], rfl, ⟨⟨⟨rfl, trivial⟩, rfl, rfl⟩, ⟨rfl, rfl⟩, trivial⟩, ⟨rfl, rfl, rfl, rfl, fun i c hi hc => ?_⟩, ⟨rfl, rfl, rfl, rfl, fun i c hi hc => gA_rn hc⟩, trivial⟩
        obtain rfl : i = 0 := by omega
        have e1 := putE (g := gS 0 (n + 2) b (shE n 1)) (fun c hc => rfl) 5 ((n + 1 : Nat) : Int) (by omega) c hc
        have e2 : updI (shE n 1) 5 ((n + 1 : Nat) : Int) = shE n 2 := by
          funext i
          unfold updI shE
          by_cases q1 : i = 2
          · subst q1; simp
          · by_cases q2 : i = 5
            · subst q2; simp
            · simp [q1, q2]
        rw [e2] at e1
        show rn _ _ (putG 8 (gS 0 (n + 2) b (shE n 1)) 0 (2 + 5) [V.int .i64 ((n + 1 : Nat) : Int)] 0 c) _
        rw [e1]
        exact gS_rn ⟨rfl, trivial⟩
      refine vc_sound hE 20 _ _ _ 30 ?_
      refine ⟨2 - 2, _, _, by omega, ⟨2, rfl, by omega, rfl, rfl⟩, tau [], rfl, ⟨⟨⟨rfl, trivial⟩, rfl, rfl⟩, ⟨rfl, rfl⟩, trivial⟩, ⟨rfl, rfl, rfl, rfl, fun i c hi hc => (by obtain rfl : i = 0 := (by omega); exact gS_rn ⟨rfl, trivial⟩)⟩, ⟨rfl, rfl, rfl, rfl, fun i c hi hc => gA_rn hc⟩, trivial⟩
    · refine vc_sound hE 40 _ _ _ 30 ?_
      refine ⟨tau [], rfl, ?_, ⟨rfl, rfl, rfl, rfl, fun i c hi hc => ?_⟩, ⟨rfl, rfl, rfl, rfl, fun i c hi hc => gA_rn hc⟩, trivial⟩
      · repeat' (first | exact rfl | exact trivial | refine ⟨?_, ?_⟩)
      · obtain rfl : i = 0 := by omega
        exact gS_rn ⟨rfl, trivial⟩
  refine vc_sound hE 60 _ _ _ 30 ?_
  exact .inr ⟨hm, bS, bA, _, _, rfl, rfl, rfl, fun c hc => by
    match c, hc with
    | 0, _ | 1, _ => rfl
    | c + 2, _ =>
      show V.int .i64 (shE n 2 c) = V.int .i64 _
      congr 1
      unfold shE newS
      by_cases q1 : c = 2
      · subst q1; simp
      · by_cases q2 : c = 5
        · subst q2; simp
        · simp [q1, q2], fun i c hi hc => by
    have hi : i < n + 2 := hi
    match c, hc with
    | 0, _ | 1, _ =>
      show V.int .i64 (shU n 2 i) = V.int .i64 (if n ≤ i then (i : Int) else 0)
      congr 1
      unfold shU
      by_cases q1 : n ≤ i
      · rw [if_pos ⟨q1, hi⟩, if_pos q1]
      · rw [if_neg (fun q => q1 q.1), if_neg q1]
    | 2, _ =>
      show V.int .i64 (shL n 2 i) = V.int .i64 (-1)
      unfold shL
      rw [if_pos hi]
    | 3, _ | 4, _ => rfl⟩

theorem new_ok : SpecOK Try.prog 9 sNew := by
  refine specOK_gen (fn := Try.f9) rfl rfl rfl T_ok (SP := [(25, sGuard)]) (consSP sGuard_ok noSP) _ ?_
  rintro args h nx K ⟨n, b, rfl, g0, g1, hk0, hk1⟩
  refine ⟨fun t => t, [], [.int .i64 n, .int .i64 b], rfl, fun p hp => absurd hp (by simp), ⟨⟨rfl, rfl⟩, ⟨rfl, rfl⟩, trivial⟩, by simp [Try.f9], fun o h1 => postNew n b o h1, ?_, ?_⟩
  · rintro o h1 (⟨e, rfl⟩ | ⟨e, bS, bA, gs, ga, rfl, e1, e2, c1, c2⟩)
    · refine ⟨fun t => t, [], _, nx, ⟨fun t ht => (by cases ht), fun t b n sz g ty e => (by cases e), fun t t' ht => (by cases ht), fun e he => ?_⟩, hk0 e⟩
      obtain ⟨x, rfl, rx⟩ := he
      exact ⟨x, rfl, flat_rel _ _ ⟨trivial, trivial, trivial⟩ rx⟩
    · refine ⟨tau [(nx, 1), (nx + 1, 0)], [(nx, _), (nx + 1, _)], _, nx + 2, ⟨fun t ht => ?_, fun t b n sz g ty e => (by cases e), fun t t' ht ht' hne => ?_, fun e he => ?_⟩, hk1 e bS bA⟩
      · have hkeys := memB_iff.1 ht
        simp only [List.map_cons, List.map_nil, List.mem_cons, List.not_mem_nil, or_false] at hkeys
        have hne : nx + 1 ≠ nx := by omega
        rcases hkeys with rfl | rfl
        · refine .inr (.inr ⟨bS, 1, 8, gs, _, 61, g0, ?_, by rw [fd_cons, if_pos rfl], fun t' b' n' sz' g' ty' q => (by cases q), fun i k hi hk => ?_⟩)
          · have : tau [(t, 1), (t + 1, 0)] t = 1 := by simp [tau]
            rw [this]; exact e1
          · obtain rfl : i = 0 := by omega
            rw [c1 k hk]
            match k, hk with
            | 0, _ => exact tell_slice (by rw [e2]; show (fd (t + 1) ((t, _) :: (t + 1, _) :: h)).rf = _; rw [fd_cons, if_neg hne, fd_cons, if_pos rfl]; rfl)
            | 1, _ => exact tell_flat (by trivial)
            | k + 2, _ => exact tell_flat (by trivial)
        · refine .inr (.inr ⟨bA, _, 5, ga, _, 63, g1, ?_, by rw [fd_cons, if_neg hne, fd_cons, if_pos rfl], fun t' b' n' sz' g' ty' q => (by cases q), fun i k hi hk => ?_⟩)
          · have : tau [(nx, 1), (nx + 1, 0)] (nx + 1) = 0 := by simp [tau, beq_ne hne]
            rw [this]; exact e2
          · rw [c2 i k hi hk]
            refine tell_flat ?_
            match k, hk with
            | 0, _ | 1, _ | 2, _ | 3, _ | 4, _ => trivial
      · have hk1 := memB_iff.1 ht
        have hk2 := memB_iff.1 ht'
        simp only [List.map_cons, List.map_nil, List.mem_cons, List.not_mem_nil, or_false] at hk1 hk2
        have hne2 : nx + 1 ≠ nx := by omega
        have t0 : tau [(nx, 1), (nx + 1, 0)] nx = 1 := by simp [tau]
        have t1 : tau [(nx, 1), (nx + 1, 0)] (nx + 1) = 0 := by simp [tau, beq_ne hne2]
        rcases hk1 with rfl | rfl <;> rcases hk2 with rfl | rfl
        · exact absurd rfl hne
        · rw [t0, t1]; decide
        · rw [t0, t1]; decide
        · exact absurd rfl hne
      · obtain ⟨x, rfl, rx⟩ := he
        obtain ⟨xs, rfl, y, ys, rfl, ry, rys⟩ := rx
        refine ⟨_, rfl, _, rfl, y, ys, rfl, tell_ptr (h1 := h1) ?_ _ ry, flatL_rel [.int .i64 0] _ ⟨trivial, trivial⟩ rys⟩
        rw [e1]; show (fd nx ((nx, _) :: _)).rf = _; rw [fd_cons, if_pos rfl]; rfl
  · intro c hc
    cases e : mayB n b with
    | true =>
      have hm' := e
      unfold mayB at hm'
      simp only [Bool.and_eq_true, decide_eq_true_eq] at hm'
      obtain ⟨m, rfl⟩ : ∃ m : Nat, n = m := ⟨n.toNat, by omega⟩
      obtain ⟨k, rfl⟩ : ∃ m : Nat, b = m := ⟨b.toNat, by omega⟩
      obtain ⟨cd, h1, h2⟩ := new_walk hc e
      cases h1
      exact h2
    | false =>
      have hE := mkE' (fn := Try.f9) (R := fun o h _ => postNew n b o h) hc (SP := [(25, sGuard)]) (consSP sGuard_ok noSP)
      refine W_seq (nx := 0) ?_
      refine W_to (nx := 0) [(0, .int .i64 n), (1, .int .i64 b)] [] 0 ?_ ?_
      · refine vc_sound hE 20 _ _ _ 0 ?_
        exact ⟨tau [], rfl, ⟨⟨rfl, rfl⟩, ⟨rfl, rfl⟩, trivial⟩, trivial⟩
      refine W_seq (nx := 0) ?_
      refine W_piece (fun _ _ _ => False) ?_ fun _ _ _ q => q.elim
      refine vc_sound hE 60 _ _ _ 0 ?_
      have no : ¬ (((1 ≤ n ∧ n ≤ 64) ∧ 1 ≤ b) ∧ b ≤ n) := by
        rintro q
        unfold mayB at e
        simp only [← Bool.not_eq_true, Bool.and_eq_true, decide_eq_true_eq] at e
        exact e q
      have fin : postNew n b (.ret (.tup [.nilp, .int .i64 1])) [] := .inl ⟨e, rfl⟩
      (refine (?_ : br _ _ _); refine br_dec (fun q => ?_) (fun q => ?_))
      · exact fin
      (refine (?_ : br _ _ _); refine br_dec (fun q2 => ?_) (fun q2 => ?_))
      · exact fin
      (refine (?_ : br _ _ _); refine br_dec (fun q3 => ?_) (fun q3 => ?_))
      · exact fin
      (refine (?_ : br _ _ _); refine br_dec (fun q4 => ?_) (fun q4 => ?_))
      · exact fin
      have q : ¬ n < 1 := q
      have q2 : ¬ 64 < n := q2
      have q3 : ¬ b < 1 := q3
      have q4 : ¬ n < b := q4
      exact absurd ⟨⟨⟨by omega, by omega⟩, by omega⟩, by omega⟩ no
end Go.Proofs.Ytdjekplkejkgdaa.Sx
