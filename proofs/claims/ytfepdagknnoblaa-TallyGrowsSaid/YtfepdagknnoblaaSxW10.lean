import Derived.Test.YtfepdagknnoblaaSxW8
import Derived.Test.YtfepdagknnoblaaSxX
/-
  The walks of this seat's functions, tenth part: the law TallyGrows.
-/
namespace Go.Proofs.Ytfepdagknnoblaa.Sx
open Go Go.Proofs
set_option maxRecDepth 100000
set_option linter.unusedSimpArgs false
set_option linter.unusedVariables false
set_option linter.unnecessarySimpa false

def gN (f : Nat → Int) : Nat → Nat → V := fun i _ => .int .u64 (f i)
def ten (T0 T1 T2 T3 T4 T5 T6 T7 T8 T9 : Int) : List Int := [T0, T1, T2, T3, T4, T5, T6, T7, T8, T9]
def tenV (l : List Int) : Nat → Nat → V := fun _ c => .int .u64 (l.getD c 0)
theorem up_le {w i t n : Int} (ht : bnd t) (hn : bnd n) : t ≤ up w i t n := by unfold up satI bnd at *; split <;> (try split) <;> omega
theorem up_ne {w i t n : Int} (h : i ≠ w) : up w i t n = t := by unfold up; rw [if_neg (fun e => h e.symm)]

theorem sat_free {a b : Int} (h : ¬ satI a b = 18446744073709551615) : satI a b = a + b := by
  unfold satI at *
  split at h
  · exact absurd rfl h
  · rename_i k
    rw [if_neg k]
theorem grow {k hd m T0 T1 T2 T3 T4 T5 T6 T7 T8 T9 : Int} (h1 : ¬ k < 1) (h2 : ¬ 9 < k) (h3 : k ≠ 5) (e0 : T0 = T1 + T2 + T3 + T4) (e5 : T5 = T6 + T7 + T8 + T9) (hh : hd = 0 ∧ k < 5 ∨ hd = 5 ∧ 5 < k)
    (held : heldB (up hd 0 (up k 0 T0 m) m) (up hd 1 (up k 1 T1 m) m) (up hd 2 (up k 2 T2 m) m) (up hd 3 (up k 3 T3 m) m) (up hd 4 (up k 4 T4 m) m) (up hd 5 (up k 5 T5 m) m) (up hd 6 (up k 6 T6 m) m) (up hd 7 (up k 7 T7 m) m) (up hd 8 (up k 8 T8 m) m) (up hd 9 (up k 9 T9 m) m) = false) : (up hd 0 (up k 0 T0 m) m) = (up hd 1 (up k 1 T1 m) m) + (up hd 2 (up k 2 T2 m) m) + (up hd 3 (up k 3 T3 m) m) + (up hd 4 (up k 4 T4 m) m) ∧ (up hd 5 (up k 5 T5 m) m) = (up hd 6 (up k 6 T6 m) m) + (up hd 7 (up k 7 T7 m) m) + (up hd 8 (up k 8 T8 m) m) + (up hd 9 (up k 9 T9 m) m) := by
  simp only [heldB, Bool.or_eq_false_iff, decide_eq_false_iff_not] at held
  obtain ⟨⟨⟨⟨⟨⟨⟨⟨⟨q0, q1⟩, q2⟩, q3⟩, q4⟩, q5⟩, q6⟩, q7⟩, q8⟩, q9⟩ := held
  have hk : k = 1 ∨ k = 2 ∨ k = 3 ∨ k = 4 ∨ k = 6 ∨ k = 7 ∨ k = 8 ∨ k = 9 := by omega
  rcases hh with ⟨rfl, hh⟩ | ⟨rfl, hh⟩ <;> rcases hk with rfl | rfl | rfl | rfl | rfl | rfl | rfl | rfl <;> first | omega | skip
  all_goals
    simp [up] at q0 q1 q2 q3 q4 q5 q6 q7 q8 q9 ⊢
    try rw [sat_free q0]
    try rw [sat_free q1]
    try rw [sat_free q2]
    try rw [sat_free q3]
    try rw [sat_free q4]
    try rw [sat_free q5]
    try rw [sat_free q6]
    try rw [sat_free q7]
    try rw [sat_free q8]
    try rw [sat_free q9]
    omega
theorem sound_of {T0 T1 T2 T3 T4 T5 T6 T7 T8 T9 : Int} (t0 : bnd T0) (t1 : bnd T1) (t2 : bnd T2) (t3 : bnd T3) (t4 : bnd T4) (t5 : bnd T5) (t6 : bnd T6) (t7 : bnd T7) (t8 : bnd T8) (t9 : bnd T9) (e0 : T0 = T1 + T2 + T3 + T4) (e5 : T5 = T6 + T7 + T8 + T9) : sndA T0 T1 T2 T3 T4 T5 T6 T7 T8 T9 = true ∧ sndB T0 T1 T2 T3 T4 T5 T6 T7 T8 T9 0 0 = true := by
  unfold bnd at *
  have f : ∀ a b : Int, 0 ≤ a → 0 ≤ b → a + b ≤ 18446744073709551615 → satI a b = a + b := fun a b _ _ h => by unfold satI; rw [if_neg (by omega)]
  constructor
  · unfold sndA
    rw [f 0 T1 (by omega) (by omega) (by omega), f (0 + T1) T2 (by omega) (by omega) (by omega), f (0 + T1 + T2) T3 (by omega) (by omega) (by omega), f (0 + T1 + T2 + T3) T4 (by omega) (by omega) (by omega)]
    simp; omega
  · unfold sndB
    rw [f 0 T6 (by omega) (by omega) (by omega), f (0 + T6) T7 (by omega) (by omega) (by omega), f (0 + T6 + T7) T8 (by omega) (by omega) (by omega), f (0 + T6 + T7 + T8) T9 (by omega) (by omega) (by omega), f (0 + T6 + T7 + T8 + T9) 0 (by omega) (by omega) (by omega), f (0 + T6 + T7 + T8 + T9 + 0) 0 (by omega) (by omega) (by omega)]
    simp; omega

def sLaw5 : Spec := fun args h nx K => ∃ (b : Option Addr) (n c : Nat) (f m : Nat → Int), args = [.slice 2000 0 n c] ∧ Has (roH h) [(2000, .ro b n 2 (g2 .i64 .u64 f m))] ∧ n ≤ 9223372036854775807 ∧ (∀ i, i < n → IntKind.i64.has (f i) ∧ bnd (m i)) ∧ K (.ret (.bool true)) h nx

/-- What is known at the head of the law's loop. -/
def J5 (b : Option Addr) (n c : Nat) (f m : Nat → Int) : Nat → Sl → Hp → Prop := fun r σ h => ∃ (i bb : Nat) (T0 T1 T2 T3 T4 T5 T6 T7 T8 T9 : Int), r = 200 - i ∧ i ≤ 200 ∧ (bnd T0 ∧ bnd T1 ∧ bnd T2 ∧ bnd T3 ∧ bnd T4 ∧ bnd T5 ∧ bnd T6 ∧ bnd T7 ∧ bnd T8 ∧ bnd T9) ∧ T0 = T1 + T2 + T3 + T4 ∧ T5 = T6 + T7 + T8 + T9 ∧
  σ = [(0, .slice 2000 0 n c), (3, .ptr 5 0 0), (4, .int .i64 i)] ∧ h = [(5, .blk bb 1 10 (tenV (ten T0 T1 T2 T3 T4 T5 T6 T7 T8 T9)) 24), (2000, .ro b n 2 (g2 .i64 .u64 f m))]
/-- What is known at the head of the loop within. -/
def J6 (b : Option Addr) (n c : Nat) (f m : Nat → Int) (i b5 b6 b7 b8 : Nat) (k hd : Int) (g5 : Nat → Nat → V) (was V : Nat → Int) : Nat → Sl → Hp → Prop := fun r σ h => ∃ j : Nat, r = 10 - j ∧ j ≤ 10 ∧
  σ = [(0, .slice 2000 0 n c), (3, .ptr 5 0 0), (4, .int .i64 i), (6, .int .i64 k), (7, .int .i64 hd), (8, .ptr 6 0 0), (11, .ptr 7 0 0), (13, .ptr 8 0 0), (14, .int .i64 j)] ∧
  h = [(5, .blk b5 1 10 g5 24), (6, .blk b6 10 1 (gN was) 31), (7, .blk b7 1 10 (fun _ c => .int .u64 (V c)) 24), (8, .blk b8 10 1 (gN V) 31), (2000, .ro b n 2 (g2 .i64 .u64 f m))]

set_option maxHeartbeats 4000000 in
theorem sLaw5_ok : SpecOK Try.prog 5 sLaw5 := by
  refine specOK_read (fn := Try.f5) rfl rfl rfl T_ok (SP := SPF) spf_ok 400 _ ?_
  rintro args h nx K ⟨b, n, c, f, m, rfl, hG, hn, hb, hk⟩
  refine ⟨[(2000, .ro b n 2 (g2 .i64 .u64 f m))], ?_, hG, ?_, by simp [Try.f5], fun o => o = .ret (.bool true), ?_, ?_⟩
  · refine ⟨fun i c hi hc => ?_, trivial⟩
    match c, hc with
    | 0, _ => trivial
    | 1, _ => trivial
  · exact ⟨rfl, trivial⟩
  · rintro o rfl; exact ⟨trivial, hk⟩
  intro cx hc
  clear hk
  intro b5
  refine W_loop (J5 b n c f m) 200 ⟨0, b5, 0, 0, 0, 0, 0, 0, 0, 0, 0, 0, rfl, by omega, ⟨bnd0, bnd0, bnd0, bnd0, bnd0, bnd0, bnd0, bnd0, bnd0, bnd0⟩, rfl, rfl, rfl, rfl⟩ (tau [(5, 0)]) ?_ 30 ?_
  · refine ⟨by rfl, ?_, ?_⟩
    · repeat' (first | exact rfl | exact trivial | refine ⟨?_, ?_⟩)
    · refine ⟨⟨rfl, rfl, rfl, rfl, fun i c hi hc => ?_⟩, ⟨rfl, rfl, rfl, fun i c hi hc => ?_⟩, trivial⟩
      · have hi : i < 1 := hi
        obtain rfl : i = 0 := by omega
        match c, hc with
        | 0, _ | 1, _ | 2, _ | 3, _ | 4, _ | 5, _ | 6, _ | 7, _ | 8, _ | 9, _ => exact ⟨rfl, rfl⟩
      · match c, hc with
        | 0, _ | 1, _ => exact ⟨rfl, rfl⟩
  rintro r σ h1 ⟨i, bb, T0, T1, T2, T3, T4, T5, T6, T7, T8, T9, rfl, hi, ⟨t0, t1, t2, t3, t4, t5, t6, t7, t8, t9⟩, e0, e5, rfl, rfl⟩
  refine vc_sound (mkE hc T_ok spf_ok) 400 _ _ _ 30 ?_
  (refine (?_ : br _ _ _); refine br_dec (fun hin => ?_) (fun hin => ?_))
  · (refine (?_ : br _ _ _); refine br_dec (fun hi2 => ?_) (fun hi2 => ?_))
    · have hin : (i : Int) < (n : Int) := hin
      have hin' : i < n := by omega
      have hi2 : (i : Int) < 200 := hi2
      (refine (?_ : chk _ _); refine chk_ok (by simp; omega) ?_)
      (refine (?_ : chk _ _); refine chk_ok rfl ?_)
      (refine (?_ : chk _ _); refine chk_ok (Nat.ble_eq_true_of_le (show i * 2 + 0 + 2 ≤ n * 2 by omega)) ?_)
      intro b6
      have hw : IntKind.i64.wrap ((i : Int) + 1) = ((i + 1 : Nat) : Int) := by simp [IntKind.wrap_i64]; omega
      have hm' := (hb i hin').2
      (refine (?_ : br _ _ _); refine br_dec (fun h1 => ?_) (fun h1 => ?_))
      · skip
        refine ⟨200 - (i + 1), _, _, by omega, ⟨i + 1, bb, T0, T1, T2, T3, T4, T5, T6, T7, T8, T9, rfl, by omega, ⟨t0, t1, t2, t3, t4, t5, t6, t7, t8, t9⟩, e0, e5, rfl, rfl⟩, tau [], rfl, ?_, ?_⟩
        · repeat' (first | exact rfl | exact trivial | exact hw | refine ⟨?_, ?_⟩)
        · refine ⟨⟨rfl, rfl, rfl, rfl, fun i c hi hc => ?_⟩, ⟨rfl, rfl, rfl, fun i c hi hc => ?_⟩, trivial⟩
          · exact ⟨rfl, rfl⟩
          · match c, hc with
            | 0, _ | 1, _ => exact ⟨rfl, rfl⟩
      (refine (?_ : br _ _ _); refine br_dec (fun h2 => ?_) (fun h2 => ?_))
      · skip
        refine ⟨200 - (i + 1), _, _, by omega, ⟨i + 1, bb, T0, T1, T2, T3, T4, T5, T6, T7, T8, T9, rfl, by omega, ⟨t0, t1, t2, t3, t4, t5, t6, t7, t8, t9⟩, e0, e5, rfl, rfl⟩, tau [], rfl, ?_, ?_⟩
        · repeat' (first | exact rfl | exact trivial | exact hw | refine ⟨?_, ?_⟩)
        · refine ⟨⟨rfl, rfl, rfl, rfl, fun i c hi hc => ?_⟩, ⟨rfl, rfl, rfl, fun i c hi hc => ?_⟩, trivial⟩
          · exact ⟨rfl, rfl⟩
          · match c, hc with
            | 0, _ | 1, _ => exact ⟨rfl, rfl⟩
      (refine (?_ : br _ _ _); refine br_eq (fun h3 => ?_) (fun h3 => ?_))
      · skip
        refine ⟨200 - (i + 1), _, _, by omega, ⟨i + 1, bb, T0, T1, T2, T3, T4, T5, T6, T7, T8, T9, rfl, by omega, ⟨t0, t1, t2, t3, t4, t5, t6, t7, t8, t9⟩, e0, e5, rfl, rfl⟩, tau [], rfl, ?_, ?_⟩
        · repeat' (first | exact rfl | exact trivial | exact hw | refine ⟨?_, ?_⟩)
        · refine ⟨⟨rfl, rfl, rfl, rfl, fun i c hi hc => ?_⟩, ⟨rfl, rfl, rfl, fun i c hi hc => ?_⟩, trivial⟩
          · exact ⟨rfl, rfl⟩
          · match c, hc with
            | 0, _ | 1, _ => exact ⟨rfl, rfl⟩
      have h1 : ¬ f i < 1 := h1
      have h2 : ¬ 9 < f i := h2
      have h3 : f i ≠ 5 := h3
      (refine (?_ : br _ _ _); refine br_dec (fun h4 => ?_) (fun h4 => ?_))
      · intro b7
        refine ⟨by repeat' (first | assumption | exact hm' | exact bnd0 | exact bndM | apply up_bnd | apply sat_bnd), ⟨by repeat' (first | assumption | exact hm' | exact bnd0 | exact bndM | apply up_bnd | apply sat_bnd), by repeat' (first | assumption | exact hm' | exact bnd0 | exact bndM | apply up_bnd | apply sat_bnd), by repeat' (first | assumption | exact hm' | exact bnd0 | exact bndM | apply up_bnd | apply sat_bnd), by repeat' (first | assumption | exact hm' | exact bnd0 | exact bndM | apply up_bnd | apply sat_bnd), by repeat' (first | assumption | exact hm' | exact bnd0 | exact bndM | apply up_bnd | apply sat_bnd), by repeat' (first | assumption | exact hm' | exact bnd0 | exact bndM | apply up_bnd | apply sat_bnd), by repeat' (first | assumption | exact hm' | exact bnd0 | exact bndM | apply up_bnd | apply sat_bnd), by repeat' (first | assumption | exact hm' | exact bnd0 | exact bndM | apply up_bnd | apply sat_bnd), by repeat' (first | assumption | exact hm' | exact bnd0 | exact bndM | apply up_bnd | apply sat_bnd), by repeat' (first | assumption | exact hm' | exact bnd0 | exact bndM | apply up_bnd | apply sat_bnd)⟩, ?_⟩
        intro b8
        refine ⟨by repeat' (first | assumption | exact hm' | exact bnd0 | exact bndM | apply up_bnd | apply sat_bnd), ⟨by repeat' (first | assumption | exact hm' | exact bnd0 | exact bndM | apply up_bnd | apply sat_bnd), by repeat' (first | assumption | exact hm' | exact bnd0 | exact bndM | apply up_bnd | apply sat_bnd), by repeat' (first | assumption | exact hm' | exact bnd0 | exact bndM | apply up_bnd | apply sat_bnd), by repeat' (first | assumption | exact hm' | exact bnd0 | exact bndM | apply up_bnd | apply sat_bnd), by repeat' (first | assumption | exact hm' | exact bnd0 | exact bndM | apply up_bnd | apply sat_bnd), by repeat' (first | assumption | exact hm' | exact bnd0 | exact bndM | apply up_bnd | apply sat_bnd), by repeat' (first | assumption | exact hm' | exact bnd0 | exact bndM | apply up_bnd | apply sat_bnd), by repeat' (first | assumption | exact hm' | exact bnd0 | exact bndM | apply up_bnd | apply sat_bnd), by repeat' (first | assumption | exact hm' | exact bnd0 | exact bndM | apply up_bnd | apply sat_bnd), by repeat' (first | assumption | exact hm' | exact bnd0 | exact bndM | apply up_bnd | apply sat_bnd)⟩, ?_⟩
        intro b9
        (refine (?_ : br _ _ _); refine br_f (show (inW (f i) != 0) = false by simp [inW]; omega) ?_)
        (refine (?_ : br _ _ _); refine br_both (fun _ => ?_) (fun held => ?_))
        · rfl
        have held : heldB (up 5 0 (up (f i) 0 T0 (m i)) (m i)) (up 5 1 (up (f i) 1 T1 (m i)) (m i)) (up 5 2 (up (f i) 2 T2 (m i)) (m i)) (up 5 3 (up (f i) 3 T3 (m i)) (m i)) (up 5 4 (up (f i) 4 T4 (m i)) (m i)) (up 5 5 (up (f i) 5 T5 (m i)) (m i)) (up 5 6 (up (f i) 6 T6 (m i)) (m i)) (up 5 7 (up (f i) 7 T7 (m i)) (m i)) (up 5 8 (up (f i) 8 T8 (m i)) (m i)) (up 5 9 (up (f i) 9 T9 (m i)) (m i)) = false := held
        intro b10
        obtain ⟨ge0, ge5⟩ := grow (k := f i) (hd := 5) (m := m i) h1 h2 h3 e0 e5 (.inr ⟨rfl, h4⟩) held
        obtain ⟨V, hV⟩ : ∃ V : Nat → Int, V = fun j => [up 5 0 (up (f i) 0 T0 (m i)) (m i), up 5 1 (up (f i) 1 T1 (m i)) (m i), up 5 2 (up (f i) 2 T2 (m i)) (m i), up 5 3 (up (f i) 3 T3 (m i)) (m i), up 5 4 (up (f i) 4 T4 (m i)) (m i), up 5 5 (up (f i) 5 T5 (m i)) (m i), up 5 6 (up (f i) 6 T6 (m i)) (m i), up 5 7 (up (f i) 7 T7 (m i)) (m i), up 5 8 (up (f i) 8 T8 (m i)) (m i), up 5 9 (up (f i) 9 T9 (m i)) (m i)].getD j 0 := ⟨_, rfl⟩
        have hP : ∀ j : Nat, j < 10 → (ten T0 T1 T2 T3 T4 T5 T6 T7 T8 T9).getD j 0 ≤ V j := by
          intro j hj
          rw [hV]
          match j, hj with
          | 0, _ => exact (show T0 ≤ up 5 0 (up (f i) 0 T0 (m i)) (m i) from Int.le_trans (up_le t0 hm') (up_le (up_bnd t0 hm') hm'))
          | 1, _ => exact (show T1 ≤ up 5 1 (up (f i) 1 T1 (m i)) (m i) from Int.le_trans (up_le t1 hm') (up_le (up_bnd t1 hm') hm'))
          | 2, _ => exact (show T2 ≤ up 5 2 (up (f i) 2 T2 (m i)) (m i) from Int.le_trans (up_le t2 hm') (up_le (up_bnd t2 hm') hm'))
          | 3, _ => exact (show T3 ≤ up 5 3 (up (f i) 3 T3 (m i)) (m i) from Int.le_trans (up_le t3 hm') (up_le (up_bnd t3 hm') hm'))
          | 4, _ => exact (show T4 ≤ up 5 4 (up (f i) 4 T4 (m i)) (m i) from Int.le_trans (up_le t4 hm') (up_le (up_bnd t4 hm') hm'))
          | 5, _ => exact (show T5 ≤ up 5 5 (up (f i) 5 T5 (m i)) (m i) from Int.le_trans (up_le t5 hm') (up_le (up_bnd t5 hm') hm'))
          | 6, _ => exact (show T6 ≤ up 5 6 (up (f i) 6 T6 (m i)) (m i) from Int.le_trans (up_le t6 hm') (up_le (up_bnd t6 hm') hm'))
          | 7, _ => exact (show T7 ≤ up 5 7 (up (f i) 7 T7 (m i)) (m i) from Int.le_trans (up_le t7 hm') (up_le (up_bnd t7 hm') hm'))
          | 8, _ => exact (show T8 ≤ up 5 8 (up (f i) 8 T8 (m i)) (m i) from Int.le_trans (up_le t8 hm') (up_le (up_bnd t8 hm') hm'))
          | 9, _ => exact (show T9 ≤ up 5 9 (up (f i) 9 T9 (m i)) (m i) from Int.le_trans (up_le t9 hm') (up_le (up_bnd t9 hm') hm'))
        have hQ : ∀ j : Nat, j < 10 → (j : Int) ≠ f i → (j : Int) ≠ 5 → V j = (ten T0 T1 T2 T3 T4 T5 T6 T7 T8 T9).getD j 0 := by
          intro j hj n1 n2
          rw [hV]
          match j, hj with
          | 0, _ => exact (show up 5 0 (up (f i) 0 T0 (m i)) (m i) = T0 from (up_ne n2).trans (up_ne n1))
          | 1, _ => exact (show up 5 1 (up (f i) 1 T1 (m i)) (m i) = T1 from (up_ne n2).trans (up_ne n1))
          | 2, _ => exact (show up 5 2 (up (f i) 2 T2 (m i)) (m i) = T2 from (up_ne n2).trans (up_ne n1))
          | 3, _ => exact (show up 5 3 (up (f i) 3 T3 (m i)) (m i) = T3 from (up_ne n2).trans (up_ne n1))
          | 4, _ => exact (show up 5 4 (up (f i) 4 T4 (m i)) (m i) = T4 from (up_ne n2).trans (up_ne n1))
          | 5, _ => exact (show up 5 5 (up (f i) 5 T5 (m i)) (m i) = T5 from (up_ne n2).trans (up_ne n1))
          | 6, _ => exact (show up 5 6 (up (f i) 6 T6 (m i)) (m i) = T6 from (up_ne n2).trans (up_ne n1))
          | 7, _ => exact (show up 5 7 (up (f i) 7 T7 (m i)) (m i) = T7 from (up_ne n2).trans (up_ne n1))
          | 8, _ => exact (show up 5 8 (up (f i) 8 T8 (m i)) (m i) = T8 from (up_ne n2).trans (up_ne n1))
          | 9, _ => exact (show up 5 9 (up (f i) 9 T9 (m i)) (m i) = T9 from (up_ne n2).trans (up_ne n1))
        have hB : ∀ j : Nat, j < 10 → bnd (V j) := by
          intro j hj
          rw [hV]
          match j, hj with
          | 0, _ => exact (show bnd (up 5 0 (up (f i) 0 T0 (m i)) (m i)) from up_bnd (up_bnd t0 hm') hm')
          | 1, _ => exact (show bnd (up 5 1 (up (f i) 1 T1 (m i)) (m i)) from up_bnd (up_bnd t1 hm') hm')
          | 2, _ => exact (show bnd (up 5 2 (up (f i) 2 T2 (m i)) (m i)) from up_bnd (up_bnd t2 hm') hm')
          | 3, _ => exact (show bnd (up 5 3 (up (f i) 3 T3 (m i)) (m i)) from up_bnd (up_bnd t3 hm') hm')
          | 4, _ => exact (show bnd (up 5 4 (up (f i) 4 T4 (m i)) (m i)) from up_bnd (up_bnd t4 hm') hm')
          | 5, _ => exact (show bnd (up 5 5 (up (f i) 5 T5 (m i)) (m i)) from up_bnd (up_bnd t5 hm') hm')
          | 6, _ => exact (show bnd (up 5 6 (up (f i) 6 T6 (m i)) (m i)) from up_bnd (up_bnd t6 hm') hm')
          | 7, _ => exact (show bnd (up 5 7 (up (f i) 7 T7 (m i)) (m i)) from up_bnd (up_bnd t7 hm') hm')
          | 8, _ => exact (show bnd (up 5 8 (up (f i) 8 T8 (m i)) (m i)) from up_bnd (up_bnd t8 hm') hm')
          | 9, _ => exact (show bnd (up 5 9 (up (f i) 9 T9 (m i)) (m i)) from up_bnd (up_bnd t9 hm') hm')
        have hS0 : V 0 = V 1 + V 2 + V 3 + V 4 := by rw [hV]; exact ge0
        have hS5 : V 5 = V 6 + V 7 + V 8 + V 9 := by rw [hV]; exact ge5
        refine W_loop (J6 b n c f m i bb b7 b9 b10 (f i) 5 (tenV (ten T0 T1 T2 T3 T4 T5 T6 T7 T8 T9)) (fun j => (ten T0 T1 T2 T3 T4 T5 T6 T7 T8 T9).getD j 0) V) 10 ⟨0, rfl, by omega, rfl, rfl⟩ (tau [(6, 31), (7, 33), (8, 34)]) ?_ 50 ?_
        · subst hV
          refine ⟨by rfl, ?_, ?_⟩
          · repeat' (first | exact rfl | exact trivial | refine ⟨?_, ?_⟩)
          · refine ⟨⟨rfl, rfl, rfl, rfl, fun i c hi hc => ⟨rfl, rfl⟩⟩, ⟨rfl, rfl, rfl, rfl, fun i c hi hc => ?_⟩, ⟨rfl, rfl, rfl, rfl, fun i c hi hc => ?_⟩, ⟨rfl, rfl, rfl, rfl, fun i c hi hc => ?_⟩, ⟨rfl, rfl, rfl, fun i c hi hc => ?_⟩, trivial⟩
            · have hi : i < 10 := hi
              have hc : c < 1 := hc
              obtain rfl : c = 0 := by omega
              match i, hi with
              | 0, _ | 1, _ | 2, _ | 3, _ | 4, _ | 5, _ | 6, _ | 7, _ | 8, _ | 9, _ => exact ⟨rfl, rfl⟩
            · have hi : i < 1 := hi
              obtain rfl : i = 0 := by omega
              match c, hc with
              | 0, _ | 1, _ | 2, _ | 3, _ | 4, _ | 5, _ | 6, _ | 7, _ | 8, _ | 9, _ => exact ⟨rfl, rfl⟩
            · have hi : i < 10 := hi
              have hc : c < 1 := hc
              obtain rfl : c = 0 := by omega
              match i, hi with
              | 0, _ | 1, _ | 2, _ | 3, _ | 4, _ | 5, _ | 6, _ | 7, _ | 8, _ | 9, _ => exact ⟨rfl, rfl⟩
            · match c, hc with
              | 0, _ | 1, _ => exact ⟨rfl, rfl⟩
        rintro r2 σ2 h6 ⟨j, rfl, hj, rfl, rfl⟩
        refine vc_sound (mkE hc T_ok spf_ok) 400 _ _ _ 50 ?_
        (refine (?_ : br _ _ _); refine br_dec (fun hj2 => ?_) (fun hj2 => ?_))
        · have hj2 : (j : Int) < 10 := hj2
          have hj3 : j < 10 := by omega
          have hw2 : IntKind.i64.wrap ((j : Int) + 1) = ((j + 1 : Nat) : Int) := by simp [IntKind.wrap_i64]; omega
          have p1 := hP j hj3
          have q1 := hQ j hj3
          refine W_drawn (id := 24) (mkE hc T_ok spf_ok) 60 1000 (by rw [hc]; exact mix) (by kernel_rfl) (by kernel_rfl) 200 ?_
          refine ⟨_, ⟨rfl, rfl⟩, ?_⟩
          refine ⟨.ptr 8 j 0, (show chk _ _ from chk_ok (by simp; omega) ⟨rfl, rfl⟩), ?_⟩
          refine ⟨.int .u64 (V j), (show chk _ _ from chk_ok (Nat.ble_eq_true_of_le (show j * 1 + 0 + 1 ≤ 10 * 1 by omega)) ⟨rfl, rfl⟩), ?_⟩
          refine ⟨_, ⟨rfl, rfl⟩, ?_⟩
          refine ⟨.ptr 6 j 0, (show chk _ _ from chk_ok (by simp; omega) ⟨rfl, rfl⟩), ?_⟩
          refine ⟨.int .u64 ((ten T0 T1 T2 T3 T4 T5 T6 T7 T8 T9).getD j 0), (show chk _ _ from chk_ok (Nat.ble_eq_true_of_le (show j * 1 + 0 + 1 ≤ 10 * 1 by omega)) ⟨rfl, rfl⟩), ?_⟩
          refine ⟨_, ⟨rfl, rfl⟩, ?_⟩
          refine ⟨_, ⟨rfl, rfl⟩, ?_⟩
          (refine (?_ : br _ _ _); refine br_decF (show ¬ V j < (ten T0 T1 T2 T3 T4 T5 T6 T7 T8 T9).getD j 0 by omega) ?_)
          refine ⟨_, ⟨rfl, rfl⟩, ?_⟩
          refine ⟨.ptr 8 j 0, (show chk _ _ from chk_ok (by simp; omega) ⟨rfl, rfl⟩), ?_⟩
          refine ⟨.int .u64 (V j), (show chk _ _ from chk_ok (Nat.ble_eq_true_of_le (show j * 1 + 0 + 1 ≤ 10 * 1 by omega)) ⟨rfl, rfl⟩), ?_⟩
          refine ⟨_, ⟨rfl, rfl⟩, ?_⟩
          refine ⟨.ptr 6 j 0, (show chk _ _ from chk_ok (by simp; omega) ⟨rfl, rfl⟩), ?_⟩
          refine ⟨.int .u64 ((ten T0 T1 T2 T3 T4 T5 T6 T7 T8 T9).getD j 0), (show chk _ _ from chk_ok (Nat.ble_eq_true_of_le (show j * 1 + 0 + 1 ≤ 10 * 1 by omega)) ⟨rfl, rfl⟩), ?_⟩
          refine ⟨_, ⟨rfl, rfl⟩, ?_⟩
          refine ⟨_, ⟨rfl, rfl⟩, ?_⟩
          (refine (?_ : br _ _ _); refine br_ne (fun d1 => ?_) (fun d1 => ?_))
          · refine ⟨_, ⟨rfl, rfl⟩, ?_⟩
            refine ⟨_, ⟨rfl, rfl⟩, ?_⟩
            refine ⟨_, ⟨rfl, rfl⟩, ?_⟩
            refine ⟨_, ⟨rfl, rfl⟩, ?_⟩
            refine ⟨_, ⟨rfl, rfl⟩, ?_⟩
            (refine (?_ : br _ _ _); refine br_ne (fun d2 => ?_) (fun d2 => ?_))
            · refine ⟨_, ⟨rfl, rfl⟩, ?_⟩
              refine ⟨_, ⟨rfl, rfl⟩, ?_⟩
              refine ⟨_, ⟨rfl, rfl⟩, ?_⟩
              refine ⟨_, ⟨rfl, rfl⟩, ?_⟩
              refine ⟨_, ⟨rfl, rfl⟩, ?_⟩
              (refine (?_ : br _ _ _); refine br_neF (Classical.byContradiction fun d3 => d1 (q1 d2 d3)) ?_)
              refine ⟨10 - (j + 1), _, _, by omega, ⟨j + 1, rfl, by omega, rfl, rfl⟩, tau [], rfl, ?_, ?_⟩
              · repeat' (first | exact rfl | exact trivial | exact hw2 | refine ⟨?_, ?_⟩)
              · refine ⟨⟨rfl, rfl, rfl, rfl, fun i c hi hc => ⟨rfl, rfl⟩⟩, ⟨rfl, rfl, rfl, rfl, fun i c hi hc => ⟨rfl, rfl⟩⟩, ⟨rfl, rfl, rfl, rfl, fun i c hi hc => ⟨rfl, rfl⟩⟩, ⟨rfl, rfl, rfl, rfl, fun i c hi hc => ⟨rfl, rfl⟩⟩, ⟨rfl, rfl, rfl, fun i c hi hc => ?_⟩, trivial⟩
                match c, hc with
                | 0, _ | 1, _ => exact ⟨rfl, rfl⟩
            · refine ⟨_, ⟨rfl, rfl⟩, ?_⟩
              refine ⟨_, ⟨rfl, rfl⟩, ?_⟩
              refine ⟨10 - (j + 1), _, _, by omega, ⟨j + 1, rfl, by omega, rfl, rfl⟩, tau [], rfl, ?_, ?_⟩
              · repeat' (first | exact rfl | exact trivial | exact hw2 | refine ⟨?_, ?_⟩)
              · refine ⟨⟨rfl, rfl, rfl, rfl, fun i c hi hc => ⟨rfl, rfl⟩⟩, ⟨rfl, rfl, rfl, rfl, fun i c hi hc => ⟨rfl, rfl⟩⟩, ⟨rfl, rfl, rfl, rfl, fun i c hi hc => ⟨rfl, rfl⟩⟩, ⟨rfl, rfl, rfl, rfl, fun i c hi hc => ⟨rfl, rfl⟩⟩, ⟨rfl, rfl, rfl, fun i c hi hc => ?_⟩, trivial⟩
                match c, hc with
                | 0, _ | 1, _ => exact ⟨rfl, rfl⟩
          · refine ⟨_, ⟨rfl, rfl⟩, ?_⟩
            refine ⟨_, ⟨rfl, rfl⟩, ?_⟩
            refine ⟨_, ⟨rfl, rfl⟩, ?_⟩
            refine ⟨_, ⟨rfl, rfl⟩, ?_⟩
            refine ⟨10 - (j + 1), _, _, by omega, ⟨j + 1, rfl, by omega, rfl, rfl⟩, tau [], rfl, ?_, ?_⟩
            · repeat' (first | exact rfl | exact trivial | exact hw2 | refine ⟨?_, ?_⟩)
            · refine ⟨⟨rfl, rfl, rfl, rfl, fun i c hi hc => ⟨rfl, rfl⟩⟩, ⟨rfl, rfl, rfl, rfl, fun i c hi hc => ⟨rfl, rfl⟩⟩, ⟨rfl, rfl, rfl, rfl, fun i c hi hc => ⟨rfl, rfl⟩⟩, ⟨rfl, rfl, rfl, rfl, fun i c hi hc => ⟨rfl, rfl⟩⟩, ⟨rfl, rfl, rfl, fun i c hi hc => ?_⟩, trivial⟩
              match c, hc with
              | 0, _ | 1, _ => exact ⟨rfl, rfl⟩
        · obtain ⟨sA, sB⟩ := sound_of (hB 0 (by omega)) (hB 1 (by omega)) (hB 2 (by omega)) (hB 3 (by omega)) (hB 4 (by omega)) (hB 5 (by omega)) (hB 6 (by omega)) (hB 7 (by omega)) (hB 8 (by omega)) (hB 9 (by omega)) hS0 hS5
          refine ⟨⟨hB 0 (by omega), hB 1 (by omega), hB 2 (by omega), hB 3 (by omega), hB 4 (by omega), hB 5 (by omega), hB 6 (by omega), hB 7 (by omega), hB 8 (by omega), hB 9 (by omega)⟩, bnd0, bnd0, ?_⟩
          (refine (?_ : br _ _ _); refine br_f (show (!(sndA (V 0) (V 1) (V 2) (V 3) (V 4) (V 5) (V 6) (V 7) (V 8) (V 9))) = false by rw [sA]; rfl) ?_)
          (refine (?_ : br _ _ _); refine br_f (show (!(sndB (V 0) (V 1) (V 2) (V 3) (V 4) (V 5) (V 6) (V 7) (V 8) (V 9) 0 0)) = false by rw [sB]; rfl) ?_)
          refine ⟨200 - (i + 1), _, _, by omega, ⟨i + 1, bb, V 0, V 1, V 2, V 3, V 4, V 5, V 6, V 7, V 8, V 9, rfl, by omega, ⟨hB 0 (by omega), hB 1 (by omega), hB 2 (by omega), hB 3 (by omega), hB 4 (by omega), hB 5 (by omega), hB 6 (by omega), hB 7 (by omega), hB 8 (by omega), hB 9 (by omega)⟩, hS0, hS5, rfl, rfl⟩, tau [], rfl, ?_, ?_⟩
          · repeat' (first | exact rfl | exact trivial | exact hw | refine ⟨?_, ?_⟩)
          · refine ⟨⟨rfl, rfl, rfl, rfl, fun i c hi hc => ?_⟩, ⟨rfl, rfl, rfl, fun i c hi hc => ?_⟩, trivial⟩
            · have hi : i < 1 := hi
              obtain rfl : i = 0 := by omega
              match c, hc with
              | 0, _ | 1, _ | 2, _ | 3, _ | 4, _ | 5, _ | 6, _ | 7, _ | 8, _ | 9, _ => exact ⟨rfl, rfl⟩
            · match c, hc with
              | 0, _ | 1, _ => exact ⟨rfl, rfl⟩
      · intro b7
        refine ⟨by repeat' (first | assumption | exact hm' | exact bnd0 | exact bndM | apply up_bnd | apply sat_bnd), ⟨by repeat' (first | assumption | exact hm' | exact bnd0 | exact bndM | apply up_bnd | apply sat_bnd), by repeat' (first | assumption | exact hm' | exact bnd0 | exact bndM | apply up_bnd | apply sat_bnd), by repeat' (first | assumption | exact hm' | exact bnd0 | exact bndM | apply up_bnd | apply sat_bnd), by repeat' (first | assumption | exact hm' | exact bnd0 | exact bndM | apply up_bnd | apply sat_bnd), by repeat' (first | assumption | exact hm' | exact bnd0 | exact bndM | apply up_bnd | apply sat_bnd), by repeat' (first | assumption | exact hm' | exact bnd0 | exact bndM | apply up_bnd | apply sat_bnd), by repeat' (first | assumption | exact hm' | exact bnd0 | exact bndM | apply up_bnd | apply sat_bnd), by repeat' (first | assumption | exact hm' | exact bnd0 | exact bndM | apply up_bnd | apply sat_bnd), by repeat' (first | assumption | exact hm' | exact bnd0 | exact bndM | apply up_bnd | apply sat_bnd), by repeat' (first | assumption | exact hm' | exact bnd0 | exact bndM | apply up_bnd | apply sat_bnd)⟩, ?_⟩
        intro b8
        refine ⟨by repeat' (first | assumption | exact hm' | exact bnd0 | exact bndM | apply up_bnd | apply sat_bnd), ⟨by repeat' (first | assumption | exact hm' | exact bnd0 | exact bndM | apply up_bnd | apply sat_bnd), by repeat' (first | assumption | exact hm' | exact bnd0 | exact bndM | apply up_bnd | apply sat_bnd), by repeat' (first | assumption | exact hm' | exact bnd0 | exact bndM | apply up_bnd | apply sat_bnd), by repeat' (first | assumption | exact hm' | exact bnd0 | exact bndM | apply up_bnd | apply sat_bnd), by repeat' (first | assumption | exact hm' | exact bnd0 | exact bndM | apply up_bnd | apply sat_bnd), by repeat' (first | assumption | exact hm' | exact bnd0 | exact bndM | apply up_bnd | apply sat_bnd), by repeat' (first | assumption | exact hm' | exact bnd0 | exact bndM | apply up_bnd | apply sat_bnd), by repeat' (first | assumption | exact hm' | exact bnd0 | exact bndM | apply up_bnd | apply sat_bnd), by repeat' (first | assumption | exact hm' | exact bnd0 | exact bndM | apply up_bnd | apply sat_bnd), by repeat' (first | assumption | exact hm' | exact bnd0 | exact bndM | apply up_bnd | apply sat_bnd)⟩, ?_⟩
        intro b9
        (refine (?_ : br _ _ _); refine br_f (show (inW (f i) != 0) = false by simp [inW]; omega) ?_)
        (refine (?_ : br _ _ _); refine br_both (fun _ => ?_) (fun held => ?_))
        · rfl
        have held : heldB (up 0 0 (up (f i) 0 T0 (m i)) (m i)) (up 0 1 (up (f i) 1 T1 (m i)) (m i)) (up 0 2 (up (f i) 2 T2 (m i)) (m i)) (up 0 3 (up (f i) 3 T3 (m i)) (m i)) (up 0 4 (up (f i) 4 T4 (m i)) (m i)) (up 0 5 (up (f i) 5 T5 (m i)) (m i)) (up 0 6 (up (f i) 6 T6 (m i)) (m i)) (up 0 7 (up (f i) 7 T7 (m i)) (m i)) (up 0 8 (up (f i) 8 T8 (m i)) (m i)) (up 0 9 (up (f i) 9 T9 (m i)) (m i)) = false := held
        intro b10
        obtain ⟨ge0, ge5⟩ := grow (k := f i) (hd := 0) (m := m i) h1 h2 h3 e0 e5 (.inl ⟨rfl, by have h4 : ¬ 5 < f i := h4; omega⟩) held
        obtain ⟨V, hV⟩ : ∃ V : Nat → Int, V = fun j => [up 0 0 (up (f i) 0 T0 (m i)) (m i), up 0 1 (up (f i) 1 T1 (m i)) (m i), up 0 2 (up (f i) 2 T2 (m i)) (m i), up 0 3 (up (f i) 3 T3 (m i)) (m i), up 0 4 (up (f i) 4 T4 (m i)) (m i), up 0 5 (up (f i) 5 T5 (m i)) (m i), up 0 6 (up (f i) 6 T6 (m i)) (m i), up 0 7 (up (f i) 7 T7 (m i)) (m i), up 0 8 (up (f i) 8 T8 (m i)) (m i), up 0 9 (up (f i) 9 T9 (m i)) (m i)].getD j 0 := ⟨_, rfl⟩
        have hP : ∀ j : Nat, j < 10 → (ten T0 T1 T2 T3 T4 T5 T6 T7 T8 T9).getD j 0 ≤ V j := by
          intro j hj
          rw [hV]
          match j, hj with
          | 0, _ => exact (show T0 ≤ up 0 0 (up (f i) 0 T0 (m i)) (m i) from Int.le_trans (up_le t0 hm') (up_le (up_bnd t0 hm') hm'))
          | 1, _ => exact (show T1 ≤ up 0 1 (up (f i) 1 T1 (m i)) (m i) from Int.le_trans (up_le t1 hm') (up_le (up_bnd t1 hm') hm'))
          | 2, _ => exact (show T2 ≤ up 0 2 (up (f i) 2 T2 (m i)) (m i) from Int.le_trans (up_le t2 hm') (up_le (up_bnd t2 hm') hm'))
          | 3, _ => exact (show T3 ≤ up 0 3 (up (f i) 3 T3 (m i)) (m i) from Int.le_trans (up_le t3 hm') (up_le (up_bnd t3 hm') hm'))
          | 4, _ => exact (show T4 ≤ up 0 4 (up (f i) 4 T4 (m i)) (m i) from Int.le_trans (up_le t4 hm') (up_le (up_bnd t4 hm') hm'))
          | 5, _ => exact (show T5 ≤ up 0 5 (up (f i) 5 T5 (m i)) (m i) from Int.le_trans (up_le t5 hm') (up_le (up_bnd t5 hm') hm'))
          | 6, _ => exact (show T6 ≤ up 0 6 (up (f i) 6 T6 (m i)) (m i) from Int.le_trans (up_le t6 hm') (up_le (up_bnd t6 hm') hm'))
          | 7, _ => exact (show T7 ≤ up 0 7 (up (f i) 7 T7 (m i)) (m i) from Int.le_trans (up_le t7 hm') (up_le (up_bnd t7 hm') hm'))
          | 8, _ => exact (show T8 ≤ up 0 8 (up (f i) 8 T8 (m i)) (m i) from Int.le_trans (up_le t8 hm') (up_le (up_bnd t8 hm') hm'))
          | 9, _ => exact (show T9 ≤ up 0 9 (up (f i) 9 T9 (m i)) (m i) from Int.le_trans (up_le t9 hm') (up_le (up_bnd t9 hm') hm'))
        have hQ : ∀ j : Nat, j < 10 → (j : Int) ≠ f i → (j : Int) ≠ 0 → V j = (ten T0 T1 T2 T3 T4 T5 T6 T7 T8 T9).getD j 0 := by
          intro j hj n1 n2
          rw [hV]
          match j, hj with
          | 0, _ => exact (show up 0 0 (up (f i) 0 T0 (m i)) (m i) = T0 from (up_ne n2).trans (up_ne n1))
          | 1, _ => exact (show up 0 1 (up (f i) 1 T1 (m i)) (m i) = T1 from (up_ne n2).trans (up_ne n1))
          | 2, _ => exact (show up 0 2 (up (f i) 2 T2 (m i)) (m i) = T2 from (up_ne n2).trans (up_ne n1))
          | 3, _ => exact (show up 0 3 (up (f i) 3 T3 (m i)) (m i) = T3 from (up_ne n2).trans (up_ne n1))
          | 4, _ => exact (show up 0 4 (up (f i) 4 T4 (m i)) (m i) = T4 from (up_ne n2).trans (up_ne n1))
          | 5, _ => exact (show up 0 5 (up (f i) 5 T5 (m i)) (m i) = T5 from (up_ne n2).trans (up_ne n1))
          | 6, _ => exact (show up 0 6 (up (f i) 6 T6 (m i)) (m i) = T6 from (up_ne n2).trans (up_ne n1))
          | 7, _ => exact (show up 0 7 (up (f i) 7 T7 (m i)) (m i) = T7 from (up_ne n2).trans (up_ne n1))
          | 8, _ => exact (show up 0 8 (up (f i) 8 T8 (m i)) (m i) = T8 from (up_ne n2).trans (up_ne n1))
          | 9, _ => exact (show up 0 9 (up (f i) 9 T9 (m i)) (m i) = T9 from (up_ne n2).trans (up_ne n1))
        have hB : ∀ j : Nat, j < 10 → bnd (V j) := by
          intro j hj
          rw [hV]
          match j, hj with
          | 0, _ => exact (show bnd (up 0 0 (up (f i) 0 T0 (m i)) (m i)) from up_bnd (up_bnd t0 hm') hm')
          | 1, _ => exact (show bnd (up 0 1 (up (f i) 1 T1 (m i)) (m i)) from up_bnd (up_bnd t1 hm') hm')
          | 2, _ => exact (show bnd (up 0 2 (up (f i) 2 T2 (m i)) (m i)) from up_bnd (up_bnd t2 hm') hm')
          | 3, _ => exact (show bnd (up 0 3 (up (f i) 3 T3 (m i)) (m i)) from up_bnd (up_bnd t3 hm') hm')
          | 4, _ => exact (show bnd (up 0 4 (up (f i) 4 T4 (m i)) (m i)) from up_bnd (up_bnd t4 hm') hm')
          | 5, _ => exact (show bnd (up 0 5 (up (f i) 5 T5 (m i)) (m i)) from up_bnd (up_bnd t5 hm') hm')
          | 6, _ => exact (show bnd (up 0 6 (up (f i) 6 T6 (m i)) (m i)) from up_bnd (up_bnd t6 hm') hm')
          | 7, _ => exact (show bnd (up 0 7 (up (f i) 7 T7 (m i)) (m i)) from up_bnd (up_bnd t7 hm') hm')
          | 8, _ => exact (show bnd (up 0 8 (up (f i) 8 T8 (m i)) (m i)) from up_bnd (up_bnd t8 hm') hm')
          | 9, _ => exact (show bnd (up 0 9 (up (f i) 9 T9 (m i)) (m i)) from up_bnd (up_bnd t9 hm') hm')
        have hS0 : V 0 = V 1 + V 2 + V 3 + V 4 := by rw [hV]; exact ge0
        have hS5 : V 5 = V 6 + V 7 + V 8 + V 9 := by rw [hV]; exact ge5
        refine W_loop (J6 b n c f m i bb b7 b9 b10 (f i) 0 (tenV (ten T0 T1 T2 T3 T4 T5 T6 T7 T8 T9)) (fun j => (ten T0 T1 T2 T3 T4 T5 T6 T7 T8 T9).getD j 0) V) 10 ⟨0, rfl, by omega, rfl, rfl⟩ (tau [(6, 31), (7, 33), (8, 34)]) ?_ 50 ?_
        · subst hV
          refine ⟨by rfl, ?_, ?_⟩
          · repeat' (first | exact rfl | exact trivial | refine ⟨?_, ?_⟩)
          · refine ⟨⟨rfl, rfl, rfl, rfl, fun i c hi hc => ⟨rfl, rfl⟩⟩, ⟨rfl, rfl, rfl, rfl, fun i c hi hc => ?_⟩, ⟨rfl, rfl, rfl, rfl, fun i c hi hc => ?_⟩, ⟨rfl, rfl, rfl, rfl, fun i c hi hc => ?_⟩, ⟨rfl, rfl, rfl, fun i c hi hc => ?_⟩, trivial⟩
            · have hi : i < 10 := hi
              have hc : c < 1 := hc
              obtain rfl : c = 0 := by omega
              match i, hi with
              | 0, _ | 1, _ | 2, _ | 3, _ | 4, _ | 5, _ | 6, _ | 7, _ | 8, _ | 9, _ => exact ⟨rfl, rfl⟩
            · have hi : i < 1 := hi
              obtain rfl : i = 0 := by omega
              match c, hc with
              | 0, _ | 1, _ | 2, _ | 3, _ | 4, _ | 5, _ | 6, _ | 7, _ | 8, _ | 9, _ => exact ⟨rfl, rfl⟩
            · have hi : i < 10 := hi
              have hc : c < 1 := hc
              obtain rfl : c = 0 := by omega
              match i, hi with
              | 0, _ | 1, _ | 2, _ | 3, _ | 4, _ | 5, _ | 6, _ | 7, _ | 8, _ | 9, _ => exact ⟨rfl, rfl⟩
            · match c, hc with
              | 0, _ | 1, _ => exact ⟨rfl, rfl⟩
        rintro r2 σ2 h6 ⟨j, rfl, hj, rfl, rfl⟩
        refine vc_sound (mkE hc T_ok spf_ok) 400 _ _ _ 50 ?_
        (refine (?_ : br _ _ _); refine br_dec (fun hj2 => ?_) (fun hj2 => ?_))
        · have hj2 : (j : Int) < 10 := hj2
          have hj3 : j < 10 := by omega
          have hw2 : IntKind.i64.wrap ((j : Int) + 1) = ((j + 1 : Nat) : Int) := by simp [IntKind.wrap_i64]; omega
          have p1 := hP j hj3
          have q1 := hQ j hj3
          refine W_drawn (id := 24) (mkE hc T_ok spf_ok) 60 1000 (by rw [hc]; exact mix) (by kernel_rfl) (by kernel_rfl) 200 ?_
          refine ⟨_, ⟨rfl, rfl⟩, ?_⟩
          refine ⟨.ptr 8 j 0, (show chk _ _ from chk_ok (by simp; omega) ⟨rfl, rfl⟩), ?_⟩
          refine ⟨.int .u64 (V j), (show chk _ _ from chk_ok (Nat.ble_eq_true_of_le (show j * 1 + 0 + 1 ≤ 10 * 1 by omega)) ⟨rfl, rfl⟩), ?_⟩
          refine ⟨_, ⟨rfl, rfl⟩, ?_⟩
          refine ⟨.ptr 6 j 0, (show chk _ _ from chk_ok (by simp; omega) ⟨rfl, rfl⟩), ?_⟩
          refine ⟨.int .u64 ((ten T0 T1 T2 T3 T4 T5 T6 T7 T8 T9).getD j 0), (show chk _ _ from chk_ok (Nat.ble_eq_true_of_le (show j * 1 + 0 + 1 ≤ 10 * 1 by omega)) ⟨rfl, rfl⟩), ?_⟩
          refine ⟨_, ⟨rfl, rfl⟩, ?_⟩
          refine ⟨_, ⟨rfl, rfl⟩, ?_⟩
          (refine (?_ : br _ _ _); refine br_decF (show ¬ V j < (ten T0 T1 T2 T3 T4 T5 T6 T7 T8 T9).getD j 0 by omega) ?_)
          refine ⟨_, ⟨rfl, rfl⟩, ?_⟩
          refine ⟨.ptr 8 j 0, (show chk _ _ from chk_ok (by simp; omega) ⟨rfl, rfl⟩), ?_⟩
          refine ⟨.int .u64 (V j), (show chk _ _ from chk_ok (Nat.ble_eq_true_of_le (show j * 1 + 0 + 1 ≤ 10 * 1 by omega)) ⟨rfl, rfl⟩), ?_⟩
          refine ⟨_, ⟨rfl, rfl⟩, ?_⟩
          refine ⟨.ptr 6 j 0, (show chk _ _ from chk_ok (by simp; omega) ⟨rfl, rfl⟩), ?_⟩
          refine ⟨.int .u64 ((ten T0 T1 T2 T3 T4 T5 T6 T7 T8 T9).getD j 0), (show chk _ _ from chk_ok (Nat.ble_eq_true_of_le (show j * 1 + 0 + 1 ≤ 10 * 1 by omega)) ⟨rfl, rfl⟩), ?_⟩
          refine ⟨_, ⟨rfl, rfl⟩, ?_⟩
          refine ⟨_, ⟨rfl, rfl⟩, ?_⟩
          (refine (?_ : br _ _ _); refine br_ne (fun d1 => ?_) (fun d1 => ?_))
          · refine ⟨_, ⟨rfl, rfl⟩, ?_⟩
            refine ⟨_, ⟨rfl, rfl⟩, ?_⟩
            refine ⟨_, ⟨rfl, rfl⟩, ?_⟩
            refine ⟨_, ⟨rfl, rfl⟩, ?_⟩
            refine ⟨_, ⟨rfl, rfl⟩, ?_⟩
            (refine (?_ : br _ _ _); refine br_ne (fun d2 => ?_) (fun d2 => ?_))
            · refine ⟨_, ⟨rfl, rfl⟩, ?_⟩
              refine ⟨_, ⟨rfl, rfl⟩, ?_⟩
              refine ⟨_, ⟨rfl, rfl⟩, ?_⟩
              refine ⟨_, ⟨rfl, rfl⟩, ?_⟩
              refine ⟨_, ⟨rfl, rfl⟩, ?_⟩
              (refine (?_ : br _ _ _); refine br_neF (Classical.byContradiction fun d3 => d1 (q1 d2 d3)) ?_)
              refine ⟨10 - (j + 1), _, _, by omega, ⟨j + 1, rfl, by omega, rfl, rfl⟩, tau [], rfl, ?_, ?_⟩
              · repeat' (first | exact rfl | exact trivial | exact hw2 | refine ⟨?_, ?_⟩)
              · refine ⟨⟨rfl, rfl, rfl, rfl, fun i c hi hc => ⟨rfl, rfl⟩⟩, ⟨rfl, rfl, rfl, rfl, fun i c hi hc => ⟨rfl, rfl⟩⟩, ⟨rfl, rfl, rfl, rfl, fun i c hi hc => ⟨rfl, rfl⟩⟩, ⟨rfl, rfl, rfl, rfl, fun i c hi hc => ⟨rfl, rfl⟩⟩, ⟨rfl, rfl, rfl, fun i c hi hc => ?_⟩, trivial⟩
                match c, hc with
                | 0, _ | 1, _ => exact ⟨rfl, rfl⟩
            · refine ⟨_, ⟨rfl, rfl⟩, ?_⟩
              refine ⟨_, ⟨rfl, rfl⟩, ?_⟩
              refine ⟨10 - (j + 1), _, _, by omega, ⟨j + 1, rfl, by omega, rfl, rfl⟩, tau [], rfl, ?_, ?_⟩
              · repeat' (first | exact rfl | exact trivial | exact hw2 | refine ⟨?_, ?_⟩)
              · refine ⟨⟨rfl, rfl, rfl, rfl, fun i c hi hc => ⟨rfl, rfl⟩⟩, ⟨rfl, rfl, rfl, rfl, fun i c hi hc => ⟨rfl, rfl⟩⟩, ⟨rfl, rfl, rfl, rfl, fun i c hi hc => ⟨rfl, rfl⟩⟩, ⟨rfl, rfl, rfl, rfl, fun i c hi hc => ⟨rfl, rfl⟩⟩, ⟨rfl, rfl, rfl, fun i c hi hc => ?_⟩, trivial⟩
                match c, hc with
                | 0, _ | 1, _ => exact ⟨rfl, rfl⟩
          · refine ⟨_, ⟨rfl, rfl⟩, ?_⟩
            refine ⟨_, ⟨rfl, rfl⟩, ?_⟩
            refine ⟨_, ⟨rfl, rfl⟩, ?_⟩
            refine ⟨_, ⟨rfl, rfl⟩, ?_⟩
            refine ⟨10 - (j + 1), _, _, by omega, ⟨j + 1, rfl, by omega, rfl, rfl⟩, tau [], rfl, ?_, ?_⟩
            · repeat' (first | exact rfl | exact trivial | exact hw2 | refine ⟨?_, ?_⟩)
            · refine ⟨⟨rfl, rfl, rfl, rfl, fun i c hi hc => ⟨rfl, rfl⟩⟩, ⟨rfl, rfl, rfl, rfl, fun i c hi hc => ⟨rfl, rfl⟩⟩, ⟨rfl, rfl, rfl, rfl, fun i c hi hc => ⟨rfl, rfl⟩⟩, ⟨rfl, rfl, rfl, rfl, fun i c hi hc => ⟨rfl, rfl⟩⟩, ⟨rfl, rfl, rfl, fun i c hi hc => ?_⟩, trivial⟩
              match c, hc with
              | 0, _ | 1, _ => exact ⟨rfl, rfl⟩
        · obtain ⟨sA, sB⟩ := sound_of (hB 0 (by omega)) (hB 1 (by omega)) (hB 2 (by omega)) (hB 3 (by omega)) (hB 4 (by omega)) (hB 5 (by omega)) (hB 6 (by omega)) (hB 7 (by omega)) (hB 8 (by omega)) (hB 9 (by omega)) hS0 hS5
          refine ⟨⟨hB 0 (by omega), hB 1 (by omega), hB 2 (by omega), hB 3 (by omega), hB 4 (by omega), hB 5 (by omega), hB 6 (by omega), hB 7 (by omega), hB 8 (by omega), hB 9 (by omega)⟩, bnd0, bnd0, ?_⟩
          (refine (?_ : br _ _ _); refine br_f (show (!(sndA (V 0) (V 1) (V 2) (V 3) (V 4) (V 5) (V 6) (V 7) (V 8) (V 9))) = false by rw [sA]; rfl) ?_)
          (refine (?_ : br _ _ _); refine br_f (show (!(sndB (V 0) (V 1) (V 2) (V 3) (V 4) (V 5) (V 6) (V 7) (V 8) (V 9) 0 0)) = false by rw [sB]; rfl) ?_)
          refine ⟨200 - (i + 1), _, _, by omega, ⟨i + 1, bb, V 0, V 1, V 2, V 3, V 4, V 5, V 6, V 7, V 8, V 9, rfl, by omega, ⟨hB 0 (by omega), hB 1 (by omega), hB 2 (by omega), hB 3 (by omega), hB 4 (by omega), hB 5 (by omega), hB 6 (by omega), hB 7 (by omega), hB 8 (by omega), hB 9 (by omega)⟩, hS0, hS5, rfl, rfl⟩, tau [], rfl, ?_, ?_⟩
          · repeat' (first | exact rfl | exact trivial | exact hw | refine ⟨?_, ?_⟩)
          · refine ⟨⟨rfl, rfl, rfl, rfl, fun i c hi hc => ?_⟩, ⟨rfl, rfl, rfl, fun i c hi hc => ?_⟩, trivial⟩
            · have hi : i < 1 := hi
              obtain rfl : i = 0 := by omega
              match c, hc with
              | 0, _ | 1, _ | 2, _ | 3, _ | 4, _ | 5, _ | 6, _ | 7, _ | 8, _ | 9, _ => exact ⟨rfl, rfl⟩
            · match c, hc with
              | 0, _ | 1, _ => exact ⟨rfl, rfl⟩
    · rfl
  · rfl

end Go.Proofs.Ytfepdagknnoblaa.Sx