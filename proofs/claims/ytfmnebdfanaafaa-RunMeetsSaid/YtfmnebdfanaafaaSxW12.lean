import Derived.Test.YtfmnebdfanaafaaSxW11
/-
  The walks of this seat's functions, twelfth part: the law RunMeets is walked.
-/
namespace Go.Proofs.Ytfmnebdfanaafaa.Sx
open Go Go.Proofs
set_option maxRecDepth 100000
set_option linter.unusedSimpArgs false
set_option linter.unusedVariables false
set_option linter.unnecessarySimpa false

def planM : Plan := lineP 0 14 (.take 16 (.take 17 (.all (.cons 14 (.take 15 (.take 18 (.take 19 (.take 20 .done)))) .nil))))
def sLaw6 : Spec := fun args h nx K => match args with
  | [.agg [.int .i64 a, .int .i64 b], .agg [.int .i64 c, .int .i64 d], .agg [.int .i64 e, .int .i64 f]] => (i64 a ∧ i64 b) ∧ (i64 c ∧ i64 d) ∧ (i64 e ∧ i64 f) ∧ K (.ret (.bool true)) h nx
  | _ => False

set_option maxHeartbeats 2000000 in
theorem sLaw6_ok : SpecOK Try.prog 6 sLaw6 := by
  refine specOK_pure (fn := Try.f6) rfl rfl rfl T_ok (SP := SPL) splw [] trivial 400 _ ?_
  intro args h nx K hs
  unfold sLaw6 at hs
  split at hs
  rotate_left
  · exact hs.elim
  rename_i a b c d e f
  obtain ⟨ia, ic, ie, hk⟩ := hs
  refine ⟨trivial, by repeat constructor, by simp [Try.f6], fun o => o = .ret (.bool true), ?_, ?_⟩
  · rintro o rfl; exact ⟨trivial, hk⟩
  intro cx hcx
  clear hk
  have ix := (meet_ok a b c d).2
  have iy := (meet_ok c d e f).2
  intro b0 b1 b2
  refine ⟨ia.1, ia.2, ic.1, ic.2, ?_⟩
  intro b3
  refine W_drawn (id := 4) (mkE hcx T_ok splw) 20 1000 (by rw [hcx]; exact mix) (by kernel_rfl) (by kernel_rfl) 200 ?_
  refine ⟨_, ⟨rfl, rfl⟩, ?_⟩
  refine ⟨_, ⟨rfl, rfl⟩, ?_⟩
  refine ⟨_, ⟨ic.1, ic.2, ia.1, ia.2, rfl, rfl⟩, ?_⟩
  refine ⟨_, ⟨rfl, rfl⟩, ?_⟩
  refine ⟨_, ⟨rfl, rfl⟩, ?_⟩
  refine ⟨_, ⟨rfl, rfl⟩, ?_⟩
  (refine (?_ : br _ _ _); refine br_f ?_ ?_)
  · rw [(meet_comm a b c d).1, (meet_comm a b c d).2]; simp
  refine ⟨_, ⟨rfl, rfl⟩, ?_⟩
  refine ⟨_, ⟨rfl, rfl⟩, ?_⟩
  refine ⟨_, ⟨ia.1, ia.2, ic.1, ic.2, rfl, rfl⟩, ?_⟩
  refine ⟨_, ⟨rfl, rfl⟩, ?_⟩
  refine ⟨_, ⟨ix.1, ix.2, ie.1, ie.2, rfl, rfl⟩, ?_⟩
  refine ⟨_, ⟨rfl, rfl⟩, ?_⟩
  refine ⟨_, ⟨rfl, rfl⟩, ?_⟩
  refine ⟨_, ⟨rfl, rfl⟩, ?_⟩
  refine ⟨_, ⟨ic.1, ic.2, ie.1, ie.2, rfl, rfl⟩, ?_⟩
  refine ⟨_, ⟨ia.1, ia.2, iy.1, iy.2, rfl, rfl⟩, ?_⟩
  refine ⟨_, ⟨rfl, rfl⟩, ?_⟩
  refine ⟨_, ⟨rfl, rfl⟩, ?_⟩
  refine ⟨_, ⟨rfl, rfl⟩, ?_⟩
  (refine (?_ : br _ _ _); refine br_f ?_ ?_)
  · rw [(meet_assoc a b c d e f).1, (meet_assoc a b c d e f).2]; simp
  refine ⟨_, ⟨rfl, rfl⟩, ?_⟩
  refine ⟨_, ⟨rfl, rfl⟩, ?_⟩
  refine ⟨_, ⟨ia.1, ia.2, ix.1, ix.2, rfl, rfl⟩, ?_⟩
  refine ⟨_, ⟨rfl, rfl⟩, ?_⟩
  refine ⟨_, ⟨rfl, rfl⟩, ?_⟩
  refine ⟨_, ⟨rfl, rfl⟩, ?_⟩
  (refine (?_ : br _ _ _); refine br_f ?_ ?_)
  · rw [(meet_idem a b c d).1, (meet_idem a b c d).2]; simp
  refine ⟨ia.1, ia.2, ?_⟩
  cases e1 : mayB a b with
  | false =>
    refine outB ?_
    obtain ⟨q1, q2⟩ := meet_bad (c := c) (d := d) (.inl e1)
    rw [q1, q2]
    rfl
  | true =>
    have m1 := may_iff.1 e1
    refine ⟨ic.1, ic.2, ?_⟩
    cases e2 : mayB c d with
    | false =>
      have hin : (meetF a b c d == a && (meetC a b c d == b && true)) = false := by
        rw [Bool.eq_iff_iff]
        have := meet_in (c := c) (d := d) e1
        simp only [Bool.and_eq_true, beq_iff_eq, and_true]
        rw [this]
        constructor
        · rintro ⟨q, _⟩; rw [e2] at q; cases q
        · intro q; cases q
      refine W_plan (id := 9) (mkE hcx T_ok splw) 60 21 planM (by rw [hcx]; exact mix) (by kernel_rfl) 200 ?_
      refine ⟨_, ⟨rfl, rfl⟩, ?_⟩
      refine ⟨_, ⟨rfl, rfl⟩, ?_⟩
      refine ⟨_, ⟨ia.1, ia.2, ia.1, ia.2, rfl, rfl⟩, ?_⟩
      refine ⟨_, ⟨rfl, rfl⟩, ?_⟩
      refine ⟨_, ⟨rfl, rfl⟩, ?_⟩
      refine ⟨_, ⟨rfl, rfl⟩, ?_⟩
      (refine (?_ : br _ _ _); refine br_t (by rw [(meet_self e1).1, (meet_self e1).2]; simp) ?_)
      refine ⟨_, ⟨rfl, rfl⟩, ?_⟩
      refine ⟨_, ⟨rfl, rfl⟩, ?_⟩
      refine ⟨_, ⟨rfl, rfl⟩, ?_⟩
      refine ⟨_, ⟨rfl, rfl⟩, ?_⟩
      refine ⟨_, ⟨rfl, rfl⟩, ?_⟩
      refine ⟨_, ⟨rfl, rfl⟩, ?_⟩
      refine ⟨_, ⟨rfl, rfl⟩, ?_⟩
      (refine (?_ : br _ _ _); refine br_t (show ((meetF a b c d == a && (meetC a b c d == b && true)) == false) = true by rw [hin]; simp) ?_)
      refine ⟨_, ⟨rfl, rfl⟩, ?_⟩
      refine ⟨_, ⟨rfl, rfl⟩, ?_⟩
      refine ⟨_, ⟨rfl, rfl⟩, ?_⟩
      refine ⟨?_, trivial⟩
      refine ⟨ia.1, ia.2, ?_⟩
      refine br_t e1 ?_
      refine ⟨rfl, fun bb cap F h1 h2 => ⟨rfl, rfl, fun _ _ _ _ => trivial, ?_⟩⟩
      refine ⟨_, ⟨rfl, rfl⟩, ?_⟩
      refine ⟨_, ⟨rfl, rfl⟩, ?_⟩
      refine ⟨_, ⟨rfl, rfl⟩, ?_⟩
      refine ⟨_, ⟨rfl, rfl⟩, ?_⟩
      refine outB ?_
      show (((b.toNat : Nat) : Int) == b) = true
      rw [beq_iff_eq]
      omega
    | true =>
      have m2 := may_iff.1 e2
      (refine (?_ : br _ _ _); refine br_dec (fun e3 => ?_) (fun e3 => ?_))
      · have e3 : c ≤ a := e3
        have w1 : IntKind.i64.wrap (a + b) = a + b := by simp [IntKind.wrap_i64]; omega
        have w2 : IntKind.i64.wrap (c + d) = c + d := by simp [IntKind.wrap_i64]; omega
        have hin : (meetF a b c d == a && (meetC a b c d == b && true)) = (decide (IntKind.i64.wrap (a + b) ≤ IntKind.i64.wrap (c + d))) := by
          rw [Bool.eq_iff_iff]
          have := meet_in (c := c) (d := d) e1
          simp only [Bool.and_eq_true, beq_iff_eq, and_true]
          rw [this]
          rw [w1, w2]
          simp only [decide_eq_true_eq]
          constructor
          · rintro ⟨_, _, q⟩; exact q
          · intro q; exact ⟨e2, e3, q⟩
        refine W_plan (id := 9) (mkE hcx T_ok splw) 60 21 planM (by rw [hcx]; exact mix) (by kernel_rfl) 200 ?_
        refine ⟨_, ⟨rfl, rfl⟩, ?_⟩
        refine ⟨_, ⟨rfl, rfl⟩, ?_⟩
        refine ⟨_, ⟨ia.1, ia.2, ia.1, ia.2, rfl, rfl⟩, ?_⟩
        refine ⟨_, ⟨rfl, rfl⟩, ?_⟩
        refine ⟨_, ⟨rfl, rfl⟩, ?_⟩
        refine ⟨_, ⟨rfl, rfl⟩, ?_⟩
        (refine (?_ : br _ _ _); refine br_t (by rw [(meet_self e1).1, (meet_self e1).2]; simp) ?_)
        refine ⟨_, ⟨rfl, rfl⟩, ?_⟩
        refine ⟨_, ⟨rfl, rfl⟩, ?_⟩
        refine ⟨_, ⟨rfl, rfl⟩, ?_⟩
        refine ⟨_, ⟨rfl, rfl⟩, ?_⟩
        refine ⟨_, ⟨rfl, rfl⟩, ?_⟩
        refine ⟨_, ⟨rfl, rfl⟩, ?_⟩
        refine ⟨_, ⟨rfl, rfl⟩, ?_⟩
        (refine (?_ : br _ _ _); refine br_t (show ((meetF a b c d == a && (meetC a b c d == b && true)) == (decide (IntKind.i64.wrap (a + b) ≤ IntKind.i64.wrap (c + d)))) = true by rw [hin]; simp) ?_)
        refine ⟨_, ⟨rfl, rfl⟩, ?_⟩
        refine ⟨_, ⟨rfl, rfl⟩, ?_⟩
        refine ⟨_, ⟨rfl, rfl⟩, ?_⟩
        refine ⟨?_, trivial⟩
        refine ⟨ia.1, ia.2, ?_⟩
        refine br_t e1 ?_
        refine ⟨rfl, fun bb cap F h1 h2 => ⟨rfl, rfl, fun _ _ _ _ => trivial, ?_⟩⟩
        refine ⟨_, ⟨rfl, rfl⟩, ?_⟩
        refine ⟨_, ⟨rfl, rfl⟩, ?_⟩
        refine ⟨_, ⟨rfl, rfl⟩, ?_⟩
        refine ⟨_, ⟨rfl, rfl⟩, ?_⟩
        refine outB ?_
        show (((b.toNat : Nat) : Int) == b) = true
        rw [beq_iff_eq]
        omega
      · have e3 : ¬ c ≤ a := e3
        have hin : (meetF a b c d == a && (meetC a b c d == b && true)) = false := by
          rw [Bool.eq_iff_iff]
          have := meet_in (c := c) (d := d) e1
          simp only [Bool.and_eq_true, beq_iff_eq, and_true]
          rw [this]
          constructor
          · rintro ⟨_, q, _⟩; exact absurd q e3
          · intro q; cases q
        refine W_plan (id := 9) (mkE hcx T_ok splw) 60 21 planM (by rw [hcx]; exact mix) (by kernel_rfl) 200 ?_
        refine ⟨_, ⟨rfl, rfl⟩, ?_⟩
        refine ⟨_, ⟨rfl, rfl⟩, ?_⟩
        refine ⟨_, ⟨ia.1, ia.2, ia.1, ia.2, rfl, rfl⟩, ?_⟩
        refine ⟨_, ⟨rfl, rfl⟩, ?_⟩
        refine ⟨_, ⟨rfl, rfl⟩, ?_⟩
        refine ⟨_, ⟨rfl, rfl⟩, ?_⟩
        (refine (?_ : br _ _ _); refine br_t (by rw [(meet_self e1).1, (meet_self e1).2]; simp) ?_)
        refine ⟨_, ⟨rfl, rfl⟩, ?_⟩
        refine ⟨_, ⟨rfl, rfl⟩, ?_⟩
        refine ⟨_, ⟨rfl, rfl⟩, ?_⟩
        refine ⟨_, ⟨rfl, rfl⟩, ?_⟩
        refine ⟨_, ⟨rfl, rfl⟩, ?_⟩
        refine ⟨_, ⟨rfl, rfl⟩, ?_⟩
        refine ⟨_, ⟨rfl, rfl⟩, ?_⟩
        (refine (?_ : br _ _ _); refine br_t (show ((meetF a b c d == a && (meetC a b c d == b && true)) == false) = true by rw [hin]; simp) ?_)
        refine ⟨_, ⟨rfl, rfl⟩, ?_⟩
        refine ⟨_, ⟨rfl, rfl⟩, ?_⟩
        refine ⟨_, ⟨rfl, rfl⟩, ?_⟩
        refine ⟨?_, trivial⟩
        refine ⟨ia.1, ia.2, ?_⟩
        refine br_t e1 ?_
        refine ⟨rfl, fun bb cap F h1 h2 => ⟨rfl, rfl, fun _ _ _ _ => trivial, ?_⟩⟩
        refine ⟨_, ⟨rfl, rfl⟩, ?_⟩
        refine ⟨_, ⟨rfl, rfl⟩, ?_⟩
        refine ⟨_, ⟨rfl, rfl⟩, ?_⟩
        refine ⟨_, ⟨rfl, rfl⟩, ?_⟩
        refine outB ?_
        show (((b.toNat : Nat) : Int) == b) = true
        rw [beq_iff_eq]
        omega

end Go.Proofs.Ytfmnebdfanaafaa.Sx
