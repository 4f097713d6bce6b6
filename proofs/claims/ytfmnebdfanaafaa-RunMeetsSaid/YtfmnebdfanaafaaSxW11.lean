import Derived.Test.YtfmnebdfanaafaaSxW9
/-
  The walks of this seat's functions, eleventh part: the law RunMeets.
-/
namespace Go.Proofs.Ytfmnebdfanaafaa.Sx
open Go Go.Proofs
set_option maxRecDepth 100000
set_option linter.unusedSimpArgs false
set_option linter.unusedVariables false
set_option linter.unnecessarySimpa false

/-- What is in common is a run that may be, or nothing. -/
theorem meet_ok (a b c d : Int) : (mayB (meetF a b c d) (meetC a b c d) = true ∨ meetF a b c d = 0 ∧ meetC a b c d = 0) ∧ i64 (meetF a b c d) ∧ i64 (meetC a b c d) := by
  unfold meetF meetC
  split
  · rename_i h
    obtain ⟨h1, h2, h3⟩ := h
    have m1 := may_iff.1 h1
    have m2 := may_iff.1 h2
    unfold hiI loI at *
    refine ⟨.inl (may_iff.2 ?_), ⟨?_, ?_⟩, ⟨?_, ?_⟩⟩ <;> (try (repeat' (split at h3))) <;> (try split) <;> (try split) <;> omega
  · exact ⟨.inr ⟨rfl, rfl⟩, ⟨by decide, by decide⟩, ⟨by decide, by decide⟩⟩
theorem meet_comm (a b c d : Int) : meetF c d a b = meetF a b c d ∧ meetC c d a b = meetC a b c d := by
  have h1 : hiI c d a b = hiI a b c d := by unfold hiI; split <;> split <;> omega
  have h2 : loI c a = loI a c := by unfold loI; split <;> split <;> omega
  unfold meetF meetC
  rw [h1, h2]
  constructor <;> (split <;> split <;> first | rfl | (exfalso; simp_all))
theorem meet_bad {a b c d : Int} (h : mayB a b = false ∨ mayB c d = false) : meetF a b c d = 0 ∧ meetC a b c d = 0 := by
  unfold meetF meetC
  rw [if_neg (by rintro ⟨h1, h2, _⟩; rcases h with h | h <;> simp_all), if_neg (by rintro ⟨h1, h2, _⟩; rcases h with h | h <;> simp_all)]
  exact ⟨rfl, rfl⟩
theorem may0 : mayB 0 0 = false := by decide
/-- In common with what is in common. -/
theorem meet_assoc (a b c d e f : Int) : meetF (meetF a b c d) (meetC a b c d) e f = meetF a b (meetF c d e f) (meetC c d e f) ∧ meetC (meetF a b c d) (meetC a b c d) e f = meetC a b (meetF c d e f) (meetC c d e f) := by
  cases e1 : mayB a b with
  | false =>
    obtain ⟨q1, q2⟩ := meet_bad (c := c) (d := d) (.inl e1)
    obtain ⟨q3, q4⟩ := meet_bad (a := a) (b := b) (c := meetF c d e f) (d := meetC c d e f) (.inl e1)
    rw [q1, q2, q3, q4]
    exact meet_bad (.inl may0)
  | true =>
  cases e3 : mayB e f with
  | false =>
    obtain ⟨q1, q2⟩ := meet_bad (a := c) (b := d) (c := e) (d := f) (.inr e3)
    obtain ⟨q3, q4⟩ := meet_bad (a := meetF a b c d) (b := meetC a b c d) (c := e) (d := f) (.inr e3)
    rw [q1, q2, q3, q4]
    obtain ⟨q5, q6⟩ := meet_bad (a := a) (b := b) (c := 0) (d := 0) (.inr may0)
    rw [q5, q6]
    exact ⟨rfl, rfl⟩
  | true =>
  cases e2 : mayB c d with
  | false =>
    obtain ⟨q1, q2⟩ := meet_bad (a := c) (b := d) (c := e) (d := f) (.inl e2)
    obtain ⟨q3, q4⟩ := meet_bad (a := a) (b := b) (c := c) (d := d) (.inr e2)
    rw [q1, q2, q3, q4]
    obtain ⟨q5, q6⟩ := meet_bad (a := a) (b := b) (c := 0) (d := 0) (.inr may0)
    obtain ⟨q7, q8⟩ := meet_bad (a := 0) (b := 0) (c := e) (d := f) (.inl may0)
    rw [q5, q6, q7, q8]
    exact ⟨rfl, rfl⟩
  | true =>
    have m1 := may_iff.1 e1
    have m2 := may_iff.1 e2
    have m3 := may_iff.1 e3
    by_cases h12 : hiI a b c d ≤ loI a c
    · have q1 : meetF a b c d = 0 ∧ meetC a b c d = 0 := by unfold meetF meetC; rw [if_neg (fun q => q.2.2 h12), if_neg (fun q => q.2.2 h12)]; exact ⟨rfl, rfl⟩
      rw [q1.1, q1.2]
      obtain ⟨q7, q8⟩ := meet_bad (a := 0) (b := 0) (c := e) (d := f) (.inl may0)
      rw [q7, q8]
      by_cases h23 : hiI c d e f ≤ loI c e
      · have q2 : meetF c d e f = 0 ∧ meetC c d e f = 0 := by unfold meetF meetC; rw [if_neg (fun q => q.2.2 h23), if_neg (fun q => q.2.2 h23)]; exact ⟨rfl, rfl⟩
        rw [q2.1, q2.2]
        obtain ⟨q5, q6⟩ := meet_bad (a := a) (b := b) (c := 0) (d := 0) (.inr may0)
        rw [q5, q6]; exact ⟨rfl, rfl⟩
      · have q2 : meetF c d e f = loI c e ∧ meetC c d e f = hiI c d e f - loI c e := by unfold meetF meetC; rw [if_pos ⟨e2, e3, h23⟩, if_pos ⟨e2, e3, h23⟩]; exact ⟨rfl, rfl⟩
        rw [q2.1, q2.2]
        have h : hiI a b (loI c e) (hiI c d e f - loI c e) ≤ loI a (loI c e) := by unfold hiI loI at *; repeat' (split at h12); all_goals (repeat' (split at h23)); all_goals (repeat' split); all_goals omega
        unfold meetF meetC
        rw [if_neg (fun q => q.2.2 h), if_neg (fun q => q.2.2 h)]; exact ⟨rfl, rfl⟩
    · have q1 : meetF a b c d = loI a c ∧ meetC a b c d = hiI a b c d - loI a c := by unfold meetF meetC; rw [if_pos ⟨e1, e2, h12⟩, if_pos ⟨e1, e2, h12⟩]; exact ⟨rfl, rfl⟩
      have my1 : mayB (loI a c) (hiI a b c d - loI a c) = true := by have := (meet_ok a b c d).1; rw [q1.1, q1.2] at this; rcases this with h | h; exact h; omega
      rw [q1.1, q1.2]
      by_cases h23 : hiI c d e f ≤ loI c e
      · have q2 : meetF c d e f = 0 ∧ meetC c d e f = 0 := by unfold meetF meetC; rw [if_neg (fun q => q.2.2 h23), if_neg (fun q => q.2.2 h23)]; exact ⟨rfl, rfl⟩
        rw [q2.1, q2.2]
        obtain ⟨q5, q6⟩ := meet_bad (a := a) (b := b) (c := 0) (d := 0) (.inr may0)
        rw [q5, q6]
        have h : hiI (loI a c) (hiI a b c d - loI a c) e f ≤ loI (loI a c) e := by unfold hiI loI at *; repeat' (split at h12); all_goals (repeat' (split at h23)); all_goals (repeat' split); all_goals omega
        unfold meetF meetC
        rw [if_neg (fun q => q.2.2 h), if_neg (fun q => q.2.2 h)]; exact ⟨rfl, rfl⟩
      · have q2 : meetF c d e f = loI c e ∧ meetC c d e f = hiI c d e f - loI c e := by unfold meetF meetC; rw [if_pos ⟨e2, e3, h23⟩, if_pos ⟨e2, e3, h23⟩]; exact ⟨rfl, rfl⟩
        have my2 : mayB (loI c e) (hiI c d e f - loI c e) = true := by have := (meet_ok c d e f).1; rw [q2.1, q2.2] at this; rcases this with h | h; exact h; omega
        rw [q2.1, q2.2]
        have g1 : loI (loI a c) e = loI a (loI c e) := by unfold loI; repeat' split; all_goals omega
        have g2 : hiI (loI a c) (hiI a b c d - loI a c) e f = hiI a b (loI c e) (hiI c d e f - loI c e) := by unfold hiI; repeat' split; all_goals omega
        unfold meetF meetC
        rw [my1, my2, e1, e3, g1, g2]
        exact ⟨rfl, rfl⟩
theorem meet_self {a b : Int} (h : mayB a b = true) : meetF a b a b = a ∧ meetC a b a b = b := by
  have m := may_iff.1 h
  have h1 : loI a a = a := by unfold loI; split <;> omega
  have h2 : hiI a b a b = a + b := by unfold hiI; split <;> omega
  unfold meetF meetC
  rw [h1, h2, if_pos ⟨h, h, by omega⟩, if_pos ⟨h, h, by omega⟩]
  exact ⟨rfl, by omega⟩
theorem meet_idem (a b c d : Int) : meetF a b (meetF a b c d) (meetC a b c d) = meetF a b c d ∧ meetC a b (meetF a b c d) (meetC a b c d) = meetC a b c d := by
  cases e1 : mayB a b with
  | false =>
    obtain ⟨q1, q2⟩ := meet_bad (c := c) (d := d) (.inl e1)
    rw [q1, q2]
    exact meet_bad (.inl e1)
  | true =>
    have := meet_assoc a b a b c d
    obtain ⟨s1, s2⟩ := meet_self e1
    rw [s1, s2] at this
    exact ⟨this.1.symm, this.2.symm⟩
/-- It is the first one alone just if that lies in the other. -/
theorem meet_in {a b c d : Int} (h : mayB a b = true) : (meetF a b c d = a ∧ meetC a b c d = b) ↔ (mayB c d = true ∧ c ≤ a ∧ a + b ≤ c + d) := by
  have m := may_iff.1 h
  cases e2 : mayB c d with
  | false =>
    obtain ⟨q1, q2⟩ := meet_bad (a := a) (b := b) (.inr e2)
    rw [q1, q2]
    constructor
    · omega
    · rintro ⟨q, _⟩; cases q
  | true =>
    have m2 := may_iff.1 e2
    unfold meetF meetC
    by_cases h12 : hiI a b c d ≤ loI a c
    · rw [if_neg (fun q => q.2.2 h12), if_neg (fun q => q.2.2 h12)]
      constructor
      · omega
      · rintro ⟨_, q1, q2⟩
        exfalso
        unfold hiI loI at h12
        split at h12 <;> split at h12 <;> omega
    · rw [if_pos ⟨h, e2, h12⟩, if_pos ⟨h, e2, h12⟩]
      unfold hiI loI at *
      constructor
      · rintro ⟨q1, q2⟩
        refine ⟨rfl, ?_⟩
        repeat' (split at q1)
        all_goals (repeat' (split at q2))
        all_goals omega
      · rintro ⟨_, q1, q2⟩
        constructor
        · split <;> omega
        · split <;> split <;> omega

end Go.Proofs.Ytfmnebdfanaafaa.Sx
