import Derived.Test.YtkncijljkfpdiaaSxW6
/-
  The model of the lanes: what stands where.
-/
namespace Go.Proofs.Ytkncijljkfpdiaa.Sx
open Go Go.Proofs
set_option maxRecDepth 100000
set_option linter.unusedSimpArgs false
set_option linter.unusedVariables false

/-! ### What stands where, in the order of pushing -/
abbrev Std := List (Nat × Int)
def mpS (S : Std) : List (Int × Int) := S.map fun p => (p.2, (p.1 : Int))
def lane (S : Std) (i : Nat) : List Int := (S.filter fun p => p.1 == i).map (·.2)
def hasT (S : Std) (t : Int) : Bool := S.any fun p => p.2 == t
def blkT (S : Std) (t : Int) : Int := match S.find? (fun p => p.2 == t) with | some p => p.1 | none => 0
def pullS (S : Std) (t : Int) : Std := S.eraseP fun p => p.2 == t
def pushC (n room : Nat) (S : Std) (b t : Int) : Int := if isI n b = false ∨ t < 1 then 1 else if hasT S t = true then 4 else if S.length = room then 2 else 0
def pushS (n room : Nat) (S : Std) (b t : Int) : Std := if pushC n room S b t = 0 then S ++ [(b.toNat, t)] else S
structure Fit (n room : Nat) (S : Std) : Prop where
  len : S.length ≤ room
  room : room ≤ 128
  blocks : n ≤ 256
  blk : ∀ p ∈ S, p.1 < n
  tick : ∀ p ∈ S, 1 ≤ p.2
  nd : (S.map (·.2)).Nodup
theorem mpS_len {S : Std} : (mpS S).length = S.length := by unfold mpS; simp
theorem mfind_at {t : Int} : ∀ {S : Std} {k : Nat}, mfind t (mpS S) k = (S.find? (fun p => p.2 == t)).map fun p => ((S.findIdx (fun p => p.2 == t)) + k, (p.1 : Int))
  | [], _ => rfl
  | p :: S, k => by
    show (if t = p.2 then some (k, (p.1 : Int)) else mfind t (mpS S) (k + 1)) = _
    rw [List.find?_cons, List.findIdx_cons]
    by_cases e : t = p.2
    · subst e; simp
    · rw [if_neg e, mfind_at]
      have : (p.2 == t) = false := by simpa using fun q => e q.symm
      rw [this]
      simp only [cond_false]
      congr 1
      funext q
      rw [show S.findIdx (fun p => p.2 == t) + 1 + k = S.findIdx (fun p => p.2 == t) + (k + 1) by omega]
theorem hasT_find {S : Std} {t : Int} : hasT S t = (S.find? (fun p => p.2 == t)).isSome := by
  unfold hasT
  induction S with
  | nil => rfl
  | cons p S ih =>
    rw [List.any_cons, List.find?_cons, ih]
    cases p.2 == t <;> rfl
theorem hasT_iff {S : Std} {t : Int} : hasT S t = true ↔ t ∈ S.map (·.2) := by
  unfold hasT
  rw [List.any_eq_true, List.mem_map]
  simp
theorem mhas_S {S : Std} {t : Int} : mhas (mpS S) t = hasT S t := by
  unfold mhas
  rw [mfind_at, hasT_find]
  cases S.find? (fun p => p.2 == t) <;> rfl
theorem mget_S {S : Std} {t : Int} : mget (mpS S) t = blkT S t := by
  unfold mget blkT
  rw [mfind_at]
  cases S.find? (fun p => p.2 == t) <;> rfl
theorem mput_S {S : Std} {t b : Int} (h : hasT S t = false) (hb : 0 ≤ b) : mput (mpS S) t b = mpS (S ++ [(b.toNat, t)]) := by
  unfold mput
  rw [mfind_at]
  rw [hasT_find] at h
  cases e : S.find? (fun p => p.2 == t) with
  | some p => rw [e] at h; cases h
  | none =>
    unfold mpS
    simp only [Option.map_none, List.map_append, List.map_cons, List.map_nil]
    rw [Int.toNat_of_nonneg hb]
theorem mdel_S {t : Int} {S : Std} : mdel (mpS S) t = mpS (pullS S t) := by
  have key : ∀ S : Std, (S.find? (fun p => p.2 == t)).isSome = true → (mpS S).eraseIdx (S.findIdx fun p => p.2 == t) = mpS (pullS S t) := by
    intro S
    induction S with
    | nil => intro h; cases h
    | cons p S ih =>
      intro h
      rw [List.find?_cons] at h
      rw [List.findIdx_cons]
      unfold pullS
      rw [List.eraseP_cons]
      by_cases e : (p.2 == t) = true
      · rw [e]; rfl
      · have e : (p.2 == t) = false := by simpa using e
        rw [e] at h ⊢
        simp only [cond_false, Bool.false_eq_true, if_false]
        show (((p.2, (p.1 : Int)) :: mpS S).eraseIdx (_ + 1)) = _
        rw [List.eraseIdx_cons_succ, ih h]
        rfl
  unfold mdel
  rw [mfind_at]
  cases e : S.find? (fun p => p.2 == t) with
  | some p => exact key S (by rw [e]; rfl)
  | none =>
    show mpS S = _
    unfold pullS
    rw [List.eraseP_of_forall_not]
    intro a ha
    have := List.find?_eq_none.1 e a ha
    exact this
theorem lane_snoc {S : Std} {b i : Nat} {t : Int} : lane (S ++ [(b, t)]) i = if i = b then lane S i ++ [t] else lane S i := by
  unfold lane
  rw [List.filter_append, List.map_append]
  by_cases e : i = b
  · subst e; simp
  · have : (b == i) = false := by simpa using Ne.symm e
    simp [this, e]
theorem blkT_mem {S : Std} {t : Int} (h : hasT S t = true) : ∃ b : Nat, blkT S t = (b : Int) ∧ (b, t) ∈ S := by
  rw [hasT_find] at h
  unfold blkT
  cases e : S.find? (fun p => p.2 == t) with
  | none => rw [e] at h; cases h
  | some p =>
    have h1 := List.find?_some e
    have h2 := List.mem_of_find?_eq_some e
    have : p.2 = t := by simpa using h1
    exact ⟨p.1, rfl, by rw [← this]; exact h2⟩
theorem mem_lane {S : Std} {b : Nat} {t : Int} : t ∈ lane S b ↔ (b, t) ∈ S := by
  unfold lane
  rw [List.mem_map]
  constructor
  · rintro ⟨⟨a, x⟩, h, rfl⟩
    rw [List.mem_filter] at h
    have : a = b := by simpa using h.2
    subst this
    exact h.1
  · intro h
    exact ⟨(b, t), List.mem_filter.2 ⟨h, by simp⟩, rfl⟩
theorem lane_len {S : Std} {b : Nat} : (lane S b).length ≤ S.length := by
  unfold lane; rw [List.length_map]; exact List.length_filter_le _ _
/-- A lane behind a pull. -/
theorem lane_pull {t : Int} : ∀ {S : Std} {i : Nat}, hasT S t = true → lane (pullS S t) i = if (i : Int) = blkT S t then (lane S i).erase t else lane S i
  | [], i, h => by cases h
  | p :: S, i, h => by
    obtain ⟨a, x⟩ := p
    by_cases e : x = t
    · subst e
      have hb : blkT ((a, x) :: S) x = a := by unfold blkT; simp
      have hp : pullS ((a, x) :: S) x = S := by unfold pullS; rw [List.eraseP_cons_of_pos (by simp)]
      rw [hb, hp]
      unfold lane
      rw [List.filter_cons]
      by_cases w : a = i
      · subst w; simp
      · have : (a == i) = false := by simpa using w
        simp only [this, Bool.false_eq_true, if_false]
        rw [if_neg (by omega)]
    · have e' : (x == t) = false := by simpa using e
      have hp : pullS ((a, x) :: S) t = (a, x) :: pullS S t := by unfold pullS; rw [List.eraseP_cons_of_neg (by simpa using e)]
      have hh : hasT S t = true := by unfold hasT at h ⊢; simpa [e'] using h
      have hb : blkT ((a, x) :: S) t = blkT S t := by unfold blkT; rw [List.find?_cons]; simp only [e']
      rw [hb, hp]
      have ih := lane_pull (i := i) hh
      unfold lane at ih ⊢
      rw [List.filter_cons, List.filter_cons]
      by_cases w : a = i
      · have w' : (a == i) = true := by simpa using w
        simp only [w', if_true, List.map_cons]
        rw [ih]
        split
        · rw [List.erase_cons, if_neg (by simpa using e)]
        · rfl
      · have w' : (a == i) = false := by simpa using w
        simp only [w', Bool.false_eq_true, if_false]
        exact ih
end Go.Proofs.Ytkncijljkfpdiaa.Sx
