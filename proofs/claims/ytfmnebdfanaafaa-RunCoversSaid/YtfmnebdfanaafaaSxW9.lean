import Derived.Test.YtfmnebdfanaafaaSxW8
/-
  The walks of this seat's functions, ninth part: Has; the laws RunAround, RunHas.
-/
namespace Go.Proofs.Ytfmnebdfanaafaa.Sx
open Go Go.Proofs
set_option maxRecDepth 100000
set_option linter.unusedSimpArgs false
set_option linter.unusedVariables false
set_option linter.unnecessarySimpa false

def hasR (a b x : Int) : Bool := mayB a b && (decide (a ≤ x) && decide (x - a < b))
def sHas : Spec := fun args h nx K => match args with
  | [.agg [.int .i64 a, .int .i64 b], .int .i64 x] => i64 a ∧ i64 b ∧ i64 x ∧ K (.ret (.bool (hasR a b x))) h nx
  | _ => False
theorem sHas_ok : SpecOK Try.prog 19 sHas := by
  refine specOK_pure (fn := Try.f19) rfl rfl rfl T_ok (SP := [(20, sMay)]) (consSP sRefMay_ok noSP) [] trivial 200 _ ?_
  intro args h nx K hs
  unfold sHas at hs
  split at hs
  · rename_i a b x
    obtain ⟨ha, hb, hx, hk⟩ := hs
    refine ⟨trivial, by repeat constructor, by simp [Try.f19], fun o => o = .ret (.bool (hasR a b x)), ?_, ?_⟩
    · rintro o rfl; exact ⟨trivial, hk⟩
    intro cx hcx
    clear hk
    intro b0
    refine ⟨ha, hb, ?_⟩
    unfold i64 at hx
    cases e1 : mayB a b with
    | false =>
      refine outB ?_
      simp [hasR, e1]
    | true =>
      have m1 := may_iff.1 e1
      (refine (?_ : br _ _ _); refine br_dec (fun e2 => ?_) (fun e2 => ?_))
      · have e2 : a ≤ x := e2
        have w1 : IntKind.i64.wrap (x - a) = x - a := by simp [IntKind.wrap_i64]; omega
        refine outB ?_
        show decide (IntKind.i64.wrap (x - a) < b) = _
        rw [w1, hasR, e1, decide_eq_true e2]; rfl
      · have e2 : ¬ a ≤ x := e2
        refine outB ?_
        rw [hasR, decide_eq_false e2]; simp
  · exact hs.elim

def SPL : SpT := [(7, sAwake), (8, sAround), (9, sAround), (13, sMeet), (16, sBlocks), (18, sIn), (19, sHas), (20, sMay)]
theorem splw : ∀ p ∈ SPL, SpecOK Try.prog p.1 p.2 := consSP sAwake_ok (consSP sAround_ok (consSP sRefAround_ok (consSP sMeet_ok (consSP sBlocks_ok (consSP sRefIn_ok (consSP sHas_ok (consSP sRefMay_ok noSP)))))))

def sLawA : Spec := fun args h nx K => ∃ v v' block most room n n' f f', args = [v, v', .agg [.int .i64 block, .int .i64 most, .int .i64 room]] ∧ rdI h v n f ∧ rdI h v' n' f' ∧ n ≤ 9223372036854775807 ∧ n' ≤ 9223372036854775807 ∧ i64 block ∧ i64 most ∧ i64 room ∧ K (.ret (.bool true)) h nx

theorem sLaw3_ok : SpecOK Try.prog 3 sLawA := by
  refine specOK_read2 (fn := Try.f3) rfl rfl rfl T_ok (SP := SPL) splw 400 _ ?_
  rintro args h nx K ⟨v, v', block, most, room, n, n', f, f', rfl, hv, hv', hn, hn', ib, im, ir, hk⟩
  obtain ⟨b, N, i, c, F, b', N', i', c', F', hN, hF, hN', hF', told⟩ := told_two (rest := [.agg [.int .i64 block, .int .i64 most, .int .i64 room]]) hv hv' ⟨by repeat constructor, trivial⟩
  refine ⟨_, _, told, by simp [Try.f3], fun o => o = .ret (.bool true), ?_, ?_⟩
  · rintro o rfl; exact ⟨trivial, hk⟩
  intro cx hcx
  clear hk told hv hv'
  intro b0
  (refine (?_ : br _ _ _); refine br_dec (fun a1 => ?_) (fun a1 => ?_))
  · rfl
  (refine (?_ : br _ _ _); refine br_dec (fun a2 => ?_) (fun a2 => ?_))
  · rfl
  have a1 : ¬ (300 : Int) < (n : Int) := a1
  have a2 : ¬ (300 : Int) < (n' : Int) := a2
  refine ⟨_, _, _, _, _, n, n', f, f', rfl, .inr ⟨2000, i, c, b, N, _, rfl, rfl, hN, F, fun _ _ => rfl, hF⟩, .inr ⟨2001, i', c', b', N', _, rfl, rfl, hN', F', fun _ _ => rfl, hF'⟩, by omega, by omega, ib, im, ir, ?_⟩
  intro b1
  refine ⟨_, _, _, _, _, n, n', f, f', rfl, .inr ⟨2000, i, c, b, N, _, rfl, rfl, hN, F, fun _ _ => rfl, hF⟩, .inr ⟨2001, i', c', b', N', _, rfl, rfl, hN', F', fun _ _ => rfl, hF'⟩, by omega, by omega, ib, im, ir, ?_⟩
  intro b2
  (refine (?_ : br _ _ _); refine br_t (by simp) ?_)
  refine outB ?_
  simp

/-- How many needy ones there are among k blocks from lo on. -/
def cntN (nd : Int → Bool) (lo : Int) : Nat → Int
  | 0 => 0
  | k + 1 => cntN nd lo k + cst nd (lo + k)
theorem cntN_low (nd : Int → Bool) (lo : Int) : ∀ k : Nat, cntN nd (lo - 1) (k + 1) = cst nd (lo - 1) + cntN nd lo k
  | 0 => by simp [cntN]
  | k + 1 => by
    rw [cntN, cntN_low nd lo k, cntN]
    have : lo - 1 + ((k + 1 : Nat) : Int) = lo + k := by omega
    rw [this]
    omega
def okR (rd nd : Int → Bool) (block most room0 : Int) (s : Int × Int × Int) : Prop :=
  0 ≤ s.1 ∧ s.1 + s.2.1 ≤ 256 ∧ 1 ≤ s.2.1 ∧ s.2.1 ≤ most ∧ (∀ b : Int, s.1 ≤ b → b < s.1 + s.2.1 → rd b = true) ∧ cntN nd s.1 s.2.1.toNat + s.2.2 = room0 ∧ 0 ≤ s.2.2 ∧ s.1 ≤ block ∧ block < s.1 + s.2.1
theorem ext_ok {rd nd : Int → Bool} {block most room0 : Int} (w : Bool) : ∀ (k : Nat) (s : Int × Int × Int), okR rd nd block most room0 s → okR rd nd block most room0 (ext rd nd most w k s)
  | 0, s, h => h
  | k + 1, (lo, cnt, room), h => by
    cases st : stopB rd nd most w lo cnt room with
    | true => rw [ext_stop st]; exact h
    | false =>
      rw [ext_step st]
      apply ext_ok w k
      obtain ⟨h1, h2, h3, h4, h5, h6, h7, h8, h9⟩ := h
      simp only at h1 h2 h3 h4 h5 h6 h7 h8 h9
      simp only [stopB, Bool.or_eq_false_iff, decide_eq_false_iff_not, Bool.not_eq_false'] at st
      obtain ⟨s1, s2, s3, s4⟩ := st
      simp only [isB, Bool.and_eq_true, decide_eq_true_eq] at s2
      obtain ⟨m, hm⟩ : ∃ m : Nat, cnt = m := ⟨cnt.toNat, by omega⟩
      subst hm
      have e1 : ((m : Int) + 1).toNat = m + 1 := by omega
      have e2 : (m : Int).toNat = m := by omega
      rw [e2] at h6
      cases w with
      | false =>
        simp only [nxt] at s2 s3 s4
        refine ⟨h1, by simp only [low]; omega, by simp only; omega, by simp only; omega, fun b b1 b2 => ?_, ?_, by simp only [nxt]; omega, h8, by simp only [low]; omega⟩
        · simp only [low] at b1 b2
          by_cases e : b = lo + m
          · rw [e]; exact s3
          · exact h5 b b1 (by omega)
        · simp only [low, nxt, e1, cntN]; omega
      | true =>
        simp only [nxt] at s2 s3 s4
        refine ⟨by simp only [low]; omega, by simp only [low]; omega, by simp only; omega, by simp only; omega, fun b b1 b2 => ?_, ?_, by simp only [nxt]; omega, by simp only [low]; omega, by simp only [low]; omega⟩
        · simp only [low] at b1 b2
          by_cases e : b = lo - 1
          · rw [e]; exact s3
          · exact h5 b (by omega) (by omega)
        · simp only [low, nxt, e1, cntN_low]; omega

/-- What a run around a block is, in the end. -/
theorem around_ok {rd nd : Int → Bool} {block most room : Int} :
    (around rd nd block most room = (0, 0, 1)) ∨ (around rd nd block most room = (0, 0, 2) ∧ room = 0 ∧ nd block = true) ∨
    (most ≤ 8 ∧ ∃ lo cnt left, around rd nd block most room = (lo, cnt, 0) ∧ okR rd nd block most room (lo, cnt, left)) := by
  unfold around
  split
  · exact .inl rfl
  · rename_i h
    simp only [not_or] at h
    obtain ⟨h1, h2, h3, h4, h5⟩ := h
    have h4 : isB block = true := by simpa using h4
    have h5 : rd block = true := by simpa using h5
    have hb : 0 ≤ block ∧ block < 256 := by simpa [isB] using h4
    split
    · rename_i h6
      refine .inr (.inl ⟨rfl, ?_⟩)
      unfold cst at h6
      split at h6
      · rename_i h7; exact ⟨by omega, h7⟩
      · omega
    · rename_i h6
      refine .inr (.inr ⟨by omega, _, _, (rem rd nd most most.toNat 0 (block, 1, room - cst nd block)).2.2, rfl, ?_⟩)
      have h0 : okR rd nd block most room (block, 1, room - cst nd block) := by
        refine ⟨hb.1, by simp only; omega, by simp only; omega, by simp only; omega, fun b b1 b2 => ?_, ?_, by simp only; omega, by simp only; omega, by simp only; omega⟩
        · simp only at b1 b2
          have : b = block := by omega
          rw [this]; exact h5
        · have e1 : (1 : Int).toNat = 1 := rfl
          simp only [e1, cntN]
          have : block + ((0 : Nat) : Int) = block := by omega
          rw [this]; omega
      exact ext_ok true _ _ (ext_ok false _ _ h0)

end Go.Proofs.Ytfmnebdfanaafaa.Sx
