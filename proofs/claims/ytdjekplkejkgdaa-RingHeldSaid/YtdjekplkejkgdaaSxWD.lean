import Derived.Test.YtdjekplkejkgdaaSxWC
/-
  The walks of this seat's functions: Held.
-/
namespace Go.Proofs.Ytdjekplkejkgdaa.Sx
open Go Go.Proofs
set_option maxRecDepth 100000
set_option linter.unusedSimpArgs false
set_option linter.unusedVariables false

/-- Those below n that are held. -/
def heldTo (s : Sh) (n : Nat) : List Nat := (List.range n).filter fun i => s.he i
theorem heldTo_yes {s : Sh} {n : Nat} (h : s.he n = true) : heldTo s (n + 1) = heldTo s n ++ [n] := by simp [heldTo, List.range_succ, h]
theorem heldTo_no {s : Sh} {n : Nat} (h : s.he n = false) : heldTo s (n + 1) = heldTo s n := by simp [heldTo, List.range_succ, h]
theorem heldTo_len (s : Sh) (n : Nat) : (heldTo s n).length ≤ n := by have := List.length_filter_le (fun i => s.he i) (List.range n); simpa [heldTo] using this

/-- What a collecting loop has: nothing yet, or a row of its own (tag 9). -/
def Got (l : List Nat) (v : V) (hx : Hp) : Prop := (l = [] ∧ v = .nils ∧ hx = []) ∨ (l ≠ [] ∧ ∃ bb cap F, l.length ≤ cap ∧ cap ≤ 9223372036854775807 ∧ (∀ i (hi : i < l.length), F i = ((l[i] : Nat) : Int)) ∧ v = .slice 9 0 l.length cap ∧ hx = [(9, .blk bb cap 1 (g1 .i64 F) 3)])

theorem g1_self {τ : Nat → Nat} {hh : Hp} {F : Nat → Int} {i c : Nat} (hc : c < 1) : rn τ hh (g1 .i64 F i c) (g1 .i64 F i c) := ⟨rfl, rfl⟩
def sHeld : Spec := fun args h nx K => ∃ (p : V) (s : Sh), args = [p] ∧ shelfR h p s ∧ s.N ≤ 1000 ∧ fd nx h = .gone ∧ ansRow (heldTo s s.N) h nx K
theorem sHeld_ok : SpecOK Try.prog 18 sHeld := by
  refine specOK_new (fn := Try.f18) rfl rfl rfl T_ok (SP := []) noSP 200 _ ?_
  rintro args h nx K ⟨p, s, rfl, hs, h1, hgone, hk0, hk1⟩
  obtain ⟨bS, bA, told⟩ := told_shelf (rest := []) hs trivial
  refine ⟨_, _, told, by simp [Try.f18], fun o h1 => (heldTo s s.N = [] ∧ o = .ret .nils) ∨ (heldTo s s.N ≠ [] ∧ ∃ (t bb cap : Nat) (F : Nat → Int), o = .ret (.slice t 0 (heldTo s s.N).length cap) ∧ (heldTo s s.N).length ≤ cap ∧ cap ≤ 9223372036854775807 ∧ (∀ i (hi : i < (heldTo s s.N).length), F i = (((heldTo s s.N)[i] : Nat) : Int)) ∧ fd t h1 = .blk bb cap 1 (g1 .i64 F) 3), ?_, ?_⟩
  · rintro o h1 (⟨e, rfl⟩ | ⟨e, t, bb, cap, F, rfl, h2, h3, h4, h5⟩)
    · exact .inl ⟨trivial, hk0 e⟩
    · exact .inr ⟨_, t, bb, cap, 1, _, 3, .slice nx 0 (heldTo s s.N).length cap, rfl, h5, fun i c _ _ => trivial, ⟨⟨rfl, by simp [live, fd]⟩, rfl, rfl, rfl⟩, hgone, hk1 e bb cap _ h2 h3 (fun i hi => by show V.int .i64 (F i) = _; rw [h4 i hi]) (fun _ _ => trivial)⟩
  intro cx hcx
  clear hk0 hk1 told hs hgone
  have eS : ∀ {τ : Nat → Nat} {hh : Hp}, (2001 = τ 2001 ∧ live hh 2001) → ∀ i c, i < 1 → c < 8 → rn τ hh (gS 2001 s.N s.bot s.E i c) (gS 2001 s.N s.bot s.E i c) := fun ht i c hi hc => gS_rn ht
  refine W_loop (fun r σ h => ∃ (j : Nat) (v : V) (hx : Hp), r = s.N - j ∧ j ≤ s.N ∧ Got (heldTo s j) v hx ∧ σ = [(3, v), (9, .slice 2001 0 s.N s.N), (10, .int .i64 s.N), (11, .int .i64 j)] ∧ h = (2001, .ro (some ⟨bA, 0, none⟩) s.N 5 (gA s.u s.d s.l s.lo s.he)) :: hx) s.N ⟨0, .nils, [], rfl, by omega, .inl ⟨rfl, rfl, rfl⟩, rfl, rfl⟩ (tau []) ⟨rfl, ?_, ?_⟩ 30 ?_
  · repeat' (first | exact rfl | exact trivial | refine ⟨?_, ?_⟩)
  · exact ⟨⟨rfl, rfl, rfl, fun i c hi hc => gA_rn hc⟩, trivial⟩
  rintro r σ h ⟨j, v, hx, rfl, hj, hHas, rfl, rfl⟩
  have w1 : IntKind.i64.wrap ((j : Int) + 1) = ((j + 1 : Nat) : Int) := by simp [IntKind.wrap_i64]; omega
  rcases hHas with ⟨hl, rfl, rfl⟩ | ⟨hl, bb, cap, F, hc1, hc2, hF, rfl, rfl⟩
  · refine vc_sound (mkE hcx T_ok noSP) 200 _ _ _ 30 ?_
    (refine (?_ : br _ _ _); refine br_dec (fun hlt => ?_) (fun hlt => ?_))
    · have hlt : (j : Int) < (s.N : Int) := hlt
      (refine (?_ : chk _ _); refine chk_ok (show (decide ((0 : Int) ≤ (j : Int)) && decide ((j : Int) < (s.N : Int))) = true by simp only [Bool.and_eq_true, decide_eq_true_eq]; omega) ?_)
      (refine (?_ : chk _ _); refine chk_ok rfl ?_)
      (refine (?_ : chk _ _); refine chk_ok (Nat.ble_eq_true_of_le (show j * 5 + 0 + 5 ≤ s.N * 5 by omega)) ?_)
      intro b0
      (refine (?_ : br _ _ _); refine br_both (fun e => ?_) (fun e => ?_))
      · have e : s.he j = true := by simpa [addI_eq] using e
        have hy := heldTo_yes e
        rw [hl, List.nil_append] at hy
        intro b1
        refine ⟨rfl, fun bb cap q1 q2 => ?_⟩
        refine ⟨s.N - (j + 1), _, _, by omega, ⟨j + 1, .slice 9 0 1 cap, [(9, .blk bb cap 1 (g1 .i64 fun i => if i < 0 then 0 else if i = 0 then (j : Int) else 0) 3)], rfl, by omega, .inr ⟨by rw [hy]; simp, bb, cap, _, by rw [hy]; exact q1, q2, fun i hi => ?_, by rw [hy]; rfl, rfl⟩, rfl, rfl⟩, tau [(9, 32)], rfl, ?_, ?_⟩
        · have hi0 : i = 0 := by rw [hy] at hi; simpa using hi
          subst hi0
          simp [hy]
        · repeat' (first | exact rfl | exact trivial | exact w1 | refine ⟨?_, ?_⟩)
        · exact ⟨⟨rfl, rfl, rfl, fun i c hi hc => gA_rn hc⟩, ⟨rfl, rfl, rfl, rfl, fun i c hi hc => appG_int (F := fun _ => 0) (fun i hi => absurd hi (by omega)) rfl rfl i c hc⟩, trivial⟩
      · have e : s.he j = false := by simpa [addI_eq] using e
        refine ⟨s.N - (j + 1), _, _, by omega, ⟨j + 1, .nils, [], rfl, by omega, .inl ⟨by rw [heldTo_no e]; exact hl, rfl, rfl⟩, rfl, rfl⟩, tau [], rfl, ?_, ?_⟩
        · repeat' (first | exact rfl | exact trivial | exact w1 | refine ⟨?_, ?_⟩)
        · exact ⟨⟨rfl, rfl, rfl, fun i c hi hc => gA_rn hc⟩, trivial⟩
    · have hlt : ¬ (j : Int) < (s.N : Int) := hlt
      obtain rfl : j = s.N := by omega
      exact .inl ⟨hl, rfl⟩
  · have hlen := heldTo_len s j
    refine vc_sound (mkE hcx T_ok noSP) 200 _ _ _ 30 ?_
    (refine (?_ : br _ _ _); refine br_dec (fun hlt => ?_) (fun hlt => ?_))
    · have hlt : (j : Int) < (s.N : Int) := hlt
      (refine (?_ : chk _ _); refine chk_ok (show (decide ((0 : Int) ≤ (j : Int)) && decide ((j : Int) < (s.N : Int))) = true by simp only [Bool.and_eq_true, decide_eq_true_eq]; omega) ?_)
      (refine (?_ : chk _ _); refine chk_ok rfl ?_)
      (refine (?_ : chk _ _); refine chk_ok (Nat.ble_eq_true_of_le (show j * 5 + 0 + 5 ≤ s.N * 5 by omega)) ?_)
      intro b0
      (refine (?_ : br _ _ _); refine br_both (fun e => ?_) (fun e => ?_))
      · have e : s.he j = true := by simpa [addI_eq] using e
        have hy := heldTo_yes e
        have hyl : (heldTo s (j + 1)).length = (heldTo s j).length + 1 := by rw [hy]; simp
        generalize heldTo s j = l at hl hc1 hF hlen hy hyl ⊢
        intro b1
        (refine (?_ : br _ _ _); refine br_both (fun hcap => ?_) (fun hcap => ?_))
        · have hcap : l.length + 1 ≤ cap := Nat.le_of_ble_eq_true hcap
          (refine (?_ : chk _ _); refine chk_ok (show (Nat.beq 1 1 && Nat.ble (0 + l.length + 1) cap) = true by rw [Nat.ble_eq_true_of_le (by omega)]; rfl) ?_)
          refine ⟨fun i k hi hk => ?_, ?_⟩
          · have hi : i < 1 := hi
            have hk : k < 1 := hk
            obtain rfl : i = 0 := by omega
            obtain rfl : k = 0 := by omega
            rfl
          refine ⟨s.N - (j + 1), _, _, by omega, ⟨j + 1, .slice 9 0 (l.length + 1) cap, [(9, .blk bb cap 1 (g1 .i64 fun i => if i = l.length then (j : Int) else F i) 3)], rfl, by omega, .inr ⟨by rw [hy]; simp, bb, cap, _, by omega, hc2, fun i hi => ?_, by rw [hyl], rfl⟩, rfl, rfl⟩, tau [], rfl, ?_, ?_⟩
          · simp only [hy]
            by_cases q : i = l.length
            · subst q; simp
            · rw [if_neg q, hF i (by omega), List.getElem_append_left (by omega)]
          · repeat' (first | exact rfl | exact trivial | exact w1 | refine ⟨?_, ?_⟩)
          · exact ⟨⟨rfl, rfl, rfl, fun i c hi hc => gA_rn hc⟩, ⟨rfl, rfl, rfl, rfl, fun i c hi hc => appR_int rfl i c hc⟩, trivial⟩
        · (refine (?_ : chk _ _); refine chk_ok (Nat.ble_eq_true_of_le (by omega)) ?_)
          (refine (?_ : chk _ _); refine chk_ok (show (Nat.beq 1 1 && Nat.ble (0 + l.length) cap) = true by rw [Nat.ble_eq_true_of_le (by omega)]; rfl) ?_)
          refine ⟨rfl, fun bb' cap' q1 q2 => ?_⟩
          refine ⟨s.N - (j + 1), _, _, by omega, ⟨j + 1, .slice 9 0 (l.length + 1) cap', [(9, .blk bb' cap' 1 (g1 .i64 fun i => if i < l.length then F i else if i = l.length then (j : Int) else 0) 3)], rfl, by omega, .inr ⟨by rw [hy]; simp, bb', cap', _, by omega, q2, fun i hi => ?_, by rw [hyl], rfl⟩, rfl, rfl⟩, tau [(9, 32)], rfl, ?_, ?_⟩
          · simp only [hy]
            by_cases q : i < l.length
            · rw [if_pos q, hF i q, List.getElem_append_left q]
            · have q2 : i = l.length := by omega
              subst q2; simp
          · repeat' (first | exact rfl | exact trivial | exact w1 | refine ⟨?_, ?_⟩)
          · exact ⟨⟨rfl, rfl, rfl, fun i c hi hc => gA_rn hc⟩, ⟨rfl, rfl, rfl, rfl, fun i c hi hc => appG_int (fun i hi => rfl) rfl rfl i c hc⟩, trivial⟩
      · have e : s.he j = false := by simpa [addI_eq] using e
        have hn := heldTo_no e
        refine ⟨s.N - (j + 1), _, _, by omega, ⟨j + 1, .slice 9 0 (heldTo s j).length cap, [(9, .blk bb cap 1 (g1 .i64 F) 3)], rfl, by omega, .inr ⟨by rw [hn]; exact hl, bb, cap, F, by rw [hn]; exact hc1, hc2, fun i hi => by simp only [hn]; exact hF i (by rw [hn] at hi; exact hi), by rw [hn], rfl⟩, rfl, rfl⟩, tau [], rfl, ?_, ?_⟩
        · repeat' (first | exact rfl | exact trivial | exact w1 | refine ⟨?_, ?_⟩)
        · exact ⟨⟨rfl, rfl, rfl, fun i c hi hc => gA_rn hc⟩, ⟨rfl, rfl, rfl, rfl, fun i c hi hc => g1_self hc⟩, trivial⟩
    · have hlt : ¬ (j : Int) < (s.N : Int) := hlt
      obtain rfl : j = s.N := by omega
      exact .inr ⟨hl, 9, bb, cap, F, rfl, hc1, hc2, hF, rfl⟩
end Go.Proofs.Ytdjekplkejkgdaa.Sx
