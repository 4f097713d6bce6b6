import Derived.Test.YtfmnebdfanaafaaSxW9
/-
  The walks of this seat's functions, tenth part: the law RunHas.
-/
namespace Go.Proofs.Ytfmnebdfanaafaa.Sx
open Go Go.Proofs
set_option maxRecDepth 100000
set_option linter.unusedSimpArgs false
set_option linter.unusedVariables false
set_option linter.unnecessarySimpa false

theorem cntN_bnd (nd : Int → Bool) (lo : Int) : ∀ k : Nat, 0 ≤ cntN nd lo k ∧ cntN nd lo k ≤ k
  | 0 => ⟨by simp [cntN], by simp [cntN]⟩
  | k + 1 => by
    have := cntN_bnd nd lo k
    have := cst_01 nd (lo + k)
    rw [cntN]
    omega

set_option maxHeartbeats 2000000 in
theorem sLaw5_ok : SpecOK Try.prog 5 sLawA := by
  refine specOK_read2 (fn := Try.f5) rfl rfl rfl T_ok (SP := SPL) splw 400 _ ?_
  rintro args h nx K ⟨v, v', block, most, room, n, n', f, f', rfl, hv, hv', hn, hn', ib, im, ir, hk⟩
  obtain ⟨b, N, i, c, F, b', N', i', c', F', hN, hF, hN', hF', told⟩ := told_two (rest := [.agg [.int .i64 block, .int .i64 most, .int .i64 room]]) hv hv' ⟨by repeat constructor, trivial⟩
  refine ⟨_, _, told, by simp [Try.f5], fun o => o = .ret (.bool true), ?_, ?_⟩
  · rintro o rfl; exact ⟨trivial, hk⟩
  intro cx hcx
  clear hk told hv hv'
  intro b0
  (refine (?_ : br _ _ _); refine br_dec (fun a1 => ?_) (fun a1 => ?_))
  · rfl
  (refine (?_ : br _ _ _); refine br_dec (fun a2 => ?_) (fun a2 => ?_))
  · rfl
  have a1 : ¬ (300 : Int) < (n : Int) := a1
  have a2 : ¬ (300 : Int) < (n' : Int) := a2
  refine ⟨_, _, _, _, _, n, n', f, f', rfl, .inr ⟨2000, i, c, b, N, _, rfl, rfl, hN, F, fun _ _ => rfl, hF⟩, .inr ⟨2001, i', c', b', N', _, rfl, rfl, hN', F', fun _ _ => rfl, hF'⟩, by omega, by omega, ib, im, ir, ?_⟩
  unfold i64 at ib im ir
  rcases around_ok (rd := hasB n f) (nd := hasB n' f') (block := block) (most := most) (room := room) with e | ⟨e, e1, e2⟩ | ⟨hm8, lo, cnt, left, e, h1, h2, h3, h4, h5, h6, h7, h8, h9⟩
  · rw [e]
    intro b1
    rfl
  · rw [e]
    intro b1
    (refine (?_ : br _ _ _); refine br_eqT e1 ?_)
    refine ⟨_, _, n', f', rfl, .inr ⟨2001, i', c', b', N', _, rfl, rfl, hN', F', fun _ _ => rfl, hF'⟩, by omega, ?_⟩
    refine outB ?_
    exact e2
  · rw [e]
    simp only at h1 h2 h3 h4 h5 h6 h7 h8 h9
    intro b1
    have lo64 : i64 lo := ⟨by omega, by omega⟩
    have cn64 : i64 cnt := ⟨by omega, by omega⟩
    have bl64 : i64 block := ⟨by omega, by omega⟩
    refine ⟨lo64, cn64, bl64, ?_⟩
    have hh : hasR lo cnt block = true := by
      have : mayB lo cnt = true := may_iff.2 ⟨by omega, by omega, by omega, by omega⟩
      unfold hasR
      rw [this]
      simp
      omega
    (refine (?_ : br _ _ _); refine br_f (show (!hasR lo cnt block) = false by rw [hh]; rfl) ?_)
    (refine (?_ : br _ _ _); refine br_decF (show ¬ most < cnt by omega) ?_)
    (refine (?_ : br _ _ _); refine br_decF (show ¬ 8 < cnt by omega) ?_)
    obtain ⟨m, hm⟩ : ∃ m : Nat, cnt = m := ⟨cnt.toNat, by omega⟩
    subst hm
    have wsum : IntKind.i64.wrap (lo + (m : Int)) = lo + m := by simp [IntKind.wrap_i64]; omega
    refine W_loop (fun r σ h => ∃ j : Nat, r = m - j ∧ j ≤ m ∧ σ = [(0, .slice 2000 i n c), (1, .slice 2001 i' n' c'), (5, .ptr 0 0 0), (7, .ptr 1 0 0), (9, .int .i64 (cntN (hasB n' f') lo j)), (10, .int .i64 (lo + j))] ∧
      h = [(0, .blk b0 1 3 (gOf 3 [.int .i64 block, .int .i64 most, .int .i64 room]) 24), (1, .blk b1 1 2 (gOf 2 [.int .i64 lo, .int .i64 m]) 27), (2000, .ro b N 1 (g1 .i64 F)), (2001, .ro b' N' 1 (g1 .i64 F'))]) m ⟨0, rfl, by omega, rfl, rfl⟩ (tau []) ⟨rfl, ?_, ?_⟩ 30 ?_
    · have w0 : lo = lo + ((0 : Nat) : Int) := by omega
      repeat' (first | exact rfl | exact trivial | exact w0 | refine ⟨?_, ?_⟩)
    · refine ⟨⟨rfl, rfl, rfl, rfl, fun i c hi hc => ?_⟩, ⟨rfl, rfl, rfl, rfl, fun i c hi hc => ?_⟩, ⟨rfl, rfl, rfl, fun i c hi hc => ⟨rfl, rfl⟩⟩, ⟨rfl, rfl, rfl, fun i c hi hc => ⟨rfl, rfl⟩⟩, trivial⟩
      · have hi : i < 1 := hi
        obtain rfl : i = 0 := by omega
        match c, hc with
        | 0, _ | 1, _ | 2, _ => exact ⟨rfl, rfl⟩
      · have hi : i < 1 := hi
        obtain rfl : i = 0 := by omega
        match c, hc with
        | 0, _ | 1, _ => exact ⟨rfl, rfl⟩
    have keep : ∀ {τ : Nat → Nat} {h : Hp} (i c : Nat), i < 1 → c < 3 → rn τ h (gOf 3 [.int .i64 block, .int .i64 most, .int .i64 room] i c) (gOf 3 [.int .i64 block, .int .i64 most, .int .i64 room] i c) := by
      intro τ h i c hi hc
      obtain rfl : i = 0 := by omega
      match c, hc with
      | 0, _ | 1, _ | 2, _ => exact ⟨rfl, rfl⟩
    have keep2 : ∀ {τ : Nat → Nat} {h : Hp} (i c : Nat), i < 1 → c < 2 → rn τ h (gOf 2 [.int .i64 lo, .int .i64 m] i c) (gOf 2 [.int .i64 lo, .int .i64 m] i c) := by
      intro τ h i c hi hc
      obtain rfl : i = 0 := by omega
      match c, hc with
      | 0, _ | 1, _ => exact ⟨rfl, rfl⟩
    rintro r σ h1' ⟨j, rfl, hj, rfl, rfl⟩
    refine vc_sound (mkE hcx T_ok splw) 300 _ _ _ 30 ?_
    (refine (?_ : br _ _ _); refine br_dec (fun hlt => ?_) (fun hlt => ?_))
    · have hlt : lo + (j : Int) < IntKind.i64.wrap (lo + (m : Int)) := hlt
      rw [wsum] at hlt
      have wj : IntKind.i64.wrap (lo + (j : Int) + 1) = lo + ((j + 1 : Nat) : Int) := by simp [IntKind.wrap_i64]; omega
      have cb := cntN_bnd (hasB n' f') lo j
      refine ⟨_, _, n, f, rfl, .inr ⟨2000, i, c, b, N, _, rfl, rfl, hN, F, fun _ _ => rfl, hF⟩, by omega, ?_⟩
      have hr := h5 (lo + j) (by omega) (by omega)
      (refine (?_ : br _ _ _); refine br_f (show (!hasB n f (lo + j)) = false by rw [hr]; rfl) ?_)
      refine ⟨_, _, n', f', rfl, .inr ⟨2001, i', c', b', N', _, rfl, rfl, hN', F', fun _ _ => rfl, hF'⟩, by omega, ?_⟩
      (refine (?_ : br _ _ _); refine br_both (fun e5 => ?_) (fun e5 => ?_))
      · have e5 : hasB n' f' (lo + j) = true := e5
        have hc1 : cst (hasB n' f') (lo + j) = 1 := by unfold cst; rw [if_pos e5]
        have wc : IntKind.i64.wrap (cntN (hasB n' f') lo j + 1) = cntN (hasB n' f') lo (j + 1) := by rw [cntN, hc1]; simp only [IntKind.wrap_i64]; omega
        refine ⟨m - (j + 1), _, _, by omega, ⟨j + 1, rfl, by omega, rfl, rfl⟩, tau [], rfl, ?_, ?_⟩
        · repeat' (first | exact rfl | exact trivial | exact wj | exact wc | refine ⟨?_, ?_⟩)
        · exact ⟨⟨rfl, rfl, rfl, rfl, fun i c hi hc => keep i c hi hc⟩, ⟨rfl, rfl, rfl, rfl, fun i c hi hc => keep2 i c hi hc⟩, ⟨rfl, rfl, rfl, fun i c hi hc => ⟨rfl, rfl⟩⟩, ⟨rfl, rfl, rfl, fun i c hi hc => ⟨rfl, rfl⟩⟩, trivial⟩
      · have e5 : hasB n' f' (lo + j) = false := e5
        have hc1 : cst (hasB n' f') (lo + j) = 0 := by unfold cst; rw [if_neg (by rw [e5]; decide)]
        have wc : cntN (hasB n' f') lo j = cntN (hasB n' f') lo (j + 1) := by rw [cntN, hc1]; omega
        refine ⟨m - (j + 1), _, _, by omega, ⟨j + 1, rfl, by omega, rfl, rfl⟩, tau [], rfl, ?_, ?_⟩
        · repeat' (first | exact rfl | exact trivial | exact wj | exact wc | refine ⟨?_, ?_⟩)
        · exact ⟨⟨rfl, rfl, rfl, rfl, fun i c hi hc => keep i c hi hc⟩, ⟨rfl, rfl, rfl, rfl, fun i c hi hc => keep2 i c hi hc⟩, ⟨rfl, rfl, rfl, fun i c hi hc => ⟨rfl, rfl⟩⟩, ⟨rfl, rfl, rfl, fun i c hi hc => ⟨rfl, rfl⟩⟩, trivial⟩
    · have hlt : ¬ lo + (j : Int) < IntKind.i64.wrap (lo + (m : Int)) := hlt
      rw [wsum] at hlt
      obtain rfl : j = m := by omega
      have e9 : ((j : Int)).toNat = j := by omega
      rw [e9] at h6
      refine outB ?_
      exact decide_eq_true (by omega)

end Go.Proofs.Ytfmnebdfanaafaa.Sx
