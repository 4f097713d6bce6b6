import Derived.Test.YtfmnebdfanaafaaSxW3
/-
  The walks of this seat's functions, fourth part: the document's Around.
-/
namespace Go.Proofs.Ytfmnebdfanaafaa.Sx
open Go Go.Proofs
set_option maxRecDepth 100000
set_option linter.unusedSimpArgs false
set_option linter.unusedVariables false
set_option linter.unnecessarySimpa false

def SPQ : SpT := [(18, sIn)]
theorem spq : ∀ p ∈ SPQ, SpecOK Try.prog p.1 p.2 := consSP sRefIn_ok noSP
theorem outT {a b c a' b' c' : Int} (h : a = a') (h' : b = b') (h'' : c = c') : Out.ret (.tup [.agg [.int .i64 a, .int .i64 b], .int .i64 c]) = outA (a', b', c') := by rw [h, h', h'']; rfl
theorem box {τ : Nat → Nat} {h : Hp} {g : Nat → Nat → V} (i c : Nat) (hi : i < 1) (hc : c < 2) (h0 : g 0 0 = .int .i64 0 := by rfl) (h1 : g 0 1 = .int .i64 0 := by rfl) : rn τ h (g i c) (gOf 2 [.int .i64 0, .int .i64 0] i c) := by
  obtain rfl : i = 0 := by omega
  match c, hc with
  | 0, _ => rw [h0]; exact ⟨rfl, rfl⟩
  | 1, _ => rw [h1]; exact ⟨rfl, rfl⟩

set_option maxHeartbeats 4000000 in
theorem sRefAround_ok : SpecOK Try.prog 9 sAround := by
  refine specOK_read2 (fn := Try.f9) rfl rfl rfl T_ok (SP := SPQ) spq 300 _ ?_
  rintro args h nx K ⟨v, v', block, most, room, n, n', f, f', rfl, hv, hv', hn, hn', ib, im, ir, hk⟩
  obtain ⟨b, N, i, c, F, b', N', i', c', F', hN, hF, hN', hF', told⟩ := told_two (rest := [.int .i64 block, .int .i64 most, .int .i64 room]) hv hv' ⟨trivial, trivial, trivial, trivial⟩
  refine ⟨_, _, told, by simp [Try.f9], fun o => o = outA (around (hasB n f) (hasB n' f') block most room), ?_, ?_⟩
  · rintro o rfl; exact ⟨by repeat constructor, hk⟩
  intro cx hcx
  clear hk told hv hv'
  unfold i64 at ib im ir
  have bad : (most < 1 ∨ 8 < most ∨ room < 0 ∨ isB block = false ∨ hasB n f block = false) → around (hasB n f) (hasB n' f') block most room = (0, 0, 1) := fun q => by unfold around; rw [if_pos q]
  intro b0
  (refine (?_ : br _ _ _); refine br_dec (fun a1 => ?_) (fun a1 => ?_))
  · rw [bad (.inl a1)]; rfl
  (refine (?_ : br _ _ _); refine br_dec (fun a2 => ?_) (fun a2 => ?_))
  · rw [bad (.inr (.inl a2))]; rfl
  (refine (?_ : br _ _ _); refine br_dec (fun a3 => ?_) (fun a3 => ?_))
  · rw [bad (.inr (.inr (.inl a3)))]; rfl
  (refine (?_ : br _ _ _); refine br_dec (fun a4 => ?_) (fun a4 => ?_))
  · have a4 : block < 0 := a4
    rw [bad (.inr (.inr (.inr (.inl (by unfold isB; simp; omega)))))]; rfl
  (refine (?_ : br _ _ _); refine br_dec (fun a4' => ?_) (fun a4' => ?_))
  · have a4' : 255 < block := a4'
    rw [bad (.inr (.inr (.inr (.inl (by unfold isB; simp; omega)))))]; rfl
  refine ⟨_, _, n, f, rfl, .inr ⟨2000, i, c, b, N, _, rfl, rfl, hN, F, fun _ _ => rfl, hF⟩, hn, ?_⟩
  (refine (?_ : br _ _ _); refine br_both (fun a5 => ?_) (fun a5 => ?_))
  · rw [bad (.inr (.inr (.inr (.inr (by simpa using a5)))))]; rfl
  have a1 : ¬ most < 1 := a1
  have a2 : ¬ 8 < most := a2
  have a3 : ¬ room < 0 := a3
  have a4 : ¬ block < 0 := a4
  have a4' : ¬ 255 < block := a4'
  have a6 : isB block = true := by unfold isB; simp; omega
  have a5 : hasB n f block = true := by simpa using a5
  have good : ¬ (most < 1 ∨ 8 < most ∨ room < 0 ∨ isB block = false ∨ hasB n f block = false) := by simp [a6, a5]; omega
  obtain ⟨m, hm⟩ : ∃ m : Nat, most = m := ⟨most.toNat, by omega⟩
  obtain ⟨fin, hfin⟩ : ∃ fin, rem (hasB n f) (hasB n' f') most m 0 (block, 1, room - cst (hasB n' f') block) = fin := ⟨_, rfl⟩
  have hres : ¬ room - cst (hasB n' f') block < 0 → around (hasB n f) (hasB n' f') block most room = (fin.1, fin.2.1, 0) := fun a7 => by
    unfold around
    have : most.toNat = m := by omega
    rw [if_neg good, if_neg a7, this, hfin]
  have c01 := cst_01 (hasB n' f') block
  refine ⟨_, _, n', f', rfl, .inr ⟨2001, i', c', b', N', _, rfl, rfl, hN', F', fun _ _ => rfl, hF'⟩, hn', ?_⟩
  (refine (?_ : br _ _ _); refine br_both (fun a7 => ?_) (fun a7 => ?_))
  · have a7 : hasB n' f' block = true := a7
    have hc1 : cst (hasB n' f') block = 1 := by unfold cst; rw [if_pos a7]
    (refine (?_ : br _ _ _); refine br_eq (fun a8 => ?_) (fun a8 => ?_))
    · have a8 : room = 0 := a8
      have : around (hasB n f) (hasB n' f') block most room = (0, 0, 2) := by unfold around; rw [if_neg good, if_pos (by omega)]
      rw [this]; rfl
    · have a8 : room ≠ 0 := a8
      have ws : IntKind.i64.wrap (room - 1) = room - 1 := by simp [IntKind.wrap_i64]; omega
      have hres := hres (by omega)
      obtain ⟨t, ht⟩ : ∃ t, ext (hasB n f) (hasB n' f') most false m (block, 1, (room - 1)) = t := ⟨_, rfl⟩
      have hr0 : (room - 1) = room - cst (hasB n' f') block := by omega
      have hfin0 : ext (hasB n f) (hasB n' f') most true m t = fin := by rw [← ht, hr0]; exact hfin
      have ht : ext (hasB n f) (hasB n' f') most false (m - 0) (block, block - block + 1, (room - 1)) = t := by rw [← ht, Int.sub_self]; rfl
      have ok0 : 0 ≤ block ∧ block ≤ block ∧ block ≤ 255 ∧ block - block + 1 ≤ most ∧ 0 ≤ (room - 1) ∧ (room - 1) ≤ 9223372036854775807 := ⟨by omega, by omega, by omega, by omega, by omega, by omega⟩
      have wx : True := trivial
      have wy : True := trivial
      refine W_loop (fun r σ h => ∃ (k : Nat) (lo hi room : Int), r = m - k ∧ (k : Int) + 1 ≤ hi - lo + 1 ∧ (0 ≤ lo ∧ lo ≤ hi ∧ hi ≤ 255 ∧ hi - lo + 1 ≤ most ∧ 0 ≤ room ∧ room ≤ 9223372036854775807) ∧ ext (hasB n f) (hasB n' f') most false (m - k) (lo, hi - lo + 1, room) = t ∧ σ = [(0, .slice 2000 i n c), (1, .slice 2001 i' n' c'), (3, .int .i64 most), (4, .int .i64 room), (10, .ptr 0 0 0), (12, .int .i64 lo), (13, .int .i64 hi)] ∧ h = [(0, .blk b0 1 2 (gOf 2 [.int .i64 0, .int .i64 0]) 27), (2000, .ro b N 1 (g1 .i64 F)), (2001, .ro b' N' 1 (g1 .i64 F'))]) m ⟨0, block, block, (room - 1), rfl, by omega, ok0, ht, rfl, rfl⟩ (tau []) ⟨rfl, ?_, ?_⟩ 60 ?_
      · exact (by repeat' (first | exact rfl | exact trivial | exact ws | exact wx | exact wy | refine ⟨?_, ?_⟩))
      · exact ⟨⟨rfl, rfl, rfl, rfl, fun i c hi hc => box i c hi hc⟩, ⟨rfl, rfl, rfl, fun i c hi hc => ⟨rfl, rfl⟩⟩, ⟨rfl, rfl, rfl, fun i c hi hc => ⟨rfl, rfl⟩⟩, trivial⟩
      rintro r2 σ2 h2 ⟨k, lo, hi, room, rfl, hk, ok, hx, rfl, rfl⟩
      obtain ⟨o1, o2, o3, o4, o5, o6⟩ := ok
      have ok : 0 ≤ lo ∧ lo ≤ hi ∧ hi ≤ 255 ∧ hi - lo + 1 ≤ most ∧ 0 ≤ room ∧ room ≤ 9223372036854775807 := ⟨o1, o2, o3, o4, o5, o6⟩
      have wn : IntKind.i64.wrap (hi + 1) = hi + 1 := by simp [IntKind.wrap_i64]; omega
      have wc : IntKind.i64.wrap (IntKind.i64.wrap (hi - lo) + 1) = hi - lo + 1 := by simp [IntKind.wrap_i64]; omega
      have nxq : nxt false lo (hi - lo + 1) = hi + 1 := by first | rfl | (simp only [nxt]; omega)
      refine vc_sound (mkE hcx T_ok spq) 300 _ _ _ 60 ?_
      (refine (?_ : br _ _ _); refine br_dec (fun e1 => ?_) (fun e1 => ?_))
      rotate_left
      · rw [wc] at e1
        have st : stopB (hasB n f) (hasB n' f') most false lo (hi - lo + 1) room = true := by unfold stopB; rw [show decide (hi - lo + 1 = most) = true from decide_eq_true (by omega)]; rfl
        rw [ext_stop st] at hx
        obtain ⟨t2, ht2⟩ : ∃ t2, ext (hasB n f) (hasB n' f') most true (m - 0) (lo, hi - lo + 1, room) = t2 := ⟨_, rfl⟩
        have ht0 : t2 = fin := by rw [← ht2]; exact (congrArg (ext (hasB n f) (hasB n' f') most true m) hx).trans hfin0
        have ws : True := trivial
        have wx : True := trivial
        have wy : True := trivial
        refine W_loop (fun r σ h => ∃ (k : Nat) (lo hi room : Int), r = m - k ∧ (k : Int) + 1 ≤ hi - lo + 1 ∧ (0 ≤ lo ∧ lo ≤ hi ∧ hi ≤ 255 ∧ hi - lo + 1 ≤ most ∧ 0 ≤ room ∧ room ≤ 9223372036854775807) ∧ ext (hasB n f) (hasB n' f') most true (m - k) (lo, hi - lo + 1, room) = t2 ∧ σ = [(0, .slice 2000 i n c), (1, .slice 2001 i' n' c'), (3, .int .i64 most), (4, .int .i64 room), (10, .ptr 0 0 0), (12, .int .i64 lo), (13, .int .i64 hi)] ∧ h = [(0, .blk b0 1 2 (gOf 2 [.int .i64 0, .int .i64 0]) 27), (2000, .ro b N 1 (g1 .i64 F)), (2001, .ro b' N' 1 (g1 .i64 F'))]) m ⟨0, lo, hi, room, rfl, by omega, ok, ht2, rfl, rfl⟩ (tau []) ⟨rfl, ?_, ?_⟩ 60 ?_
        · exact (by repeat' (first | exact rfl | exact trivial | exact ws | exact wx | exact wy | refine ⟨?_, ?_⟩))
        · exact ⟨⟨rfl, rfl, rfl, rfl, fun i c hi hc => box i c hi hc⟩, ⟨rfl, rfl, rfl, fun i c hi hc => ⟨rfl, rfl⟩⟩, ⟨rfl, rfl, rfl, fun i c hi hc => ⟨rfl, rfl⟩⟩, trivial⟩
        rintro r2 σ2 h2 ⟨k, lo, hi, room, rfl, hk, ok, hx, rfl, rfl⟩
        obtain ⟨o1, o2, o3, o4, o5, o6⟩ := ok
        have ok : 0 ≤ lo ∧ lo ≤ hi ∧ hi ≤ 255 ∧ hi - lo + 1 ≤ most ∧ 0 ≤ room ∧ room ≤ 9223372036854775807 := ⟨o1, o2, o3, o4, o5, o6⟩
        have wn : IntKind.i64.wrap (lo - 1) = lo - 1 := by simp [IntKind.wrap_i64]; omega
        have wc : IntKind.i64.wrap (IntKind.i64.wrap (hi - lo) + 1) = hi - lo + 1 := by simp [IntKind.wrap_i64]; omega
        have nxq : nxt true lo (hi - lo + 1) = lo - 1 := by first | rfl | (simp only [nxt]; omega)
        refine vc_sound (mkE hcx T_ok spq) 300 _ _ _ 60 ?_
        (refine (?_ : br _ _ _); refine br_dec (fun e1 => ?_) (fun e1 => ?_))
        rotate_left
        · rw [wc] at e1
          have st : stopB (hasB n f) (hasB n' f') most true lo (hi - lo + 1) room = true := by unfold stopB; rw [show decide (hi - lo + 1 = most) = true from decide_eq_true (by omega)]; rfl
          rw [ext_stop st] at hx
          (rw [hres, ← ht0, ← hx]; exact outT rfl wc rfl)
        rw [wc] at e1
        (refine (?_ : br _ _ _); refine br_dec (fun e2 => ?_) (fun e2 => ?_))
        rotate_left
        · have e2 : ¬ 0 < lo := e2
          have hib : isB (lo - 1) = false := by unfold isB; rw [Bool.eq_false_iff]; intro q; simp at q; omega
          have st : stopB (hasB n f) (hasB n' f') most true lo (hi - lo + 1) room = true := by unfold stopB; rw [nxq, hib]; simp
          rw [ext_stop st] at hx
          (rw [hres, ← ht0, ← hx]; exact outT rfl wc rfl)
        have e2 : 0 < lo := e2
        have hib : isB (lo - 1) = true := by unfold isB; simp <;> omega
        refine ⟨_, _, n, f, rfl, .inr ⟨2000, i, c, b, N, _, rfl, rfl, hN, F, fun _ _ => rfl, hF⟩, hn, ?_⟩
        (refine (?_ : br _ _ _); refine br_both (fun e3 => ?_) (fun e3 => ?_))
        rotate_left
        · rw [wn] at e3
          have st : stopB (hasB n f) (hasB n' f') most true lo (hi - lo + 1) room = true := by unfold stopB; rw [nxq, e3]; simp
          rw [ext_stop st] at hx
          (rw [hres, ← ht0, ← hx]; exact outT rfl wc rfl)
        rw [wn] at e3
        have c01 := cst_01 (hasB n' f') (lo - 1)
        (refine (?_ : br _ _ _); refine br_dec (fun e4 => ?_) (fun e4 => ?_))
        · have e4 : 0 < room := e4
          have st : stopB (hasB n f) (hasB n' f') most true lo (hi - lo + 1) room = false := by unfold stopB; rw [nxq, hib, e3, show decide (hi - lo + 1 = most) = false from decide_eq_false (by omega), show decide (room < cst (hasB n' f') (lo - 1)) = false from decide_eq_false (by omega)]; rfl
          have hm1 : m - k = m - (k + 1) + 1 := by omega
          rw [hm1, ext_step st, nxq] at hx
          refine ⟨_, _, n', f', rfl, .inr ⟨2001, i', c', b', N', _, rfl, rfl, hN', F', fun _ _ => rfl, hF'⟩, hn', ?_⟩
          (refine (?_ : br _ _ _); refine br_both (fun e6 => ?_) (fun e6 => ?_))
          · have e6 : hasB n' f' (IntKind.i64.wrap (lo - 1)) = true := e6
            rw [wn] at e6
            have hc1 : cst (hasB n' f') (lo - 1) = 1 := by unfold cst; rw [if_pos e6]
            have ws : IntKind.i64.wrap (room - 1) = room - 1 := by simp [IntKind.wrap_i64]; omega
            have wx := wn
            have wy := wn
            rw [hc1] at hx
            refine ⟨m - (k + 1), _, _, by omega, ⟨k + 1, lo - 1, hi, room - 1, rfl, by omega, ⟨by omega, by omega, by omega, by omega, by omega, by omega⟩, ?_, rfl, rfl⟩, tau [], rfl, ?_, ?_⟩
            · rw [← hx]
              congr 2
              simp only [low, Prod.mk.injEq, and_true, true_and]
              omega
            · exact (by repeat' (first | exact rfl | exact trivial | exact ws | exact wx | exact wy | refine ⟨?_, ?_⟩))
            · exact ⟨⟨rfl, rfl, rfl, rfl, fun i c hi hc => box i c hi hc⟩, ⟨rfl, rfl, rfl, fun i c hi hc => ⟨rfl, rfl⟩⟩, ⟨rfl, rfl, rfl, fun i c hi hc => ⟨rfl, rfl⟩⟩, trivial⟩
          · have e6 : hasB n' f' (IntKind.i64.wrap (lo - 1)) = false := e6
            rw [wn] at e6
            have hc1 : cst (hasB n' f') (lo - 1) = 0 := by unfold cst; rw [if_neg (by rw [e6]; decide)]
            have ws := wn
            have wx := wn
            have wy := wn
            rw [hc1] at hx
            refine ⟨m - (k + 1), _, _, by omega, ⟨k + 1, lo - 1, hi, room, rfl, by omega, ⟨by omega, by omega, by omega, by omega, by omega, by omega⟩, ?_, rfl, rfl⟩, tau [], rfl, ?_, ?_⟩
            · rw [← hx]
              congr 2
              simp only [low, Prod.mk.injEq, and_true, true_and]
              omega
            · exact (by repeat' (first | exact rfl | exact trivial | exact ws | exact wx | exact wy | refine ⟨?_, ?_⟩))
            · exact ⟨⟨rfl, rfl, rfl, rfl, fun i c hi hc => box i c hi hc⟩, ⟨rfl, rfl, rfl, fun i c hi hc => ⟨rfl, rfl⟩⟩, ⟨rfl, rfl, rfl, fun i c hi hc => ⟨rfl, rfl⟩⟩, trivial⟩
        · have e4 : ¬ 0 < room := e4
          refine ⟨_, _, n', f', rfl, .inr ⟨2001, i', c', b', N', _, rfl, rfl, hN', F', fun _ _ => rfl, hF'⟩, hn', ?_⟩
          (refine (?_ : br _ _ _); refine br_both (fun e5 => ?_) (fun e5 => ?_))
          rotate_left
          · rw [wn] at e5
            have e5 : hasB n' f' (lo - 1) = true := by simpa using e5
            have hc1 : cst (hasB n' f') (lo - 1) = 1 := by unfold cst; rw [if_pos e5]
            have st : stopB (hasB n f) (hasB n' f') most true lo (hi - lo + 1) room = true := by unfold stopB; rw [nxq, show decide (room < cst (hasB n' f') (lo - 1)) = true from decide_eq_true (by omega)]; simp
            rw [ext_stop st] at hx
            (rw [hres, ← ht0, ← hx]; exact outT rfl wc rfl)
          rw [wn] at e5
          have e5 : hasB n' f' (lo - 1) = false := by simpa using e5
          have hc1 : cst (hasB n' f') (lo - 1) = 0 := by unfold cst; rw [if_neg (by rw [e5]; decide)]
          have st : stopB (hasB n f) (hasB n' f') most true lo (hi - lo + 1) room = false := by unfold stopB; rw [nxq, hib, e3, show decide (hi - lo + 1 = most) = false from decide_eq_false (by omega), show decide (room < cst (hasB n' f') (lo - 1)) = false from decide_eq_false (by omega)]; rfl
          have hm1 : m - k = m - (k + 1) + 1 := by omega
          rw [hm1, ext_step st, nxq] at hx
          refine ⟨_, _, n', f', rfl, .inr ⟨2001, i', c', b', N', _, rfl, rfl, hN', F', fun _ _ => rfl, hF'⟩, hn', ?_⟩
          (refine (?_ : br _ _ _); refine br_both (fun e6 => ?_) (fun e6 => ?_))
          · have e6 : hasB n' f' (IntKind.i64.wrap (lo - 1)) = true := e6
            rw [wn] at e6
            have hc1 : cst (hasB n' f') (lo - 1) = 1 := by unfold cst; rw [if_pos e6]
            have ws : IntKind.i64.wrap (room - 1) = room - 1 := by simp [IntKind.wrap_i64]; omega
            have wx := wn
            have wy := wn
            rw [hc1] at hx
            refine ⟨m - (k + 1), _, _, by omega, ⟨k + 1, lo - 1, hi, room - 1, rfl, by omega, ⟨by omega, by omega, by omega, by omega, by omega, by omega⟩, ?_, rfl, rfl⟩, tau [], rfl, ?_, ?_⟩
            · rw [← hx]
              congr 2
              simp only [low, Prod.mk.injEq, and_true, true_and]
              omega
            · exact (by repeat' (first | exact rfl | exact trivial | exact ws | exact wx | exact wy | refine ⟨?_, ?_⟩))
            · exact ⟨⟨rfl, rfl, rfl, rfl, fun i c hi hc => box i c hi hc⟩, ⟨rfl, rfl, rfl, fun i c hi hc => ⟨rfl, rfl⟩⟩, ⟨rfl, rfl, rfl, fun i c hi hc => ⟨rfl, rfl⟩⟩, trivial⟩
          · have e6 : hasB n' f' (IntKind.i64.wrap (lo - 1)) = false := e6
            rw [wn] at e6
            have hc1 : cst (hasB n' f') (lo - 1) = 0 := by unfold cst; rw [if_neg (by rw [e6]; decide)]
            have ws := wn
            have wx := wn
            have wy := wn
            rw [hc1] at hx
            refine ⟨m - (k + 1), _, _, by omega, ⟨k + 1, lo - 1, hi, room, rfl, by omega, ⟨by omega, by omega, by omega, by omega, by omega, by omega⟩, ?_, rfl, rfl⟩, tau [], rfl, ?_, ?_⟩
            · rw [← hx]
              congr 2
              simp only [low, Prod.mk.injEq, and_true, true_and]
              omega
            · exact (by repeat' (first | exact rfl | exact trivial | exact ws | exact wx | exact wy | refine ⟨?_, ?_⟩))
            · exact ⟨⟨rfl, rfl, rfl, rfl, fun i c hi hc => box i c hi hc⟩, ⟨rfl, rfl, rfl, fun i c hi hc => ⟨rfl, rfl⟩⟩, ⟨rfl, rfl, rfl, fun i c hi hc => ⟨rfl, rfl⟩⟩, trivial⟩
      rw [wc] at e1
      (refine (?_ : br _ _ _); refine br_dec (fun e2 => ?_) (fun e2 => ?_))
      rotate_left
      · have e2 : ¬ hi < 255 := e2
        have hib : isB (hi + 1) = false := by unfold isB; rw [Bool.eq_false_iff]; intro q; simp at q; omega
        have st : stopB (hasB n f) (hasB n' f') most false lo (hi - lo + 1) room = true := by unfold stopB; rw [nxq, hib]; simp
        rw [ext_stop st] at hx
        obtain ⟨t2, ht2⟩ : ∃ t2, ext (hasB n f) (hasB n' f') most true (m - 0) (lo, hi - lo + 1, room) = t2 := ⟨_, rfl⟩
        have ht0 : t2 = fin := by rw [← ht2]; exact (congrArg (ext (hasB n f) (hasB n' f') most true m) hx).trans hfin0
        have ws : True := trivial
        have wx : True := trivial
        have wy : True := trivial
        refine W_loop (fun r σ h => ∃ (k : Nat) (lo hi room : Int), r = m - k ∧ (k : Int) + 1 ≤ hi - lo + 1 ∧ (0 ≤ lo ∧ lo ≤ hi ∧ hi ≤ 255 ∧ hi - lo + 1 ≤ most ∧ 0 ≤ room ∧ room ≤ 9223372036854775807) ∧ ext (hasB n f) (hasB n' f') most true (m - k) (lo, hi - lo + 1, room) = t2 ∧ σ = [(0, .slice 2000 i n c), (1, .slice 2001 i' n' c'), (3, .int .i64 most), (4, .int .i64 room), (10, .ptr 0 0 0), (12, .int .i64 lo), (13, .int .i64 hi)] ∧ h = [(0, .blk b0 1 2 (gOf 2 [.int .i64 0, .int .i64 0]) 27), (2000, .ro b N 1 (g1 .i64 F)), (2001, .ro b' N' 1 (g1 .i64 F'))]) m ⟨0, lo, hi, room, rfl, by omega, ok, ht2, rfl, rfl⟩ (tau []) ⟨rfl, ?_, ?_⟩ 60 ?_
        · exact (by repeat' (first | exact rfl | exact trivial | exact ws | exact wx | exact wy | refine ⟨?_, ?_⟩))
        · exact ⟨⟨rfl, rfl, rfl, rfl, fun i c hi hc => box i c hi hc⟩, ⟨rfl, rfl, rfl, fun i c hi hc => ⟨rfl, rfl⟩⟩, ⟨rfl, rfl, rfl, fun i c hi hc => ⟨rfl, rfl⟩⟩, trivial⟩
        rintro r2 σ2 h2 ⟨k, lo, hi, room, rfl, hk, ok, hx, rfl, rfl⟩
        obtain ⟨o1, o2, o3, o4, o5, o6⟩ := ok
        have ok : 0 ≤ lo ∧ lo ≤ hi ∧ hi ≤ 255 ∧ hi - lo + 1 ≤ most ∧ 0 ≤ room ∧ room ≤ 9223372036854775807 := ⟨o1, o2, o3, o4, o5, o6⟩
        have wn : IntKind.i64.wrap (lo - 1) = lo - 1 := by simp [IntKind.wrap_i64]; omega
        have wc : IntKind.i64.wrap (IntKind.i64.wrap (hi - lo) + 1) = hi - lo + 1 := by simp [IntKind.wrap_i64]; omega
        have nxq : nxt true lo (hi - lo + 1) = lo - 1 := by first | rfl | (simp only [nxt]; omega)
        refine vc_sound (mkE hcx T_ok spq) 300 _ _ _ 60 ?_
        (refine (?_ : br _ _ _); refine br_dec (fun e1 => ?_) (fun e1 => ?_))
        rotate_left
        · rw [wc] at e1
          have st : stopB (hasB n f) (hasB n' f') most true lo (hi - lo + 1) room = true := by unfold stopB; rw [show decide (hi - lo + 1 = most) = true from decide_eq_true (by omega)]; rfl
          rw [ext_stop st] at hx
          (rw [hres, ← ht0, ← hx]; exact outT rfl wc rfl)
        rw [wc] at e1
        (refine (?_ : br _ _ _); refine br_dec (fun e2 => ?_) (fun e2 => ?_))
        rotate_left
        · have e2 : ¬ 0 < lo := e2
          have hib : isB (lo - 1) = false := by unfold isB; rw [Bool.eq_false_iff]; intro q; simp at q; omega
          have st : stopB (hasB n f) (hasB n' f') most true lo (hi - lo + 1) room = true := by unfold stopB; rw [nxq, hib]; simp
          rw [ext_stop st] at hx
          (rw [hres, ← ht0, ← hx]; exact outT rfl wc rfl)
        have e2 : 0 < lo := e2
        have hib : isB (lo - 1) = true := by unfold isB; simp <;> omega
        refine ⟨_, _, n, f, rfl, .inr ⟨2000, i, c, b, N, _, rfl, rfl, hN, F, fun _ _ => rfl, hF⟩, hn, ?_⟩
        (refine (?_ : br _ _ _); refine br_both (fun e3 => ?_) (fun e3 => ?_))
        rotate_left
        · rw [wn] at e3
          have st : stopB (hasB n f) (hasB n' f') most true lo (hi - lo + 1) room = true := by unfold stopB; rw [nxq, e3]; simp
          rw [ext_stop st] at hx
          (rw [hres, ← ht0, ← hx]; exact outT rfl wc rfl)
        rw [wn] at e3
        have c01 := cst_01 (hasB n' f') (lo - 1)
        (refine (?_ : br _ _ _); refine br_dec (fun e4 => ?_) (fun e4 => ?_))
        · have e4 : 0 < room := e4
          have st : stopB (hasB n f) (hasB n' f') most true lo (hi - lo + 1) room = false := by unfold stopB; rw [nxq, hib, e3, show decide (hi - lo + 1 = most) = false from decide_eq_false (by omega), show decide (room < cst (hasB n' f') (lo - 1)) = false from decide_eq_false (by omega)]; rfl
          have hm1 : m - k = m - (k + 1) + 1 := by omega
          rw [hm1, ext_step st, nxq] at hx
          refine ⟨_, _, n', f', rfl, .inr ⟨2001, i', c', b', N', _, rfl, rfl, hN', F', fun _ _ => rfl, hF'⟩, hn', ?_⟩
          (refine (?_ : br _ _ _); refine br_both (fun e6 => ?_) (fun e6 => ?_))
          · have e6 : hasB n' f' (IntKind.i64.wrap (lo - 1)) = true := e6
            rw [wn] at e6
            have hc1 : cst (hasB n' f') (lo - 1) = 1 := by unfold cst; rw [if_pos e6]
            have ws : IntKind.i64.wrap (room - 1) = room - 1 := by simp [IntKind.wrap_i64]; omega
            have wx := wn
            have wy := wn
            rw [hc1] at hx
            refine ⟨m - (k + 1), _, _, by omega, ⟨k + 1, lo - 1, hi, room - 1, rfl, by omega, ⟨by omega, by omega, by omega, by omega, by omega, by omega⟩, ?_, rfl, rfl⟩, tau [], rfl, ?_, ?_⟩
            · rw [← hx]
              congr 2
              simp only [low, Prod.mk.injEq, and_true, true_and]
              omega
            · exact (by repeat' (first | exact rfl | exact trivial | exact ws | exact wx | exact wy | refine ⟨?_, ?_⟩))
            · exact ⟨⟨rfl, rfl, rfl, rfl, fun i c hi hc => box i c hi hc⟩, ⟨rfl, rfl, rfl, fun i c hi hc => ⟨rfl, rfl⟩⟩, ⟨rfl, rfl, rfl, fun i c hi hc => ⟨rfl, rfl⟩⟩, trivial⟩
          · have e6 : hasB n' f' (IntKind.i64.wrap (lo - 1)) = false := e6
            rw [wn] at e6
            have hc1 : cst (hasB n' f') (lo - 1) = 0 := by unfold cst; rw [if_neg (by rw [e6]; decide)]
            have ws := wn
            have wx := wn
            have wy := wn
            rw [hc1] at hx
            refine ⟨m - (k + 1), _, _, by omega, ⟨k + 1, lo - 1, hi, room, rfl, by omega, ⟨by omega, by omega, by omega, by omega, by omega, by omega⟩, ?_, rfl, rfl⟩, tau [], rfl, ?_, ?_⟩
            · rw [← hx]
              congr 2
              simp only [low, Prod.mk.injEq, and_true, true_and]
              omega
            · exact (by repeat' (first | exact rfl | exact trivial | exact ws | exact wx | exact wy | refine ⟨?_, ?_⟩))
            · exact ⟨⟨rfl, rfl, rfl, rfl, fun i c hi hc => box i c hi hc⟩, ⟨rfl, rfl, rfl, fun i c hi hc => ⟨rfl, rfl⟩⟩, ⟨rfl, rfl, rfl, fun i c hi hc => ⟨rfl, rfl⟩⟩, trivial⟩
        · have e4 : ¬ 0 < room := e4
          refine ⟨_, _, n', f', rfl, .inr ⟨2001, i', c', b', N', _, rfl, rfl, hN', F', fun _ _ => rfl, hF'⟩, hn', ?_⟩
          (refine (?_ : br _ _ _); refine br_both (fun e5 => ?_) (fun e5 => ?_))
          rotate_left
          · rw [wn] at e5
            have e5 : hasB n' f' (lo - 1) = true := by simpa using e5
            have hc1 : cst (hasB n' f') (lo - 1) = 1 := by unfold cst; rw [if_pos e5]
            have st : stopB (hasB n f) (hasB n' f') most true lo (hi - lo + 1) room = true := by unfold stopB; rw [nxq, show decide (room < cst (hasB n' f') (lo - 1)) = true from decide_eq_true (by omega)]; simp
            rw [ext_stop st] at hx
            (rw [hres, ← ht0, ← hx]; exact outT rfl wc rfl)
          rw [wn] at e5
          have e5 : hasB n' f' (lo - 1) = false := by simpa using e5
          have hc1 : cst (hasB n' f') (lo - 1) = 0 := by unfold cst; rw [if_neg (by rw [e5]; decide)]
          have st : stopB (hasB n f) (hasB n' f') most true lo (hi - lo + 1) room = false := by unfold stopB; rw [nxq, hib, e3, show decide (hi - lo + 1 = most) = false from decide_eq_false (by omega), show decide (room < cst (hasB n' f') (lo - 1)) = false from decide_eq_false (by omega)]; rfl
          have hm1 : m - k = m - (k + 1) + 1 := by omega
          rw [hm1, ext_step st, nxq] at hx
          refine ⟨_, _, n', f', rfl, .inr ⟨2001, i', c', b', N', _, rfl, rfl, hN', F', fun _ _ => rfl, hF'⟩, hn', ?_⟩
          (refine (?_ : br _ _ _); refine br_both (fun e6 => ?_) (fun e6 => ?_))
          · have e6 : hasB n' f' (IntKind.i64.wrap (lo - 1)) = true := e6
            rw [wn] at e6
            have hc1 : cst (hasB n' f') (lo - 1) = 1 := by unfold cst; rw [if_pos e6]
            have ws : IntKind.i64.wrap (room - 1) = room - 1 := by simp [IntKind.wrap_i64]; omega
            have wx := wn
            have wy := wn
            rw [hc1] at hx
            refine ⟨m - (k + 1), _, _, by omega, ⟨k + 1, lo - 1, hi, room - 1, rfl, by omega, ⟨by omega, by omega, by omega, by omega, by omega, by omega⟩, ?_, rfl, rfl⟩, tau [], rfl, ?_, ?_⟩
            · rw [← hx]
              congr 2
              simp only [low, Prod.mk.injEq, and_true, true_and]
              omega
            · exact (by repeat' (first | exact rfl | exact trivial | exact ws | exact wx | exact wy | refine ⟨?_, ?_⟩))
            · exact ⟨⟨rfl, rfl, rfl, rfl, fun i c hi hc => box i c hi hc⟩, ⟨rfl, rfl, rfl, fun i c hi hc => ⟨rfl, rfl⟩⟩, ⟨rfl, rfl, rfl, fun i c hi hc => ⟨rfl, rfl⟩⟩, trivial⟩
          · have e6 : hasB n' f' (IntKind.i64.wrap (lo - 1)) = false := e6
            rw [wn] at e6
            have hc1 : cst (hasB n' f') (lo - 1) = 0 := by unfold cst; rw [if_neg (by rw [e6]; decide)]
            have ws := wn
            have wx := wn
            have wy := wn
            rw [hc1] at hx
            refine ⟨m - (k + 1), _, _, by omega, ⟨k + 1, lo - 1, hi, room, rfl, by omega, ⟨by omega, by omega, by omega, by omega, by omega, by omega⟩, ?_, rfl, rfl⟩, tau [], rfl, ?_, ?_⟩
            · rw [← hx]
              congr 2
              simp only [low, Prod.mk.injEq, and_true, true_and]
              omega
            · exact (by repeat' (first | exact rfl | exact trivial | exact ws | exact wx | exact wy | refine ⟨?_, ?_⟩))
            · exact ⟨⟨rfl, rfl, rfl, rfl, fun i c hi hc => box i c hi hc⟩, ⟨rfl, rfl, rfl, fun i c hi hc => ⟨rfl, rfl⟩⟩, ⟨rfl, rfl, rfl, fun i c hi hc => ⟨rfl, rfl⟩⟩, trivial⟩
      have e2 : hi < 255 := e2
      have hib : isB (hi + 1) = true := by unfold isB; simp <;> omega
      refine ⟨_, _, n, f, rfl, .inr ⟨2000, i, c, b, N, _, rfl, rfl, hN, F, fun _ _ => rfl, hF⟩, hn, ?_⟩
      (refine (?_ : br _ _ _); refine br_both (fun e3 => ?_) (fun e3 => ?_))
      rotate_left
      · rw [wn] at e3
        have st : stopB (hasB n f) (hasB n' f') most false lo (hi - lo + 1) room = true := by unfold stopB; rw [nxq, e3]; simp
        rw [ext_stop st] at hx
        obtain ⟨t2, ht2⟩ : ∃ t2, ext (hasB n f) (hasB n' f') most true (m - 0) (lo, hi - lo + 1, room) = t2 := ⟨_, rfl⟩
        have ht0 : t2 = fin := by rw [← ht2]; exact (congrArg (ext (hasB n f) (hasB n' f') most true m) hx).trans hfin0
        have ws : True := trivial
        have wx : True := trivial
        have wy : True := trivial
        refine W_loop (fun r σ h => ∃ (k : Nat) (lo hi room : Int), r = m - k ∧ (k : Int) + 1 ≤ hi - lo + 1 ∧ (0 ≤ lo ∧ lo ≤ hi ∧ hi ≤ 255 ∧ hi - lo + 1 ≤ most ∧ 0 ≤ room ∧ room ≤ 9223372036854775807) ∧ ext (hasB n f) (hasB n' f') most true (m - k) (lo, hi - lo + 1, room) = t2 ∧ σ = [(0, .slice 2000 i n c), (1, .slice 2001 i' n' c'), (3, .int .i64 most), (4, .int .i64 room), (10, .ptr 0 0 0), (12, .int .i64 lo), (13, .int .i64 hi)] ∧ h = [(0, .blk b0 1 2 (gOf 2 [.int .i64 0, .int .i64 0]) 27), (2000, .ro b N 1 (g1 .i64 F)), (2001, .ro b' N' 1 (g1 .i64 F'))]) m ⟨0, lo, hi, room, rfl, by omega, ok, ht2, rfl, rfl⟩ (tau []) ⟨rfl, ?_, ?_⟩ 60 ?_
        · exact (by repeat' (first | exact rfl | exact trivial | exact ws | exact wx | exact wy | refine ⟨?_, ?_⟩))
        · exact ⟨⟨rfl, rfl, rfl, rfl, fun i c hi hc => box i c hi hc⟩, ⟨rfl, rfl, rfl, fun i c hi hc => ⟨rfl, rfl⟩⟩, ⟨rfl, rfl, rfl, fun i c hi hc => ⟨rfl, rfl⟩⟩, trivial⟩
        rintro r2 σ2 h2 ⟨k, lo, hi, room, rfl, hk, ok, hx, rfl, rfl⟩
        obtain ⟨o1, o2, o3, o4, o5, o6⟩ := ok
        have ok : 0 ≤ lo ∧ lo ≤ hi ∧ hi ≤ 255 ∧ hi - lo + 1 ≤ most ∧ 0 ≤ room ∧ room ≤ 9223372036854775807 := ⟨o1, o2, o3, o4, o5, o6⟩
        have wn : IntKind.i64.wrap (lo - 1) = lo - 1 := by simp [IntKind.wrap_i64]; omega
        have wc : IntKind.i64.wrap (IntKind.i64.wrap (hi - lo) + 1) = hi - lo + 1 := by simp [IntKind.wrap_i64]; omega
        have nxq : nxt true lo (hi - lo + 1) = lo - 1 := by first | rfl | (simp only [nxt]; omega)
        refine vc_sound (mkE hcx T_ok spq) 300 _ _ _ 60 ?_
        (refine (?_ : br _ _ _); refine br_dec (fun e1 => ?_) (fun e1 => ?_))
        rotate_left
        · rw [wc] at e1
          have st : stopB (hasB n f) (hasB n' f') most true lo (hi - lo + 1) room = true := by unfold stopB; rw [show decide (hi - lo + 1 = most) = true from decide_eq_true (by omega)]; rfl
          rw [ext_stop st] at hx
          (rw [hres, ← ht0, ← hx]; exact outT rfl wc rfl)
        rw [wc] at e1
        (refine (?_ : br _ _ _); refine br_dec (fun e2 => ?_) (fun e2 => ?_))
        rotate_left
        · have e2 : ¬ 0 < lo := e2
          have hib : isB (lo - 1) = false := by unfold isB; rw [Bool.eq_false_iff]; intro q; simp at q; omega
          have st : stopB (hasB n f) (hasB n' f') most true lo (hi - lo + 1) room = true := by unfold stopB; rw [nxq, hib]; simp
          rw [ext_stop st] at hx
          (rw [hres, ← ht0, ← hx]; exact outT rfl wc rfl)
        have e2 : 0 < lo := e2
        have hib : isB (lo - 1) = true := by unfold isB; simp <;> omega
        refine ⟨_, _, n, f, rfl, .inr ⟨2000, i, c, b, N, _, rfl, rfl, hN, F, fun _ _ => rfl, hF⟩, hn, ?_⟩
        (refine (?_ : br _ _ _); refine br_both (fun e3 => ?_) (fun e3 => ?_))
        rotate_left
        · rw [wn] at e3
          have st : stopB (hasB n f) (hasB n' f') most true lo (hi - lo + 1) room = true := by unfold stopB; rw [nxq, e3]; simp
          rw [ext_stop st] at hx
          (rw [hres, ← ht0, ← hx]; exact outT rfl wc rfl)
        rw [wn] at e3
        have c01 := cst_01 (hasB n' f') (lo - 1)
        (refine (?_ : br _ _ _); refine br_dec (fun e4 => ?_) (fun e4 => ?_))
        · have e4 : 0 < room := e4
          have st : stopB (hasB n f) (hasB n' f') most true lo (hi - lo + 1) room = false := by unfold stopB; rw [nxq, hib, e3, show decide (hi - lo + 1 = most) = false from decide_eq_false (by omega), show decide (room < cst (hasB n' f') (lo - 1)) = false from decide_eq_false (by omega)]; rfl
          have hm1 : m - k = m - (k + 1) + 1 := by omega
          rw [hm1, ext_step st, nxq] at hx
          refine ⟨_, _, n', f', rfl, .inr ⟨2001, i', c', b', N', _, rfl, rfl, hN', F', fun _ _ => rfl, hF'⟩, hn', ?_⟩
          (refine (?_ : br _ _ _); refine br_both (fun e6 => ?_) (fun e6 => ?_))
          · have e6 : hasB n' f' (IntKind.i64.wrap (lo - 1)) = true := e6
            rw [wn] at e6
            have hc1 : cst (hasB n' f') (lo - 1) = 1 := by unfold cst; rw [if_pos e6]
            have ws : IntKind.i64.wrap (room - 1) = room - 1 := by simp [IntKind.wrap_i64]; omega
            have wx := wn
            have wy := wn
            rw [hc1] at hx
            refine ⟨m - (k + 1), _, _, by omega, ⟨k + 1, lo - 1, hi, room - 1, rfl, by omega, ⟨by omega, by omega, by omega, by omega, by omega, by omega⟩, ?_, rfl, rfl⟩, tau [], rfl, ?_, ?_⟩
            · rw [← hx]
              congr 2
              simp only [low, Prod.mk.injEq, and_true, true_and]
              omega
            · exact (by repeat' (first | exact rfl | exact trivial | exact ws | exact wx | exact wy | refine ⟨?_, ?_⟩))
            · exact ⟨⟨rfl, rfl, rfl, rfl, fun i c hi hc => box i c hi hc⟩, ⟨rfl, rfl, rfl, fun i c hi hc => ⟨rfl, rfl⟩⟩, ⟨rfl, rfl, rfl, fun i c hi hc => ⟨rfl, rfl⟩⟩, trivial⟩
          · have e6 : hasB n' f' (IntKind.i64.wrap (lo - 1)) = false := e6
            rw [wn] at e6
            have hc1 : cst (hasB n' f') (lo - 1) = 0 := by unfold cst; rw [if_neg (by rw [e6]; decide)]
            have ws := wn
            have wx := wn
            have wy := wn
            rw [hc1] at hx
            refine ⟨m - (k + 1), _, _, by omega, ⟨k + 1, lo - 1, hi, room, rfl, by omega, ⟨by omega, by omega, by omega, by omega, by omega, by omega⟩, ?_, rfl, rfl⟩, tau [], rfl, ?_, ?_⟩
            · rw [← hx]
              congr 2
              simp only [low, Prod.mk.injEq, and_true, true_and]
              omega
            · exact (by repeat' (first | exact rfl | exact trivial | exact ws | exact wx | exact wy | refine ⟨?_, ?_⟩))
            · exact ⟨⟨rfl, rfl, rfl, rfl, fun i c hi hc => box i c hi hc⟩, ⟨rfl, rfl, rfl, fun i c hi hc => ⟨rfl, rfl⟩⟩, ⟨rfl, rfl, rfl, fun i c hi hc => ⟨rfl, rfl⟩⟩, trivial⟩
        · have e4 : ¬ 0 < room := e4
          refine ⟨_, _, n', f', rfl, .inr ⟨2001, i', c', b', N', _, rfl, rfl, hN', F', fun _ _ => rfl, hF'⟩, hn', ?_⟩
          (refine (?_ : br _ _ _); refine br_both (fun e5 => ?_) (fun e5 => ?_))
          rotate_left
          · rw [wn] at e5
            have e5 : hasB n' f' (lo - 1) = true := by simpa using e5
            have hc1 : cst (hasB n' f') (lo - 1) = 1 := by unfold cst; rw [if_pos e5]
            have st : stopB (hasB n f) (hasB n' f') most true lo (hi - lo + 1) room = true := by unfold stopB; rw [nxq, show decide (room < cst (hasB n' f') (lo - 1)) = true from decide_eq_true (by omega)]; simp
            rw [ext_stop st] at hx
            (rw [hres, ← ht0, ← hx]; exact outT rfl wc rfl)
          rw [wn] at e5
          have e5 : hasB n' f' (lo - 1) = false := by simpa using e5
          have hc1 : cst (hasB n' f') (lo - 1) = 0 := by unfold cst; rw [if_neg (by rw [e5]; decide)]
          have st : stopB (hasB n f) (hasB n' f') most true lo (hi - lo + 1) room = false := by unfold stopB; rw [nxq, hib, e3, show decide (hi - lo + 1 = most) = false from decide_eq_false (by omega), show decide (room < cst (hasB n' f') (lo - 1)) = false from decide_eq_false (by omega)]; rfl
          have hm1 : m - k = m - (k + 1) + 1 := by omega
          rw [hm1, ext_step st, nxq] at hx
          refine ⟨_, _, n', f', rfl, .inr ⟨2001, i', c', b', N', _, rfl, rfl, hN', F', fun _ _ => rfl, hF'⟩, hn', ?_⟩
          (refine (?_ : br _ _ _); refine br_both (fun e6 => ?_) (fun e6 => ?_))
          · have e6 : hasB n' f' (IntKind.i64.wrap (lo - 1)) = true := e6
            rw [wn] at e6
            have hc1 : cst (hasB n' f') (lo - 1) = 1 := by unfold cst; rw [if_pos e6]
            have ws : IntKind.i64.wrap (room - 1) = room - 1 := by simp [IntKind.wrap_i64]; omega
            have wx := wn
            have wy := wn
            rw [hc1] at hx
            refine ⟨m - (k + 1), _, _, by omega, ⟨k + 1, lo - 1, hi, room - 1, rfl, by omega, ⟨by omega, by omega, by omega, by omega, by omega, by omega⟩, ?_, rfl, rfl⟩, tau [], rfl, ?_, ?_⟩
            · rw [← hx]
              congr 2
              simp only [low, Prod.mk.injEq, and_true, true_and]
              omega
            · exact (by repeat' (first | exact rfl | exact trivial | exact ws | exact wx | exact wy | refine ⟨?_, ?_⟩))
            · exact ⟨⟨rfl, rfl, rfl, rfl, fun i c hi hc => box i c hi hc⟩, ⟨rfl, rfl, rfl, fun i c hi hc => ⟨rfl, rfl⟩⟩, ⟨rfl, rfl, rfl, fun i c hi hc => ⟨rfl, rfl⟩⟩, trivial⟩
          · have e6 : hasB n' f' (IntKind.i64.wrap (lo - 1)) = false := e6
            rw [wn] at e6
            have hc1 : cst (hasB n' f') (lo - 1) = 0 := by unfold cst; rw [if_neg (by rw [e6]; decide)]
            have ws := wn
            have wx := wn
            have wy := wn
            rw [hc1] at hx
            refine ⟨m - (k + 1), _, _, by omega, ⟨k + 1, lo - 1, hi, room, rfl, by omega, ⟨by omega, by omega, by omega, by omega, by omega, by omega⟩, ?_, rfl, rfl⟩, tau [], rfl, ?_, ?_⟩
            · rw [← hx]
              congr 2
              simp only [low, Prod.mk.injEq, and_true, true_and]
              omega
            · exact (by repeat' (first | exact rfl | exact trivial | exact ws | exact wx | exact wy | refine ⟨?_, ?_⟩))
            · exact ⟨⟨rfl, rfl, rfl, rfl, fun i c hi hc => box i c hi hc⟩, ⟨rfl, rfl, rfl, fun i c hi hc => ⟨rfl, rfl⟩⟩, ⟨rfl, rfl, rfl, fun i c hi hc => ⟨rfl, rfl⟩⟩, trivial⟩
      rw [wn] at e3
      have c01 := cst_01 (hasB n' f') (hi + 1)
      (refine (?_ : br _ _ _); refine br_dec (fun e4 => ?_) (fun e4 => ?_))
      · have e4 : 0 < room := e4
        have st : stopB (hasB n f) (hasB n' f') most false lo (hi - lo + 1) room = false := by unfold stopB; rw [nxq, hib, e3, show decide (hi - lo + 1 = most) = false from decide_eq_false (by omega), show decide (room < cst (hasB n' f') (hi + 1)) = false from decide_eq_false (by omega)]; rfl
        have hm1 : m - k = m - (k + 1) + 1 := by omega
        rw [hm1, ext_step st, nxq] at hx
        refine ⟨_, _, n', f', rfl, .inr ⟨2001, i', c', b', N', _, rfl, rfl, hN', F', fun _ _ => rfl, hF'⟩, hn', ?_⟩
        (refine (?_ : br _ _ _); refine br_both (fun e6 => ?_) (fun e6 => ?_))
        · have e6 : hasB n' f' (IntKind.i64.wrap (hi + 1)) = true := e6
          rw [wn] at e6
          have hc1 : cst (hasB n' f') (hi + 1) = 1 := by unfold cst; rw [if_pos e6]
          have ws : IntKind.i64.wrap (room - 1) = room - 1 := by simp [IntKind.wrap_i64]; omega
          have wx := wn
          have wy := wn
          rw [hc1] at hx
          refine ⟨m - (k + 1), _, _, by omega, ⟨k + 1, lo, hi + 1, room - 1, rfl, by omega, ⟨by omega, by omega, by omega, by omega, by omega, by omega⟩, ?_, rfl, rfl⟩, tau [], rfl, ?_, ?_⟩
          · rw [← hx]
            congr 2
            simp only [low, Prod.mk.injEq, and_true, true_and]
            omega
          · exact (by repeat' (first | exact rfl | exact trivial | exact ws | exact wx | exact wy | refine ⟨?_, ?_⟩))
          · exact ⟨⟨rfl, rfl, rfl, rfl, fun i c hi hc => box i c hi hc⟩, ⟨rfl, rfl, rfl, fun i c hi hc => ⟨rfl, rfl⟩⟩, ⟨rfl, rfl, rfl, fun i c hi hc => ⟨rfl, rfl⟩⟩, trivial⟩
        · have e6 : hasB n' f' (IntKind.i64.wrap (hi + 1)) = false := e6
          rw [wn] at e6
          have hc1 : cst (hasB n' f') (hi + 1) = 0 := by unfold cst; rw [if_neg (by rw [e6]; decide)]
          have ws := wn
          have wx := wn
          have wy := wn
          rw [hc1] at hx
          refine ⟨m - (k + 1), _, _, by omega, ⟨k + 1, lo, hi + 1, room, rfl, by omega, ⟨by omega, by omega, by omega, by omega, by omega, by omega⟩, ?_, rfl, rfl⟩, tau [], rfl, ?_, ?_⟩
          · rw [← hx]
            congr 2
            simp only [low, Prod.mk.injEq, and_true, true_and]
            omega
          · exact (by repeat' (first | exact rfl | exact trivial | exact ws | exact wx | exact wy | refine ⟨?_, ?_⟩))
          · exact ⟨⟨rfl, rfl, rfl, rfl, fun i c hi hc => box i c hi hc⟩, ⟨rfl, rfl, rfl, fun i c hi hc => ⟨rfl, rfl⟩⟩, ⟨rfl, rfl, rfl, fun i c hi hc => ⟨rfl, rfl⟩⟩, trivial⟩
      · have e4 : ¬ 0 < room := e4
        refine ⟨_, _, n', f', rfl, .inr ⟨2001, i', c', b', N', _, rfl, rfl, hN', F', fun _ _ => rfl, hF'⟩, hn', ?_⟩
        (refine (?_ : br _ _ _); refine br_both (fun e5 => ?_) (fun e5 => ?_))
        rotate_left
        · rw [wn] at e5
          have e5 : hasB n' f' (hi + 1) = true := by simpa using e5
          have hc1 : cst (hasB n' f') (hi + 1) = 1 := by unfold cst; rw [if_pos e5]
          have st : stopB (hasB n f) (hasB n' f') most false lo (hi - lo + 1) room = true := by unfold stopB; rw [nxq, show decide (room < cst (hasB n' f') (hi + 1)) = true from decide_eq_true (by omega)]; simp
          rw [ext_stop st] at hx
          obtain ⟨t2, ht2⟩ : ∃ t2, ext (hasB n f) (hasB n' f') most true (m - 0) (lo, hi - lo + 1, room) = t2 := ⟨_, rfl⟩
          have ht0 : t2 = fin := by rw [← ht2]; exact (congrArg (ext (hasB n f) (hasB n' f') most true m) hx).trans hfin0
          have ws : True := trivial
          have wx : True := trivial
          have wy : True := trivial
          refine W_loop (fun r σ h => ∃ (k : Nat) (lo hi room : Int), r = m - k ∧ (k : Int) + 1 ≤ hi - lo + 1 ∧ (0 ≤ lo ∧ lo ≤ hi ∧ hi ≤ 255 ∧ hi - lo + 1 ≤ most ∧ 0 ≤ room ∧ room ≤ 9223372036854775807) ∧ ext (hasB n f) (hasB n' f') most true (m - k) (lo, hi - lo + 1, room) = t2 ∧ σ = [(0, .slice 2000 i n c), (1, .slice 2001 i' n' c'), (3, .int .i64 most), (4, .int .i64 room), (10, .ptr 0 0 0), (12, .int .i64 lo), (13, .int .i64 hi)] ∧ h = [(0, .blk b0 1 2 (gOf 2 [.int .i64 0, .int .i64 0]) 27), (2000, .ro b N 1 (g1 .i64 F)), (2001, .ro b' N' 1 (g1 .i64 F'))]) m ⟨0, lo, hi, room, rfl, by omega, ok, ht2, rfl, rfl⟩ (tau []) ⟨rfl, ?_, ?_⟩ 60 ?_
          · exact (by repeat' (first | exact rfl | exact trivial | exact ws | exact wx | exact wy | refine ⟨?_, ?_⟩))
          · exact ⟨⟨rfl, rfl, rfl, rfl, fun i c hi hc => box i c hi hc⟩, ⟨rfl, rfl, rfl, fun i c hi hc => ⟨rfl, rfl⟩⟩, ⟨rfl, rfl, rfl, fun i c hi hc => ⟨rfl, rfl⟩⟩, trivial⟩
          rintro r2 σ2 h2 ⟨k, lo, hi, room, rfl, hk, ok, hx, rfl, rfl⟩
          obtain ⟨o1, o2, o3, o4, o5, o6⟩ := ok
          have ok : 0 ≤ lo ∧ lo ≤ hi ∧ hi ≤ 255 ∧ hi - lo + 1 ≤ most ∧ 0 ≤ room ∧ room ≤ 9223372036854775807 := ⟨o1, o2, o3, o4, o5, o6⟩
          have wn : IntKind.i64.wrap (lo - 1) = lo - 1 := by simp [IntKind.wrap_i64]; omega
          have wc : IntKind.i64.wrap (IntKind.i64.wrap (hi - lo) + 1) = hi - lo + 1 := by simp [IntKind.wrap_i64]; omega
          have nxq : nxt true lo (hi - lo + 1) = lo - 1 := by first | rfl | (simp only [nxt]; omega)
          refine vc_sound (mkE hcx T_ok spq) 300 _ _ _ 60 ?_
          (refine (?_ : br _ _ _); refine br_dec (fun e1 => ?_) (fun e1 => ?_))
          rotate_left
          · rw [wc] at e1
            have st : stopB (hasB n f) (hasB n' f') most true lo (hi - lo + 1) room = true := by unfold stopB; rw [show decide (hi - lo + 1 = most) = true from decide_eq_true (by omega)]; rfl
            rw [ext_stop st] at hx
            (rw [hres, ← ht0, ← hx]; exact outT rfl wc rfl)
          rw [wc] at e1
          (refine (?_ : br _ _ _); refine br_dec (fun e2 => ?_) (fun e2 => ?_))
          rotate_left
          · have e2 : ¬ 0 < lo := e2
            have hib : isB (lo - 1) = false := by unfold isB; rw [Bool.eq_false_iff]; intro q; simp at q; omega
            have st : stopB (hasB n f) (hasB n' f') most true lo (hi - lo + 1) room = true := by unfold stopB; rw [nxq, hib]; simp
            rw [ext_stop st] at hx
            (rw [hres, ← ht0, ← hx]; exact outT rfl wc rfl)
          have e2 : 0 < lo := e2
          have hib : isB (lo - 1) = true := by unfold isB; simp <;> omega
          refine ⟨_, _, n, f, rfl, .inr ⟨2000, i, c, b, N, _, rfl, rfl, hN, F, fun _ _ => rfl, hF⟩, hn, ?_⟩
          (refine (?_ : br _ _ _); refine br_both (fun e3 => ?_) (fun e3 => ?_))
          rotate_left
          · rw [wn] at e3
            have st : stopB (hasB n f) (hasB n' f') most true lo (hi - lo + 1) room = true := by unfold stopB; rw [nxq, e3]; simp
            rw [ext_stop st] at hx
            (rw [hres, ← ht0, ← hx]; exact outT rfl wc rfl)
          rw [wn] at e3
          have c01 := cst_01 (hasB n' f') (lo - 1)
          (refine (?_ : br _ _ _); refine br_dec (fun e4 => ?_) (fun e4 => ?_))
          · have e4 : 0 < room := e4
            have st : stopB (hasB n f) (hasB n' f') most true lo (hi - lo + 1) room = false := by unfold stopB; rw [nxq, hib, e3, show decide (hi - lo + 1 = most) = false from decide_eq_false (by omega), show decide (room < cst (hasB n' f') (lo - 1)) = false from decide_eq_false (by omega)]; rfl
            have hm1 : m - k = m - (k + 1) + 1 := by omega
            rw [hm1, ext_step st, nxq] at hx
            refine ⟨_, _, n', f', rfl, .inr ⟨2001, i', c', b', N', _, rfl, rfl, hN', F', fun _ _ => rfl, hF'⟩, hn', ?_⟩
            (refine (?_ : br _ _ _); refine br_both (fun e6 => ?_) (fun e6 => ?_))
            · have e6 : hasB n' f' (IntKind.i64.wrap (lo - 1)) = true := e6
              rw [wn] at e6
              have hc1 : cst (hasB n' f') (lo - 1) = 1 := by unfold cst; rw [if_pos e6]
              have ws : IntKind.i64.wrap (room - 1) = room - 1 := by simp [IntKind.wrap_i64]; omega
              have wx := wn
              have wy := wn
              rw [hc1] at hx
              refine ⟨m - (k + 1), _, _, by omega, ⟨k + 1, lo - 1, hi, room - 1, rfl, by omega, ⟨by omega, by omega, by omega, by omega, by omega, by omega⟩, ?_, rfl, rfl⟩, tau [], rfl, ?_, ?_⟩
              · rw [← hx]
                congr 2
                simp only [low, Prod.mk.injEq, and_true, true_and]
                omega
              · exact (by repeat' (first | exact rfl | exact trivial | exact ws | exact wx | exact wy | refine ⟨?_, ?_⟩))
              · exact ⟨⟨rfl, rfl, rfl, rfl, fun i c hi hc => box i c hi hc⟩, ⟨rfl, rfl, rfl, fun i c hi hc => ⟨rfl, rfl⟩⟩, ⟨rfl, rfl, rfl, fun i c hi hc => ⟨rfl, rfl⟩⟩, trivial⟩
            · have e6 : hasB n' f' (IntKind.i64.wrap (lo - 1)) = false := e6
              rw [wn] at e6
              have hc1 : cst (hasB n' f') (lo - 1) = 0 := by unfold cst; rw [if_neg (by rw [e6]; decide)]
              have ws := wn
              have wx := wn
              have wy := wn
              rw [hc1] at hx
              refine ⟨m - (k + 1), _, _, by omega, ⟨k + 1, lo - 1, hi, room, rfl, by omega, ⟨by omega, by omega, by omega, by omega, by omega, by omega⟩, ?_, rfl, rfl⟩, tau [], rfl, ?_, ?_⟩
              · rw [← hx]
                congr 2
                simp only [low, Prod.mk.injEq, and_true, true_and]
                omega
              · exact (by repeat' (first | exact rfl | exact trivial | exact ws | exact wx | exact wy | refine ⟨?_, ?_⟩))
              · exact ⟨⟨rfl, rfl, rfl, rfl, fun i c hi hc => box i c hi hc⟩, ⟨rfl, rfl, rfl, fun i c hi hc => ⟨rfl, rfl⟩⟩, ⟨rfl, rfl, rfl, fun i c hi hc => ⟨rfl, rfl⟩⟩, trivial⟩
          · have e4 : ¬ 0 < room := e4
            refine ⟨_, _, n', f', rfl, .inr ⟨2001, i', c', b', N', _, rfl, rfl, hN', F', fun _ _ => rfl, hF'⟩, hn', ?_⟩
            (refine (?_ : br _ _ _); refine br_both (fun e5 => ?_) (fun e5 => ?_))
            rotate_left
            · rw [wn] at e5
              have e5 : hasB n' f' (lo - 1) = true := by simpa using e5
              have hc1 : cst (hasB n' f') (lo - 1) = 1 := by unfold cst; rw [if_pos e5]
              have st : stopB (hasB n f) (hasB n' f') most true lo (hi - lo + 1) room = true := by unfold stopB; rw [nxq, show decide (room < cst (hasB n' f') (lo - 1)) = true from decide_eq_true (by omega)]; simp
              rw [ext_stop st] at hx
              (rw [hres, ← ht0, ← hx]; exact outT rfl wc rfl)
            rw [wn] at e5
            have e5 : hasB n' f' (lo - 1) = false := by simpa using e5
            have hc1 : cst (hasB n' f') (lo - 1) = 0 := by unfold cst; rw [if_neg (by rw [e5]; decide)]
            have st : stopB (hasB n f) (hasB n' f') most true lo (hi - lo + 1) room = false := by unfold stopB; rw [nxq, hib, e3, show decide (hi - lo + 1 = most) = false from decide_eq_false (by omega), show decide (room < cst (hasB n' f') (lo - 1)) = false from decide_eq_false (by omega)]; rfl
            have hm1 : m - k = m - (k + 1) + 1 := by omega
            rw [hm1, ext_step st, nxq] at hx
            refine ⟨_, _, n', f', rfl, .inr ⟨2001, i', c', b', N', _, rfl, rfl, hN', F', fun _ _ => rfl, hF'⟩, hn', ?_⟩
            (refine (?_ : br _ _ _); refine br_both (fun e6 => ?_) (fun e6 => ?_))
            · have e6 : hasB n' f' (IntKind.i64.wrap (lo - 1)) = true := e6
              rw [wn] at e6
              have hc1 : cst (hasB n' f') (lo - 1) = 1 := by unfold cst; rw [if_pos e6]
              have ws : IntKind.i64.wrap (room - 1) = room - 1 := by simp [IntKind.wrap_i64]; omega
              have wx := wn
              have wy := wn
              rw [hc1] at hx
              refine ⟨m - (k + 1), _, _, by omega, ⟨k + 1, lo - 1, hi, room - 1, rfl, by omega, ⟨by omega, by omega, by omega, by omega, by omega, by omega⟩, ?_, rfl, rfl⟩, tau [], rfl, ?_, ?_⟩
              · rw [← hx]
                congr 2
                simp only [low, Prod.mk.injEq, and_true, true_and]
                omega
              · exact (by repeat' (first | exact rfl | exact trivial | exact ws | exact wx | exact wy | refine ⟨?_, ?_⟩))
              · exact ⟨⟨rfl, rfl, rfl, rfl, fun i c hi hc => box i c hi hc⟩, ⟨rfl, rfl, rfl, fun i c hi hc => ⟨rfl, rfl⟩⟩, ⟨rfl, rfl, rfl, fun i c hi hc => ⟨rfl, rfl⟩⟩, trivial⟩
            · have e6 : hasB n' f' (IntKind.i64.wrap (lo - 1)) = false := e6
              rw [wn] at e6
              have hc1 : cst (hasB n' f') (lo - 1) = 0 := by unfold cst; rw [if_neg (by rw [e6]; decide)]
              have ws := wn
              have wx := wn
              have wy := wn
              rw [hc1] at hx
              refine ⟨m - (k + 1), _, _, by omega, ⟨k + 1, lo - 1, hi, room, rfl, by omega, ⟨by omega, by omega, by omega, by omega, by omega, by omega⟩, ?_, rfl, rfl⟩, tau [], rfl, ?_, ?_⟩
              · rw [← hx]
                congr 2
                simp only [low, Prod.mk.injEq, and_true, true_and]
                omega
              · exact (by repeat' (first | exact rfl | exact trivial | exact ws | exact wx | exact wy | refine ⟨?_, ?_⟩))
              · exact ⟨⟨rfl, rfl, rfl, rfl, fun i c hi hc => box i c hi hc⟩, ⟨rfl, rfl, rfl, fun i c hi hc => ⟨rfl, rfl⟩⟩, ⟨rfl, rfl, rfl, fun i c hi hc => ⟨rfl, rfl⟩⟩, trivial⟩
        rw [wn] at e5
        have e5 : hasB n' f' (hi + 1) = false := by simpa using e5
        have hc1 : cst (hasB n' f') (hi + 1) = 0 := by unfold cst; rw [if_neg (by rw [e5]; decide)]
        have st : stopB (hasB n f) (hasB n' f') most false lo (hi - lo + 1) room = false := by unfold stopB; rw [nxq, hib, e3, show decide (hi - lo + 1 = most) = false from decide_eq_false (by omega), show decide (room < cst (hasB n' f') (hi + 1)) = false from decide_eq_false (by omega)]; rfl
        have hm1 : m - k = m - (k + 1) + 1 := by omega
        rw [hm1, ext_step st, nxq] at hx
        refine ⟨_, _, n', f', rfl, .inr ⟨2001, i', c', b', N', _, rfl, rfl, hN', F', fun _ _ => rfl, hF'⟩, hn', ?_⟩
        (refine (?_ : br _ _ _); refine br_both (fun e6 => ?_) (fun e6 => ?_))
        · have e6 : hasB n' f' (IntKind.i64.wrap (hi + 1)) = true := e6
          rw [wn] at e6
          have hc1 : cst (hasB n' f') (hi + 1) = 1 := by unfold cst; rw [if_pos e6]
          have ws : IntKind.i64.wrap (room - 1) = room - 1 := by simp [IntKind.wrap_i64]; omega
          have wx := wn
          have wy := wn
          rw [hc1] at hx
          refine ⟨m - (k + 1), _, _, by omega, ⟨k + 1, lo, hi + 1, room - 1, rfl, by omega, ⟨by omega, by omega, by omega, by omega, by omega, by omega⟩, ?_, rfl, rfl⟩, tau [], rfl, ?_, ?_⟩
          · rw [← hx]
            congr 2
            simp only [low, Prod.mk.injEq, and_true, true_and]
            omega
          · exact (by repeat' (first | exact rfl | exact trivial | exact ws | exact wx | exact wy | refine ⟨?_, ?_⟩))
          · exact ⟨⟨rfl, rfl, rfl, rfl, fun i c hi hc => box i c hi hc⟩, ⟨rfl, rfl, rfl, fun i c hi hc => ⟨rfl, rfl⟩⟩, ⟨rfl, rfl, rfl, fun i c hi hc => ⟨rfl, rfl⟩⟩, trivial⟩
        · have e6 : hasB n' f' (IntKind.i64.wrap (hi + 1)) = false := e6
          rw [wn] at e6
          have hc1 : cst (hasB n' f') (hi + 1) = 0 := by unfold cst; rw [if_neg (by rw [e6]; decide)]
          have ws := wn
          have wx := wn
          have wy := wn
          rw [hc1] at hx
          refine ⟨m - (k + 1), _, _, by omega, ⟨k + 1, lo, hi + 1, room, rfl, by omega, ⟨by omega, by omega, by omega, by omega, by omega, by omega⟩, ?_, rfl, rfl⟩, tau [], rfl, ?_, ?_⟩
          · rw [← hx]
            congr 2
            simp only [low, Prod.mk.injEq, and_true, true_and]
            omega
          · exact (by repeat' (first | exact rfl | exact trivial | exact ws | exact wx | exact wy | refine ⟨?_, ?_⟩))
          · exact ⟨⟨rfl, rfl, rfl, rfl, fun i c hi hc => box i c hi hc⟩, ⟨rfl, rfl, rfl, fun i c hi hc => ⟨rfl, rfl⟩⟩, ⟨rfl, rfl, rfl, fun i c hi hc => ⟨rfl, rfl⟩⟩, trivial⟩
  · have a7 : hasB n' f' block = false := a7
    have hc1 : cst (hasB n' f') block = 0 := by unfold cst; rw [if_neg (by rw [a7]; decide)]
    have ws : True := trivial
    have hres := hres (by omega)
    obtain ⟨t, ht⟩ : ∃ t, ext (hasB n f) (hasB n' f') most false m (block, 1, room) = t := ⟨_, rfl⟩
    have hr0 : room = room - cst (hasB n' f') block := by omega
    have hfin0 : ext (hasB n f) (hasB n' f') most true m t = fin := by rw [← ht, hr0]; exact hfin
    have ht : ext (hasB n f) (hasB n' f') most false (m - 0) (block, block - block + 1, room) = t := by rw [← ht, Int.sub_self]; rfl
    have ok0 : 0 ≤ block ∧ block ≤ block ∧ block ≤ 255 ∧ block - block + 1 ≤ most ∧ 0 ≤ room ∧ room ≤ 9223372036854775807 := ⟨by omega, by omega, by omega, by omega, by omega, by omega⟩
    have wx : True := trivial
    have wy : True := trivial
    refine W_loop (fun r σ h => ∃ (k : Nat) (lo hi room : Int), r = m - k ∧ (k : Int) + 1 ≤ hi - lo + 1 ∧ (0 ≤ lo ∧ lo ≤ hi ∧ hi ≤ 255 ∧ hi - lo + 1 ≤ most ∧ 0 ≤ room ∧ room ≤ 9223372036854775807) ∧ ext (hasB n f) (hasB n' f') most false (m - k) (lo, hi - lo + 1, room) = t ∧ σ = [(0, .slice 2000 i n c), (1, .slice 2001 i' n' c'), (3, .int .i64 most), (4, .int .i64 room), (10, .ptr 0 0 0), (12, .int .i64 lo), (13, .int .i64 hi)] ∧ h = [(0, .blk b0 1 2 (gOf 2 [.int .i64 0, .int .i64 0]) 27), (2000, .ro b N 1 (g1 .i64 F)), (2001, .ro b' N' 1 (g1 .i64 F'))]) m ⟨0, block, block, room, rfl, by omega, ok0, ht, rfl, rfl⟩ (tau []) ⟨rfl, ?_, ?_⟩ 60 ?_
    · exact (by repeat' (first | exact rfl | exact trivial | exact ws | exact wx | exact wy | refine ⟨?_, ?_⟩))
    · exact ⟨⟨rfl, rfl, rfl, rfl, fun i c hi hc => box i c hi hc⟩, ⟨rfl, rfl, rfl, fun i c hi hc => ⟨rfl, rfl⟩⟩, ⟨rfl, rfl, rfl, fun i c hi hc => ⟨rfl, rfl⟩⟩, trivial⟩
    rintro r2 σ2 h2 ⟨k, lo, hi, room, rfl, hk, ok, hx, rfl, rfl⟩
    obtain ⟨o1, o2, o3, o4, o5, o6⟩ := ok
    have ok : 0 ≤ lo ∧ lo ≤ hi ∧ hi ≤ 255 ∧ hi - lo + 1 ≤ most ∧ 0 ≤ room ∧ room ≤ 9223372036854775807 := ⟨o1, o2, o3, o4, o5, o6⟩
    have wn : IntKind.i64.wrap (hi + 1) = hi + 1 := by simp [IntKind.wrap_i64]; omega
    have wc : IntKind.i64.wrap (IntKind.i64.wrap (hi - lo) + 1) = hi - lo + 1 := by simp [IntKind.wrap_i64]; omega
    have nxq : nxt false lo (hi - lo + 1) = hi + 1 := by first | rfl | (simp only [nxt]; omega)
    refine vc_sound (mkE hcx T_ok spq) 300 _ _ _ 60 ?_
    (refine (?_ : br _ _ _); refine br_dec (fun e1 => ?_) (fun e1 => ?_))
    rotate_left
    · rw [wc] at e1
      have st : stopB (hasB n f) (hasB n' f') most false lo (hi - lo + 1) room = true := by unfold stopB; rw [show decide (hi - lo + 1 = most) = true from decide_eq_true (by omega)]; rfl
      rw [ext_stop st] at hx
      obtain ⟨t2, ht2⟩ : ∃ t2, ext (hasB n f) (hasB n' f') most true (m - 0) (lo, hi - lo + 1, room) = t2 := ⟨_, rfl⟩
      have ht0 : t2 = fin := by rw [← ht2]; exact (congrArg (ext (hasB n f) (hasB n' f') most true m) hx).trans hfin0
      have ws : True := trivial
      have wx : True := trivial
      have wy : True := trivial
      refine W_loop (fun r σ h => ∃ (k : Nat) (lo hi room : Int), r = m - k ∧ (k : Int) + 1 ≤ hi - lo + 1 ∧ (0 ≤ lo ∧ lo ≤ hi ∧ hi ≤ 255 ∧ hi - lo + 1 ≤ most ∧ 0 ≤ room ∧ room ≤ 9223372036854775807) ∧ ext (hasB n f) (hasB n' f') most true (m - k) (lo, hi - lo + 1, room) = t2 ∧ σ = [(0, .slice 2000 i n c), (1, .slice 2001 i' n' c'), (3, .int .i64 most), (4, .int .i64 room), (10, .ptr 0 0 0), (12, .int .i64 lo), (13, .int .i64 hi)] ∧ h = [(0, .blk b0 1 2 (gOf 2 [.int .i64 0, .int .i64 0]) 27), (2000, .ro b N 1 (g1 .i64 F)), (2001, .ro b' N' 1 (g1 .i64 F'))]) m ⟨0, lo, hi, room, rfl, by omega, ok, ht2, rfl, rfl⟩ (tau []) ⟨rfl, ?_, ?_⟩ 60 ?_
      · exact (by repeat' (first | exact rfl | exact trivial | exact ws | exact wx | exact wy | refine ⟨?_, ?_⟩))
      · exact ⟨⟨rfl, rfl, rfl, rfl, fun i c hi hc => box i c hi hc⟩, ⟨rfl, rfl, rfl, fun i c hi hc => ⟨rfl, rfl⟩⟩, ⟨rfl, rfl, rfl, fun i c hi hc => ⟨rfl, rfl⟩⟩, trivial⟩
      rintro r2 σ2 h2 ⟨k, lo, hi, room, rfl, hk, ok, hx, rfl, rfl⟩
      obtain ⟨o1, o2, o3, o4, o5, o6⟩ := ok
      have ok : 0 ≤ lo ∧ lo ≤ hi ∧ hi ≤ 255 ∧ hi - lo + 1 ≤ most ∧ 0 ≤ room ∧ room ≤ 9223372036854775807 := ⟨o1, o2, o3, o4, o5, o6⟩
      have wn : IntKind.i64.wrap (lo - 1) = lo - 1 := by simp [IntKind.wrap_i64]; omega
      have wc : IntKind.i64.wrap (IntKind.i64.wrap (hi - lo) + 1) = hi - lo + 1 := by simp [IntKind.wrap_i64]; omega
      have nxq : nxt true lo (hi - lo + 1) = lo - 1 := by first | rfl | (simp only [nxt]; omega)
      refine vc_sound (mkE hcx T_ok spq) 300 _ _ _ 60 ?_
      (refine (?_ : br _ _ _); refine br_dec (fun e1 => ?_) (fun e1 => ?_))
      rotate_left
      · rw [wc] at e1
        have st : stopB (hasB n f) (hasB n' f') most true lo (hi - lo + 1) room = true := by unfold stopB; rw [show decide (hi - lo + 1 = most) = true from decide_eq_true (by omega)]; rfl
        rw [ext_stop st] at hx
        (rw [hres, ← ht0, ← hx]; exact outT rfl wc rfl)
      rw [wc] at e1
      (refine (?_ : br _ _ _); refine br_dec (fun e2 => ?_) (fun e2 => ?_))
      rotate_left
      · have e2 : ¬ 0 < lo := e2
        have hib : isB (lo - 1) = false := by unfold isB; rw [Bool.eq_false_iff]; intro q; simp at q; omega
        have st : stopB (hasB n f) (hasB n' f') most true lo (hi - lo + 1) room = true := by unfold stopB; rw [nxq, hib]; simp
        rw [ext_stop st] at hx
        (rw [hres, ← ht0, ← hx]; exact outT rfl wc rfl)
      have e2 : 0 < lo := e2
      have hib : isB (lo - 1) = true := by unfold isB; simp <;> omega
      refine ⟨_, _, n, f, rfl, .inr ⟨2000, i, c, b, N, _, rfl, rfl, hN, F, fun _ _ => rfl, hF⟩, hn, ?_⟩
      (refine (?_ : br _ _ _); refine br_both (fun e3 => ?_) (fun e3 => ?_))
      rotate_left
      · rw [wn] at e3
        have st : stopB (hasB n f) (hasB n' f') most true lo (hi - lo + 1) room = true := by unfold stopB; rw [nxq, e3]; simp
        rw [ext_stop st] at hx
        (rw [hres, ← ht0, ← hx]; exact outT rfl wc rfl)
      rw [wn] at e3
      have c01 := cst_01 (hasB n' f') (lo - 1)
      (refine (?_ : br _ _ _); refine br_dec (fun e4 => ?_) (fun e4 => ?_))
      · have e4 : 0 < room := e4
        have st : stopB (hasB n f) (hasB n' f') most true lo (hi - lo + 1) room = false := by unfold stopB; rw [nxq, hib, e3, show decide (hi - lo + 1 = most) = false from decide_eq_false (by omega), show decide (room < cst (hasB n' f') (lo - 1)) = false from decide_eq_false (by omega)]; rfl
        have hm1 : m - k = m - (k + 1) + 1 := by omega
        rw [hm1, ext_step st, nxq] at hx
        refine ⟨_, _, n', f', rfl, .inr ⟨2001, i', c', b', N', _, rfl, rfl, hN', F', fun _ _ => rfl, hF'⟩, hn', ?_⟩
        (refine (?_ : br _ _ _); refine br_both (fun e6 => ?_) (fun e6 => ?_))
        · have e6 : hasB n' f' (IntKind.i64.wrap (lo - 1)) = true := e6
          rw [wn] at e6
          have hc1 : cst (hasB n' f') (lo - 1) = 1 := by unfold cst; rw [if_pos e6]
          have ws : IntKind.i64.wrap (room - 1) = room - 1 := by simp [IntKind.wrap_i64]; omega
          have wx := wn
          have wy := wn
          rw [hc1] at hx
          refine ⟨m - (k + 1), _, _, by omega, ⟨k + 1, lo - 1, hi, room - 1, rfl, by omega, ⟨by omega, by omega, by omega, by omega, by omega, by omega⟩, ?_, rfl, rfl⟩, tau [], rfl, ?_, ?_⟩
          · rw [← hx]
            congr 2
            simp only [low, Prod.mk.injEq, and_true, true_and]
            omega
          · exact (by repeat' (first | exact rfl | exact trivial | exact ws | exact wx | exact wy | refine ⟨?_, ?_⟩))
          · exact ⟨⟨rfl, rfl, rfl, rfl, fun i c hi hc => box i c hi hc⟩, ⟨rfl, rfl, rfl, fun i c hi hc => ⟨rfl, rfl⟩⟩, ⟨rfl, rfl, rfl, fun i c hi hc => ⟨rfl, rfl⟩⟩, trivial⟩
        · have e6 : hasB n' f' (IntKind.i64.wrap (lo - 1)) = false := e6
          rw [wn] at e6
          have hc1 : cst (hasB n' f') (lo - 1) = 0 := by unfold cst; rw [if_neg (by rw [e6]; decide)]
          have ws := wn
          have wx := wn
          have wy := wn
          rw [hc1] at hx
          refine ⟨m - (k + 1), _, _, by omega, ⟨k + 1, lo - 1, hi, room, rfl, by omega, ⟨by omega, by omega, by omega, by omega, by omega, by omega⟩, ?_, rfl, rfl⟩, tau [], rfl, ?_, ?_⟩
          · rw [← hx]
            congr 2
            simp only [low, Prod.mk.injEq, and_true, true_and]
            omega
          · exact (by repeat' (first | exact rfl | exact trivial | exact ws | exact wx | exact wy | refine ⟨?_, ?_⟩))
          · exact ⟨⟨rfl, rfl, rfl, rfl, fun i c hi hc => box i c hi hc⟩, ⟨rfl, rfl, rfl, fun i c hi hc => ⟨rfl, rfl⟩⟩, ⟨rfl, rfl, rfl, fun i c hi hc => ⟨rfl, rfl⟩⟩, trivial⟩
      · have e4 : ¬ 0 < room := e4
        refine ⟨_, _, n', f', rfl, .inr ⟨2001, i', c', b', N', _, rfl, rfl, hN', F', fun _ _ => rfl, hF'⟩, hn', ?_⟩
        (refine (?_ : br _ _ _); refine br_both (fun e5 => ?_) (fun e5 => ?_))
        rotate_left
        · rw [wn] at e5
          have e5 : hasB n' f' (lo - 1) = true := by simpa using e5
          have hc1 : cst (hasB n' f') (lo - 1) = 1 := by unfold cst; rw [if_pos e5]
          have st : stopB (hasB n f) (hasB n' f') most true lo (hi - lo + 1) room = true := by unfold stopB; rw [nxq, show decide (room < cst (hasB n' f') (lo - 1)) = true from decide_eq_true (by omega)]; simp
          rw [ext_stop st] at hx
          (rw [hres, ← ht0, ← hx]; exact outT rfl wc rfl)
        rw [wn] at e5
        have e5 : hasB n' f' (lo - 1) = false := by simpa using e5
        have hc1 : cst (hasB n' f') (lo - 1) = 0 := by unfold cst; rw [if_neg (by rw [e5]; decide)]
        have st : stopB (hasB n f) (hasB n' f') most true lo (hi - lo + 1) room = false := by unfold stopB; rw [nxq, hib, e3, show decide (hi - lo + 1 = most) = false from decide_eq_false (by omega), show decide (room < cst (hasB n' f') (lo - 1)) = false from decide_eq_false (by omega)]; rfl
        have hm1 : m - k = m - (k + 1) + 1 := by omega
        rw [hm1, ext_step st, nxq] at hx
        refine ⟨_, _, n', f', rfl, .inr ⟨2001, i', c', b', N', _, rfl, rfl, hN', F', fun _ _ => rfl, hF'⟩, hn', ?_⟩
        (refine (?_ : br _ _ _); refine br_both (fun e6 => ?_) (fun e6 => ?_))
        · have e6 : hasB n' f' (IntKind.i64.wrap (lo - 1)) = true := e6
          rw [wn] at e6
          have hc1 : cst (hasB n' f') (lo - 1) = 1 := by unfold cst; rw [if_pos e6]
          have ws : IntKind.i64.wrap (room - 1) = room - 1 := by simp [IntKind.wrap_i64]; omega
          have wx := wn
          have wy := wn
          rw [hc1] at hx
          refine ⟨m - (k + 1), _, _, by omega, ⟨k + 1, lo - 1, hi, room - 1, rfl, by omega, ⟨by omega, by omega, by omega, by omega, by omega, by omega⟩, ?_, rfl, rfl⟩, tau [], rfl, ?_, ?_⟩
          · rw [← hx]
            congr 2
            simp only [low, Prod.mk.injEq, and_true, true_and]
            omega
          · exact (by repeat' (first | exact rfl | exact trivial | exact ws | exact wx | exact wy | refine ⟨?_, ?_⟩))
          · exact ⟨⟨rfl, rfl, rfl, rfl, fun i c hi hc => box i c hi hc⟩, ⟨rfl, rfl, rfl, fun i c hi hc => ⟨rfl, rfl⟩⟩, ⟨rfl, rfl, rfl, fun i c hi hc => ⟨rfl, rfl⟩⟩, trivial⟩
        · have e6 : hasB n' f' (IntKind.i64.wrap (lo - 1)) = false := e6
          rw [wn] at e6
          have hc1 : cst (hasB n' f') (lo - 1) = 0 := by unfold cst; rw [if_neg (by rw [e6]; decide)]
          have ws := wn
          have wx := wn
          have wy := wn
          rw [hc1] at hx
          refine ⟨m - (k + 1), _, _, by omega, ⟨k + 1, lo - 1, hi, room, rfl, by omega, ⟨by omega, by omega, by omega, by omega, by omega, by omega⟩, ?_, rfl, rfl⟩, tau [], rfl, ?_, ?_⟩
          · rw [← hx]
            congr 2
            simp only [low, Prod.mk.injEq, and_true, true_and]
            omega
          · exact (by repeat' (first | exact rfl | exact trivial | exact ws | exact wx | exact wy | refine ⟨?_, ?_⟩))
          · exact ⟨⟨rfl, rfl, rfl, rfl, fun i c hi hc => box i c hi hc⟩, ⟨rfl, rfl, rfl, fun i c hi hc => ⟨rfl, rfl⟩⟩, ⟨rfl, rfl, rfl, fun i c hi hc => ⟨rfl, rfl⟩⟩, trivial⟩
    rw [wc] at e1
    (refine (?_ : br _ _ _); refine br_dec (fun e2 => ?_) (fun e2 => ?_))
    rotate_left
    · have e2 : ¬ hi < 255 := e2
      have hib : isB (hi + 1) = false := by unfold isB; rw [Bool.eq_false_iff]; intro q; simp at q; omega
      have st : stopB (hasB n f) (hasB n' f') most false lo (hi - lo + 1) room = true := by unfold stopB; rw [nxq, hib]; simp
      rw [ext_stop st] at hx
      obtain ⟨t2, ht2⟩ : ∃ t2, ext (hasB n f) (hasB n' f') most true (m - 0) (lo, hi - lo + 1, room) = t2 := ⟨_, rfl⟩
      have ht0 : t2 = fin := by rw [← ht2]; exact (congrArg (ext (hasB n f) (hasB n' f') most true m) hx).trans hfin0
      have ws : True := trivial
      have wx : True := trivial
      have wy : True := trivial
      refine W_loop (fun r σ h => ∃ (k : Nat) (lo hi room : Int), r = m - k ∧ (k : Int) + 1 ≤ hi - lo + 1 ∧ (0 ≤ lo ∧ lo ≤ hi ∧ hi ≤ 255 ∧ hi - lo + 1 ≤ most ∧ 0 ≤ room ∧ room ≤ 9223372036854775807) ∧ ext (hasB n f) (hasB n' f') most true (m - k) (lo, hi - lo + 1, room) = t2 ∧ σ = [(0, .slice 2000 i n c), (1, .slice 2001 i' n' c'), (3, .int .i64 most), (4, .int .i64 room), (10, .ptr 0 0 0), (12, .int .i64 lo), (13, .int .i64 hi)] ∧ h = [(0, .blk b0 1 2 (gOf 2 [.int .i64 0, .int .i64 0]) 27), (2000, .ro b N 1 (g1 .i64 F)), (2001, .ro b' N' 1 (g1 .i64 F'))]) m ⟨0, lo, hi, room, rfl, by omega, ok, ht2, rfl, rfl⟩ (tau []) ⟨rfl, ?_, ?_⟩ 60 ?_
      · exact (by repeat' (first | exact rfl | exact trivial | exact ws | exact wx | exact wy | refine ⟨?_, ?_⟩))
      · exact ⟨⟨rfl, rfl, rfl, rfl, fun i c hi hc => box i c hi hc⟩, ⟨rfl, rfl, rfl, fun i c hi hc => ⟨rfl, rfl⟩⟩, ⟨rfl, rfl, rfl, fun i c hi hc => ⟨rfl, rfl⟩⟩, trivial⟩
      rintro r2 σ2 h2 ⟨k, lo, hi, room, rfl, hk, ok, hx, rfl, rfl⟩
      obtain ⟨o1, o2, o3, o4, o5, o6⟩ := ok
      have ok : 0 ≤ lo ∧ lo ≤ hi ∧ hi ≤ 255 ∧ hi - lo + 1 ≤ most ∧ 0 ≤ room ∧ room ≤ 9223372036854775807 := ⟨o1, o2, o3, o4, o5, o6⟩
      have wn : IntKind.i64.wrap (lo - 1) = lo - 1 := by simp [IntKind.wrap_i64]; omega
      have wc : IntKind.i64.wrap (IntKind.i64.wrap (hi - lo) + 1) = hi - lo + 1 := by simp [IntKind.wrap_i64]; omega
      have nxq : nxt true lo (hi - lo + 1) = lo - 1 := by first | rfl | (simp only [nxt]; omega)
      refine vc_sound (mkE hcx T_ok spq) 300 _ _ _ 60 ?_
      (refine (?_ : br _ _ _); refine br_dec (fun e1 => ?_) (fun e1 => ?_))
      rotate_left
      · rw [wc] at e1
        have st : stopB (hasB n f) (hasB n' f') most true lo (hi - lo + 1) room = true := by unfold stopB; rw [show decide (hi - lo + 1 = most) = true from decide_eq_true (by omega)]; rfl
        rw [ext_stop st] at hx
        (rw [hres, ← ht0, ← hx]; exact outT rfl wc rfl)
      rw [wc] at e1
      (refine (?_ : br _ _ _); refine br_dec (fun e2 => ?_) (fun e2 => ?_))
      rotate_left
      · have e2 : ¬ 0 < lo := e2
        have hib : isB (lo - 1) = false := by unfold isB; rw [Bool.eq_false_iff]; intro q; simp at q; omega
        have st : stopB (hasB n f) (hasB n' f') most true lo (hi - lo + 1) room = true := by unfold stopB; rw [nxq, hib]; simp
        rw [ext_stop st] at hx
        (rw [hres, ← ht0, ← hx]; exact outT rfl wc rfl)
      have e2 : 0 < lo := e2
      have hib : isB (lo - 1) = true := by unfold isB; simp <;> omega
      refine ⟨_, _, n, f, rfl, .inr ⟨2000, i, c, b, N, _, rfl, rfl, hN, F, fun _ _ => rfl, hF⟩, hn, ?_⟩
      (refine (?_ : br _ _ _); refine br_both (fun e3 => ?_) (fun e3 => ?_))
      rotate_left
      · rw [wn] at e3
        have st : stopB (hasB n f) (hasB n' f') most true lo (hi - lo + 1) room = true := by unfold stopB; rw [nxq, e3]; simp
        rw [ext_stop st] at hx
        (rw [hres, ← ht0, ← hx]; exact outT rfl wc rfl)
      rw [wn] at e3
      have c01 := cst_01 (hasB n' f') (lo - 1)
      (refine (?_ : br _ _ _); refine br_dec (fun e4 => ?_) (fun e4 => ?_))
      · have e4 : 0 < room := e4
        have st : stopB (hasB n f) (hasB n' f') most true lo (hi - lo + 1) room = false := by unfold stopB; rw [nxq, hib, e3, show decide (hi - lo + 1 = most) = false from decide_eq_false (by omega), show decide (room < cst (hasB n' f') (lo - 1)) = false from decide_eq_false (by omega)]; rfl
        have hm1 : m - k = m - (k + 1) + 1 := by omega
        rw [hm1, ext_step st, nxq] at hx
        refine ⟨_, _, n', f', rfl, .inr ⟨2001, i', c', b', N', _, rfl, rfl, hN', F', fun _ _ => rfl, hF'⟩, hn', ?_⟩
        (refine (?_ : br _ _ _); refine br_both (fun e6 => ?_) (fun e6 => ?_))
        · have e6 : hasB n' f' (IntKind.i64.wrap (lo - 1)) = true := e6
          rw [wn] at e6
          have hc1 : cst (hasB n' f') (lo - 1) = 1 := by unfold cst; rw [if_pos e6]
          have ws : IntKind.i64.wrap (room - 1) = room - 1 := by simp [IntKind.wrap_i64]; omega
          have wx := wn
          have wy := wn
          rw [hc1] at hx
          refine ⟨m - (k + 1), _, _, by omega, ⟨k + 1, lo - 1, hi, room - 1, rfl, by omega, ⟨by omega, by omega, by omega, by omega, by omega, by omega⟩, ?_, rfl, rfl⟩, tau [], rfl, ?_, ?_⟩
          · rw [← hx]
            congr 2
            simp only [low, Prod.mk.injEq, and_true, true_and]
            omega
          · exact (by repeat' (first | exact rfl | exact trivial | exact ws | exact wx | exact wy | refine ⟨?_, ?_⟩))
          · exact ⟨⟨rfl, rfl, rfl, rfl, fun i c hi hc => box i c hi hc⟩, ⟨rfl, rfl, rfl, fun i c hi hc => ⟨rfl, rfl⟩⟩, ⟨rfl, rfl, rfl, fun i c hi hc => ⟨rfl, rfl⟩⟩, trivial⟩
        · have e6 : hasB n' f' (IntKind.i64.wrap (lo - 1)) = false := e6
          rw [wn] at e6
          have hc1 : cst (hasB n' f') (lo - 1) = 0 := by unfold cst; rw [if_neg (by rw [e6]; decide)]
          have ws := wn
          have wx := wn
          have wy := wn
          rw [hc1] at hx
          refine ⟨m - (k + 1), _, _, by omega, ⟨k + 1, lo - 1, hi, room, rfl, by omega, ⟨by omega, by omega, by omega, by omega, by omega, by omega⟩, ?_, rfl, rfl⟩, tau [], rfl, ?_, ?_⟩
          · rw [← hx]
            congr 2
            simp only [low, Prod.mk.injEq, and_true, true_and]
            omega
          · exact (by repeat' (first | exact rfl | exact trivial | exact ws | exact wx | exact wy | refine ⟨?_, ?_⟩))
          · exact ⟨⟨rfl, rfl, rfl, rfl, fun i c hi hc => box i c hi hc⟩, ⟨rfl, rfl, rfl, fun i c hi hc => ⟨rfl, rfl⟩⟩, ⟨rfl, rfl, rfl, fun i c hi hc => ⟨rfl, rfl⟩⟩, trivial⟩
      · have e4 : ¬ 0 < room := e4
        refine ⟨_, _, n', f', rfl, .inr ⟨2001, i', c', b', N', _, rfl, rfl, hN', F', fun _ _ => rfl, hF'⟩, hn', ?_⟩
        (refine (?_ : br _ _ _); refine br_both (fun e5 => ?_) (fun e5 => ?_))
        rotate_left
        · rw [wn] at e5
          have e5 : hasB n' f' (lo - 1) = true := by simpa using e5
          have hc1 : cst (hasB n' f') (lo - 1) = 1 := by unfold cst; rw [if_pos e5]
          have st : stopB (hasB n f) (hasB n' f') most true lo (hi - lo + 1) room = true := by unfold stopB; rw [nxq, show decide (room < cst (hasB n' f') (lo - 1)) = true from decide_eq_true (by omega)]; simp
          rw [ext_stop st] at hx
          (rw [hres, ← ht0, ← hx]; exact outT rfl wc rfl)
        rw [wn] at e5
        have e5 : hasB n' f' (lo - 1) = false := by simpa using e5
        have hc1 : cst (hasB n' f') (lo - 1) = 0 := by unfold cst; rw [if_neg (by rw [e5]; decide)]
        have st : stopB (hasB n f) (hasB n' f') most true lo (hi - lo + 1) room = false := by unfold stopB; rw [nxq, hib, e3, show decide (hi - lo + 1 = most) = false from decide_eq_false (by omega), show decide (room < cst (hasB n' f') (lo - 1)) = false from decide_eq_false (by omega)]; rfl
        have hm1 : m - k = m - (k + 1) + 1 := by omega
        rw [hm1, ext_step st, nxq] at hx
        refine ⟨_, _, n', f', rfl, .inr ⟨2001, i', c', b', N', _, rfl, rfl, hN', F', fun _ _ => rfl, hF'⟩, hn', ?_⟩
        (refine (?_ : br _ _ _); refine br_both (fun e6 => ?_) (fun e6 => ?_))
        · have e6 : hasB n' f' (IntKind.i64.wrap (lo - 1)) = true := e6
          rw [wn] at e6
          have hc1 : cst (hasB n' f') (lo - 1) = 1 := by unfold cst; rw [if_pos e6]
          have ws : IntKind.i64.wrap (room - 1) = room - 1 := by simp [IntKind.wrap_i64]; omega
          have wx := wn
          have wy := wn
          rw [hc1] at hx
          refine ⟨m - (k + 1), _, _, by omega, ⟨k + 1, lo - 1, hi, room - 1, rfl, by omega, ⟨by omega, by omega, by omega, by omega, by omega, by omega⟩, ?_, rfl, rfl⟩, tau [], rfl, ?_, ?_⟩
          · rw [← hx]
            congr 2
            simp only [low, Prod.mk.injEq, and_true, true_and]
            omega
          · exact (by repeat' (first | exact rfl | exact trivial | exact ws | exact wx | exact wy | refine ⟨?_, ?_⟩))
          · exact ⟨⟨rfl, rfl, rfl, rfl, fun i c hi hc => box i c hi hc⟩, ⟨rfl, rfl, rfl, fun i c hi hc => ⟨rfl, rfl⟩⟩, ⟨rfl, rfl, rfl, fun i c hi hc => ⟨rfl, rfl⟩⟩, trivial⟩
        · have e6 : hasB n' f' (IntKind.i64.wrap (lo - 1)) = false := e6
          rw [wn] at e6
          have hc1 : cst (hasB n' f') (lo - 1) = 0 := by unfold cst; rw [if_neg (by rw [e6]; decide)]
          have ws := wn
          have wx := wn
          have wy := wn
          rw [hc1] at hx
          refine ⟨m - (k + 1), _, _, by omega, ⟨k + 1, lo - 1, hi, room, rfl, by omega, ⟨by omega, by omega, by omega, by omega, by omega, by omega⟩, ?_, rfl, rfl⟩, tau [], rfl, ?_, ?_⟩
          · rw [← hx]
            congr 2
            simp only [low, Prod.mk.injEq, and_true, true_and]
            omega
          · exact (by repeat' (first | exact rfl | exact trivial | exact ws | exact wx | exact wy | refine ⟨?_, ?_⟩))
          · exact ⟨⟨rfl, rfl, rfl, rfl, fun i c hi hc => box i c hi hc⟩, ⟨rfl, rfl, rfl, fun i c hi hc => ⟨rfl, rfl⟩⟩, ⟨rfl, rfl, rfl, fun i c hi hc => ⟨rfl, rfl⟩⟩, trivial⟩
    have e2 : hi < 255 := e2
    have hib : isB (hi + 1) = true := by unfold isB; simp <;> omega
    refine ⟨_, _, n, f, rfl, .inr ⟨2000, i, c, b, N, _, rfl, rfl, hN, F, fun _ _ => rfl, hF⟩, hn, ?_⟩
    (refine (?_ : br _ _ _); refine br_both (fun e3 => ?_) (fun e3 => ?_))
    rotate_left
    · rw [wn] at e3
      have st : stopB (hasB n f) (hasB n' f') most false lo (hi - lo + 1) room = true := by unfold stopB; rw [nxq, e3]; simp
      rw [ext_stop st] at hx
      obtain ⟨t2, ht2⟩ : ∃ t2, ext (hasB n f) (hasB n' f') most true (m - 0) (lo, hi - lo + 1, room) = t2 := ⟨_, rfl⟩
      have ht0 : t2 = fin := by rw [← ht2]; exact (congrArg (ext (hasB n f) (hasB n' f') most true m) hx).trans hfin0
      have ws : True := trivial
      have wx : True := trivial
      have wy : True := trivial
      refine W_loop (fun r σ h => ∃ (k : Nat) (lo hi room : Int), r = m - k ∧ (k : Int) + 1 ≤ hi - lo + 1 ∧ (0 ≤ lo ∧ lo ≤ hi ∧ hi ≤ 255 ∧ hi - lo + 1 ≤ most ∧ 0 ≤ room ∧ room ≤ 9223372036854775807) ∧ ext (hasB n f) (hasB n' f') most true (m - k) (lo, hi - lo + 1, room) = t2 ∧ σ = [(0, .slice 2000 i n c), (1, .slice 2001 i' n' c'), (3, .int .i64 most), (4, .int .i64 room), (10, .ptr 0 0 0), (12, .int .i64 lo), (13, .int .i64 hi)] ∧ h = [(0, .blk b0 1 2 (gOf 2 [.int .i64 0, .int .i64 0]) 27), (2000, .ro b N 1 (g1 .i64 F)), (2001, .ro b' N' 1 (g1 .i64 F'))]) m ⟨0, lo, hi, room, rfl, by omega, ok, ht2, rfl, rfl⟩ (tau []) ⟨rfl, ?_, ?_⟩ 60 ?_
      · exact (by repeat' (first | exact rfl | exact trivial | exact ws | exact wx | exact wy | refine ⟨?_, ?_⟩))
      · exact ⟨⟨rfl, rfl, rfl, rfl, fun i c hi hc => box i c hi hc⟩, ⟨rfl, rfl, rfl, fun i c hi hc => ⟨rfl, rfl⟩⟩, ⟨rfl, rfl, rfl, fun i c hi hc => ⟨rfl, rfl⟩⟩, trivial⟩
      rintro r2 σ2 h2 ⟨k, lo, hi, room, rfl, hk, ok, hx, rfl, rfl⟩
      obtain ⟨o1, o2, o3, o4, o5, o6⟩ := ok
      have ok : 0 ≤ lo ∧ lo ≤ hi ∧ hi ≤ 255 ∧ hi - lo + 1 ≤ most ∧ 0 ≤ room ∧ room ≤ 9223372036854775807 := ⟨o1, o2, o3, o4, o5, o6⟩
      have wn : IntKind.i64.wrap (lo - 1) = lo - 1 := by simp [IntKind.wrap_i64]; omega
      have wc : IntKind.i64.wrap (IntKind.i64.wrap (hi - lo) + 1) = hi - lo + 1 := by simp [IntKind.wrap_i64]; omega
      have nxq : nxt true lo (hi - lo + 1) = lo - 1 := by first | rfl | (simp only [nxt]; omega)
      refine vc_sound (mkE hcx T_ok spq) 300 _ _ _ 60 ?_
      (refine (?_ : br _ _ _); refine br_dec (fun e1 => ?_) (fun e1 => ?_))
      rotate_left
      · rw [wc] at e1
        have st : stopB (hasB n f) (hasB n' f') most true lo (hi - lo + 1) room = true := by unfold stopB; rw [show decide (hi - lo + 1 = most) = true from decide_eq_true (by omega)]; rfl
        rw [ext_stop st] at hx
        (rw [hres, ← ht0, ← hx]; exact outT rfl wc rfl)
      rw [wc] at e1
      (refine (?_ : br _ _ _); refine br_dec (fun e2 => ?_) (fun e2 => ?_))
      rotate_left
      · have e2 : ¬ 0 < lo := e2
        have hib : isB (lo - 1) = false := by unfold isB; rw [Bool.eq_false_iff]; intro q; simp at q; omega
        have st : stopB (hasB n f) (hasB n' f') most true lo (hi - lo + 1) room = true := by unfold stopB; rw [nxq, hib]; simp
        rw [ext_stop st] at hx
        (rw [hres, ← ht0, ← hx]; exact outT rfl wc rfl)
      have e2 : 0 < lo := e2
      have hib : isB (lo - 1) = true := by unfold isB; simp <;> omega
      refine ⟨_, _, n, f, rfl, .inr ⟨2000, i, c, b, N, _, rfl, rfl, hN, F, fun _ _ => rfl, hF⟩, hn, ?_⟩
      (refine (?_ : br _ _ _); refine br_both (fun e3 => ?_) (fun e3 => ?_))
      rotate_left
      · rw [wn] at e3
        have st : stopB (hasB n f) (hasB n' f') most true lo (hi - lo + 1) room = true := by unfold stopB; rw [nxq, e3]; simp
        rw [ext_stop st] at hx
        (rw [hres, ← ht0, ← hx]; exact outT rfl wc rfl)
      rw [wn] at e3
      have c01 := cst_01 (hasB n' f') (lo - 1)
      (refine (?_ : br _ _ _); refine br_dec (fun e4 => ?_) (fun e4 => ?_))
      · have e4 : 0 < room := e4
        have st : stopB (hasB n f) (hasB n' f') most true lo (hi - lo + 1) room = false := by unfold stopB; rw [nxq, hib, e3, show decide (hi - lo + 1 = most) = false from decide_eq_false (by omega), show decide (room < cst (hasB n' f') (lo - 1)) = false from decide_eq_false (by omega)]; rfl
        have hm1 : m - k = m - (k + 1) + 1 := by omega
        rw [hm1, ext_step st, nxq] at hx
        refine ⟨_, _, n', f', rfl, .inr ⟨2001, i', c', b', N', _, rfl, rfl, hN', F', fun _ _ => rfl, hF'⟩, hn', ?_⟩
        (refine (?_ : br _ _ _); refine br_both (fun e6 => ?_) (fun e6 => ?_))
        · have e6 : hasB n' f' (IntKind.i64.wrap (lo - 1)) = true := e6
          rw [wn] at e6
          have hc1 : cst (hasB n' f') (lo - 1) = 1 := by unfold cst; rw [if_pos e6]
          have ws : IntKind.i64.wrap (room - 1) = room - 1 := by simp [IntKind.wrap_i64]; omega
          have wx := wn
          have wy := wn
          rw [hc1] at hx
          refine ⟨m - (k + 1), _, _, by omega, ⟨k + 1, lo - 1, hi, room - 1, rfl, by omega, ⟨by omega, by omega, by omega, by omega, by omega, by omega⟩, ?_, rfl, rfl⟩, tau [], rfl, ?_, ?_⟩
          · rw [← hx]
            congr 2
            simp only [low, Prod.mk.injEq, and_true, true_and]
            omega
          · exact (by repeat' (first | exact rfl | exact trivial | exact ws | exact wx | exact wy | refine ⟨?_, ?_⟩))
          · exact ⟨⟨rfl, rfl, rfl, rfl, fun i c hi hc => box i c hi hc⟩, ⟨rfl, rfl, rfl, fun i c hi hc => ⟨rfl, rfl⟩⟩, ⟨rfl, rfl, rfl, fun i c hi hc => ⟨rfl, rfl⟩⟩, trivial⟩
        · have e6 : hasB n' f' (IntKind.i64.wrap (lo - 1)) = false := e6
          rw [wn] at e6
          have hc1 : cst (hasB n' f') (lo - 1) = 0 := by unfold cst; rw [if_neg (by rw [e6]; decide)]
          have ws := wn
          have wx := wn
          have wy := wn
          rw [hc1] at hx
          refine ⟨m - (k + 1), _, _, by omega, ⟨k + 1, lo - 1, hi, room, rfl, by omega, ⟨by omega, by omega, by omega, by omega, by omega, by omega⟩, ?_, rfl, rfl⟩, tau [], rfl, ?_, ?_⟩
          · rw [← hx]
            congr 2
            simp only [low, Prod.mk.injEq, and_true, true_and]
            omega
          · exact (by repeat' (first | exact rfl | exact trivial | exact ws | exact wx | exact wy | refine ⟨?_, ?_⟩))
          · exact ⟨⟨rfl, rfl, rfl, rfl, fun i c hi hc => box i c hi hc⟩, ⟨rfl, rfl, rfl, fun i c hi hc => ⟨rfl, rfl⟩⟩, ⟨rfl, rfl, rfl, fun i c hi hc => ⟨rfl, rfl⟩⟩, trivial⟩
      · have e4 : ¬ 0 < room := e4
        refine ⟨_, _, n', f', rfl, .inr ⟨2001, i', c', b', N', _, rfl, rfl, hN', F', fun _ _ => rfl, hF'⟩, hn', ?_⟩
        (refine (?_ : br _ _ _); refine br_both (fun e5 => ?_) (fun e5 => ?_))
        rotate_left
        · rw [wn] at e5
          have e5 : hasB n' f' (lo - 1) = true := by simpa using e5
          have hc1 : cst (hasB n' f') (lo - 1) = 1 := by unfold cst; rw [if_pos e5]
          have st : stopB (hasB n f) (hasB n' f') most true lo (hi - lo + 1) room = true := by unfold stopB; rw [nxq, show decide (room < cst (hasB n' f') (lo - 1)) = true from decide_eq_true (by omega)]; simp
          rw [ext_stop st] at hx
          (rw [hres, ← ht0, ← hx]; exact outT rfl wc rfl)
        rw [wn] at e5
        have e5 : hasB n' f' (lo - 1) = false := by simpa using e5
        have hc1 : cst (hasB n' f') (lo - 1) = 0 := by unfold cst; rw [if_neg (by rw [e5]; decide)]
        have st : stopB (hasB n f) (hasB n' f') most true lo (hi - lo + 1) room = false := by unfold stopB; rw [nxq, hib, e3, show decide (hi - lo + 1 = most) = false from decide_eq_false (by omega), show decide (room < cst (hasB n' f') (lo - 1)) = false from decide_eq_false (by omega)]; rfl
        have hm1 : m - k = m - (k + 1) + 1 := by omega
        rw [hm1, ext_step st, nxq] at hx
        refine ⟨_, _, n', f', rfl, .inr ⟨2001, i', c', b', N', _, rfl, rfl, hN', F', fun _ _ => rfl, hF'⟩, hn', ?_⟩
        (refine (?_ : br _ _ _); refine br_both (fun e6 => ?_) (fun e6 => ?_))
        · have e6 : hasB n' f' (IntKind.i64.wrap (lo - 1)) = true := e6
          rw [wn] at e6
          have hc1 : cst (hasB n' f') (lo - 1) = 1 := by unfold cst; rw [if_pos e6]
          have ws : IntKind.i64.wrap (room - 1) = room - 1 := by simp [IntKind.wrap_i64]; omega
          have wx := wn
          have wy := wn
          rw [hc1] at hx
          refine ⟨m - (k + 1), _, _, by omega, ⟨k + 1, lo - 1, hi, room - 1, rfl, by omega, ⟨by omega, by omega, by omega, by omega, by omega, by omega⟩, ?_, rfl, rfl⟩, tau [], rfl, ?_, ?_⟩
          · rw [← hx]
            congr 2
            simp only [low, Prod.mk.injEq, and_true, true_and]
            omega
          · exact (by repeat' (first | exact rfl | exact trivial | exact ws | exact wx | exact wy | refine ⟨?_, ?_⟩))
          · exact ⟨⟨rfl, rfl, rfl, rfl, fun i c hi hc => box i c hi hc⟩, ⟨rfl, rfl, rfl, fun i c hi hc => ⟨rfl, rfl⟩⟩, ⟨rfl, rfl, rfl, fun i c hi hc => ⟨rfl, rfl⟩⟩, trivial⟩
        · have e6 : hasB n' f' (IntKind.i64.wrap (lo - 1)) = false := e6
          rw [wn] at e6
          have hc1 : cst (hasB n' f') (lo - 1) = 0 := by unfold cst; rw [if_neg (by rw [e6]; decide)]
          have ws := wn
          have wx := wn
          have wy := wn
          rw [hc1] at hx
          refine ⟨m - (k + 1), _, _, by omega, ⟨k + 1, lo - 1, hi, room, rfl, by omega, ⟨by omega, by omega, by omega, by omega, by omega, by omega⟩, ?_, rfl, rfl⟩, tau [], rfl, ?_, ?_⟩
          · rw [← hx]
            congr 2
            simp only [low, Prod.mk.injEq, and_true, true_and]
            omega
          · exact (by repeat' (first | exact rfl | exact trivial | exact ws | exact wx | exact wy | refine ⟨?_, ?_⟩))
          · exact ⟨⟨rfl, rfl, rfl, rfl, fun i c hi hc => box i c hi hc⟩, ⟨rfl, rfl, rfl, fun i c hi hc => ⟨rfl, rfl⟩⟩, ⟨rfl, rfl, rfl, fun i c hi hc => ⟨rfl, rfl⟩⟩, trivial⟩
    rw [wn] at e3
    have c01 := cst_01 (hasB n' f') (hi + 1)
    (refine (?_ : br _ _ _); refine br_dec (fun e4 => ?_) (fun e4 => ?_))
    · have e4 : 0 < room := e4
      have st : stopB (hasB n f) (hasB n' f') most false lo (hi - lo + 1) room = false := by unfold stopB; rw [nxq, hib, e3, show decide (hi - lo + 1 = most) = false from decide_eq_false (by omega), show decide (room < cst (hasB n' f') (hi + 1)) = false from decide_eq_false (by omega)]; rfl
      have hm1 : m - k = m - (k + 1) + 1 := by omega
      rw [hm1, ext_step st, nxq] at hx
      refine ⟨_, _, n', f', rfl, .inr ⟨2001, i', c', b', N', _, rfl, rfl, hN', F', fun _ _ => rfl, hF'⟩, hn', ?_⟩
      (refine (?_ : br _ _ _); refine br_both (fun e6 => ?_) (fun e6 => ?_))
      · have e6 : hasB n' f' (IntKind.i64.wrap (hi + 1)) = true := e6
        rw [wn] at e6
        have hc1 : cst (hasB n' f') (hi + 1) = 1 := by unfold cst; rw [if_pos e6]
        have ws : IntKind.i64.wrap (room - 1) = room - 1 := by simp [IntKind.wrap_i64]; omega
        have wx := wn
        have wy := wn
        rw [hc1] at hx
        refine ⟨m - (k + 1), _, _, by omega, ⟨k + 1, lo, hi + 1, room - 1, rfl, by omega, ⟨by omega, by omega, by omega, by omega, by omega, by omega⟩, ?_, rfl, rfl⟩, tau [], rfl, ?_, ?_⟩
        · rw [← hx]
          congr 2
          simp only [low, Prod.mk.injEq, and_true, true_and]
          omega
        · exact (by repeat' (first | exact rfl | exact trivial | exact ws | exact wx | exact wy | refine ⟨?_, ?_⟩))
        · exact ⟨⟨rfl, rfl, rfl, rfl, fun i c hi hc => box i c hi hc⟩, ⟨rfl, rfl, rfl, fun i c hi hc => ⟨rfl, rfl⟩⟩, ⟨rfl, rfl, rfl, fun i c hi hc => ⟨rfl, rfl⟩⟩, trivial⟩
      · have e6 : hasB n' f' (IntKind.i64.wrap (hi + 1)) = false := e6
        rw [wn] at e6
        have hc1 : cst (hasB n' f') (hi + 1) = 0 := by unfold cst; rw [if_neg (by rw [e6]; decide)]
        have ws := wn
        have wx := wn
        have wy := wn
        rw [hc1] at hx
        refine ⟨m - (k + 1), _, _, by omega, ⟨k + 1, lo, hi + 1, room, rfl, by omega, ⟨by omega, by omega, by omega, by omega, by omega, by omega⟩, ?_, rfl, rfl⟩, tau [], rfl, ?_, ?_⟩
        · rw [← hx]
          congr 2
          simp only [low, Prod.mk.injEq, and_true, true_and]
          omega
        · exact (by repeat' (first | exact rfl | exact trivial | exact ws | exact wx | exact wy | refine ⟨?_, ?_⟩))
        · exact ⟨⟨rfl, rfl, rfl, rfl, fun i c hi hc => box i c hi hc⟩, ⟨rfl, rfl, rfl, fun i c hi hc => ⟨rfl, rfl⟩⟩, ⟨rfl, rfl, rfl, fun i c hi hc => ⟨rfl, rfl⟩⟩, trivial⟩
    · have e4 : ¬ 0 < room := e4
      refine ⟨_, _, n', f', rfl, .inr ⟨2001, i', c', b', N', _, rfl, rfl, hN', F', fun _ _ => rfl, hF'⟩, hn', ?_⟩
      (refine (?_ : br _ _ _); refine br_both (fun e5 => ?_) (fun e5 => ?_))
      rotate_left
      · rw [wn] at e5
        have e5 : hasB n' f' (hi + 1) = true := by simpa using e5
        have hc1 : cst (hasB n' f') (hi + 1) = 1 := by unfold cst; rw [if_pos e5]
        have st : stopB (hasB n f) (hasB n' f') most false lo (hi - lo + 1) room = true := by unfold stopB; rw [nxq, show decide (room < cst (hasB n' f') (hi + 1)) = true from decide_eq_true (by omega)]; simp
        rw [ext_stop st] at hx
        obtain ⟨t2, ht2⟩ : ∃ t2, ext (hasB n f) (hasB n' f') most true (m - 0) (lo, hi - lo + 1, room) = t2 := ⟨_, rfl⟩
        have ht0 : t2 = fin := by rw [← ht2]; exact (congrArg (ext (hasB n f) (hasB n' f') most true m) hx).trans hfin0
        have ws : True := trivial
        have wx : True := trivial
        have wy : True := trivial
        refine W_loop (fun r σ h => ∃ (k : Nat) (lo hi room : Int), r = m - k ∧ (k : Int) + 1 ≤ hi - lo + 1 ∧ (0 ≤ lo ∧ lo ≤ hi ∧ hi ≤ 255 ∧ hi - lo + 1 ≤ most ∧ 0 ≤ room ∧ room ≤ 9223372036854775807) ∧ ext (hasB n f) (hasB n' f') most true (m - k) (lo, hi - lo + 1, room) = t2 ∧ σ = [(0, .slice 2000 i n c), (1, .slice 2001 i' n' c'), (3, .int .i64 most), (4, .int .i64 room), (10, .ptr 0 0 0), (12, .int .i64 lo), (13, .int .i64 hi)] ∧ h = [(0, .blk b0 1 2 (gOf 2 [.int .i64 0, .int .i64 0]) 27), (2000, .ro b N 1 (g1 .i64 F)), (2001, .ro b' N' 1 (g1 .i64 F'))]) m ⟨0, lo, hi, room, rfl, by omega, ok, ht2, rfl, rfl⟩ (tau []) ⟨rfl, ?_, ?_⟩ 60 ?_
        · exact (by repeat' (first | exact rfl | exact trivial | exact ws | exact wx | exact wy | refine ⟨?_, ?_⟩))
        · exact ⟨⟨rfl, rfl, rfl, rfl, fun i c hi hc => box i c hi hc⟩, ⟨rfl, rfl, rfl, fun i c hi hc => ⟨rfl, rfl⟩⟩, ⟨rfl, rfl, rfl, fun i c hi hc => ⟨rfl, rfl⟩⟩, trivial⟩
        rintro r2 σ2 h2 ⟨k, lo, hi, room, rfl, hk, ok, hx, rfl, rfl⟩
        obtain ⟨o1, o2, o3, o4, o5, o6⟩ := ok
        have ok : 0 ≤ lo ∧ lo ≤ hi ∧ hi ≤ 255 ∧ hi - lo + 1 ≤ most ∧ 0 ≤ room ∧ room ≤ 9223372036854775807 := ⟨o1, o2, o3, o4, o5, o6⟩
        have wn : IntKind.i64.wrap (lo - 1) = lo - 1 := by simp [IntKind.wrap_i64]; omega
        have wc : IntKind.i64.wrap (IntKind.i64.wrap (hi - lo) + 1) = hi - lo + 1 := by simp [IntKind.wrap_i64]; omega
        have nxq : nxt true lo (hi - lo + 1) = lo - 1 := by first | rfl | (simp only [nxt]; omega)
        refine vc_sound (mkE hcx T_ok spq) 300 _ _ _ 60 ?_
        (refine (?_ : br _ _ _); refine br_dec (fun e1 => ?_) (fun e1 => ?_))
        rotate_left
        · rw [wc] at e1
          have st : stopB (hasB n f) (hasB n' f') most true lo (hi - lo + 1) room = true := by unfold stopB; rw [show decide (hi - lo + 1 = most) = true from decide_eq_true (by omega)]; rfl
          rw [ext_stop st] at hx
          (rw [hres, ← ht0, ← hx]; exact outT rfl wc rfl)
        rw [wc] at e1
        (refine (?_ : br _ _ _); refine br_dec (fun e2 => ?_) (fun e2 => ?_))
        rotate_left
        · have e2 : ¬ 0 < lo := e2
          have hib : isB (lo - 1) = false := by unfold isB; rw [Bool.eq_false_iff]; intro q; simp at q; omega
          have st : stopB (hasB n f) (hasB n' f') most true lo (hi - lo + 1) room = true := by unfold stopB; rw [nxq, hib]; simp
          rw [ext_stop st] at hx
          (rw [hres, ← ht0, ← hx]; exact outT rfl wc rfl)
        have e2 : 0 < lo := e2
        have hib : isB (lo - 1) = true := by unfold isB; simp <;> omega
        refine ⟨_, _, n, f, rfl, .inr ⟨2000, i, c, b, N, _, rfl, rfl, hN, F, fun _ _ => rfl, hF⟩, hn, ?_⟩
        (refine (?_ : br _ _ _); refine br_both (fun e3 => ?_) (fun e3 => ?_))
        rotate_left
        · rw [wn] at e3
          have st : stopB (hasB n f) (hasB n' f') most true lo (hi - lo + 1) room = true := by unfold stopB; rw [nxq, e3]; simp
          rw [ext_stop st] at hx
          (rw [hres, ← ht0, ← hx]; exact outT rfl wc rfl)
        rw [wn] at e3
        have c01 := cst_01 (hasB n' f') (lo - 1)
        (refine (?_ : br _ _ _); refine br_dec (fun e4 => ?_) (fun e4 => ?_))
        · have e4 : 0 < room := e4
          have st : stopB (hasB n f) (hasB n' f') most true lo (hi - lo + 1) room = false := by unfold stopB; rw [nxq, hib, e3, show decide (hi - lo + 1 = most) = false from decide_eq_false (by omega), show decide (room < cst (hasB n' f') (lo - 1)) = false from decide_eq_false (by omega)]; rfl
          have hm1 : m - k = m - (k + 1) + 1 := by omega
          rw [hm1, ext_step st, nxq] at hx
          refine ⟨_, _, n', f', rfl, .inr ⟨2001, i', c', b', N', _, rfl, rfl, hN', F', fun _ _ => rfl, hF'⟩, hn', ?_⟩
          (refine (?_ : br _ _ _); refine br_both (fun e6 => ?_) (fun e6 => ?_))
          · have e6 : hasB n' f' (IntKind.i64.wrap (lo - 1)) = true := e6
            rw [wn] at e6
            have hc1 : cst (hasB n' f') (lo - 1) = 1 := by unfold cst; rw [if_pos e6]
            have ws : IntKind.i64.wrap (room - 1) = room - 1 := by simp [IntKind.wrap_i64]; omega
            have wx := wn
            have wy := wn
            rw [hc1] at hx
            refine ⟨m - (k + 1), _, _, by omega, ⟨k + 1, lo - 1, hi, room - 1, rfl, by omega, ⟨by omega, by omega, by omega, by omega, by omega, by omega⟩, ?_, rfl, rfl⟩, tau [], rfl, ?_, ?_⟩
            · rw [← hx]
              congr 2
              simp only [low, Prod.mk.injEq, and_true, true_and]
              omega
            · exact (by repeat' (first | exact rfl | exact trivial | exact ws | exact wx | exact wy | refine ⟨?_, ?_⟩))
            · exact ⟨⟨rfl, rfl, rfl, rfl, fun i c hi hc => box i c hi hc⟩, ⟨rfl, rfl, rfl, fun i c hi hc => ⟨rfl, rfl⟩⟩, ⟨rfl, rfl, rfl, fun i c hi hc => ⟨rfl, rfl⟩⟩, trivial⟩
          · have e6 : hasB n' f' (IntKind.i64.wrap (lo - 1)) = false := e6
            rw [wn] at e6
            have hc1 : cst (hasB n' f') (lo - 1) = 0 := by unfold cst; rw [if_neg (by rw [e6]; decide)]
            have ws := wn
            have wx := wn
            have wy := wn
            rw [hc1] at hx
            refine ⟨m - (k + 1), _, _, by omega, ⟨k + 1, lo - 1, hi, room, rfl, by omega, ⟨by omega, by omega, by omega, by omega, by omega, by omega⟩, ?_, rfl, rfl⟩, tau [], rfl, ?_, ?_⟩
            · rw [← hx]
              congr 2
              simp only [low, Prod.mk.injEq, and_true, true_and]
              omega
            · exact (by repeat' (first | exact rfl | exact trivial | exact ws | exact wx | exact wy | refine ⟨?_, ?_⟩))
            · exact ⟨⟨rfl, rfl, rfl, rfl, fun i c hi hc => box i c hi hc⟩, ⟨rfl, rfl, rfl, fun i c hi hc => ⟨rfl, rfl⟩⟩, ⟨rfl, rfl, rfl, fun i c hi hc => ⟨rfl, rfl⟩⟩, trivial⟩
        · have e4 : ¬ 0 < room := e4
          refine ⟨_, _, n', f', rfl, .inr ⟨2001, i', c', b', N', _, rfl, rfl, hN', F', fun _ _ => rfl, hF'⟩, hn', ?_⟩
          (refine (?_ : br _ _ _); refine br_both (fun e5 => ?_) (fun e5 => ?_))
          rotate_left
          · rw [wn] at e5
            have e5 : hasB n' f' (lo - 1) = true := by simpa using e5
            have hc1 : cst (hasB n' f') (lo - 1) = 1 := by unfold cst; rw [if_pos e5]
            have st : stopB (hasB n f) (hasB n' f') most true lo (hi - lo + 1) room = true := by unfold stopB; rw [nxq, show decide (room < cst (hasB n' f') (lo - 1)) = true from decide_eq_true (by omega)]; simp
            rw [ext_stop st] at hx
            (rw [hres, ← ht0, ← hx]; exact outT rfl wc rfl)
          rw [wn] at e5
          have e5 : hasB n' f' (lo - 1) = false := by simpa using e5
          have hc1 : cst (hasB n' f') (lo - 1) = 0 := by unfold cst; rw [if_neg (by rw [e5]; decide)]
          have st : stopB (hasB n f) (hasB n' f') most true lo (hi - lo + 1) room = false := by unfold stopB; rw [nxq, hib, e3, show decide (hi - lo + 1 = most) = false from decide_eq_false (by omega), show decide (room < cst (hasB n' f') (lo - 1)) = false from decide_eq_false (by omega)]; rfl
          have hm1 : m - k = m - (k + 1) + 1 := by omega
          rw [hm1, ext_step st, nxq] at hx
          refine ⟨_, _, n', f', rfl, .inr ⟨2001, i', c', b', N', _, rfl, rfl, hN', F', fun _ _ => rfl, hF'⟩, hn', ?_⟩
          (refine (?_ : br _ _ _); refine br_both (fun e6 => ?_) (fun e6 => ?_))
          · have e6 : hasB n' f' (IntKind.i64.wrap (lo - 1)) = true := e6
            rw [wn] at e6
            have hc1 : cst (hasB n' f') (lo - 1) = 1 := by unfold cst; rw [if_pos e6]
            have ws : IntKind.i64.wrap (room - 1) = room - 1 := by simp [IntKind.wrap_i64]; omega
            have wx := wn
            have wy := wn
            rw [hc1] at hx
            refine ⟨m - (k + 1), _, _, by omega, ⟨k + 1, lo - 1, hi, room - 1, rfl, by omega, ⟨by omega, by omega, by omega, by omega, by omega, by omega⟩, ?_, rfl, rfl⟩, tau [], rfl, ?_, ?_⟩
            · rw [← hx]
              congr 2
              simp only [low, Prod.mk.injEq, and_true, true_and]
              omega
            · exact (by repeat' (first | exact rfl | exact trivial | exact ws | exact wx | exact wy | refine ⟨?_, ?_⟩))
            · exact ⟨⟨rfl, rfl, rfl, rfl, fun i c hi hc => box i c hi hc⟩, ⟨rfl, rfl, rfl, fun i c hi hc => ⟨rfl, rfl⟩⟩, ⟨rfl, rfl, rfl, fun i c hi hc => ⟨rfl, rfl⟩⟩, trivial⟩
          · have e6 : hasB n' f' (IntKind.i64.wrap (lo - 1)) = false := e6
            rw [wn] at e6
            have hc1 : cst (hasB n' f') (lo - 1) = 0 := by unfold cst; rw [if_neg (by rw [e6]; decide)]
            have ws := wn
            have wx := wn
            have wy := wn
            rw [hc1] at hx
            refine ⟨m - (k + 1), _, _, by omega, ⟨k + 1, lo - 1, hi, room, rfl, by omega, ⟨by omega, by omega, by omega, by omega, by omega, by omega⟩, ?_, rfl, rfl⟩, tau [], rfl, ?_, ?_⟩
            · rw [← hx]
              congr 2
              simp only [low, Prod.mk.injEq, and_true, true_and]
              omega
            · exact (by repeat' (first | exact rfl | exact trivial | exact ws | exact wx | exact wy | refine ⟨?_, ?_⟩))
            · exact ⟨⟨rfl, rfl, rfl, rfl, fun i c hi hc => box i c hi hc⟩, ⟨rfl, rfl, rfl, fun i c hi hc => ⟨rfl, rfl⟩⟩, ⟨rfl, rfl, rfl, fun i c hi hc => ⟨rfl, rfl⟩⟩, trivial⟩
      rw [wn] at e5
      have e5 : hasB n' f' (hi + 1) = false := by simpa using e5
      have hc1 : cst (hasB n' f') (hi + 1) = 0 := by unfold cst; rw [if_neg (by rw [e5]; decide)]
      have st : stopB (hasB n f) (hasB n' f') most false lo (hi - lo + 1) room = false := by unfold stopB; rw [nxq, hib, e3, show decide (hi - lo + 1 = most) = false from decide_eq_false (by omega), show decide (room < cst (hasB n' f') (hi + 1)) = false from decide_eq_false (by omega)]; rfl
      have hm1 : m - k = m - (k + 1) + 1 := by omega
      rw [hm1, ext_step st, nxq] at hx
      refine ⟨_, _, n', f', rfl, .inr ⟨2001, i', c', b', N', _, rfl, rfl, hN', F', fun _ _ => rfl, hF'⟩, hn', ?_⟩
      (refine (?_ : br _ _ _); refine br_both (fun e6 => ?_) (fun e6 => ?_))
      · have e6 : hasB n' f' (IntKind.i64.wrap (hi + 1)) = true := e6
        rw [wn] at e6
        have hc1 : cst (hasB n' f') (hi + 1) = 1 := by unfold cst; rw [if_pos e6]
        have ws : IntKind.i64.wrap (room - 1) = room - 1 := by simp [IntKind.wrap_i64]; omega
        have wx := wn
        have wy := wn
        rw [hc1] at hx
        refine ⟨m - (k + 1), _, _, by omega, ⟨k + 1, lo, hi + 1, room - 1, rfl, by omega, ⟨by omega, by omega, by omega, by omega, by omega, by omega⟩, ?_, rfl, rfl⟩, tau [], rfl, ?_, ?_⟩
        · rw [← hx]
          congr 2
          simp only [low, Prod.mk.injEq, and_true, true_and]
          omega
        · exact (by repeat' (first | exact rfl | exact trivial | exact ws | exact wx | exact wy | refine ⟨?_, ?_⟩))
        · exact ⟨⟨rfl, rfl, rfl, rfl, fun i c hi hc => box i c hi hc⟩, ⟨rfl, rfl, rfl, fun i c hi hc => ⟨rfl, rfl⟩⟩, ⟨rfl, rfl, rfl, fun i c hi hc => ⟨rfl, rfl⟩⟩, trivial⟩
      · have e6 : hasB n' f' (IntKind.i64.wrap (hi + 1)) = false := e6
        rw [wn] at e6
        have hc1 : cst (hasB n' f') (hi + 1) = 0 := by unfold cst; rw [if_neg (by rw [e6]; decide)]
        have ws := wn
        have wx := wn
        have wy := wn
        rw [hc1] at hx
        refine ⟨m - (k + 1), _, _, by omega, ⟨k + 1, lo, hi + 1, room, rfl, by omega, ⟨by omega, by omega, by omega, by omega, by omega, by omega⟩, ?_, rfl, rfl⟩, tau [], rfl, ?_, ?_⟩
        · rw [← hx]
          congr 2
          simp only [low, Prod.mk.injEq, and_true, true_and]
          omega
        · exact (by repeat' (first | exact rfl | exact trivial | exact ws | exact wx | exact wy | refine ⟨?_, ?_⟩))
        · exact ⟨⟨rfl, rfl, rfl, rfl, fun i c hi hc => box i c hi hc⟩, ⟨rfl, rfl, rfl, fun i c hi hc => ⟨rfl, rfl⟩⟩, ⟨rfl, rfl, rfl, fun i c hi hc => ⟨rfl, rfl⟩⟩, trivial⟩

end Go.Proofs.Ytfmnebdfanaafaa.Sx
