import Derived.Test.YtdjekplkejkgdaaSxCl
import Derived.Test.YtdjekplkejkgdaaSxG7
/-
  One step on both shelves, told as the other functions are.
-/
namespace Go.Proofs.Ytdjekplkejkgdaa.Sx
open Go Go.Proofs
set_option maxRecDepth 100000
set_option linter.unusedSimpArgs false
set_option linter.unusedVariables false

theorem nd6 {a b c d e f : Nat} (h : nodupB [a, b, c, d, e, f] = true) : (a ≠ b ∧ a ≠ c ∧ a ≠ d ∧ a ≠ e ∧ a ≠ f) ∧ (b ≠ c ∧ b ≠ d ∧ b ≠ e ∧ b ≠ f) ∧ (c ≠ d ∧ c ≠ e ∧ c ≠ f) ∧ (d ≠ e ∧ d ≠ f) ∧ e ≠ f := by
  have := nodupB_iff h
  simp only [List.nodup_cons, List.mem_cons, List.not_mem_nil, or_false, not_or] at this
  obtain ⟨h1, h2, h3, h4, h5, _⟩ := this
  exact ⟨h1, h2, h3, h4, h5⟩

theorem inj6 {w0 w1 s0 s1 : Nat} (h0 : w0 = 5000 ∨ (w0 = s0 ∧ s0 < 2000 ∧ s0 ≠ 1 ∧ s0 ≠ 2)) (h1 : w1 = 5001 ∨ (w1 = s1 ∧ s1 < 2000 ∧ s1 ≠ 1 ∧ s1 ≠ 2)) (h : s0 ≠ s1) :
    w0 ≠ 1 ∧ w0 ≠ 2 ∧ w0 ≠ 2000 ∧ w0 ≠ 2003 ∧ w1 ≠ 1 ∧ w1 ≠ 2 ∧ w1 ≠ 2000 ∧ w1 ≠ 2003 ∧ w0 ≠ w1 := by omega
def sStep : Spec := fun args h nx K => ∃ (s : Sh) (tS tA bS bA : Nat) (gs ga : Nat → Nat → V) (ms : Md) (tR t0 t1 tH bR bH : Nat) (e0 e1 : Ent) (c0 c1 : Nat) (g gh : Nat → Nat → V) (mr : Md) (kd L k : Int),
  args = [.ptr tS 0 0, .ptr tR 0 0, .agg [.int .i64 kd, .int .i64 L, .int .i64 k]] ∧ Inv s ms ms.n ∧ Ok mr ∧ fd tS h = .blk bS 1 8 gs 61 ∧ fd tA h = .blk bA s.N 5 ga 63 ∧ cells tA s gs ga ∧ RefA h (.ptr tR 0 0) mr tR t0 t1 tH bR bH e0 e1 c0 c1 g gh ∧ nodupB [tS, tA, tR, t0, t1, tH] = true ∧ fd nx h = .gone ∧ fd (nx + 1) h = .gone ∧
  ∀ s' t0' E0 c0' t1' E1 c1', s'.N = s.N → Inv s' (ms.step kd L k) (ms.step kd L k).n → NewL nx E0 t0 t0' e0 (cI ((mr.step kd L k).L 0)) c0' → NewL (nx + 1) E1 t1 t1' e1 (cI ((mr.step kd L k).L 1)) c1' →
    K (.ret (.bool (ms.stepC kd L k == mr.stepC kd L k))) ((tS, .blk bS 1 8 (gS tA s'.N s'.bot s'.E) 61) :: (tA, .blk bA s.N 5 (gA s'.u s'.d s'.l s'.lo s'.he) 63) :: (tR, .blk bR 1 5 (gF (mr.step kd L k).n (mr.step kd L k).b t0' ((mr.step kd L k).L 0).length c0' t1' ((mr.step kd L k).L 1).length c1' tH) 66) :: (tH, .blk bH (mr.step kd L k).n 1 (gb (mr.step kd L k).H) 4) :: (nx, E0) :: (nx + 1, E1) :: h) (nx + 2)

set_option maxHeartbeats 2000000 in
theorem sStep_ok : SpecOK Try.prog 12 sStep := by
  refine specOK_gen (fn := Try.f12) rfl rfl rfl T_ok (SP := SPS) sps _ ?_
  rintro args h nx K ⟨s, tS, tA, bS, bA, gs, ga, ms, tR, t0, t1, tH, bR, bH, e0, e1, c0, c1, g, gh, m, kd, L, k, rfl, hi, hok, eS', eA', ⟨hc1, hc2⟩, hA, hnd, g0, g1, hk⟩
  obtain ⟨⟨a1, a2, a3, a4, a5⟩, ⟨b1, b2, b3, b4⟩, ⟨d1, d2, d3⟩, ⟨d4, d5⟩, d6⟩ := nd6 hnd
  have hl0 := hA.l0
  have hl1 := hA.l1
  obtain ⟨hn, hbb⟩ := step_nb (m := m) (kd := kd) (L := L) (k := k)
  generalize hm' : m.step kd L k = m' at hk hn hbb
  generalize hms : ms.step kd L k = ms' at hk
  refine ⟨tau [(1, tS), (2, tA), (2000, tR), (2001, t0), (2002, t1), (2003, tH)], HS2 bS bA s bR bH e0 e1 c0 c1 m, [.ptr 1 0 0, .ptr 2000 0 0, .agg [.int .i64 kd, .int .i64 L, .int .i64 k]], hnd, ?_, ⟨⟨⟨rfl, trivial⟩, rfl, rfl⟩, ⟨⟨rfl, trivial⟩, rfl, rfl⟩, ⟨⟨rfl, rfl⟩, ⟨rfl, rfl⟩, ⟨rfl, rfl⟩, trivial⟩, trivial⟩, by simp [Try.f12], fun o h1 => o = .ret (.bool (ms.stepC kd L k == m.stepC kd L k)) ∧ StepOut h1 bS bA s ms' bR bH e0 e1 c0 c1 m m', ?_, fun c hc => ?_⟩
  · intro q hq
    simp only [List.mem_cons, List.not_mem_nil, or_false] at hq
    rcases hq with rfl | rfl | rfl | rfl | rfl | rfl
    · left
      show wkE _ _ (fd tS h) _
      rw [eS']
      refine ⟨rfl, rfl, rfl, rfl, fun i c hi hc => ?_⟩
      obtain rfl : i = 0 := by omega
      rw [hc1 c hc]
      exact gS_rn ⟨rfl, trivial⟩
    · left
      show wkE _ _ (fd tA h) _
      rw [eA']
      refine ⟨rfl, rfl, rfl, rfl, fun i c hi hc => ?_⟩
      rw [hc2 i c hi hc]
      exact gA_rn hc
    · left
      show wkE _ _ (fd tR h) _
      rw [hA.R]
      refine ⟨rfl, rfl, rfl, rfl, fun i c hi hc => ?_⟩
      obtain rfl : i = 0 := by omega
      rw [hA.g c hc]
      exact gF_rn ⟨rfl, hl0.ro_live⟩ ⟨rfl, hl1.ro_live⟩ ⟨rfl, trivial⟩ hc
    · right
      show wkE _ _ (fd t0 (roH h)) _
      rw [fd_roH, orRo hA.r0]
      exact hl0.ro_wk _ _
    · right
      show wkE _ _ (fd t1 (roH h)) _
      rw [fd_roH, orRo hA.r1]
      exact hl1.ro_wk _ _
    · left
      show wkE _ _ (fd tH h) _
      rw [hA.H]
      refine ⟨rfl, rfl, rfl, rfl, fun i c hi hc => ?_⟩
      obtain rfl : c = 0 := by omega
      rw [hA.gh i hi]
      exact rfl
  rotate_left
  · obtain ⟨cd, q1, q2⟩ := step_walk hc hi hok hl0 hl1 (bS := bS) (bA := bA) (bR := bR) (bH := bH) kd L k
    cases q1
    rw [hm', hms] at q2
    exact q2
  · rintro o h1 ⟨rfl, ⟨s', hN, hi', z1, z2⟩, g2, gh2, s0, c0', s1, c1', f1, f2, f3, f4, o0, o1, hs⟩
    have pick : ∀ (u : Nat) (t s nx' : Nat) (e : Ent) (l' : List Nat) (c' : Nat), OutL h1 s e l' c' → fd nx' h = .gone → ∃ E t' w, NewL nx' E t t' e (cI l') c' ∧ ((t' = t ∧ E = .gone ∧ fd s h1 = e.toRo ∧ w = u) ∨ (t' = nx' ∧ w = s ∧ s < 2000 ∧ (s ≠ 1 ∧ s ≠ 2) ∧ E = fd s h1 ∧ ∃ b g ty, E = .blk b c' 1 g ty ∧ cellsL g (cI l') c')) := by
      intro u t s3 nx' e l' c' q4 q5
      rcases q4 with ⟨z, q2⟩ | ⟨hlt, b, gg, ty, r1, r2, r3, r4⟩
      · exact ⟨.gone, t, u, .inl ⟨rfl, rfl, q2⟩, .inl ⟨rfl, rfl, z, rfl⟩⟩
      · refine ⟨fd s3 h1, nx', s3, .inr ⟨rfl, b, gg, ty, r1, r2, r3, r4⟩, .inr ⟨rfl, rfl, hlt, ⟨?_, ?_⟩, rfl, b, gg, ty, r1, r4⟩⟩
        · rintro rfl; rw [z1] at r1; cases r1
        · rintro rfl; rw [z2] at r1; cases r1
    obtain ⟨E0, t0', w0, n0, p0⟩ := pick 5000 t0 s0 nx e0 _ c0' o0 g0
    obtain ⟨E1, t1', w1, n1, p1⟩ := pick 5001 t1 s1 (nx + 1) e1 _ c1' o1 g1
    have hne : ∀ {t e}, fd t h = e → e.here → t ≠ nx ∧ t ≠ nx + 1 := fun {t e} q1 q2 => ⟨by rintro rfl; rw [g0] at q1; subst q1; exact q2, by rintro rfl; rw [g1] at q1; subst q1; exact q2⟩
    have xtS := hne eS' trivial
    have xtA := hne eA' trivial
    have xtR := hne hA.R trivial
    have xtH := hne hA.H trivial
    have here2 : ∀ {x e : Ent} {l c}, (x = e ∨ x = e.toRo) → lstE e l c → x.here := fun q1 q2 => by rcases q1 with rfl | rfl; exact lst_live q2; exact q2.ro_live
    have xt0 := hne rfl (here2 hA.r0 hl0)
    have xt1 := hne rfl (here2 hA.r1 hl1)
    let G2 : Hp := [(tS, .blk bS 1 8 (gS tA s'.N s'.bot s'.E) 61), (tA, .blk bA s.N 5 (gA s'.u s'.d s'.l s'.lo s'.he) 63), (tR, .blk bR 1 5 (gF m'.n m'.b t0' (m'.L 0).length c0' t1' (m'.L 1).length c1' tH) 66), (tH, .blk bH m'.n 1 (gb m'.H) 4), (nx, E0), (nx + 1, E1)]
    have hfd : ∀ t, fd t (G2 ++ h) = if t = tS then .blk bS 1 8 (gS tA s'.N s'.bot s'.E) 61 else if t = tA then .blk bA s.N 5 (gA s'.u s'.d s'.l s'.lo s'.he) 63 else if t = tR then .blk bR 1 5 (gF m'.n m'.b t0' (m'.L 0).length c0' t1' (m'.L 1).length c1' tH) 66 else if t = tH then .blk bH m'.n 1 (gb m'.H) 4 else if t = nx then E0 else if t = (nx + 1) then E1 else fd t h := fun t => by
      show fd t ((tS, _) :: (tA, _) :: (tR, _) :: (tH, _) :: (nx, _) :: (nx + 1, _) :: h) = _
      rw [fd_cons, fd_cons, fd_cons, fd_cons, fd_cons, fd_cons]
    have hfd2 : ∀ t, fd t G2 = if t = tS then .blk bS 1 8 (gS tA s'.N s'.bot s'.E) 61 else if t = tA then .blk bA s.N 5 (gA s'.u s'.d s'.l s'.lo s'.he) 63 else if t = tR then .blk bR 1 5 (gF m'.n m'.b t0' (m'.L 0).length c0' t1' (m'.L 1).length c1' tH) 66 else if t = tH then .blk bH m'.n 1 (gb m'.H) 4 else if t = nx then E0 else if t = (nx + 1) then E1 else .gone := fun t => by
      show fd t ((tS, _) :: (tA, _) :: (tR, _) :: (tH, _) :: (nx, _) :: (nx + 1, _) :: []) = _
      rw [fd_cons, fd_cons, fd_cons, fd_cons, fd_cons, fd_cons]; rfl
    have hτ : ∀ t, tau [(tS, 1), (tA, 2), (tR, 2000), (tH, 2003), (nx, w0), (nx + 1, w1)] t = if t = tS then 1 else if t = tA then 2 else if t = tR then 2000 else if t = tH then 2003 else if t = nx then w0 else if t = (nx + 1) then w1 else t := fun t => by
      have one : ∀ (a b : Nat) (r : List (Nat × Nat)), tau ((a, b) :: r) t = if t = a then b else tau r t := fun a b r => by
        by_cases q : t = a
        · subst q; simp [tau]
        · simp [tau, beq_ne q, q]
      rw [one, one, one, one, one, one]; rfl
    have r0 : (fd t0' (G2 ++ h)).rf = (fd s0 h1).rf := by
      rw [hfd]
      rcases p0 with ⟨rfl, _, f5, _⟩ | ⟨rfl, _, _, _, rfl, _⟩
      · rw [if_neg (Ne.symm a3), if_neg (Ne.symm b2), if_neg (Ne.symm d1), if_neg d5, if_neg xt0.1, if_neg xt0.2, orRf hA.r0, f5, Ent.toRo_rf]
      · rw [if_neg (Ne.symm xtS.1), if_neg (Ne.symm xtA.1), if_neg (Ne.symm xtR.1), if_neg (Ne.symm xtH.1), if_pos rfl]
    have r1 : (fd t1' (G2 ++ h)).rf = (fd s1 h1).rf := by
      rw [hfd]
      rcases p1 with ⟨rfl, _, f6, _⟩ | ⟨rfl, _, _, _, rfl, _⟩
      · rw [if_neg (Ne.symm a4), if_neg (Ne.symm b3), if_neg (Ne.symm d2), if_neg d6, if_neg xt1.1, if_neg xt1.2, orRf hA.r1, f6, Ent.toRo_rf]
      · rw [if_neg (Ne.symm xtS.2), if_neg (Ne.symm xtA.2), if_neg (Ne.symm xtR.2), if_neg (Ne.symm xtH.2), if_neg (by omega), if_pos rfl]
    have rH : (fd tH (G2 ++ h)).rf = (fd 2003 h1).rf := by
      rw [hfd, if_neg (Ne.symm a5), if_neg (Ne.symm b4), if_neg (Ne.symm d3), if_pos rfl, f3]; rfl
    have rA : (fd tA (G2 ++ h)).rf = (fd 2 h1).rf := by
      rw [hfd, if_neg (Ne.symm a1), if_pos rfl, z2]
    refine ⟨tau [(tS, 1), (tA, 2), (tR, 2000), (tH, 2003), (nx, w0), (nx + 1, w1)], G2, .ret (.bool (ms.stepC kd L k == m.stepC kd L k)), nx + 2, ⟨fun t ht => ?_, fun t b n sz g' ty q => ?_, fun t t' ht ht' hne => ?_, fun e he => ?_⟩, hk s' t0' E0 c0' t1' E1 c1' hN hi' n0 n1⟩
    · have hkeys := memB_iff.1 ht
      simp only [G2, List.map_cons, List.map_nil, List.mem_cons, List.not_mem_nil, or_false] at hkeys
      rcases hkeys with hk | hk | hk | hk | hk | hk
      · rw [hk]
        refine .inr (.inl ⟨1, bS, 1, 8, _, _, _, 61, rfl, by rw [hτ, if_pos rfl], rfl, z1, by rw [hfd2, if_pos rfl], fun i k hi hk => ?_⟩)
        match k, hk with
        | 0, _ => exact tell_slice rA
        | 1, _ => exact tell_flat trivial
        | k + 2, _ => exact tell_flat trivial
      · rw [hk]
        refine .inr (.inl ⟨2, bA, s.N, 5, _, _, _, 63, rfl, by rw [hτ, if_neg (Ne.symm a1), if_pos rfl], rfl, z2, by rw [hfd2, if_neg (Ne.symm a1), if_pos rfl], fun i k hi hk => tell_flat ?_⟩)
        match k, hk with
        | 0, _ | 1, _ | 2, _ | 3, _ | 4, _ => trivial
      · rw [hk]
        refine .inr (.inl ⟨2000, bR, 1, 5, _, g2, _, 66, rfl, by rw [hτ, if_neg (Ne.symm a2), if_neg (Ne.symm b1), if_pos rfl], rfl, f1, by rw [hfd2, if_neg (Ne.symm a2), if_neg (Ne.symm b1), if_pos rfl], fun i k hi hk => ?_⟩)
        obtain rfl : i = 0 := by omega
        rw [f2 k hk]
        match k, hk with
        | 0, _ => show tell _ _ (.int .i64 m.n) (.int .i64 m'.n); rw [hn]; exact tell_flat trivial
        | 1, _ => show tell _ _ (.int .i64 m.b) (.int .i64 m'.b); rw [hbb]; exact tell_flat trivial
        | 2, _ => exact tell_slice r0
        | 3, _ => exact tell_slice r1
        | 4, _ => show tell _ _ (.slice 2003 0 m.n m.n) (.slice tH 0 m'.n m'.n); rw [hn]; exact tell_slice rH
      · rw [hk]
        refine .inr (.inl ⟨2003, bH, m.n, 1, _, gh2, _, 4, rfl, by rw [hτ, if_neg (Ne.symm a5), if_neg (Ne.symm b4), if_neg (Ne.symm d3), if_pos rfl], rfl, f3, by rw [hfd2, if_neg (Ne.symm a5), if_neg (Ne.symm b4), if_neg (Ne.symm d3), if_pos rfl, hn], fun i k hi hk => ?_⟩)
        obtain rfl : k = 0 := by omega
        rw [f4 i hi]
        exact tell_flat trivial
      · rw [hk]
        rcases p0 with ⟨_, hEg, _, _⟩ | ⟨_, hw, hlt, hs12, hE, b, gg, ty, hEb, hc1, hc2⟩
        · exact .inl ⟨g0, .inl (by rw [hfd2, if_neg (Ne.symm xtS.1), if_neg (Ne.symm xtA.1), if_neg (Ne.symm xtR.1), if_neg (Ne.symm xtH.1), if_pos rfl, hEg])⟩
        · refine .inr (.inr ⟨b, c0', 1, gg, gg, ty, g0, by rw [hτ, if_neg (Ne.symm xtS.1), if_neg (Ne.symm xtA.1), if_neg (Ne.symm xtR.1), if_neg (Ne.symm xtH.1), if_pos rfl, hw, ← hE, hEb], by rw [hfd2, if_neg (Ne.symm xtS.1), if_neg (Ne.symm xtA.1), if_neg (Ne.symm xtR.1), if_neg (Ne.symm xtH.1), if_pos rfl, hEb], fun t' b' n' sz' g' ty' q => ?_, fun i k hi hk => ?_⟩)
          · rw [hτ, if_neg (Ne.symm xtS.1), if_neg (Ne.symm xtA.1), if_neg (Ne.symm xtR.1), if_neg (Ne.symm xtH.1), if_pos rfl, hw]
            rintro rfl
            rw [show fd s0 (HS2 bS bA s bR bH e0 e1 c0 c1 m) = .gone by
              show fd s0 ((1, _) :: (2, _) :: (2000, _) :: (2001, _) :: (2002, _) :: (2003, _) :: []) = _
              rw [fd_cons, fd_cons, fd_cons, fd_cons, fd_cons, fd_cons, if_neg (by omega), if_neg (by omega), if_neg (by omega), if_neg (by omega), if_neg (by omega), if_neg (by omega)]; rfl] at q
            cases q
          · obtain rfl : k = 0 := by omega
            exact tell_flat (hc2 i hi)
      · rw [hk]
        rcases p1 with ⟨_, hEg, _, _⟩ | ⟨_, hw, hlt, hs12, hE, b, gg, ty, hEb, hc1, hc2⟩
        · exact .inl ⟨g1, .inl (by rw [hfd2, if_neg (Ne.symm xtS.2), if_neg (Ne.symm xtA.2), if_neg (Ne.symm xtR.2), if_neg (Ne.symm xtH.2), if_neg (by omega), if_pos rfl, hEg])⟩
        · refine .inr (.inr ⟨b, c1', 1, gg, gg, ty, g1, by rw [hτ, if_neg (Ne.symm xtS.2), if_neg (Ne.symm xtA.2), if_neg (Ne.symm xtR.2), if_neg (Ne.symm xtH.2), if_neg (by omega), if_pos rfl, hw, ← hE, hEb], by rw [hfd2, if_neg (Ne.symm xtS.2), if_neg (Ne.symm xtA.2), if_neg (Ne.symm xtR.2), if_neg (Ne.symm xtH.2), if_neg (by omega), if_pos rfl, hEb], fun t' b' n' sz' g' ty' q => ?_, fun i k hi hk => ?_⟩)
          · rw [hτ, if_neg (Ne.symm xtS.2), if_neg (Ne.symm xtA.2), if_neg (Ne.symm xtR.2), if_neg (Ne.symm xtH.2), if_neg (by omega), if_pos rfl, hw]
            rintro rfl
            rw [show fd s1 (HS2 bS bA s bR bH e0 e1 c0 c1 m) = .gone by
              show fd s1 ((1, _) :: (2, _) :: (2000, _) :: (2001, _) :: (2002, _) :: (2003, _) :: []) = _
              rw [fd_cons, fd_cons, fd_cons, fd_cons, fd_cons, fd_cons, if_neg (by omega), if_neg (by omega), if_neg (by omega), if_neg (by omega), if_neg (by omega), if_neg (by omega)]; rfl] at q
            cases q
          · obtain rfl : k = 0 := by omega
            exact tell_flat (hc2 i hi)
    · have q' : fd t ((1, eS bS s) :: (2, eA bA s) :: (2000, Ent.blk bR 1 5 (gF m.n m.b 2001 (m.L 0).length c0 2002 (m.L 1).length c1 2003) 66) :: (2001, e0.toRo) :: (2002, e1.toRo) :: (2003, Ent.blk bH m.n 1 (gb m.H) 4) :: []) = .blk b n sz g' ty := q
      rw [fd_cons, fd_cons, fd_cons, fd_cons, fd_cons, fd_cons] at q'
      split at q'
      · rename_i z; cases z; cases q'; exact ⟨memB_iff.2 (by simp [G2, tau]), _, _, z1⟩
      · split at q'
        · rename_i z; cases z; cases q'; exact ⟨memB_iff.2 (by simp [G2, tau]), _, _, z2⟩
        · split at q'
          · rename_i z; cases z; cases q'; exact ⟨memB_iff.2 (by simp [G2, tau]), _, _, f1⟩
          · split at q'
            · cases e0 <;> cases q'
            · split at q'
              · cases e1 <;> cases q'
              · split at q'
                · rename_i z; cases z; cases q'; exact ⟨memB_iff.2 (by simp [G2, tau]), _, _, f3⟩
                · cases q'
    · have k1 := memB_iff.1 ht
      have k2 := memB_iff.1 ht'
      simp only [G2, List.map_cons, List.map_nil, List.mem_cons, List.not_mem_nil, or_false] at k1 k2
      have B0 : (w0 = 5000 ∨ (w0 = s0 ∧ s0 < 2000 ∧ s0 ≠ 1 ∧ s0 ≠ 2)) := by rcases p0 with ⟨_, _, _, h⟩ | ⟨_, h, h', h'', _⟩; exact .inl h; exact .inr ⟨h, h', h''⟩
      have B1 : (w1 = 5001 ∨ (w1 = s1 ∧ s1 < 2000 ∧ s1 ≠ 1 ∧ s1 ≠ 2)) := by rcases p1 with ⟨_, _, _, h⟩ | ⟨_, h, h', h'', _⟩; exact .inl h; exact .inr ⟨h, h', h''⟩
      have y0 : tau [(tS, 1), (tA, 2), (tR, 2000), (tH, 2003), (nx, w0), (nx + 1, w1)] tS = 1 := by rw [hτ, if_pos rfl]
      have y1 : tau [(tS, 1), (tA, 2), (tR, 2000), (tH, 2003), (nx, w0), (nx + 1, w1)] tA = 2 := by rw [hτ, if_neg (Ne.symm a1), if_pos rfl]
      have y2 : tau [(tS, 1), (tA, 2), (tR, 2000), (tH, 2003), (nx, w0), (nx + 1, w1)] tR = 2000 := by rw [hτ, if_neg (Ne.symm a2), if_neg (Ne.symm b1), if_pos rfl]
      have y3 : tau [(tS, 1), (tA, 2), (tR, 2000), (tH, 2003), (nx, w0), (nx + 1, w1)] tH = 2003 := by rw [hτ, if_neg (Ne.symm a5), if_neg (Ne.symm b4), if_neg (Ne.symm d3), if_pos rfl]
      have y4 : tau [(tS, 1), (tA, 2), (tR, 2000), (tH, 2003), (nx, w0), (nx + 1, w1)] nx = w0 := by rw [hτ, if_neg (Ne.symm xtS.1), if_neg (Ne.symm xtA.1), if_neg (Ne.symm xtR.1), if_neg (Ne.symm xtH.1), if_pos rfl]
      have y5 : tau [(tS, 1), (tA, 2), (tR, 2000), (tH, 2003), (nx, w0), (nx + 1, w1)] (nx + 1) = w1 := by rw [hτ, if_neg (Ne.symm xtS.2), if_neg (Ne.symm xtA.2), if_neg (Ne.symm xtR.2), if_neg (Ne.symm xtH.2), if_neg (by omega), if_pos rfl]
      obtain ⟨Q1, Q2, Q3, Q4, Q5, Q6, Q7, Q8, Q9⟩ := inj6 B0 B1 hs
      rcases k1 with k1 | k1 | k1 | k1 | k1 | k1 <;> rcases k2 with k2 | k2 | k2 | k2 | k2 | k2 <;> first | exact absurd (k1.trans k2.symm) hne | (rw [k1, k2]; simp only [y0, y1, y2, y3, y4, y5]; first | exact Q1 | exact Ne.symm Q1 | exact Q2 | exact Ne.symm Q2 | exact Q3 | exact Ne.symm Q3 | exact Q4 | exact Ne.symm Q4 | exact Q5 | exact Ne.symm Q5 | exact Q6 | exact Ne.symm Q6 | exact Q7 | exact Ne.symm Q7 | exact Q8 | exact Ne.symm Q8 | exact Q9 | exact Ne.symm Q9 | decide)
    · obtain ⟨x, rfl, rx⟩ := he
      exact ⟨x, rfl, flat_rel _ _ trivial rx⟩
end Go.Proofs.Ytdjekplkejkgdaa.Sx

/-
  A new shelf of the document's.
-/
namespace Go.Proofs.Ytdjekplkejkgdaa.Sx
open Go Go.Proofs
set_option maxRecDepth 100000
set_option linter.unusedSimpArgs false
set_option linter.unusedVariables false

def sRNew : Spec := fun args h nx K => ∃ (n b : Nat), args = [.int .i64 n, .int .i64 b] ∧ n ≤ 1000 ∧ fd nx h = .gone ∧ fd (nx + 1) h = .gone ∧ fd (nx + 2) h = .gone ∧ fd (nx + 3) h = .gone ∧
  ∀ bR bH : Nat, K (.ret (.ptr nx 0 0)) ((nx, .blk bR 1 5 (gF n b (nx + 1) 0 0 (nx + 2) 0 0 (nx + 3)) 66) :: (nx + 1, .ro none 0 1 (gl [])) :: (nx + 2, .ro none 0 1 (gl [])) :: (nx + 3, .blk bH n 1 (gb fun _ => false) 4) :: h) (nx + 4)
theorem sRNew_ok : SpecOK Try.prog 11 sRNew := by
  refine specOK_gen (fn := Try.f11) rfl rfl rfl T_ok (SP := []) noSP _ ?_
  rintro args h nx K ⟨n, b, rfl, hn, g0, g1, g2, g3, hk⟩
  refine ⟨fun t => t, [], [.int .i64 n, .int .i64 b], rfl, fun p hp => absurd hp (by simp), ⟨⟨rfl, rfl⟩, ⟨rfl, rfl⟩, trivial⟩, by simp [Try.f11], fun o h1 => ∃ (bR bH : Nat) (g gh : Nat → Nat → V), o = .ret (.ptr 1 0 0) ∧ fd 1 h1 = .blk bR 1 5 g 66 ∧ fd 0 h1 = .blk bH n 1 gh 4 ∧ (∀ c, c < 5 → g 0 c = match c with | 0 => .int .i64 n | 1 => .int .i64 b | 2 => .nils | 3 => .nils | _ => .slice 0 0 n n) ∧ ∀ i, i < n → gh i 0 = .bool false, ?_, ?_⟩
  · rintro o h1 ⟨bR, bH, g, gh, rfl, e1, e2, c1, c2⟩
    have y : ∀ t, tau [(nx, 1), (nx + 1, 5000), (nx + 2, 5001), (nx + 3, 0)] t = if t = nx then 1 else if t = nx + 1 then 5000 else if t = nx + 2 then 5001 else if t = nx + 3 then 0 else t := fun t => by
      have one : ∀ (a b : Nat) (r : List (Nat × Nat)), tau ((a, b) :: r) t = if t = a then b else tau r t := fun a b r => by
        by_cases q : t = a
        · subst q; simp [tau]
        · simp [tau, beq_ne q, q]
      rw [one, one, one, one]; rfl
    have y0 : tau [(nx, 1), (nx + 1, 5000), (nx + 2, 5001), (nx + 3, 0)] nx = 1 := by rw [y, if_pos rfl]
    have y1 : tau [(nx, 1), (nx + 1, 5000), (nx + 2, 5001), (nx + 3, 0)] (nx + 1) = 5000 := by rw [y, if_neg (by omega), if_pos rfl]
    have y2 : tau [(nx, 1), (nx + 1, 5000), (nx + 2, 5001), (nx + 3, 0)] (nx + 2) = 5001 := by rw [y, if_neg (by omega), if_neg (by omega), if_pos rfl]
    have y3 : tau [(nx, 1), (nx + 1, 5000), (nx + 2, 5001), (nx + 3, 0)] (nx + 3) = 0 := by rw [y, if_neg (by omega), if_neg (by omega), if_neg (by omega), if_pos rfl]
    let G2 : Hp := [(nx, .blk bR 1 5 (gF n b (nx + 1) 0 0 (nx + 2) 0 0 (nx + 3)) 66), (nx + 1, .ro none 0 1 (gl [])), (nx + 2, .ro none 0 1 (gl [])), (nx + 3, .blk bH n 1 (gb fun _ => false) 4)]
    have hfd : ∀ (hh : Hp) t, fd t (G2 ++ hh) = if t = nx then .blk bR 1 5 (gF n b (nx + 1) 0 0 (nx + 2) 0 0 (nx + 3)) 66 else if t = nx + 1 then .ro none 0 1 (gl []) else if t = nx + 2 then .ro none 0 1 (gl []) else if t = nx + 3 then .blk bH n 1 (gb fun _ => false) 4 else fd t hh := fun hh t => by
      show fd t ((nx, _) :: (nx + 1, _) :: (nx + 2, _) :: (nx + 3, _) :: hh) = _
      rw [fd_cons, fd_cons, fd_cons, fd_cons]
    have hfd2 : ∀ t, fd t G2 = fd t (G2 ++ []) := fun t => by rw [List.append_nil]
    refine ⟨tau [(nx, 1), (nx + 1, 5000), (nx + 2, 5001), (nx + 3, 0)], G2, _, nx + 4, ⟨fun t ht => ?_, fun t b n sz g ty q => (by cases q), fun t t' ht ht' hne => ?_, fun e he => ?_⟩, hk bR bH⟩
    · have hkeys := memB_iff.1 ht
      simp only [G2, List.map_cons, List.map_nil, List.mem_cons, List.not_mem_nil, or_false] at hkeys
      rcases hkeys with hk | hk | hk | hk
      · rw [hk]
        refine .inr (.inr ⟨bR, 1, 5, g, _, 66, g0, by rw [y0]; exact e1, by rw [hfd2, hfd, if_pos rfl], fun t' b' n' sz' g' ty' q => (by cases q), fun i k hi hk => ?_⟩)
        obtain rfl : i = 0 := by omega
        rw [c1 k hk]
        match k, hk with
        | 0, _ => exact tell_flat trivial
        | 1, _ => exact tell_flat trivial
        | 2, _ => exact tell_nil (by rw [hfd, if_neg (by omega), if_pos rfl])
        | 3, _ => exact tell_nil (by rw [hfd, if_neg (by omega), if_neg (by omega), if_pos rfl])
        | 4, _ => exact tell_slice (by rw [hfd, if_neg (by omega), if_neg (by omega), if_neg (by omega), if_pos rfl, e2]; rfl)
      · rw [hk]; exact .inl ⟨g1, .inr ⟨1, gl [], by rw [hfd2, hfd, if_neg (by omega), if_pos rfl]⟩⟩
      · rw [hk]; exact .inl ⟨g2, .inr ⟨1, gl [], by rw [hfd2, hfd, if_neg (by omega), if_neg (by omega), if_pos rfl]⟩⟩
      · rw [hk]
        refine .inr (.inr ⟨bH, n, 1, gh, _, 4, g3, by rw [y3]; exact e2, by rw [hfd2, hfd, if_neg (by omega), if_neg (by omega), if_neg (by omega), if_pos rfl], fun t' b' n' sz' g' ty' q => (by cases q), fun i k hi hk => ?_⟩)
        obtain rfl : k = 0 := by omega
        rw [c2 i hi]
        exact tell_flat trivial
    · have k1 := memB_iff.1 ht
      have k2 := memB_iff.1 ht'
      simp only [G2, List.map_cons, List.map_nil, List.mem_cons, List.not_mem_nil, or_false] at k1 k2
      rcases k1 with k1 | k1 | k1 | k1 <;> rcases k2 with k2 | k2 | k2 | k2 <;> first | exact absurd (k1.trans k2.symm) hne | (rw [k1, k2]; simp only [y0, y1, y2, y3]; decide)
    · obtain ⟨x, rfl, rx⟩ := he
      exact ⟨x, rfl, tell_ptr (h1 := h1) (by rw [hfd, if_pos rfl, e1]; rfl) x rx⟩
  · intro c hc
    have hE := mkE' (fn := Try.f11) (R := fun o h1 _ => ∃ (bR bH : Nat) (g gh : Nat → Nat → V), o = .ret (.ptr 1 0 0) ∧ fd 1 h1 = .blk bR 1 5 g 66 ∧ fd 0 h1 = .blk bH n 1 gh 4 ∧ (∀ c, c < 5 → g 0 c = match c with | 0 => .int .i64 n | 1 => .int .i64 b | 2 => .nils | 3 => .nils | _ => .slice 0 0 n n) ∧ ∀ i, i < n → gh i 0 = .bool false) hc noSP
    refine vc_sound hE 40 _ _ _ 0 ?_
    refine ⟨⟨?_, ?_, ?_⟩, ?_⟩
    · show (0 : Int) ≤ (n : Int); omega
    · exact Int.le_refl _
    · show (n : Int) ≤ 1048576; omega
    intro bH bR
    exact ⟨bR, bH, _, _, rfl, rfl, rfl, fun c hc => by match c, hc with | 0, _ | 1, _ | 2, _ | 3, _ | 4, _ => rfl, fun i hi => rfl⟩
end Go.Proofs.Ytdjekplkejkgdaa.Sx

/-
  The walks of this seat's laws: RingMoves.
-/
namespace Go.Proofs.Ytdjekplkejkgdaa.Sx
open Go Go.Proofs
set_option maxRecDepth 100000
set_option linter.unusedSimpArgs false
set_option linter.unusedVariables false

theorem listI_nat {m : Md} {q : Nat} (hq : q < 2) : m.listI (q : Int) = m.L q := by
  unfold Md.listI
  rw [if_pos (by unfold rightB; simp; omega), Int.toNat_natCast]
theorem Ok.new {n b : Nat} (h : mayB n b = true) : Ok (Md.new n b) := ⟨_, new_inv h⟩
/-- Put in front of the other list. -/
theorem front_move {m : Md} {k q o : Nat} (hq : q < 2) (ho : o < 2) (hne : o ≠ q) (hk : k < m.n) (e : m.at k = some q) : (m.frontI o k).L q = (m.L q).erase k ∧ (m.frontI o k).L o = k :: m.L o ∧ (m.frontI o k).held = m.held ∧ m.frontC o k = 0 ∧ (m.frontI o k).n = m.n := by
  have hr : rightB o = true ∧ m.isN k = true := ⟨by unfold rightB; simp; omega, by unfold Md.isN; simp; omega⟩
  have e1 : m.frontI o k = m.front o k := by unfold Md.frontI; rw [if_pos hr]; rfl
  have ho2 : m.out k = m.set q ((m.L q).erase k) := by unfold Md.out; rw [e]
  rw [e1]
  unfold Md.front
  rw [ho2]
  refine ⟨?_, ?_, rfl, if_pos hr, rfl⟩
  · rw [Md.set_ne (Ne.symm hne), Md.set_at]
  · rw [Md.set_at, Md.set_ne hne]

/-- A guarded operation whose guard holds. -/
theorem vc_gT {E : Env} {n : Nat} {d : Option Nat} {op : Op} {ty : TypeId} {pos : String} {aft : Array Edge} {j t : Nat} {oj : Oper} {all l : List Oper} {k : List It} {σ : Sl} {h : Hp} {nx : Nat} (e1 : all[j]? = some oj) (e2 : oj.dst = some t) (e3 : lk t σ = some (.bool true))
    (hk : stepC E op ((t, .bool true) :: σ) h nx (fun v h' nx' => putS E.fn.ntmps d v ((t, .bool true) :: σ) fun σ' => vc E n (.ops all l :: k) σ' h' nx') (fun v h' nx' => E.R (.pan v) h' nx')) : vc E (n + 1) (.ops all (⟨d, op, ty, pos, aft, some (j, true)⟩ :: l) :: k) σ h nx := by
  show (match all[j]? with
          | some oj => (match oj.dst with
            | some t => (match lk t σ with
              | some (.bool p) => br p
                  (stepC E op ((t, .bool true) :: σ) h nx (fun v h' nx' => putS E.fn.ntmps d v ((t, .bool true) :: σ) fun σ' => vc E n (.ops all l :: k) σ' h' nx') (fun v h' nx' => E.R (.pan v) h' nx'))
                  (putS E.fn.ntmps d und ((t, .bool false) :: σ) fun σ' => vc E n (.ops all l :: k) σ' h nx)
              | some (.tup []) => putS E.fn.ntmps d und σ fun σ' => vc E n (.ops all l :: k) σ' h nx
              | _ => False)
            | none => False)
          | none => False)
  rw [e1]
  dsimp only
  rw [e2]
  dsimp only
  rw [e3]
  exact hk

theorem stepC_move {E : Env} {a : Nat} {v : V} {σ : Sl} {h : Hp} {nx : Nat} {K KP : V → Hp → Nat → Prop} (e : lk a σ = some v) (hk : K v h nx) : stepC E (.move (.tmp a)) σ h nx K KP := opnd_tmp (h := h) e hk

/-- A script's steps. -/
def ckA : Nat → Option IntKind := fun _ => some .i64
def SPM : SpT := [(8, sAwake), (9, mNew), (11, sRNew), (12, sStep), (14, mList), (15, mWhere), (16, sFind), (18, mHeld), (20, mFront), (21, sWithout), (22, sInts), (24, mDrop)]
theorem spm : ∀ p ∈ SPM, SpecOK Try.prog p.1 p.2 := consSP sAwake_ok (consSP mNew_ok (consSP sRNew_ok (consSP sStep_ok (consSP mList_ok (consSP mWhere_ok (consSP sFind_ok (consSP mHeld_ok (consSP mFront_ok (consSP sWithout_ok (consSP sInts_ok (consSP mDrop_ok noSP)))))))))))
abbrev H7 (bS bA : Nat) (s : Sh) (b : Option Addr) (len : Nat) (z : Nat → Nat → Int) (p : Nat → Nat → Bool) : Hp := [(1, eS bS s), (2, eA bA s), (2000, .ro b len 3 (gMix ckA z p))]

theorem law7_walk {c : Cx} (hc : c.P = Try.prog) {a a2 : Int} (ha : 0 ≤ a ∧ a ≤ 255) (ha2 : 0 ≤ a2 ∧ a2 ≤ 255) {b : Option Addr} {len cap : Nat} {z : Nat → Nat → Int} {p : Nat → Nat → Bool} (hlen : len ≤ 9223372036854775807) :
    ∃ cd, Try.f7.body = some cd ∧ W ⟨c, Try.f7, T, SPM, fun o _ _ => o = .ret (.bool true)⟩ [.code cd] (argsS [.int .u8 a, .slice 2000 0 len cap, .int .u8 a2] 0) [(2000, .ro b len 3 (gMix ckA z p))] 0 := by
  refine ⟨_, rfl, ?_⟩
  have hE := mkE' (fn := Try.f7) (R := fun o _ _ => o = .ret (.bool true)) hc spm
  have ew : ∀ {τ : Nat → Nat} {h' : Hp}, wkE τ h' (.ro b len 3 (gMix ckA z p)) (.ro b len 3 (gMix ckA z p)) := ⟨rfl, rfl, rfl, fun i c hi hc => ⟨rfl, rfl⟩⟩
  refine W_seq (nx := 0) ?_
  refine W_to (nx := 0) [(0, .int .u8 a), (1, .slice 2000 0 len cap), (2, .int .u8 a2)] [(2000, .ro b len 3 (gMix ckA z p))] 30 ?_ ?_
  · refine vc_sound hE 20 _ _ _ 30 ?_
    exact ⟨tau [], rfl, (by repeat' (first | exact rfl | exact trivial | assumption | refine ⟨?_, ?_⟩)), ew, trivial⟩
  refine W_seq (nx := 30) ?_
  refine W_to (nx := 30) [(0, .int .u8 a), (1, .slice 2000 0 len cap), (2, .int .u8 a2)] [(2000, .ro b len 3 (gMix ckA z p))] 30 ?_ ?_
  · refine vc_sound hE 20 _ _ _ 30 ?_
    refine ⟨rfl, ?_⟩
    exact ⟨tau [], rfl, (by repeat' (first | exact rfl | exact trivial | assumption | refine ⟨?_, ?_⟩)), ew, trivial⟩
  obtain ⟨n, hn, hn1, hn2⟩ : ∃ n : Nat, IntKind.i64.wrap (1 + (IntKind.i64.wrap a).tmod 64) = (n : Int) ∧ 1 ≤ n ∧ n ≤ 64 := by
    have e1 : IntKind.i64.wrap a = a := by simp [IntKind.wrap_i64]; omega
    have e2 : a.tmod 64 = a % 64 := Int.tmod_eq_emod_of_nonneg ha.1
    rw [e1, e2]
    refine ⟨(1 + a % 64).toNat, ?_, ?_, ?_⟩
    · simp [IntKind.wrap_i64]; omega
    · omega
    · omega
  have hmay : mayB n 1 = true := by unfold mayB; simp only [Bool.and_eq_true, decide_eq_true_eq]; omega
  refine W_seq (nx := 30) ?_
  refine W_to (nx := 30) [(1, .slice 2000 0 len cap), (2, .int .u8 a2), (7, .int .i64 n)] [(2000, .ro b len 3 (gMix ckA z p))] 30 ?_ ?_
  · refine vc_sound hE 30 _ _ _ 30 ?_
    exact ⟨tau [], rfl, (by repeat' (first | exact rfl | exact trivial | assumption | refine ⟨?_, ?_⟩)), ew, trivial⟩
  refine W_seq (nx := 30) ?_
  refine W_ex (nx := 30) (fun (a : Nat × Nat × Sh) => Inv a.2.2 (Md.new n 1) n) (fun a => [(1, .slice 2000 0 len cap), (2, .int .u8 a2), (7, .int .i64 n), (8, .ptr 1 0 0)]) (fun a => H7 a.1 a.2.1 a.2.2 b len z p) 30 ?_ ?_
  · refine vc_sound hE 30 _ _ _ 30 ?_
    refine ⟨n, 1, rfl, rfl, rfl, fun e => (by rw [hmay] at e; cases e), fun _ bS bA s hN hi => ?_⟩
    exact ⟨(bS, bA, s), hi, tau [(1, 30), (2, 31)], rfl, (by repeat' (first | exact rfl | exact trivial | assumption | refine ⟨?_, ?_⟩)), ⟨eS_wk ⟨rfl, trivial⟩, eA_wk rfl, ew, trivial⟩⟩
  rintro ⟨bS, bA, s⟩ hi
  refine W_seq (nx := 30) ?_
  refine W_to (nx := 30) [(1, .slice 2000 0 len cap), (2, .int .u8 a2), (7, .int .i64 n), (8, .ptr 1 0 0)] (H7 bS bA s b len z p) 30 ?_ ?_
  · refine vc_sound hE 30 _ _ _ 30 ?_
    exact ⟨tau [], rfl, (by repeat' (first | exact rfl | exact trivial | assumption | refine ⟨?_, ?_⟩)), eS_wk ⟨rfl, trivial⟩, eA_wk rfl, ew, trivial⟩
  -- the script
  refine W_seq (nx := 30) ?_
  refine W_ex (nx := 30) (fun (a : Sh × Md) => Inv a.1 a.2 a.2.n ∧ a.2.n = n) (fun _ => [(2, .int .u8 a2), (7, .int .i64 n), (8, .ptr 1 0 0)]) (fun a => [(1, eS bS a.1), (2, eA bA a.1)]) 30 ?_ ?_
  · refine vc_sound hE 8 _ _ _ 30 ?_
    refine W_loop (fun r σ h => ∃ (j : Nat) (s : Sh) (m : Md), r = len - j ∧ j ≤ len ∧ Inv s m m.n ∧ m.n = n ∧ σ = [(1, .slice 2000 0 len cap), (2, .int .u8 a2), (7, .int .i64 n), (8, .ptr 1 0 0), (10, .int .i64 j)] ∧ h = H7 bS bA s b len z p)
      len ⟨0, s, Md.new n 1, rfl, by omega, hi, rfl, rfl, rfl⟩ (tau []) ⟨rfl, (by repeat' (first | exact rfl | exact trivial | assumption | refine ⟨?_, ?_⟩)), eS_wk ⟨rfl, trivial⟩, eA_wk rfl, ew, trivial⟩ 30 ?_
    clear hi s
    rintro r σ h ⟨j, s, m, rfl, hj, hi, hmn, rfl, rfl⟩
    refine vc_sound hE 1 _ _ _ 30 ?_
    refine W_piece (nx := 30) (fun σ1 h1 _ => j < len ∧ ∃ τ, wk τ σ1 h1 [(1, .slice 2000 0 len cap), (2, .int .u8 a2), (7, .int .i64 n), (8, .ptr 1 0 0), (10, .int .i64 j)] (H7 bS bA s b len z p)) ?_ ?_
    · refine vc_sound hE 60 _ _ _ 30 ?_
      have fin : ∀ σ1 h1, (wk (tau []) σ1 h1 [(2, .int .u8 a2), (7, .int .i64 n), (8, .ptr 1 0 0)] [(1, eS bS s), (2, eA bA s)]) → ∃ a : Sh × Md, (Inv a.1 a.2 a.2.n ∧ a.2.n = n) ∧ ∃ τ, wk τ σ1 h1 [(2, .int .u8 a2), (7, .int .i64 n), (8, .ptr 1 0 0)] [(1, eS bS a.1), (2, eA bA a.1)] := fun σ1 h1 hw => ⟨(s, m), ⟨hi, hmn⟩, _, hw⟩
      (refine (?_ : br _ _ _); refine br_dec (fun q => ?_) (fun q => ?_))
      · have q : (j : Int) < len := q
        (refine (?_ : br _ _ _); refine br_dec (fun q => ?_) (fun q => ?_))
        · exact ⟨by omega, tau [], rfl, (by repeat' (first | exact rfl | exact trivial | assumption | refine ⟨?_, ?_⟩)), eS_wk ⟨rfl, trivial⟩, eA_wk rfl, ew, trivial⟩
        · exact fin _ _ ⟨rfl, (by repeat' (first | exact rfl | exact trivial | assumption | refine ⟨?_, ?_⟩)), eS_wk ⟨rfl, trivial⟩, eA_wk rfl, trivial⟩
      · exact fin _ _ ⟨rfl, (by repeat' (first | exact rfl | exact trivial | assumption | refine ⟨?_, ?_⟩)), eS_wk ⟨rfl, trivial⟩, eA_wk rfl, trivial⟩
    rintro σ1 h1 _ ⟨hjl, τ1, hw1⟩
    refine W_weak (nx' := 30) τ1 hw1 ?_
    clear hw1 σ1 h1 τ1
    refine vc_sound hE 2 _ _ _ 30 ?_
    refine W_ex (nx := 30) (fun (a : Sh × Md) => Inv a.1 a.2 a.2.n ∧ a.2.n = n) (fun _ => [(1, .slice 2000 0 len cap), (2, .int .u8 a2), (7, .int .i64 n), (8, .ptr 1 0 0), (10, .int .i64 j)]) (fun a => H7 bS bA a.1 b len z p) 30 ?_ ?_
    · have hz : addI 0 j = j := by rw [addI_eq, Nat.zero_add]
      have ci : (decide ((0 : Int) ≤ (j : Int)) && decide ((j : Int) < (len : Int))) = true := by simp only [Bool.and_eq_true, decide_eq_true_eq]; omega
      refine W_planw hE 31 [2, 7] (.take 0 (.take 1 (.take 3 (.take 4 (.all (.cons 2 (.all (.cons 5 (.all (.cons 6 (.all (.cons 7 (.done) (.nil))) (.nil))) (.nil))) (.cons 5 (.all (.cons 2 (.all (.cons 6 (.all (.cons 7 (.done) (.nil))) (.nil))) (.cons 6 (.all (.cons 2 (.all (.cons 7 (.done) (.nil))) (.nil))) (.nil)))) (.nil)))))))) (by rw [hc]; exact mix) (by kernel_rfl) 30 ?_
      repeat' (first | refine ⟨_, ⟨rfl, rfl⟩, ?_⟩ | fail)
      have hT : addI 0 ((j : Int)).toNat = j := by rw [Int.toNat_natCast]; exact hz
      refine ⟨⟨trivial, ?_⟩, ⟨?_, ?_⟩, trivial⟩
      · skip
        refine ⟨n, 1, rfl, by omega, rfl, rfl, rfl, rfl, fun bR bH => ?_⟩
        refine ⟨⟨?_, ?_⟩, trivial⟩
        · (refine (?_ : chk _ _); refine chk_ok (show (decide ((0 : Int) ≤ (j : Int)) && decide ((j : Int) < (len : Int))) = true by simp only [Bool.and_eq_true, decide_eq_true_eq]; omega) ?_)
          (refine (?_ : chk _ _); refine chk_ok rfl ?_)
          exact trivial
        · (refine (?_ : chk _ _); refine chk_ok (show (decide ((0 : Int) ≤ (j : Int)) && decide ((j : Int) < (len : Int))) = true by simp only [Bool.and_eq_true, decide_eq_true_eq]; omega) ?_)
          (refine (?_ : chk _ _); refine chk_ok rfl ?_)
          refine ⟨⟨?_, ?_⟩, trivial⟩
          · (refine (?_ : chk _ _); refine chk_ok (Nat.ble_eq_true_of_le (show addI 0 ((j : Int)).toNat * 3 + 0 + 3 ≤ len * 3 by rw [hT]; omega)) ?_)
            exact trivial
          · (refine (?_ : chk _ _); refine chk_ok (Nat.ble_eq_true_of_le (show addI 0 ((j : Int)).toNat * 3 + 0 + 3 ≤ len * 3 by rw [hT]; omega)) ?_)
            refine ⟨⟨trivial, ?_⟩, trivial⟩
            refine ⟨s, 1, 2, bS, bA, _, _, m, 31, 32, 33, 34, bR, bH, .ro none 0 1 (gl []), .ro none 0 1 (gl []), 0, 0, _, _, Md.new n 1, _, _, _, rfl, hi, Ok.new hmay, rfl, rfl, ⟨fun c _ => rfl, fun i c _ _ => rfl⟩, ⟨rfl, rfl, rfl, fun c _ => rfl, .inl rfl, .inl ⟨rfl, rfl, rfl⟩, .inl rfl, .inl ⟨rfl, rfl, rfl⟩, rfl, fun i _ => rfl⟩, rfl, rfl, rfl, ?_⟩
            rintro s' t0' E0 c0' t1' E1 c1' hN hi' - -
            have hnn := (step_nb (m := m) (kd := z (addI 0 ((j : Int)).toNat) 0) (L := z (addI 0 ((j : Int)).toNat) 1) (k := z (addI 0 ((j : Int)).toNat) 2)).1
            exact ⟨(s', m.step (z (addI 0 ((j : Int)).toNat) 0) (z (addI 0 ((j : Int)).toNat) 1) (z (addI 0 ((j : Int)).toNat) 2)), ⟨hi', hnn.trans hmn⟩, tau [], rfl, (by repeat' (first | exact rfl | exact trivial | assumption | refine ⟨?_, ?_⟩)), eS_wk ⟨rfl, trivial⟩, eA_wk hN, ew, trivial⟩
      · (refine (?_ : chk _ _); refine chk_ok (show (decide ((0 : Int) ≤ (j : Int)) && decide ((j : Int) < (len : Int))) = true by simp only [Bool.and_eq_true, decide_eq_true_eq]; omega) ?_)
        (refine (?_ : chk _ _); refine chk_ok rfl ?_)
        exact trivial
      · (refine (?_ : chk _ _); refine chk_ok (show (decide ((0 : Int) ≤ (j : Int)) && decide ((j : Int) < (len : Int))) = true by simp only [Bool.and_eq_true, decide_eq_true_eq]; omega) ?_)
        (refine (?_ : chk _ _); refine chk_ok rfl ?_)
        refine ⟨⟨trivial, ?_⟩, ⟨?_, ?_⟩, trivial⟩
        · skip
          refine ⟨n, 1, rfl, by omega, rfl, rfl, rfl, rfl, fun bR bH => ?_⟩
          refine ⟨⟨?_, ?_⟩, trivial⟩
          · (refine (?_ : chk _ _); refine chk_ok (Nat.ble_eq_true_of_le (show addI 0 ((j : Int)).toNat * 3 + 0 + 3 ≤ len * 3 by rw [hT]; omega)) ?_)
            exact trivial
          · (refine (?_ : chk _ _); refine chk_ok (Nat.ble_eq_true_of_le (show addI 0 ((j : Int)).toNat * 3 + 0 + 3 ≤ len * 3 by rw [hT]; omega)) ?_)
            refine ⟨⟨trivial, ?_⟩, trivial⟩
            refine ⟨s, 1, 2, bS, bA, _, _, m, 31, 32, 33, 34, bR, bH, .ro none 0 1 (gl []), .ro none 0 1 (gl []), 0, 0, _, _, Md.new n 1, _, _, _, rfl, hi, Ok.new hmay, rfl, rfl, ⟨fun c _ => rfl, fun i c _ _ => rfl⟩, ⟨rfl, rfl, rfl, fun c _ => rfl, .inl rfl, .inl ⟨rfl, rfl, rfl⟩, .inl rfl, .inl ⟨rfl, rfl, rfl⟩, rfl, fun i _ => rfl⟩, rfl, rfl, rfl, ?_⟩
            rintro s' t0' E0 c0' t1' E1 c1' hN hi' - -
            have hnn := (step_nb (m := m) (kd := z (addI 0 ((j : Int)).toNat) 0) (L := z (addI 0 ((j : Int)).toNat) 1) (k := z (addI 0 ((j : Int)).toNat) 2)).1
            exact ⟨(s', m.step (z (addI 0 ((j : Int)).toNat) 0) (z (addI 0 ((j : Int)).toNat) 1) (z (addI 0 ((j : Int)).toNat) 2)), ⟨hi', hnn.trans hmn⟩, tau [], rfl, (by repeat' (first | exact rfl | exact trivial | assumption | refine ⟨?_, ?_⟩)), eS_wk ⟨rfl, trivial⟩, eA_wk hN, ew, trivial⟩
        · (refine (?_ : chk _ _); refine chk_ok (Nat.ble_eq_true_of_le (show addI 0 ((j : Int)).toNat * 3 + 0 + 3 ≤ len * 3 by rw [hT]; omega)) ?_)
          exact trivial
        · (refine (?_ : chk _ _); refine chk_ok (Nat.ble_eq_true_of_le (show addI 0 ((j : Int)).toNat * 3 + 0 + 3 ≤ len * 3 by rw [hT]; omega)) ?_)
          refine ⟨⟨trivial, ?_⟩, trivial⟩
          refine ⟨n, 1, rfl, by omega, rfl, rfl, rfl, rfl, fun bR bH => ?_⟩
          refine ⟨⟨trivial, ?_⟩, trivial⟩
          refine ⟨s, 1, 2, bS, bA, _, _, m, 31, 32, 33, 34, bR, bH, .ro none 0 1 (gl []), .ro none 0 1 (gl []), 0, 0, _, _, Md.new n 1, _, _, _, rfl, hi, Ok.new hmay, rfl, rfl, ⟨fun c _ => rfl, fun i c _ _ => rfl⟩, ⟨rfl, rfl, rfl, fun c _ => rfl, .inl rfl, .inl ⟨rfl, rfl, rfl⟩, .inl rfl, .inl ⟨rfl, rfl, rfl⟩, rfl, fun i _ => rfl⟩, rfl, rfl, rfl, ?_⟩
          rintro s' t0' E0 c0' t1' E1 c1' hN hi' - -
          have hnn := (step_nb (m := m) (kd := z (addI 0 ((j : Int)).toNat) 0) (L := z (addI 0 ((j : Int)).toNat) 1) (k := z (addI 0 ((j : Int)).toNat) 2)).1
          exact ⟨(s', m.step (z (addI 0 ((j : Int)).toNat) 0) (z (addI 0 ((j : Int)).toNat) 1) (z (addI 0 ((j : Int)).toNat) 2)), ⟨hi', hnn.trans hmn⟩, tau [], rfl, (by repeat' (first | exact rfl | exact trivial | assumption | refine ⟨?_, ?_⟩)), eS_wk ⟨rfl, trivial⟩, eA_wk hN, ew, trivial⟩
    clear hi
    rintro ⟨s, m2⟩ ⟨hi, hmn⟩
    have hi : Inv s m2 m2.n := hi
    refine vc_sound hE 60 _ _ _ 30 ?_
    have hw : IntKind.i64.wrap ((j : Int) + 1) = ((j + 1 : Nat) : Int) := by simp [IntKind.wrap_i64]; omega
    exact ⟨len - (j + 1), _, _, by omega, ⟨j + 1, s, m2, rfl, by omega, hi, hmn, rfl, rfl⟩, tau [], rfl, (by repeat' (first | exact rfl | exact trivial | assumption | refine ⟨?_, ?_⟩)), eS_wk ⟨rfl, trivial⟩, eA_wk rfl, ew, trivial⟩
  clear hi s
  rintro ⟨s, m⟩ ⟨hi, hmn⟩
  have hi : Inv s m m.n := hi
  have hmn : m.n = n := hmn
  -- the node that is asked for
  obtain ⟨k, hk, hkn⟩ : ∃ k : Nat, (IntKind.i64.wrap a2).tmod n = (k : Int) ∧ k < n := by
    have e1 : IntKind.i64.wrap a2 = a2 := by simp [IntKind.wrap_i64]; omega
    have e2 : a2.tmod n = a2 % n := Int.tmod_eq_emod_of_nonneg ha2.1
    have e3 : 0 ≤ a2 % n := Int.emod_nonneg _ (by omega)
    have e4 : a2 % n < n := Int.emod_lt_of_pos _ (by omega)
    rw [e1, e2]
    exact ⟨(a2 % n).toNat, by omega, by omega⟩
  refine W_seq (nx := 30) ?_
  refine W_to (nx := 30) [(8, .ptr 1 0 0), (11, .int .i64 k)] [(1, eS bS s), (2, eA bA s)] 30 ?_ ?_
  · refine vc_sound hE 60 _ _ _ 30 ?_
    (refine (?_ : chk _ _); refine chk_ok (show (!(decide ((n : Int) = 0))) = true by rw [decide_eq_false (by omega)]; rfl) ?_)
    have hk' : IntKind.i64.wrap ((IntKind.i64.wrap a2).tmod n) = (k : Int) := by rw [hk]; simp only [IntKind.wrap_i64]; omega
    exact ⟨tau [], rfl, (by repeat' (first | exact rfl | exact trivial | assumption | refine ⟨?_, ?_⟩)), eS_wk ⟨rfl, trivial⟩, eA_wk rfl, trivial⟩
  obtain ⟨x, hx⟩ : ∃ x, x = m.whI k := ⟨_, rfl⟩
  refine W_seq (nx := 30) ?_
  refine W_to (nx := 30) [(8, .ptr 1 0 0), (11, .int .i64 k), (12, .int .i64 x.1), (14, .bool x.2.2)] [(1, eS bS s), (2, eA bA s)] 30 ?_ ?_
  · refine vc_sound hE 60 _ _ _ 30 ?_
    refine ⟨_, m, k, rfl, hi.mS rfl rfl, ?_⟩
    rw [← hx]
    exact ⟨tau [], rfl, (by repeat' (first | exact rfl | exact trivial | assumption | refine ⟨?_, ?_⟩)), eS_wk ⟨rfl, trivial⟩, eA_wk rfl, trivial⟩
  have hN : m.isN k = true := by unfold Md.isN; rw [hmn]; simp; omega
  have hll : ∀ q, q < 2 → (cI (m.L q)).length ≤ n := fun q hq => by rw [cI_len, ← hmn]; exact hi.lenq hq
  cases hat : m.at k with
  | none =>
    have hl : m.lies k = 3 := by unfold Md.lies; rw [if_neg (by rw [hN]; decide), Int.toNat_natCast, hat, if_pos rfl]
    have hx : x = (0, false, false) := by rw [hx]; unfold Md.whI; rw [if_neg (by rw [hl]; decide)]
    subst hx
    refine vc_sound hE 60 _ _ _ 30 ?_
    refine ⟨_, m, k, rfl, hi.mut rfl rfl fun s2 hN hi2 => ?_⟩
    rw [hl]
    rfl
  | some q =>
    have hq : q < 2 := (Md.at_some hat).1
    have hl : m.lies k = 0 := by unfold Md.lies; rw [if_neg (by rw [hN]; decide), Int.toNat_natCast, hat, if_neg (by simp)]
    have hx : x = ((q : Int), m.low q k, true) := by rw [hx]; unfold Md.whI; rw [if_pos hl, Int.toNat_natCast, hat]
    subst hx
    have hkq : k ∈ m.L q := (Md.at_some hat).2
    have hlo := hll q hq
    have hlo2 := hll (1 - q) (by omega)
    have hlh : (cI m.held).length ≤ n := by rw [cI_len]; unfold Md.held; have h := List.length_filter_le (fun i => m.H i) (List.range m.n); rw [List.length_range] at h; omega
    have hiQ : m.listI (q : Int) = m.L q := listI_nat hq
    have hiO : m.listI ((1 - q : Nat) : Int) = m.L (1 - q) := listI_nat (by omega)
    have hO : IntKind.i64.wrap (1 - (q : Int)) = ((1 - q : Nat) : Int) := by simp only [IntKind.wrap_i64]; omega
    obtain ⟨p1, p2, p3, p4, p5⟩ := front_move (m := m) hq (o := 1 - q) (by omega) (by omega) (by omega) hat
    have hj1 : (m.frontI ((1 - q : Nat) : Int) k).listI (q : Int) = (m.L q).erase k := by rw [listI_nat hq, p1]
    have hj2 : (m.frontI ((1 - q : Nat) : Int) k).listI ((1 - q : Nat) : Int) = k :: m.L (1 - q) := by rw [listI_nat (by omega), p2]
    generalize (q : Int) = Q at hiQ hO hj1 ⊢
    generalize ((1 - q : Nat) : Int) = O at hiO hO hj1 hj2 p1 p2 p3 p4 p5 ⊢
    obtain ⟨lq, hlq⟩ : ∃ lq, lq = m.L q := ⟨_, rfl⟩
    obtain ⟨lo, hlo'⟩ : ∃ lo, lo = m.L (1 - q) := ⟨_, rfl⟩
    rw [← hlq] at hiQ hj1 hlo hkq
    rw [← hlo'] at hiO hj2 hlo2
    refine W_seq (nx := 30) ?_
    refine W_to (nx := 30) [(8, .ptr 1 0 0), (11, .int .i64 k), (12, .int .i64 Q)] [(1, eS bS s), (2, eA bA s)] 30 ?_ ?_
    · refine vc_sound hE 60 _ _ _ 30 ?_
      exact ⟨tau [], rfl, (by repeat' (first | exact rfl | exact trivial | assumption | refine ⟨?_, ?_⟩)), eS_wk ⟨rfl, trivial⟩, eA_wk rfl, trivial⟩
    refine W_seq (nx := 30) ?_
    refine W_ex (nx := 30) (fun (a : Ent × Nat) => lstE a.1 (cI lq) a.2) (fun a => [(8, .ptr 1 0 0), (11, .int .i64 k), (12, .int .i64 Q), (15, .slice 3 0 (cI lq).length a.2)]) (fun a => [(1, eS bS s), (2, eA bA s), (3, a.1)]) 30 ?_ ?_
    · refine vc_sound hE 60 _ _ _ 30 ?_
      refine ⟨_, m, Q, rfl, hi.mS rfl rfl, rfl, fun e1 cp1 hl1 => ?_⟩
      rw [hiQ] at hl1 ⊢
      have hl3 : live [(1, eS bS s), (2, eA bA s), (3, e1)] 3 := lst_live hl1
      exact ⟨(e1, cp1), hl1, tau [(3, 30)], rfl, (by repeat' (first | exact rfl | exact trivial | assumption | refine ⟨?_, ?_⟩)), eS_wk ⟨rfl, trivial⟩, eA_wk rfl, lst_wk hl1 _ _, trivial⟩
    rintro ⟨eq, cq⟩ hl1
    have hl1 : lstE eq (cI lq) cq := hl1
    refine W_seq (nx := 30) ?_
    refine W_ex (nx := 30) (fun (a : Ent × Nat) => lstE a.1 (cI lo) a.2) (fun a => [(8, .ptr 1 0 0), (11, .int .i64 k), (12, .int .i64 Q), (15, .slice 3 0 (cI lq).length cq), (16, .slice 4 0 (cI lo).length a.2)]) (fun a => [(1, eS bS s), (2, eA bA s), (3, eq), (4, a.1)]) 30 ?_ ?_
    · refine vc_sound hE 60 _ _ _ 30 ?_
      refine ⟨_, m, _, rfl, hi.mS rfl rfl, rfl, fun e1 cp1 hl2 => ?_⟩
      rw [hO, hiO] at hl2 ⊢
      have hl3 : live [(1, eS bS s), (2, eA bA s), (3, eq), (4, e1)] 3 := lst_live hl1
      have hl4 : live [(1, eS bS s), (2, eA bA s), (3, eq), (4, e1)] 4 := lst_live hl2
      exact ⟨(e1, cp1), hl2, tau [(4, 30)], rfl, (by repeat' (first | exact rfl | exact trivial | assumption | refine ⟨?_, ?_⟩)), eS_wk ⟨rfl, trivial⟩, eA_wk rfl, lst_wk hl1 _ _, lst_wk hl2 _ _, trivial⟩
    rintro ⟨eo, co⟩ hl2
    have hl2 : lstE eo (cI lo) co := hl2
    refine W_seq (nx := 30) ?_
    refine W_ex (nx := 30) (fun (a : Ent × Nat) => lstE a.1 (cI m.held) a.2) (fun a => [(8, .ptr 1 0 0), (11, .int .i64 k), (12, .int .i64 Q), (15, .slice 3 0 (cI lq).length cq), (16, .slice 4 0 (cI lo).length co), (17, .slice 5 0 (cI m.held).length a.2)]) (fun a => [(1, eS bS s), (2, eA bA s), (3, eq), (4, eo), (5, a.1)]) 30 ?_ ?_
    · refine vc_sound hE 60 _ _ _ 30 ?_
      refine ⟨_, m, rfl, hi.mS rfl rfl, rfl, fun e1 cp1 hl5 => ?_⟩
      have hl3 : live [(1, eS bS s), (2, eA bA s), (3, eq), (4, eo), (5, e1)] 3 := lst_live hl1
      have hl4 : live [(1, eS bS s), (2, eA bA s), (3, eq), (4, eo), (5, e1)] 4 := lst_live hl2
      have hl6 : live [(1, eS bS s), (2, eA bA s), (3, eq), (4, eo), (5, e1)] 5 := lst_live hl5
      exact ⟨(e1, cp1), hl5, tau [(5, 30)], rfl, (by repeat' (first | exact rfl | exact trivial | assumption | refine ⟨?_, ?_⟩)), eS_wk ⟨rfl, trivial⟩, eA_wk rfl, lst_wk hl1 _ _, lst_wk hl2 _ _, lst_wk hl5 _ _, trivial⟩
    rintro ⟨eh, ch⟩ hl5
    have hl5 : lstE eh (cI m.held) ch := hl5
    obtain ⟨X, hX⟩ : ∃ X : Int, X = ((ix k lq : Nat) : Int) := ⟨_, rfl⟩
    have hfd : findI (k : Int) (cI lq) = X := by rw [hX]; unfold findI; rw [if_pos (mem_c.2 hkq), ixZ_c]
    refine W_seq (nx := 30) ?_
    refine W_to (nx := 30) [(8, .ptr 1 0 0), (11, .int .i64 k), (12, .int .i64 Q), (15, .slice 3 0 (cI lq).length cq), (16, .slice 4 0 (cI lo).length co), (17, .slice 5 0 (cI m.held).length ch), (18, .int .i64 X)] [(1, eS bS s), (2, eA bA s), (3, eq), (4, eo), (5, eh)] 30 ?_ ?_
    · refine vc_sound hE 60 _ _ _ 30 ?_
      refine ⟨_, cI lq, k, rfl, hl1.rd rfl, by omega, ?_⟩
      rw [hfd]
      have hl3 : live [(1, eS bS s), (2, eA bA s), (3, eq), (4, eo), (5, eh)] 3 := lst_live hl1
      have hl4 : live [(1, eS bS s), (2, eA bA s), (3, eq), (4, eo), (5, eh)] 4 := lst_live hl2
      have hl6 : live [(1, eS bS s), (2, eA bA s), (3, eq), (4, eo), (5, eh)] 5 := lst_live hl5
      exact ⟨tau [], rfl, (by repeat' (first | exact rfl | exact trivial | assumption | refine ⟨?_, ?_⟩)), eS_wk ⟨rfl, trivial⟩, eA_wk rfl, lst_wk hl1 _ _, lst_wk hl2 _ _, lst_wk hl5 _ _, trivial⟩
    -- the move
    refine W_seq (nx := 30) ?_
    refine W_ex (nx := 30) (fun (s' : Sh) => Inv s' (m.frontI O k) (m.frontI O k).n) (fun _ => [(8, .ptr 1 0 0), (11, .int .i64 k), (12, .int .i64 Q), (15, .slice 3 0 (cI lq).length cq), (16, .slice 4 0 (cI lo).length co), (17, .slice 5 0 (cI m.held).length ch), (18, .int .i64 X)]) (fun s' => [(1, eS bS s'), (2, eA bA s'), (3, eq), (4, eo), (5, eh)]) 30 ?_ ?_
    · refine vc_sound hE 60 _ _ _ 30 ?_
      have hn0 : ¬ X < 0 := by omega
      (refine (?_ : br _ _ _); refine br_decF hn0 ?_)
      refine ⟨_, m, _, k, rfl, hi.mut rfl rfl fun s2 hN2 hi2 => ?_⟩
      rw [hO] at hi2 ⊢
      rw [p4]
      have hl3 : live [(1, eS bS s2), (2, eA bA s2), (3, eq), (4, eo), (5, eh)] 3 := lst_live hl1
      have hl4 : live [(1, eS bS s2), (2, eA bA s2), (3, eq), (4, eo), (5, eh)] 4 := lst_live hl2
      have hl6 : live [(1, eS bS s2), (2, eA bA s2), (3, eq), (4, eo), (5, eh)] 5 := lst_live hl5
      exact ⟨s2, hi2, tau [], rfl, (by repeat' (first | exact rfl | exact trivial | assumption | refine ⟨?_, ?_⟩)), eS_wk ⟨rfl, trivial⟩, eA_wk hN2, lst_wk hl1 _ _, lst_wk hl2 _ _, lst_wk hl5 _ _, trivial⟩
    subst hX
    intro s hi
    -- as the document has it
    refine vc_sound hE 100 _ _ _ 30 ?_
    refine ⟨_, m.frontI O k, Q, rfl, hi.mS rfl rfl, rfl, fun e1 c1 k1 => ?_⟩
    refine ⟨_, cI lq, ix k lq, rfl, hl1.rd rfl, fun _ _ _ _ q => (by cases q; exact lst_cap hl1), by rw [cI_len]; exact ix_lt hkq, by omega, rfl, fun e2 c2 k2 => ?_⟩
    rw [hj1] at k1 ⊢
    rw [eraseIdx_c hkq] at k2 ⊢
    have hle : (cI (lq.erase k)).length ≤ n := by rw [cI_len, List.length_erase_of_mem hkq]; rw [cI_len] at hlo; omega
    refine ⟨_, _, cI (lq.erase k), cI (lq.erase k), rfl, k1.rd rfl, k2.rd rfl, by omega, by omega, ?_⟩
    rw [decide_eq_true rfl]
    refine ⟨_, m.frontI O k, _, rfl, hi.mS rfl rfl, rfl, fun e3 c3 k3 => ?_⟩
    rw [hO, hj2] at k3 ⊢
    intro b1
    refine putS_some rfl ?_
    refine vc_gT (t := 96) (j := 7) rfl rfl rfl ?_
    refine stepC_move (v := .slice 4 0 (cI lo).length co) rfl ?_
    refine putS_some rfl ?_
    refine vc_gT (t := 96) (j := 7) rfl rfl rfl ?_
    refine stepC_app (v := .slice 33 0 1 1) (u := .slice 4 0 (cI lo).length co) rfl rfl ?_
    have hke : cI (k :: lo) = (k : Int) :: cI lo := rfl
    have hkl : (cI (k :: lo)).length ≤ n + 1 := by rw [hke, List.length_cons]; omega
    refine app_L (l := [(k : Int)]) intT (.inr ⟨33, 0, 1, _, 1, _, rfl, rfl, Nat.le_refl _, fun i hi => (by obtain rfl : i = 0 := (by simpa using hi); rfl)⟩) (fun _ _ _ _ q => (by cases q; exact Nat.le_refl _)) (hl2.rd rfl) rfl (by simp only [List.length_cons, List.length_nil]; omega) (fun hm => ?_) (fun tv i c q hm hle => ?_) (fun hm b2 cap2 g2 ty2 u1 u2 u3 => ?_)
    · refine ⟨_, _, cI (k :: lo), [(k : Int)], rfl, k3.rd rfl, .inr ⟨33, 0, 1, _, 1, _, rfl, rfl, Nat.le_refl _, fun i hi => (by obtain rfl : i = 0 := (by simpa using hi); rfl)⟩, by omega, by simp, ?_⟩
      rw [decide_eq_true (show cI (k :: lo) = [(k : Int)] by rw [hke, hm])]
      refine ⟨_, m.frontI O k, rfl, hi.mS rfl rfl, rfl, fun e4 c4 k4 => ?_⟩
      refine ⟨_, _, cI (m.frontI O k).held, cI m.held, rfl, k4.rd rfl, hl5.rd rfl, by rw [p3]; omega, by omega, ?_⟩
      rw [decide_eq_true (show cI (m.frontI O k).held = cI m.held by rw [p3])]
      rfl
    · have hm' : (cI lo).length ≠ 0 := fun q => hm (List.eq_nil_of_length_eq_zero q)
      cases q
      simp only [List.length_cons, List.length_nil] at hle
      omega
    · refine ⟨_, _, cI (k :: lo), [(k : Int)] ++ cI lo, rfl, k3.rd rfl, (lstE.of u3 u1 u2).rd rfl, by omega, by rw [List.singleton_append, ← hke]; omega, ?_⟩
      rw [decide_eq_true (show cI (k :: lo) = [(k : Int)] ++ cI lo from rfl)]
      refine ⟨_, m.frontI O k, rfl, hi.mS rfl rfl, rfl, fun e4 c4 k4 => ?_⟩
      refine ⟨_, _, cI (m.frontI O k).held, cI m.held, rfl, k4.rd rfl, hl5.rd rfl, by rw [p3]; omega, by omega, ?_⟩
      rw [decide_eq_true (show cI (m.frontI O k).held = cI m.held by rw [p3])]
      rfl

def sLaw7 : Spec := fun args h nx K => ∃ (a a2 : Int) (b : Option Addr) (len cap : Nat) (z : Nat → Nat → Int) (p : Nat → Nat → Bool), args = [.int .u8 a, .slice 2000 0 len cap, .int .u8 a2] ∧ fd 2000 (roH h) = .ro b len 3 (gMix ckA z p) ∧ (0 ≤ a ∧ a ≤ 255) ∧ (0 ≤ a2 ∧ a2 ≤ 255) ∧ len ≤ 9223372036854775807 ∧ K (.ret (.bool true)) h nx
theorem sLaw7_ok : SpecOK Try.prog 7 sLaw7 := by
  refine specOK_read (fn := Try.f7) rfl rfl rfl T_ok (SP := SPM) spm 0 _ ?_
  rintro args h nx K ⟨a, a2, b, len, cap, z, p, rfl, e, ha, ha2, hlen, hk⟩
  refine ⟨[(2000, .ro b len 3 (gMix ckA z p))], ⟨fun i c hi hc => trivial, trivial⟩, ⟨⟨e, _, _, _, _, rfl⟩, trivial⟩, ⟨trivial, rfl, trivial, trivial⟩, by simp [Try.f7], fun o => o = .ret (.bool true), ?_, ?_⟩
  · rintro o rfl
    exact ⟨trivial, hk⟩
  · intro c hc
    obtain ⟨cd, h1, h2⟩ := law7_walk hc ha ha2 (b := b) (cap := cap) (z := z) (p := p) hlen
    cases h1
    exact h2
end Go.Proofs.Ytdjekplkejkgdaa.Sx

