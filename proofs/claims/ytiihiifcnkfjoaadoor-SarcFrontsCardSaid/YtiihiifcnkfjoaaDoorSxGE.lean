import Derived.Test.YtiihiifcnkfjoaaDoorSxGA
/-
  The walks of this seat's functions: awake.
-/
namespace Go.Proofs.YtiihiifcnkfjoaaDoor.Sx
open Go Go.Proofs
set_option maxRecDepth 100000
set_option linter.unusedSimpArgs false
set_option linter.unusedVariables false

def lOf (i : Nat) : Int := if i = 2 then 0 else 1
def Pol.aw (p : Pol) (i : Nat) : Pol := (((p.enterP i (lOf i)).enterP i (lOf i)).readyP i).readyP i
def st0 : Pol := (Pol.new 4 1).missP 0
def stN : Nat → Pol
  | 0 => st0
  | i + 1 => (stN i).aw i
theorem stN_c (i : Nat) (hi : i < 3) : (stN i).enterC i (lOf i) = 0 ∧ ((stN i).enterP i (lOf i)).enterC i (lOf i) = 4 ∧ (((stN i).enterP i (lOf i)).enterP i (lOf i)).readyC i = 0 ∧ ((((stN i).enterP i (lOf i)).enterP i (lOf i)).readyP i).readyC i = 5 ∧ (stN i).R.length ≤ 10 ∧ ((stN i).enterP i (lOf i)).R.length ≤ 10 := by
  match i, hi with
  | 0, _ => decide
  | 1, _ => decide
  | 2, _ => decide
theorem stN_n (i : Nat) (hi : i < 4) : (stN i).m.n = 4 := by
  match i, hi with
  | 0, _ => decide
  | 1, _ => decide
  | 2, _ => decide
  | 3, _ => decide
theorem new_fit (n b : Int) : (Pol.new n b).Fit := ⟨Nat.zero_le _, Nat.zero_le _, Nat.zero_le _, Nat.zero_le _⟩
theorem st0_p : (Pol.new 4 1).missP 0 = st0 := rfl
theorem readyP_nb0 (p : Pol) (f : Int) : (p.readyP f).m.n = p.m.n ∧ (p.readyP f).m.b = p.m.b := by
  unfold Pol.readyP
  split
  · exact hold_nb
  · exact ⟨rfl, rfl⟩
theorem enterP_n (p : Pol) (f l : Int) : (p.enterP f l).m.n = p.m.n := by
  unfold Pol.enterP
  split
  · exact hold_nb.1.trans front_nb.1
  · rfl
theorem readyP_n (p : Pol) (f : Int) : (p.readyP f).m.n = p.m.n := (readyP_nb0 p f).1
/-- The policy behind all. -/
def stV : Pol := (stN 3).vicP
def stG : Pol := stV.withM (stV.m.dropI 0)
theorem stE : (stN 3).want = 1 ∧ (stN 3).miss = 1 ∧ cI ((stN 3).m.L 1) = [1, 0] ∧ (stN 3).vicI = (0, true) ∧ stV.roomI = 2 ∧ stV.m.lies 0 = 3 ∧ stG.hitC 9 0 = 1 ∧ stG.mayI 9 0 = false ∧ stV.m.n = 4 ∧ stG.m.n = 4 := by decide
theorem stG_fit : stG.Fit := ⟨by decide, by decide, by decide, by decide⟩
theorem new_fit4 : (Pol.new 4 1).Fit := new_fit _ _

theorem GP.f2 {bS bA bP bU N n : Nat} {s' : Sh} {p' : Pol} (hN : s'.N = N) (h : Hp) : fd 2 (GP bS bA bP bU N n s' p' ++ h) = eA bA s' := by subst hN; rfl
theorem GP.f9 {bS bA bP bU N n : Nat} {s' : Sh} {p' : Pol} (hn : p'.m.n = n) (h : Hp) : fd 9 (GP bS bA bP bU N n s' p' ++ h) = eU bU p' := by subst hn; rfl
theorem GP.wk2 {bS bA bP bU N n : Nat} {s' : Sh} {p' : Pol} (h : Hp) (hN : s'.N = N) (hn : p'.m.n = n) (hB : fd 1000 h = eB) : wkH (tau []) (GP bS bA bP bU N n s' p' ++ h) (HPW bS bA bP bU s' p') (HPW bS bA bP bU s' p') :=
  ⟨eS_wk ⟨rfl, trivial⟩, eA_wk hN, ⟨rfl, rfl, rfl, rfl, fun i c hi hc => by obtain rfl : i = 0 := (by omega); exact gP_rn trivial trivial hc⟩, ⟨rfl, hn.symm, rfl, rfl, fun i c hi hc => ⟨rfl, rfl⟩⟩, (by show wkE _ _ (fd 1000 h) _; rw [hB]; exact ⟨rfl, rfl, rfl, fun i c hi hc => ⟨rfl, rfl⟩⟩), trivial⟩
theorem HPW.wkIn {bS bA bP bU : Nat} {s : Sh} {p : Pol} {h h' rest : Hp} (e1 : fd 1 h = eS bS s) (e2 : fd 2 h = eA bA s) (e8 : fd 8 h = eP bP p) (e9 : fd 9 h = eU bU p) (eb : fd 1000 h = eB) (v1 : live h' 1) (v2 : live h' 2) (v9 : live h' 9) (hr : wkH (tau []) h h' rest) : wkH (tau []) h h' (HPW bS bA bP bU s p ++ rest) := by
  refine ⟨?_, ?_, ?_, ?_, ?_, hr⟩
  · show wkE _ _ (fd 1 h) _
    rw [e1]; exact eS_wk ⟨rfl, v2⟩
  · show wkE _ _ (fd 2 h) _
    rw [e2]; exact eA_wk rfl
  · show wkE _ _ (fd 8 h) _
    rw [e8]; exact ⟨rfl, rfl, rfl, rfl, fun i c hi hc => by obtain rfl : i = 0 := (by omega); exact gP_rn v1 v9 hc⟩
  · show wkE _ _ (fd 9 h) _
    rw [e9]; exact ⟨rfl, rfl, rfl, rfl, fun i c hi hc => ⟨rfl, rfl⟩⟩
  · show wkE _ _ (fd 1000 h) _
    rw [eb]; exact ⟨rfl, rfl, rfl, fun i c hi hc => ⟨rfl, rfl⟩⟩
theorem eA_N {bA N : Nat} {s' : Sh} (hN : s'.N = N) : Ent.blk bA N 5 (gA s'.u s'.d s'.l s'.lo s'.he) 86 = eA bA s' := by subst hN; rfl
theorem eU_N {bU n : Nat} {p' : Pol} (hn : p'.m.n = n) : Ent.blk bU n 1 (gU p') 3 = eU bU p' := by subst hn; rfl
def SPAw : SpT := [(10, sPNew), (20, PMiss), (21, PEnter), (22, PReady), (15, sPolicy), (18, PVic), (25, sInts), (16, sPRoom), (26, PGone), (23, PHit)]
theorem spaw : ∀ p ∈ SPAw, SpecOK Tryd.prog p.1 p.2 := consSP sPNew_ok (consSP pmiss_ok (consSP penter_ok (consSP pready_ok (consSP sPolicy_ok (consSP pvic_ok (consSP sInts_ok (consSP sPRoom_ok (consSP pgone_ok (consSP phit_ok noSP)))))))))

def sAwake : Spec := fun args h nx K => args = [] ∧ fd 1000 (roH h) = eB ∧ K (.ret (.bool true)) h nx
theorem sAwake_ok : SpecOK Tryd.prog 9 sAwake := by
  refine specOK_read2 (fn := Tryd.f9) rfl rfl rfl T_ok (SP := SPAw) spaw 0 _ ?_
  rintro args h nx K ⟨rfl, hB, hk⟩
  have told : Told h [] [(1000, eB)] [] := told_wk (tau []) rfl ⟨by show wkE _ _ (fd 1000 (roH h)) _; rw [hB]; exact ⟨rfl, rfl, rfl, fun i c hi hc => ⟨rfl, rfl⟩⟩, trivial⟩ trivial
  refine ⟨_, _, told, by simp [Tryd.f9], fun o => o = .ret (.bool true), ?_, ?_⟩
  · rintro o rfl; exact ⟨trivial, hk⟩
  intro cx hcx
  clear hk told hB
  have hE := mkE' (fn := Tryd.f9) (R := fun o _ _ => o = .ret (.bool true)) hcx spaw
  refine W_seq (nx := 0) ?_
  refine W_to (nx := 0) [] [(1000, eB)] 30 ?_ ?_
  · refine vc_sound hE 20 _ _ _ 30 ?_
    exact ⟨tau [], rfl, trivial, ⟨rfl, rfl, rfl, fun i c hi hc => ⟨rfl, rfl⟩⟩, trivial⟩
  refine W_seq (nx := 30) ?_
  -- a new one
  refine W_piece (nx := 30) (fun σ1 h1 _ => ∃ (bS bA bP bU : Nat) (s : Sh), (s.N = 6 ∧ Inv s (Pol.new 4 1).m 4) ∧ ∃ τ, wk τ σ1 h1 [(1, .ptr 8 0 0), (2, .int .i64 0)] (HPW bS bA bP bU s (Pol.new 4 1))) ?_ ?_
  · refine vc_sound hE 60 _ _ _ 30 ?_
    refine ⟨4, 1, rfl, fun _ => ⟨rfl, rfl, rfl, rfl⟩, fun e => (by cases e), fun e bS bA bP bU s hN hi => ?_⟩
    exact ⟨bS, bA, bP, bU, s, ⟨hN, hi⟩, tau [], rfl, (by repeat' (first | exact rfl | exact trivial | assumption | refine ⟨?_, ?_⟩)), HPW.wk⟩
  rintro σ1 h1 _ ⟨bS, bA, bP, bU, s, ⟨hN, hi⟩, τ1, hw1⟩
  refine W_weak (nx' := 30) τ1 hw1 ?_
  clear hw1
  refine W_seq (nx := 30) ?_
  refine W_to (nx := 30) [(1, .ptr 8 0 0), (2, .int .i64 0), (4, .int .i64 1)] (HPW bS bA bP bU s (Pol.new 4 1)) 30 ?_ ?_
  · refine vc_sound hE 60 _ _ _ 30 ?_
    refine ⟨0, 1, rfl, fun e => (by cases e), fun e => ?_, fun e => (by cases e)⟩
    exact ⟨tau [], rfl, (by repeat' (first | exact rfl | exact trivial | assumption | refine ⟨?_, ?_⟩)), HPW.wk⟩
  refine W_seq (nx := 30) ?_
  refine W_to (nx := 30) [(1, .ptr 8 0 0)] (HPW bS bA bP bU s (Pol.new 4 1)) 30 ?_ ?_
  · refine vc_sound hE 60 _ _ _ 30 ?_
    exact ⟨tau [], rfl, (by repeat' (first | exact rfl | exact trivial | assumption | refine ⟨?_, ?_⟩)), HPW.wk⟩
  refine W_seq (nx := 30) ?_
  -- a miss
  refine W_ex (nx := 30) (fun s' : Sh => s'.N = 6 ∧ Inv s' st0.m 4) (fun _ => [(1, .ptr 8 0 0), (5, .int .i64 0)]) (fun s' => HPW bS bA bP bU s' st0) 30 ?_ ?_
  · refine vc_sound hE 60 _ _ _ 30 ?_
    refine ⟨_, Pol.new 4 1, (Pol.new 4 1).missP 0, _, rfl, ⟨0, rfl, new_fit4, rfl, rfl⟩, bS, bA, bP, bU, s, hi, rfl, rfl, rfl, rfl, rfl, fun s' hN' hi' => ?_⟩
    exact ⟨s', ⟨hN'.trans hN, hi'⟩, tau [], rfl, (by repeat' (first | exact rfl | exact trivial | assumption | refine ⟨?_, ?_⟩)), GP.wk (p' := st0) hN' rfl⟩
  clear hN hi s
  rintro s ⟨hN, hi⟩
  -- three frames
  refine W_seq (nx := 30) ?_
  refine W_ex (nx := 30) (fun s' : Sh => s'.N = 6 ∧ Inv s' (stN 3).m 4) (fun _ => [(1, .ptr 8 0 0), (5, .int .i64 0)]) (fun s' => HPW bS bA bP bU s' (stN 3)) 30 ?_ ?_
  · refine W_seq (nx := 30) ?_
    refine W_to (nx := 30) [(1, .ptr 8 0 0), (5, .int .i64 0), (6, .int .i64 ((0 : Nat) : Int))] (HPW bS bA bP bU s (stN 0)) 30 ?_ ?_
    · refine vc_sound hE 60 _ _ _ 30 ?_
      exact ⟨tau [], rfl, (by repeat' (first | exact rfl | exact trivial | assumption | refine ⟨?_, ?_⟩)), HPW.wk (p := stN 0)⟩
    refine vc_sound hE 2 _ _ _ 30 ?_
    refine W_loop (fun r σ h => ∃ (i : Nat) (s : Sh), r = 3 - i ∧ i ≤ 3 ∧ s.N = 6 ∧ Inv s (stN i).m 4 ∧ σ = [(1, .ptr 8 0 0), (5, .int .i64 0), (6, .int .i64 (i : Int))] ∧ h = HPW bS bA bP bU s (stN i)) 3 ⟨0, s, rfl, by omega, hN, hi, rfl, rfl⟩ (tau []) ⟨rfl, (by repeat' (first | exact rfl | exact trivial | assumption | refine ⟨?_, ?_⟩)), HPW.wk (p := stN 0)⟩ 30 ?_
    clear hN hi s
    rintro r σ h1 ⟨i, s, rfl, hi3, hN, hi, rfl, rfl⟩
    by_cases h3 : i = 3
    · subst h3
      refine vc_sound hE 60 _ _ _ 30 ?_
      exact ⟨s, ⟨hN, hi⟩, tau [], rfl, (by repeat' (first | exact rfl | exact trivial | assumption | refine ⟨?_, ?_⟩)), HPW.wk (p := stN 3)⟩
    have hlt : i < 3 := by omega
    obtain ⟨c1, c2, c3, c4, f1, f2⟩ := stN_c i hlt
    have hn := stN_n i (by omega)
    have hw : IntKind.i64.wrap ((i : Int) + 1) = ((i + 1 : Nat) : Int) := by simp only [IntKind.wrap_i64]; omega
    obtain ⟨p, hp⟩ : ∃ p, p = stN i := ⟨_, rfl⟩
    have hp1 : stN (i + 1) = p.aw i := by rw [hp]; rfl
    rw [← hp] at hi c1 c2 c3 c4 f1 f2 hn ⊢
    have hi : Inv s p.m p.m.n := by rw [hn]; exact hi
    refine W_seq (nx := 30) ?_
    refine W_to (nx := 30) [(1, .ptr 8 0 0), (5, .int .i64 0), (6, .int .i64 (i : Int))] (HPW bS bA bP bU s p) 30 ?_ ?_
    · refine vc_sound hE 60 _ _ _ 30 ?_
      (refine (?_ : br _ _ _); refine br_decT (show (i : Int) < 3 by omega) ?_)
      exact ⟨tau [], rfl, (by repeat' (first | exact rfl | exact trivial | assumption | refine ⟨?_, ?_⟩)), HPW.wk⟩
    refine W_seq (nx := 30) ?_
    refine W_ex (nx := 30) (fun s' : Sh => s'.N = 6 ∧ Inv s' (p.aw i).m 4) (fun _ => [(1, .ptr 8 0 0), (5, .int .i64 0), (6, .int .i64 (i : Int))]) (fun s' => HPW bS bA bP bU s' (p.aw i)) 30 ?_ ?_
    · refine vc_sound hE 1 _ _ _ 30 ?_
      refine W_seq (nx := 30) ?_
      refine W_to (nx := 30) [(1, .ptr 8 0 0), (5, .int .i64 0), (6, .int .i64 (i : Int)), (7, .int .i64 1)] (HPW bS bA bP bU s p) 30 ?_ ?_
      · refine vc_sound hE 60 _ _ _ 30 ?_
        exact ⟨tau [], rfl, (by repeat' (first | exact rfl | exact trivial | assumption | refine ⟨?_, ?_⟩)), HPW.wk⟩
      refine W_seq (nx := 30) ?_
      refine W_to (nx := 30) [(1, .ptr 8 0 0), (5, .int .i64 0), (6, .int .i64 (i : Int)), (7, .int .i64 (lOf i))] (HPW bS bA bP bU s p) 30 ?_ ?_
      · refine vc_sound hE 60 _ _ _ 30 ?_
        by_cases h2 : i = 2
        · (refine (?_ : br _ _ _); refine br_eqT (show (i : Int) = 2 by omega) ?_)
          have e : lOf i = 0 := if_pos h2
          rw [e]
          exact ⟨tau [], rfl, (by repeat' (first | exact rfl | exact trivial | assumption | refine ⟨?_, ?_⟩)), HPW.wk⟩
        · (refine (?_ : br _ _ _); refine br_eqF (show (i : Int) ≠ 2 by omega) ?_)
          have e : lOf i = 1 := if_neg h2
          rw [e]
          exact ⟨tau [], rfl, (by repeat' (first | exact rfl | exact trivial | assumption | refine ⟨?_, ?_⟩)), HPW.wk⟩
      refine vc_sound hE 60 _ _ _ 30 ?_
      refine ⟨_, p, p.enterP i (lOf i), _, rfl, ⟨i, lOf i, rfl, by omega, rfl, rfl⟩, bS, bA, bP, bU, s, hi, rfl, rfl, rfl, rfl, rfl, fun s1 hN1 hi1 => ?_⟩
      (refine (?_ : br _ _ _); refine br_neF c1 ?_)
      refine ⟨_, p.enterP i (lOf i), (p.enterP i (lOf i)).enterP i (lOf i), _, rfl, ⟨i, lOf i, rfl, by omega, rfl, rfl⟩, bS, bA, bP, bU, s1, hi1, rfl, GP.f2 hN1 _, rfl, GP.f9 (enterP_n _ _ _) _, rfl, fun s2 hN2 hi2 => ?_⟩
      (refine (?_ : br _ _ _); refine br_neF c2 ?_)
      refine ⟨_, (p.enterP i (lOf i)).enterP i (lOf i), ((p.enterP i (lOf i)).enterP i (lOf i)).readyP i, _, rfl, ⟨i, rfl, rfl, rfl⟩, bS, bA, bP, bU, s2, hi2, rfl, GP.f2 hN2 _, rfl, GP.f9 (enterP_n _ _ _) _, rfl, fun s3 hN3 hi3 => ?_⟩
      (refine (?_ : br _ _ _); refine br_neF c3 ?_)
      refine ⟨_, ((p.enterP i (lOf i)).enterP i (lOf i)).readyP i, p.aw i, _, rfl, ⟨i, rfl, rfl, rfl⟩, bS, bA, bP, bU, s3, hi3, rfl, GP.f2 hN3 _, rfl, GP.f9 (readyP_n _ _) _, rfl, fun s4 hN4 hi4 => ?_⟩
      (refine (?_ : br _ _ _); refine br_neF c4 ?_)
      have hn4 : (p.aw i).m.n = 4 := by unfold Pol.aw; rw [readyP_n, readyP_n, enterP_n, enterP_n, hn]
      rw [hn4] at hi4
      exact ⟨s4, ⟨by rw [hN4, hN3, hN2, hN1, hN], hi4⟩, tau [], rfl, (by repeat' (first | exact rfl | exact trivial | assumption | refine ⟨?_, ?_⟩)), GP.wk2 _ (p' := p.aw i) hN4 (by unfold Pol.aw; rw [readyP_n]) rfl⟩
    rintro s' ⟨hN', hi'⟩
    refine vc_sound hE 60 _ _ _ 30 ?_
    refine ⟨3 - (i + 1), _, _, by omega, ⟨i + 1, s', rfl, by omega, hN', by rw [hp1]; exact hi', rfl, rfl⟩, tau [], rfl, ⟨⟨⟨rfl, trivial⟩, rfl, rfl⟩, ⟨rfl, rfl⟩, ⟨rfl, hw⟩, trivial⟩, ?_⟩
    rw [hp1]
    exact HPW.wk
  clear hN hi s
  rintro s ⟨hN, hi⟩
  obtain ⟨w1, w2, w3, w4, w5, w6, w7, w8, w9, wa⟩ := stE
  have hn3 := stN_n 3 (by omega)
  have hi : Inv s (stN 3).m (stN 3).m.n := by rw [hn3]; exact hi
  obtain ⟨p, hp⟩ : ∃ p, p = stN 3 := ⟨_, rfl⟩
  have hpV : stV = p.vicP := by rw [hp]; rfl
  rw [← hp] at w1 w2 w3 w4 hn3 hi ⊢
  refine W_seq (nx := 70) ?_
  refine W_piece (nx := 70) (fun σ1 h1 _ => ∃ (f0 f1 f2 : Ent) (d0 d1 d2 b : Nat), (lstE f0 (cI (p.m.L 0)) d0 ∧ lstE f1 (cI (p.m.L 1)) d1 ∧ lstE f2 (cI p.m.held) d2) ∧ ∃ τ, wk τ σ1 h1 [(1, .ptr 8 0 0), (5, .int .i64 0), (8, .ptr 73 0 0)] ((73, .blk b 1 6 (gOf 6 [.slice 70 0 (cI (p.m.L 0)).length d0, .slice 71 0 (cI (p.m.L 1)).length d1, .slice 72 0 (cI p.m.held).length d2, .int .i64 p.want, .int .u64 p.miss, .int .u64 p.hits]) 39) :: (70, f0) :: (71, f1) :: (72, f2) :: HPW bS bA bP bU s p)) ?_ ?_
  · refine vc_sound hE 60 _ _ _ 70 ?_
    refine ⟨p, rfl, HPW.r hi, rfl, rfl, rfl, fun f0 d0 f1 d1 f2 d2 hl0 hl1 hl2 => ?_⟩
    intro b
    have v3 : f0.here := lst_live hl0
    have v4 : f1.here := lst_live hl1
    have v5 : f2.here := lst_live hl2
    refine ⟨f0, f1, f2, d0, d1, d2, b, ⟨hl0, hl1, hl2⟩, tau [], rfl, (by repeat' (first | exact rfl | exact trivial | assumption | refine ⟨?_, ?_⟩)), ⟨rfl, rfl, rfl, rfl, fun i c hi hc => ?_⟩, lst_wk hl0 _ _, lst_wk hl1 _ _, lst_wk hl2 _ _, HPW.wkIn (rest := []) rfl rfl rfl rfl rfl trivial trivial trivial trivial⟩
    obtain rfl : i = 0 := (by have hi : i < 1 := hi; omega)
    match c, hc with
    | 0, _ => exact ⟨⟨rfl, v3⟩, rfl, rfl, rfl⟩
    | 1, _ => exact ⟨⟨rfl, v4⟩, rfl, rfl, rfl⟩
    | 2, _ => exact ⟨⟨rfl, v5⟩, rfl, rfl, rfl⟩
    | 3, _ => exact ⟨rfl, rfl⟩
    | 4, _ => exact ⟨rfl, rfl⟩
    | 5, _ => exact ⟨rfl, rfl⟩
  rintro σ1 h1 _ ⟨f0, f1, f2, d0, d1, d2, b, ⟨hl0, hl1, hl2⟩, τ1, hw1⟩
  refine W_weak (nx' := 80) τ1 hw1 ?_
  clear hw1
  refine vc_sound hE 200 _ _ _ 80 ?_
  refine ⟨_, p, stV, _, rfl, ⟨rfl, hpV, rfl⟩, bS, bA, bP, bU, s, hi, rfl, rfl, rfl, rfl, rfl, fun s1 hN1 hi1 => ?_⟩
  have hV2 : stV.m.n = p.m.n := by rw [w9, hn3]
  (refine (?_ : br _ _ _); refine br_eqT (show ((p.want : Nat) : Int) = 1 by rw [w1]; rfl) ?_)
  (refine (?_ : br _ _ _); refine br_eqT (show ((p.miss : Nat) : Int) = 1 by rw [w2]; rfl) ?_)
  intro b2
  refine ⟨_, _, cI (p.m.L 1), [1, 0], rfl, ?_, .inr ⟨80, 0, 2, _, 2, _, rfl, rfl, Nat.le_refl _, fun j hj => ?_⟩, by rw [w3]; simp, by simp, ?_⟩
  · exact hl1.rd rfl
  · have hj : j < 2 := hj
    match j, hj with
    | 0, _ => rfl
    | 1, _ => rfl
  (refine (?_ : br _ _ _); refine br_decT w3 ?_)
  (refine (?_ : br _ _ _); refine br_eqT (show p.vicI.1 = 0 by rw [w4]) ?_)
  (refine (?_ : br _ _ _); refine br_t (show p.vicI.2 = true by rw [w4]) ?_)
  refine ⟨stV, rfl, ⟨bS, bA, bP, bU, s1, hi1, ?_, ?_, ?_, ?_, ?_⟩, ?_⟩
  · rfl
  · show Ent.toRo (.blk bA s.N 5 _ 86) = _; rw [hN1]; rfl
  · rfl
  · show Ent.toRo (.blk bU p.m.n 1 _ 3) = _; rw [← hV2]; rfl
  · rfl
  refine ⟨_, stV, stG, _, rfl, ⟨0, rfl, rfl, rfl⟩, bS, bA, bP, bU, s1, hi1, rfl, ?_, rfl, ?_, rfl, fun s2 hN2 hi2 => ?_⟩
  · exact eA_N hN1
  · exact eU_N hV2
  refine ⟨_, stG, stG.hitP 9 0, _, rfl, ⟨9, 0, rfl, stG_fit, rfl, rfl⟩, bS, bA, bP, bU, s2, hi2, rfl, ?_, rfl, ?_, rfl, fun s3 hN3 hi3 => ?_⟩
  · exact eA_N hN2
  · show Ent.blk bU stV.m.n 1 _ 3 = Ent.blk bU stG.m.n 1 _ 3; rw [w9, wa]
  exact outB (by rw [w7]; rfl)
end Go.Proofs.YtiihiifcnkfjoaaDoor.Sx

