import Derived.Test.YtkncijljkfpdiaaSxWH
/-
  The walks of this seat's laws: LaneApart.
-/
namespace Go.Proofs.Ytkncijljkfpdiaa.Sx
open Go Go.Proofs
set_option maxRecDepth 100000
set_option linter.unusedSimpArgs false
set_option linter.unusedVariables false

/-! ### One lane alone -/
def filt (S : Std) (o : Nat) : Std := S.filter fun p => p.1 == o
theorem filt_lane {S : Std} {o : Nat} : lane (filt S o) o = lane S o := by unfold lane filt; rw [List.filter_filter]; simp
theorem filt_len {S : Std} {o : Nat} : (filt S o).length = (lane S o).length := by unfold lane filt; rw [List.length_map]
theorem filt_sub {S : Std} {o : Nat} : (filt S o).Sublist S := List.filter_sublist
theorem has_mem {S : Std} {t : Int} : hasT S t = true ↔ ∃ b, (b, t) ∈ S := by
  rw [hasT_iff, List.mem_map]
  constructor
  · rintro ⟨⟨b, u⟩, h, rfl⟩; exact ⟨b, h⟩
  · rintro ⟨b, h⟩; exact ⟨_, h, rfl⟩
theorem filt_no {S : Std} {o : Nat} {t : Int} (h : hasT S t = false) : hasT (filt S o) t = false := by
  cases e : hasT (filt S o) t with
  | false => rfl
  | true =>
    obtain ⟨b, hb⟩ := has_mem.1 e
    rw [has_mem.2 ⟨b, filt_sub.subset hb⟩] at h; cases h
theorem filt_fit {n room : Nat} {S : Std} {o : Nat} (hF : Fit n room S) : Fit n room (filt S o) :=
  ⟨Nat.le_trans filt_sub.length_le hF.len, hF.room, hF.blocks, fun p hp => hF.blk p (filt_sub.subset hp), fun p hp => hF.tick p (filt_sub.subset hp), hF.nd.sublist (filt_sub.map _)⟩
theorem filt_push {n room : Nat} {S : Std} {o : Nat} {b t : Int} (h : hasT S t = false) (hl : S.length < room) :
    (b = o → pushC n room (filt S o) b t = pushC n room S b t ∧ pushS n room (filt S o) b t = filt (pushS n room S b t) o) ∧ (b ≠ o → filt (pushS n room S b t) o = filt S o) := by
  have hl2 : (filt S o).length < room := Nat.lt_of_le_of_lt filt_sub.length_le hl
  have hC : pushC n room (filt S o) b t = pushC n room S b t := by
    unfold pushC
    rw [h, filt_no h, if_neg (show ¬ S.length = room by omega), if_neg (show ¬ (filt S o).length = room by omega)]
  by_cases h0 : pushC n room S b t = 0
  · obtain ⟨bn, rfl, -⟩ := pushC_zero h0
    refine ⟨fun e => ⟨hC, ?_⟩, fun e => ?_⟩
    · have e : bn = o := by omega
      subst e
      rw [pushS_of (hC.trans h0), pushS_of h0]
      unfold filt
      rw [List.filter_append]
      simp
    · have e : bn ≠ o := by rintro rfl; exact e rfl
      rw [pushS_of h0]
      unfold filt
      rw [List.filter_append]
      simp [e]
  · refine ⟨fun e => ⟨hC, ?_⟩, fun e => ?_⟩
    · rw [pushS_ne (by rw [hC]; exact h0), pushS_ne h0]
    · rw [pushS_ne h0]
theorem filt_pull {o : Nat} {t : Int} : ∀ {S : Std}, filt (pullS S t) o = if hasT S t = true ∧ blkT S t = o then pullS (filt S o) t else filt S o
  | [] => by
    rw [if_neg (by intro q; cases q.1)]
    rfl
  | p :: S => by
    obtain ⟨a, x⟩ := p
    by_cases e : x = t
    · subst e
      have hb : blkT ((a, x) :: S) x = a := by unfold blkT; simp
      have hh : hasT ((a, x) :: S) x = true := by unfold hasT; simp
      have hp : pullS ((a, x) :: S) x = S := by unfold pullS; rw [List.eraseP_cons_of_pos (by simp)]
      rw [hb, hp, hh]
      by_cases w : a = o
      · subst w
        rw [if_pos ⟨rfl, rfl⟩]
        unfold filt
        rw [List.filter_cons, if_pos (by simp)]
        unfold pullS
        rw [List.eraseP_cons_of_pos (by simp)]
      · rw [if_neg (by intro q; exact w (by omega))]
        unfold filt
        rw [List.filter_cons, if_neg (by simpa using w)]
    · have e' : (x == t) = false := by simpa using e
      have hp : pullS ((a, x) :: S) t = (a, x) :: pullS S t := by unfold pullS; rw [List.eraseP_cons_of_neg (by simpa using e)]
      have hh : hasT ((a, x) :: S) t = hasT S t := by unfold hasT; simp [e']
      have hb : blkT ((a, x) :: S) t = blkT S t := by unfold blkT; rw [List.find?_cons]; simp only [e']
      rw [hb, hp, hh]
      have ih := filt_pull (o := o) (t := t) (S := S)
      by_cases w : a = o
      · subst w
        have h1 : ∀ R : Std, filt ((a, x) :: R) a = (a, x) :: filt R a := fun R => by unfold filt; rw [List.filter_cons, if_pos (by simp)]
        rw [h1, h1, ih]
        split
        · unfold pullS; rw [List.eraseP_cons_of_neg (by simpa using e)]
        · rfl
      · have h1 : ∀ R : Std, filt ((a, x) :: R) o = filt R o := fun R => by unfold filt; rw [List.filter_cons, if_neg (by simpa using w)]
        rw [h1, h1, ih]
theorem filt_has {n room : Nat} {S : Std} {o : Nat} {t : Int} (hF : Fit n room S) (h : hasT S t = true) (hb : blkT S t = o) : hasT (filt S o) t = true := by
  obtain ⟨b, e, hm⟩ := blkT_mem h
  have : b = o := by omega
  subst this
  exact has_mem.2 ⟨b, List.mem_filter.2 ⟨hm, by simp⟩⟩
/-! ### The structure that was made first, put aside -/
abbrev newO (bL bM bR : Nat) : Ob := ⟨bL, bM, bR, [], fun _ => nilE, fun _ => 0⟩
theorem HNew.out {bL bM bR n room : Nat} {h : Hp} {t : Nat} (ht : n + 3000 ≤ t) : fd t (HNew bL bM bR n room ++ h) = fd t h := by
  refine fd_appR fun q => ?_
  have := HLw_keys (fun t ht => by cases ht) q
  omega
theorem HY.back {n room : Nat} {Y : Ob} {eX : Ent} {h' : Hp} {ρ : Nat → Nat} (hY : LnT h' n room Y (ρ 5008) (ρ 5009) (ρ 5002) (fun i => ρ (i + 8000))) (inj : ∀ t u, ρ t = ρ u → t = u) (hr : wkE ρ ((100, eX) :: HY n room Y) (fd (ρ 100) h') eX) :
    nodupB (((((100, eX) :: HY n room Y) : Hp).map (·.1)).map ρ) = true ∧ wkH ρ h' ((100, eX) :: HY n room Y) ((100, eX) :: HY n room Y) := by
  have oY : ObOK n Y := fun i hi => (hY.lst i hi).2
  refine ⟨nodupB_of ?_, hr, ?_⟩
  · unfold List.Nodup
    rw [List.pairwise_map]
    have base : ((((100, eX) :: HY n room Y) : Hp).map (·.1)).Nodup := by
      unfold HY
      rw [List.map_cons, List.map_cons, List.map_cons, List.map_cons, lanes_keys]
      refine List.nodup_cons.2 ⟨?_, List.nodup_cons.2 ⟨?_, List.nodup_cons.2 ⟨?_, List.nodup_cons.2 ⟨?_, nodup_shift⟩⟩⟩⟩
      · simp only [List.mem_cons, List.mem_map, not_or]; exact ⟨by decide, by decide, by decide, fun ⟨i, _, q⟩ => by omega⟩
      · simp only [List.mem_cons, List.mem_map, not_or]; exact ⟨by decide, by decide, fun ⟨i, _, q⟩ => by omega⟩
      · simp only [List.mem_cons, List.mem_map, not_or]; exact ⟨by decide, fun ⟨i, _, q⟩ => by omega⟩
      · simp only [List.mem_map]; exact fun ⟨i, _, q⟩ => by omega
    exact base.imp fun h q => h (inj _ _ q)
  · obtain ⟨gl', g', ⟨y1, y2, y3, y4⟩, y5, y6⟩ := hY.ex
    have vh : ∀ t, 5000 ≤ t → live (HY n room Y) t → live ((100, eX) :: HY n room Y) t := fun t ht q => by unfold live at q ⊢; rw [fd_cons, if_neg (by omega)]; exact q
    refine ⟨?_, ?_, ?_, wkH_lanes fun i hi => ?_⟩
    · rw [y5]
      refine ⟨rfl, rfl, rfl, rfl, fun i c hi hc => ?_⟩
      obtain rfl : c = 0 := by omega
      rw [y6 i hi]
      exact ⟨⟨rfl, vh _ (by omega) (live_fd (HYfd hi) (lst_live (oY i hi)))⟩, rfl, rfl, rfl⟩
    · rw [hY.map]; exact ⟨rfl, rfl⟩
    · rw [y1]
      refine ⟨rfl, rfl, rfl, rfl, fun i c hi hc => ?_⟩
      obtain rfl : i = 0 := (by omega)
      match c, hc with
      | 0, _ => rw [y2]; exact ⟨⟨rfl, trivial⟩, rfl, rfl, rfl⟩
      | 1, _ => rw [y3]; exact ⟨rfl, rfl⟩
      | 2, _ => rw [y4]; exact ⟨rfl, trivial⟩
    · rw [(hY.lst i hi).1]; exact lst_wk (oY i hi) _ _

theorem LnT.cong {h : Hp} {n room : Nat} {X : Ob} {t8 t9 t2 : Nat} {q q' : Nat → Nat} (H : LnT h n room X t8 t9 t2 q) (hq : ∀ i, i < n → q' i = q i) : LnT h n room X t8 t9 t2 q' := by
  obtain ⟨gl, g, a, b, d⟩ := H.ex
  exact ⟨⟨gl, g, a, b, fun i hi => by rw [hq i hi]; exact d i hi⟩, H.map, fun i hi => by rw [hq i hi]; exact H.lst i hi⟩
theorem LnT.cons {h : Hp} {n room : Nat} {X : Ob} {t8 t9 t2 : Nat} {q : Nat → Nat} (H : LnT h n room X t8 t9 t2 q) {t : Nat} {x : Ent} (h8 : t8 ≠ t) (h9 : t9 ≠ t) (h2 : t2 ≠ t) (hq : ∀ i, i < n → q i ≠ t) : LnT ((t, x) :: h) n room X t8 t9 t2 q :=
  H.fdeq (by rw [fd_cons, if_neg h8]) (by rw [fd_cons, if_neg h9]) (by rw [fd_cons, if_neg h2]) (fun i hi => by rw [fd_cons, if_neg (hq i hi)])
theorem LnT.c {h : Hp} {n room : Nat} {X : Ob} (H : LnT h n room X 8 9 2 (· + 3000)) {t : Nat} {x : Ent} (ht : 9 < t ∧ t < 3000) : LnT ((t, x) :: h) n room X 8 9 2 (· + 3000) := H.cons (by omega) (by omega) (by omega) fun i _ => by show i + 3000 ≠ t; omega
theorem LnT.c5 {h : Hp} {n room : Nat} {X : Ob} (H : LnT h n room X 5008 5009 5002 (· + 8000)) {t : Nat} {x : Ent} (ht : 9 < t ∧ t < 3000) : LnT ((t, x) :: h) n room X 5008 5009 5002 (· + 8000) := H.cons (by omega) (by omega) (by omega) fun i _ => by show i + 8000 ≠ t; omega
theorem H2.x {n room : Nat} {X Y : Ob} {rest : Hp} (hl : Low rest) (hn : n ≤ 256) (hX : ObOK n X) : LnT (H2 n room X Y rest) n room X 8 9 2 (· + 3000) := (H2.q hl hn hX).T
theorem Ren1.high {τ : Nat → Nat} (hτ : Ren1 τ) {t : Nat} (h : 3256 ≤ t) : τ t = t := by
  obtain ⟨b, q, ⟨h1, h2⟩, h3⟩ := hτ
  rw [h3, if_neg (by omega), if_neg (by omega)]
theorem H2.step {n room : Nat} {X Y : Ob} {rest h' : Hp} {g' : Nat → Nat → V} {S' : Std} {e' : Nat → Ent} {cp' : Nat → Nat} {τ : Nat → Nat} (k1 : Else n (H2 n room X Y rest) h') (k2 : LnQ h' X.bL X.bM X.bR n room g' S' e' cp' τ) (hτ : Ren1 τ) (hn : n ≤ 256) (hl : Low rest) (hk : nodupB (rest.map (·.1)) = true) (hY : ObOK n Y)
    (hr : wkJ τ (H2 n room X Y rest) (H2 n room ⟨X.bL, X.bM, X.bR, S', e', cp'⟩ Y rest) rest) : nodupB (((H2 n room ⟨X.bL, X.bM, X.bR, S', e', cp'⟩ Y rest).map (·.1)).map τ) = true ∧ wkH τ h' (H2 n room ⟨X.bL, X.bM, X.bR, S', e', cp'⟩ Y rest) (H2 n room ⟨X.bL, X.bM, X.bR, S', e', cp'⟩ Y rest) := by
  have e : ∀ t, 3256 ≤ t → fd t h' = fd t (H2 n room X Y rest) := fun t ht => k1 t (by omega) (by omega) (.inr (by omega))
  refine H2.back hn ?_ ?_ (fun t u q => hτ.one q) hl hk (wkJ_H (fun t ht => ?_) hr)
  · rw [hτ.low (by decide), hτ.low (by decide), hτ.low (by decide)]
    exact k2.T
  · rw [hτ.high (by decide), hτ.high (by decide), hτ.high (by decide)]
    exact ((H2.y hl hn hY).cong (fun i hi => hτ.high (by omega))).fdeq (e _ (by decide)) (e _ (by decide)) (e _ (by decide)) (fun i hi => by rw [hτ.high (by omega)]; exact e _ (by omega))
  · have := hl.mem ht
    rw [hτ.low (by omega)]
    exact k1 t this.2.1 this.2.2.1 (.inl this.1)
theorem H2.swap {n room : Nat} {X Y : Ob} {rest : Hp} (hn : n ≤ 256) (hl : Low rest) (hk : nodupB (rest.map (·.1)) = true) (hX : ObOK n X) (hY : ObOK n Y) (hr : wkH sw (H2 n room X Y rest) (H2 n room Y X rest) rest) :
    nodupB (((H2 n room Y X rest).map (·.1)).map sw) = true ∧ wkH sw (H2 n room X Y rest) (H2 n room Y X rest) (H2 n room Y X rest) :=
  H2.back hn ((H2.y hl hn hY).cong fun i hi => (sw_lane (by omega)).1) (((H2.q hl hn hX).T).cong fun i hi => (sw_lane (by omega)).2) sw_inj hl hk hr
theorem swp_inj (a b t u : Nat) (h : tau [(a, b), (b, a)] t = tau [(a, b), (b, a)] u) : t = u := by
  have e : ∀ t, tau [(a, b), (b, a)] t = if t = a then b else if t = b then a else t := fun t => by
    unfold tau
    by_cases h1 : t = a
    · subst h1; simp
    · rw [beq_ne h1, if_neg h1]
      unfold tau
      by_cases h2 : t = b
      · subst h2; simp
      · rw [beq_ne h2, if_neg h2]; rfl
  rw [e, e] at h
  split at h <;> split at h <;> (try split at h) <;> (try split at h) <;> omega
theorem HY_gone {n room : Nat} {Y : Ob} {t : Nat} (h : t < 5000) : fd t (HY n room Y) = .gone := fd_out fun q => by have := HY_keys q; omega
theorem HY.T {n room : Nat} {Y : Ob} {eX : Ent} (hY : ObOK n Y) : LnT ((100, eX) :: HY n room Y) n room Y 5008 5009 5002 (· + 8000) := by
  refine ⟨⟨gL8 n room, gR8 Y.S Y.cp, ⟨rfl, rfl, rfl, rfl⟩, rfl, fun i hi => rfl⟩, rfl, fun i hi => ⟨?_, hY i hi⟩⟩
  rw [fd_cons, if_neg (by show i + 8000 ≠ 100; omega)]
  exact HYfd hi
def gA (k b t : Int) : Nat → Nat → V := fun _ c => match c with | 0 => .int .i64 k | 1 => .int .i64 b | _ => .int .i64 t
theorem gA_wk {bx : Nat} {k b t : Int} (τ : Nat → Nat) (h' : Hp) : wkE τ h' (.blk bx 1 3 (gA k b t) 38) (.blk bx 1 3 (gA k b t) 38) := ⟨rfl, rfl, rfl, rfl, fun i c hi hc => match c, hc with | 0, _ => ⟨rfl, rfl⟩ | 1, _ => ⟨rfl, rfl⟩ | 2, _ => ⟨rfl, rfl⟩⟩
def SP5 : SpT := [(8, sAwake), (9, sNew), (10, sPush), (12, sPull), (13, sBlock), (11, sLen), (17, sLane), (16, sInts)]
theorem sp5 : ∀ p ∈ SP5, SpecOK Try.prog p.1 p.2 := consSP sAwake_ok (consSP sNew_ok (consSP sPush_ok (consSP sPull_ok (consSP sBlock_ok (consSP sLen_ok (consSP sLane_ok (consSP sInts_ok noSP)))))))
abbrev G6 : Hp := [(60, .gone), (61, .gone), (62, .gone), (63, .gone), (64, .gone)]
abbrev P0 (eX : Ent) : Hp := (100, eX) :: G6
abbrev P1 (eX eA : Ent) : Hp := (100, eX) :: (220, eA) :: G6
abbrev P3 (eX eL : Ent) : Hp := (100, eX) :: (210, eL) :: G6
set_option maxHeartbeats 4000000 in
theorem apart_walk {c : Cx} (hc : c.P = Try.prog) {ub : Option Addr} {len cap : Nat} {z : Nat → Nat → Int} {o : Nat} (ho : o < 256) (hlen : len ≤ 9223372036854775807) :
    ∃ cd, Try.f5.body = some cd ∧ W ⟨c, Try.f5, T, SP5, fun o _ _ => o = .ret (.bool true)⟩ [.code cd] (argsS [.int .u8 (o : Int), .slice 100 0 len cap] 0) [(100, .ro ub len 3 (gT z))] 0 := by
  refine ⟨_, rfl, ?_⟩
  have hE := mkE' (fn := Try.f5) (R := fun o _ _ => o = .ret (.bool true)) hc sp5
  obtain ⟨eX, hX⟩ : ∃ eX : Ent, eX = .ro ub len 3 (gT z) := ⟨_, rfl⟩
  have wX : ∀ τ h', wkE τ h' eX eX := fun τ h' => by rw [hX]; exact gT_wk _ _
  rw [← hX]
  have vX : eX.here := by rw [hX]; trivial
  have vX0 : live [(100, eX)] 100 := vX
  have hwk : wkH (tau []) [(100, eX)] [(100, eX)] [(100, eX)] := ⟨wX _ _, trivial⟩
  have wG : ∀ τ h h', wkH τ h h' G6 := fun τ h h' => ⟨wk_gone, wk_gone, wk_gone, wk_gone, wk_gone, trivial⟩
  have wJ : ∀ τ h h', wkJ τ h h' G6 := fun τ h h' => ⟨wk_gone, wk_gone, wk_gone, wk_gone, wk_gone, trivial⟩
  obtain ⟨n, hn⟩ : ∃ n : Nat, n = 256 := ⟨_, rfl⟩
  have hn2 : n ≤ 256 := by omega
  refine W_seq (nx := 0) ?_
  refine W_to (nx := 0) [(0, .int .u8 (o : Int)), (1, .slice 100 0 len cap)] [(100, eX)] 30 ?_ ?_
  · refine vc_sound hE 20 _ _ _ 30 ?_
    exact ⟨tau [], rfl, (by repeat' (first | exact rfl | exact trivial | assumption | refine ⟨?_, ?_⟩)), hwk⟩
  refine W_seq (nx := 30) ?_
  refine W_to (nx := 30) [(0, .int .u8 (o : Int)), (1, .slice 100 0 len cap)] [(100, eX)] 30 ?_ ?_
  · refine vc_sound hE 60 _ _ _ 30 ?_
    refine ⟨rfl, ?_⟩
    exact ⟨tau [], rfl, (by repeat' (first | exact rfl | exact trivial | assumption | refine ⟨?_, ?_⟩)), hwk⟩
  refine W_seq (nx := 30) ?_
  refine W_ex (nx := 30) (fun (a : Nat × Nat × Nat) => True) (fun a => [(0, .int .u8 (o : Int)), (1, .slice 100 0 len cap), (5, .ptr 5008 0 0)]) (fun a => (100, eX) :: HY n 128 (newO a.1 a.2.1 a.2.2)) 30 ?_ ?_
  · refine vc_sound hE 40 _ _ _ 30 ?_
    refine ⟨256, 128, rfl, fun q => absurd q (by decide), fun n' room hm hn' hr => ?_⟩
    obtain rfl : n' = n := by omega
    obtain rfl : room = 128 := by omega
    refine ⟨rfl, rfl, rfl, fun i hi => low_gone rfl, fun bL bM bR => ?_⟩
    have v : live ((100, eX) :: HY n' 128 (newO bL bM bR)) 100 := vX
    have v2 : live ((100, eX) :: HY n' 128 (newO bL bM bR)) 5008 := trivial
    obtain ⟨k1, k2⟩ := HY.back (h' := HNew bL bM bR n' 128 ++ [(100, eX)]) (Y := newO bL bM bR) (eX := eX) (ρ := sw) ((HNew.q (h := [(100, eX)])).T.cong fun i hi => (sw_lane (by omega)).2) sw_inj (by rw [show sw 100 = 100 from rfl, HNew.else (by decide) (by decide) (by decide) (by decide)]; exact wX _ _)
    exact ⟨(bL, bM, bR), trivial, sw, k1, (by repeat' (first | exact rfl | exact trivial | assumption | refine ⟨?_, ?_⟩)), k2⟩
  rintro ⟨bL, bM, bR⟩ -
  have o0 : ∀ bL bM bR, ObOK n (newO bL bM bR) := fun bL bM bR i hi => nilL
  refine W_seq (nx := 30) ?_
  have low0 : Low (P0 eX) := rfl
  refine W_ex (nx := 30) (fun (a : Nat × Nat × Nat) => True) (fun a => [(0, .int .u8 (o : Int)), (1, .slice 100 0 len cap), (5, .ptr 8 0 0), (7, .ptr 5008 0 0)]) (fun a => H2 n 128 (newO bL bM bR) (newO a.1 a.2.1 a.2.2) (P0 eX)) 30 ?_ ?_
  · refine vc_sound hE 40 _ _ _ 30 ?_
    refine ⟨256, 128, rfl, fun q => absurd q (by decide), fun n' room hm hn' hr => ?_⟩
    obtain rfl : n' = n := by omega
    obtain rfl : room = 128 := by omega
    refine ⟨?_, ?_, ?_, fun i hi => ?_, fun bL' bM' bR' => ?_⟩
    · rw [fd_cons, if_neg (by decide)]; exact HY_gone (by decide)
    · rw [fd_cons, if_neg (by decide)]; exact HY_gone (by decide)
    · rw [fd_cons, if_neg (by decide)]; exact HY_gone (by decide)
    · rw [fd_cons, if_neg (by omega)]; exact HY_gone (by omega)
    have v : live (H2 n' 128 (newO bL bM bR) (newO bL' bM' bR') (P0 eX)) 100 := vX
    have v2 : live (H2 n' 128 (newO bL bM bR) (newO bL' bM' bR') (P0 eX)) 5008 := by
      unfold live; rw [H2_high low0 hn2 (by decide)]; trivial
    obtain ⟨k1, k2⟩ := H2.back (n := n') (room := 128) (X := newO bL bM bR) (Y := newO bL' bM' bR') (rest := P0 eX) (h' := HNew bL' bM' bR' n' 128 ++ ((100, eX) :: HY n' 128 (newO bL bM bR))) (ρ := sw) hn2
      (((HY.T (o0 bL bM bR)).cong fun i hi => (sw_lane (by omega)).1).fdeq (HNew.out (by omega)) (HNew.out (by omega)) (HNew.out (by omega)) (fun i hi => by rw [(sw_lane (by omega)).1]; exact HNew.out (by omega)))
      ((HNew.q (h := ((100, eX) :: HY n' 128 (newO bL bM bR)))).T.cong fun i hi => (sw_lane (by omega)).2) sw_inj low0 rfl
      ⟨(by show wkE sw _ (fd (sw 100) _) eX; rw [show sw 100 = 100 from rfl, HNew.else (by decide) (by decide) (by decide) (by decide)]; exact wX _ _), wG _ _ _⟩
    exact ⟨(bL', bM', bR'), trivial, sw, k1, (by repeat' (first | exact rfl | exact trivial | assumption | refine ⟨?_, ?_⟩)), k2⟩
  rintro ⟨bL', bM', bR'⟩ -
  have low1 : ∀ eA, Low (P1 eX eA) := fun _ => rfl
  have v0 : ∀ X Y, live (H2 n 128 X Y (P0 eX)) 100 := fun _ _ => vX
  have v5 : ∀ X Y rest, Low rest → live (H2 n 128 X Y rest) 5008 := fun X Y rest hl => by unfold live; rw [H2_high hl hn2 (by decide)]; trivial
  have re0 : ∀ X Y, ObOK n X → ObOK n Y → nodupB (((H2 n 128 X Y (P0 eX)).map (·.1)).map (tau [])) = true ∧ wkH (tau []) (H2 n 128 X Y (P0 eX)) (H2 n 128 X Y (P0 eX)) (H2 n 128 X Y (P0 eX)) := fun X Y hX hY => H2.back hn2 (H2.q low0 hn2 hX).T (H2.y low0 hn2 hY) (fun t u h => h) low0 rfl ⟨wX _ _, wG _ _ _⟩
  refine W_seq (nx := 30) ?_
  refine W_to (nx := 30) [(0, .int .u8 (o : Int)), (1, .slice 100 0 len cap), (5, .ptr 8 0 0), (7, .ptr 5008 0 0)] (H2 n 128 (newO bL bM bR) (newO bL' bM' bR') (P0 eX)) 30 ?_ ?_
  · refine vc_sound hE 60 _ _ _ 30 ?_
    have v := v0 (newO bL bM bR) (newO bL' bM' bR')
    have w := v5 (newO bL bM bR) (newO bL' bM' bR') _ low0
    exact ⟨tau [], (re0 _ _ (o0 _ _ _) (o0 _ _ _)).1, (by repeat' (first | exact rfl | exact trivial | assumption | refine ⟨?_, ?_⟩)), (re0 _ _ (o0 _ _ _) (o0 _ _ _)).2⟩
  refine W_seq (nx := 30) ?_
  refine W_piece (nx := 30) (fun _ _ _ => True) ?_ ?_
  rotate_left
  · intro σ1 h1 _ _
    refine vc_sound hE 60 _ _ _ 30 ?_
    rfl
  have hfit0 : Fit n 128 [] := ⟨by simp, by decide, by omega, by simp, by simp, by simp⟩
  refine vc_sound hE 5 _ _ _ 30 ?_
  have v := v0 (newO bL bM bR) (newO bL' bM' bR')
  have w := v5 (newO bL bM bR) (newO bL' bM' bR') _ low0
  refine W_loop (fun q σ h => ∃ (i : Nat) (X Y : Ob), q = len - i ∧ i ≤ len ∧ i ≤ 100 ∧ Fit n 128 X.S ∧ X.S.length ≤ i ∧ Y.S = filt X.S o ∧ ObOK n X ∧ ObOK n Y ∧ σ = [(0, .int .u8 (o : Int)), (1, .slice 100 0 len cap), (5, .ptr 8 0 0), (7, .ptr 5008 0 0), (9, .int .i64 (i : Int))] ∧ h = H2 n 128 X Y (P0 eX))
    len ⟨0, newO bL bM bR, newO bL' bM' bR', rfl, by omega, by omega, hfit0, Nat.zero_le _, rfl, o0 _ _ _, o0 _ _ _, rfl, rfl⟩ (tau []) ⟨(re0 _ _ (o0 _ _ _) (o0 _ _ _)).1, (by repeat' (first | exact rfl | exact trivial | assumption | refine ⟨?_, ?_⟩)), (re0 _ _ (o0 _ _ _) (o0 _ _ _)).2⟩ 60 ?_
  clear v w
  rintro q σ h1 ⟨i, X, Y, rfl, hi, hi100, hF, hXl, hYS, hOX, hOY, rfl, rfl⟩
  have v := v0 X Y
  have w := v5 X Y _ low0
  refine W_seq (nx := 60) ?_
  refine W_piece (nx := 60) (fun σ1 h1 _ => (i < len ∧ i < 100) ∧ ∃ τ, wk τ σ1 h1 [(0, .int .u8 (o : Int)), (1, .slice 100 0 len cap), (5, .ptr 8 0 0), (7, .ptr 5008 0 0), (9, .int .i64 (i : Int))] (H2 n 128 X Y (P0 eX))) ?_ ?_
  · refine vc_sound hE 60 _ _ _ 60 ?_
    (refine (?_ : br _ _ _); refine br_dec (fun q => ?_) (fun q => ?_))
    · have q1 : (i : Int) < (len : Int) := q
      (refine (?_ : br _ _ _); refine br_dec (fun q => ?_) (fun q => ?_))
      · have q2 : (i : Int) < 100 := q
        exact ⟨⟨by omega, by omega⟩, tau [], (re0 _ _ hOX hOY).1, (by repeat' (first | exact rfl | exact trivial | assumption | refine ⟨?_, ?_⟩)), (re0 _ _ hOX hOY).2⟩
      · exact trivial
    · exact trivial
  rintro σ1 h1 _ ⟨⟨hil, hi3⟩, τ1, hw1⟩
  refine W_weak (nx' := 60) τ1 hw1 ?_
  clear hw1
  have hwi : IntKind.i64.wrap ((i : Int) + 1) = ((i + 1 : Nat) : Int) := by simp only [IntKind.wrap_i64]; omega
  have hwo : IntKind.i64.wrap (o : Int) = (o : Int) := by simp only [IntKind.wrap_i64]; omega
  have hz : addI 0 ((i : Int)).toNat = i := by rw [Int.toNat_natCast, addI_eq, Nat.zero_add]
  refine vc_sound hE 2 _ _ _ 60 ?_
  refine W_seq (nx := 60) ?_
  -- the act, in a row of its own
  refine W_ex (nx := 60) (fun (_ : Nat) => True) (fun _ => [(0, .int .u8 (o : Int)), (1, .slice 100 0 len cap), (5, .ptr 8 0 0), (7, .ptr 5008 0 0), (9, .int .i64 (i : Int)), (10, .ptr 220 0 0)]) (fun bx => H2 n 128 X Y (P1 eX (.blk bx 1 3 (gA (z i 0) (z i 1) (z i 2)) 38))) 60 ?_ ?_
  · subst hX
    refine vc_sound hE 60 _ _ _ 60 ?_
    (refine (?_ : chk _ _); refine chk_ok (show (decide ((0 : Int) ≤ (i : Int)) && decide ((i : Int) < (len : Int))) = true by simp only [Bool.and_eq_true, decide_eq_true_eq]; omega) ?_)
    (refine (?_ : chk _ _); refine chk_ok rfl ?_)
    (refine (?_ : chk _ _); refine chk_ok (Nat.ble_eq_true_of_le (show addI 0 ((i : Int)).toNat * 3 + 0 + 3 ≤ len * 3 by rw [hz]; omega)) ?_)
    rw [hz]
    intro bx
    have w1 := v5 X Y (P1 (.ro ub len 3 (gT z)) (.blk bx 1 3 (gA (z i 0) (z i 1) (z i 2)) 38)) (low1 _)
    suffices hrow : _ from
      have k := H2.back (n := n) (room := 128) (X := X) (Y := Y) (rest := P1 (.ro ub len 3 (gT z)) (.blk bx 1 3 (gA (z i 0) (z i 1) (z i 2)) 38)) (h' := (60, _) :: (60, _) :: H2 n 128 X Y (P0 (.ro ub len 3 (gT z)))) (ρ := tau [(220, 60), (60, 220)]) hn2 ((((H2.x low0 hn2 hOX).c (by decide)).c (by decide)).cong fun _ _ => rfl) ((((H2.y low0 hn2 hOY).c5 (by decide)).c5 (by decide)).cong fun _ _ => rfl) (swp_inj 220 60) (low1 _) rfl ⟨wX _ _, hrow, wG _ _ _⟩
      ⟨bx, trivial, tau [(220, 60), (60, 220)], k.1, (by repeat' (first | exact rfl | exact trivial | assumption | refine ⟨?_, ?_⟩)), k.2⟩
    refine ⟨rfl, rfl, rfl, rfl, fun j k hj hk => ?_⟩
    have hj : j < 1 := hj
    have hk : k < 3 := hk
    obtain rfl : j = 0 := by omega
    match k, hk with
    | 0, _ => exact ⟨rfl, rfl⟩
    | 1, _ => exact ⟨rfl, rfl⟩
    | 2, _ => exact ⟨rfl, rfl⟩
  rintro bx -
  obtain ⟨eA, hA⟩ : ∃ eA : Ent, eA = .blk bx 1 3 (gA (z i 0) (z i 1) (z i 2)) 38 := ⟨_, rfl⟩
  have wA : ∀ τ h', wkE τ h' eA eA := fun τ h' => by rw [hA]; exact gA_wk _ _
  have vA : eA.here := by rw [hA]; trivial
  rw [← hA]
  have u0 : ∀ X Y, live (H2 n 128 X Y (P1 eX eA)) 100 := fun _ _ => vX
  have u2 : ∀ X Y, live (H2 n 128 X Y (P1 eX eA)) 220 := fun _ _ => vA
  have u5 : ∀ X Y, live (H2 n 128 X Y (P1 eX eA)) 5008 := fun X Y => v5 X Y _ (low1 _)
  have re1 : ∀ X Y, ObOK n X → ObOK n Y → nodupB (((H2 n 128 X Y (P1 eX eA)).map (·.1)).map (tau [])) = true ∧ wkH (tau []) (H2 n 128 X Y (P1 eX eA)) (H2 n 128 X Y (P1 eX eA)) (H2 n 128 X Y (P1 eX eA)) := fun X Y hX hY => H2.back hn2 (H2.x (low1 _) hn2 hX) (H2.y (low1 _) hn2 hY) (fun t u h => h) (low1 _) rfl ⟨wX _ _, wA _ _, wG _ _ _⟩
  have re10 : ∀ X Y, ObOK n X → ObOK n Y → nodupB (((H2 n 128 X Y (P0 eX)).map (·.1)).map (tau [])) = true ∧ wkH (tau []) (H2 n 128 X Y (P1 eX eA)) (H2 n 128 X Y (P0 eX)) (H2 n 128 X Y (P0 eX)) := fun X Y hX hY => H2.back hn2 (H2.x (low1 _) hn2 hX) (H2.y (low1 _) hn2 hY) (fun t u h => h) low0 rfl ⟨wX _ _, wG _ _ _⟩
  have sw1 : ∀ X Y, ObOK n X → ObOK n Y → nodupB (((H2 n 128 Y X (P1 eX eA)).map (·.1)).map sw) = true ∧ wkH sw (H2 n 128 X Y (P1 eX eA)) (H2 n 128 Y X (P1 eX eA)) (H2 n 128 Y X (P1 eX eA)) := fun X Y hX hY => H2.swap hn2 (low1 _) rfl hX hY ⟨wX _ _, wA _ _, wG _ _ _⟩
  have s0 := u0 X Y
  have s2 := u2 X Y
  have s5 := u5 X Y
  refine W_seq (nx := 60) ?_
  refine W_to (nx := 60) [(0, .int .u8 (o : Int)), (1, .slice 100 0 len cap), (5, .ptr 8 0 0), (7, .ptr 5008 0 0), (9, .int .i64 (i : Int)), (10, .ptr 220 0 0), (11, .int .i64 (blkT X.S (z i 2))), (12, .bool (hasT X.S (z i 2)))] (H2 n 128 X Y (P1 eX eA)) 60 ?_ ?_
  · subst hA
    refine vc_sound hE 60 _ _ _ 60 ?_
    refine ⟨n, 128, mpS X.S, z i 2, rfl, (H2.q (low1 _) hn2 hOX).ro, ?_⟩
    rw [mget_S, mhas_S]
    exact ⟨tau [], (re1 _ _ hOX hOY).1, (by repeat' (first | exact rfl | exact trivial | assumption | refine ⟨?_, ?_⟩)), (re1 _ _ hOX hOY).2⟩
  refine W_seq (nx := 60) ?_
  refine W_to (nx := 60) [(0, .int .u8 (o : Int)), (1, .slice 100 0 len cap), (5, .ptr 8 0 0), (7, .ptr 5008 0 0), (9, .int .i64 (i : Int)), (10, .ptr 220 0 0), (11, .int .i64 (blkT X.S (z i 2))), (12, .bool (hasT X.S (z i 2))), (13, .bool (z i 1 == (o : Int)))] (H2 n 128 X Y (P1 eX eA)) 60 ?_ ?_
  · subst hA
    refine vc_sound hE 60 _ _ _ 60 ?_
    refine ⟨tau [], (re1 _ _ hOX hOY).1, ?_, (re1 _ _ hOX hOY).2⟩
    rw [← hwo]
    rw [hwo]
    exact ⟨⟨rfl, rfl⟩, ⟨⟨rfl, s0⟩, rfl, rfl, rfl⟩, ⟨⟨rfl, trivial⟩, rfl, rfl⟩, ⟨⟨rfl, s5⟩, rfl, rfl⟩, ⟨rfl, rfl⟩, ⟨⟨rfl, s2⟩, rfl, rfl⟩, ⟨rfl, rfl⟩, rfl, (show (z i 1 == IntKind.i64.wrap (o : Int)) = (z i 1 == (o : Int)) by rw [hwo]), trivial⟩
  have hend : ∀ {X' Y' : Ob}, Fit n 128 X'.S → X'.S.length ≤ i + 1 → Y'.S = filt X'.S o → ObOK n X' → ObOK n Y' → ∀ {σ1 : Sl} {h1 : Hp}, (∃ τ, wk τ σ1 h1 [(0, .int .u8 (o : Int)), (1, .slice 100 0 len cap), (5, .ptr 8 0 0), (7, .ptr 5008 0 0), (9, .int .i64 ((i + 1 : Nat) : Int))] (H2 n 128 X' Y' (P0 eX))) → Again (fun q σ h => ∃ (i : Nat) (X Y : Ob), q = len - i ∧ i ≤ len ∧ i ≤ 100 ∧ Fit n 128 X.S ∧ X.S.length ≤ i ∧ Y.S = filt X.S o ∧ ObOK n X ∧ ObOK n Y ∧ σ = [(0, .int .u8 (o : Int)), (1, .slice 100 0 len cap), (5, .ptr 8 0 0), (7, .ptr 5008 0 0), (9, .int .i64 (i : Int))] ∧ h = H2 n 128 X Y (P0 eX)) (len - i) σ1 h1 := fun hF hl hS hX hY σ1 h1 hw =>
    ⟨len - (i + 1), _, _, by omega, ⟨i + 1, _, _, rfl, by omega, by omega, hF, hl, hS, hX, hY, rfl, rfl⟩, hw⟩
  refine W_seq (nx := 60) ?_
  -- is it this lane's?
  refine W_piece (nx := 60) (fun σ1 h1 _ => ∃ mn : Bool, ((z i 0 = 0 ∧ hasT X.S (z i 2) = false ∧ mn = (z i 1 == (o : Int))) ∨ (z i 0 ≠ 0 ∧ mn = (hasT X.S (z i 2) && (blkT X.S (z i 2) == (o : Int))))) ∧ ∃ τ, wk τ σ1 h1 [(0, .int .u8 (o : Int)), (1, .slice 100 0 len cap), (5, .ptr 8 0 0), (7, .ptr 5008 0 0), (9, .int .i64 (i : Int)), (10, .ptr 220 0 0), (13, .bool mn)] (H2 n 128 X Y (P1 eX eA))) ?_ ?_
  · subst hA
    refine vc_sound hE 60 _ _ _ 60 ?_
    (refine (?_ : br _ _ _); refine br_ne (fun q => ?_) (fun q => ?_))
    · have q : z i 0 ≠ 0 := q
      (refine (?_ : br _ _ _); refine br_both (fun q1 => ?_) (fun q1 => ?_))
      · refine ⟨(blkT X.S (z i 2) == (o : Int)), .inr ⟨q, by rw [q1]; rfl⟩, tau [], (re1 _ _ hOX hOY).1, ⟨⟨rfl, rfl⟩, ⟨⟨rfl, s0⟩, rfl, rfl, rfl⟩, ⟨⟨rfl, trivial⟩, rfl, rfl⟩, ⟨⟨rfl, s5⟩, rfl, rfl⟩, ⟨rfl, rfl⟩, ⟨⟨rfl, s2⟩, rfl, rfl⟩, (show (blkT X.S (z i 2) == IntKind.i64.wrap (o : Int)) = (blkT X.S (z i 2) == (o : Int)) by rw [hwo]), trivial⟩, (re1 _ _ hOX hOY).2⟩
      · refine ⟨false, .inr ⟨q, by rw [q1]; rfl⟩, tau [], (re1 _ _ hOX hOY).1, (by repeat' (first | exact rfl | exact trivial | assumption | refine ⟨?_, ?_⟩)), (re1 _ _ hOX hOY).2⟩
    · have q : z i 0 = 0 := q
      (refine (?_ : br _ _ _); refine br_both (fun q1 => ?_) (fun q1 => ?_))
      · refine hend hF (by omega) hYS hOX hOY ⟨tau [], (re10 _ _ hOX hOY).1, ⟨⟨rfl, rfl⟩, ⟨⟨rfl, v⟩, rfl, rfl, rfl⟩, ⟨⟨rfl, trivial⟩, rfl, rfl⟩, ⟨⟨rfl, w⟩, rfl, rfl⟩, ⟨rfl, hwi⟩, trivial⟩, (re10 _ _ hOX hOY).2⟩
      · refine ⟨(z i 1 == (o : Int)), .inl ⟨q, q1, rfl⟩, tau [], (re1 _ _ hOX hOY).1, (by repeat' (first | exact rfl | exact trivial | assumption | refine ⟨?_, ?_⟩)), (re1 _ _ hOX hOY).2⟩
  rintro σ1 h1 _ ⟨mn, hmn, τ1, hw1⟩
  refine W_weak (nx' := 60) τ1 hw1 ?_
  clear hw1
  have hOY' := hOY
  refine W_seq (nx := 60) ?_
  refine W_ex (nx := 60) (fun (a : Ob × Ob) => Fit n 128 a.1.S ∧ a.1.S.length ≤ i + 1 ∧ a.2.S = filt a.1.S o ∧ ObOK n a.1 ∧ ObOK n a.2) (fun a => [(0, .int .u8 (o : Int)), (1, .slice 100 0 len cap), (5, .ptr 8 0 0), (7, .ptr 5008 0 0), (9, .int .i64 (i : Int))]) (fun a => H2 n 128 a.1 a.2 (P0 eX)) 60 ?_ ?_
  · refine W_seq (nx := 60) ?_
    refine W_to (nx := 60) [(0, .int .u8 (o : Int)), (1, .slice 100 0 len cap), (5, .ptr 8 0 0), (7, .ptr 5008 0 0), (9, .int .i64 (i : Int)), (10, .ptr 220 0 0), (13, .bool mn), (74, .bool (z i 0 == 0))] (H2 n 128 X Y (P1 eX eA)) 60 ?_ ?_
    · subst hA
      refine vc_sound hE 60 _ _ _ 60 ?_
      exact ⟨tau [], (re1 _ _ hOX hOY).1, (by repeat' (first | exact rfl | exact trivial | assumption | refine ⟨?_, ?_⟩)), (re1 _ _ hOX hOY).2⟩
    refine vc_sound hE 1 _ _ _ 60 ?_
    (refine (?_ : br _ _ _); refine br_eq (fun q => ?_) (fun q => ?_))
    · -- pushed
      have q : z i 0 = 0 := q
      obtain ⟨hno, hmn⟩ : hasT X.S (z i 2) = false ∧ mn = (z i 1 == (o : Int)) := by
        rcases hmn with ⟨_, h1, h2⟩ | ⟨h1, _⟩
        · exact ⟨h1, h2⟩
        · exact absurd q h1
      have hlt : X.S.length < 128 := by omega
      obtain ⟨hp1, hp2⟩ := filt_push (n := n) (room := 128) (o := o) (b := z i 1) hno hlt
      have hF' := hF.push (z i 1) (z i 2)
      have hl' : (pushS n 128 X.S (z i 1) (z i 2)).length ≤ i + 1 := by
        unfold pushS; split
        · rw [List.length_append]; simp only [List.length_cons, List.length_nil]; omega
        · omega
      refine W_seq (nx := 60) ?_
      refine W_ex (nx := 60) (fun (a : (Nat → Ent) × (Nat → Nat)) => LsOK n (pushS n 128 X.S (z i 1) (z i 2)) a.1 a.2) (fun a => [(0, .int .u8 (o : Int)), (1, .slice 100 0 len cap), (5, .ptr 8 0 0), (7, .ptr 5008 0 0), (9, .int .i64 (i : Int)), (10, .ptr 220 0 0), (13, .bool mn), (14, .int .i64 (pushC n 128 X.S (z i 1) (z i 2)))]) (fun a => H2 n 128 ⟨X.bL, X.bM, X.bR, pushS n 128 X.S (z i 1) (z i 2), a.1, a.2⟩ Y (P1 eX eA)) 60 ?_ ?_
      · subst hA
        refine vc_sound hE 60 _ _ _ 60 ?_
        refine ⟨X.bL, X.bM, X.bR, n, 128, gR X.S X.cp, X.S, X.e, X.cp, z i 1, z i 2, rfl, H2.q (low1 _) hn2 hOX, hF, (H2.gone (low1 _)).1, (H2.gone (low1 _)).2, fun h' g' e' cp' τ kx k1 k2 hτ _ => ?_⟩
        obtain ⟨q1, q2⟩ := H2.step k1 k2 hτ hn2 (low1 _) rfl hOY ⟨wX _ _, wA _ _, wJ _ _ _⟩
        have t0 := u0 ⟨X.bL, X.bM, X.bR, pushS n 128 X.S (z i 1) (z i 2), e', cp'⟩ Y
        have t2 := u2 ⟨X.bL, X.bM, X.bR, pushS n 128 X.S (z i 1) (z i 2), e', cp'⟩ Y
        have t5 := u5 ⟨X.bL, X.bM, X.bR, pushS n 128 X.S (z i 1) (z i 2), e', cp'⟩ Y
        exact ⟨(e', cp'), k2.is, τ, q1, (by repeat' (first | exact rfl | exact trivial | exact (hτ.low (by decide)).symm | exact (hτ.high (by decide)).symm | assumption | refine ⟨?_, ?_⟩)), q2⟩
      rintro ⟨e', cp'⟩ hOX'
      have hOX' : ObOK n ⟨X.bL, X.bM, X.bR, pushS n 128 X.S (z i 1) (z i 2), e', cp'⟩ := hOX'
      obtain ⟨X', hX'⟩ : ∃ X' : Ob, X' = ⟨X.bL, X.bM, X.bR, pushS n 128 X.S (z i 1) (z i 2), e', cp'⟩ := ⟨_, rfl⟩
      have hX'S : X'.S = pushS n 128 X.S (z i 1) (z i 2) := by rw [hX']
      rw [← hX'] at hOX' ⊢
      rw [← hX'S] at hF' hl'
      have t0 := u0 Y X'
      have t2 := u2 Y X'
      have t5 := u5 Y X'
      refine W_weak (nx' := 60) (σ' := [(0, .int .u8 (o : Int)), (1, .slice 100 0 len cap), (5, .ptr 5008 0 0), (7, .ptr 8 0 0), (9, .int .i64 (i : Int)), (10, .ptr 220 0 0), (13, .bool mn), (14, .int .i64 (pushC n 128 X.S (z i 1) (z i 2)))]) (h' := H2 n 128 Y X' (P1 eX eA)) sw ⟨(sw1 _ _ hOX' hOY).1, (by repeat' (first | exact rfl | exact trivial | assumption | refine ⟨?_, ?_⟩)), (sw1 _ _ hOX' hOY).2⟩ ?_
      refine W_seq (nx := 60) ?_
      refine W_ex (nx := 60) (fun (Y' : Ob) => Y'.S = filt X'.S o ∧ ObOK n Y') (fun _ => [(0, .int .u8 (o : Int)), (1, .slice 100 0 len cap), (5, .ptr 5008 0 0), (7, .ptr 8 0 0), (9, .int .i64 (i : Int)), (91, .bool false)]) (fun Y' => H2 n 128 Y' X' (P1 eX eA)) 60 ?_ ?_
      · subst hA
        refine vc_sound hE 60 _ _ _ 60 ?_
        (refine (?_ : br _ _ _); refine br_both (fun q1 => ?_) (fun q1 => ?_))
        · have hb : z i 1 = (o : Int) := by rw [q1] at hmn; simpa using hmn.symm
          obtain ⟨hc1, hc2⟩ := hp1 hb
          refine ⟨Y.bL, Y.bM, Y.bR, n, 128, gR Y.S Y.cp, Y.S, Y.e, Y.cp, z i 1, z i 2, rfl, H2.q (low1 _) hn2 hOY, hYS ▸ filt_fit hF, (H2.gone (low1 _)).1, (H2.gone (low1 _)).2, fun h' g' e'' cp'' τ kx k1 k2 hτ _ => ?_⟩
          rw [hYS, hc1]
          have hne : (pushC n 128 X.S (z i 1) (z i 2) != pushC n 128 X.S (z i 1) (z i 2)) = false := by simp
          obtain ⟨q1, q2⟩ := H2.step k1 k2 hτ hn2 (low1 _) rfl hOX' ⟨wX _ _, wA _ _, wJ _ _ _⟩
          have t0 := u0 ⟨Y.bL, Y.bM, Y.bR, pushS n 128 Y.S (z i 1) (z i 2), e'', cp''⟩ X'
          have t5 := u5 ⟨Y.bL, Y.bM, Y.bR, pushS n 128 Y.S (z i 1) (z i 2), e'', cp''⟩ X'
          refine ⟨⟨Y.bL, Y.bM, Y.bR, pushS n 128 Y.S (z i 1) (z i 2), e'', cp''⟩, ⟨?_, k2.is⟩, τ, q1, (by repeat' (first | exact rfl | exact trivial | exact (hτ.low (by decide)).symm | exact (hτ.high (by decide)).symm | assumption | refine ⟨?_, ?_⟩)), q2⟩
          show pushS n 128 Y.S (z i 1) (z i 2) = _
          rw [hYS, hc2, hX'S]
        · have hb : z i 1 ≠ (o : Int) := by rw [q1] at hmn; simpa using hmn.symm
          exact ⟨Y, ⟨by rw [hYS, hX'S, hp2 hb], hOY⟩, tau [], (re1 _ _ hOY hOX').1, (by repeat' (first | exact rfl | exact trivial | assumption | refine ⟨?_, ?_⟩)), (re1 _ _ hOY hOX').2⟩
      rintro Y' ⟨hYS', hOY'⟩
      have t0 := u0 X' Y'
      have t5 := u5 X' Y'
      refine W_weak (nx' := 60) (σ' := [(0, .int .u8 (o : Int)), (1, .slice 100 0 len cap), (5, .ptr 8 0 0), (7, .ptr 5008 0 0), (9, .int .i64 (i : Int)), (91, .bool false)]) (h' := H2 n 128 X' Y' (P1 eX eA)) sw ⟨(sw1 _ _ hOY' hOX').1, (by repeat' (first | exact rfl | exact trivial | assumption | refine ⟨?_, ?_⟩)), (sw1 _ _ hOY' hOX').2⟩ ?_
      refine vc_sound hE 20 _ _ _ 60 ?_
      have p0 := v0 X' Y'
      have p5 := v5 X' Y' _ low0
      exact ⟨(X', Y'), ⟨hF', hl', hYS', hOX', hOY'⟩, tau [], (re10 _ _ hOX' hOY').1, (by repeat' (first | exact rfl | exact trivial | assumption | refine ⟨?_, ?_⟩)), (re10 _ _ hOX' hOY').2⟩
    · -- pulled
      have q : z i 0 ≠ 0 := q
      have hmn : mn = (hasT X.S (z i 2) && (blkT X.S (z i 2) == (o : Int))) := by
        rcases hmn with ⟨h1, _⟩ | ⟨_, h2⟩
        · exact absurd h1 q
        · exact h2
      have hF' := hF.pull (z i 2)
      have hl' : (pullS X.S (z i 2)).length ≤ i + 1 := by
        have := (List.eraseP_sublist (p := fun p : Nat × Int => p.2 == z i 2) (l := X.S)).length_le
        unfold pullS; omega
      have hfp := filt_pull (o := o) (t := z i 2) (S := X.S)
      refine W_seq (nx := 60) ?_
      refine W_ex (nx := 60) (fun (a : (Nat → Ent) × (Nat → Nat)) => LsOK n (pullS X.S (z i 2)) a.1 a.2) (fun a => [(0, .int .u8 (o : Int)), (1, .slice 100 0 len cap), (5, .ptr 8 0 0), (7, .ptr 5008 0 0), (9, .int .i64 (i : Int)), (10, .ptr 220 0 0), (13, .bool mn), (16, .int .i64 (pullC X.S (z i 2)))]) (fun a => H2 n 128 ⟨X.bL, X.bM, X.bR, pullS X.S (z i 2), a.1, a.2⟩ Y (P1 eX eA)) 60 ?_ ?_
      · subst hA
        refine vc_sound hE 60 _ _ _ 60 ?_
        refine ⟨X.bL, X.bM, X.bR, n, 128, gR X.S X.cp, X.S, X.e, X.cp, z i 2, rfl, H2.q (low1 _) hn2 hOX, hF, fun h' g' e' cp' kx k1 k2 => ?_⟩
        have hτ := Ren1.id
        obtain ⟨q1, q2⟩ := H2.step k1 k2 hτ hn2 (low1 _) rfl hOY ⟨wX _ _, wA _ _, wJ _ _ _⟩
        have t0 := u0 ⟨X.bL, X.bM, X.bR, pullS X.S (z i 2), e', cp'⟩ Y
        have t2 := u2 ⟨X.bL, X.bM, X.bR, pullS X.S (z i 2), e', cp'⟩ Y
        have t5 := u5 ⟨X.bL, X.bM, X.bR, pullS X.S (z i 2), e', cp'⟩ Y
        exact ⟨(e', cp'), k2.is, tau [], q1, (by repeat' (first | exact rfl | exact trivial | assumption | refine ⟨?_, ?_⟩)), q2⟩
      rintro ⟨e', cp'⟩ hOX'
      have hOX' : ObOK n ⟨X.bL, X.bM, X.bR, pullS X.S (z i 2), e', cp'⟩ := hOX'
      obtain ⟨X', hX'⟩ : ∃ X' : Ob, X' = ⟨X.bL, X.bM, X.bR, pullS X.S (z i 2), e', cp'⟩ := ⟨_, rfl⟩
      have hX'S : X'.S = pullS X.S (z i 2) := by rw [hX']
      rw [← hX'] at hOX' ⊢
      rw [← hX'S] at hF' hl'
      have t0 := u0 Y X'
      have t2 := u2 Y X'
      have t5 := u5 Y X'
      refine W_weak (nx' := 60) (σ' := [(0, .int .u8 (o : Int)), (1, .slice 100 0 len cap), (5, .ptr 5008 0 0), (7, .ptr 8 0 0), (9, .int .i64 (i : Int)), (10, .ptr 220 0 0), (13, .bool mn), (16, .int .i64 (pullC X.S (z i 2)))]) (h' := H2 n 128 Y X' (P1 eX eA)) sw ⟨(sw1 _ _ hOX' hOY).1, (by repeat' (first | exact rfl | exact trivial | assumption | refine ⟨?_, ?_⟩)), (sw1 _ _ hOX' hOY).2⟩ ?_
      refine W_seq (nx := 60) ?_
      refine W_to (nx := 60) [(0, .int .u8 (o : Int)), (1, .slice 100 0 len cap), (5, .ptr 5008 0 0), (7, .ptr 8 0 0), (9, .int .i64 (i : Int)), (10, .ptr 220 0 0), (16, .int .i64 (pullC X.S (z i 2))), (99, .bool mn)] (H2 n 128 Y X' (P1 eX eA)) 60 ?_ ?_
      · refine vc_sound hE 20 _ _ _ 60 ?_
        exact ⟨tau [], (re1 _ _ hOY hOX').1, (by repeat' (first | exact rfl | exact trivial | assumption | refine ⟨?_, ?_⟩)), (re1 _ _ hOY hOX').2⟩
      refine vc_sound hE 1 _ _ _ 60 ?_
      (refine (?_ : br _ _ _); refine br_both (fun q1 => ?_) (fun q1 => ?_))
      · rw [q1] at hmn
        have hmn := hmn.symm
        rw [Bool.and_eq_true] at hmn
        obtain ⟨hh, hb⟩ := hmn
        have hb : blkT X.S (z i 2) = (o : Int) := by simpa using hb
        have hhY := filt_has hF hh hb
        rw [if_pos ⟨hh, hb⟩] at hfp
        have hcx : pullC X.S (z i 2) = 0 := by unfold pullC; rw [if_pos hh]
        have hcy : pullC Y.S (z i 2) = 0 := by unfold pullC; rw [hYS, if_pos hhY]
        refine W_seq (nx := 60) ?_
        refine W_ex (nx := 60) (fun (Y' : Ob) => Y'.S = filt X'.S o ∧ ObOK n Y') (fun _ => [(0, .int .u8 (o : Int)), (1, .slice 100 0 len cap), (5, .ptr 5008 0 0), (7, .ptr 8 0 0), (9, .int .i64 (i : Int)), (16, .int .i64 0), (18, .int .i64 0)]) (fun Y' => H2 n 128 Y' X' (P1 eX eA)) 60 ?_ ?_
        · subst hA
          refine vc_sound hE 60 _ _ _ 60 ?_
          refine ⟨Y.bL, Y.bM, Y.bR, n, 128, gR Y.S Y.cp, Y.S, Y.e, Y.cp, z i 2, rfl, H2.q (low1 _) hn2 hOY, hYS ▸ filt_fit hF, fun h' g' e'' cp'' kx k1 k2 => ?_⟩
          rw [hcy, hcx]
          have hτ := Ren1.id
          obtain ⟨q1, q2⟩ := H2.step k1 k2 hτ hn2 (low1 _) rfl hOX' ⟨wX _ _, wA _ _, wJ _ _ _⟩
          have t0 := u0 ⟨Y.bL, Y.bM, Y.bR, pullS Y.S (z i 2), e'', cp''⟩ X'
          have t5 := u5 ⟨Y.bL, Y.bM, Y.bR, pullS Y.S (z i 2), e'', cp''⟩ X'
          refine ⟨⟨Y.bL, Y.bM, Y.bR, pullS Y.S (z i 2), e'', cp''⟩, ⟨?_, k2.is⟩, tau [], q1, (by repeat' (first | exact rfl | exact trivial | assumption | refine ⟨?_, ?_⟩)), q2⟩
          show pullS Y.S (z i 2) = _
          rw [hYS, hX'S, hfp]
        rintro Y' ⟨hYS', hOY'⟩
        have t0 := u0 X' Y'
        have t5 := u5 X' Y'
        refine W_weak (nx' := 60) (σ' := [(0, .int .u8 (o : Int)), (1, .slice 100 0 len cap), (5, .ptr 8 0 0), (7, .ptr 5008 0 0), (9, .int .i64 (i : Int)), (16, .int .i64 0), (18, .int .i64 0)]) (h' := H2 n 128 X' Y' (P1 eX eA)) sw ⟨(sw1 _ _ hOY' hOX').1, (by repeat' (first | exact rfl | exact trivial | assumption | refine ⟨?_, ?_⟩)), (sw1 _ _ hOY' hOX').2⟩ ?_
        refine vc_sound hE 20 _ _ _ 60 ?_
        have p0 := v0 X' Y'
        have p5 := v5 X' Y' _ low0
        exact ⟨(X', Y'), ⟨hF', hl', hYS', hOX', hOY'⟩, tau [], (re10 _ _ hOX' hOY').1, (by repeat' (first | exact rfl | exact trivial | assumption | refine ⟨?_, ?_⟩)), (re10 _ _ hOX' hOY').2⟩
      · rw [q1] at hmn
        have hmn := hmn.symm
        have hfp2 : filt X'.S o = filt X.S o := by
          rw [hX'S, hfp, if_neg]
          rintro ⟨h1, h2⟩
          rw [h1, h2] at hmn
          simp at hmn
        have t0 := u0 X' Y
        have t5 := u5 X' Y
        refine W_weak (nx' := 60) (σ' := [(0, .int .u8 (o : Int)), (1, .slice 100 0 len cap), (5, .ptr 8 0 0), (7, .ptr 5008 0 0), (9, .int .i64 (i : Int))]) (h' := H2 n 128 X' Y (P1 eX eA)) sw ⟨(sw1 _ _ hOY hOX').1, (by repeat' (first | exact rfl | exact trivial | assumption | refine ⟨?_, ?_⟩)), (sw1 _ _ hOY hOX').2⟩ ?_
        refine vc_sound hE 20 _ _ _ 60 ?_
        have p0 := v0 X' Y
        have p5 := v5 X' Y _ low0
        exact ⟨(X', Y), ⟨hF', hl', by rw [hYS, hfp2], hOX', hOY⟩, tau [], (re10 _ _ hOX' hOY).1, (by repeat' (first | exact rfl | exact trivial | assumption | refine ⟨?_, ?_⟩)), (re10 _ _ hOX' hOY).2⟩
  rintro ⟨X', Y'⟩ ⟨hF', hl', hYS', hOX', hOY'⟩
  have hF' : Fit n 128 X'.S := hF'
  have hl' : X'.S.length ≤ i + 1 := hl'
  have hYS' : Y'.S = filt X'.S o := hYS'
  have hOX' : ObOK n X' := hOX'
  have hOY' : ObOK n Y' := hOY'
  have hFY : Fit n 128 Y'.S := hYS' ▸ filt_fit hF'
  have hLX : laneI n X'.S (o : Int) = lane X'.S o := by unfold laneI isI; rw [if_pos (by simp only [decide_eq_true_eq]; omega), Int.toNat_natCast]
  have hLY : laneI n Y'.S (o : Int) = lane X'.S o := by unfold laneI isI; rw [if_pos (by simp only [decide_eq_true_eq]; omega), Int.toNat_natCast, hYS', filt_lane]
  have hlY : Y'.S.length = (lane X'.S o).length := by rw [hYS', filt_len]
  have hll := lane_len (S := X'.S) (b := o)
  have lowL : ∀ eL, Low (P3 eX eL) := fun _ => rfl
  refine W_seq (nx := 60) ?_
  refine W_to (nx := 60) [(0, .int .u8 (o : Int)), (1, .slice 100 0 len cap), (5, .ptr 8 0 0), (7, .ptr 5008 0 0), (9, .int .i64 (i : Int)), (129, .bool false)] (H2 n 128 X' Y' (P0 eX)) 60 ?_ ?_
  · refine vc_sound hE 5 _ _ _ 60 ?_
    refine ⟨X'.bL, X'.bM, X'.bR, n, 128, gR X'.S X'.cp, X'.S, _, X'.cp, _, rfl, (H2.q low0 hn2 hOX').rd Ren1.id, hF', rfl, fun eL cL hL => ?_⟩
    rw [hwo, hLX] at hL ⊢
    refine putS_some rfl ?_
    have k := H2.back (n := n) (room := 128) (X := Y') (Y := X') (rest := P3 eX eL) (h' := (60, eL) :: H2 n 128 X' Y' (P0 eX)) (ρ := fun t => tau [(210, 60), (60, 210)] (sw t)) hn2 (((H2.y low0 hn2 hOY').c5 (by decide)).cong fun i hi => by show tau [(210, 60), (60, 210)] (sw (i + 3000)) = i + 8000; rw [(sw_lane (by omega)).1]; rfl) (((H2.x low0 hn2 hOX').c (by decide)).cong fun i hi => by show tau [(210, 60), (60, 210)] (sw (i + 8000)) = i + 3000; rw [(sw_lane (by omega)).2]; rfl) (fun t u h => sw_inj _ _ (swp_inj 210 60 _ _ h)) (lowL _) rfl ⟨wX _ _, lst_wk hL _ _, wG _ _ _⟩
    have t0 : live (H2 n 128 Y' X' (P3 eX eL)) 100 := vX
    have t1 : live (H2 n 128 Y' X' (P3 eX eL)) 210 := lst_live hL
    have t5 := v5 Y' X' (P3 eX eL) (lowL _)
    refine W_weak (nx' := 61) (σ' := [(0, .int .u8 (o : Int)), (1, .slice 100 0 len cap), (5, .ptr 5008 0 0), (7, .ptr 8 0 0), (9, .int .i64 (i : Int)), (113, .slice 210 0 (lane X'.S o).length cL)]) (h' := H2 n 128 Y' X' (P3 eX eL)) (fun t => tau [(210, 60), (60, 210)] (sw t)) ⟨k.1, ⟨⟨rfl, rfl⟩, ⟨⟨rfl, t0⟩, rfl, rfl, rfl⟩, ⟨⟨rfl, t5⟩, rfl, rfl⟩, ⟨⟨rfl, trivial⟩, rfl, rfl⟩, ⟨rfl, rfl⟩, ⟨⟨rfl, t1⟩, rfl, rfl, rfl⟩, trivial⟩, k.2⟩ ?_
    refine vc_sound hE 60 _ _ _ 61 ?_
    refine ⟨Y'.bL, Y'.bM, Y'.bR, n, 128, gR Y'.S Y'.cp, Y'.S, _, Y'.cp, _, rfl, (H2.q (lowL _) hn2 hOY').rd Ren1.id, hFY, rfl, fun eM cM hM => ?_⟩
    rw [hwo, hLY] at hM ⊢
    refine ⟨_, _, lane X'.S o, lane X'.S o, rfl, hL.rd rfl, hM.rd rfl, by omega, by omega, ?_⟩
    rw [decide_eq_true (rfl : lane X'.S o = lane X'.S o)]
    refine ⟨n, 128, mpS Y'.S, rfl, (H2.q (rest := P3 eX eL) (lowL _) hn2 hOY').cons (by decide) |>.ro, ?_⟩
    refine ⟨Y'.bL, Y'.bM, Y'.bR, n, 128, gR Y'.S Y'.cp, Y'.S, _, Y'.cp, _, rfl, ((H2.q (lowL _) hn2 hOY').cons (by decide)).rd Ren1.id, hFY, rfl, fun eN cN hN => ?_⟩
    rw [hwo, hLY] at hN ⊢
    have hne : ((mpS Y'.S).length : Int) = ((lane X'.S o).length : Int) := by rw [mpS_len, hlY]
    have hne2 : (((mpS Y'.S).length : Int) != ((lane X'.S o).length : Int)) = false := by rw [hne]; simp
    have k3 := H2.back (n := n) (room := 128) (X := X') (Y := Y') (rest := P0 eX) (h' := (62, eN) :: (61, eM) :: H2 n 128 Y' X' (P3 eX eL)) (ρ := sw) hn2 ((((H2.y (lowL _) hn2 hOX').c5 (by decide)).c5 (by decide)).cong fun i hi => (sw_lane (by omega)).1) ((((H2.x (lowL _) hn2 hOY').c (by decide)).c (by decide)).cong fun i hi => (sw_lane (by omega)).2) sw_inj low0 rfl ⟨wX _ _, wG _ _ _⟩
    have p0 := v0 X' Y'
    have p5 := v5 X' Y' _ low0
    exact ⟨sw, k3.1, ⟨⟨rfl, rfl⟩, ⟨⟨rfl, p0⟩, rfl, rfl, rfl⟩, ⟨⟨rfl, trivial⟩, rfl, rfl⟩, ⟨⟨rfl, p5⟩, rfl, rfl⟩, ⟨rfl, rfl⟩, hne2, trivial⟩, k3.2⟩
  refine vc_sound hE 20 _ _ _ 60 ?_
  have p0 := v0 X' Y'
  have p5 := v5 X' Y' _ low0
  exact hend hF' hl' hYS' hOX' hOY' ⟨tau [], (re0 _ _ hOX' hOY').1, ⟨⟨rfl, rfl⟩, ⟨⟨rfl, p0⟩, rfl, rfl, rfl⟩, ⟨⟨rfl, trivial⟩, rfl, rfl⟩, ⟨⟨rfl, p5⟩, rfl, rfl⟩, ⟨rfl, hwi⟩, trivial⟩, (re0 _ _ hOX' hOY').2⟩
theorem u8_has {n : Int} (h : IntKind.u8.has n) : 0 ≤ n ∧ n ≤ 255 := by simpa [IntKind.has, IntKind.min, IntKind.max, IntKind.signed, IntKind.bits] using h
def sLaw5 : Spec := fun args h nx K => ∃ (ub : Option Addr) (len cap : Nat) (z : Nat → Nat → Int) (b : Int), args = [.int .u8 b, .slice 100 0 len cap] ∧ h = [(100, .ro ub len 3 (gT z))] ∧ len ≤ 9223372036854775807 ∧ (0 ≤ b ∧ b ≤ 255) ∧ K (.ret (.bool true)) h nx
theorem sLaw5_ok : SpecOK Try.prog 5 sLaw5 := by
  refine specOK_read (fn := Try.f5) rfl rfl rfl T_ok (SP := SP5) sp5 0 _ ?_
  rintro args h nx K ⟨ub, len, cap, z, b, rfl, rfl, hlen, hb, hk⟩
  obtain ⟨bn, rfl⟩ : ∃ bn : Nat, b = (bn : Int) := ⟨b.toNat, by omega⟩
  refine ⟨[(100, .ro ub len 3 (gT z))], ⟨fun i c hi hc => trivial, trivial⟩, ⟨⟨rfl, _, _, _, _, rfl⟩, trivial⟩, ⟨trivial, rfl, trivial⟩, by simp [Try.f5], fun o => o = .ret (.bool true), ?_, ?_⟩
  · rintro o rfl
    exact ⟨trivial, hk⟩
  · intro c hc
    obtain ⟨cd, h1, h2⟩ := apart_walk hc (ub := ub) (cap := cap) (z := z) (o := bn) (by omega) hlen
    cases h1
    exact h2
end Go.Proofs.Ytkncijljkfpdiaa.Sx
