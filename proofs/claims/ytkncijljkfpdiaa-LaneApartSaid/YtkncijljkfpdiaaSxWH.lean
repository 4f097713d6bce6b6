import Derived.Test.YtkncijljkfpdiaaSxWG
/-
  Two lanes' structures side by side: the one at the tags that the contracts speak of, the other 5000 behind.
-/
namespace Go.Proofs.Ytkncijljkfpdiaa.Sx
open Go Go.Proofs
set_option maxRecDepth 100000
set_option linter.unusedSimpArgs false
set_option linter.unusedVariables false

/-- What a structure of lanes is in memory. -/
structure Ob where
  bL : Nat
  bM : Nat
  bR : Nat
  S : Std
  e : Nat → Ent
  cp : Nat → Nat
/-- It lies at these tags. -/
structure LnT (h : Hp) (n room : Nat) (X : Ob) (t8 t9 t2 : Nat) (q : Nat → Nat) : Prop where
  ex : ∃ (gl g : Nat → Nat → V), (fd t8 h = .blk X.bL 1 3 gl 55 ∧ gl 0 0 = .slice t2 0 n n ∧ gl 0 1 = .int .i64 room ∧ gl 0 2 = .map t9) ∧ fd t2 h = .blk X.bR n 1 g 58 ∧ ∀ i, i < n → g i 0 = .slice (q i) 0 (lane X.S i).length (X.cp i)
  map : fd t9 h = .mp X.bM (mpS X.S)
  lst : ∀ i, i < n → fd (q i) h = X.e i ∧ lstE (X.e i) (lane X.S i) (X.cp i)
theorem LnQ.T {h : Hp} {bL bM bR n room : Nat} {g : Nat → Nat → V} {S : Std} {e : Nat → Ent} {cp : Nat → Nat} {τ : Nat → Nat} (H : LnQ h bL bM bR n room g S e cp τ) : LnT h n room ⟨bL, bM, bR, S, e, cp⟩ 8 9 2 (fun i => τ (i + 3000)) :=
  ⟨⟨gLn n room, g, ⟨H.str, rfl, rfl, rfl⟩, H.row, H.cell⟩, H.map, fun i hi => ⟨H.lst i hi, H.is i hi⟩⟩
theorem LnT.fdeq {h h' : Hp} {n room : Nat} {X : Ob} {t8 t9 t2 : Nat} {q : Nat → Nat} (H : LnT h n room X t8 t9 t2 q) (h8 : fd t8 h' = fd t8 h) (h9 : fd t9 h' = fd t9 h) (h2 : fd t2 h' = fd t2 h) (hq : ∀ i, i < n → fd (q i) h' = fd (q i) h) : LnT h' n room X t8 t9 t2 q := by
  obtain ⟨gl, g, ⟨a1, a2⟩, a3, a4⟩ := H.ex
  exact ⟨⟨gl, g, ⟨h8.trans a1, a2⟩, h2.trans a3, a4⟩, h9.trans H.map, fun i hi => ⟨(hq i hi).trans (H.lst i hi).1, (H.lst i hi).2⟩⟩
def gR8 (S : Std) (cp : Nat → Nat) : Nat → Nat → V := fun i _ => .slice (i + 8000) 0 (lane S i).length (cp i)
def gL8 (n room : Nat) : Nat → Nat → V := fun _ c => match c with
  | 0 => .slice 5002 0 n n
  | 1 => .int .i64 room
  | _ => .map 5009
def HY (n room : Nat) (Y : Ob) : Hp := (5002, .blk Y.bR n 1 (gR8 Y.S Y.cp) 58) :: (5009, .mp Y.bM (mpS Y.S)) :: (5008, .blk Y.bL 1 3 (gL8 n room) 55) :: lanes 8000 n Y.e
abbrev H2 (n room : Nat) (X Y : Ob) (rest : Hp) : Hp := HLw X.bL X.bM X.bR n room X.S X.e X.cp (gg rest) ++ HY n room Y
abbrev ObOK (n : Nat) (X : Ob) : Prop := LsOK n X.S X.e X.cp
theorem HY_keys {n room : Nat} {Y : Ob} {t : Nat} (h : t ∈ (HY n room Y).map (·.1)) : 5000 ≤ t := by
  unfold HY at h
  rw [List.map_cons, List.map_cons, List.map_cons, lanes_keys] at h
  simp only [List.mem_cons, List.mem_map] at h
  rcases h with rfl | rfl | rfl | ⟨i, _, rfl⟩ <;> omega
theorem HLw_keys {bL bM bR n room : Nat} {S : Std} {e : Nat → Ent} {cp : Nat → Nat} {G : Hp} (hm : Mid G) {t : Nat} (q : t ∈ (HLw bL bM bR n room S e cp G).map (·.1)) : t < n + 3000 := by
  rw [List.map_cons, List.map_cons, List.map_cons, List.map_append, lanes_keys] at q
  simp only [List.mem_cons, List.mem_append, List.mem_map, List.mem_range] at q
  rcases q with q | q | q | q | ⟨i, hi, q⟩
  · omega
  · omega
  · omega
  · obtain ⟨p, hp, rfl⟩ := q
    have := hm p.1 (List.mem_map_of_mem hp)
    omega
  · omega
theorem H2_low {n room : Nat} {X Y : Ob} {rest : Hp} {t : Nat} (h : t < 5000) : fd t (H2 n room X Y rest) = fd t (HLw X.bL X.bM X.bR n room X.S X.e X.cp (gg rest)) := fd_appL fun q => by have := HY_keys q; omega
theorem H2_high {n room : Nat} {X Y : Ob} {rest : Hp} (hl : Low rest) (hn : n ≤ 256) {t : Nat} (h : 5000 ≤ t) : fd t (H2 n room X Y rest) = fd t (HY n room Y) := by
  refine fd_appR fun q => ?_
  have := HLw_keys (gg.mid hl) q
  omega
theorem H2.q {n room : Nat} {X Y : Ob} {rest : Hp} (hl : Low rest) (hn : n ≤ 256) (hX : ObOK n X) : LnQ (H2 n room X Y rest) X.bL X.bM X.bR n room (gR X.S X.cp) X.S X.e X.cp (tau []) := by
  have H := HLw.q (bL := X.bL) (bM := X.bM) (bR := X.bR) (room := room) (gg.mid hl) hX
  exact ⟨(H2_low (by decide)).trans H.str, (H2_low (by decide)).trans H.map, (H2_low (by decide)).trans H.row, H.cell, fun i hi => (H2_low (by show i + 3000 < 5000; omega)).trans (H.lst i hi), H.is⟩
theorem HYfd {n room i : Nat} {Y : Ob} (hi : i < n) : fd (i + 8000) (HY n room Y) = Y.e i := by
  unfold HY
  rw [fd_cons, if_neg (by omega), fd_cons, if_neg (by omega), fd_cons, if_neg (by omega), fd_lanes hi]
theorem H2.y {n room : Nat} {X Y : Ob} {rest : Hp} (hl : Low rest) (hn : n ≤ 256) (hY : ObOK n Y) : LnT (H2 n room X Y rest) n room Y 5008 5009 5002 (· + 8000) := by
  refine ⟨⟨gL8 n room, gR8 Y.S Y.cp, ⟨?_, rfl, rfl, rfl⟩, ?_, fun i hi => rfl⟩, ?_, fun i hi => ⟨?_, hY i hi⟩⟩
  · rw [H2_high hl hn (by decide)]; rfl
  · rw [H2_high hl hn (by decide)]; rfl
  · rw [H2_high hl hn (by decide)]; rfl
  · rw [H2_high hl hn (by omega)]; exact HYfd hi
theorem H2.gone {n room : Nat} {X Y : Ob} {rest : Hp} (hl : Low rest) : fd 2900 (H2 n room X Y rest) = .gone ∧ fd 2901 (H2 n room X Y rest) = .gone :=
  ⟨(H2_low (by decide)).trans (gg.gone hl).1, (H2_low (by decide)).trans (gg.gone hl).2⟩
/-- Both told anew. -/
theorem H2.back {n room : Nat} {X Y : Ob} {rest h' : Hp} {ρ : Nat → Nat} (hn : n ≤ 256) (hX : LnT h' n room X (ρ 8) (ρ 9) (ρ 2) (fun i => ρ (i + 3000))) (hY : LnT h' n room Y (ρ 5008) (ρ 5009) (ρ 5002) (fun i => ρ (i + 8000))) (inj : ∀ t u, ρ t = ρ u → t = u) (hl : Low rest) (hk : nodupB (rest.map (·.1)) = true)
    (hr : wkH ρ h' (H2 n room X Y rest) rest) : nodupB (((H2 n room X Y rest).map (·.1)).map ρ) = true ∧ wkH ρ h' (H2 n room X Y rest) (H2 n room X Y rest) := by
  have hm := gg.mid hl
  have oX : ObOK n X := fun i hi => (hX.lst i hi).2
  have oY : ObOK n Y := fun i hi => (hY.lst i hi).2
  refine ⟨nodupB_of ?_, ?_⟩
  · unfold List.Nodup
    rw [List.pairwise_map]
    have base : ((H2 n room X Y rest).map (·.1)).Nodup := by
      rw [List.map_append, List.nodup_append]
      refine ⟨nodupB_iff ?_, ?_, fun a ha b hb => ?_⟩
      · have := (LnQ.back (h := HLw X.bL X.bM X.bR n room X.S X.e X.cp (gg rest)) (rest := rest) (HLw.q hm oX) Ren1.id (fun _ _ _ _ _ => rfl) hl hk)
        have h0 := nodup_lanes (A := (2, Ent.gone) :: (9, Ent.gone) :: (8, Ent.gone) :: gg rest) (τ := tau []) (o := 3000) (n := n) (e := X.e) ?_ (fun i j _ _ q => by have q : i + 3000 = j + 3000 := q; omega) (fun a ha i hi q => ?_)
        · have e : ((HLw X.bL X.bM X.bR n room X.S X.e X.cp (gg rest)).map (·.1)).map (tau []) = (HLw X.bL X.bM X.bR n room X.S X.e X.cp (gg rest)).map (·.1) := List.map_id _
          rw [← e]
          exact h0
        · have e : (((2, Ent.gone) :: (9, Ent.gone) :: (8, Ent.gone) :: gg rest).map (·.1)).map (tau []) = 2 :: 9 :: 8 :: (gg rest).map (·.1) := List.map_id _
          rw [e]
          refine nodupB_of ?_
          have hg : ((gg rest).map (·.1)).Nodup := by
            rw [List.map_append, List.nodup_append]
            refine ⟨nodupB_iff hk, by decide, fun a ha b hb => ?_⟩
            have := hl.mem ha
            simp only [List.map_cons, List.map_nil, List.mem_cons, List.not_mem_nil, or_false] at hb
            rcases hb with rfl | rfl <;> omega
          refine List.nodup_cons.2 ⟨?_, List.nodup_cons.2 ⟨?_, List.nodup_cons.2 ⟨?_, hg⟩⟩⟩
          · simp only [List.mem_cons, not_or]
            exact ⟨by decide, by decide, fun q => (hm _ q).2.1 rfl⟩
          · simp only [List.mem_cons, not_or]
            exact ⟨by decide, fun q => (hm _ q).2.2.1 rfl⟩
          · exact fun q => (hm _ q).2.2.2 rfl
        · have q : a = i + 3000 := q
          simp only [List.map_cons, List.mem_cons] at ha
          rcases ha with rfl | rfl | rfl | ha
          · omega
          · omega
          · omega
          · have := hm _ ha; omega
      · unfold HY
        rw [List.map_cons, List.map_cons, List.map_cons, lanes_keys]
        refine List.nodup_cons.2 ⟨?_, List.nodup_cons.2 ⟨?_, List.nodup_cons.2 ⟨?_, nodup_shift⟩⟩⟩
        · simp only [List.mem_cons, List.mem_map, not_or]; exact ⟨by decide, by decide, fun ⟨i, _, q⟩ => by omega⟩
        · simp only [List.mem_cons, List.mem_map, not_or]; exact ⟨by decide, fun ⟨i, _, q⟩ => by omega⟩
        · simp only [List.mem_map]; exact fun ⟨i, _, q⟩ => by omega
      · have h1 := HY_keys hb
        rintro rfl
        have := HLw_keys hm ha
        omega
    exact base.imp fun h q => h (inj _ _ q)
  · obtain ⟨gl, g, ⟨x1, x2, x3, x4⟩, x5, x6⟩ := hX.ex
    obtain ⟨gl', g', ⟨y1, y2, y3, y4⟩, y5, y6⟩ := hY.ex
    have vlow : ∀ t, t < 5000 → live (HLw X.bL X.bM X.bR n room X.S X.e X.cp (gg rest)) t → live (H2 n room X Y rest) t := fun t ht q => by unfold live at q ⊢; rw [H2_low ht]; exact q
    have vhigh : ∀ t, 5000 ≤ t → live (HY n room Y) t → live (H2 n room X Y rest) t := fun t ht q => by unfold live at q ⊢; rw [H2_high hl hn ht]; exact q
    refine wkH_app ⟨?_, ?_, ?_, wkH_app (wkH_app hr ⟨wk_gone, wk_gone, trivial⟩) (wkH_lanes fun i hi => ?_)⟩ ⟨?_, ?_, ?_, wkH_lanes fun i hi => ?_⟩
    · rw [x5]
      refine ⟨rfl, rfl, rfl, rfl, fun i c hi hc => ?_⟩
      obtain rfl : c = 0 := by omega
      rw [x6 i hi]
      exact ⟨⟨rfl, vlow _ (by omega) (live_lane hm hi (lst_live (oX i hi)))⟩, rfl, rfl, rfl⟩
    · rw [hX.map]; exact ⟨rfl, rfl⟩
    · rw [x1]
      refine ⟨rfl, rfl, rfl, rfl, fun i c hi hc => ?_⟩
      obtain rfl : i = 0 := (by omega)
      match c, hc with
      | 0, _ => rw [x2]; exact ⟨⟨rfl, trivial⟩, rfl, rfl, rfl⟩
      | 1, _ => rw [x3]; exact ⟨rfl, rfl⟩
      | 2, _ => rw [x4]; exact ⟨rfl, trivial⟩
    · rw [(hX.lst i hi).1]; exact lst_wk (oX i hi) _ _
    · rw [y5]
      refine ⟨rfl, rfl, rfl, rfl, fun i c hi hc => ?_⟩
      obtain rfl : c = 0 := by omega
      rw [y6 i hi]
      exact ⟨⟨rfl, vhigh _ (by omega) (live_fd (HYfd hi) (lst_live (oY i hi)))⟩, rfl, rfl, rfl⟩
    · rw [hY.map]; exact ⟨rfl, rfl⟩
    · rw [y1]
      refine ⟨rfl, rfl, rfl, rfl, fun i c hi hc => ?_⟩
      obtain rfl : i = 0 := (by omega)
      match c, hc with
      | 0, _ => rw [y2]; exact ⟨⟨rfl, vhigh _ (by decide) trivial⟩, rfl, rfl, rfl⟩
      | 1, _ => rw [y3]; exact ⟨rfl, rfl⟩
      | 2, _ => rw [y4]; exact ⟨rfl, vhigh _ (by decide) trivial⟩
    · rw [(hY.lst i hi).1]; exact lst_wk (oY i hi) _ _
/-- The two change places. -/
def sw (t : Nat) : Nat := if t < 3256 then (if t = 2 ∨ t = 8 ∨ t = 9 ∨ 3000 ≤ t then t + 5000 else t) else if t = 5002 ∨ t = 5008 ∨ t = 5009 ∨ (8000 ≤ t ∧ t < 8256) then t - 5000 else t
theorem sw_sw (t : Nat) : sw (sw t) = t := by
  unfold sw
  split <;> split <;> (try split) <;> (try split) <;> omega
theorem sw_inj (t u : Nat) (h : sw t = sw u) : t = u := by rw [← sw_sw t, h, sw_sw]
theorem sw_lane {i : Nat} (h : i < 256) : sw (i + 3000) = i + 8000 ∧ sw (i + 8000) = i + 3000 := by
  unfold sw
  rw [if_pos (by omega), if_pos (by omega), if_neg (by omega), if_pos (by omega)]
  omega
theorem sw_low {t : Nat} (h : t < 3000) (h2 : t ≠ 2) (h8 : t ≠ 8) (h9 : t ≠ 9) : sw t = t := by
  unfold sw
  rw [if_pos (by omega), if_neg (by omega)]
end Go.Proofs.Ytkncijljkfpdiaa.Sx
