import Derived.Test.YtkncijljkfpdiaaSxWG
/-
  The walks of this seat's laws: LaneOrder.
-/
namespace Go.Proofs.Ytkncijljkfpdiaa.Sx
open Go Go.Proofs
set_option maxRecDepth 100000
set_option linter.unusedSimpArgs false
set_option linter.unusedVariables false

/-! ### A lane, and what a step does to it -/
theorem lane_nodup {n room : Nat} {S : Std} (hF : Fit n room S) (b : Nat) : (lane S b).Nodup := by
  unfold lane
  exact hF.nd.sublist ((List.filter_sublist).map _)
/-- Whatever is pulled: what is left of a lane. -/
theorem lane_pulled {n room : Nat} {S : Std} (hF : Fit n room S) (b : Nat) (t : Int) : lane (pullS S t) b = (lane S b).filter (fun x => x != t) := by
  by_cases h : hasT S t = true
  · rw [lane_pull h]
    split
    · exact (lane_nodup hF b).erase_eq_filter t
    · rename_i hb
      refine (List.filter_eq_self.2 fun x hx => ?_).symm
      have hm := mem_lane.1 hx
      simp only [bne_iff_ne, ne_eq]
      rintro rfl
      exact hb (blkT_at hF.nd hm).2.symm
  · have h' : hasT S t = false := by simpa using h
    rw [pullS_no h']
    refine (List.filter_eq_self.2 fun x hx => ?_).symm
    have hm := mem_lane.1 hx
    simp only [bne_iff_ne, ne_eq]
    rintro rfl
    exact h (blkT_at hF.nd hm).1
theorem filter_take_succ {l : List Int} {k : Nat} {t : Int} (h : k < l.length) : (l.take (k + 1)).filter (fun x => x != t) = (l.take k).filter (fun x => x != t) ++ (if l.getD k 0 = t then [] else [l.getD k 0]) := by
  rw [List.take_succ_eq_append_getElem h, List.filter_append, getD_at h]
  congr 1
  by_cases e : l[k] = t
  · rw [if_pos e]; simp [e]
  · rw [if_neg e]; simp [e]
/-- A copy of a list behind a row of nothing. -/
theorem app_copy {T : Tab} {t : Nat} (hA : appT T t) {tv nx : Nat} {b' : Option Addr} {u : V} {m : List Int} {g : Nat → Nat → V} {h : Hp} {K : V → Hp → Nat → Prop} (e1 : fd tv (roH h) = .ro b' 0 1 g) (hu : rdL h u m) (hnx : fd nx h = .gone) (hsz : m.length ≤ 134217728)
    (k0 : m = [] → K (.slice tv 0 0 0) h nx) (k2 : ∀ e cp, lstE e m cp → K (.slice nx 0 m.length cp) ((nx, e) :: h) (nx + 1)) : appS T [t, t] (.slice tv 0 0 0) u h nx K := by
  refine app_L (l := []) (m := m) hA (.inr ⟨tv, 0, 0, _, 0, g, rfl, e1, Nat.le_refl _, fun i hi => by simp at hi⟩) (fun tv i n c q => by cases q; exact Nat.le_refl _) hu hnx (by simpa using hsz) k0 ?_ ?_
  · rintro tv i c q hne hle
    cases q
    have : 0 < m.length := List.length_pos_iff.2 hne
    exact absurd hle (by simp; omega)
  · intro hne b2 cap g' ty p1 p2 p3
    exact k2 _ cap (lstE.of p3 p1 p2)

/-! ### The walk -/
def SP4 : SpT := [(8, sAwake), (9, sNew), (10, sPush), (12, sPull), (14, sHd false), (15, sHd true), (17, sLane), (16, sInts)]
theorem sp4 : ∀ p ∈ SP4, SpecOK Try.prog p.1 p.2 := consSP sAwake_ok (consSP sNew_ok (consSP sPush_ok (consSP sPull_ok (consSP sHead_ok (consSP sLast_ok (consSP sLane_ok (consSP sInts_ok noSP)))))))
def gA (k b t : Int) : Nat → Nat → V := fun _ c => match c with | 0 => .int .i64 k | 1 => .int .i64 b | _ => .int .i64 t
theorem gA_wk {bx : Nat} {k b t : Int} (τ : Nat → Nat) (h' : Hp) : wkE τ h' (.blk bx 1 3 (gA k b t) 38) (.blk bx 1 3 (gA k b t) 38) := ⟨rfl, rfl, rfl, rfl, fun i c hi hc => match c, hc with | 0, _ => ⟨rfl, rfl⟩ | 1, _ => ⟨rfl, rfl⟩ | 2, _ => ⟨rfl, rfl⟩⟩
abbrev G6 : Hp := [(60, .gone), (61, .gone), (62, .gone), (63, .gone), (64, .gone)]
abbrev Q0 (eX : Ent) : Hp := (100, eX) :: G6
abbrev Q1 (eX eW : Ent) : Hp := (100, eX) :: (200, eW) :: G6
abbrev Q2 (eX eW eA : Ent) : Hp := (100, eX) :: (200, eW) :: (220, eA) :: G6
abbrev Q3 (eX eW eA eF : Ent) : Hp := (100, eX) :: (200, eW) :: (220, eA) :: (230, eF) :: G6
theorem wkH_fdeq {τ : Nat → Nat} {h h2 h' : Hp} (he : ∀ t, fd t h2 = fd t h) : ∀ {G : Hp}, wkH τ h h' G → wkH τ h2 h' G
  | [], _ => trivial
  | (t, e) :: r, ⟨h1, h3⟩ => ⟨by rw [he]; exact h1, wkH_fdeq he h3⟩
theorem rdL_ro {h : Hp} {v : V} {l : List Int} (H : rdL h v l) : rdL (roH h) v l := by
  rcases H with ⟨rfl, rfl⟩ | ⟨t, i, c, b, N, g, rfl, e, h1, h2⟩
  · exact .inl ⟨rfl, rfl⟩
  · refine .inr ⟨t, i, c, b, N, g, rfl, ?_, h1, h2⟩
    rw [fd_roH, e]; rfl
theorem HLw.wkB {bL bM bR n room : Nat} {S : Std} {e : Nat → Ent} {cp : Nat → Nat} (A : Hp) {rest rest' : Hp} {τ : Nat → Nat} (hA : (A.map (·.1)).all (fun t => Nat.blt t 3000) = true) (hl : Low rest) (hl' : Low rest') (he : LsOK n S e cp)
    (f2 : fd (τ 2) (A ++ HLw bL bM bR n room S e cp (gg rest)) = .blk bR n 1 (gR S cp) 58) (f9 : fd (τ 9) (A ++ HLw bL bM bR n room S e cp (gg rest)) = .mp bM (mpS S)) (f8 : fd (τ 8) (A ++ HLw bL bM bR n room S e cp (gg rest)) = .blk bL 1 3 (gLn n room) 55) (hτ : ∀ i, τ (i + 3000) = i + 3000) (t2 : τ 2 = 2) (t9 : τ 9 = 9)
    (hr : wkH τ (A ++ HLw bL bM bR n room S e cp (gg rest)) (HLw bL bM bR n room S e cp (gg rest')) rest') : wkH τ (A ++ HLw bL bM bR n room S e cp (gg rest)) (HLw bL bM bR n room S e cp (gg rest')) (HLw bL bM bR n room S e cp (gg rest')) :=
  HLw.wkA A hA (gg.mid hl) (gg.mid hl') he f2 f9 f8 hτ t2 t9 (wkH_app hr ⟨wk_gone, wk_gone, trivial⟩)
set_option maxHeartbeats 4000000 in
theorem order_walk {c : Cx} (hc : c.P = Try.prog) {ub : Option Addr} {len cap : Nat} {z : Nat → Nat → Int} {bn : Nat} (hbn : bn < 256) (hlen : len ≤ 9223372036854775807) :
    ∃ cd, Try.f4.body = some cd ∧ W ⟨c, Try.f4, T, SP4, fun o _ _ => o = .ret (.bool true)⟩ [.code cd] (argsS [.slice 100 0 len cap, .int .u8 (bn : Int)] 0) [(100, .ro ub len 3 (gT z))] 0 := by
  refine ⟨_, rfl, ?_⟩
  have hE := mkE' (fn := Try.f4) (R := fun o _ _ => o = .ret (.bool true)) hc sp4
  obtain ⟨eX, hX⟩ : ∃ eX : Ent, eX = .ro ub len 3 (gT z) := ⟨_, rfl⟩
  have wX : ∀ τ h', wkE τ h' eX eX := fun τ h' => by rw [hX]; exact gT_wk _ _
  rw [← hX]
  have vX : eX.here := by rw [hX]; trivial
  have vX0 : live [(100, eX)] 100 := vX
  have hwk : wkH (tau []) [(100, eX)] [(100, eX)] [(100, eX)] := ⟨wX _ _, trivial⟩
  have wG : ∀ τ h h', wkH τ h h' G6 := fun τ h h' => ⟨wk_gone, wk_gone, wk_gone, wk_gone, wk_gone, trivial⟩
  obtain ⟨n, hn⟩ : ∃ n : Nat, n = 256 := ⟨_, rfl⟩
  refine W_seq (nx := 0) ?_
  refine W_to (nx := 0) [(0, .slice 100 0 len cap), (1, .int .u8 (bn : Int))] [(100, eX)] 30 ?_ ?_
  · refine vc_sound hE 20 _ _ _ 30 ?_
    exact ⟨tau [], rfl, (by repeat' (first | exact rfl | exact trivial | assumption | refine ⟨?_, ?_⟩)), hwk⟩
  refine W_seq (nx := 30) ?_
  refine W_to (nx := 30) [(0, .slice 100 0 len cap), (1, .int .u8 (bn : Int))] [(100, eX)] 30 ?_ ?_
  · refine vc_sound hE 60 _ _ _ 30 ?_
    refine ⟨rfl, ?_⟩
    exact ⟨tau [], rfl, (by repeat' (first | exact rfl | exact trivial | assumption | refine ⟨?_, ?_⟩)), hwk⟩
  refine W_seq (nx := 30) ?_
  have low0 : Low (Q0 eX) := rfl
  have hm0 : Mid (gg (Q0 eX)) := gg.mid low0
  refine W_ex (nx := 30) (fun (a : (Nat × Nat × Nat) × (Nat → Ent) × (Nat → Nat)) => LsOK n [] a.2.1 a.2.2) (fun a => [(0, .slice 100 0 len cap), (1, .int .u8 (bn : Int)), (5, .ptr 8 0 0)]) (fun a => HLw a.1.1 a.1.2.1 a.1.2.2 n 128 [] a.2.1 a.2.2 (gg (Q0 eX))) 30 ?_ ?_
  · refine vc_sound hE 40 _ _ _ 30 ?_
    refine ⟨256, 128, rfl, fun q => absurd q (by decide), fun n' room hm hn' hr => ?_⟩
    obtain rfl : n' = n := by omega
    obtain rfl : room = 128 := by omega
    refine ⟨rfl, rfl, rfl, fun i hi => low_gone rfl, fun bL bM bR => ?_⟩
    have hτ := Ren1.id
    obtain ⟨k1, k2⟩ := LnQ.back (h := [(100, eX)]) (rest := Q0 eX) (HNew.q (bL := bL) (bM := bM) (bR := bR) (n := n') (room := 128) (h := [(100, eX)])) hτ (fun t h1 h2 h3 h4 => HNew.else (by omega) h2 h3 h4) low0 rfl ⟨wX _ _, wk_gone, wk_gone, wk_gone, wk_gone, wk_gone, trivial⟩
    have v : live (HLw bL bM bR n' 128 [] (fun _ => nilE) (fun _ => 0) (gg (Q0 eX))) 100 := vX
    exact ⟨((bL, bM, bR), (fun _ => nilE), (fun _ => 0)), fun i hi => nilL, tau [], k1, (by repeat' (first | exact rfl | exact trivial | exact (hτ.low (by decide)).symm | assumption | refine ⟨?_, ?_⟩)), k2⟩
  rintro ⟨⟨bL, bM, bR⟩, e0, c0⟩ l0
  have l0 : LsOK n [] e0 c0 := l0
  have v0 : live (HLw bL bM bR n 128 [] e0 c0 (gg (Q0 eX))) 100 := vX
  have r0 := HLw.re (bL := bL) (bM := bM) (bR := bR) (n := n) (room := 128) (S := []) [] (rest := Q0 eX) (rest' := Q0 eX) (tau []) rfl low0 low0 l0 rfl rfl rfl rfl rfl (fun _ => rfl) rfl rfl ⟨wX _ _, wG _ _ _⟩
  refine W_seq (nx := 30) ?_
  refine W_to (nx := 30) [(0, .slice 100 0 len cap), (1, .int .u8 (bn : Int)), (5, .ptr 8 0 0)] (HLw bL bM bR n 128 [] e0 c0 (gg (Q0 eX))) 30 ?_ ?_
  · refine vc_sound hE 60 _ _ _ 30 ?_
    exact ⟨tau [], r0.1, (by repeat' (first | exact rfl | exact trivial | assumption | refine ⟨?_, ?_⟩)), r0.2⟩
  refine W_seq (nx := 30) ?_
  have hwb : IntKind.i64.wrap (bn : Int) = (bn : Int) := by simp only [IntKind.wrap_i64]; omega
  refine W_to (nx := 30) [(0, .slice 100 0 len cap), (5, .ptr 8 0 0), (7, .int .i64 (bn : Int))] (HLw bL bM bR n 128 [] e0 c0 (gg (Q0 eX))) 30 ?_ ?_
  · refine vc_sound hE 60 _ _ _ 30 ?_
    exact ⟨tau [], r0.1, ⟨⟨⟨rfl, v0⟩, rfl, rfl, rfl⟩, ⟨⟨rfl, trivial⟩, rfl, rfl⟩, ⟨rfl, hwb⟩, trivial⟩, r0.2⟩
  refine W_seq (nx := 30) ?_
  refine W_piece (nx := 30) (fun σ1 h1 _ => h1 = HLw bL bM bR n 128 [] e0 c0 (gg (Q0 eX)) ∧ lk 0 σ1 = some (.slice 100 0 len cap) ∧ lk 5 σ1 = some (.ptr 8 0 0) ∧ lk 7 σ1 = some (.int .i64 (bn : Int)) ∧ lk 8 σ1 = some .nils) ?_ ?_
  · refine vc_sound hE 20 _ _ _ 60 ?_
    exact ⟨rfl, rfl, rfl, rfl, rfl⟩
  rintro σ1 h1 _ ⟨rfl, s0, s5, s7, s8⟩
  refine W_nil (σ' := [(0, .slice 100 0 len cap), (5, .ptr 8 0 0), (7, .int .i64 (bn : Int)), (8, .slice 200 0 (lane [] bn).length 0)]) 200 (gone_at (by decide) (by decide) (by decide) (by decide) (show 200 ∉ [100, 60, 61, 62, 63, 64, 2900, 2901] by decide)) ⟨?_, ?_, ?_, ?_, trivial⟩ (nx' := 60) ?_
  · rw [s0]; exact tell_slice rfl
  · rw [s5]; exact tell_ptr rfl
  · rw [s7]; exact tell_flat trivial
  · rw [s8]; exact tell_nil rfl
  clear s0 s5 s7 s8
  have low1 : ∀ eW, Low (Q1 eX eW) := fun _ => rfl
  have hm1 : ∀ eW, Mid (gg (Q1 eX eW)) := fun eW => gg.mid (low1 eW)
  have low2 : ∀ eW eA, Low (Q2 eX eW eA) := fun _ _ => rfl
  have hm2 : ∀ eW eA, Mid (gg (Q2 eX eW eA)) := fun eW eA => gg.mid (low2 eW eA)
  have low3 : ∀ eW eA eF, Low (Q3 eX eW eA eF) := fun _ _ _ => rfl
  have hm3 : ∀ eW eA eF, Mid (gg (Q3 eX eW eA eF)) := fun eW eA eF => gg.mid (low3 eW eA eF)
  have v1 : ∀ S e cp eW, live (HLw bL bM bR n 128 S e cp (gg (Q1 eX eW))) 100 := fun _ _ _ _ => vX
  have re1 : ∀ S e cp eW (c : List Int × Nat), LsOK n S e cp → lstE eW c.1 c.2 → nodupB (((HLw bL bM bR n 128 S e cp (gg (Q1 eX eW))).map (·.1)).map (tau [])) = true ∧ wkH (tau []) (HLw bL bM bR n 128 S e cp (gg (Q1 eX eW))) (HLw bL bM bR n 128 S e cp (gg (Q1 eX eW))) (HLw bL bM bR n 128 S e cp (gg (Q1 eX eW))) := fun S e cp eW c hL hl => HLw.re [] (tau []) rfl (low1 eW) (low1 eW) hL rfl rfl rfl rfl rfl (fun _ => rfl) rfl rfl ⟨wX _ _, lst_wk hl _ _, wG _ _ _⟩
  obtain ⟨q1, q2⟩ := HLw.re (bL := bL) (bM := bM) (bR := bR) (n := n) (room := 128) (S := []) [(200, nilE)] (rest := Q0 eX) (rest' := Q1 eX nilE) (tau []) rfl low0 (low1 nilE) l0 rfl rfl rfl rfl rfl (fun _ => rfl) rfl rfl ⟨wX _ _, lst_wk nilL _ _, wG _ _ _⟩
  have v := v1 [] e0 c0 nilE
  refine W_weak (nx' := 60) (σ' := [(0, .slice 100 0 len cap), (5, .ptr 8 0 0), (7, .int .i64 (bn : Int)), (8, .slice 200 0 (lane [] bn).length 0)]) (h' := HLw bL bM bR n 128 [] e0 c0 (gg (Q1 eX nilE))) (tau []) ⟨q1, (by repeat' (first | exact rfl | exact trivial | assumption | refine ⟨?_, ?_⟩)), q2⟩ ?_
  refine W_seq (nx := 60) ?_
  refine W_piece (nx := 60) (fun _ _ _ => True) ?_ ?_
  rotate_left
  · intro σ1 h1 _ _
    refine vc_sound hE 60 _ _ _ 30 ?_
    rfl
  have hfit0 : Fit n 128 [] := ⟨by simp, by decide, by omega, by simp, by simp, by simp⟩
  refine vc_sound hE 5 _ _ _ 60 ?_
  have rr := re1 [] e0 c0 nilE ([], 0) l0 nilL
  refine W_loop (fun q σ h => ∃ (i : Nat) (S : Std) (e : Nat → Ent) (cp : Nat → Nat) (eW : Ent) (cW : Nat), q = len - i ∧ i ≤ len ∧ i ≤ 150 ∧ Fit n 128 S ∧ LsOK n S e cp ∧ lstE eW (lane S bn) cW ∧ σ = [(0, .slice 100 0 len cap), (5, .ptr 8 0 0), (7, .int .i64 (bn : Int)), (8, .slice 200 0 (lane S bn).length cW), (9, .int .i64 (i : Int))] ∧ h = HLw bL bM bR n 128 S e cp (gg (Q1 eX eW)))
    len ⟨0, [], e0, c0, nilE, 0, rfl, by omega, by omega, hfit0, l0, nilL, rfl, rfl⟩ (tau []) ⟨rr.1, (by repeat' (first | exact rfl | exact trivial | assumption | refine ⟨?_, ?_⟩)), rr.2⟩ 60 ?_
  clear v hfit0 rr q1 q2 r0 v0
  rintro q σ h1 ⟨i, S, e, cp, eW, cW, rfl, hi, hi150, hF, hL, hW, rfl, rfl⟩
  have v := v1 S e cp eW
  have vW : live (HLw bL bM bR n 128 S e cp (gg (Q1 eX eW))) 200 := lst_live hW
  have rr := re1 S e cp eW (_, _) hL hW
  refine W_seq (nx := 60) ?_
  refine W_piece (nx := 60) (fun σ1 h1 _ => (i < len ∧ i < 150) ∧ ∃ τ, wk τ σ1 h1 [(0, .slice 100 0 len cap), (5, .ptr 8 0 0), (7, .int .i64 (bn : Int)), (8, .slice 200 0 (lane S bn).length cW), (9, .int .i64 (i : Int))] (HLw bL bM bR n 128 S e cp (gg (Q1 eX eW)))) ?_ ?_
  · refine vc_sound hE 60 _ _ _ 60 ?_
    (refine (?_ : br _ _ _); refine br_dec (fun q => ?_) (fun q => ?_))
    · have q1 : (i : Int) < (len : Int) := q
      (refine (?_ : br _ _ _); refine br_dec (fun q => ?_) (fun q => ?_))
      · have q2 : (i : Int) < 150 := q
        exact ⟨⟨by omega, by omega⟩, tau [], rr.1, (by repeat' (first | exact rfl | exact trivial | assumption | refine ⟨?_, ?_⟩)), rr.2⟩
      · exact trivial
    · exact trivial
  rintro σ1 h1 _ ⟨⟨hil, hi3⟩, τ1, hw1⟩
  refine W_weak (nx' := 60) τ1 hw1 ?_
  clear hw1
  have hwi : IntKind.i64.wrap ((i : Int) + 1) = ((i + 1 : Nat) : Int) := by simp only [IntKind.wrap_i64]; omega
  have hz : addI 0 ((i : Int)).toNat = i := by rw [Int.toNat_natCast, addI_eq, Nat.zero_add]
  have hlS := hF.len
  have hlb := lane_len (S := S) (b := bn)
  refine vc_sound hE 2 _ _ _ 60 ?_
  refine W_seq (nx := 60) ?_
  -- the act, in a row of its own
  refine W_ex (nx := 60) (fun (_ : Nat) => True) (fun _ => [(0, .slice 100 0 len cap), (5, .ptr 8 0 0), (7, .int .i64 (bn : Int)), (8, .slice 200 0 (lane S bn).length cW), (9, .int .i64 (i : Int)), (10, .ptr 220 0 0)]) (fun bx => HLw bL bM bR n 128 S e cp (gg (Q2 eX eW (.blk bx 1 3 (gA (z i 0) (z i 1) (z i 2)) 38)))) 60 ?_ ?_
  · subst hX
    refine vc_sound hE 60 _ _ _ 60 ?_
    (refine (?_ : chk _ _); refine chk_ok (show (decide ((0 : Int) ≤ (i : Int)) && decide ((i : Int) < (len : Int))) = true by simp only [Bool.and_eq_true, decide_eq_true_eq]; omega) ?_)
    (refine (?_ : chk _ _); refine chk_ok rfl ?_)
    (refine (?_ : chk _ _); refine chk_ok (Nat.ble_eq_true_of_le (show addI 0 ((i : Int)).toNat * 3 + 0 + 3 ≤ len * 3 by rw [hz]; omega)) ?_)
    rw [hz]
    intro bx
    have vx : live (HLw bL bM bR n 128 S e cp (gg (Q2 (.ro ub len 3 (gT z)) eW (.blk bx 1 3 (gA (z i 0) (z i 1) (z i 2)) 38)))) 200 := lst_live hW
    refine ⟨bx, trivial, tau [(220, 60), (60, 220)], keysR rfl (fun _ => rfl) rfl, (by repeat' (first | exact rfl | exact trivial | assumption | refine ⟨?_, ?_⟩)), HLw.wkB [(60, _), (60, _)] rfl (low1 _) (low2 _ _) hL rfl rfl rfl (fun _ => rfl) rfl rfl ⟨wX _ _, lst_wk hW _ _, ?_, wG _ _ _⟩⟩
    refine ⟨rfl, rfl, rfl, rfl, fun j k hj hk => ?_⟩
    have hj : j < 1 := hj
    have hk : k < 3 := hk
    obtain rfl : j = 0 := by omega
    match k, hk with
    | 0, _ => exact ⟨rfl, rfl⟩
    | 1, _ => exact ⟨rfl, rfl⟩
    | 2, _ => exact ⟨rfl, rfl⟩
  rintro bx -
  obtain ⟨eA, hA⟩ : ∃ eA : Ent, eA = .blk bx 1 3 (gA (z i 0) (z i 1) (z i 2)) 38 := ⟨_, rfl⟩
  have wA : ∀ τ h', wkE τ h' eA eA := fun τ h' => by rw [hA]; exact gA_wk _ _
  have vA : eA.here := by rw [hA]; trivial
  rw [← hA]
  have u0 : ∀ S e cp eW, live (HLw bL bM bR n 128 S e cp (gg (Q2 eX eW eA))) 100 := fun _ _ _ _ => vX
  have u2 : ∀ S e cp eW, live (HLw bL bM bR n 128 S e cp (gg (Q2 eX eW eA))) 220 := fun _ _ _ _ => vA
  have re2 : ∀ S e cp eW (c : List Int × Nat), LsOK n S e cp → lstE eW c.1 c.2 → nodupB (((HLw bL bM bR n 128 S e cp (gg (Q2 eX eW eA))).map (·.1)).map (tau [])) = true ∧ wkH (tau []) (HLw bL bM bR n 128 S e cp (gg (Q2 eX eW eA))) (HLw bL bM bR n 128 S e cp (gg (Q2 eX eW eA))) (HLw bL bM bR n 128 S e cp (gg (Q2 eX eW eA))) := fun S e cp eW c hL hl => HLw.re [] (tau []) rfl (low2 eW eA) (low2 eW eA) hL rfl rfl rfl rfl rfl (fun _ => rfl) rfl rfl ⟨wX _ _, lst_wk hl _ _, wA _ _, wG _ _ _⟩
  have hback : ∀ (h' : Hp) (g' : Nat → Nat → V) (S' : Std) (e' : Nat → Ent) (cp' : Nat → Nat) (τ : Nat → Nat), Else n (HLw bL bM bR n 128 S e cp (gg (Q2 eX eW eA))) h' → LnQ h' bL bM bR n 128 g' S' e' cp' τ → Ren1 τ → nodupB (((HLw bL bM bR n 128 S' e' cp' (gg (Q2 eX eW eA))).map (·.1)).map τ) = true ∧ wkH τ h' (HLw bL bM bR n 128 S' e' cp' (gg (Q2 eX eW eA))) (HLw bL bM bR n 128 S' e' cp' (gg (Q2 eX eW eA))) := fun h' g' S' e' cp' τ k1 k2 hτ =>
    LnQ.back (h := HLw bL bM bR n 128 S e cp (gg (Q2 eX eW eA))) (rest := Q2 eX eW eA) k2 hτ (fun t h1 h2 h3 h4 => k1 t h2 h3 (.inl h1)) (low2 _ _) rfl ⟨wX _ _, lst_wk hW _ _, wA _ _, wk_gone, wk_gone, wk_gone, wk_gone, wk_gone, trivial⟩
  refine W_seq (nx := 60) ?_
  -- what is done, and what the law's own list is behind it
  refine W_ex (nx := 60) (fun (a : Std × (Nat → Ent) × (Nat → Nat) × Ent × Nat) => Fit n 128 a.1 ∧ LsOK n a.1 a.2.1 a.2.2.1 ∧ lstE a.2.2.2.1 (lane a.1 bn) a.2.2.2.2) (fun a => [(0, .slice 100 0 len cap), (5, .ptr 8 0 0), (7, .int .i64 (bn : Int)), (8, .slice 200 0 (lane a.1 bn).length a.2.2.2.2), (9, .int .i64 (i : Int))]) (fun a => HLw bL bM bR n 128 a.1 a.2.1 a.2.2.1 (gg (Q1 eX a.2.2.2.1))) 60 ?_ ?_
  · have vv := u0 S e cp eW
    have vv2 := u2 S e cp eW
    have vv3 : live (HLw bL bM bR n 128 S e cp (gg (Q2 eX eW eA))) 200 := lst_live hW
    refine W_seq (nx := 60) ?_
    refine W_to (nx := 60) [(0, .slice 100 0 len cap), (5, .ptr 8 0 0), (7, .int .i64 (bn : Int)), (8, .slice 200 0 (lane S bn).length cW), (9, .int .i64 (i : Int)), (10, .ptr 220 0 0), (43, .bool (z i 0 == 0))] (HLw bL bM bR n 128 S e cp (gg (Q2 eX eW eA))) 60 ?_ ?_
    · subst hA
      refine vc_sound hE 60 _ _ _ 60 ?_
      exact ⟨tau [], (re2 _ _ _ _ (_, _) hL hW).1, (by repeat' (first | exact rfl | exact trivial | assumption | refine ⟨?_, ?_⟩)), (re2 _ _ _ _ (_, _) hL hW).2⟩
    refine vc_sound hE 1 _ _ _ 60 ?_
    (refine (?_ : br _ _ _); refine br_eq (fun q => ?_) (fun q => ?_))
    · refine W_seq (nx := 60) ?_
      refine W_ex (nx := 60) (fun (a : (Nat → Ent) × (Nat → Nat)) => LsOK n (pushS n 128 S (z i 1) (z i 2)) a.1 a.2) (fun a => [(0, .slice 100 0 len cap), (5, .ptr 8 0 0), (7, .int .i64 (bn : Int)), (8, .slice 200 0 (lane S bn).length cW), (9, .int .i64 (i : Int)), (10, .ptr 220 0 0), (56, .bool (decide (pushC n 128 S (z i 1) (z i 2) = 0 ∧ z i 1 = bn)))]) (fun a => HLw bL bM bR n 128 (pushS n 128 S (z i 1) (z i 2)) a.1 a.2 (gg (Q2 eX eW eA))) 60 ?_ ?_
      · refine vc_sound hE 7 _ _ _ 60 ?_
        subst hA
        refine ⟨bL, bM, bR, n, 128, gR S cp, S, e, cp, z i 1, z i 2, rfl, HLw.q (hm2 _ _) hL, hF, (gg.gone (low2 _ _)).1, (gg.gone (low2 _ _)).2, fun h' g' e' cp' τ kx k1 k2 hτ _ => ?_⟩
        have f220 : fd 220 h' = .blk bx 1 3 (gA (z i 0) (z i 1) (z i 2)) 38 := k1 220 (by decide) (by decide) (.inl (by decide))
        refine putS_some rfl ?_
        refine W_fdeq (nx' := 60) (fdeq_cons f220) ?_
        refine vc_sound hE 30 _ _ _ 60 ?_
        obtain ⟨q1, q2⟩ := hback _ _ _ _ _ _ k1 k2 hτ
        have q2' : wkH τ ((220, .blk bx 1 3 (gA (z i 0) (z i 1) (z i 2)) 38) :: h') (HLw bL bM bR n 128 (pushS n 128 S (z i 1) (z i 2)) e' cp' (gg (Q2 eX eW (.blk bx 1 3 (gA (z i 0) (z i 1) (z i 2)) 38)))) (HLw bL bM bR n 128 (pushS n 128 S (z i 1) (z i 2)) e' cp' (gg (Q2 eX eW (.blk bx 1 3 (gA (z i 0) (z i 1) (z i 2)) 38)))) := wkH_fdeq (fdeq_cons f220) q2
        have w0 := u0 (pushS n 128 S (z i 1) (z i 2)) e' cp' eW
        have w2 := u2 (pushS n 128 S (z i 1) (z i 2)) e' cp' eW
        have w3 : live (HLw bL bM bR n 128 (pushS n 128 S (z i 1) (z i 2)) e' cp' (gg (Q2 eX eW (.blk bx 1 3 (gA (z i 0) (z i 1) (z i 2)) 38)))) 200 := lst_live hW
        (refine (?_ : br _ _ _); refine br_eq (fun q3 => ?_) (fun q3 => ?_))
        · by_cases q4 : z i 1 = (bn : Int)
          · have hd : (z i 1 == (bn : Int)) = decide (pushC n 128 S (z i 1) (z i 2) = 0 ∧ z i 1 = bn) := by rw [decide_eq_true ⟨q3, q4⟩]; simpa using q4
            refine ⟨(e', cp'), k2.is, τ, q1, ?_, q2'⟩
            rw [← hd]
            exact (by repeat' (first | exact rfl | exact trivial | exact (hτ.low (by decide)).symm | assumption | refine ⟨?_, ?_⟩))
          · have hd : (z i 1 == (bn : Int)) = decide (pushC n 128 S (z i 1) (z i 2) = 0 ∧ z i 1 = bn) := by rw [decide_eq_false (fun q => q4 q.2)]; simpa using q4
            refine ⟨(e', cp'), k2.is, τ, q1, ?_, q2'⟩
            rw [← hd]
            exact (by repeat' (first | exact rfl | exact trivial | exact (hτ.low (by decide)).symm | assumption | refine ⟨?_, ?_⟩))
        · have hd : false = decide (pushC n 128 S (z i 1) (z i 2) = 0 ∧ z i 1 = bn) := by rw [decide_eq_false (fun q => q3 q.1)]
          refine ⟨(e', cp'), k2.is, τ, q1, ?_, q2'⟩
          rw [← hd]
          exact (by repeat' (first | exact rfl | exact trivial | exact (hτ.low (by decide)).symm | assumption | refine ⟨?_, ?_⟩))
      rintro ⟨e', cp'⟩ hL'
      have hL' : LsOK n (pushS n 128 S (z i 1) (z i 2)) e' cp' := hL'
      have hF' := hF.push (z i 1) (z i 2)
      have w0 := v1 (pushS n 128 S (z i 1) (z i 2)) e' cp' 
      refine vc_sound hE 1 _ _ _ 60 ?_
      (refine (?_ : br _ _ _); refine br_dec (fun q => ?_) (fun q => ?_))
      rotate_left
      · have q : ¬ (pushC n 128 S (z i 1) (z i 2) = 0 ∧ z i 1 = bn) := q
        have hs : lane (pushS n 128 S (z i 1) (z i 2)) bn = lane S bn := by
          by_cases h : pushC n 128 S (z i 1) (z i 2) = 0
          · obtain ⟨b', hb', -⟩ := pushC_zero h
            have hne : b' ≠ bn := by rintro rfl; exact q ⟨h, hb'⟩
            rw [hb'] at h ⊢
            rw [pushS_of h, lane_snoc, if_neg (Ne.symm hne)]
          · rw [pushS_ne h]
        refine vc_sound hE 5 _ _ _ 60 ?_
        have w1 := w0 eW
        have w2 : live (HLw bL bM bR n 128 (pushS n 128 S (z i 1) (z i 2)) e' cp' (gg (Q1 eX eW))) 200 := lst_live hW
        refine ⟨(pushS n 128 S (z i 1) (z i 2), e', cp', eW, cW), ⟨hF', hL', by rw [hs]; exact hW⟩, tau [], keysR rfl (fun _ => rfl) rfl, ?_, HLw.wkB [] rfl (low2 _ _) (low1 _) hL' rfl rfl rfl (fun _ => rfl) rfl rfl ⟨wX _ _, lst_wk hW _ _, wG _ _ _⟩⟩
        rw [hs]
        exact (by repeat' (first | exact rfl | exact trivial | assumption | refine ⟨?_, ?_⟩))
      have q : pushC n 128 S (z i 1) (z i 2) = 0 ∧ z i 1 = bn := q
      have hs : lane (pushS n 128 S (z i 1) (z i 2)) bn = lane S bn ++ [z i 2] := by
        obtain ⟨h, hb⟩ := q
        rw [hb] at h ⊢
        rw [pushS_of h, lane_snoc, if_pos rfl]
      generalize pushS n 128 S (z i 1) (z i 2) = S' at hs hF' hL' ⊢
      subst hA
      refine W_planw hE 60 [6] (.take 1 (.take 3 (.take 4 (.all (.cons 0 (.all (.cons 2 (.all (.cons 5 (.all (.cons 6 (.take 7 (.done)) (.nil))) (.nil))) (.cons 5 (.all (.cons 2 (.all (.cons 6 (.take 7 (.done)) (.nil))) (.nil))) (.nil)))) (.cons 5 (.all (.cons 0 (.all (.cons 2 (.all (.cons 6 (.take 7 (.done)) (.nil))) (.nil))) (.nil))) (.nil))))))) (by rw [hc]; exact mix) (by kernel_rfl) 60 ?_
      iterate 3 (refine ⟨_, ⟨rfl, rfl⟩, ?_⟩)
      have w1 : ∀ e'', live (HLw bL bM bR n 128 S' e' cp' (gg (Q1 eX e''))) 100 := fun e'' => v1 S' e' cp' e''
      refine ⟨⟨fun b => trivial, fun b0 => ?_⟩, ?_⟩
      · refine putS_some rfl ?_
        refine ⟨⟨step_app (v := .slice 60 0 0 0) (u := .slice 200 0 (lane S bn).length cW) rfl rfl (app_copy intT rfl (rdL_ro (hW.rd rfl)) rfl (by omega) (fun _ => trivial) (fun _ _ _ => trivial)), stepC_app (v := .slice 60 0 0 0) (u := .slice 200 0 (lane S bn).length cW) rfl rfl ?_⟩, ?_⟩
        · refine app_copy intT rfl (hW.rd rfl) rfl (by omega) (fun e0 => ?_) (fun ec cc hlc => ?_)
          · have hlc : lstE (.blk b0 0 1 (gOf 1 []) 3) (lane S bn) 0 := by rw [e0]; exact lstE.of ⟨fun j hj => by simp at hj, fun j hj => by omega⟩ (Nat.le_refl _) (by omega)
            have e0' : (0 : Nat) = (lane S bn).length := by rw [e0]; rfl
            rw [show V.slice 60 0 0 0 = .slice 60 0 (lane S bn).length 0 by rw [← e0']]
            refine putS_some rfl ?_
            refine ⟨⟨fun b => trivial, fun b1 => ?_⟩, trivial⟩
            refine putS_some rfl ?_
            refine ⟨⟨trivial, stepC_app (v := .slice 60 0 (lane S bn).length 0) (u := .slice 61 0 1 1) rfl rfl ?_⟩, trivial⟩
            refine app_two intT hlc rfl (x := z i 2) (.inr ⟨61, 0, 1, _, 1, _, rfl, rfl, Nat.le_refl _, fun i hi => (by obtain rfl : i = 0 := (by simpa using hi); rfl)⟩) rfl (by omega) (fun e'' hrf hl' => ?_) (fun e'' c'' hl' => ?_)
            · refine putS_some rfl ?_
              refine ⟨_, ⟨rfl, rfl⟩, ?_⟩
              exact ⟨(S', e', cp', e'', 0), ⟨hF', hL', by rw [hs]; exact hl'⟩, tau [(200, 60), (60, 200)], keysR rfl (fun _ => rfl) rfl, by rw [hs]; exact ⟨⟨⟨rfl, w1 e''⟩, rfl, rfl, rfl⟩, ⟨⟨rfl, trivial⟩, rfl, rfl⟩, ⟨rfl, rfl⟩, ⟨⟨rfl, live_fd (e := e'') rfl (lst_live hl')⟩, rfl, rfl, rfl⟩, ⟨rfl, rfl⟩, trivial⟩, HLw.wkB [(60, _), (61, _), (60, _)] rfl (low2 _ _) (low1 _) hL' rfl rfl rfl (fun _ => rfl) rfl rfl ⟨wX _ _, lst_wk hl' _ _, wG _ _ _⟩⟩
            · refine putS_some rfl ?_
              refine ⟨_, ⟨rfl, rfl⟩, ?_⟩
              exact ⟨(S', e', cp', e'', c''), ⟨hF', hL', by rw [hs]; exact hl'⟩, tau [(200, 62), (62, 200)], keysR rfl (fun _ => rfl) rfl, by rw [hs]; exact ⟨⟨⟨rfl, w1 e''⟩, rfl, rfl, rfl⟩, ⟨⟨rfl, trivial⟩, rfl, rfl⟩, ⟨rfl, rfl⟩, ⟨⟨rfl, live_fd (e := e'') rfl (lst_live hl')⟩, rfl, rfl, rfl⟩, ⟨rfl, rfl⟩, trivial⟩, HLw.wkB [(62, _), (61, _), (60, _)] rfl (low2 _ _) (low1 _) hL' rfl rfl rfl (fun _ => rfl) rfl rfl ⟨wX _ _, lst_wk hl' _ _, wG _ _ _⟩⟩
          · skip
            refine putS_some rfl ?_
            refine ⟨⟨fun b => trivial, fun b1 => ?_⟩, trivial⟩
            refine putS_some rfl ?_
            refine ⟨⟨trivial, stepC_app (v := .slice 61 0 (lane S bn).length cc) (u := .slice 62 0 1 1) rfl rfl ?_⟩, trivial⟩
            refine app_two intT hlc rfl (x := z i 2) (.inr ⟨62, 0, 1, _, 1, _, rfl, rfl, Nat.le_refl _, fun i hi => (by obtain rfl : i = 0 := (by simpa using hi); rfl)⟩) rfl (by omega) (fun e'' hrf hl' => ?_) (fun e'' c'' hl' => ?_)
            · refine putS_some rfl ?_
              refine ⟨_, ⟨rfl, rfl⟩, ?_⟩
              exact ⟨(S', e', cp', e'', cc), ⟨hF', hL', by rw [hs]; exact hl'⟩, tau [(200, 61), (61, 200)], keysR rfl (fun _ => rfl) rfl, by rw [hs]; exact ⟨⟨⟨rfl, w1 e''⟩, rfl, rfl, rfl⟩, ⟨⟨rfl, trivial⟩, rfl, rfl⟩, ⟨rfl, rfl⟩, ⟨⟨rfl, live_fd (e := e'') rfl (lst_live hl')⟩, rfl, rfl, rfl⟩, ⟨rfl, rfl⟩, trivial⟩, HLw.wkB [(61, _), (62, _), (61, _), (60, _)] rfl (low2 _ _) (low1 _) hL' rfl rfl rfl (fun _ => rfl) rfl rfl ⟨wX _ _, lst_wk hl' _ _, wG _ _ _⟩⟩
            · refine putS_some rfl ?_
              refine ⟨_, ⟨rfl, rfl⟩, ?_⟩
              exact ⟨(S', e', cp', e'', c''), ⟨hF', hL', by rw [hs]; exact hl'⟩, tau [(200, 63), (63, 200)], keysR rfl (fun _ => rfl) rfl, by rw [hs]; exact ⟨⟨⟨rfl, w1 e''⟩, rfl, rfl, rfl⟩, ⟨⟨rfl, trivial⟩, rfl, rfl⟩, ⟨rfl, rfl⟩, ⟨⟨rfl, live_fd (e := e'') rfl (lst_live hl')⟩, rfl, rfl, rfl⟩, ⟨rfl, rfl⟩, trivial⟩, HLw.wkB [(63, _), (62, _), (61, _), (60, _)] rfl (low2 _ _) (low1 _) hL' rfl rfl rfl (fun _ => rfl) rfl rfl ⟨wX _ _, lst_wk hl' _ _, wG _ _ _⟩⟩
        · refine ⟨⟨fun b => trivial, fun b1 => ?_⟩, trivial⟩
          refine putS_some rfl ?_
          refine ⟨⟨step_app (v := .slice 60 0 0 0) (u := .slice 200 0 (lane S bn).length cW) rfl rfl (app_copy intT rfl (rdL_ro (hW.rd rfl)) rfl (by omega) (fun _ => trivial) (fun _ _ _ => trivial)), stepC_app (v := .slice 60 0 0 0) (u := .slice 200 0 (lane S bn).length cW) rfl rfl ?_⟩, trivial⟩
          refine app_copy intT rfl (hW.rd rfl) rfl (by omega) (fun e0 => ?_) (fun ec cc hlc => ?_)
          · have hlc : lstE (.blk b0 0 1 (gOf 1 []) 3) (lane S bn) 0 := by rw [e0]; exact lstE.of ⟨fun j hj => by simp at hj, fun j hj => by omega⟩ (Nat.le_refl _) (by omega)
            have e0' : (0 : Nat) = (lane S bn).length := by rw [e0]; rfl
            rw [show V.slice 60 0 0 0 = .slice 60 0 (lane S bn).length 0 by rw [← e0']]
            refine putS_some rfl ?_
            refine ⟨⟨trivial, stepC_app (v := .slice 60 0 (lane S bn).length 0) (u := .slice 61 0 1 1) rfl rfl ?_⟩, trivial⟩
            refine app_two intT hlc rfl (x := z i 2) (.inr ⟨61, 0, 1, _, 1, _, rfl, rfl, Nat.le_refl _, fun i hi => (by obtain rfl : i = 0 := (by simpa using hi); rfl)⟩) rfl (by omega) (fun e'' hrf hl' => ?_) (fun e'' c'' hl' => ?_)
            · refine putS_some rfl ?_
              refine ⟨_, ⟨rfl, rfl⟩, ?_⟩
              exact ⟨(S', e', cp', e'', 0), ⟨hF', hL', by rw [hs]; exact hl'⟩, tau [(200, 60), (60, 200)], keysR rfl (fun _ => rfl) rfl, by rw [hs]; exact ⟨⟨⟨rfl, w1 e''⟩, rfl, rfl, rfl⟩, ⟨⟨rfl, trivial⟩, rfl, rfl⟩, ⟨rfl, rfl⟩, ⟨⟨rfl, live_fd (e := e'') rfl (lst_live hl')⟩, rfl, rfl, rfl⟩, ⟨rfl, rfl⟩, trivial⟩, HLw.wkB [(60, _), (61, _), (60, _)] rfl (low2 _ _) (low1 _) hL' rfl rfl rfl (fun _ => rfl) rfl rfl ⟨wX _ _, lst_wk hl' _ _, wG _ _ _⟩⟩
            · refine putS_some rfl ?_
              refine ⟨_, ⟨rfl, rfl⟩, ?_⟩
              exact ⟨(S', e', cp', e'', c''), ⟨hF', hL', by rw [hs]; exact hl'⟩, tau [(200, 62), (62, 200)], keysR rfl (fun _ => rfl) rfl, by rw [hs]; exact ⟨⟨⟨rfl, w1 e''⟩, rfl, rfl, rfl⟩, ⟨⟨rfl, trivial⟩, rfl, rfl⟩, ⟨rfl, rfl⟩, ⟨⟨rfl, live_fd (e := e'') rfl (lst_live hl')⟩, rfl, rfl, rfl⟩, ⟨rfl, rfl⟩, trivial⟩, HLw.wkB [(62, _), (61, _), (60, _)] rfl (low2 _ _) (low1 _) hL' rfl rfl rfl (fun _ => rfl) rfl rfl ⟨wX _ _, lst_wk hl' _ _, wG _ _ _⟩⟩
          · refine putS_some rfl ?_
            refine ⟨⟨trivial, stepC_app (v := .slice 62 0 (lane S bn).length cc) (u := .slice 61 0 1 1) rfl rfl ?_⟩, trivial⟩
            refine app_two intT hlc rfl (x := z i 2) (.inr ⟨61, 0, 1, _, 1, _, rfl, rfl, Nat.le_refl _, fun i hi => (by obtain rfl : i = 0 := (by simpa using hi); rfl)⟩) rfl (by omega) (fun e'' hrf hl' => ?_) (fun e'' c'' hl' => ?_)
            · refine putS_some rfl ?_
              refine ⟨_, ⟨rfl, rfl⟩, ?_⟩
              exact ⟨(S', e', cp', e'', cc), ⟨hF', hL', by rw [hs]; exact hl'⟩, tau [(200, 62), (62, 200)], keysR rfl (fun _ => rfl) rfl, by rw [hs]; exact ⟨⟨⟨rfl, w1 e''⟩, rfl, rfl, rfl⟩, ⟨⟨rfl, trivial⟩, rfl, rfl⟩, ⟨rfl, rfl⟩, ⟨⟨rfl, live_fd (e := e'') rfl (lst_live hl')⟩, rfl, rfl, rfl⟩, ⟨rfl, rfl⟩, trivial⟩, HLw.wkB [(62, _), (62, _), (61, _), (60, _)] rfl (low2 _ _) (low1 _) hL' rfl rfl rfl (fun _ => rfl) rfl rfl ⟨wX _ _, lst_wk hl' _ _, wG _ _ _⟩⟩
            · refine putS_some rfl ?_
              refine ⟨_, ⟨rfl, rfl⟩, ?_⟩
              exact ⟨(S', e', cp', e'', c''), ⟨hF', hL', by rw [hs]; exact hl'⟩, tau [(200, 63), (63, 200)], keysR rfl (fun _ => rfl) rfl, by rw [hs]; exact ⟨⟨⟨rfl, w1 e''⟩, rfl, rfl, rfl⟩, ⟨⟨rfl, trivial⟩, rfl, rfl⟩, ⟨rfl, rfl⟩, ⟨⟨rfl, live_fd (e := e'') rfl (lst_live hl')⟩, rfl, rfl, rfl⟩, ⟨rfl, rfl⟩, trivial⟩, HLw.wkB [(63, _), (62, _), (61, _), (60, _)] rfl (low2 _ _) (low1 _) hL' rfl rfl rfl (fun _ => rfl) rfl rfl ⟨wX _ _, lst_wk hl' _ _, wG _ _ _⟩⟩
      · refine ⟨⟨fun b => trivial, fun b1 => ?_⟩, trivial⟩
        refine putS_some rfl ?_
        refine ⟨⟨fun b => trivial, fun b0 => ?_⟩, trivial⟩
        refine putS_some rfl ?_
        refine ⟨⟨step_app (v := .slice 61 0 0 0) (u := .slice 200 0 (lane S bn).length cW) rfl rfl (app_copy intT rfl (rdL_ro (hW.rd rfl)) rfl (by omega) (fun _ => trivial) (fun _ _ _ => trivial)), stepC_app (v := .slice 61 0 0 0) (u := .slice 200 0 (lane S bn).length cW) rfl rfl ?_⟩, trivial⟩
        refine app_copy intT rfl (hW.rd rfl) rfl (by omega) (fun e0 => ?_) (fun ec cc hlc => ?_)
        · have hlc : lstE (.blk b0 0 1 (gOf 1 []) 3) (lane S bn) 0 := by rw [e0]; exact lstE.of ⟨fun j hj => by simp at hj, fun j hj => by omega⟩ (Nat.le_refl _) (by omega)
          have e0' : (0 : Nat) = (lane S bn).length := by rw [e0]; rfl
          rw [show V.slice 61 0 0 0 = .slice 61 0 (lane S bn).length 0 by rw [← e0']]
          refine putS_some rfl ?_
          refine ⟨⟨trivial, stepC_app (v := .slice 61 0 (lane S bn).length 0) (u := .slice 60 0 1 1) rfl rfl ?_⟩, trivial⟩
          refine app_two intT hlc rfl (x := z i 2) (.inr ⟨60, 0, 1, _, 1, _, rfl, rfl, Nat.le_refl _, fun i hi => (by obtain rfl : i = 0 := (by simpa using hi); rfl)⟩) rfl (by omega) (fun e'' hrf hl' => ?_) (fun e'' c'' hl' => ?_)
          · refine putS_some rfl ?_
            refine ⟨_, ⟨rfl, rfl⟩, ?_⟩
            exact ⟨(S', e', cp', e'', 0), ⟨hF', hL', by rw [hs]; exact hl'⟩, tau [(200, 61), (61, 200)], keysR rfl (fun _ => rfl) rfl, by rw [hs]; exact ⟨⟨⟨rfl, w1 e''⟩, rfl, rfl, rfl⟩, ⟨⟨rfl, trivial⟩, rfl, rfl⟩, ⟨rfl, rfl⟩, ⟨⟨rfl, live_fd (e := e'') rfl (lst_live hl')⟩, rfl, rfl, rfl⟩, ⟨rfl, rfl⟩, trivial⟩, HLw.wkB [(61, _), (61, _), (60, _)] rfl (low2 _ _) (low1 _) hL' rfl rfl rfl (fun _ => rfl) rfl rfl ⟨wX _ _, lst_wk hl' _ _, wG _ _ _⟩⟩
          · refine putS_some rfl ?_
            refine ⟨_, ⟨rfl, rfl⟩, ?_⟩
            exact ⟨(S', e', cp', e'', c''), ⟨hF', hL', by rw [hs]; exact hl'⟩, tau [(200, 62), (62, 200)], keysR rfl (fun _ => rfl) rfl, by rw [hs]; exact ⟨⟨⟨rfl, w1 e''⟩, rfl, rfl, rfl⟩, ⟨⟨rfl, trivial⟩, rfl, rfl⟩, ⟨rfl, rfl⟩, ⟨⟨rfl, live_fd (e := e'') rfl (lst_live hl')⟩, rfl, rfl, rfl⟩, ⟨rfl, rfl⟩, trivial⟩, HLw.wkB [(62, _), (61, _), (60, _)] rfl (low2 _ _) (low1 _) hL' rfl rfl rfl (fun _ => rfl) rfl rfl ⟨wX _ _, lst_wk hl' _ _, wG _ _ _⟩⟩
        · refine putS_some rfl ?_
          refine ⟨⟨trivial, stepC_app (v := .slice 62 0 (lane S bn).length cc) (u := .slice 60 0 1 1) rfl rfl ?_⟩, trivial⟩
          refine app_two intT hlc rfl (x := z i 2) (.inr ⟨60, 0, 1, _, 1, _, rfl, rfl, Nat.le_refl _, fun i hi => (by obtain rfl : i = 0 := (by simpa using hi); rfl)⟩) rfl (by omega) (fun e'' hrf hl' => ?_) (fun e'' c'' hl' => ?_)
          · refine putS_some rfl ?_
            refine ⟨_, ⟨rfl, rfl⟩, ?_⟩
            exact ⟨(S', e', cp', e'', cc), ⟨hF', hL', by rw [hs]; exact hl'⟩, tau [(200, 62), (62, 200)], keysR rfl (fun _ => rfl) rfl, by rw [hs]; exact ⟨⟨⟨rfl, w1 e''⟩, rfl, rfl, rfl⟩, ⟨⟨rfl, trivial⟩, rfl, rfl⟩, ⟨rfl, rfl⟩, ⟨⟨rfl, live_fd (e := e'') rfl (lst_live hl')⟩, rfl, rfl, rfl⟩, ⟨rfl, rfl⟩, trivial⟩, HLw.wkB [(62, _), (62, _), (61, _), (60, _)] rfl (low2 _ _) (low1 _) hL' rfl rfl rfl (fun _ => rfl) rfl rfl ⟨wX _ _, lst_wk hl' _ _, wG _ _ _⟩⟩
          · refine putS_some rfl ?_
            refine ⟨_, ⟨rfl, rfl⟩, ?_⟩
            exact ⟨(S', e', cp', e'', c''), ⟨hF', hL', by rw [hs]; exact hl'⟩, tau [(200, 63), (63, 200)], keysR rfl (fun _ => rfl) rfl, by rw [hs]; exact ⟨⟨⟨rfl, w1 e''⟩, rfl, rfl, rfl⟩, ⟨⟨rfl, trivial⟩, rfl, rfl⟩, ⟨rfl, rfl⟩, ⟨⟨rfl, live_fd (e := e'') rfl (lst_live hl')⟩, rfl, rfl, rfl⟩, ⟨rfl, rfl⟩, trivial⟩, HLw.wkB [(63, _), (62, _), (61, _), (60, _)] rfl (low2 _ _) (low1 _) hL' rfl rfl rfl (fun _ => rfl) rfl rfl ⟨wX _ _, lst_wk hl' _ _, wG _ _ _⟩⟩
    · refine W_seq (nx := 60) ?_
      refine W_ex (nx := 60) (fun (a : (Nat → Ent) × (Nat → Nat)) => LsOK n (pullS S (z i 2)) a.1 a.2) (fun a => [(0, .slice 100 0 len cap), (5, .ptr 8 0 0), (7, .int .i64 (bn : Int)), (8, .slice 200 0 (lane S bn).length cW), (9, .int .i64 (i : Int)), (10, .ptr 220 0 0)]) (fun a => HLw bL bM bR n 128 (pullS S (z i 2)) a.1 a.2 (gg (Q2 eX eW eA))) 60 ?_ ?_
      · subst hA
        refine vc_sound hE 30 _ _ _ 60 ?_
        refine ⟨bL, bM, bR, n, 128, gR S cp, S, e, cp, z i 2, rfl, HLw.q (hm2 _ _) hL, hF, fun h' g' e' cp' kx k1 k2 => ?_⟩
        have hτ := Ren1.id
        obtain ⟨q1, q2⟩ := hback _ _ _ _ _ _ k1 k2 hτ
        have w0 := u0 (pullS S (z i 2)) e' cp' eW
        have w2 := u2 (pullS S (z i 2)) e' cp' eW
        have w3 : live (HLw bL bM bR n 128 (pullS S (z i 2)) e' cp' (gg (Q2 eX eW (.blk bx 1 3 (gA (z i 0) (z i 1) (z i 2)) 38)))) 200 := lst_live hW
        exact ⟨(e', cp'), k2.is, tau [], q1, (by repeat' (first | exact rfl | exact trivial | exact (hτ.low (by decide)).symm | assumption | refine ⟨?_, ?_⟩)), q2⟩
      rintro ⟨e', cp'⟩ hL'
      have hL' : LsOK n (pullS S (z i 2)) e' cp' := hL'
      have hF' := hF.pull (z i 2)
      have hs := lane_pulled hF bn (z i 2)
      generalize pullS S (z i 2) = S' at hs hF' hL' ⊢
      refine W_seq (nx := 60) ?_
      refine W_piece (nx := 60) (fun σ1 h1 _ => h1 = HLw bL bM bR n 128 S' e' cp' (gg (Q2 eX eW eA)) ∧ lk 0 σ1 = some (.slice 100 0 len cap) ∧ lk 5 σ1 = some (.ptr 8 0 0) ∧ lk 7 σ1 = some (.int .i64 (bn : Int)) ∧ lk 8 σ1 = some (.slice 200 0 (lane S bn).length cW) ∧ lk 9 σ1 = some (.int .i64 (i : Int)) ∧ lk 10 σ1 = some (.ptr 220 0 0) ∧ lk 11 σ1 = some .nils) ?_ ?_
      · refine vc_sound hE 20 _ _ _ 60 ?_
        exact ⟨rfl, rfl, rfl, rfl, rfl, rfl, rfl, rfl⟩
      rintro σ1 h1 _ ⟨rfl, s0, s5, s7, s8, s9, s10, s11⟩
      refine W_nil (σ' := [(0, .slice 100 0 len cap), (5, .ptr 8 0 0), (7, .int .i64 (bn : Int)), (8, .slice 200 0 (lane S bn).length cW), (9, .int .i64 (i : Int)), (10, .ptr 220 0 0), (11, .slice 230 0 (((lane S bn).take 0).filter (fun x => x != z i 2)).length 0)]) 230 (gone_at (by decide) (by decide) (by decide) (by decide) (show 230 ∉ [100, 200, 220, 60, 61, 62, 63, 64, 2900, 2901] by decide)) ⟨?_, ?_, ?_, ?_, ?_, ?_, ?_, trivial⟩ (nx' := 60) ?_
      · rw [s0]; exact tell_slice rfl
      · rw [s5]; exact tell_ptr rfl
      · rw [s7]; exact tell_flat trivial
      · rw [s8]; exact tell_slice rfl
      · rw [s9]; exact tell_flat trivial
      · rw [s10]; exact tell_ptr rfl
      · rw [s11]; exact tell_nil rfl
      clear s0 s5 s7 s8 s9 s10 s11
      have y0 : ∀ eF, live (HLw bL bM bR n 128 S' e' cp' (gg (Q3 eX eW eA eF))) 100 := fun _ => vX
      have y1 : ∀ eF, live (HLw bL bM bR n 128 S' e' cp' (gg (Q3 eX eW eA eF))) 200 := fun _ => lst_live hW
      have y2 : ∀ eF, live (HLw bL bM bR n 128 S' e' cp' (gg (Q3 eX eW eA eF))) 220 := fun _ => vA
      have z0 := y0 nilE
      have z1 := y1 nilE
      have z2 := y2 nilE
      refine W_weak (nx' := 60) (σ' := [(0, .slice 100 0 len cap), (5, .ptr 8 0 0), (7, .int .i64 (bn : Int)), (8, .slice 200 0 (lane S bn).length cW), (9, .int .i64 (i : Int)), (10, .ptr 220 0 0), (11, .slice 230 0 (((lane S bn).take 0).filter (fun x => x != z i 2)).length 0)]) (h' := HLw bL bM bR n 128 S' e' cp' (gg (Q3 eX eW eA nilE))) (tau []) ⟨keysR rfl (fun _ => rfl) rfl, (by repeat' (first | exact rfl | exact trivial | assumption | refine ⟨?_, ?_⟩)), HLw.wkB [(230, nilE)] rfl (low2 _ _) (low3 _ _ _) hL' rfl rfl rfl (fun _ => rfl) rfl rfl ⟨wX _ _, lst_wk hW _ _, wA _ _, lst_wk nilL _ _, wG _ _ _⟩⟩ ?_
      refine W_seq (nx := 60) ?_
      refine W_ex (nx := 60) (fun (a : Ent × Nat) => lstE a.1 (lane S' bn) a.2) (fun a => [(0, .slice 100 0 len cap), (5, .ptr 8 0 0), (7, .int .i64 (bn : Int)), (9, .int .i64 (i : Int)), (11, .slice 230 0 (lane S' bn).length a.2)]) (fun a => HLw bL bM bR n 128 S' e' cp' (gg (Q3 eX eW eA a.1))) 60 ?_ ?_
      · refine vc_sound hE 5 _ _ _ 60 ?_
        refine W_loop (fun q σ h => ∃ (k : Nat) (eF : Ent) (cF : Nat), q = (lane S bn).length - k ∧ k ≤ (lane S bn).length ∧ lstE eF (((lane S bn).take k).filter (fun x => x != z i 2)) cF ∧ σ = [(0, .slice 100 0 len cap), (5, .ptr 8 0 0), (7, .int .i64 (bn : Int)), (8, .slice 200 0 (lane S bn).length cW), (9, .int .i64 (i : Int)), (10, .ptr 220 0 0), (11, .slice 230 0 (((lane S bn).take k).filter (fun x => x != z i 2)).length cF), (12, .int .i64 (k : Int))] ∧ h = HLw bL bM bR n 128 S' e' cp' (gg (Q3 eX eW eA eF)))
          (lane S bn).length ⟨0, nilE, 0, rfl, by omega, nilL, rfl, rfl⟩ (tau []) ⟨keysR rfl (fun _ => rfl) rfl, (by repeat' (first | exact rfl | exact trivial | assumption | refine ⟨?_, ?_⟩)), HLw.wkB [] rfl (low3 _ _ _) (low3 _ _ _) hL' rfl rfl rfl (fun _ => rfl) rfl rfl ⟨wX _ _, lst_wk hW _ _, wA _ _, lst_wk nilL _ _, wG _ _ _⟩⟩ 60 ?_
        rintro r σ h1 ⟨k, eF, cF, rfl, hk, hl, rfl, rfl⟩
        have z0 := y0 eF
        have z1 := y1 eF
        have z2 := y2 eF
        have z3 : live (HLw bL bM bR n 128 S' e' cp' (gg (Q3 eX eW eA eF))) 230 := lst_live hl
        have hflen : (((lane S bn).take k).filter (fun x => x != z i 2)).length ≤ k := Nat.le_trans (List.length_filter_le _ _) (by rw [List.length_take]; omega)
        refine vc_sound hE 60 _ _ _ 60 ?_
        (refine (?_ : br _ _ _); refine br_dec (fun q => ?_) (fun q => ?_))
        rotate_left
        · have q : ¬ (k : Int) < ((lane S bn).length : Int) := q
          obtain rfl : k = (lane S bn).length := by omega
          rw [List.take_length, ← hs] at hl ⊢
          exact ⟨(eF, cF), hl, tau [], keysR rfl (fun _ => rfl) rfl, (by repeat' (first | exact rfl | exact trivial | assumption | refine ⟨?_, ?_⟩)), HLw.wkB [] rfl (low3 _ _ _) (low3 _ _ _) hL' rfl rfl rfl (fun _ => rfl) rfl rfl ⟨wX _ _, lst_wk hW _ _, wA _ _, lst_wk hl _ _, wG _ _ _⟩⟩
        have q : (k : Int) < ((lane S bn).length : Int) := q
        have hkl : k < (lane S bn).length := by omega
        have hwk1 : IntKind.i64.wrap ((k : Int) + 1) = ((k + 1 : Nat) : Int) := by simp only [IntKind.wrap_i64]; omega
        have hzk : addI 0 ((k : Int)).toNat = k := by rw [Int.toNat_natCast, addI_eq, Nat.zero_add]
        have hW2 := hW
        rcases hW2 with ⟨hnil, -, -⟩ | ⟨bw, gw, tyw, hWe, p1, p2, p3, p4⟩
        · rw [hnil] at hkl; exact absurd hkl (by simp)
        have hg : gw (addI 0 ((k : Int)).toNat + 0 / 1) (0 % 1) = .int .i64 ((lane S bn).getD k 0) := by
          rw [hzk]; exact p3 k hkl
        have hst := filter_take_succ (t := z i 2) hkl
        subst hA hWe
        refine W_drawn (id := 20) hE 60 1000 (by rw [hc]; exact mix) (by kernel_rfl) (by kernel_rfl) 60 ?_
        iterate 2 (refine ⟨_, ⟨rfl, rfl⟩, ?_⟩)
        refine ⟨.ptr 200 (addI 0 ((k : Int)).toNat) 0, (show chk _ _ from chk_ok (show (decide ((0 : Int) ≤ (k : Int)) && decide ((k : Int) < ((lane S bn).length : Int))) = true by simp only [Bool.and_eq_true, decide_eq_true_eq]; omega) (show chk _ _ from chk_ok rfl ⟨rfl, rfl⟩)), ?_⟩
        refine ⟨.int .i64 ((lane S bn).getD k 0), (show chk _ _ from chk_ok (Nat.ble_eq_true_of_le (show addI 0 ((k : Int)).toNat * 1 + 0 + 1 ≤ cW * 1 by rw [hzk]; omega)) (show chk _ _ from chk_ok rfl (by rw [hg]; exact ⟨rfl, rfl⟩))), ?_⟩
        iterate 3 (refine ⟨_, ⟨rfl, rfl⟩, ?_⟩)
        (refine (?_ : br _ _ _); refine br_ne (fun q3 => ?_) (fun q3 => ?_))
        · have q3 : (lane S bn).getD k 0 ≠ z i 2 := q3
          rw [if_neg q3] at hst
          (refine (?_ : chk _ _); refine chk_ok (show (decide ((0 : Int) ≤ (k : Int)) && decide ((k : Int) < ((lane S bn).length : Int))) = true by simp only [Bool.and_eq_true, decide_eq_true_eq]; omega) ?_)
          (refine (?_ : chk _ _); refine chk_ok rfl ?_)
          (refine (?_ : chk _ _); refine chk_ok (Nat.ble_eq_true_of_le (show addI 0 ((k : Int)).toNat * 1 + 0 + 1 ≤ cW * 1 by rw [hzk]; omega)) ?_)
          (refine (?_ : chk _ _); refine chk_ok rfl ?_)
          rw [hg]
          intro b1
          refine putS_some rfl ?_
          refine vc_app (v := .slice 230 0 (((lane S bn).take k).filter (fun x => x != z i 2)).length cF) (u := .slice 60 0 1 1) rfl rfl ?_
          refine app_one intT hl rfl (x := (lane S bn).getD k 0) (.inr ⟨60, 0, 1, _, 1, _, rfl, rfl, Nat.le_refl _, fun i hi => (by obtain rfl : i = 0 := (by simpa using hi); rfl)⟩) rfl (by omega) (fun e'' hl' => ?_) (fun e'' c'' hl' => ?_)
          · rw [← hst] at hl' ⊢
            have z0 := y0 e''
            have z1 := y1 e''
            have z2 := y2 e''
            have z4 : live (HLw bL bM bR n 128 S' e' cp' (gg (Q3 eX (.blk bw cW 1 gw tyw) (.blk bx 1 3 (gA (z i 0) (z i 1) (z i 2)) 38) e''))) 230 := lst_live hl'
            exact ⟨(lane S bn).length - (k + 1), _, _, by omega, ⟨k + 1, e'', cF, rfl, by omega, hl', rfl, rfl⟩, tau [], keysR rfl (fun _ => rfl) rfl, ⟨⟨⟨rfl, z0⟩, rfl, rfl, rfl⟩, ⟨⟨rfl, trivial⟩, rfl, rfl⟩, ⟨rfl, rfl⟩, ⟨⟨rfl, z1⟩, rfl, rfl, rfl⟩, ⟨rfl, rfl⟩, ⟨⟨rfl, z2⟩, rfl, rfl⟩, ⟨⟨rfl, z4⟩, rfl, rfl, rfl⟩, ⟨rfl, hwk1⟩, trivial⟩, HLw.wkB [(230, _), (60, _)] rfl (low3 _ _ _) (low3 _ _ _) hL' rfl rfl rfl (fun _ => rfl) rfl rfl ⟨wX _ _, lst_wk hW _ _, gA_wk _ _, lst_wk hl' _ _, wG _ _ _⟩⟩
          · rw [← hst] at hl' ⊢
            have z0 := y0 e''
            have z1 := y1 e''
            have z2 := y2 e''
            have z4 : live (HLw bL bM bR n 128 S' e' cp' (gg (Q3 eX (.blk bw cW 1 gw tyw) (.blk bx 1 3 (gA (z i 0) (z i 1) (z i 2)) 38) e''))) 230 := lst_live hl'
            exact ⟨(lane S bn).length - (k + 1), _, _, by omega, ⟨k + 1, e'', c'', rfl, by omega, hl', rfl, rfl⟩, tau [(230, 61), (61, 230)], keysR rfl (fun _ => rfl) rfl, ⟨⟨⟨rfl, z0⟩, rfl, rfl, rfl⟩, ⟨⟨rfl, trivial⟩, rfl, rfl⟩, ⟨rfl, rfl⟩, ⟨⟨rfl, z1⟩, rfl, rfl, rfl⟩, ⟨rfl, rfl⟩, ⟨⟨rfl, z2⟩, rfl, rfl⟩, ⟨⟨rfl, z4⟩, rfl, rfl, rfl⟩, ⟨rfl, hwk1⟩, trivial⟩, HLw.wkB [(61, _), (60, _)] rfl (low3 _ _ _) (low3 _ _ _) hL' rfl rfl rfl (fun _ => rfl) rfl rfl ⟨wX _ _, lst_wk hW _ _, gA_wk _ _, lst_wk hl' _ _, wG _ _ _⟩⟩
        · have q3 : (lane S bn).getD k 0 = z i 2 := q3
          rw [if_pos q3, List.append_nil] at hst
          rw [← hst] at hl ⊢
          exact ⟨(lane S bn).length - (k + 1), _, _, by omega, ⟨k + 1, eF, cF, rfl, by omega, hl, rfl, rfl⟩, tau [], keysR rfl (fun _ => rfl) rfl, ⟨⟨⟨rfl, z0⟩, rfl, rfl, rfl⟩, ⟨⟨rfl, trivial⟩, rfl, rfl⟩, ⟨rfl, rfl⟩, ⟨⟨rfl, z1⟩, rfl, rfl, rfl⟩, ⟨rfl, rfl⟩, ⟨⟨rfl, z2⟩, rfl, rfl⟩, ⟨⟨rfl, z3⟩, rfl, rfl, rfl⟩, ⟨rfl, hwk1⟩, trivial⟩, HLw.wkB [] rfl (low3 _ _ _) (low3 _ _ _) hL' rfl rfl rfl (fun _ => rfl) rfl rfl ⟨wX _ _, lst_wk hW _ _, gA_wk _ _, lst_wk hl _ _, wG _ _ _⟩⟩
      rintro ⟨eF, cF⟩ hl
      have hl : lstE eF (lane S' bn) cF := hl
      refine vc_sound hE 20 _ _ _ 60 ?_
      have w0 := v1 S' e' cp' eF
      have w1 : live (HLw bL bM bR n 128 S' e' cp' (gg (Q1 eX eF))) 200 := lst_live hl
      exact ⟨(S', e', cp', eF, cF), ⟨hF', hL', hl⟩, tau [(200, 230), (230, 200)], keysR rfl (fun _ => rfl) rfl, (by repeat' (first | exact rfl | exact trivial | assumption | refine ⟨?_, ?_⟩)), HLw.wkB [] rfl (low3 _ _ _) (low1 _) hL' rfl rfl rfl (fun _ => rfl) rfl rfl ⟨wX _ _, lst_wk hl _ _, wG _ _ _⟩⟩
  rintro ⟨S', e', cp', eW', cW'⟩ ⟨hF', hL', hW'⟩
  have hF' : Fit n 128 S' := hF'
  have hL' : LsOK n S' e' cp' := hL'
  have hW' : lstE eW' (lane S' bn) cW' := hW'
  clear re2 hback u0 u2 wA vA hA rr vW v hW hL hF hlS hlb
  have hlS := hF'.len
  have hlb := lane_len (S := S') (b := bn)
  have he : ∀ last, endL n S' (bn : Int) last = endI (lane S' bn) last := fun last => by
    unfold endL isI; rw [if_pos (by simp only [decide_eq_true_eq]; omega), Int.toNat_natCast]
  have hLI : laneI n S' (bn : Int) = lane S' bn := by unfold laneI isI; rw [if_pos (by simp only [decide_eq_true_eq]; omega), Int.toNat_natCast]
  have w0 := v1 S' e' cp' eW'
  have w1 : live (HLw bL bM bR n 128 S' e' cp' (gg (Q1 eX eW'))) 200 := lst_live hW'
  have rr := re1 S' e' cp' eW' (_, _) hL' hW'
  refine W_seq (nx := 60) ?_
  refine W_to (nx := 60) [(0, .slice 100 0 len cap), (5, .ptr 8 0 0), (7, .int .i64 (bn : Int)), (8, .slice 200 0 (lane S' bn).length cW'), (9, .int .i64 (i : Int)), (13, .int .i64 (endI (lane S' bn) false).1), (14, .bool (endI (lane S' bn) false).2)] (HLw bL bM bR n 128 S' e' cp' (gg (Q1 eX eW'))) 60 ?_ ?_
  · refine vc_sound hE 30 _ _ _ 60 ?_
    refine ⟨bL, bM, bR, n, 128, gR S' cp', S', _, cp', (bn : Int), rfl, (HLw.q (hm1 _) hL').rd Ren1.id, hF', ?_⟩
    rw [he]
    exact ⟨tau [], rr.1, (by repeat' (first | exact rfl | exact trivial | assumption | refine ⟨?_, ?_⟩)), rr.2⟩
  refine W_seq (nx := 60) ?_
  refine W_to (nx := 60) [(0, .slice 100 0 len cap), (5, .ptr 8 0 0), (7, .int .i64 (bn : Int)), (8, .slice 200 0 (lane S' bn).length cW'), (9, .int .i64 (i : Int)), (13, .int .i64 (endI (lane S' bn) false).1), (14, .bool (endI (lane S' bn) false).2), (15, .int .i64 (endI (lane S' bn) true).1), (16, .bool (endI (lane S' bn) true).2)] (HLw bL bM bR n 128 S' e' cp' (gg (Q1 eX eW'))) 60 ?_ ?_
  · refine vc_sound hE 30 _ _ _ 60 ?_
    refine ⟨bL, bM, bR, n, 128, gR S' cp', S', _, cp', (bn : Int), rfl, (HLw.q (hm1 _) hL').rd Ren1.id, hF', ?_⟩
    rw [he]
    exact ⟨tau [], rr.1, (by repeat' (first | exact rfl | exact trivial | assumption | refine ⟨?_, ?_⟩)), rr.2⟩
  by_cases hz0 : lane S' bn = []
  · have h1 : ∀ last, endI (lane S' bn) last = (0, false) := fun last => by unfold endI; rw [if_pos hz0]
    have hW0 : lstE eW' [] cW' := hz0 ▸ hW'
    rw [h1, h1, hz0]
    rw [hz0] at hLI
    refine vc_sound hE 120 _ _ _ 60 ?_
    refine ⟨bL, bM, bR, n, 128, gR S' cp', S', _, cp', (bn : Int), rfl, (HLw.q (hm1 _) hL').rd Ren1.id, hF', rfl, fun e'' cap' hl' => ?_⟩
    rw [hLI] at hl' ⊢
    refine ⟨_, _, [], [], rfl, hl'.rd rfl, hW0.rd rfl, by simp, by simp, ?_⟩
    refine ⟨len - (i + 1), _, _, by omega, ⟨i + 1, S', e', cp', eW', cW', rfl, by omega, by omega, hF', hL', hW', rfl, rfl⟩, tau [], keysR rfl (fun _ => rfl) rfl, ?_, HLw.wkB [(60, _)] rfl (low1 _) (low1 _) hL' rfl rfl rfl (fun _ => rfl) rfl rfl ⟨wX _ _, lst_wk hW' _ _, wG _ _ _⟩⟩
    rw [hz0]
    exact ⟨⟨⟨rfl, w0⟩, rfl, rfl, rfl⟩, ⟨⟨rfl, trivial⟩, rfl, rfl⟩, ⟨rfl, rfl⟩, ⟨⟨rfl, w1⟩, rfl, rfl, rfl⟩, ⟨rfl, hwi⟩, trivial⟩
  · have hpos : 0 < (lane S' bn).length := List.length_pos_iff.2 hz0
    have h1 : endI (lane S' bn) false = ((lane S' bn).getD 0 0, true) := by unfold endI; rw [if_neg hz0]; rfl
    have h2 : endI (lane S' bn) true = ((lane S' bn).getD ((lane S' bn).length - 1) 0, true) := by unfold endI; rw [if_neg hz0]; rfl
    rw [h1, h2]
    have hd : decide (((lane S' bn).length : Int) > 0) = true := decide_eq_true (by omega)
    have hW2 := hW'
    rcases hW2 with ⟨hnil, -, -⟩ | ⟨bw, gw, tyw, hWe, p1, p2, p3, p4⟩
    · exact absurd hnil hz0
    have hWn : eW' = eW' := rfl
    subst hWe
    refine vc_sound hE 120 _ _ _ 60 ?_
    refine ⟨bL, bM, bR, n, 128, gR S' cp', S', _, cp', (bn : Int), rfl, (HLw.q (hm1 _) hL').rd Ren1.id, hF', rfl, fun e'' cap' hl' => ?_⟩
    rw [hLI] at hl' ⊢
    refine ⟨_, _, lane S' bn, lane S' bn, rfl, hl'.rd rfl, hW'.rd rfl, by omega, by omega, ?_⟩
    rw [decide_eq_true (rfl : lane S' bn = lane S' bn)]
    repeat (refine (?_ : br _ _ _); first | refine br_f (by simp only [hd]; rfl) ?_ | refine br_t (by simp only [hd]; rfl) ?_)
    (refine (?_ : chk _ _); refine chk_ok rfl ?_)
    (refine (?_ : chk _ _); refine chk_ok (Nat.ble_eq_true_of_le (show addI 0 ((0 : Int)).toNat * 1 + 0 + 1 ≤ cW' * 1 by have : addI 0 ((0 : Int)).toNat = 0 := rfl; rw [this]; omega)) ?_)
    have hg0 : gw (addI 0 ((0 : Int)).toNat + 0 / 1) (0 % 1) = .int .i64 ((lane S' bn).getD 0 0) := p3 0 hpos
    (refine (?_ : chk _ _); refine chk_ok rfl ?_)
    rw [hg0]
    (refine (?_ : br _ _ _); refine br_neF rfl ?_)
    have hw : IntKind.i64.wrap (((lane S' bn).length : Int) - 1) = (((lane S' bn).length - 1 : Nat) : Int) := by simp only [IntKind.wrap_i64]; omega
    have hz1 : addI 0 (IntKind.i64.wrap (((lane S' bn).length : Int) - 1)).toNat = (lane S' bn).length - 1 := by rw [hw, Int.toNat_natCast, addI_eq, Nat.zero_add]
    (refine (?_ : chk _ _); refine chk_ok (show (decide ((0 : Int) ≤ IntKind.i64.wrap (((lane S' bn).length : Int) - 1)) && decide (IntKind.i64.wrap (((lane S' bn).length : Int) - 1) < ((lane S' bn).length : Int))) = true by rw [hw]; simp only [Bool.and_eq_true, decide_eq_true_eq]; omega) ?_)
    (refine (?_ : chk _ _); refine chk_ok rfl ?_)
    (refine (?_ : chk _ _); refine chk_ok (Nat.ble_eq_true_of_le (show addI 0 (IntKind.i64.wrap (((lane S' bn).length : Int) - 1)).toNat * 1 + 0 + 1 ≤ cW' * 1 by rw [hz1]; omega)) ?_)
    have hg1 : gw (addI 0 (IntKind.i64.wrap (((lane S' bn).length : Int) - 1)).toNat + 0 / 1) (0 % 1) = .int .i64 ((lane S' bn).getD ((lane S' bn).length - 1) 0) := by
      rw [hz1]; exact p3 _ (by omega)
    (refine (?_ : chk _ _); refine chk_ok rfl ?_)
    rw [hg1]
    repeat (refine (?_ : br _ _ _); refine br_neF rfl ?_)
    exact ⟨len - (i + 1), _, _, by omega, ⟨i + 1, S', e', cp', _, cW', rfl, by omega, by omega, hF', hL', hW', rfl, rfl⟩, tau [], keysR rfl (fun _ => rfl) rfl, ⟨⟨⟨rfl, w0⟩, rfl, rfl, rfl⟩, ⟨⟨rfl, trivial⟩, rfl, rfl⟩, ⟨rfl, rfl⟩, ⟨⟨rfl, w1⟩, rfl, rfl, rfl⟩, ⟨rfl, hwi⟩, trivial⟩, HLw.wkB [(60, _)] rfl (low1 _) (low1 _) hL' rfl rfl rfl (fun _ => rfl) rfl rfl ⟨wX _ _, lst_wk hW' _ _, wG _ _ _⟩⟩
theorem u8_has {n : Int} (h : IntKind.u8.has n) : 0 ≤ n ∧ n ≤ 255 := by simpa [IntKind.has, IntKind.min, IntKind.max, IntKind.signed, IntKind.bits] using h
def sLaw4 : Spec := fun args h nx K => ∃ (ub : Option Addr) (len cap : Nat) (z : Nat → Nat → Int) (b : Int), args = [.slice 100 0 len cap, .int .u8 b] ∧ h = [(100, .ro ub len 3 (gT z))] ∧ len ≤ 9223372036854775807 ∧ (0 ≤ b ∧ b ≤ 255) ∧ K (.ret (.bool true)) h nx
theorem sLaw4_ok : SpecOK Try.prog 4 sLaw4 := by
  refine specOK_read (fn := Try.f4) rfl rfl rfl T_ok (SP := SP4) sp4 0 _ ?_
  rintro args h nx K ⟨ub, len, cap, z, b, rfl, rfl, hlen, hb, hk⟩
  obtain ⟨bn, rfl⟩ : ∃ bn : Nat, b = (bn : Int) := ⟨b.toNat, by omega⟩
  refine ⟨[(100, .ro ub len 3 (gT z))], ⟨fun i c hi hc => trivial, trivial⟩, ⟨⟨rfl, _, _, _, _, rfl⟩, trivial⟩, ⟨rfl, trivial, trivial⟩, by simp [Try.f4], fun o => o = .ret (.bool true), ?_, ?_⟩
  · rintro o rfl
    exact ⟨trivial, hk⟩
  · intro c hc
    obtain ⟨cd, h1, h2⟩ := order_walk hc (ub := ub) (cap := cap) (z := z) (bn := bn) (by omega) hlen
    cases h1
    exact h2
end Go.Proofs.Ytkncijljkfpdiaa.Sx
