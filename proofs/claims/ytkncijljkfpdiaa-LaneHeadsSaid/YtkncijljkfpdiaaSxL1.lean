import Derived.Test.YtkncijljkfpdiaaSxWG
/-
  The walks of this seat's laws: LaneHeads.
-/
namespace Go.Proofs.Ytkncijljkfpdiaa.Sx
open Go Go.Proofs
set_option maxRecDepth 100000
set_option linter.unusedSimpArgs false
set_option linter.unusedVariables false

def SP6 : SpT := [(8, sAwake), (9, sNew), (10, sPush), (12, sPull), (17, sLane), (18, sHeads), (13, sBlock), (11, sLen), (16, sInts)]
theorem sp6 : ∀ p ∈ SP6, SpecOK Try.prog p.1 p.2 := consSP sAwake_ok (consSP sNew_ok (consSP sPush_ok (consSP sPull_ok (consSP sLane_ok (consSP sHeads_ok (consSP sBlock_ok (consSP sLen_ok (consSP sInts_ok noSP))))))))
abbrev R0 (eX : Ent) : Hp := [(100, eX), (60, .gone), (61, .gone), (62, .gone)]
abbrev R1 (eX eH : Ent) : Hp := [(100, eX), (200, eH), (60, .gone), (61, .gone), (62, .gone)]
abbrev R2 (eX eH eY : Ent) : Hp := [(100, eX), (200, eH), (210, eY), (60, .gone), (61, .gone), (62, .gone)]
theorem headsN_pos {S : Std} {j : Nat} (h : 0 < (lane S j).length) : headsN S (j + 1) = headsN S j ++ [(lane S j).getD 0 0] := by
  rw [headsN_succ]
  cases e : lane S j with
  | nil => rw [e] at h; cases h
  | cons x xs => rfl
theorem headsN_no {S : Std} {j : Nat} (h : ¬ 0 < (lane S j).length) : headsN S (j + 1) = headsN S j := by
  rw [headsN_succ]
  cases e : lane S j with
  | nil => exact List.append_nil _
  | cons x xs => rw [e] at h; exact absurd (by simp) h
theorem heads_walk {c : Cx} (hc : c.P = Try.prog) {ub : Option Addr} {len cap : Nat} {z : Nat → Nat → Int} (hlen : len ≤ 9223372036854775807) :
    ∃ cd, Try.f6.body = some cd ∧ W ⟨c, Try.f6, T, SP6, fun o _ _ => o = .ret (.bool true)⟩ [.code cd] (argsS [.slice 100 0 len cap] 0) [(100, .ro ub len 3 (gT z))] 0 := by
  refine ⟨_, rfl, ?_⟩
  have hE := mkE' (fn := Try.f6) (R := fun o _ _ => o = .ret (.bool true)) hc sp6
  obtain ⟨eX, hX⟩ : ∃ eX : Ent, eX = .ro ub len 3 (gT z) := ⟨_, rfl⟩
  have wX : ∀ τ h', wkE τ h' eX eX := fun τ h' => by rw [hX]; exact gT_wk _ _
  rw [← hX]
  have vX : eX.here := by rw [hX]; trivial
  have vX0 : live [(100, eX)] 100 := vX
  have hwk : wkH (tau []) [(100, eX)] [(100, eX)] [(100, eX)] := ⟨wX _ _, trivial⟩
  obtain ⟨n, hn⟩ : ∃ n : Nat, n = 8 := ⟨_, rfl⟩
  refine W_seq (nx := 0) ?_
  refine W_to (nx := 0) [(0, .slice 100 0 len cap)] [(100, eX)] 30 ?_ ?_
  · refine vc_sound hE 20 _ _ _ 30 ?_
    exact ⟨tau [], rfl, (by repeat' (first | exact rfl | exact trivial | assumption | refine ⟨?_, ?_⟩)), hwk⟩
  refine W_seq (nx := 30) ?_
  refine W_to (nx := 30) [(0, .slice 100 0 len cap)] [(100, eX)] 30 ?_ ?_
  · refine vc_sound hE 60 _ _ _ 30 ?_
    refine ⟨rfl, ?_⟩
    exact ⟨tau [], rfl, (by repeat' (first | exact rfl | exact trivial | assumption | refine ⟨?_, ?_⟩)), hwk⟩
  refine W_seq (nx := 30) ?_
  have low0 : Low (R0 eX) := rfl
  have hm0 : Mid (gg (R0 eX)) := gg.mid low0
  refine W_ex (nx := 30) (fun (a : (Nat × Nat × Nat) × (Nat → Ent) × (Nat → Nat)) => LsOK n [] a.2.1 a.2.2) (fun a => [(0, .slice 100 0 len cap), (3, .ptr 8 0 0)]) (fun a => HLw a.1.1 a.1.2.1 a.1.2.2 n 128 [] a.2.1 a.2.2 (gg (R0 eX))) 30 ?_ ?_
  · refine vc_sound hE 40 _ _ _ 30 ?_
    refine ⟨8, 128, rfl, fun q => absurd q (by decide), fun n' room hm hn' hr => ?_⟩
    obtain rfl : n' = n := by omega
    obtain rfl : room = 128 := by omega
    refine ⟨rfl, rfl, rfl, fun i hi => low_gone rfl, fun bL bM bR => ?_⟩
    have hτ := Ren1.id
    obtain ⟨k1, k2⟩ := LnQ.back (h := [(100, eX)]) (rest := R0 eX) (HNew.q (bL := bL) (bM := bM) (bR := bR) (n := n') (room := 128) (h := [(100, eX)])) hτ (fun t h1 h2 h3 h4 => HNew.else (by omega) h2 h3 h4) low0 rfl ⟨wX _ _, wk_gone, wk_gone, wk_gone, trivial⟩
    have v : live (HLw bL bM bR n' 128 [] (fun _ => nilE) (fun _ => 0) (gg (R0 eX))) 100 := vX
    exact ⟨((bL, bM, bR), (fun _ => nilE), (fun _ => 0)), fun i hi => nilL, tau [], k1, (by repeat' (first | exact rfl | exact trivial | exact (hτ.low (by decide)).symm | assumption | refine ⟨?_, ?_⟩)), k2⟩
  rintro ⟨⟨bL, bM, bR⟩, e0, c0⟩ l0
  have l0 : LsOK n [] e0 c0 := l0
  have hw0 : ∀ S e cp, LsOK n S e cp → nodupB (((HLw bL bM bR n 128 S e cp (gg (R0 eX))).map (·.1)).map (tau [])) = true ∧ wkH (tau []) (HLw bL bM bR n 128 S e cp (gg (R0 eX))) (HLw bL bM bR n 128 S e cp (gg (R0 eX))) (HLw bL bM bR n 128 S e cp (gg (R0 eX))) := fun S e cp h =>
    HLw.re [] (tau []) rfl low0 low0 h rfl rfl rfl rfl rfl (fun _ => rfl) rfl rfl ⟨wX _ _, wk_gone, wk_gone, wk_gone, trivial⟩
  have v0 : ∀ S e cp, live (HLw bL bM bR n 128 S e cp (gg (R0 eX))) 100 := fun _ _ _ => vX
  refine W_seq (nx := 30) ?_
  refine W_to (nx := 30) [(0, .slice 100 0 len cap), (3, .ptr 8 0 0)] (HLw bL bM bR n 128 [] e0 c0 (gg (R0 eX))) 30 ?_ ?_
  · refine vc_sound hE 60 _ _ _ 30 ?_
    have v := v0 [] e0 c0
    exact ⟨tau [], (hw0 _ _ _ l0).1, (by repeat' (first | exact rfl | exact trivial | assumption | refine ⟨?_, ?_⟩)), (hw0 _ _ _ l0).2⟩
  refine W_seq (nx := 30) ?_
  refine W_piece (nx := 30) (fun _ _ _ => True) ?_ ?_
  rotate_left
  · intro σ1 h1 _ _
    refine vc_sound hE 60 _ _ _ 30 ?_
    rfl
  have hfit0 : Fit n 128 [] := ⟨by simp, by decide, by omega, by simp, by simp, by simp⟩
  refine vc_sound hE 5 _ _ _ 30 ?_
  have v := v0 [] e0 c0
  refine W_loop (fun q σ h => ∃ (i : Nat) (S : Std) (e : Nat → Ent) (cp : Nat → Nat), q = len - i ∧ i ≤ len ∧ i ≤ 150 ∧ Fit n 128 S ∧ LsOK n S e cp ∧ σ = [(0, .slice 100 0 len cap), (3, .ptr 8 0 0), (5, .int .i64 (i : Int))] ∧ h = HLw bL bM bR n 128 S e cp (gg (R0 eX)))
    len ⟨0, [], e0, c0, rfl, by omega, by omega, hfit0, l0, rfl, rfl⟩ (tau []) ⟨(hw0 _ _ _ l0).1, (by repeat' (first | exact rfl | exact trivial | assumption | refine ⟨?_, ?_⟩)), (hw0 _ _ _ l0).2⟩ 60 ?_
  clear v hfit0
  rintro q σ h1 ⟨i, S, e, cp, rfl, hi, hi150, hF, hL, rfl, rfl⟩
  have v := v0 S e cp
  refine W_seq (nx := 60) ?_
  refine W_piece (nx := 60) (fun σ1 h1 _ => (i < len ∧ i < 150) ∧ ∃ τ, wk τ σ1 h1 [(0, .slice 100 0 len cap), (3, .ptr 8 0 0), (5, .int .i64 (i : Int))] (HLw bL bM bR n 128 S e cp (gg (R0 eX)))) ?_ ?_
  · refine vc_sound hE 60 _ _ _ 60 ?_
    (refine (?_ : br _ _ _); refine br_dec (fun q => ?_) (fun q => ?_))
    · have q1 : (i : Int) < (len : Int) := q
      (refine (?_ : br _ _ _); refine br_dec (fun q => ?_) (fun q => ?_))
      · have q2 : (i : Int) < 150 := q
        exact ⟨⟨by omega, by omega⟩, tau [], (hw0 _ _ _ hL).1, (by repeat' (first | exact rfl | exact trivial | assumption | refine ⟨?_, ?_⟩)), (hw0 _ _ _ hL).2⟩
      · exact trivial
    · exact trivial
  rintro σ1 h1 _ ⟨⟨hil, hi3⟩, τ1, hw1⟩
  refine W_weak (nx' := 60) τ1 hw1 ?_
  clear hw1
  have hwi : IntKind.i64.wrap ((i : Int) + 1) = ((i + 1 : Nat) : Int) := by simp only [IntKind.wrap_i64]; omega
  have hz : addI 0 ((i : Int)).toNat = i := by rw [Int.toNat_natCast, addI_eq, Nat.zero_add]
  refine vc_sound hE 2 _ _ _ 60 ?_
  refine W_seq (nx := 60) ?_
  refine W_ex (nx := 60) (fun (a : Std × (Nat → Ent) × (Nat → Nat)) => Fit n 128 a.1 ∧ LsOK n a.1 a.2.1 a.2.2) (fun a => [(0, .slice 100 0 len cap), (3, .ptr 8 0 0), (5, .int .i64 (i : Int))]) (fun a => HLw bL bM bR n 128 a.1 a.2.1 a.2.2 (gg (R0 eX))) 60 ?_ ?_
  · have hback : ∀ (h' : Hp) (g' : Nat → Nat → V) (S' : Std) (e' : Nat → Ent) (cp' : Nat → Nat) (τ : Nat → Nat), Else n (HLw bL bM bR n 128 S e cp (gg (R0 eX))) h' → LnQ h' bL bM bR n 128 g' S' e' cp' τ → Ren1 τ → nodupB (((HLw bL bM bR n 128 S' e' cp' (gg (R0 eX))).map (·.1)).map τ) = true ∧ wkH τ h' (HLw bL bM bR n 128 S' e' cp' (gg (R0 eX))) (HLw bL bM bR n 128 S' e' cp' (gg (R0 eX))) := fun h' g' S' e' cp' τ k1 k2 hτ =>
      LnQ.back (h := HLw bL bM bR n 128 S e cp (gg (R0 eX))) (rest := R0 eX) k2 hτ (fun t h1 h2 h3 h4 => k1 t h2 h3 (.inl h1)) low0 rfl ⟨wX _ _, wk_gone, wk_gone, wk_gone, trivial⟩
    subst hX
    refine vc_sound hE 60 _ _ _ 60 ?_
    (refine (?_ : chk _ _); refine chk_ok (show (decide ((0 : Int) ≤ (i : Int)) && decide ((i : Int) < (len : Int))) = true by simp only [Bool.and_eq_true, decide_eq_true_eq]; omega) ?_)
    (refine (?_ : chk _ _); refine chk_ok rfl ?_)
    (refine (?_ : chk _ _); refine chk_ok (Nat.ble_eq_true_of_le (show addI 0 ((i : Int)).toNat * 3 + 0 + 1 ≤ len * 3 by rw [hz]; omega)) ?_)
    (refine (?_ : chk _ _); refine chk_ok rfl ?_)
    (refine (?_ : br _ _ _); refine br_eq (fun q => ?_) (fun q => ?_))
    · refine W_drawn (id := 10) hE 60 11 (by rw [hc]; exact mix) (by kernel_rfl) (by kernel_rfl) 60 ?_
      iterate 3 (refine ⟨_, ⟨rfl, rfl⟩, ?_⟩)
      refine ⟨.ptr 100 (addI 0 ((i : Int)).toNat) 0, (show chk _ _ from chk_ok (show (decide ((0 : Int) ≤ (i : Int)) && decide ((i : Int) < (len : Int))) = true by simp only [Bool.and_eq_true, decide_eq_true_eq]; omega) (show chk _ _ from chk_ok rfl ⟨rfl, rfl⟩)), ?_⟩
      refine ⟨_, ⟨rfl, rfl⟩, ?_⟩
      refine ⟨.int .i64 (z (addI 0 ((i : Int)).toNat) 1), (show chk _ _ from chk_ok (Nat.ble_eq_true_of_le (show addI 0 ((i : Int)).toNat * 3 + (0 + 1) + 1 ≤ len * 3 by rw [hz]; omega)) ⟨rfl, rfl⟩), ?_⟩
      iterate 2 (refine ⟨_, ⟨rfl, rfl⟩, ?_⟩)
      refine ⟨.ptr 100 (addI 0 ((i : Int)).toNat) 0, (show chk _ _ from chk_ok (show (decide ((0 : Int) ≤ (i : Int)) && decide ((i : Int) < (len : Int))) = true by simp only [Bool.and_eq_true, decide_eq_true_eq]; omega) (show chk _ _ from chk_ok rfl ⟨rfl, rfl⟩)), ?_⟩
      refine ⟨_, ⟨rfl, rfl⟩, ?_⟩
      refine ⟨.int .i64 (z (addI 0 ((i : Int)).toNat) 2), (show chk _ _ from chk_ok (Nat.ble_eq_true_of_le (show addI 0 ((i : Int)).toNat * 3 + (0 + 2) + 1 ≤ len * 3 by rw [hz]; omega)) ⟨rfl, rfl⟩), ?_⟩
      refine ⟨bL, bM, bR, n, 128, gR S cp, S, e, cp, _, _, rfl, HLw.q hm0 hL, hF, (gg.gone low0).1, (gg.gone low0).2, fun h' g' e' cp' τ kx k1 k2 hτ _ => ?_⟩
      obtain ⟨q1, q2⟩ := hback _ _ _ _ _ _ k1 k2 hτ
      have v := v0 (pushS n 128 S (z (addI 0 ((i : Int)).toNat) 1) (z (addI 0 ((i : Int)).toNat) 2)) e' cp'
      exact ⟨(_, e', cp'), ⟨hF.push _ _, k2.is⟩, τ, q1, (by repeat' (first | exact rfl | exact trivial | exact (hτ.low (by decide)).symm | assumption | refine ⟨?_, ?_⟩)), q2⟩
    · (refine (?_ : chk _ _); refine chk_ok (show (decide ((0 : Int) ≤ (i : Int)) && decide ((i : Int) < (len : Int))) = true by simp only [Bool.and_eq_true, decide_eq_true_eq]; omega) ?_)
      (refine (?_ : chk _ _); refine chk_ok rfl ?_)
      (refine (?_ : chk _ _); refine chk_ok (Nat.ble_eq_true_of_le (show addI 0 ((i : Int)).toNat * 3 + (0 + 2) + 1 ≤ len * 3 by rw [hz]; omega)) ?_)
      (refine (?_ : chk _ _); refine chk_ok rfl ?_)
      refine ⟨bL, bM, bR, n, 128, gR S cp, S, e, cp, _, rfl, HLw.q hm0 hL, hF, fun h' g' e' cp' kx k1 k2 => ?_⟩
      have hτ := Ren1.id
      obtain ⟨q1, q2⟩ := hback _ _ _ _ _ _ k1 k2 hτ
      have v := v0 (pullS S (z (addI 0 ((i : Int)).toNat + (0 + 2) / 3) ((0 + 2) % 3))) e' cp'
      exact ⟨(_, e', cp'), ⟨hF.pull _, k2.is⟩, tau [], q1, (by repeat' (first | exact rfl | exact trivial | exact (hτ.low (by decide)).symm | assumption | refine ⟨?_, ?_⟩)), q2⟩
  clear v hL hF e cp S
  rintro ⟨S, e, cp⟩ ⟨hF, hL⟩
  have hF : Fit n 128 S := hF
  have hL : LsOK n S e cp := hL
  have hlS := hF.len
  have low1 : ∀ eH, Low (R1 eX eH) := fun _ => rfl
  have low2 : ∀ eH eY, Low (R2 eX eH eY) := fun _ _ => rfl
  have hm1 : ∀ eH, Mid (gg (R1 eX eH)) := fun eH => gg.mid (low1 eH)
  have hm2 : ∀ eH eY, Mid (gg (R2 eX eH eY)) := fun eH eY => gg.mid (low2 eH eY)
  refine W_seq (nx := 60) ?_
  refine W_piece (nx := 60) (fun σ1 h1 _ => h1 = HLw bL bM bR n 128 S e cp (gg (R0 eX)) ∧ lk 0 σ1 = some (.slice 100 0 len cap) ∧ lk 3 σ1 = some (.ptr 8 0 0) ∧ lk 5 σ1 = some (.int .i64 (i : Int)) ∧ lk 6 σ1 = some .nils) ?_ ?_
  · refine vc_sound hE 20 _ _ _ 60 ?_
    exact ⟨rfl, rfl, rfl, rfl, rfl⟩
  rintro σ1 h1 _ ⟨rfl, s0, s3, s5, s6⟩
  refine W_nil (σ' := [(0, .slice 100 0 len cap), (3, .ptr 8 0 0), (5, .int .i64 (i : Int)), (6, .slice 200 0 (headsN S 0).length 0)]) 200 (gone_at (by decide) (by decide) (by decide) (by decide) (show 200 ∉ [100, 60, 61, 62, 2900, 2901] by decide)) ⟨?_, ?_, ?_, ?_, trivial⟩ (nx' := 60) ?_
  · rw [s0]; exact tell_slice rfl
  · rw [s3]; exact tell_ptr rfl
  · rw [s5]; exact tell_flat trivial
  · rw [s6]; exact tell_nil rfl
  clear s0 s3 s5 s6
  have r1 := HLw.re (bL := bL) (bM := bM) (bR := bR) (n := n) (room := 128) (S := S) [(200, nilE)] (rest' := R1 eX nilE) (tau []) rfl low0 (low1 nilE) hL rfl rfl rfl rfl rfl (fun _ => rfl) rfl rfl ⟨wX _ _, lst_wk nilL _ _, wk_gone, wk_gone, wk_gone, trivial⟩
  have v1 : ∀ eH, live (HLw bL bM bR n 128 S e cp (gg (R1 eX eH))) 100 := fun _ => vX
  have v := v1 nilE
  refine W_weak (nx' := 60) (σ' := [(0, .slice 100 0 len cap), (3, .ptr 8 0 0), (5, .int .i64 (i : Int)), (6, .slice 200 0 (headsN S 0).length 0)]) (h' := HLw bL bM bR n 128 S e cp (gg (R1 eX nilE))) (tau []) ⟨r1.1, (by repeat' (first | exact rfl | exact trivial | assumption | refine ⟨?_, ?_⟩)), r1.2⟩ ?_
  have re1 : ∀ (eH : Ent) (c : List Int × Nat), lstE eH c.1 c.2 → nodupB (((HLw bL bM bR n 128 S e cp (gg (R1 eX eH))).map (·.1)).map (tau [])) = true ∧ wkH (tau []) (HLw bL bM bR n 128 S e cp (gg (R1 eX eH))) (HLw bL bM bR n 128 S e cp (gg (R1 eX eH))) (HLw bL bM bR n 128 S e cp (gg (R1 eX eH))) := fun eH c hl => HLw.re [] (tau []) rfl (low1 eH) (low1 eH) hL rfl rfl rfl rfl rfl (fun _ => rfl) rfl rfl ⟨wX _ _, lst_wk hl _ _, wk_gone, wk_gone, wk_gone, trivial⟩
  refine W_seq (nx := 60) ?_
  refine W_to (nx := 60) [(0, .slice 100 0 len cap), (3, .ptr 8 0 0), (5, .int .i64 (i : Int)), (6, .slice 200 0 (headsN S 0).length 0), (7, .int .i64 (cntN S 0 : Nat))] (HLw bL bM bR n 128 S e cp (gg (R1 eX nilE))) 60 ?_ ?_
  · refine vc_sound hE 20 _ _ _ 60 ?_
    exact ⟨tau [], r1.1, (by rw [cntN_zero]; exact (by repeat' (first | exact rfl | exact trivial | assumption | refine ⟨?_, ?_⟩))), (re1 nilE ([], 0) nilL).2⟩
  refine W_seq (nx := 60) ?_
  refine W_ex (nx := 60) (fun (a : Ent × Nat) => lstE a.1 (headsN S n) a.2) (fun a => [(0, .slice 100 0 len cap), (3, .ptr 8 0 0), (5, .int .i64 (i : Int)), (6, .slice 200 0 (headsN S n).length a.2), (7, .int .i64 (S.length : Nat))]) (fun a => HLw bL bM bR n 128 S e cp (gg (R1 eX a.1))) 60 ?_ ?_
  · refine vc_sound hE 5 _ _ _ 60 ?_
    refine W_loop (fun q σ h => ∃ (j : Nat) (e' : Ent) (c' : Nat), q = n - j ∧ j ≤ n ∧ lstE e' (headsN S j) c' ∧ σ = [(0, .slice 100 0 len cap), (3, .ptr 8 0 0), (5, .int .i64 (i : Int)), (6, .slice 200 0 (headsN S j).length c'), (7, .int .i64 (cntN S j : Nat)), (8, .int .i64 (j : Int))] ∧ h = HLw bL bM bR n 128 S e cp (gg (R1 eX e')))
      n ⟨0, nilE, 0, rfl, by omega, nilL, rfl, rfl⟩ (tau []) ⟨(re1 nilE ([], 0) nilL).1, (by repeat' (first | exact rfl | exact trivial | assumption | refine ⟨?_, ?_⟩)), (re1 nilE ([], 0) nilL).2⟩ 60 ?_
    rintro r σ h1 ⟨j, e', c', rfl, hj, hl, rfl, rfl⟩
    have v := v1 e'
    have v2 : live (HLw bL bM bR n 128 S e cp (gg (R1 eX e'))) 200 := lst_live hl
    have rr := re1 e' (_, _) hl
    have hwj : IntKind.i64.wrap ((j : Int) + 1) = ((j + 1 : Nat) : Int) := by simp only [IntKind.wrap_i64]; omega
    refine W_seq (nx := 60) ?_
    refine W_piece (nx := 60) (fun σ1 h1 _ => j < n ∧ ∃ τ, wk τ σ1 h1 [(0, .slice 100 0 len cap), (3, .ptr 8 0 0), (5, .int .i64 (i : Int)), (6, .slice 200 0 (headsN S j).length c'), (7, .int .i64 (cntN S j : Nat)), (8, .int .i64 (j : Int))] (HLw bL bM bR n 128 S e cp (gg (R1 eX e')))) ?_ ?_
    · refine vc_sound hE 60 _ _ _ 60 ?_
      (refine (?_ : br _ _ _); refine br_dec (fun q => ?_) (fun q => ?_))
      · have q : (j : Int) < 8 := q
        exact ⟨by omega, tau [], rr.1, (by repeat' (first | exact rfl | exact trivial | assumption | refine ⟨?_, ?_⟩)), rr.2⟩
      · have q : ¬ (j : Int) < 8 := q
        obtain rfl : j = n := by omega
        refine ⟨(e', c'), hl, tau [], rr.1, ?_, rr.2⟩
        rw [cntN_all hF]
        exact (by repeat' (first | exact rfl | exact trivial | assumption | refine ⟨?_, ?_⟩))
    rintro σ1 h1 _ ⟨hjn, τ1, hw1⟩
    refine W_weak (nx' := 60) τ1 hw1 ?_
    clear hw1
    refine vc_sound hE 2 _ _ _ 60 ?_
    refine W_seq (nx := 60) ?_
    have hlan := lane_len (S := S) (b := j)
    refine W_ex (nx := 60) (fun (a : Ent × Nat) => lstE a.1 (lane S j) a.2) (fun a => [(0, .slice 100 0 len cap), (3, .ptr 8 0 0), (5, .int .i64 (i : Int)), (6, .slice 200 0 (headsN S j).length c'), (7, .int .i64 (cntN S j : Nat)), (8, .int .i64 (j : Int)), (9, .slice 210 0 (lane S j).length a.2)]) (fun a => HLw bL bM bR n 128 S e cp (gg (R2 eX e' a.1))) 60 ?_ ?_
    · refine vc_sound hE 20 _ _ _ 60 ?_
      have hLI : laneI n S (j : Int) = lane S j := by unfold laneI isI; rw [if_pos (by simp only [decide_eq_true_eq]; omega), Int.toNat_natCast]
      refine ⟨bL, bM, bR, n, 128, gR S cp, S, _, cp, (j : Int), rfl, (HLw.q (hm1 e') hL).rd Ren1.id, hF, rfl, fun e'' cap' hl' => ?_⟩
      rw [hLI] at hl' ⊢
      obtain ⟨q1, q2⟩ := HLw.re (bL := bL) (bM := bM) (bR := bR) (n := n) (room := 128) (S := S) [(60, e'')] (rest' := R2 eX e' e'') (tau [(210, 60), (60, 210)]) rfl (low1 e') (low2 e' e'') hL rfl rfl rfl rfl rfl (fun _ => rfl) rfl rfl ⟨wX _ _, lst_wk hl _ _, lst_wk hl' _ _, wk_gone, wk_gone, wk_gone, trivial⟩
      have v3 : live (HLw bL bM bR n 128 S e cp (gg (R2 eX e' e''))) 100 := vX
      have v4 : live (HLw bL bM bR n 128 S e cp (gg (R2 eX e' e''))) 200 := lst_live hl
      have v5 : live (HLw bL bM bR n 128 S e cp (gg (R2 eX e' e''))) 210 := lst_live hl'
      exact ⟨(e'', cap'), hl', _, q1, (by repeat' (first | exact rfl | exact trivial | assumption | refine ⟨?_, ?_⟩)), q2⟩
    rintro ⟨eY, cY⟩ hY
    have hY : lstE eY (lane S j) cY := hY
    have v3 : live (HLw bL bM bR n 128 S e cp (gg (R2 eX e' eY))) 100 := vX
    have v4 : live (HLw bL bM bR n 128 S e cp (gg (R2 eX e' eY))) 200 := lst_live hl
    have v5 : live (HLw bL bM bR n 128 S e cp (gg (R2 eX e' eY))) 210 := lst_live hY
    have r2 := HLw.re (bL := bL) (bM := bM) (bR := bR) (n := n) (room := 128) (S := S) [] (rest := R2 eX e' eY) (rest' := R2 eX e' eY) (tau []) rfl (low2 e' eY) (low2 e' eY) hL rfl rfl rfl rfl rfl (fun _ => rfl) rfl rfl ⟨wX _ _, lst_wk hl _ _, lst_wk hY _ _, wk_gone, wk_gone, wk_gone, trivial⟩
    refine W_seq (nx := 60) ?_
    -- each ticket of the lane tells its block
    refine W_to (nx := 60) [(0, .slice 100 0 len cap), (3, .ptr 8 0 0), (5, .int .i64 (i : Int)), (6, .slice 200 0 (headsN S j).length c'), (7, .int .i64 (cntN S j : Nat)), (8, .int .i64 (j : Int)), (9, .slice 210 0 (lane S j).length cY)] (HLw bL bM bR n 128 S e cp (gg (R2 eX e' eY))) 60 ?_ ?_
    · refine vc_sound hE 5 _ _ _ 60 ?_
      refine W_loop (fun q σ h => ∃ k : Nat, q = (lane S j).length - k ∧ k ≤ (lane S j).length ∧ σ = [(0, .slice 100 0 len cap), (3, .ptr 8 0 0), (5, .int .i64 (i : Int)), (6, .slice 200 0 (headsN S j).length c'), (7, .int .i64 (cntN S j : Nat)), (8, .int .i64 (j : Int)), (9, .slice 210 0 (lane S j).length cY), (10, .int .i64 (k : Int))] ∧ h = HLw bL bM bR n 128 S e cp (gg (R2 eX e' eY)))
        (lane S j).length ⟨0, rfl, by omega, rfl, rfl⟩ (tau []) ⟨r2.1, (by repeat' (first | exact rfl | exact trivial | assumption | refine ⟨?_, ?_⟩)), r2.2⟩ 60 ?_
      rintro r σ h1 ⟨k, rfl, hk, rfl, rfl⟩
      refine vc_sound hE 60 _ _ _ 60 ?_
      (refine (?_ : br _ _ _); refine br_dec (fun q => ?_) (fun q => ?_))
      rotate_left
      · exact ⟨tau [], r2.1, (by repeat' (first | exact rfl | exact trivial | assumption | refine ⟨?_, ?_⟩)), r2.2⟩
      have q : (k : Int) < ((lane S j).length : Int) := q
      have hkl : k < (lane S j).length := by omega
      have hwk : IntKind.i64.wrap ((k : Int) + 1) = ((k + 1 : Nat) : Int) := by simp only [IntKind.wrap_i64]; omega
      have hzk : addI 0 ((k : Int)).toNat = k := by rw [Int.toNat_natCast, addI_eq, Nat.zero_add]
      rcases hY with ⟨hnil, -, -⟩ | ⟨bY, gY, tyY, rfl, y1, y2, y3, y4⟩
      · rw [hnil] at hkl; exact absurd hkl (by simp)
      (refine (?_ : chk _ _); refine chk_ok (show (decide ((0 : Int) ≤ (k : Int)) && decide ((k : Int) < ((lane S j).length : Int))) = true by simp only [Bool.and_eq_true, decide_eq_true_eq]; omega) ?_)
      (refine (?_ : chk _ _); refine chk_ok rfl ?_)
      (refine (?_ : chk _ _); refine chk_ok (Nat.ble_eq_true_of_le (show addI 0 ((k : Int)).toNat * 1 + 0 + 1 ≤ cY * 1 by rw [hzk]; omega)) ?_)
      have hg : gY (addI 0 ((k : Int)).toNat + 0 / 1) (0 % 1) = .int .i64 ((lane S j).getD k 0) := by
        rw [hzk]; exact y3 k hkl
      (refine (?_ : chk _ _); refine chk_ok rfl ?_)
      rw [hg]
      have hmem : (j, (lane S j).getD k 0) ∈ S := by
        rw [← mem_lane, getD_at hkl]
        exact List.getElem_mem hkl
      obtain ⟨b1, b2⟩ := blkT_at hF.nd hmem
      refine ⟨n, 128, mpS S, (lane S j).getD k 0, rfl, (HLw.q (hm2 e' _) hL).ro, ?_⟩
      rw [mget_S, mhas_S, b1, b2]
      (refine (?_ : br _ _ _); refine br_neF rfl ?_)
      exact ⟨(lane S j).length - (k + 1), _, _, by omega, ⟨k + 1, rfl, by omega, rfl, rfl⟩, tau [], r2.1, ⟨⟨⟨rfl, v3⟩, rfl, rfl, rfl⟩, ⟨⟨rfl, trivial⟩, rfl, rfl⟩, ⟨rfl, rfl⟩, ⟨⟨rfl, v4⟩, rfl, rfl, rfl⟩, ⟨rfl, rfl⟩, ⟨rfl, rfl⟩, ⟨⟨rfl, trivial⟩, rfl, rfl, rfl⟩, ⟨rfl, hwk⟩, trivial⟩, r2.2⟩
    refine W_seq (nx := 60) ?_
    refine W_ex (nx := 60) (fun (a : Ent × Nat) => lstE a.1 (headsN S (j + 1)) a.2) (fun a => [(0, .slice 100 0 len cap), (3, .ptr 8 0 0), (5, .int .i64 (i : Int)), (6, .slice 200 0 (headsN S (j + 1)).length a.2), (7, .int .i64 (cntN S j : Nat)), (8, .int .i64 (j : Int)), (9, .slice 210 0 (lane S j).length cY)]) (fun a => HLw bL bM bR n 128 S e cp (gg (R2 eX a.1 eY))) 60 ?_ ?_
    · refine vc_sound hE 60 _ _ _ 60 ?_
      have hhl := headsN_len (S := S) (j := j)
      (refine (?_ : br _ _ _); refine br_dec (fun q => ?_) (fun q => ?_))
      rotate_left
      · have q : ¬ ((lane S j).length : Int) > 0 := q
        have hs := headsN_no (S := S) (j := j) (by omega)
        refine ⟨(e', c'), by rw [hs]; exact hl, tau [], r2.1, ?_, r2.2⟩
        rw [hs]
        exact (by repeat' (first | exact rfl | exact trivial | assumption | refine ⟨?_, ?_⟩))
      have q : ((lane S j).length : Int) > 0 := q
      have hpos : 0 < (lane S j).length := by omega
      have hs := headsN_pos (S := S) (j := j) hpos
      have hY2 := hY
      rcases hY2 with ⟨hnil, -, -⟩ | ⟨bY, gY, tyY, hYe, y1, y2, y3, y4⟩
      · rw [hnil] at hpos; exact absurd hpos (by simp)
      subst hYe
      (refine (?_ : chk _ _); refine chk_ok (show (decide ((0 : Int) ≤ (0 : Int)) && decide ((0 : Int) < ((lane S j).length : Int))) = true by simp only [Bool.and_eq_true, decide_eq_true_eq]; omega) ?_)
      (refine (?_ : chk _ _); refine chk_ok rfl ?_)
      (refine (?_ : chk _ _); refine chk_ok (Nat.ble_eq_true_of_le (show addI 0 ((0 : Int)).toNat * 1 + 0 + 1 ≤ cY * 1 by have : addI 0 ((0 : Int)).toNat = 0 := rfl; rw [this]; omega)) ?_)
      have hg : gY (addI 0 ((0 : Int)).toNat + 0 / 1) (0 % 1) = .int .i64 ((lane S j).getD 0 0) := y3 0 hpos
      (refine (?_ : chk _ _); refine chk_ok rfl ?_)
      rw [hg]
      intro b1
      refine putS_some rfl ?_
      refine vc_app (v := .slice 200 0 (headsN S j).length c') (u := .slice 60 0 1 1) rfl rfl ?_
      refine app_one intT hl rfl (x := (lane S j).getD 0 0) (.inr ⟨60, 0, 1, _, 1, _, rfl, rfl, Nat.le_refl _, fun i hi => (by obtain rfl : i = 0 := (by simpa using hi); rfl)⟩) rfl (by omega) (fun e'' hl' => ?_) (fun e'' c'' hl' => ?_)
      · rw [← hs] at hl' ⊢
        have w4 : live (HLw bL bM bR n 128 S e cp (gg (R2 eX e'' (.blk bY cY 1 gY tyY)))) 200 := lst_live hl'
        obtain ⟨q1, q2⟩ := HLw.re (bL := bL) (bM := bM) (bR := bR) (n := n) (room := 128) (S := S) [(200, e''), (60, _)] (rest := R2 eX e' (.blk bY cY 1 gY tyY)) (rest' := R2 eX e'' (.blk bY cY 1 gY tyY)) (tau []) rfl (low2 _ _) (low2 _ _) hL rfl rfl rfl rfl rfl (fun _ => rfl) rfl rfl ⟨wX _ _, lst_wk hl' _ _, lst_wk hY _ _, wk_gone, wk_gone, wk_gone, trivial⟩
        exact ⟨(e'', c'), hl', tau [], q1, ⟨⟨⟨rfl, v3⟩, rfl, rfl, rfl⟩, ⟨⟨rfl, trivial⟩, rfl, rfl⟩, ⟨rfl, rfl⟩, ⟨⟨rfl, w4⟩, rfl, rfl, rfl⟩, ⟨rfl, rfl⟩, ⟨rfl, rfl⟩, ⟨⟨rfl, trivial⟩, rfl, rfl, rfl⟩, trivial⟩, q2⟩
      · rw [← hs] at hl' ⊢
        have w4 : live (HLw bL bM bR n 128 S e cp (gg (R2 eX e'' (.blk bY cY 1 gY tyY)))) 200 := lst_live hl'
        obtain ⟨q1, q2⟩ := HLw.re (bL := bL) (bM := bM) (bR := bR) (n := n) (room := 128) (S := S) [(61, e''), (60, _)] (rest := R2 eX e' (.blk bY cY 1 gY tyY)) (rest' := R2 eX e'' (.blk bY cY 1 gY tyY)) (tau [(200, 61), (61, 200)]) rfl (low2 _ _) (low2 _ _) hL rfl rfl rfl rfl rfl (fun _ => rfl) rfl rfl ⟨wX _ _, lst_wk hl' _ _, lst_wk hY _ _, wk_gone, wk_gone, wk_gone, trivial⟩
        exact ⟨(e'', c''), hl', _, q1, ⟨⟨⟨rfl, v3⟩, rfl, rfl, rfl⟩, ⟨⟨rfl, trivial⟩, rfl, rfl⟩, ⟨rfl, rfl⟩, ⟨⟨rfl, w4⟩, rfl, rfl, rfl⟩, ⟨rfl, rfl⟩, ⟨rfl, rfl⟩, ⟨⟨rfl, trivial⟩, rfl, rfl, rfl⟩, trivial⟩, q2⟩
    rintro ⟨e'', c''⟩ hl''
    have hl'' : lstE e'' (headsN S (j + 1)) c'' := hl''
    have v6 : live (HLw bL bM bR n 128 S e cp (gg (R1 eX e''))) 100 := vX
    have v7 : live (HLw bL bM bR n 128 S e cp (gg (R1 eX e''))) 200 := lst_live hl''
    have hcn := cntN_le (S := S) (j := j)
    have hsm : IntKind.i64.wrap ((cntN S j : Nat) + ((lane S j).length : Int)) = ((cntN S (j + 1) : Nat) : Int) := by rw [cntN_succ]; simp only [IntKind.wrap_i64]; omega
    refine vc_sound hE 60 _ _ _ 60 ?_
    obtain ⟨q1, q2⟩ := HLw.re (bL := bL) (bM := bM) (bR := bR) (n := n) (room := 128) (S := S) [] (rest := R2 eX e'' eY) (rest' := R1 eX e'') (tau []) rfl (low2 _ _) (low1 _) hL rfl rfl rfl rfl rfl (fun _ => rfl) rfl rfl ⟨wX _ _, lst_wk hl'' _ _, wk_gone, wk_gone, wk_gone, trivial⟩
    exact ⟨n - (j + 1), _, _, by omega, ⟨j + 1, e'', c'', rfl, by omega, hl'', rfl, rfl⟩, tau [], q1, ⟨⟨⟨rfl, v6⟩, rfl, rfl, rfl⟩, ⟨⟨rfl, trivial⟩, rfl, rfl⟩, ⟨rfl, rfl⟩, ⟨⟨rfl, v7⟩, rfl, rfl, rfl⟩, ⟨rfl, hsm⟩, ⟨rfl, hwj⟩, trivial⟩, q2⟩
  rintro ⟨e', c'⟩ hl
  have hl : lstE e' (headsN S n) c' := hl
  have hhl := headsN_len (S := S) (j := n)
  refine vc_sound hE 80 _ _ _ 60 ?_
  refine ⟨n, 128, mpS S, rfl, (HLw.q (hm1 e') hL).ro, ?_⟩
  rw [mpS_len]
  (refine (?_ : br _ _ _); refine br_neF rfl ?_)
  refine ⟨bL, bM, bR, n, 128, gR S cp, S, _, cp, rfl, (HLw.q (hm1 e') hL).rd Ren1.id, hF, rfl, fun e'' cap' hl' => ?_⟩
  refine ⟨_, _, headsN S n, headsN S n, rfl, hl'.rd rfl, hl.rd rfl, by omega, by omega, ?_⟩
  rw [decide_eq_true (rfl : headsN S n = headsN S n)]
  have v := v0 S e cp
  obtain ⟨q1, q2⟩ := HLw.re (bL := bL) (bM := bM) (bR := bR) (n := n) (room := 128) (S := S) [(60, e'')] (rest := R1 eX e') (rest' := R0 eX) (tau []) rfl (low1 _) low0 hL rfl rfl rfl rfl rfl (fun _ => rfl) rfl rfl ⟨wX _ _, wk_gone, wk_gone, wk_gone, trivial⟩
  exact ⟨len - (i + 1), _, _, by omega, ⟨i + 1, S, e, cp, rfl, by omega, by omega, hF, hL, rfl, rfl⟩, tau [], q1, ⟨⟨⟨rfl, v⟩, rfl, rfl, rfl⟩, ⟨⟨rfl, trivial⟩, rfl, rfl⟩, ⟨rfl, hwi⟩, trivial⟩, q2⟩
def sLaw6 : Spec := fun args h nx K => ∃ (ub : Option Addr) (len cap : Nat) (z : Nat → Nat → Int), args = [.slice 100 0 len cap] ∧ h = [(100, .ro ub len 3 (gT z))] ∧ len ≤ 9223372036854775807 ∧ K (.ret (.bool true)) h nx
theorem sLaw6_ok : SpecOK Try.prog 6 sLaw6 := by
  refine specOK_read (fn := Try.f6) rfl rfl rfl T_ok (SP := SP6) sp6 0 _ ?_
  rintro args h nx K ⟨ub, len, cap, z, rfl, rfl, hlen, hk⟩
  refine ⟨[(100, .ro ub len 3 (gT z))], ⟨fun i c hi hc => trivial, trivial⟩, ⟨⟨rfl, _, _, _, _, rfl⟩, trivial⟩, ⟨rfl, trivial⟩, by simp [Try.f6], fun o => o = .ret (.bool true), ?_, ?_⟩
  · rintro o rfl
    exact ⟨trivial, hk⟩
  · intro c hc
    obtain ⟨cd, h1, h2⟩ := heads_walk hc (ub := ub) (cap := cap) (z := z) hlen
    cases h1
    exact h2
end Go.Proofs.Ytkncijljkfpdiaa.Sx
