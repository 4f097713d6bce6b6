import Derived.Test.YtgcnknhfphgfnaaSxG5
/-
  The walk of TurnPlays.
-/
namespace Go.Proofs.Ytgcnknhfphgfnaa.Sx
open Go Go.Proofs
set_option maxRecDepth 100000
set_option linter.unusedSimpArgs false
set_option linter.unusedVariables false

def ckA : Nat → Option IntKind := fun j => match j with | 0 => some .i64 | 1 => some .i64 | _ => none
/-- The script's cells. -/
def gAct (z : Nat → Nat → Int) (p : Nat → Nat → Bool) : Nat → Nat → V := fun i c => match c with
  | 0 => .int .i64 (z i 0)
  | 1 => .int .i64 (z i 1)
  | _ => .bool (p i 2)
theorem gMix_act {ub : Option Addr} {len : Nat} {z : Nat → Nat → Int} {p : Nat → Nat → Bool} (τ : Nat → Nat) (h' : Hp) : wkE τ h' (.ro ub len 3 (gMix ckA z p)) (.ro ub len 3 (gAct z p)) := ⟨rfl, rfl, rfl, fun i c hi hc => by
  match c, hc with
  | 0, _ => exact ⟨rfl, rfl⟩
  | 1, _ => exact ⟨rfl, rfl⟩
  | 2, _ => exact rfl⟩
theorem gMix_wk {ub : Option Addr} {len : Nat} {z : Nat → Nat → Int} {p : Nat → Nat → Bool} (τ : Nat → Nat) (h' : Hp) : wkE τ h' (.ro ub len 3 (gAct z p)) (.ro ub len 3 (gAct z p)) := ⟨rfl, rfl, rfl, fun i c hi hc => by
  match c, hc with
  | 0, _ => exact ⟨rfl, rfl⟩
  | 1, _ => exact ⟨rfl, rfl⟩
  | 2, _ => exact rfl⟩
theorem HDc.wk {bR : Nat} {md ma : Int} {td ta : Nat} {D A : Dl} {eD eA : Ent} {cD cA : Nat} {h h' rest : Hp} {τ : Nat → Nat} (e18 : fd (τ 18) h = .blk bR 1 4 (gDc td ta D.length cD A.length cA md ma) 48) (hd : td = τ 19) (ha : ta = τ 20) (e19 : fd (τ 19) h = eD) (e20 : fd (τ 20) h = eA) (ld : lstK R2 eD D cD) (la : lstK R2 eA A cA) (v19 : live h' 19) (v20 : live h' 20) (hr : wkH τ h h' rest) : wkH τ h h' (HDc bR md ma 19 20 D A eD eA cD cA rest) := by
  refine ⟨?_, ?_, ?_, hr⟩
  · rw [e18]
    refine ⟨rfl, rfl, rfl, rfl, fun i c hi hc => ?_⟩
    obtain rfl : i = 0 := by omega
    match c, hc with
    | 0, _ => exact ⟨⟨hd, v19⟩, rfl, rfl, rfl⟩
    | 1, _ => exact ⟨⟨ha, v20⟩, rfl, rfl, rfl⟩
    | 2, _ => exact ⟨rfl, rfl⟩
    | 3, _ => exact ⟨rfl, rfl⟩
  · rw [e19]; exact ld.wk _ _
  · rw [e20]; exact la.wk _ _
theorem mayIB_iff {d a : Int} : mayIB d a = true ↔ mayI d a := by
  unfold mayIB mayI
  simp only [Bool.and_eq_true, decide_eq_true_eq]
  omega
def SP5 : SpT := [(8, sAwake), (9, sNew), (19, sRMay), (11, sRNew), (10, sStep), (12, sFree), (20, sState), (21, sRState), (13, sWaiting), (22, sRWaiting), (16, sInts)]
theorem sp5 : ∀ p ∈ SP5, SpecOK Try.prog p.1 p.2 := consSP sAwake_ok (consSP sNew_ok (consSP sRMay_ok (consSP sRNew_ok (consSP sStep_ok (consSP sFree_ok (consSP sState_ok (consSP sRState_ok (consSP sWaiting_ok (consSP sRWaiting_ok (consSP sInts_ok noSP))))))))))
/-- Both structures, and the script. -/
abbrev HB (bT bM : Nat) (d a n : Int) (S : List Pl) (bR : Nat) (md ma : Int) (D A : Dl) (eD eA : Ent) (cD cA : Nat) (rest : Hp) : Hp := HTW bT bM d a n S (HDc bR md ma 19 20 D A eD eA cD cA rest)
theorem HB.wk {bT bM : Nat} {d a n : Int} {S : List Pl} {bR : Nat} {md ma : Int} {D A : Dl} {eD eA : Ent} {cD cA : Nat} {h h' rest : Hp} {τ : Nat → Nat} {td ta : Nat} (e8 : fd (τ 8) h = .blk bT 1 4 (gTn d a n) 56) (e9 : fd (τ 9) h = .mp bM (mpP S)) (t9 : τ 9 = 9) (v9 : live h' 9)
    (e18 : fd (τ 18) h = .blk bR 1 4 (gDc td ta D.length cD A.length cA md ma) 48) (hd : td = τ 19) (ha : ta = τ 20) (e19 : fd (τ 19) h = eD) (e20 : fd (τ 20) h = eA) (ld : lstK R2 eD D cD) (la : lstK R2 eA A cA) (v19 : live h' 19) (v20 : live h' 20) (hr : wkH τ h h' rest) : wkH τ h h' (HB bT bM d a n S bR md ma D A eD eA cD cA rest) :=
  HTW.wk e8 e9 t9 v9 (HDc.wk e18 hd ha e19 e20 ld la v19 v20 hr)
theorem plays_walk {c : Cx} (hc : c.P = Try.prog) {d a : Int} {ub : Option Addr} {len cap : Nat} {z : Nat → Nat → Int} {p : Nat → Nat → Bool} (hlen : len ≤ 9223372036854775807) :
    ∃ cd, Try.f5.body = some cd ∧ W ⟨c, Try.f5, T, SP5, fun o _ _ => o = .ret (.bool true)⟩ [.code cd] (argsS [.int .i64 d, .int .i64 a, .slice 100 0 len cap] 0) [(100, .ro ub len 3 (gMix ckA z p))] 0 := by
  refine ⟨_, rfl, ?_⟩
  have hE := mkE' (fn := Try.f5) (R := fun o _ _ => o = .ret (.bool true)) hc sp5
  refine W_weak (nx' := 30) (σ' := argsS [.int .i64 d, .int .i64 a, .slice 100 0 len cap] 0) (h' := [(100, .ro ub len 3 (gAct z p))]) (tau []) ⟨rfl, (by repeat' (first | exact rfl | exact trivial | assumption | refine ⟨?_, ?_⟩)), gMix_act _ _, trivial⟩ ?_
  obtain ⟨eX, hX⟩ : ∃ eX : Ent, eX = .ro ub len 3 (gAct z p) := ⟨_, rfl⟩
  have wX : ∀ τ h', wkE τ h' eX eX := fun τ h' => by rw [hX]; exact gMix_wk _ _
  rw [← hX]
  have vX : eX.here := by rw [hX]; trivial
  refine W_seq (nx := 30) ?_
  refine W_keep (nx := 30) [(0, .int .i64 d), (1, .int .i64 a), (2, .slice 100 0 len cap)] [(100, eX)] 30 ?_ ?_
  · refine vc_sound hE 20 _ _ _ 30 ?_
    exact ⟨rfl, rfl, rfl, rfl, trivial⟩
  refine W_seq (nx := 30) ?_
  refine W_keep (nx := 30) [(0, .int .i64 d), (1, .int .i64 a), (2, .slice 100 0 len cap)] [(100, eX)] 30 ?_ ?_
  · refine vc_sound hE 40 _ _ _ 30 ?_
    refine ⟨rfl, ?_⟩
    exact ⟨rfl, rfl, rfl, rfl, trivial⟩
  have g100 : Gone 60 [(100, eX)] := Gone.cons gone_nil (by omega)
  refine W_seq (nx := 30) ?_
  by_cases hm : mayI d a
  rotate_left
  · refine W_keep (nx := 30) [(0, .int .i64 d), (1, .int .i64 a), (7, .nilp), (8, .int .i64 1)] [(100, eX)] 30 ?_ ?_
    · refine vc_sound hE 40 _ _ _ 30 ?_
      refine ⟨d, a, rfl, g100, fun _ => ?_, fun q => absurd q hm⟩
      exact ⟨rfl, rfl, rfl, rfl, rfl, trivial⟩
    have hb : mayIB d a = false := by
      cases h : mayIB d a with
      | false => rfl
      | true => exact absurd (mayIB_iff.1 h) hm
    refine vc_sound hE 60 _ _ _ 30 ?_
    refine ⟨d, a, rfl, ?_⟩
    rw [hb]
    rfl
  have hb : mayIB d a = true := mayIB_iff.2 hm
  refine W_some (nx := 30) (fun _ : Nat × Nat => True) (fun _ => [(0, .int .i64 d), (1, .int .i64 a), (2, .slice 100 0 len cap), (7, .ptr 8 0 0), (8, .int .i64 0)]) (fun b => HTW b.1 b.2 d a 0 [] [(100, eX)]) 30 ?_ ?_
  · refine vc_sound hE 40 _ _ _ 30 ?_
    refine ⟨d, a, rfl, g100, fun q => absurd hm q, fun _ => ⟨⟨rfl, rfl⟩, fun bT bM => ?_⟩⟩
    exact ⟨(bT, bM), trivial, rfl, rfl, rfl, rfl, rfl, rfl, trivial⟩
  rintro ⟨bT, bM⟩ _
  refine W_seq (nx := 30) ?_
  refine W_keep (nx := 30) [(0, .int .i64 d), (1, .int .i64 a), (2, .slice 100 0 len cap), (7, .ptr 8 0 0), (8, .int .i64 0)] (HTW bT bM d a 0 [] [(100, eX)]) 30 ?_ ?_
  · refine vc_sound hE 60 _ _ _ 30 ?_
    refine ⟨d, a, rfl, ?_⟩
    rw [hb]
    exact ⟨rfl, rfl, rfl, rfl, rfl, rfl, trivial⟩
  refine W_seq (nx := 30) ?_
  refine W_keep (nx := 30) [(0, .int .i64 d), (1, .int .i64 a), (2, .slice 100 0 len cap), (7, .ptr 8 0 0)] (HTW bT bM d a 0 [] [(100, eX)]) 30 ?_ ?_
  · refine vc_sound hE 60 _ _ _ 30 ?_
    exact ⟨rfl, rfl, rfl, rfl, rfl, trivial⟩
  refine W_seq (nx := 30) ?_
  refine W_ex (nx := 30) (fun _ : Nat => True) (fun _ => [(0, .int .i64 d), (1, .int .i64 a), (2, .slice 100 0 len cap), (7, .ptr 8 0 0), (9, .ptr 18 0 0)]) (fun b => HB bT bM d a 0 [] b d a [] [] noE noE 0 0 [(100, eX)]) 30 ?_ ?_
  · refine vc_sound hE 60 _ _ _ 30 ?_
    refine ⟨d, a, rfl, rfl, rfl, rfl, rfl, fun b => ?_⟩
    have v : live (HB bT bM d a 0 [] b d a [] [] noE noE 0 0 [(100, eX)]) 100 := vX
    exact ⟨b, trivial, tau [], rfl, (by repeat' (first | exact rfl | exact trivial | assumption | refine ⟨?_, ?_⟩)), HB.wk rfl rfl rfl trivial rfl rfl rfl rfl rfl noE_lst noE_lst trivial trivial ⟨wX _ _, trivial⟩⟩
  rintro bR _
  refine W_seq (nx := 30) ?_
  refine W_piece (nx := 30) (fun _ _ _ => True) ?_ ?_
  rotate_left
  · intro σ1 h1 _ _
    refine vc_sound hE 60 _ _ _ 30 ?_
    rfl
  refine vc_sound hE 5 _ _ _ 30 ?_
  have v0 : live (HB bT bM d a 0 [] bR d a [] [] noE noE 0 0 [(100, eX)]) 100 := vX
  refine W_loop (fun q σ h => ∃ (i : Nat) (n : Int) (S Dp Ap : List Pl) (eD eA : Ent) (cD cA : Nat), q = len - i ∧ i ≤ len ∧ i ≤ 150 ∧ 0 ≤ n ∧ n ≤ (i : Int) ∧ Rl n S Dp Ap ∧ (Dp.length : Int) ≤ d ∧ (Ap.length : Int) ≤ a ∧ lstK R2 eD (dl Dp) cD ∧ lstK R2 eA (dl Ap) cA ∧ σ = [(0, .int .i64 d), (1, .int .i64 a), (2, .slice 100 0 len cap), (7, .ptr 8 0 0), (9, .ptr 18 0 0), (10, .int .i64 (i : Int))] ∧ h = HB bT bM d a n S bR d a (dl Dp) (dl Ap) eD eA cD cA [(100, eX)])
    len ⟨0, 0, [], [], [], noE, noE, 0, 0, rfl, by omega, by omega, by omega, by omega, Rl.nil, by have := hm.1; simp; omega, by have := hm.2; simp; omega, noE_lst, noE_lst, rfl, rfl⟩ (tau []) ⟨rfl, (by repeat' (first | exact rfl | exact trivial | assumption | refine ⟨?_, ?_⟩)), HB.wk rfl rfl rfl trivial rfl rfl rfl rfl rfl noE_lst noE_lst trivial trivial ⟨wX _ _, trivial⟩⟩ 60 ?_
  clear v0
  rintro q σ h1 ⟨i, n, S, Dp, Ap, eD, eA, cD, cA, rfl, hi, hi150, hn0, hni, R, hdl, hal, hlD, hlA, rfl, rfl⟩
  have hm1 := hm.1
  have hm2 := hm.2
  have hSl := R.len
  have hB : Bnd d a n S := ⟨by omega, by omega, by omega, by omega⟩
  have hDl : (dl Dp).length ≤ 900 := by rw [dl_len]; omega
  have hAl : (dl Ap).length ≤ 900 := by rw [dl_len]; omega
  have vD := hlD.here
  have vA := hlA.here
  have v : live (HB bT bM d a n S bR d a (dl Dp) (dl Ap) eD eA cD cA [(100, eX)]) 100 := vX
  refine W_seq (nx := 60) ?_
  refine W_piece (nx := 60) (fun σ1 h1 _ => (i < len ∧ i < 150) ∧ h1 = HB bT bM d a n S bR d a (dl Dp) (dl Ap) eD eA cD cA [(100, eX)] ∧ subS σ1 [(0, .int .i64 d), (1, .int .i64 a), (2, .slice 100 0 len cap), (7, .ptr 8 0 0), (9, .ptr 18 0 0), (10, .int .i64 (i : Int))]) ?_ ?_
  · refine vc_sound hE 60 _ _ _ 60 ?_
    (refine (?_ : br _ _ _); refine br_dec (fun q => ?_) (fun q => ?_))
    · have q1 : (i : Int) < (len : Int) := q
      (refine (?_ : br _ _ _); refine br_dec (fun q => ?_) (fun q => ?_))
      · have q2 : (i : Int) < 150 := by assumption
        exact ⟨⟨by omega, by omega⟩, rfl, rfl, rfl, rfl, rfl, rfl, rfl, trivial⟩
      · exact trivial
    · exact trivial
  rintro σ1 h1 _ ⟨⟨hil, hi3⟩, rfl, hs⟩
  refine W_sub (nx' := 60) hs ?_
  clear hs
  have hwi : IntKind.i64.wrap ((i : Int) + 1) = ((i + 1 : Nat) : Int) := by simp only [IntKind.wrap_i64]; omega
  refine vc_sound hE 2 _ _ _ 60 ?_
  refine W_seq (nx := 60) ?_
  refine W_ex (nx := 60) (fun (x : (Int × List Pl × List Pl × List Pl) × (Ent × Ent × Nat × Nat)) => 0 ≤ x.1.1 ∧ x.1.1 ≤ ((i + 1 : Nat) : Int) ∧ Rl x.1.1 x.1.2.1 x.1.2.2.1 x.1.2.2.2 ∧ (x.1.2.2.1.length : Int) ≤ d ∧ (x.1.2.2.2.length : Int) ≤ a ∧ lstK R2 x.2.1 (dl x.1.2.2.1) x.2.2.2.1 ∧ lstK R2 x.2.2.1 (dl x.1.2.2.2) x.2.2.2.2) (fun _ => [(0, .int .i64 d), (1, .int .i64 a), (2, .slice 100 0 len cap), (7, .ptr 8 0 0), (9, .ptr 18 0 0), (10, .int .i64 (i : Int))]) (fun x => HB bT bM d a x.1.1 x.1.2.1 bR d a (dl x.1.2.2.1) (dl x.1.2.2.2) x.2.1 x.2.2.1 x.2.2.2.1 x.2.2.2.2 [(100, eX)]) 60 ?_ ?_
  · obtain ⟨Dp', Ap', R', he, hD', hA', hn1, hn2, hd', ha'⟩ := R.act d a (z (addI 0 ((i : Int)).toNat) 0) (z (addI 0 ((i : Int)).toNat) 1) (p (addI 0 ((i : Int)).toNat) 2)
    have gS : GoneS (HB bT bM d a n S bR d a (dl Dp) (dl Ap) eD eA cD cA [(100, eX)]) := ⟨by repeat' (first | exact gone_nil | refine Gone.cons ?_ (by omega)), ⟨fun u h1 h2 => by rw [fd_HTW (by omega) (by omega), fd_HDc (by omega) (by omega) (by omega), fd_cons, if_neg (by omega)]; rfl, rfl, rfl⟩, rfl⟩
    subst hX
    refine vc_sound hE 60 _ _ _ 60 ?_
    (refine (?_ : chk _ _); refine chk_ok (show (decide ((0 : Int) ≤ (i : Int)) && decide ((i : Int) < (len : Int))) = true by simp only [Bool.and_eq_true, decide_eq_true_eq]; omega) ?_)
    (refine (?_ : chk _ _); refine chk_ok rfl ?_)
    (refine (?_ : chk _ _); refine chk_ok (Nat.ble_eq_true_of_le (show addI 0 ((i : Int)).toNat * 3 + 0 + 3 ≤ len * 3 by rw [nat0]; omega)) ?_)
    refine ⟨bT, bM, d, a, n, S, bR, d, a, dl Dp, dl Ap, eD, eA, cD, cA, z (addI 0 ((i : Int)).toNat) 0, z (addI 0 ((i : Int)).toNat) 1, p (addI 0 ((i : Int)).toNat) 2, rfl, ⟨rfl, rfl⟩, hB, ⟨rfl, rfl, rfl, hlD, hlA⟩, gS, hDl, hAl, fun td ta eD' eA' cD' cA' htd hta lD lA => ?_⟩
    rw [hD'] at lD ⊢
    rw [hA'] at lA ⊢
    rw [he]
    (refine (?_ : br _ _ _); refine br_f (by simp) ?_)
    have vD' := lD.here
    have vA' := lA.here
    refine ⟨((_, _, Dp', Ap'), (eD', eA', cD', cA')), ⟨Int.le_trans hn0 hn1, Int.le_trans hn2 (by omega), R', hd' hdl, ha' hal, lD, lA⟩, ?_⟩
    have v2 : live (HB bT bM d a (actT d a n S (z (addI 0 ((i : Int)).toNat) 0) (z (addI 0 ((i : Int)).toNat) 1) (p (addI 0 ((i : Int)).toNat) 2)).n (actT d a n S (z (addI 0 ((i : Int)).toNat) 0) (z (addI 0 ((i : Int)).toNat) 1) (p (addI 0 ((i : Int)).toNat) 2)).S bR d a (dl Dp') (dl Ap') eD' eA' cD' cA' [(100, .ro ub len 3 (gAct z p))]) 100 := trivial
    rcases htd with rfl | rfl <;> rcases hta with rfl | rfl
    · exact ⟨tau [], rfl, (by repeat' (first | exact rfl | exact trivial | assumption | refine ⟨?_, ?_⟩)), HB.wk rfl rfl rfl trivial rfl rfl rfl rfl rfl lD lA vD' vA' ⟨gMix_wk _ _, trivial⟩⟩
    · exact ⟨tau [(20, 22)], rfl, (by repeat' (first | exact rfl | exact trivial | assumption | refine ⟨?_, ?_⟩)), HB.wk rfl rfl rfl trivial rfl rfl rfl rfl rfl lD lA vD' vA' ⟨gMix_wk _ _, trivial⟩⟩
    · exact ⟨tau [(19, 21)], rfl, (by repeat' (first | exact rfl | exact trivial | assumption | refine ⟨?_, ?_⟩)), HB.wk rfl rfl rfl trivial rfl rfl rfl rfl rfl lD lA vD' vA' ⟨gMix_wk _ _, trivial⟩⟩
    · exact ⟨tau [(19, 21), (20, 22)], rfl, (by repeat' (first | exact rfl | exact trivial | assumption | refine ⟨?_, ?_⟩)), HB.wk rfl rfl rfl trivial rfl rfl rfl rfl rfl lD lA vD' vA' ⟨gMix_wk _ _, trivial⟩⟩
  clear v vD vA hlD hlA hal hdl R hB hDl hAl hSl hni hn0
  rintro ⟨⟨n', S', Dp', Ap'⟩, ⟨eD', eA', cD', cA'⟩⟩ ⟨hn0, hni, R, hdl, hal, hlD, hlA⟩
  have hn0 : 0 ≤ n' := hn0
  have hni : n' ≤ ((i + 1 : Nat) : Int) := hni
  have R : Rl n' S' Dp' Ap' := R
  have hdl : (Dp'.length : Int) ≤ d := hdl
  have hal : (Ap'.length : Int) ≤ a := hal
  have hlD : lstK R2 eD' (dl Dp') cD' := hlD
  have hlA : lstK R2 eA' (dl Ap') cA' := hlA
  show W _ _ _ (HB bT bM d a n' S' bR d a (dl Dp') (dl Ap') eD' eA' cD' cA' [(100, eX)]) _
  have hSl := R.len
  have hDl : (dl Dp').length ≤ 900 := by rw [dl_len]; omega
  have hAl : (dl Ap').length ≤ 900 := by rw [dl_len]; omega
  have vD := hlD.here
  have vA := hlA.here
  have v : live (HB bT bM d a n' S' bR d a (dl Dp') (dl Ap') eD' eA' cD' cA' [(100, eX)]) 100 := vX
  obtain ⟨G, hG⟩ : ∃ G, G = HB bT bM d a n' S' bR d a (dl Dp') (dl Ap') eD' eA' cD' cA' [(100, eX)] := ⟨_, rfl⟩
  have hcn := R.cnt
  rw [← hG]
  have wd : IntKind.i64.wrap (d - ((dl Dp').length : Int)) = d - (cntP false S' : Int) := by rw [hcn.1, dl_len]; simp only [IntKind.wrap_i64]; omega
  have wa : IntKind.i64.wrap (a - ((dl Ap').length : Int)) = a - (cntP true S' : Int) := by rw [hcn.2, dl_len]; simp only [IntKind.wrap_i64]; omega
  obtain ⟨tt, htt⟩ : ∃ tt, tt = z (addI 0 ((i : Int)).toNat) 1 := ⟨_, rfl⟩
  refine W_to (nx := 60) [(0, .int .i64 d), (1, .int .i64 a), (2, .slice 100 0 len cap), (7, .ptr 8 0 0), (9, .ptr 18 0 0), (10, .int .i64 (i : Int))] G 60 ?_ ?_
  rotate_left
  · subst hG
    refine vc_sound hE 60 _ _ _ 60 ?_
    exact ⟨len - (i + 1), _, _, by omega, ⟨i + 1, n', S', Dp', Ap', eD', eA', cD', cA', rfl, by omega, by omega, hn0, hni, R, hdl, hal, hlD, hlA, rfl, rfl⟩, tau [], rfl, ⟨⟨rfl, rfl⟩, ⟨rfl, rfl⟩, ⟨⟨rfl, v⟩, rfl, rfl, rfl⟩, ⟨⟨rfl, trivial⟩, rfl, rfl⟩, ⟨⟨rfl, trivial⟩, rfl, rfl⟩, ⟨rfl, hwi⟩, trivial⟩, HB.wk rfl rfl rfl trivial rfl rfl rfl rfl rfl hlD hlA vD vA ⟨wX _ _, trivial⟩⟩
  refine W_seq (nx := 60) ?_
  refine W_keep (nx := 60) [(0, .int .i64 d), (1, .int .i64 a), (2, .slice 100 0 len cap), (7, .ptr 8 0 0), (9, .ptr 18 0 0), (10, .int .i64 (i : Int)), (11, .int .i64 (d - cntP false S')), (12, .int .i64 (a - cntP true S'))] G 60 ?_ ?_
  · subst hG
    refine vc_sound hE 60 _ _ _ 60 ?_
    refine ⟨bT, bM, d, a, n', S', rfl, HTW.at.rd, by omega, by omega, by omega, ?_⟩
    exact ⟨rfl, rfl, rfl, rfl, rfl, rfl, rfl, rfl, rfl, trivial⟩
  refine W_seq (nx := 60) ?_
  refine W_keep (nx := 60) [(0, .int .i64 d), (1, .int .i64 a), (2, .slice 100 0 len cap), (7, .ptr 8 0 0), (9, .ptr 18 0 0), (10, .int .i64 (i : Int)), (11, .int .i64 (d - cntP false S')), (12, .int .i64 (a - cntP true S')), (13, .bool (getP S' tt).a), (14, .bool (getP S' tt).w), (15, .bool (hasP S' tt))] G 60 ?_ ?_
  · subst hG
    subst hX
    refine vc_sound hE 7 _ _ _ 60 ?_
    (refine (?_ : chk _ _); refine chk_ok (show (decide ((0 : Int) ≤ (i : Int)) && decide ((i : Int) < (len : Int))) = true by simp only [Bool.and_eq_true, decide_eq_true_eq]; omega) ?_)
    (refine (?_ : chk _ _); refine chk_ok rfl ?_)
    (refine (?_ : chk _ _); refine chk_ok (Nat.ble_eq_true_of_le (show addI 0 ((i : Int)).toNat * 3 + (0 + 1) + 1 ≤ len * 3 by rw [nat0]; omega)) ?_)
    refine W_sub (nx := 60) (nx' := 60) (σ' := [(0, .int .i64 d), (1, .int .i64 a), (2, .slice 100 0 len cap), (7, .ptr 8 0 0), (9, .ptr 18 0 0), (10, .int .i64 (i : Int)), (11, .int .i64 (d - cntP false S')), (12, .int .i64 (a - cntP true S')), (70, .ptr 8 0 0), (75, .int .i64 tt)]) ⟨rfl, rfl, rfl, rfl, rfl, rfl, rfl, rfl, rfl, (by rw [htt]; rfl), trivial⟩ ?_
    refine vc_sound hE 60 _ _ _ 60 ?_
    refine ⟨bT, bM, d, a, n', S', tt, rfl, HTW.at.rd, ?_⟩
    exact ⟨rfl, rfl, rfl, rfl, rfl, rfl, rfl, rfl, rfl, rfl, rfl, rfl, trivial⟩
  refine W_seq (nx := 60) ?_
  refine W_keep (nx := 60) [(0, .int .i64 d), (1, .int .i64 a), (2, .slice 100 0 len cap), (7, .ptr 8 0 0), (9, .ptr 18 0 0), (10, .int .i64 (i : Int)), (11, .int .i64 (d - cntP false S')), (12, .int .i64 (a - cntP true S')), (13, .bool (getP S' tt).a), (14, .bool (getP S' tt).w), (15, .bool (hasP S' tt)), (16, .bool (getP S' tt).a), (17, .bool (getP S' tt).w), (18, .bool (hasP S' tt))] G 60 ?_ ?_
  · subst hG
    subst hX
    have hst := R.st tt
    refine vc_sound hE 7 _ _ _ 60 ?_
    (refine (?_ : chk _ _); refine chk_ok (show (decide ((0 : Int) ≤ (i : Int)) && decide ((i : Int) < (len : Int))) = true by simp only [Bool.and_eq_true, decide_eq_true_eq]; omega) ?_)
    (refine (?_ : chk _ _); refine chk_ok rfl ?_)
    (refine (?_ : chk _ _); refine chk_ok (Nat.ble_eq_true_of_le (show addI 0 ((i : Int)).toNat * 3 + (0 + 1) + 1 ≤ len * 3 by rw [nat0]; omega)) ?_)
    refine W_sub (nx := 60) (nx' := 60) (σ' := [(0, .int .i64 d), (1, .int .i64 a), (2, .slice 100 0 len cap), (7, .ptr 8 0 0), (9, .ptr 18 0 0), (10, .int .i64 (i : Int)), (11, .int .i64 (d - cntP false S')), (12, .int .i64 (a - cntP true S')), (13, .bool (getP S' tt).a), (14, .bool (getP S' tt).w), (15, .bool (hasP S' tt)), (81, .ptr 18 0 0), (86, .int .i64 tt)]) ⟨rfl, rfl, rfl, rfl, rfl, rfl, rfl, rfl, rfl, rfl, rfl, rfl, (by rw [htt]; rfl), trivial⟩ ?_
    refine vc_sound hE 60 _ _ _ 60 ?_
    refine ⟨bR, d, a, dl Dp', dl Ap', eD', eA', cD', cA', tt, rfl, ⟨rfl, rfl, rfl, hlD, hlA⟩, by omega, by omega, ?_⟩
    rw [hst]
    exact ⟨rfl, rfl, rfl, rfl, rfl, rfl, rfl, rfl, rfl, rfl, rfl, rfl, rfl, rfl, rfl, trivial⟩
  generalize (getP S' tt).a = ba
  generalize (getP S' tt).w = bw
  generalize hasP S' tt = bh
  subst hG
  refine vc_sound hE 200 _ _ _ 60 ?_
  (refine (?_ : br _ _ _); refine br_f (by rw [wd]; simp) ?_)
  (refine (?_ : br _ _ _); refine br_f (by rw [wa]; simp) ?_)
  (refine (?_ : br _ _ _); refine br_f (by simp) ?_)
  (refine (?_ : br _ _ _); refine br_f (by simp) ?_)
  (refine (?_ : br _ _ _); refine br_f (by simp) ?_)
  refine ⟨bT, bM, d, a, n', S', wtI (dl Dp' ++ dl Ap'), rfl, HTW.at.rd, by omega, by rw [← dl_app]; exact R.waits, rfl, fun e1 c1 hl1 => ?_⟩
  refine ⟨bR, d, a, dl Dp', dl Ap', eD', eA', cD', cA', rfl, ⟨rfl, rfl, rfl, hlD, hlA⟩, by omega, by omega, rfl, fun e2 c2 hl2 => ?_⟩
  have hwl := wtI_len (dl Dp' ++ dl Ap')
  rw [List.length_append] at hwl
  refine ⟨_, _, wtI (dl Dp' ++ dl Ap'), wtI (dl Dp' ++ dl Ap'), rfl, hl1.rd rfl, hl2.rd rfl, by omega, by omega, ?_⟩
  (refine (?_ : br _ _ _); refine br_f (by simp) ?_)
  exact ⟨tau [], rfl, (by repeat' (first | exact rfl | exact trivial | assumption | refine ⟨?_, ?_⟩)), HB.wk rfl rfl rfl trivial rfl rfl rfl rfl rfl hlD hlA vD vA ⟨wX _ _, trivial⟩⟩
def sLaw5 : Spec := fun args h nx K => ∃ (ub : Option Addr) (len cap : Nat) (z : Nat → Nat → Int) (p : Nat → Nat → Bool) (d a : Int), args = [.int .i64 d, .int .i64 a, .slice 100 0 len cap] ∧ h = [(100, .ro ub len 3 (gMix ckA z p))] ∧ len ≤ 9223372036854775807 ∧ K (.ret (.bool true)) h nx
theorem gMix_flat {z : Nat → Nat → Int} {p : Nat → Nat → Bool} {i c : Nat} : flat (gMix ckA z p i c) := by
  match c with
  | 0 => trivial
  | 1 => trivial
  | c + 2 => trivial
theorem sLaw5_ok : SpecOK Try.prog 5 sLaw5 := by
  refine specOK_read (fn := Try.f5) rfl rfl rfl T_ok (SP := SP5) sp5 0 _ ?_
  rintro args h nx K ⟨ub, len, cap, z, p, d, a, rfl, rfl, hlen, hk⟩
  refine ⟨[(100, .ro ub len 3 (gMix ckA z p))], ⟨fun i c hi hc => by
    match c with
    | 0 => exact trivial
    | 1 => exact trivial
    | c + 2 => exact trivial, trivial⟩, ⟨⟨rfl, _, _, _, _, rfl⟩, trivial⟩, ⟨trivial, trivial, rfl, trivial⟩, by simp [Try.f5], fun o => o = .ret (.bool true), ?_, ?_⟩
  · rintro o rfl
    exact ⟨trivial, hk⟩
  · intro c hc
    obtain ⟨cd, h1, h2⟩ := plays_walk hc (d := d) (a := a) (ub := ub) (cap := cap) (z := z) (p := p) hlen
    cases h1
    exact h2
end Go.Proofs.Ytgcnknhfphgfnaa.Sx
