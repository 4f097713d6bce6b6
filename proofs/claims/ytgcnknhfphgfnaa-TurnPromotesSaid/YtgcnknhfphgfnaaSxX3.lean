import Derived.Test.YtgcnknhfphgfnaaSxX2
/-
  The walk of TurnKeeps.
-/
namespace Go.Proofs.Ytgcnknhfphgfnaa.Sx
open Go Go.Proofs
set_option maxRecDepth 100000
set_option linter.unusedSimpArgs false
set_option linter.unusedVariables false

theorem set_setL {α : Type} {l : List α} {i : Nat} {x y : α} (h : l[i]? = some x) : (l.set i y).set i x = l := by
  rw [List.set_set]
  obtain ⟨hi, rfl⟩ := List.getElem?_eq_some_iff.1 h
  exact List.set_getElem_self hi
theorem Rl.flen {n : Int} {S Dp Ap : List Pl} (R : Rl n S Dp Ap) : (S.filter (·.w)).length = (wtP Dp Ap).length := ((R.perm.filter _).length_eq).symm
/-- A started place and the same place again. -/
theorem Rl.keeps {n : Int} {S Dp Ap : List Pl} (R : Rl n S Dp Ap) {i : Nat} {x : Pl} (hx : (wtP Dp Ap)[i]? = some x) :
    ∃ S1 D1 A1, waitR n S x.t false = ⟨0, n, S1⟩ ∧ Rl n S1 D1 A1 ∧ (wtP D1 A1).length + 1 = (wtP Dp Ap).length ∧ S1.length = S.length ∧ ∃ S2, waitR n S1 x.t true = ⟨0, n, S2⟩ ∧ Rl n S2 Dp Ap ∧ S2.length = S.length := by
  obtain ⟨hm, hw⟩ := R.wtP_mem hx
  have hmem := (List.mem_filter.1 (List.mem_of_getElem? hx)).1
  obtain ⟨q, hq⟩ : ∃ q, q = ({ x with w := false } : Pl) := ⟨_, rfl⟩
  have qt : q.t = x.t := by rw [hq]
  have qa : q.a = x.a := by rw [hq]
  have qn : q.n = x.n := by rw [hq]
  have qw : q.w = false := by rw [hq]
  have e1 : waitR n S x.t false = ⟨0, n, setP S q⟩ := by
    unfold waitR
    rw [if_pos (hasP_iff.2 ⟨x, hm, rfl⟩), R.get hm, if_neg (by rw [hw]; decide), hq]
  obtain ⟨rest, p1, p2, _⟩ := R.sets hm qt
  obtain ⟨D1, A1, R1, hback⟩ : ∃ D1 A1, Rl n (setP S q) D1 A1 ∧ (Rl n (setP (setP S q) x) Dp Ap) := by
    rcases List.mem_append.1 hmem with h | h
    · obtain ⟨j, hj⟩ := List.getElem?_of_mem h
      have R1 := (R.repl (i := j) qt qa qn).1 hj
      have hj1 : (Dp.set j q)[j]? = some q := by rw [List.getElem?_set_self (List.getElem?_eq_some_iff.1 hj).1]
      have R2 := (R1.repl (i := j) (p := q) (q := x) qt.symm qa.symm qn.symm).1 hj1
      rw [set_setL hj] at R2
      exact ⟨_, _, R1, R2⟩
    · obtain ⟨j, hj⟩ := List.getElem?_of_mem h
      have R1 := (R.repl (i := j) qt qa qn).2 hj
      have hj1 : (Ap.set j q)[j]? = some q := by rw [List.getElem?_set_self (List.getElem?_eq_some_iff.1 hj).1]
      have R2 := (R1.repl (i := j) (p := q) (q := x) qt.symm qa.symm qn.symm).2 hj1
      rw [set_setL hj] at R2
      exact ⟨_, _, R1, R2⟩
  have hqm : q ∈ setP S q := p2.mem_iff.2 (by simp)
  refine ⟨setP S q, D1, A1, e1, R1, ?_, ?_, setP (setP S q) x, ?_, hback, ?_⟩
  · rw [← R1.flen, ← R.flen, (p2.filter _).length_eq, (p1.filter _).length_eq, List.filter_cons, List.filter_cons, if_neg (by simp [qw]), if_pos hw, List.length_cons]
  · rw [p1.length_eq, p2.length_eq]; rfl
  · unfold waitR
    have hg : getP (setP S q) x.t = q := by rw [← qt]; exact R1.get hqm
    rw [if_pos (hasP_iff.2 ⟨q, hqm, qt⟩), hg, if_neg (by rw [qw]; decide)]
    have : ({ q with t := x.t, w := true } : Pl) = x := by rw [hq]; cases x; simp at hw; simp [hw]
    rw [this]
  · rw [← R.perm.length_eq, ← hback.perm.length_eq]
def SP3 : SpT := [(8, sAwake), (9, sNew), (11, sRNew), (10, sStep), (12, sFree), (13, sWaiting), (14, sStart), (15, sAgain), (16, sInts)]
theorem sp3 : ∀ p ∈ SP3, SpecOK Try.prog p.1 p.2 := consSP sAwake_ok (consSP sNew_ok (consSP sRNew_ok (consSP sStep_ok (consSP sFree_ok (consSP sWaiting_ok (consSP sStart_ok (consSP sAgain_ok (consSP sInts_ok noSP))))))))
theorem keeps_walk {c : Cx} (hc : c.P = Try.prog) {ub : Option Addr} {len cap : Nat} {z : Nat → Nat → Int} {p : Nat → Nat → Bool} {wh : Int} (hlen : len ≤ 9223372036854775807) (hw0 : 0 ≤ wh) (hw1 : wh < 256) :
    ∃ cd, Try.f3.body = some cd ∧ W ⟨c, Try.f3, T, SP3, fun o _ _ => o = .ret (.bool true)⟩ [.code cd] (argsS [.slice 100 0 len cap, .int .u8 wh] 0) [(100, .ro ub len 3 (gMix ckA z p))] 0 := by
  refine ⟨_, rfl, ?_⟩
  have hE := mkE' (fn := Try.f3) (R := fun o _ _ => o = .ret (.bool true)) hc sp3
  refine W_weak (nx' := 30) (σ' := argsS [.slice 100 0 len cap, .int .u8 wh] 0) (h' := [(100, .ro ub len 3 (gAct z p))]) (tau []) ⟨rfl, (by repeat' (first | exact rfl | exact trivial | assumption | refine ⟨?_, ?_⟩)), gMix_act _ _, trivial⟩ ?_
  obtain ⟨eX, hX⟩ : ∃ eX : Ent, eX = .ro ub len 3 (gAct z p) := ⟨_, rfl⟩
  have wX : ∀ τ h', wkE τ h' eX eX := fun τ h' => by rw [hX]; exact gMix_wk _ _
  rw [← hX]
  have vX : eX.here := by rw [hX]; trivial
  have g100 : Gone 60 [(100, eX)] := Gone.cons gone_nil (by omega)
  have v0 : ∀ bT bM n S, live (HTW bT bM 20 20 n S [(100, eX)]) 100 := fun _ _ _ _ => vX
  have hwk : ∀ {bT bM n S}, wkH (tau []) (HTW bT bM 20 20 n S [(100, eX)]) (HTW bT bM 20 20 n S [(100, eX)]) (HTW bT bM 20 20 n S [(100, eX)]) := HTW.wk (rest := [(100, eX)]) rfl rfl rfl trivial ⟨wX _ _, trivial⟩
  refine W_seq (nx := 30) ?_
  refine W_keep (nx := 30) [(0, .slice 100 0 len cap), (1, .int .u8 wh)] [(100, eX)] 30 ?_ ?_
  · refine vc_sound hE 20 _ _ _ 30 ?_
    exact ⟨rfl, rfl, rfl, trivial⟩
  refine W_seq (nx := 30) ?_
  refine W_keep (nx := 30) [(0, .slice 100 0 len cap), (1, .int .u8 wh)] [(100, eX)] 30 ?_ ?_
  · refine vc_sound hE 40 _ _ _ 30 ?_
    refine ⟨rfl, ?_⟩
    exact ⟨rfl, rfl, rfl, trivial⟩
  refine W_seq (nx := 30) ?_
  refine W_some (nx := 30) (fun _ : Nat × Nat => True) (fun _ => [(0, .slice 100 0 len cap), (1, .int .u8 wh), (5, .ptr 8 0 0)]) (fun b => HTW b.1 b.2 20 20 0 [] [(100, eX)]) 30 ?_ ?_
  · refine vc_sound hE 40 _ _ _ 30 ?_
    refine ⟨20, 20, rfl, g100, fun q => absurd (by unfold mayI; omega) q, fun _ => ⟨⟨rfl, rfl⟩, fun bT bM => ?_⟩⟩
    exact ⟨(bT, bM), trivial, rfl, rfl, rfl, rfl, trivial⟩
  rintro ⟨bT, bM⟩ _
  refine W_seq (nx := 30) ?_
  refine W_keep (nx := 30) [(0, .slice 100 0 len cap), (1, .int .u8 wh), (5, .ptr 8 0 0)] (HTW bT bM 20 20 0 [] [(100, eX)]) 30 ?_ ?_
  · refine vc_sound hE 60 _ _ _ 30 ?_
    exact ⟨rfl, rfl, rfl, rfl, trivial⟩
  refine W_seq (nx := 30) ?_
  refine W_piece (nx := 30) (fun σ1 h1 _ => ∃ (n : Int) (S Dp Ap : List Pl), 0 ≤ n ∧ n ≤ 150 ∧ Rl n S Dp Ap ∧ (Dp.length : Int) ≤ 20 ∧ (Ap.length : Int) ≤ 20 ∧ h1 = HTW bT bM 20 20 n S [(100, eX)] ∧ subS σ1 [(0, .slice 100 0 len cap), (1, .int .u8 wh), (5, .ptr 8 0 0)]) ?_ ?_
  · refine vc_sound hE 5 _ _ _ 30 ?_
    have v00 := v0 bT bM 0 []
    refine W_loop (fun q σ h => ∃ (i : Nat) (n : Int) (S Dp Ap : List Pl), q = len - i ∧ i ≤ len ∧ i ≤ 150 ∧ 0 ≤ n ∧ n ≤ (i : Int) ∧ Rl n S Dp Ap ∧ (Dp.length : Int) ≤ 20 ∧ (Ap.length : Int) ≤ 20 ∧ σ = [(0, .slice 100 0 len cap), (1, .int .u8 wh), (5, .ptr 8 0 0), (7, .int .i64 (i : Int))] ∧ h = HTW bT bM 20 20 n S [(100, eX)])
      len ⟨0, 0, [], [], [], rfl, by omega, by omega, by omega, by omega, Rl.nil, by simp, by simp, rfl, rfl⟩ (tau []) ⟨rfl, (by repeat' (first | exact rfl | exact trivial | assumption | refine ⟨?_, ?_⟩)), hwk⟩ 60 ?_
    clear v00
    rintro q σ h1 ⟨i, n, S, Dp, Ap, rfl, hi, hi150, hn0, hni, R, hdl, hal, rfl, rfl⟩
    have hSl := R.len
    have hB : Bnd 20 20 n S := ⟨by omega, by omega, by omega, by omega⟩
    have v := v0 bT bM n S
    refine W_seq (nx := 60) ?_
    refine W_piece (nx := 60) (fun σ1 h1 _ => (i < len ∧ i < 150) ∧ h1 = HTW bT bM 20 20 n S [(100, eX)] ∧ subS σ1 [(0, .slice 100 0 len cap), (1, .int .u8 wh), (5, .ptr 8 0 0), (7, .int .i64 (i : Int))]) ?_ ?_
    · refine vc_sound hE 60 _ _ _ 60 ?_
      (refine (?_ : br _ _ _); refine br_dec (fun q => ?_) (fun q => ?_))
      · have q1 : (i : Int) < (len : Int) := q
        (refine (?_ : br _ _ _); refine br_dec (fun q => ?_) (fun q => ?_))
        · have q2 : (i : Int) < 150 := by assumption
          exact ⟨⟨by omega, by omega⟩, rfl, rfl, rfl, rfl, rfl, trivial⟩
        · exact ⟨n, S, Dp, Ap, hn0, by omega, R, hdl, hal, rfl, rfl, rfl, rfl, trivial⟩
      · exact ⟨n, S, Dp, Ap, hn0, by omega, R, hdl, hal, rfl, rfl, rfl, rfl, trivial⟩
    rintro σ1 h1 _ ⟨⟨hil, hi3⟩, rfl, hs⟩
    refine W_sub (nx' := 60) hs ?_
    clear hs
    have hwi : IntKind.i64.wrap ((i : Int) + 1) = ((i + 1 : Nat) : Int) := by simp only [IntKind.wrap_i64]; omega
    refine vc_sound hE 2 _ _ _ 60 ?_
    refine W_seq (nx := 60) ?_
    refine W_ex (nx := 60) (fun (x : Int × List Pl × List Pl × List Pl) => 0 ≤ x.1 ∧ x.1 ≤ ((i + 1 : Nat) : Int) ∧ Rl x.1 x.2.1 x.2.2.1 x.2.2.2 ∧ (x.2.2.1.length : Int) ≤ 20 ∧ (x.2.2.2.length : Int) ≤ 20) (fun _ => [(0, .slice 100 0 len cap), (1, .int .u8 wh), (5, .ptr 8 0 0), (7, .int .i64 (i : Int))]) (fun x => HTW bT bM 20 20 x.1 x.2.1 [(100, eX)]) 60 ?_ ?_
    · obtain ⟨Dp', Ap', R', he, hD', hA', hn1, hn2, hd', ha'⟩ := R.act 20 20 (z (addI 0 ((i : Int)).toNat) 0) (z (addI 0 ((i : Int)).toNat) 1) (p (addI 0 ((i : Int)).toNat) 2)
      subst hX
      have gS : ∀ b, GoneS (HDc b 1 1 19 20 [] [] noE noE 0 0 (HTW bT bM 20 20 n S [(100, .ro ub len 3 (gAct z p))])) := fun b => ⟨by repeat' (first | exact gone_nil | refine Gone.cons ?_ (by omega)), ⟨fun u h1 h2 => by rw [fd_HDc (by omega) (by omega) (by omega), fd_HTW (by omega) (by omega), fd_cons, if_neg (by omega)]; rfl, rfl, rfl⟩, rfl⟩
      refine vc_sound hE 1 _ _ _ 60 ?_
      refine W_planw hE 60 [1, 6] (.take 0 (.take 2 (.take 3 (.all (.cons 1 (.all (.cons 4 (.all (.cons 5 (.all (.cons 6 (.done) (.nil))) (.nil))) (.nil))) (.cons 4 (.all (.cons 1 (.all (.cons 5 (.all (.cons 6 (.done) (.nil))) (.nil))) (.cons 5 (.all (.cons 1 (.all (.cons 6 (.done) (.nil))) (.nil))) (.nil)))) (.nil))))))) (by rw [hc]; exact mix) (by kernel_rfl) 31 ?_
      iterate 3 (refine ⟨_, ⟨rfl, rfl⟩, ?_⟩)
      refine putS_some rfl ?_
      refine ⟨⟨trivial, ?_⟩, ⟨(show chk _ _ from chk_ok (show (decide ((0 : Int) ≤ (i : Int)) && decide ((i : Int) < (len : Int))) = true by simp only [Bool.and_eq_true, decide_eq_true_eq]; omega) (show chk _ _ from chk_ok rfl trivial)), ?_⟩, trivial⟩
      · refine ⟨1, 1, rfl, rfl, rfl, rfl, rfl, fun b => ?_⟩
        refine putS_some rfl ?_
        refine ⟨⟨(show chk _ _ from chk_ok (show (decide ((0 : Int) ≤ (i : Int)) && decide ((i : Int) < (len : Int))) = true by simp only [Bool.and_eq_true, decide_eq_true_eq]; omega) (show chk _ _ from chk_ok rfl trivial)), ?_⟩, trivial⟩
        (refine (?_ : chk _ _); refine chk_ok (show (decide ((0 : Int) ≤ (i : Int)) && decide ((i : Int) < (len : Int))) = true by simp only [Bool.and_eq_true, decide_eq_true_eq]; omega) ?_)
        (refine (?_ : chk _ _); refine chk_ok rfl ?_)
        refine ⟨⟨(show chk _ _ from chk_ok (Nat.ble_eq_true_of_le (show addI 0 ((i : Int)).toNat * 3 + 0 + 3 ≤ len * 3 by rw [nat0]; omega)) trivial), ?_⟩, trivial⟩
        (refine (?_ : chk _ _); refine chk_ok (Nat.ble_eq_true_of_le (show addI 0 ((i : Int)).toNat * 3 + 0 + 3 ≤ len * 3 by rw [nat0]; omega)) ?_)
        refine ⟨⟨trivial, ⟨bT, bM, 20, 20, n, S, b, 1, 1, [], [], noE, noE, 0, 0, z (addI 0 ((i : Int)).toNat) 0, z (addI 0 ((i : Int)).toNat) 1, p (addI 0 ((i : Int)).toNat) 2, rfl, ⟨rfl, rfl⟩, hB, ⟨rfl, rfl, rfl, noE_lst, noE_lst⟩, gS b, by simp, by simp, fun td ta eD' eA' cD' cA' htd hta lD lA => ?_⟩⟩, trivial⟩
        rcases htd with rfl | rfl <;> rcases hta with rfl | rfl <;> exact ⟨(_, _, Dp', Ap'), ⟨Int.le_trans hn0 hn1, Int.le_trans hn2 (by omega), R', hd' hdl, ha' hal⟩, tau [], rfl, (by repeat' (first | exact rfl | exact trivial | assumption | refine ⟨?_, ?_⟩)), HTW.wk (rest := [(100, .ro ub len 3 (gAct z p))]) rfl rfl rfl trivial ⟨gMix_wk _ _, trivial⟩⟩
      · (refine (?_ : chk _ _); refine chk_ok (show (decide ((0 : Int) ≤ (i : Int)) && decide ((i : Int) < (len : Int))) = true by simp only [Bool.and_eq_true, decide_eq_true_eq]; omega) ?_)
        (refine (?_ : chk _ _); refine chk_ok rfl ?_)
        refine ⟨⟨trivial, ?_⟩, ⟨(show chk _ _ from chk_ok (Nat.ble_eq_true_of_le (show addI 0 ((i : Int)).toNat * 3 + 0 + 3 ≤ len * 3 by rw [nat0]; omega)) trivial), ?_⟩, trivial⟩
        · refine ⟨1, 1, rfl, rfl, rfl, rfl, rfl, fun b => ?_⟩
          refine putS_some rfl ?_
          refine ⟨⟨(show chk _ _ from chk_ok (Nat.ble_eq_true_of_le (show addI 0 ((i : Int)).toNat * 3 + 0 + 3 ≤ len * 3 by rw [nat0]; omega)) trivial), ?_⟩, trivial⟩
          (refine (?_ : chk _ _); refine chk_ok (Nat.ble_eq_true_of_le (show addI 0 ((i : Int)).toNat * 3 + 0 + 3 ≤ len * 3 by rw [nat0]; omega)) ?_)
          refine ⟨⟨trivial, ⟨bT, bM, 20, 20, n, S, b, 1, 1, [], [], noE, noE, 0, 0, z (addI 0 ((i : Int)).toNat) 0, z (addI 0 ((i : Int)).toNat) 1, p (addI 0 ((i : Int)).toNat) 2, rfl, ⟨rfl, rfl⟩, hB, ⟨rfl, rfl, rfl, noE_lst, noE_lst⟩, gS b, by simp, by simp, fun td ta eD' eA' cD' cA' htd hta lD lA => ?_⟩⟩, trivial⟩
          rcases htd with rfl | rfl <;> rcases hta with rfl | rfl <;> exact ⟨(_, _, Dp', Ap'), ⟨Int.le_trans hn0 hn1, Int.le_trans hn2 (by omega), R', hd' hdl, ha' hal⟩, tau [], rfl, (by repeat' (first | exact rfl | exact trivial | assumption | refine ⟨?_, ?_⟩)), HTW.wk (rest := [(100, .ro ub len 3 (gAct z p))]) rfl rfl rfl trivial ⟨gMix_wk _ _, trivial⟩⟩
        · (refine (?_ : chk _ _); refine chk_ok (Nat.ble_eq_true_of_le (show addI 0 ((i : Int)).toNat * 3 + 0 + 3 ≤ len * 3 by rw [nat0]; omega)) ?_)
          refine ⟨⟨trivial, ?_⟩, trivial⟩
          refine ⟨1, 1, rfl, rfl, rfl, rfl, rfl, fun b => ?_⟩
          refine putS_some rfl ?_
          refine ⟨⟨trivial, ⟨bT, bM, 20, 20, n, S, b, 1, 1, [], [], noE, noE, 0, 0, z (addI 0 ((i : Int)).toNat) 0, z (addI 0 ((i : Int)).toNat) 1, p (addI 0 ((i : Int)).toNat) 2, rfl, ⟨rfl, rfl⟩, hB, ⟨rfl, rfl, rfl, noE_lst, noE_lst⟩, gS b, by simp, by simp, fun td ta eD' eA' cD' cA' htd hta lD lA => ?_⟩⟩, trivial⟩
          rcases htd with rfl | rfl <;> rcases hta with rfl | rfl <;> exact ⟨(_, _, Dp', Ap'), ⟨Int.le_trans hn0 hn1, Int.le_trans hn2 (by omega), R', hd' hdl, ha' hal⟩, tau [], rfl, (by repeat' (first | exact rfl | exact trivial | assumption | refine ⟨?_, ?_⟩)), HTW.wk (rest := [(100, .ro ub len 3 (gAct z p))]) rfl rfl rfl trivial ⟨gMix_wk _ _, trivial⟩⟩
    clear v R hB hSl hdl hal hni hn0
    rintro ⟨n', S', Dp', Ap'⟩ ⟨hn0, hni, R, hdl, hal⟩
    have hn0 : 0 ≤ n' := hn0
    have hni : n' ≤ ((i + 1 : Nat) : Int) := hni
    have R : Rl n' S' Dp' Ap' := R
    have hdl : (Dp'.length : Int) ≤ 20 := hdl
    have hal : (Ap'.length : Int) ≤ 20 := hal
    show W _ _ _ (HTW bT bM 20 20 n' S' [(100, eX)]) _
    have hSl := R.len
    have hcn := R.cnt
    have hwt := wtI_len (dl Dp' ++ dl Ap')
    rw [List.length_append, dl_len, dl_len] at hwt
    have v := v0 bT bM n' S'
    refine W_to (nx := 60) [(0, .slice 100 0 len cap), (1, .int .u8 wh), (5, .ptr 8 0 0), (7, .int .i64 (i : Int))] (HTW bT bM 20 20 n' S' [(100, eX)]) 60 ?_ ?_
    rotate_left
    · refine vc_sound hE 60 _ _ _ 60 ?_
      exact ⟨len - (i + 1), _, _, by omega, ⟨i + 1, n', S', Dp', Ap', rfl, by omega, by omega, hn0, hni, R, hdl, hal, rfl, rfl⟩, tau [], rfl, ⟨⟨⟨rfl, v⟩, rfl, rfl, rfl⟩, ⟨rfl, rfl⟩, ⟨⟨rfl, trivial⟩, rfl, rfl⟩, ⟨rfl, hwi⟩, trivial⟩, hwk⟩
    refine W_seq (nx := 60) ?_
    refine W_keep (nx := 60) [(0, .slice 100 0 len cap), (1, .int .u8 wh), (5, .ptr 8 0 0), (7, .int .i64 (i : Int)), (8, .int .i64 (20 - cntP false S')), (9, .int .i64 (20 - cntP true S'))] (HTW bT bM 20 20 n' S' [(100, eX)]) 60 ?_ ?_
    · refine vc_sound hE 60 _ _ _ 60 ?_
      refine ⟨bT, bM, 20, 20, n', S', rfl, HTW.at.rd, by omega, by omega, by omega, ?_⟩
      exact ⟨rfl, rfl, rfl, rfl, rfl, rfl, rfl, trivial⟩
    rw [hcn.1, hcn.2]
    have w1 : IntKind.i64.wrap (40 - (20 - (Dp'.length : Int))) = 20 + (Dp'.length : Int) := by simp only [IntKind.wrap_i64]; omega
    have w2 : IntKind.i64.wrap (20 + (Dp'.length : Int) - (20 - (Ap'.length : Int))) = (Dp'.length : Int) + (Ap'.length : Int) := by simp only [IntKind.wrap_i64]; omega
    refine vc_sound hE 60 _ _ _ 60 ?_
    (refine (?_ : br _ _ _); refine br_f (by simp; omega) ?_)
    (refine (?_ : br _ _ _); refine br_f (by simp; omega) ?_)
    (refine (?_ : br _ _ _); refine br_f (by simp; omega) ?_)
    (refine (?_ : br _ _ _); refine br_f (by simp; omega) ?_)
    refine ⟨bT, bM, 20, 20, n', S', wtI (dl Dp' ++ dl Ap'), rfl, HTW.at.rd, by omega, by rw [← dl_app]; exact R.waits, rfl, fun e1 c1 hl1 => ?_⟩
    (refine (?_ : br _ _ _); refine br_f (by rw [w1, w2]; simp; omega) ?_)
    exact ⟨tau [], rfl, (by repeat' (first | exact rfl | exact trivial | assumption | refine ⟨?_, ?_⟩)), HTW.wk (rest := [(100, eX)]) rfl rfl rfl trivial ⟨wX _ _, trivial⟩⟩
  rintro σ1 h1 _ ⟨n, S, Dp, Ap, hn0, hni, R, hdl, hal, rfl, hs⟩
  refine W_sub (nx' := 200) hs ?_
  clear hs
  have hSl := R.len
  have hB : Bnd 20 20 n S := ⟨by omega, by omega, by omega, by omega⟩
  obtain ⟨L, hL⟩ : ∃ L, L = wtP Dp Ap := ⟨_, rfl⟩
  obtain ⟨l, hl⟩ : ∃ l, l = L.map (·.t) := ⟨_, rfl⟩
  have hOne : OneW S l := by rw [hl, hL, ← wtP_t]; exact R.waits
  have hlL : l.length = L.length := by rw [hl, List.length_map]
  have hLS : L.length ≤ S.length := by
    rw [hL, hSl, ← List.length_append]; exact List.length_filter_le _ _
  refine W_seq (nx := 200) ?_
  refine W_some (nx := 200) (fun (x : Ent × Nat) => lstE x.1 l x.2) (fun x => [(0, .slice 100 0 len cap), (1, .int .u8 wh), (5, .ptr 8 0 0), (10, .slice 200 0 l.length x.2)]) (fun x => (200, x.1) :: HTW bT bM 20 20 n S [(100, eX)]) 300 ?_ ?_
  · refine vc_sound hE 40 _ _ _ 200 ?_
    refine ⟨bT, bM, 20, 20, n, S, l, rfl, HTW.at.rd, by omega, hOne, rfl, fun e cl hle => ?_⟩
    exact ⟨(e, cl), hle, rfl, rfl, rfl, rfl, rfl, trivial⟩
  rintro ⟨e, cl⟩ hle
  have hle : lstE e l cl := hle
  have ve := lst_live hle
  refine W_seq (nx := 300) ?_
  by_cases h0 : l.length = 0
  · refine W_piece (nx := 300) (fun _ _ _ => False) ?_ (fun _ _ _ q => q.elim)
    refine vc_sound hE 60 _ _ _ 300 ?_
    (refine (?_ : br _ _ _); refine br_t (by simp [h0]) ?_)
    rfl
  refine W_keep (nx := 300) [(0, .slice 100 0 len cap), (1, .int .u8 wh), (5, .ptr 8 0 0), (10, .slice 200 0 l.length cl)] ((200, e) :: HTW bT bM 20 20 n S [(100, eX)]) 300 ?_ ?_
  · refine vc_sound hE 60 _ _ _ 300 ?_
    (refine (?_ : br _ _ _); refine br_f (by simp; simpa using h0) ?_)
    exact ⟨rfl, rfl, rfl, rfl, rfl, trivial⟩
  have wr : Int.tmod (IntKind.i64.wrap wh) (l.length : Int) = ((wh.toNat % l.length : Nat) : Int) := by
    rw [show IntKind.i64.wrap wh = wh by simp only [IntKind.wrap_i64]; omega, Int.tmod_eq_emod_of_nonneg hw0, Int.natCast_emod, Int.toNat_of_nonneg hw0]
  obtain ⟨k, hk⟩ : ∃ k, k = wh.toNat % l.length := ⟨_, rfl⟩
  have hkl : k < l.length := by rw [hk]; exact Nat.mod_lt _ (by omega)
  rw [← hk] at wr
  obtain ⟨x, hx⟩ : ∃ x, L[k]? = some x := ⟨_, List.getElem?_eq_getElem (by omega)⟩
  have hlk : l.getD k 0 = x.t := by rw [hl, List.getD_eq_getElem?_getD, List.getElem?_map, hx]; rfl
  refine W_seq (nx := 300) ?_
  refine W_keep (nx := 300) [(0, .slice 100 0 len cap), (1, .int .u8 wh), (5, .ptr 8 0 0), (10, .slice 200 0 l.length cl), (11, .int .i64 x.t)] ((200, e) :: HTW bT bM 20 20 n S [(100, eX)]) 300 ?_ ?_
  · rcases hle with ⟨hl0, _, _⟩ | ⟨be, g, ty, rfl, f1, f2, f3, f4⟩
    · rw [hl0] at h0; simp at h0
    refine vc_sound hE 9 _ _ _ 300 ?_
    (refine (?_ : chk _ _); refine chk_ok (show (!(decide ((l.length : Int) = 0))) = true by rw [decide_eq_false (by omega)]; rfl) ?_)
    (refine (?_ : chk _ _); refine chk_ok (show (decide ((0 : Int) ≤ Int.tmod (IntKind.i64.wrap wh) (l.length : Int)) && decide (Int.tmod (IntKind.i64.wrap wh) (l.length : Int) < (l.length : Int))) = true by rw [wr]; simp only [Bool.and_eq_true, decide_eq_true_eq]; omega) ?_)
    (refine (?_ : chk _ _); refine chk_ok rfl ?_)
    have e9 : addI 0 (Int.tmod (IntKind.i64.wrap wh) (l.length : Int)).toNat = k := by rw [wr, Int.toNat_natCast, addI_eq, Nat.zero_add]
    (refine (?_ : chk _ _); refine chk_ok (Nat.ble_eq_true_of_le (show addI 0 (Int.tmod (IntKind.i64.wrap wh) (l.length : Int)).toNat * 1 + 0 + 1 ≤ cl * 1 by rw [e9]; omega)) ?_)
    (refine (?_ : chk _ _); refine chk_ok rfl ?_)
    have hval : g (addI 0 (Int.tmod (IntKind.i64.wrap wh) (l.length : Int)).toNat) 0 = .int .i64 x.t := by rw [e9, f3 k (by omega), hlk]
    refine (force_eq _ _).mpr ?_
    refine putS_some (by rfl) ?_
    refine W_sub (nx := 300) (nx' := 300) (σ' := [(0, .slice 100 0 len cap), (1, .int .u8 wh), (5, .ptr 8 0 0), (10, .slice 200 0 l.length cl), (81, .int .i64 x.t)]) ⟨rfl, rfl, rfl, rfl, ?_, trivial⟩ ?_
    · show some (g (addI 0 (Int.tmod (IntKind.i64.wrap wh) (l.length : Int)).toNat) 0) = _
      rw [hval]
    refine vc_sound hE 60 _ _ _ 300 ?_
    exact ⟨rfl, rfl, rfl, rfl, rfl, rfl, trivial⟩
  obtain ⟨S1, D1, A1, q1, R1, hl1, hS1, S2, q2, R2, hS2⟩ := R.keeps (hL ▸ hx)
  have hOne1 : OneW S1 ((wtP D1 A1).map (·.t)) := by rw [← wtP_t]; exact R1.waits
  have hOne2 : OneW S2 l := by rw [hl, hL, ← wtP_t]; exact R2.waits
  refine W_seq (nx := 300) ?_
  refine W_to (nx := 300) [(0, .slice 100 0 len cap), (1, .int .u8 wh), (5, .ptr 8 0 0), (10, .slice 200 0 l.length cl), (11, .int .i64 x.t), (12, .int .i64 0)] ((200, e) :: HTW bT bM 20 20 n S1 [(100, eX)]) 300 ?_ ?_
  · refine vc_sound hE 60 _ _ _ 300 ?_
    refine ⟨bT, bM, 20, 20, n, S, x.t, rfl, ⟨rfl, rfl⟩, hB, by repeat' (first | exact gone_nil | refine Gone.cons ?_ (by omega)), ?_⟩
    rw [q1]
    exact ⟨tau [], rfl, (by repeat' (first | exact rfl | exact trivial | assumption | refine ⟨?_, ?_⟩)), ⟨lst_wk hle _ _, HTW.wk (rest := [(100, eX)]) rfl rfl rfl trivial ⟨wX _ _, trivial⟩⟩⟩
  obtain ⟨l1, hl1'⟩ : ∃ l1, l1 = (wtP D1 A1).map (·.t) := ⟨_, rfl⟩
  have hll : l1.length + 1 = l.length := by rw [hl1', List.length_map, hlL, hL]; exact hl1
  rw [← hl1'] at hOne1
  have hB1 : Bnd 20 20 n S1 := ⟨by omega, by omega, by omega, by omega⟩
  refine W_seq (nx := 300) ?_
  refine W_some (nx := 300) (fun (x : Ent × Nat) => lstE x.1 l1 x.2) (fun x2 => [(0, .slice 100 0 len cap), (1, .int .u8 wh), (5, .ptr 8 0 0), (10, .slice 200 0 l.length cl), (11, .int .i64 x.t), (12, .int .i64 0), (13, .slice 300 0 l1.length x2.2)]) (fun x => (300, x.1) :: (200, e) :: HTW bT bM 20 20 n S1 [(100, eX)]) 400 ?_ ?_
  · refine vc_sound hE 60 _ _ _ 300 ?_
    refine ⟨bT, bM, 20, 20, n, S1, l1, rfl, ⟨rfl, rfl⟩, by omega, hOne1, rfl, fun e1 c1 hle1 => ?_⟩
    exact ⟨(e1, c1), hle1, rfl, rfl, rfl, rfl, rfl, rfl, rfl, rfl, trivial⟩
  rintro ⟨e1, c1⟩ hle1
  have hle1 : lstE e1 l1 c1 := hle1
  have ve1 := lst_live hle1
  refine W_seq (nx := 400) ?_
  refine W_to (nx := 400) [(0, .slice 100 0 len cap), (1, .int .u8 wh), (5, .ptr 8 0 0), (10, .slice 200 0 l.length cl), (11, .int .i64 x.t), (12, .int .i64 0), (13, .slice 300 0 l1.length c1), (14, .int .i64 0)] ((300, e1) :: (200, e) :: HTW bT bM 20 20 n S2 [(100, eX)]) 400 ?_ ?_
  · refine vc_sound hE 60 _ _ _ 400 ?_
    refine ⟨bT, bM, 20, 20, n, S1, x.t, rfl, ⟨rfl, rfl⟩, hB1, by repeat' (first | exact gone_nil | refine Gone.cons ?_ (by omega)), ?_⟩
    rw [q2]
    exact ⟨tau [], rfl, (by repeat' (first | exact rfl | exact trivial | assumption | refine ⟨?_, ?_⟩)), ⟨lst_wk hle1 _ _, lst_wk hle _ _, HTW.wk (rest := [(100, eX)]) rfl rfl rfl trivial ⟨wX _ _, trivial⟩⟩⟩
  have wl : IntKind.i64.wrap ((l.length : Int) - 1) = (l1.length : Int) := by simp only [IntKind.wrap_i64]; omega
  refine vc_sound hE 60 _ _ _ 400 ?_
  (refine (?_ : br _ _ _); refine br_t (by rw [wl]; simp) ?_)
  refine ⟨bT, bM, 20, 20, n, S2, l, rfl, ⟨rfl, rfl⟩, by omega, hOne2, rfl, fun e2 c2 hle2 => ?_⟩
  refine ⟨_, _, l, l, rfl, hle2.rd rfl, hle.rd rfl, by omega, by omega, ?_⟩
  show Out.ret (.bool (decide (l = l))) = _
  simp
def sLaw3 : Spec := fun args h nx K => ∃ (ub : Option Addr) (len cap : Nat) (z : Nat → Nat → Int) (p : Nat → Nat → Bool) (wh : Int), args = [.slice 100 0 len cap, .int .u8 wh] ∧ h = [(100, .ro ub len 3 (gMix ckA z p))] ∧ len ≤ 9223372036854775807 ∧ 0 ≤ wh ∧ wh < 256 ∧ K (.ret (.bool true)) h nx
theorem sLaw3_ok : SpecOK Try.prog 3 sLaw3 := by
  refine specOK_read (fn := Try.f3) rfl rfl rfl T_ok (SP := SP3) sp3 0 _ ?_
  rintro args h nx K ⟨ub, len, cap, z, p, wh, rfl, rfl, hlen, hw0, hw1, hk⟩
  refine ⟨[(100, .ro ub len 3 (gMix ckA z p))], ⟨fun i c hi hc => by
    match c with
    | 0 => exact trivial
    | 1 => exact trivial
    | c + 2 => exact trivial, trivial⟩, ⟨⟨rfl, _, _, _, _, rfl⟩, trivial⟩, ⟨rfl, trivial, trivial⟩, by simp [Try.f3], fun o => o = .ret (.bool true), ?_, ?_⟩
  · rintro o rfl
    exact ⟨trivial, hk⟩
  · intro c hc
    obtain ⟨cd, h1, h2⟩ := keeps_walk hc (ub := ub) (cap := cap) (z := z) (p := p) hlen hw0 hw1
    cases h1
    exact h2
end Go.Proofs.Ytgcnknhfphgfnaa.Sx
