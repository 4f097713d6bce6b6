import Derived.Test.YtgcnknhfphgfnaaSxX1
/-
  The walk of TurnRows.
-/
namespace Go.Proofs.Ytgcnknhfphgfnaa.Sx
open Go Go.Proofs
set_option maxRecDepth 100000
set_option linter.unusedSimpArgs false
set_option linter.unusedVariables false

/-- What waits, in its order, as places. -/
abbrev wtP (Dp Ap : List Pl) : List Pl := (Dp ++ Ap).filter (·.w)
theorem wtP_t (Dp Ap : List Pl) : wtI (dl (Dp ++ Ap)) = (wtP Dp Ap).map (·.t) := by unfold wtI dl; rw [List.filter_map, List.map_map]; rfl
theorem Rl.wtP_mem {n : Int} {S Dp Ap : List Pl} (R : Rl n S Dp Ap) {k : Nat} {x : Pl} (h : (wtP Dp Ap)[k]? = some x) : x ∈ S ∧ x.w = true := by
  have := List.mem_filter.1 (List.mem_of_getElem? h)
  exact ⟨R.perm.mem_iff.1 this.1, this.2⟩
theorem Rl.wtP_a {n : Int} {S Dp Ap : List Pl} (R : Rl n S Dp Ap) {i k : Nat} {x y : Pl} (hik : i < k) (hx : (wtP Dp Ap)[i]? = some x) (hy : (wtP Dp Ap)[k]? = some y) (ha : x.a = true) : y.a = true := by
  have hp : (wtP Dp Ap).Pairwise fun p q => p.a = true → q.a = true := by
    refine List.Pairwise.filter _ (List.pairwise_append.2 ⟨?_, ?_, fun p hp q hq _ => R.aa q hq⟩)
    · refine (List.Pairwise.and_mem.1 R.sd).imp fun {p q} h hpa => ?_
      rw [R.da _ h.1] at hpa; cases hpa
    · exact (List.Pairwise.and_mem.1 R.sa).imp fun {p q} h _ => R.aa _ h.2.1
  have h1 := List.getElem?_eq_some_iff.1 hx
  have h2 := List.getElem?_eq_some_iff.1 hy
  have := List.pairwise_iff_getElem.1 hp i k h1.1 h2.1 hik
  rw [h1.2, h2.2] at this
  exact this ha
theorem Rl.wtP_ne {n : Int} {S Dp Ap : List Pl} (R : Rl n S Dp Ap) {i k : Nat} {x y : Pl} (hik : i < k) (hx : (wtP Dp Ap)[i]? = some x) (hy : (wtP Dp Ap)[k]? = some y) : x.t ≠ y.t := by
  have hnd : ((wtP Dp Ap).map (·.t)).Nodup := by
    have h1 : ((Dp ++ Ap).map (·.t)).Nodup := (R.perm.map (·.t)).symm.nodup R.nd
    exact h1.sublist (List.filter_sublist.map _)
  rw [List.nodup_iff_pairwise_ne] at hnd
  have h1 := List.getElem?_eq_some_iff.1 hx
  have h2 := List.getElem?_eq_some_iff.1 hy
  have := List.pairwise_iff_getElem.1 hnd i k (by simpa using h1.1) (by simpa using h2.1) hik
  simp only [List.getElem_map] at this
  rw [h1.2, h2.2] at this
  exact this
def SP6 : SpT := [(8, sAwake), (9, sNew), (11, sRNew), (10, sStep), (20, sState), (13, sWaiting)]
theorem sp6 : ∀ p ∈ SP6, SpecOK Try.prog p.1 p.2 := consSP sAwake_ok (consSP sNew_ok (consSP sRNew_ok (consSP sStep_ok (consSP sState_ok (consSP sWaiting_ok noSP)))))
theorem rows_walk {c : Cx} (hc : c.P = Try.prog) {ub : Option Addr} {len cap : Nat} {z : Nat → Nat → Int} {p : Nat → Nat → Bool} (hlen : len ≤ 9223372036854775807) :
    ∃ cd, Try.f6.body = some cd ∧ W ⟨c, Try.f6, T, SP6, fun o _ _ => o = .ret (.bool true)⟩ [.code cd] (argsS [.slice 100 0 len cap] 0) [(100, .ro ub len 3 (gMix ckA z p))] 0 := by
  refine ⟨_, rfl, ?_⟩
  have hE := mkE' (fn := Try.f6) (R := fun o _ _ => o = .ret (.bool true)) hc sp6
  refine W_weak (nx' := 30) (σ' := argsS [.slice 100 0 len cap] 0) (h' := [(100, .ro ub len 3 (gAct z p))]) (tau []) ⟨rfl, (by repeat' (first | exact rfl | exact trivial | assumption | refine ⟨?_, ?_⟩)), gMix_act _ _, trivial⟩ ?_
  obtain ⟨eX, hX⟩ : ∃ eX : Ent, eX = .ro ub len 3 (gAct z p) := ⟨_, rfl⟩
  have wX : ∀ τ h', wkE τ h' eX eX := fun τ h' => by rw [hX]; exact gMix_wk _ _
  rw [← hX]
  have vX : eX.here := by rw [hX]; trivial
  have g100 : Gone 60 [(100, eX)] := Gone.cons gone_nil (by omega)
  have v0 : ∀ bT bM n S, live (HTW bT bM 30 30 n S [(100, eX)]) 100 := fun _ _ _ _ => vX
  have hwk : ∀ {bT bM n S}, wkH (tau []) (HTW bT bM 30 30 n S [(100, eX)]) (HTW bT bM 30 30 n S [(100, eX)]) (HTW bT bM 30 30 n S [(100, eX)]) := HTW.wk (rest := [(100, eX)]) rfl rfl rfl trivial ⟨wX _ _, trivial⟩
  refine W_seq (nx := 30) ?_
  refine W_keep (nx := 30) [(0, .slice 100 0 len cap)] [(100, eX)] 30 ?_ ?_
  · refine vc_sound hE 20 _ _ _ 30 ?_
    exact ⟨rfl, rfl, trivial⟩
  refine W_seq (nx := 30) ?_
  refine W_keep (nx := 30) [(0, .slice 100 0 len cap)] [(100, eX)] 30 ?_ ?_
  · refine vc_sound hE 40 _ _ _ 30 ?_
    refine ⟨rfl, ?_⟩
    exact ⟨rfl, rfl, trivial⟩
  refine W_seq (nx := 30) ?_
  refine W_some (nx := 30) (fun _ : Nat × Nat => True) (fun _ => [(0, .slice 100 0 len cap), (3, .ptr 8 0 0)]) (fun b => HTW b.1 b.2 30 30 0 [] [(100, eX)]) 30 ?_ ?_
  · refine vc_sound hE 40 _ _ _ 30 ?_
    refine ⟨30, 30, rfl, g100, fun q => absurd (by unfold mayI; omega) q, fun _ => ⟨⟨rfl, rfl⟩, fun bT bM => ?_⟩⟩
    exact ⟨(bT, bM), trivial, rfl, rfl, rfl, trivial⟩
  rintro ⟨bT, bM⟩ _
  refine W_seq (nx := 30) ?_
  refine W_keep (nx := 30) [(0, .slice 100 0 len cap), (3, .ptr 8 0 0)] (HTW bT bM 30 30 0 [] [(100, eX)]) 30 ?_ ?_
  · refine vc_sound hE 60 _ _ _ 30 ?_
    exact ⟨rfl, rfl, rfl, trivial⟩
  refine W_seq (nx := 30) ?_
  refine W_piece (nx := 30) (fun _ _ _ => True) ?_ ?_
  rotate_left
  · intro σ1 h1 _ _
    refine vc_sound hE 60 _ _ _ 30 ?_
    rfl
  refine vc_sound hE 5 _ _ _ 30 ?_
  have v00 := v0 bT bM 0 []
  refine W_loop (fun q σ h => ∃ (i : Nat) (n : Int) (S Dp Ap : List Pl), q = len - i ∧ i ≤ len ∧ i ≤ 150 ∧ 0 ≤ n ∧ n ≤ (i : Int) ∧ Rl n S Dp Ap ∧ (Dp.length : Int) ≤ 30 ∧ (Ap.length : Int) ≤ 30 ∧ σ = [(0, .slice 100 0 len cap), (3, .ptr 8 0 0), (5, .int .i64 (i : Int))] ∧ h = HTW bT bM 30 30 n S [(100, eX)])
    len ⟨0, 0, [], [], [], rfl, by omega, by omega, by omega, by omega, Rl.nil, by simp, by simp, rfl, rfl⟩ (tau []) ⟨rfl, (by repeat' (first | exact rfl | exact trivial | assumption | refine ⟨?_, ?_⟩)), hwk⟩ 60 ?_
  clear v00
  rintro q σ h1 ⟨i, n, S, Dp, Ap, rfl, hi, hi150, hn0, hni, R, hdl, hal, rfl, rfl⟩
  have hSl := R.len
  have hB : Bnd 30 30 n S := ⟨by omega, by omega, by omega, by omega⟩
  have v := v0 bT bM n S
  refine W_seq (nx := 60) ?_
  refine W_piece (nx := 60) (fun σ1 h1 _ => (i < len ∧ i < 150) ∧ h1 = HTW bT bM 30 30 n S [(100, eX)] ∧ subS σ1 [(0, .slice 100 0 len cap), (3, .ptr 8 0 0), (5, .int .i64 (i : Int))]) ?_ ?_
  · refine vc_sound hE 60 _ _ _ 60 ?_
    (refine (?_ : br _ _ _); refine br_dec (fun q => ?_) (fun q => ?_))
    · have q1 : (i : Int) < (len : Int) := q
      (refine (?_ : br _ _ _); refine br_dec (fun q => ?_) (fun q => ?_))
      · have q2 : (i : Int) < 150 := by assumption
        exact ⟨⟨by omega, by omega⟩, rfl, rfl, rfl, rfl, trivial⟩
      · exact trivial
    · exact trivial
  rintro σ1 h1 _ ⟨⟨hil, hi3⟩, rfl, hs⟩
  refine W_sub (nx' := 60) hs ?_
  clear hs
  have hwi : IntKind.i64.wrap ((i : Int) + 1) = ((i + 1 : Nat) : Int) := by simp only [IntKind.wrap_i64]; omega
  refine vc_sound hE 2 _ _ _ 60 ?_
  refine W_seq (nx := 60) ?_
  refine W_ex (nx := 60) (fun (x : Int × List Pl × List Pl × List Pl) => 0 ≤ x.1 ∧ x.1 ≤ ((i + 1 : Nat) : Int) ∧ Rl x.1 x.2.1 x.2.2.1 x.2.2.2 ∧ (x.2.2.1.length : Int) ≤ 30 ∧ (x.2.2.2.length : Int) ≤ 30) (fun _ => [(0, .slice 100 0 len cap), (3, .ptr 8 0 0), (5, .int .i64 (i : Int))]) (fun x => HTW bT bM 30 30 x.1 x.2.1 [(100, eX)]) 60 ?_ ?_
  · obtain ⟨Dp', Ap', R', he, hD', hA', hn1, hn2, hd', ha'⟩ := R.act 30 30 (z (addI 0 ((i : Int)).toNat) 0) (z (addI 0 ((i : Int)).toNat) 1) (p (addI 0 ((i : Int)).toNat) 2)
    subst hX
    have gS : ∀ b, GoneS (HDc b 1 1 19 20 [] [] noE noE 0 0 (HTW bT bM 30 30 n S [(100, .ro ub len 3 (gAct z p))])) := fun b => ⟨by repeat' (first | exact gone_nil | refine Gone.cons ?_ (by omega)), ⟨fun u h1 h2 => by rw [fd_HDc (by omega) (by omega) (by omega), fd_HTW (by omega) (by omega), fd_cons, if_neg (by omega)]; rfl, rfl, rfl⟩, rfl⟩
    refine vc_sound hE 1 _ _ _ 60 ?_
    refine W_planw hE 60 [1, 6] (.take 0 (.take 2 (.take 3 (.all (.cons 1 (.all (.cons 4 (.all (.cons 5 (.all (.cons 6 (.done) (.nil))) (.nil))) (.nil))) (.cons 4 (.all (.cons 1 (.all (.cons 5 (.all (.cons 6 (.done) (.nil))) (.nil))) (.cons 5 (.all (.cons 1 (.all (.cons 6 (.done) (.nil))) (.nil))) (.nil)))) (.nil))))))) (by rw [hc]; exact mix) (by kernel_rfl) 31 ?_
    iterate 3 (refine ⟨_, ⟨rfl, rfl⟩, ?_⟩)
    refine putS_some rfl ?_
    refine ⟨⟨trivial, ?_⟩, ⟨(show chk _ _ from chk_ok (show (decide ((0 : Int) ≤ (i : Int)) && decide ((i : Int) < (len : Int))) = true by simp only [Bool.and_eq_true, decide_eq_true_eq]; omega) (show chk _ _ from chk_ok rfl trivial)), ?_⟩, trivial⟩
    · refine ⟨1, 1, rfl, rfl, rfl, rfl, rfl, fun b => ?_⟩
      refine putS_some rfl ?_
      refine ⟨⟨(show chk _ _ from chk_ok (show (decide ((0 : Int) ≤ (i : Int)) && decide ((i : Int) < (len : Int))) = true by simp only [Bool.and_eq_true, decide_eq_true_eq]; omega) (show chk _ _ from chk_ok rfl trivial)), ?_⟩, trivial⟩
      (refine (?_ : chk _ _); refine chk_ok (show (decide ((0 : Int) ≤ (i : Int)) && decide ((i : Int) < (len : Int))) = true by simp only [Bool.and_eq_true, decide_eq_true_eq]; omega) ?_)
      (refine (?_ : chk _ _); refine chk_ok rfl ?_)
      refine ⟨⟨(show chk _ _ from chk_ok (Nat.ble_eq_true_of_le (show addI 0 ((i : Int)).toNat * 3 + 0 + 3 ≤ len * 3 by rw [nat0]; omega)) trivial), ?_⟩, trivial⟩
      (refine (?_ : chk _ _); refine chk_ok (Nat.ble_eq_true_of_le (show addI 0 ((i : Int)).toNat * 3 + 0 + 3 ≤ len * 3 by rw [nat0]; omega)) ?_)
      refine ⟨⟨trivial, ⟨bT, bM, 30, 30, n, S, b, 1, 1, [], [], noE, noE, 0, 0, z (addI 0 ((i : Int)).toNat) 0, z (addI 0 ((i : Int)).toNat) 1, p (addI 0 ((i : Int)).toNat) 2, rfl, ⟨rfl, rfl⟩, hB, ⟨rfl, rfl, rfl, noE_lst, noE_lst⟩, gS b, by simp, by simp, fun td ta eD' eA' cD' cA' htd hta lD lA => ?_⟩⟩, trivial⟩
      rcases htd with rfl | rfl <;> rcases hta with rfl | rfl <;> exact ⟨(_, _, Dp', Ap'), ⟨Int.le_trans hn0 hn1, Int.le_trans hn2 (by omega), R', hd' hdl, ha' hal⟩, tau [], rfl, (by repeat' (first | exact rfl | exact trivial | assumption | refine ⟨?_, ?_⟩)), HTW.wk (rest := [(100, .ro ub len 3 (gAct z p))]) rfl rfl rfl trivial ⟨gMix_wk _ _, trivial⟩⟩
    · (refine (?_ : chk _ _); refine chk_ok (show (decide ((0 : Int) ≤ (i : Int)) && decide ((i : Int) < (len : Int))) = true by simp only [Bool.and_eq_true, decide_eq_true_eq]; omega) ?_)
      (refine (?_ : chk _ _); refine chk_ok rfl ?_)
      refine ⟨⟨trivial, ?_⟩, ⟨(show chk _ _ from chk_ok (Nat.ble_eq_true_of_le (show addI 0 ((i : Int)).toNat * 3 + 0 + 3 ≤ len * 3 by rw [nat0]; omega)) trivial), ?_⟩, trivial⟩
      · refine ⟨1, 1, rfl, rfl, rfl, rfl, rfl, fun b => ?_⟩
        refine putS_some rfl ?_
        refine ⟨⟨(show chk _ _ from chk_ok (Nat.ble_eq_true_of_le (show addI 0 ((i : Int)).toNat * 3 + 0 + 3 ≤ len * 3 by rw [nat0]; omega)) trivial), ?_⟩, trivial⟩
        (refine (?_ : chk _ _); refine chk_ok (Nat.ble_eq_true_of_le (show addI 0 ((i : Int)).toNat * 3 + 0 + 3 ≤ len * 3 by rw [nat0]; omega)) ?_)
        refine ⟨⟨trivial, ⟨bT, bM, 30, 30, n, S, b, 1, 1, [], [], noE, noE, 0, 0, z (addI 0 ((i : Int)).toNat) 0, z (addI 0 ((i : Int)).toNat) 1, p (addI 0 ((i : Int)).toNat) 2, rfl, ⟨rfl, rfl⟩, hB, ⟨rfl, rfl, rfl, noE_lst, noE_lst⟩, gS b, by simp, by simp, fun td ta eD' eA' cD' cA' htd hta lD lA => ?_⟩⟩, trivial⟩
        rcases htd with rfl | rfl <;> rcases hta with rfl | rfl <;> exact ⟨(_, _, Dp', Ap'), ⟨Int.le_trans hn0 hn1, Int.le_trans hn2 (by omega), R', hd' hdl, ha' hal⟩, tau [], rfl, (by repeat' (first | exact rfl | exact trivial | assumption | refine ⟨?_, ?_⟩)), HTW.wk (rest := [(100, .ro ub len 3 (gAct z p))]) rfl rfl rfl trivial ⟨gMix_wk _ _, trivial⟩⟩
      · (refine (?_ : chk _ _); refine chk_ok (Nat.ble_eq_true_of_le (show addI 0 ((i : Int)).toNat * 3 + 0 + 3 ≤ len * 3 by rw [nat0]; omega)) ?_)
        refine ⟨⟨trivial, ?_⟩, trivial⟩
        refine ⟨1, 1, rfl, rfl, rfl, rfl, rfl, fun b => ?_⟩
        refine putS_some rfl ?_
        refine ⟨⟨trivial, ⟨bT, bM, 30, 30, n, S, b, 1, 1, [], [], noE, noE, 0, 0, z (addI 0 ((i : Int)).toNat) 0, z (addI 0 ((i : Int)).toNat) 1, p (addI 0 ((i : Int)).toNat) 2, rfl, ⟨rfl, rfl⟩, hB, ⟨rfl, rfl, rfl, noE_lst, noE_lst⟩, gS b, by simp, by simp, fun td ta eD' eA' cD' cA' htd hta lD lA => ?_⟩⟩, trivial⟩
        rcases htd with rfl | rfl <;> rcases hta with rfl | rfl <;> exact ⟨(_, _, Dp', Ap'), ⟨Int.le_trans hn0 hn1, Int.le_trans hn2 (by omega), R', hd' hdl, ha' hal⟩, tau [], rfl, (by repeat' (first | exact rfl | exact trivial | assumption | refine ⟨?_, ?_⟩)), HTW.wk (rest := [(100, .ro ub len 3 (gAct z p))]) rfl rfl rfl trivial ⟨gMix_wk _ _, trivial⟩⟩
  clear v R hB hSl hdl hal hni hn0
  rintro ⟨n', S', Dp', Ap'⟩ ⟨hn0, hni, R, hdl, hal⟩
  have hn0 : 0 ≤ n' := hn0
  have hni : n' ≤ ((i + 1 : Nat) : Int) := hni
  have R : Rl n' S' Dp' Ap' := R
  have hdl : (Dp'.length : Int) ≤ 30 := hdl
  have hal : (Ap'.length : Int) ≤ 30 := hal
  show W _ _ _ (HTW bT bM 30 30 n' S' [(100, eX)]) _
  have hSl := R.len
  have v := v0 bT bM n' S'
  refine W_to (nx := 60) [(0, .slice 100 0 len cap), (3, .ptr 8 0 0), (5, .int .i64 (i : Int))] (HTW bT bM 30 30 n' S' [(100, eX)]) 60 ?_ ?_
  rotate_left
  · refine vc_sound hE 60 _ _ _ 60 ?_
    exact ⟨len - (i + 1), _, _, by omega, ⟨i + 1, n', S', Dp', Ap', rfl, by omega, by omega, hn0, hni, R, hdl, hal, rfl, rfl⟩, tau [], rfl, ⟨⟨⟨rfl, v⟩, rfl, rfl, rfl⟩, ⟨⟨rfl, trivial⟩, rfl, rfl⟩, ⟨rfl, hwi⟩, trivial⟩, hwk⟩
  obtain ⟨L, hL⟩ : ∃ L, L = wtP Dp' Ap' := ⟨_, rfl⟩
  obtain ⟨l, hl⟩ : ∃ l, l = L.map (·.t) := ⟨_, rfl⟩
  have hOne : OneW S' l := by rw [hl, hL, ← wtP_t]; exact R.waits
  have hlL : l.length = L.length := by rw [hl, List.length_map]
  have hLS : L.length ≤ S'.length := by
    rw [hL, hSl, ← List.length_append]; exact List.length_filter_le _ _
  refine W_seq (nx := 200) ?_
  refine W_some (nx := 200) (fun (x : Ent × Nat) => lstE x.1 l x.2) (fun x => [(0, .slice 100 0 len cap), (3, .ptr 8 0 0), (5, .int .i64 (i : Int)), (6, .slice 200 0 l.length x.2)]) (fun x => (200, x.1) :: HTW bT bM 30 30 n' S' [(100, eX)]) 300 ?_ ?_
  · refine vc_sound hE 40 _ _ _ 200 ?_
    refine ⟨bT, bM, 30, 30, n', S', l, rfl, HTW.at.rd, by omega, hOne, rfl, fun e cl hle => ?_⟩
    exact ⟨(e, cl), hle, rfl, rfl, rfl, rfl, rfl, trivial⟩
  rintro ⟨e, cl⟩ hle
  have hle : lstE e l cl := hle
  have ve := lst_live hle
  have v2 : live ((200, e) :: HTW bT bM 30 30 n' S' [(100, eX)]) 100 := vX
  have hw2 : wkH (tau []) ((200, e) :: HTW bT bM 30 30 n' S' [(100, eX)]) ((200, e) :: HTW bT bM 30 30 n' S' [(100, eX)]) ((200, e) :: HTW bT bM 30 30 n' S' [(100, eX)]) := ⟨lst_wk hle _ _, HTW.wk (rest := [(100, eX)]) rfl rfl rfl trivial ⟨wX _ _, trivial⟩⟩
  have hw1 : wkH (tau []) ((200, e) :: HTW bT bM 30 30 n' S' [(100, eX)]) (HTW bT bM 30 30 n' S' [(100, eX)]) (HTW bT bM 30 30 n' S' [(100, eX)]) := HTW.wk (rest := [(100, eX)]) rfl rfl rfl trivial ⟨wX _ _, trivial⟩
  refine W_seq (nx := 300) ?_
  refine W_keep (nx := 300) [(0, .slice 100 0 len cap), (3, .ptr 8 0 0), (5, .int .i64 (i : Int)), (6, .slice 200 0 l.length cl), (7, .bool false)] ((200, e) :: HTW bT bM 30 30 n' S' [(100, eX)]) 300 ?_ ?_
  · refine vc_sound hE 40 _ _ _ 300 ?_
    exact ⟨rfl, rfl, rfl, rfl, rfl, rfl, trivial⟩
  refine vc_sound hE 6 _ _ _ 300 ?_
  refine W_loop (fun q σ h => ∃ (k : Nat) (b : Bool), q = L.length - k ∧ k ≤ L.length ∧ (b = true → ∃ j x, j < k ∧ L[j]? = some x ∧ x.a = true) ∧ σ = [(0, .slice 100 0 len cap), (3, .ptr 8 0 0), (5, .int .i64 (i : Int)), (6, .slice 200 0 l.length cl), (7, .bool b), (8, .int .i64 (k : Int))] ∧ h = (200, e) :: HTW bT bM 30 30 n' S' [(100, eX)])
    L.length ⟨0, false, rfl, by omega, fun q => (by cases q), rfl, rfl⟩ (tau []) ⟨rfl, (by repeat' (first | exact rfl | exact trivial | assumption | refine ⟨?_, ?_⟩)), hw2⟩ 300 ?_
  rintro q σ h1 ⟨k, bl, rfl, hk, hbl, rfl, rfl⟩
  have hwk1 : IntKind.i64.wrap ((k : Int) + 1) = ((k + 1 : Nat) : Int) := by simp only [IntKind.wrap_i64]; omega
  refine W_seq (nx := 300) ?_
  refine W_piece (nx := 300) (fun σ1 h1 _ => k < L.length ∧ h1 = (200, e) :: HTW bT bM 30 30 n' S' [(100, eX)] ∧ subS σ1 [(0, .slice 100 0 len cap), (3, .ptr 8 0 0), (5, .int .i64 (i : Int)), (6, .slice 200 0 l.length cl), (7, .bool bl), (8, .int .i64 (k : Int))]) ?_ ?_
  · refine vc_sound hE 60 _ _ _ 300 ?_
    (refine (?_ : br _ _ _); refine br_dec (fun q => ?_) (fun q => ?_))
    · have q1 : (k : Int) < (l.length : Int) := q
      exact ⟨by omega, rfl, rfl, rfl, rfl, rfl, rfl, rfl, trivial⟩
    · exact ⟨tau [], rfl, ⟨⟨⟨rfl, v⟩, rfl, rfl, rfl⟩, ⟨⟨rfl, trivial⟩, rfl, rfl⟩, ⟨rfl, rfl⟩, trivial⟩, hw1⟩
  rintro σ1 h1 _ ⟨hkL, rfl, hs⟩
  refine W_sub (nx' := 300) hs ?_
  clear hs
  obtain ⟨x, hx⟩ : ∃ x, L[k]? = some x := ⟨_, List.getElem?_eq_getElem hkL⟩
  obtain ⟨hxS, hxw⟩ := R.wtP_mem (k := k) (x := x) (by rw [← hL]; exact hx)
  have hget : getP S' x.t = x := R.get hxS
  have hhas : hasP S' x.t = true := hasP_iff.2 ⟨x, hxS, rfl⟩
  have hlk : ∀ {j : Nat} {y : Pl}, L[j]? = some y → l.getD j 0 = y.t := fun {j y} hy => by rw [hl, List.getD_eq_getElem?_getD, List.getElem?_map, hy]; rfl
  refine W_seq (nx := 300) ?_
  refine W_keep (nx := 300) [(0, .slice 100 0 len cap), (3, .ptr 8 0 0), (5, .int .i64 (i : Int)), (6, .slice 200 0 l.length cl), (7, .bool x.a), (8, .int .i64 (k : Int))] ((200, e) :: HTW bT bM 30 30 n' S' [(100, eX)]) 300 ?_ ?_
  rotate_left
  · refine vc_sound hE 60 _ _ _ 300 ?_
    refine ⟨L.length - (k + 1), _, _, by omega, ⟨k + 1, x.a, rfl, by omega, fun q => ⟨k, x, by omega, hx, q⟩, rfl, rfl⟩, tau [], rfl, ⟨⟨⟨rfl, v2⟩, rfl, rfl, rfl⟩, ⟨⟨rfl, trivial⟩, rfl, rfl⟩, ⟨rfl, rfl⟩, ⟨⟨rfl, ve⟩, rfl, rfl, rfl⟩, rfl, ⟨rfl, hwk1⟩, trivial⟩, hw2⟩
  refine vc_sound hE 1 _ _ _ 300 ?_
  refine W_seq (nx := 300) ?_
  refine W_keep (nx := 300) [(0, .slice 100 0 len cap), (3, .ptr 8 0 0), (5, .int .i64 (i : Int)), (6, .slice 200 0 l.length cl), (7, .bool bl), (8, .int .i64 (k : Int)), (9, .bool x.a), (10, .bool true), (11, .bool true)] ((200, e) :: HTW bT bM 30 30 n' S' [(100, eX)]) 300 ?_ ?_
  · rcases hle with ⟨hl0, _, _⟩ | ⟨be, g, ty, rfl, f1, f2, f3, f4⟩
    · rw [hl0] at hlL; simp at hlL; omega
    refine vc_sound hE 6 _ _ _ 300 ?_
    (refine (?_ : chk _ _); refine chk_ok (show (decide ((0 : Int) ≤ (k : Int)) && decide ((k : Int) < (l.length : Int))) = true by simp only [Bool.and_eq_true, decide_eq_true_eq]; omega) ?_)
    (refine (?_ : chk _ _); refine chk_ok rfl ?_)
    (refine (?_ : chk _ _); refine chk_ok (Nat.ble_eq_true_of_le (show addI 0 ((k : Int)).toNat * 1 + 0 + 1 ≤ cl * 1 by rw [nat0]; omega)) ?_)
    (refine (?_ : chk _ _); refine chk_ok rfl ?_)
    refine (force_eq _ _).mpr ?_
    refine putS_some (by rfl) ?_
    refine W_sub (nx := 300) (nx' := 300) (σ' := [(0, .slice 100 0 len cap), (3, .ptr 8 0 0), (5, .int .i64 (i : Int)), (6, .slice 200 0 l.length cl), (7, .bool bl), (8, .int .i64 (k : Int)), (47, .ptr 8 0 0), (51, .int .i64 x.t)]) ⟨rfl, rfl, rfl, rfl, rfl, rfl, rfl, ?_, trivial⟩ ?_
    · show some (g (addI 0 ((k : Int)).toNat) 0) = _
      rw [nat0, f3 k (by omega), hlk hx]
    refine vc_sound hE 60 _ _ _ 300 ?_
    refine ⟨bT, bM, 30, 30, n', S', x.t, rfl, ⟨rfl, rfl⟩, ?_⟩
    refine ⟨rfl, rfl, rfl, rfl, rfl, rfl, rfl, ?_, ?_, ?_, trivial⟩
    · show some (V.bool (getP S' x.t).a) = _
      rw [hget]
    · show some (V.bool (getP S' x.t).w) = _
      rw [hget, hxw]
    · show some (V.bool (hasP S' x.t)) = _
      rw [hhas]
  refine W_seq (nx := 300) ?_
  refine W_keep (nx := 300) [(0, .slice 100 0 len cap), (3, .ptr 8 0 0), (5, .int .i64 (i : Int)), (6, .slice 200 0 l.length cl), (8, .int .i64 (k : Int)), (9, .bool x.a)] ((200, e) :: HTW bT bM 30 30 n' S' [(100, eX)]) 300 ?_ ?_
  · cases bl with
    | false =>
      refine vc_sound hE 60 _ _ _ 300 ?_
      exact ⟨rfl, rfl, rfl, rfl, rfl, rfl, rfl, trivial⟩
    | true =>
      obtain ⟨j, y, hj, hy, hya⟩ := hbl rfl
      have hxa : x.a = true := R.wtP_a hj (by rw [← hL]; exact hy) (by rw [← hL]; exact hx) hya
      rw [hxa]
      refine vc_sound hE 60 _ _ _ 300 ?_
      exact ⟨rfl, rfl, rfl, rfl, rfl, rfl, rfl, trivial⟩
  refine W_seq (nx := 300) ?_
  refine W_keep (nx := 300) [(0, .slice 100 0 len cap), (3, .ptr 8 0 0), (5, .int .i64 (i : Int)), (6, .slice 200 0 l.length cl), (7, .bool x.a), (8, .int .i64 (k : Int))] ((200, e) :: HTW bT bM 30 30 n' S' [(100, eX)]) 300 ?_ ?_
  · refine vc_sound hE 60 _ _ _ 300 ?_
    exact ⟨rfl, rfl, rfl, rfl, rfl, rfl, rfl, trivial⟩
  refine vc_sound hE 6 _ _ _ 300 ?_
  refine W_loop (fun q σ h => ∃ j : Nat, q = k - j ∧ j ≤ k ∧ σ = [(0, .slice 100 0 len cap), (3, .ptr 8 0 0), (5, .int .i64 (i : Int)), (6, .slice 200 0 l.length cl), (7, .bool x.a), (8, .int .i64 (k : Int)), (12, .int .i64 (j : Int))] ∧ h = (200, e) :: HTW bT bM 30 30 n' S' [(100, eX)])
    k ⟨0, rfl, by omega, rfl, rfl⟩ (tau []) ⟨rfl, (by repeat' (first | exact rfl | exact trivial | assumption | refine ⟨?_, ?_⟩)), hw2⟩ 300 ?_
  rintro q σ h1 ⟨j, rfl, hj, rfl, rfl⟩
  have hwj : IntKind.i64.wrap ((j : Int) + 1) = ((j + 1 : Nat) : Int) := by simp only [IntKind.wrap_i64]; omega
  refine W_seq (nx := 300) ?_
  refine W_piece (nx := 300) (fun σ1 h1 _ => j < k ∧ h1 = (200, e) :: HTW bT bM 30 30 n' S' [(100, eX)] ∧ subS σ1 [(0, .slice 100 0 len cap), (3, .ptr 8 0 0), (5, .int .i64 (i : Int)), (6, .slice 200 0 l.length cl), (7, .bool x.a), (8, .int .i64 (k : Int)), (12, .int .i64 (j : Int))]) ?_ ?_
  · refine vc_sound hE 60 _ _ _ 300 ?_
    (refine (?_ : br _ _ _); refine br_dec (fun q => ?_) (fun q => ?_))
    · have q1 : (j : Int) < (k : Int) := q
      exact ⟨by omega, rfl, rfl, rfl, rfl, rfl, rfl, rfl, rfl, trivial⟩
    · exact ⟨rfl, rfl, rfl, rfl, rfl, rfl, rfl, trivial⟩
  rintro σ1 h1 _ ⟨hjk, rfl, hs⟩
  refine W_sub (nx' := 300) hs ?_
  clear hs
  obtain ⟨y, hy⟩ : ∃ y, L[j]? = some y := ⟨_, List.getElem?_eq_getElem (by omega)⟩
  have hne : y.t ≠ x.t := R.wtP_ne hjk (by rw [← hL]; exact hy) (by rw [← hL]; exact hx)
  refine W_seq (nx := 300) ?_
  refine W_keep (nx := 300) [(0, .slice 100 0 len cap), (3, .ptr 8 0 0), (5, .int .i64 (i : Int)), (6, .slice 200 0 l.length cl), (7, .bool x.a), (8, .int .i64 (k : Int)), (12, .int .i64 (j : Int))] ((200, e) :: HTW bT bM 30 30 n' S' [(100, eX)]) 300 ?_ ?_
  · rcases hle with ⟨hl0, _, _⟩ | ⟨be, g, ty, rfl, f1, f2, f3, f4⟩
    · rw [hl0] at hlL; simp at hlL; omega
    have gj : g (addI 0 ((j : Int)).toNat) 0 = .int .i64 y.t := by rw [nat0, f3 j (by omega), hlk hy]
    have gk : g (addI 0 ((k : Int)).toNat) 0 = .int .i64 x.t := by rw [nat0, f3 k (by omega), hlk hx]
    refine vc_sound hE 3 _ _ _ 300 ?_
    refine W_planw hE 300 [] (lineP 0 9 .done) (by rw [hc]; exact mix) (by kernel_rfl) 31 ?_
    iterate 2 (refine ⟨_, ⟨rfl, rfl⟩, ?_⟩)
    refine ⟨.ptr 200 (addI 0 ((j : Int)).toNat) 0, (show chk _ _ from chk_ok (show (decide ((0 : Int) ≤ (j : Int)) && decide ((j : Int) < (l.length : Int))) = true by simp only [Bool.and_eq_true, decide_eq_true_eq]; omega) (show chk _ _ from chk_ok rfl ⟨rfl, rfl⟩)), ?_⟩
    refine ⟨.int .i64 y.t, (show chk _ _ from chk_ok (Nat.ble_eq_true_of_le (show addI 0 ((j : Int)).toNat * 1 + 0 + 1 ≤ cl * 1 by rw [nat0]; omega)) (show chk _ _ from chk_ok rfl ((force_eq _ _).mpr ⟨gj, rfl⟩))), ?_⟩
    iterate 2 (refine ⟨_, ⟨rfl, rfl⟩, ?_⟩)
    refine ⟨.ptr 200 (addI 0 ((k : Int)).toNat) 0, (show chk _ _ from chk_ok (show (decide ((0 : Int) ≤ (k : Int)) && decide ((k : Int) < (l.length : Int))) = true by simp only [Bool.and_eq_true, decide_eq_true_eq]; omega) (show chk _ _ from chk_ok rfl ⟨rfl, rfl⟩)), ?_⟩
    refine ⟨.int .i64 x.t, (show chk _ _ from chk_ok (Nat.ble_eq_true_of_le (show addI 0 ((k : Int)).toNat * 1 + 0 + 1 ≤ cl * 1 by rw [nat0]; omega)) (show chk _ _ from chk_ok rfl ((force_eq _ _).mpr ⟨gk, rfl⟩))), ?_⟩
    refine ⟨.bool (y.t == x.t), ⟨rfl, rfl⟩, ?_⟩
    refine putS_some rfl ?_
    (refine (?_ : br _ _ _); refine br_f (by simpa using hne) ?_)
    exact ⟨rfl, rfl, rfl, rfl, rfl, rfl, rfl, rfl, trivial⟩
  refine vc_sound hE 60 _ _ _ 300 ?_
  exact ⟨k - (j + 1), _, _, by omega, ⟨j + 1, rfl, by omega, rfl, rfl⟩, tau [], rfl, ⟨⟨⟨rfl, v2⟩, rfl, rfl, rfl⟩, ⟨⟨rfl, trivial⟩, rfl, rfl⟩, ⟨rfl, rfl⟩, ⟨⟨rfl, ve⟩, rfl, rfl, rfl⟩, rfl, ⟨rfl, rfl⟩, ⟨rfl, hwj⟩, trivial⟩, hw2⟩
def sLaw6 : Spec := fun args h nx K => ∃ (ub : Option Addr) (len cap : Nat) (z : Nat → Nat → Int) (p : Nat → Nat → Bool), args = [.slice 100 0 len cap] ∧ h = [(100, .ro ub len 3 (gMix ckA z p))] ∧ len ≤ 9223372036854775807 ∧ K (.ret (.bool true)) h nx
theorem sLaw6_ok : SpecOK Try.prog 6 sLaw6 := by
  refine specOK_read (fn := Try.f6) rfl rfl rfl T_ok (SP := SP6) sp6 0 _ ?_
  rintro args h nx K ⟨ub, len, cap, z, p, rfl, rfl, hlen, hk⟩
  refine ⟨[(100, .ro ub len 3 (gMix ckA z p))], ⟨fun i c hi hc => by
    match c with
    | 0 => exact trivial
    | 1 => exact trivial
    | c + 2 => exact trivial, trivial⟩, ⟨⟨rfl, _, _, _, _, rfl⟩, trivial⟩, ⟨rfl, trivial⟩, by simp [Try.f6], fun o => o = .ret (.bool true), ?_, ?_⟩
  · rintro o rfl
    exact ⟨trivial, hk⟩
  · intro c hc
    obtain ⟨cd, h1, h2⟩ := rows_walk hc (ub := ub) (cap := cap) (z := z) (p := p) hlen
    cases h1
    exact h2
end Go.Proofs.Ytgcnknhfphgfnaa.Sx
