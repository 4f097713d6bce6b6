import Derived.Test.YtgcnknhfphgfnaaSxX3
/-
  The walk of TurnCounts.
-/
namespace Go.Proofs.Ytgcnknhfphgfnaa.Sx
open Go Go.Proofs
set_option maxRecDepth 100000
set_option linter.unusedSimpArgs false
set_option linter.unusedVariables false

theorem setP_t {S : List Pl} {p q : Pl} (h : q ∈ setP S p) : q ∈ S ∨ q = p := by
  unfold setP at h
  by_cases e : hasP S p.t = true
  · rw [if_pos e, modify_set] at h
    rcases mem_setL h with rfl | h
    · exact .inr rfl
    · exact .inl h
  · rw [if_neg e] at h
    rcases List.mem_append.1 h with h | h
    · exact .inl h
    · exact .inr (by simpa using h)
/-- No ticket but the step's own comes in. -/
theorem actT_t {d a n : Int} {S : List Pl} {k t : Int} {ah : Bool} {q : Pl} (h : q ∈ (actT d a n S k t ah).S) : (∃ p ∈ S, p.t = q.t) ∨ q.t = t := by
  have own : q ∈ S → (∃ p ∈ S, p.t = q.t) ∨ q.t = t := fun h => .inl ⟨q, h, rfl⟩
  have put : ∀ p : Pl, p.t = t → q ∈ setP S p → (∃ p ∈ S, p.t = q.t) ∨ q.t = t := fun p e h => by
    rcases setP_t h with h | rfl
    · exact own h
    · exact .inr e
  have wait : ∀ wt, q ∈ (waitR n S t wt).S → (∃ p ∈ S, p.t = q.t) ∨ q.t = t := fun wt h => by
    unfold waitR at h
    split at h
    · split at h
      · exact own h
      · exact put _ rfl h
    · exact own h
  unfold actT at h
  split at h
  · unfold putR at h
    split at h
    · exact own h
    · split at h
      · exact own h
      · split at h
        · exact put _ rfl h
        · exact own h
  · split at h
    · exact wait _ h
    · split at h
      · exact wait _ h
      · split at h
        · unfold promR at h
          split at h
          · rename_i hh
            split at h
            · split at h
              · exact put { getP S t with n := n + 1, a := false } (getP_mem hh).2 h
              · exact own h
            · exact own h
          · exact own h
        · split at h
          · unfold endR at h
            split at h
            · exact own (List.mem_of_mem_eraseIdx h)
            · exact own h
          · exact own h
/-- The places of one kind below a ticket. -/
def cntB (b : Bool) (j : Int) (S : List Pl) : Nat := (S.filter fun p => p.a == b && decide (p.t < j)).length
theorem cntB_step {b : Bool} {j : Int} : ∀ {S : List Pl}, (S.map (·.t)).Nodup → cntB b (j + 1) S = cntB b j S + if hasP S j = true ∧ (getP S j).a = b then 1 else 0
  | [], _ => by simp [cntB, hasP]
  | p :: S, nd => by
    rw [List.map_cons, List.nodup_cons] at nd
    have ih := cntB_step (b := b) (j := j) nd.2
    unfold cntB at ih ⊢
    by_cases e : p.t = j
    · have hno : hasP S j = false := by
        cases hh : hasP S j with
        | false => rfl
        | true =>
          obtain ⟨q, hq, ht⟩ := hasP_iff.1 hh
          exact absurd (List.mem_map.2 ⟨q, hq, ht.trans e.symm⟩) nd.1
      have h1 : hasP (p :: S) j = true := hasP_iff.2 ⟨p, by simp, e⟩
      have h2 : getP (p :: S) j = p := by unfold getP; rw [List.find?_cons]; simp [e]
      rw [hno] at ih
      rw [h1, h2, List.filter_cons, List.filter_cons]
      have d1 : decide (p.t < j + 1) = true := by simp; omega
      have d2 : decide (p.t < j) = false := by simp; omega
      rw [d1, d2]
      by_cases hb : p.a = b
      · simp [hb]; simpa using ih
      · simp [hb]; simpa using ih
    · have h1 : hasP (p :: S) j = hasP S j := by unfold hasP; rw [List.any_cons]; simp [e]
      have h2 : getP (p :: S) j = getP S j := by unfold getP; rw [List.find?_cons, show (p.t == j) = false by simpa using e]
      rw [h1, h2, List.filter_cons, List.filter_cons]
      have d1 : decide (p.t < j + 1) = decide (p.t < j) := by
        by_cases q : p.t < j
        · simp [q]; omega
        · simp [q]; omega
      rw [d1]
      split
      · rw [List.length_cons, List.length_cons, ih]; omega
      · exact ih
theorem cntB_one {b : Bool} {S : List Pl} (h : ∀ p ∈ S, 1 ≤ p.t ∧ p.t ≤ 40) : cntB b 1 S = 0 := by
  unfold cntB
  rw [List.length_eq_zero_iff, List.filter_eq_nil_iff]
  intro p hp
  have := (h p hp).1
  simp; intro _; omega
theorem cntB_all {b : Bool} {S : List Pl} (h : ∀ p ∈ S, 1 ≤ p.t ∧ p.t ≤ 40) : cntB b 41 S = cntP b S := by
  unfold cntB cntP
  congr 1
  refine List.filter_congr fun p hp => ?_
  have := (h p hp).2
  have : decide (p.t < 41) = true := by simp; omega
  rw [this, Bool.and_true]
def SP7 : SpT := [(8, sAwake), (9, sNew), (11, sRNew), (10, sStep), (12, sFree), (20, sState)]
theorem sp7 : ∀ p ∈ SP7, SpecOK Try.prog p.1 p.2 := consSP sAwake_ok (consSP sNew_ok (consSP sRNew_ok (consSP sStep_ok (consSP sFree_ok (consSP sState_ok noSP)))))
theorem counts_walk {c : Cx} (hc : c.P = Try.prog) {ub : Option Addr} {len cap : Nat} {z : Nat → Nat → Int} {p : Nat → Nat → Bool} {u0 u1 : Int} (hlen : len ≤ 9223372036854775807) (h00 : 0 ≤ u0) (h01 : u0 < 256) (h10 : 0 ≤ u1) (h11 : u1 < 256) :
    ∃ cd, Try.f7.body = some cd ∧ W ⟨c, Try.f7, T, SP7, fun o _ _ => o = .ret (.bool true)⟩ [.code cd] (argsS [.slice 100 0 len cap, .agg [.int .u8 u0, .int .u8 u1]] 0) [(100, .ro ub len 3 (gMix ckA z p))] 0 := by
  refine ⟨_, rfl, ?_⟩
  have hE := mkE' (fn := Try.f7) (R := fun o _ _ => o = .ret (.bool true)) hc sp7
  refine W_weak (nx' := 50) (σ' := argsS [.slice 100 0 len cap, .agg [.int .u8 u0, .int .u8 u1]] 0) (h' := [(100, .ro ub len 3 (gAct z p))]) (tau []) ⟨rfl, (by repeat' (first | exact rfl | exact trivial | assumption | refine ⟨?_, ?_⟩)), gMix_act _ _, trivial⟩ ?_
  obtain ⟨eX, hX⟩ : ∃ eX : Ent, eX = .ro ub len 3 (gAct z p) := ⟨_, rfl⟩
  have wX : ∀ τ h', wkE τ h' eX eX := fun τ h' => by rw [hX]; exact gMix_wk _ _
  rw [← hX]
  have vX : eX.here := by rw [hX]; trivial
  have g100 : Gone 60 [(100, eX)] := Gone.cons gone_nil (by omega)
  obtain ⟨m, hm⟩ : ∃ m, m = IntKind.i64.wrap (1 + Int.tmod (IntKind.i64.wrap u0) 64) := ⟨_, rfl⟩
  obtain ⟨k, hk⟩ : ∃ k, k = Int.tmod (IntKind.i64.wrap u1) 65 := ⟨_, rfl⟩
  have hm1 : 1 ≤ m ∧ m ≤ 64 := by
    rw [show IntKind.i64.wrap u0 = u0 by simp only [IntKind.wrap_i64]; omega, Int.tmod_eq_emod_of_nonneg h00] at hm
    rw [hm]; simp only [IntKind.wrap_i64]; omega
  have hk1 : 0 ≤ k ∧ k ≤ 64 := by
    rw [show IntKind.i64.wrap u1 = u1 by simp only [IntKind.wrap_i64]; omega, Int.tmod_eq_emod_of_nonneg h10] at hk
    rw [hk]; omega
  refine W_seq (nx := 50) ?_
  refine W_some (nx := 50) (fun _ : Nat => True) (fun _ => [(0, .slice 100 0 len cap), (3, .ptr 50 0 0)]) (fun b => (50, .blk b 2 1 (gOf 1 [.int .u8 u0, .int .u8 u1]) 51) :: [(100, eX)]) 51 ?_ ?_
  · refine vc_sound hE 20 _ _ _ 50 ?_
    intro b
    exact ⟨b, trivial, rfl, rfl, rfl, trivial⟩
  rintro bB _
  refine W_seq (nx := 51) ?_
  refine W_keep (nx := 51) [(0, .slice 100 0 len cap), (3, .ptr 50 0 0)] ((50, .blk bB 2 1 (gOf 1 [.int .u8 u0, .int .u8 u1]) 51) :: [(100, eX)]) 51 ?_ ?_
  · refine vc_sound hE 40 _ _ _ 51 ?_
    refine ⟨rfl, ?_⟩
    exact ⟨rfl, rfl, rfl, trivial⟩
  refine W_seq (nx := 51) ?_
  refine W_keep (nx := 51) [(0, .slice 100 0 len cap), (3, .ptr 50 0 0), (5, .int .i64 m)] ((50, .blk bB 2 1 (gOf 1 [.int .u8 u0, .int .u8 u1]) 51) :: [(100, eX)]) 51 ?_ ?_
  · refine vc_sound hE 40 _ _ _ 51 ?_
    refine ⟨rfl, rfl, rfl, ?_, trivial⟩
    show some (V.int .i64 (IntKind.i64.wrap (1 + Int.tmod (IntKind.i64.wrap u0) 64))) = _
    rw [hm]
  refine W_seq (nx := 51) ?_
  refine W_to (nx := 51) [(0, .slice 100 0 len cap), (5, .int .i64 m), (6, .int .i64 k)] [(100, eX)] 30 ?_ ?_
  · refine vc_sound hE 40 _ _ _ 51 ?_
    refine ⟨tau [], rfl, ⟨⟨⟨rfl, vX⟩, rfl, rfl, rfl⟩, ⟨rfl, rfl⟩, ⟨rfl, hk.symm⟩, trivial⟩, wX _ _, trivial⟩
  clear bB
  have v0 : ∀ bT bM n S, live (HTW bT bM m k n S [(100, eX)]) 100 := fun _ _ _ _ => vX
  have hwk : ∀ {bT bM n S}, wkH (tau []) (HTW bT bM m k n S [(100, eX)]) (HTW bT bM m k n S [(100, eX)]) (HTW bT bM m k n S [(100, eX)]) := HTW.wk (rest := [(100, eX)]) rfl rfl rfl trivial ⟨wX _ _, trivial⟩
  refine W_seq (nx := 30) ?_
  refine W_some (nx := 30) (fun _ : Nat × Nat => True) (fun _ => [(0, .slice 100 0 len cap), (5, .int .i64 m), (6, .int .i64 k), (7, .ptr 8 0 0)]) (fun b => HTW b.1 b.2 m k 0 [] [(100, eX)]) 30 ?_ ?_
  · refine vc_sound hE 40 _ _ _ 30 ?_
    refine ⟨m, k, rfl, g100, fun q => absurd (show mayI m k from ⟨hm1, hk1⟩) q, fun _ => ⟨⟨rfl, rfl⟩, fun bT bM => ?_⟩⟩
    exact ⟨(bT, bM), trivial, rfl, rfl, rfl, rfl, rfl, trivial⟩
  rintro ⟨bT, bM⟩ _
  refine W_seq (nx := 30) ?_
  refine W_keep (nx := 30) [(0, .slice 100 0 len cap), (5, .int .i64 m), (6, .int .i64 k), (7, .ptr 8 0 0)] (HTW bT bM m k 0 [] [(100, eX)]) 30 ?_ ?_
  · refine vc_sound hE 60 _ _ _ 30 ?_
    exact ⟨rfl, rfl, rfl, rfl, rfl, trivial⟩
  refine W_seq (nx := 30) ?_
  refine W_piece (nx := 30) (fun _ _ _ => True) ?_ ?_
  rotate_left
  · intro σ1 h1 _ _
    refine vc_sound hE 60 _ _ _ 30 ?_
    rfl
  refine vc_sound hE 5 _ _ _ 30 ?_
  have v00 := v0 bT bM 0 []
  refine W_loop (fun q σ h => ∃ (i : Nat) (n : Int) (S Dp Ap : List Pl), q = len - i ∧ i ≤ len ∧ i ≤ 150 ∧ 0 ≤ n ∧ n ≤ (i : Int) ∧ Rl n S Dp Ap ∧ (Dp.length : Int) ≤ m ∧ (Ap.length : Int) ≤ k ∧ (∀ p ∈ S, 1 ≤ p.t ∧ p.t ≤ 40) ∧ σ = [(0, .slice 100 0 len cap), (5, .int .i64 m), (6, .int .i64 k), (7, .ptr 8 0 0), (9, .int .i64 (i : Int))] ∧ h = HTW bT bM m k n S [(100, eX)])
    len ⟨0, 0, [], [], [], rfl, by omega, by omega, by omega, by omega, Rl.nil, by simp; omega, by simp; omega, by simp, rfl, rfl⟩ (tau []) ⟨rfl, (by repeat' (first | exact rfl | exact trivial | assumption | refine ⟨?_, ?_⟩)), hwk⟩ 60 ?_
  clear v00
  rintro q σ h1 ⟨i, n, S, Dp, Ap, rfl, hi, hi150, hn0, hni, R, hdl, hal, hT, rfl, rfl⟩
  have hSl := R.len
  have hB : Bnd m k n S := ⟨by omega, by omega, by omega, by omega⟩
  have v := v0 bT bM n S
  refine W_seq (nx := 60) ?_
  refine W_piece (nx := 60) (fun σ1 h1 _ => (i < len ∧ i < 150) ∧ h1 = HTW bT bM m k n S [(100, eX)] ∧ subS σ1 [(0, .slice 100 0 len cap), (5, .int .i64 m), (6, .int .i64 k), (7, .ptr 8 0 0), (9, .int .i64 (i : Int))]) ?_ ?_
  · refine vc_sound hE 60 _ _ _ 60 ?_
    (refine (?_ : br _ _ _); refine br_dec (fun q => ?_) (fun q => ?_))
    · have q1 : (i : Int) < (len : Int) := q
      (refine (?_ : br _ _ _); refine br_dec (fun q => ?_) (fun q => ?_))
      · have q2 : (i : Int) < 150 := by assumption
        exact ⟨⟨by omega, by omega⟩, rfl, rfl, rfl, rfl, rfl, rfl, trivial⟩
      · exact trivial
    · exact trivial
  rintro σ1 h1 _ ⟨⟨hil, hi3⟩, rfl, hs⟩
  refine W_sub (nx' := 60) hs ?_
  clear hs
  have hwi : IntKind.i64.wrap ((i : Int) + 1) = ((i + 1 : Nat) : Int) := by simp only [IntKind.wrap_i64]; omega
  refine W_seq (nx := 60) ?_
  refine W_piece (nx := 60) (fun σ1 h1 _ => ∃ (n' : Int) (S' Dp' Ap' : List Pl), 0 ≤ n' ∧ n' ≤ ((i + 1 : Nat) : Int) ∧ Rl n' S' Dp' Ap' ∧ (Dp'.length : Int) ≤ m ∧ (Ap'.length : Int) ≤ k ∧ (∀ p ∈ S', 1 ≤ p.t ∧ p.t ≤ 40) ∧ subS σ1 [(0, .slice 100 0 len cap), (5, .int .i64 m), (6, .int .i64 k), (7, .ptr 8 0 0), (9, .int .i64 (i : Int))] ∧ h1 = HTW bT bM m k n' S' [(100, eX)]) ?_ ?_
  rotate_left
  · rintro σ1 h1 _ ⟨n', S', Dp', Ap', hn0, hni, R, hdl, hal, hT, hs, rfl⟩
    refine W_sub (nx' := 60) hs ?_
    refine vc_sound hE 60 _ _ _ 60 ?_
    have v := v0 bT bM n' S'
    exact ⟨len - (i + 1), _, _, by omega, ⟨i + 1, n', S', Dp', Ap', rfl, by omega, by omega, hn0, hni, R, hdl, hal, hT, rfl, rfl⟩, tau [], rfl, (by repeat' (first | exact rfl | exact trivial | assumption | refine ⟨?_, ?_⟩)), hwk⟩
  refine vc_sound hE 1 _ _ _ 60 ?_
  refine W_seq (nx := 60) ?_
  refine W_piece (nx := 60) (fun σ1 h1 _ => (1 ≤ z (addI 0 ((i : Int)).toNat) 1 ∧ z (addI 0 ((i : Int)).toNat) 1 ≤ 40) ∧ h1 = HTW bT bM m k n S [(100, eX)] ∧ subS σ1 [(0, .slice 100 0 len cap), (5, .int .i64 m), (6, .int .i64 k), (7, .ptr 8 0 0), (9, .int .i64 (i : Int))]) ?_ ?_
  · subst hX
    refine vc_sound hE 60 _ _ _ 60 ?_
    (refine (?_ : chk _ _); refine chk_ok (show (decide ((0 : Int) ≤ (i : Int)) && decide ((i : Int) < (len : Int))) = true by simp only [Bool.and_eq_true, decide_eq_true_eq]; omega) ?_)
    (refine (?_ : chk _ _); refine chk_ok rfl ?_)
    (refine (?_ : chk _ _); refine chk_ok (Nat.ble_eq_true_of_le (show addI 0 ((i : Int)).toNat * 3 + (0 + 1) + 1 ≤ len * 3 by rw [nat0]; omega)) ?_)
    (refine (?_ : br _ _ _); refine br_dec (fun q => ?_) (fun q => ?_))
    · exact ⟨n, S, Dp, Ap, hn0, by omega, R, hdl, hal, hT, ⟨rfl, rfl, rfl, rfl, rfl, trivial⟩, rfl⟩
    · have q1 : ¬ z (addI 0 ((i : Int)).toNat) 1 < 1 := q
      (refine (?_ : chk _ _); refine chk_ok (show (decide ((0 : Int) ≤ (i : Int)) && decide ((i : Int) < (len : Int))) = true by simp only [Bool.and_eq_true, decide_eq_true_eq]; omega) ?_)
      (refine (?_ : chk _ _); refine chk_ok rfl ?_)
      (refine (?_ : chk _ _); refine chk_ok (Nat.ble_eq_true_of_le (show addI 0 ((i : Int)).toNat * 3 + (0 + 1) + 1 ≤ len * 3 by rw [nat0]; omega)) ?_)
      (refine (?_ : br _ _ _); refine br_dec (fun q => ?_) (fun q => ?_))
      · exact ⟨n, S, Dp, Ap, hn0, by omega, R, hdl, hal, hT, ⟨rfl, rfl, rfl, rfl, rfl, trivial⟩, rfl⟩
      · have q2 : ¬ z (addI 0 ((i : Int)).toNat) 1 > 40 := by assumption
        exact ⟨⟨by omega, by omega⟩, rfl, rfl, rfl, rfl, rfl, rfl, trivial⟩
  rintro σ1 h1 _ ⟨hz, rfl, hs⟩
  refine W_sub (nx' := 60) hs ?_
  clear hs
  refine W_seq (nx := 60) ?_
  refine W_ex (nx := 60) (fun (x : Int × List Pl × List Pl × List Pl) => 0 ≤ x.1 ∧ x.1 ≤ ((i + 1 : Nat) : Int) ∧ Rl x.1 x.2.1 x.2.2.1 x.2.2.2 ∧ (x.2.2.1.length : Int) ≤ m ∧ (x.2.2.2.length : Int) ≤ k ∧ ∀ p ∈ x.2.1, 1 ≤ p.t ∧ p.t ≤ 40) (fun _ => [(0, .slice 100 0 len cap), (5, .int .i64 m), (6, .int .i64 k), (7, .ptr 8 0 0), (9, .int .i64 (i : Int))]) (fun x => HTW bT bM m k x.1 x.2.1 [(100, eX)]) 60 ?_ ?_
  · obtain ⟨Dp', Ap', R', he, hD', hA', hn1, hn2, hd', ha'⟩ := R.act m k (z (addI 0 ((i : Int)).toNat) 0) (z (addI 0 ((i : Int)).toNat) 1) (p (addI 0 ((i : Int)).toNat) 2)
    have hT' : ∀ q ∈ (actT m k n S (z (addI 0 ((i : Int)).toNat) 0) (z (addI 0 ((i : Int)).toNat) 1) (p (addI 0 ((i : Int)).toNat) 2)).S, 1 ≤ q.t ∧ q.t ≤ 40 := fun q hq => by
      rcases actT_t hq with ⟨y, hy, e⟩ | e
      · rw [← e]; exact hT y hy
      · rw [e]; exact hz
    subst hX
    have gS : ∀ b, GoneS (HDc b 1 1 19 20 [] [] noE noE 0 0 (HTW bT bM m k n S [(100, .ro ub len 3 (gAct z p))])) := fun b => ⟨by repeat' (first | exact gone_nil | refine Gone.cons ?_ (by omega)), ⟨fun u h1 h2 => by rw [fd_HDc (by omega) (by omega) (by omega), fd_HTW (by omega) (by omega), fd_cons, if_neg (by omega)]; rfl, rfl, rfl⟩, rfl⟩
    refine vc_sound hE 1 _ _ _ 60 ?_
    refine W_planw hE 60 [1, 6] (.take 0 (.take 2 (.take 3 (.all (.cons 1 (.all (.cons 4 (.all (.cons 5 (.all (.cons 6 (.done) (.nil))) (.nil))) (.nil))) (.cons 4 (.all (.cons 1 (.all (.cons 5 (.all (.cons 6 (.done) (.nil))) (.nil))) (.cons 5 (.all (.cons 1 (.all (.cons 6 (.done) (.nil))) (.nil))) (.nil)))) (.nil))))))) (by rw [hc]; exact mix) (by kernel_rfl) 31 ?_
    iterate 3 (refine ⟨_, ⟨rfl, rfl⟩, ?_⟩)
    refine putS_some rfl ?_
    refine ⟨⟨trivial, ?_⟩, ⟨(show chk _ _ from chk_ok (show (decide ((0 : Int) ≤ (i : Int)) && decide ((i : Int) < (len : Int))) = true by simp only [Bool.and_eq_true, decide_eq_true_eq]; omega) (show chk _ _ from chk_ok rfl trivial)), ?_⟩, trivial⟩
    · refine ⟨1, 1, rfl, rfl, rfl, rfl, rfl, fun b => ?_⟩
      refine putS_some rfl ?_
      refine ⟨⟨(show chk _ _ from chk_ok (show (decide ((0 : Int) ≤ (i : Int)) && decide ((i : Int) < (len : Int))) = true by simp only [Bool.and_eq_true, decide_eq_true_eq]; omega) (show chk _ _ from chk_ok rfl trivial)), ?_⟩, trivial⟩
      (refine (?_ : chk _ _); refine chk_ok (show (decide ((0 : Int) ≤ (i : Int)) && decide ((i : Int) < (len : Int))) = true by simp only [Bool.and_eq_true, decide_eq_true_eq]; omega) ?_)
      (refine (?_ : chk _ _); refine chk_ok rfl ?_)
      refine ⟨⟨(show chk _ _ from chk_ok (Nat.ble_eq_true_of_le (show addI 0 ((i : Int)).toNat * 3 + 0 + 3 ≤ len * 3 by rw [nat0]; omega)) trivial), ?_⟩, trivial⟩
      (refine (?_ : chk _ _); refine chk_ok (Nat.ble_eq_true_of_le (show addI 0 ((i : Int)).toNat * 3 + 0 + 3 ≤ len * 3 by rw [nat0]; omega)) ?_)
      refine ⟨⟨trivial, ⟨bT, bM, m, k, n, S, b, 1, 1, [], [], noE, noE, 0, 0, z (addI 0 ((i : Int)).toNat) 0, z (addI 0 ((i : Int)).toNat) 1, p (addI 0 ((i : Int)).toNat) 2, rfl, ⟨rfl, rfl⟩, hB, ⟨rfl, rfl, rfl, noE_lst, noE_lst⟩, gS b, by simp, by simp, fun td ta eD' eA' cD' cA' htd hta lD lA => ?_⟩⟩, trivial⟩
      rcases htd with rfl | rfl <;> rcases hta with rfl | rfl <;> exact ⟨(_, _, Dp', Ap'), ⟨Int.le_trans hn0 hn1, Int.le_trans hn2 (by omega), R', hd' hdl, ha' hal, hT'⟩, tau [], rfl, (by repeat' (first | exact rfl | exact trivial | assumption | refine ⟨?_, ?_⟩)), HTW.wk (rest := [(100, .ro ub len 3 (gAct z p))]) rfl rfl rfl trivial ⟨gMix_wk _ _, trivial⟩⟩
    · (refine (?_ : chk _ _); refine chk_ok (show (decide ((0 : Int) ≤ (i : Int)) && decide ((i : Int) < (len : Int))) = true by simp only [Bool.and_eq_true, decide_eq_true_eq]; omega) ?_)
      (refine (?_ : chk _ _); refine chk_ok rfl ?_)
      refine ⟨⟨trivial, ?_⟩, ⟨(show chk _ _ from chk_ok (Nat.ble_eq_true_of_le (show addI 0 ((i : Int)).toNat * 3 + 0 + 3 ≤ len * 3 by rw [nat0]; omega)) trivial), ?_⟩, trivial⟩
      · refine ⟨1, 1, rfl, rfl, rfl, rfl, rfl, fun b => ?_⟩
        refine putS_some rfl ?_
        refine ⟨⟨(show chk _ _ from chk_ok (Nat.ble_eq_true_of_le (show addI 0 ((i : Int)).toNat * 3 + 0 + 3 ≤ len * 3 by rw [nat0]; omega)) trivial), ?_⟩, trivial⟩
        (refine (?_ : chk _ _); refine chk_ok (Nat.ble_eq_true_of_le (show addI 0 ((i : Int)).toNat * 3 + 0 + 3 ≤ len * 3 by rw [nat0]; omega)) ?_)
        refine ⟨⟨trivial, ⟨bT, bM, m, k, n, S, b, 1, 1, [], [], noE, noE, 0, 0, z (addI 0 ((i : Int)).toNat) 0, z (addI 0 ((i : Int)).toNat) 1, p (addI 0 ((i : Int)).toNat) 2, rfl, ⟨rfl, rfl⟩, hB, ⟨rfl, rfl, rfl, noE_lst, noE_lst⟩, gS b, by simp, by simp, fun td ta eD' eA' cD' cA' htd hta lD lA => ?_⟩⟩, trivial⟩
        rcases htd with rfl | rfl <;> rcases hta with rfl | rfl <;> exact ⟨(_, _, Dp', Ap'), ⟨Int.le_trans hn0 hn1, Int.le_trans hn2 (by omega), R', hd' hdl, ha' hal, hT'⟩, tau [], rfl, (by repeat' (first | exact rfl | exact trivial | assumption | refine ⟨?_, ?_⟩)), HTW.wk (rest := [(100, .ro ub len 3 (gAct z p))]) rfl rfl rfl trivial ⟨gMix_wk _ _, trivial⟩⟩
      · (refine (?_ : chk _ _); refine chk_ok (Nat.ble_eq_true_of_le (show addI 0 ((i : Int)).toNat * 3 + 0 + 3 ≤ len * 3 by rw [nat0]; omega)) ?_)
        refine ⟨⟨trivial, ?_⟩, trivial⟩
        refine ⟨1, 1, rfl, rfl, rfl, rfl, rfl, fun b => ?_⟩
        refine putS_some rfl ?_
        refine ⟨⟨trivial, ⟨bT, bM, m, k, n, S, b, 1, 1, [], [], noE, noE, 0, 0, z (addI 0 ((i : Int)).toNat) 0, z (addI 0 ((i : Int)).toNat) 1, p (addI 0 ((i : Int)).toNat) 2, rfl, ⟨rfl, rfl⟩, hB, ⟨rfl, rfl, rfl, noE_lst, noE_lst⟩, gS b, by simp, by simp, fun td ta eD' eA' cD' cA' htd hta lD lA => ?_⟩⟩, trivial⟩
        rcases htd with rfl | rfl <;> rcases hta with rfl | rfl <;> exact ⟨(_, _, Dp', Ap'), ⟨Int.le_trans hn0 hn1, Int.le_trans hn2 (by omega), R', hd' hdl, ha' hal, hT'⟩, tau [], rfl, (by repeat' (first | exact rfl | exact trivial | assumption | refine ⟨?_, ?_⟩)), HTW.wk (rest := [(100, .ro ub len 3 (gAct z p))]) rfl rfl rfl trivial ⟨gMix_wk _ _, trivial⟩⟩
  clear v R hB hSl hdl hal hni hn0 hT
  rintro ⟨n', S', Dp', Ap'⟩ ⟨hn0, hni, R, hdl, hal, hT⟩
  have hn0 : 0 ≤ n' := hn0
  have hni : n' ≤ ((i + 1 : Nat) : Int) := hni
  have R : Rl n' S' Dp' Ap' := R
  have hdl : (Dp'.length : Int) ≤ m := hdl
  have hal : (Ap'.length : Int) ≤ k := hal
  have hT : ∀ p ∈ S', 1 ≤ p.t ∧ p.t ≤ 40 := hT
  show W _ _ _ (HTW bT bM m k n' S' [(100, eX)]) _
  have hSl := R.len
  have hcn := R.cnt
  have v := v0 bT bM n' S'
  refine W_seq (nx := 60) ?_
  refine W_keep (nx := 60) [(0, .slice 100 0 len cap), (5, .int .i64 m), (6, .int .i64 k), (7, .ptr 8 0 0), (9, .int .i64 (i : Int)), (10, .int .i64 (m - cntP false S')), (11, .int .i64 (k - cntP true S'))] (HTW bT bM m k n' S' [(100, eX)]) 60 ?_ ?_
  · refine vc_sound hE 60 _ _ _ 60 ?_
    refine ⟨bT, bM, m, k, n', S', rfl, HTW.at.rd, by omega, by omega, by omega, ?_⟩
    exact ⟨rfl, rfl, rfl, rfl, rfl, rfl, rfl, rfl, trivial⟩
  refine W_seq (nx := 60) ?_
  refine W_to (nx := 60) [(0, .slice 100 0 len cap), (5, .int .i64 m), (6, .int .i64 k), (7, .ptr 8 0 0), (9, .int .i64 (i : Int)), (10, .int .i64 m), (11, .int .i64 k)] (HTW bT bM m k n' S' [(100, eX)]) 60 ?_ ?_
  rotate_left
  · refine vc_sound hE 60 _ _ _ 60 ?_
    (refine (?_ : br _ _ _); refine br_f (by simp) ?_)
    (refine (?_ : br _ _ _); refine br_f (by simp) ?_)
    exact ⟨n', S', Dp', Ap', hn0, hni, R, hdl, hal, hT, ⟨rfl, rfl, rfl, rfl, rfl, trivial⟩, rfl⟩
  refine vc_sound hE 5 _ _ _ 60 ?_
  have cle := fun b : Bool => cnt_le (b := b) (S := S')
  have cf := cle false
  have ca := cle true
  refine W_loop (fun q σ h => ∃ (j : Nat), q = 41 - j ∧ 1 ≤ j ∧ j ≤ 41 ∧ σ = [(0, .slice 100 0 len cap), (5, .int .i64 m), (6, .int .i64 k), (7, .ptr 8 0 0), (9, .int .i64 (i : Int)), (10, .int .i64 (m - cntP false S' + cntB false j S')), (11, .int .i64 (k - cntP true S' + cntB true j S')), (12, .int .i64 (j : Int))] ∧ h = HTW bT bM m k n' S' [(100, eX)])
    40 ⟨1, rfl, by omega, by omega, rfl, rfl⟩ (tau []) ⟨rfl, ⟨⟨⟨rfl, v⟩, rfl, rfl, rfl⟩, ⟨rfl, rfl⟩, ⟨rfl, rfl⟩, ⟨⟨rfl, trivial⟩, rfl, rfl⟩, ⟨rfl, rfl⟩, ⟨rfl, by have : cntB false ((1 : Nat) : Int) S' = 0 := cntB_one hT; omega⟩, ⟨rfl, by have : cntB true ((1 : Nat) : Int) S' = 0 := cntB_one hT; omega⟩, ⟨rfl, rfl⟩, trivial⟩, hwk⟩ 60 ?_
  rintro q σ h1 ⟨j, rfl, hj1, hj41, rfl, rfl⟩
  have hwj : IntKind.i64.wrap ((j : Int) + 1) = ((j + 1 : Nat) : Int) := by simp only [IntKind.wrap_i64]; omega
  have hj' : ((j + 1 : Nat) : Int) = (j : Int) + 1 := by omega
  obtain ⟨bh, hbh⟩ : ∃ b, b = hasP S' (j : Int) := ⟨_, rfl⟩
  obtain ⟨ba, hba⟩ : ∃ b, b = (getP S' (j : Int)).a := ⟨_, rfl⟩
  have s0 := cntB_step (b := false) (j := (j : Int)) R.nd
  have s1 := cntB_step (b := true) (j := (j : Int)) R.nd
  rw [← hbh, ← hba, ← hj'] at s0 s1
  have l0 : cntB false ((j + 1 : Nat) : Int) S' ≤ S'.length := List.length_filter_le _ _
  have l1 : cntB true ((j + 1 : Nat) : Int) S' ≤ S'.length := List.length_filter_le _ _
  refine vc_sound hE 60 _ _ _ 60 ?_
  (refine (?_ : br _ _ _); refine br_dec (fun q => ?_) (fun q => ?_))
  rotate_left
  · have q1 : ¬ (j : Int) ≤ 40 := q
    have hj : ((j : Nat) : Int) = 41 := by omega
    exact ⟨tau [], rfl, ⟨⟨⟨rfl, v⟩, rfl, rfl, rfl⟩, ⟨rfl, rfl⟩, ⟨rfl, rfl⟩, ⟨⟨rfl, trivial⟩, rfl, rfl⟩, ⟨rfl, rfl⟩, ⟨rfl, by rw [hj, cntB_all hT]; omega⟩, ⟨rfl, by rw [hj, cntB_all hT]; omega⟩, trivial⟩, hwk⟩
  have q1 : (j : Int) ≤ 40 := q
  refine ⟨bT, bM, m, k, n', S', (j : Int), rfl, HTW.at.rd, ?_⟩
  rw [← hbh, ← hba]
  cases bh <;> cases ba <;> simp only [eq_self, reduceCtorEq, true_and, and_true, and_false, false_and, if_true, if_false, Nat.add_zero] at s0 s1
  · exact ⟨41 - (j + 1), _, _, by omega, ⟨j + 1, rfl, by omega, by omega, rfl, rfl⟩, tau [], rfl, ⟨⟨⟨rfl, v⟩, rfl, rfl, rfl⟩, ⟨rfl, rfl⟩, ⟨rfl, rfl⟩, ⟨⟨rfl, trivial⟩, rfl, rfl⟩, ⟨rfl, rfl⟩, ⟨rfl, by omega⟩, ⟨rfl, by omega⟩, ⟨rfl, hwj⟩, trivial⟩, hwk⟩
  · exact ⟨41 - (j + 1), _, _, by omega, ⟨j + 1, rfl, by omega, by omega, rfl, rfl⟩, tau [], rfl, ⟨⟨⟨rfl, v⟩, rfl, rfl, rfl⟩, ⟨rfl, rfl⟩, ⟨rfl, rfl⟩, ⟨⟨rfl, trivial⟩, rfl, rfl⟩, ⟨rfl, rfl⟩, ⟨rfl, by omega⟩, ⟨rfl, by omega⟩, ⟨rfl, hwj⟩, trivial⟩, hwk⟩
  · exact ⟨41 - (j + 1), _, _, by omega, ⟨j + 1, rfl, by omega, by omega, rfl, rfl⟩, tau [], rfl, ⟨⟨⟨rfl, v⟩, rfl, rfl, rfl⟩, ⟨rfl, rfl⟩, ⟨rfl, rfl⟩, ⟨⟨rfl, trivial⟩, rfl, rfl⟩, ⟨rfl, rfl⟩, ⟨rfl, by simp only [IntKind.wrap_i64]; omega⟩, ⟨rfl, by omega⟩, ⟨rfl, hwj⟩, trivial⟩, hwk⟩
  · exact ⟨41 - (j + 1), _, _, by omega, ⟨j + 1, rfl, by omega, by omega, rfl, rfl⟩, tau [], rfl, ⟨⟨⟨rfl, v⟩, rfl, rfl, rfl⟩, ⟨rfl, rfl⟩, ⟨rfl, rfl⟩, ⟨⟨rfl, trivial⟩, rfl, rfl⟩, ⟨rfl, rfl⟩, ⟨rfl, by omega⟩, ⟨rfl, by simp only [IntKind.wrap_i64]; omega⟩, ⟨rfl, hwj⟩, trivial⟩, hwk⟩
def sLaw7 : Spec := fun args h nx K => ∃ (ub : Option Addr) (len cap : Nat) (z : Nat → Nat → Int) (p : Nat → Nat → Bool) (u0 u1 : Int), args = [.slice 100 0 len cap, .agg [.int .u8 u0, .int .u8 u1]] ∧ h = [(100, .ro ub len 3 (gMix ckA z p))] ∧ len ≤ 9223372036854775807 ∧ (0 ≤ u0 ∧ u0 < 256) ∧ (0 ≤ u1 ∧ u1 < 256) ∧ K (.ret (.bool true)) h nx
theorem sLaw7_ok : SpecOK Try.prog 7 sLaw7 := by
  refine specOK_read (fn := Try.f7) rfl rfl rfl T_ok (SP := SP7) sp7 0 _ ?_
  rintro args h nx K ⟨ub, len, cap, z, p, u0, u1, rfl, rfl, hlen, hu0, hu1, hk⟩
  refine ⟨[(100, .ro ub len 3 (gMix ckA z p))], ⟨fun i c hi hc => by
    match c with
    | 0 => exact trivial
    | 1 => exact trivial
    | c + 2 => exact trivial, trivial⟩, ⟨⟨rfl, _, _, _, _, rfl⟩, trivial⟩, ⟨rfl, ⟨trivial, trivial, trivial⟩, trivial⟩, by simp [Try.f7], fun o => o = .ret (.bool true), ?_, ?_⟩
  · rintro o rfl
    exact ⟨trivial, hk⟩
  · intro c hc
    obtain ⟨cd, h1, h2⟩ := counts_walk hc (ub := ub) (cap := cap) (z := z) (p := p) hlen hu0.1 hu0.2 hu1.1 hu1.2
    cases h1
    exact h2
end Go.Proofs.Ytgcnknhfphgfnaa.Sx
