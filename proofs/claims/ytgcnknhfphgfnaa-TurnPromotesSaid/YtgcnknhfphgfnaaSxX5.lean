import Derived.Test.YtgcnknhfphgfnaaSxX4
/-
  The walk of TurnPromotes.
-/
namespace Go.Proofs.Ytgcnknhfphgfnaa.Sx
open Go Go.Proofs
set_option maxRecDepth 100000
set_option linter.unusedSimpArgs false
set_option linter.unusedVariables false

def RI : RK Int := ⟨1, 3, fun x _ => .int .i64 x, 0, by decide, fun a k hk => ⟨trivial, rfl⟩⟩
theorem appTI : appTK RI T 35 := ⟨_, _, rfl, rfl, rfl, rfl, rfl, rfl, fun k hk => by
  match k, hk with
  | 0, _ => rfl⟩
theorem rdKI {h : Hp} {v : V} {l : List Int} (H : rdK RI h v l) : rdL h v l := by
  rcases H with h0 | ⟨t, i, c, b, N, g, e0, e, h1, h2⟩
  · exact .inl h0
  · refine .inr ⟨t, i, c, b, N, g, e0, e, h1, fun j hj => ?_⟩
    have := h2 j (l.getD j 0) (by rw [List.getD_eq_getElem?_getD, List.getElem?_eq_getElem hj]; rfl) 0 (by decide)
    exact this
theorem HTW.tl {bT bM : Nat} {d a n : Int} {S : List Pl} {h h' rest : Hp} (e8 : fd 8 h = .blk bT 1 4 (gTn d a n) 56) (e9 : fd 9 h = .mp bM (mpP S)) (e9' : fd 9 h' = .mp bM (mpP S)) {τ : Nat → Nat} (t8 : τ 8 = 8) (t9 : τ 9 = 9) (hr : tlH τ h h' rest) : tlH τ h h' (HTW bT bM d a n S rest) := by
  refine ⟨.inr (.inr ?_), .inr (.inr ?_), hr⟩
  · rw [t8, e8]
    refine ⟨rfl, rfl, rfl, rfl, fun i c hi hc => ?_⟩
    obtain rfl : i = 0 := by omega
    match c, hc with
    | 0, _ => exact tell_map (by rw [e9', e9])
    | 1, _ => exact tell_flat trivial
    | 2, _ => exact tell_flat trivial
    | 3, _ => exact tell_flat trivial
  · rw [t9, e9]; exact ⟨rfl, rfl⟩
/-- Both rows get a place. -/
theorem Rl.puts {i : Nat} {S Dp Ap : List Pl} {n : Int} (R : Rl n S Dp Ap) (hi1 : 1 ≤ i) (hi : i ≤ 20) (hD : Dp.length = i - 1) (hA : Ap.length = i - 1) (hd : ∀ p ∈ Dp, p.t < (i : Int)) (ha : ∀ p ∈ Ap, 20 < p.t ∧ p.t < 20 + (i : Int)) :
    ∃ S1, putR 60 20 n S (i : Int) false = ⟨0, n + 1, S1⟩ ∧ Rl (n + 1) S1 (Dp ++ [⟨(i : Int), n + 1, false, true⟩]) Ap ∧ ∃ S2, putR 60 20 (n + 1) S1 (20 + (i : Int)) true = ⟨0, n + 1 + 1, S2⟩ ∧ Rl (n + 1 + 1) S2 (Dp ++ [⟨(i : Int), n + 1, false, true⟩]) (Ap ++ [⟨20 + (i : Int), n + 1 + 1, true, true⟩]) := by
  have no1 : hasP S (i : Int) = false := by
    cases hh : hasP S (i : Int) with
    | false => rfl
    | true =>
      obtain ⟨p, hp, ht⟩ := hasP_iff.1 hh
      rcases R.mem.1 hp with h | h
      · have := hd p h; omega
      · have := ha p h; omega
  have hc := R.cnt
  have e1 : putR 60 20 n S (i : Int) false = ⟨0, n + 1, setP S ⟨(i : Int), n + 1, false, true⟩⟩ := by
    unfold putR
    rw [if_neg (by omega), if_neg (by rw [no1]; decide), if_pos (by unfold frI; rw [if_neg (by decide)]; omega)]
  have R1 := (R.add (p := ⟨(i : Int), n + 1, false, true⟩) no1 rfl).1 rfl
  have no2 : hasP (setP S ⟨(i : Int), n + 1, false, true⟩) (20 + (i : Int)) = false := by
    cases hh : hasP (setP S ⟨(i : Int), n + 1, false, true⟩) (20 + (i : Int)) with
    | false => rfl
    | true =>
      obtain ⟨p, hp, ht⟩ := hasP_iff.1 hh
      rcases R1.mem.1 hp with h | h
      · rcases List.mem_append.1 h with h | h
        · have := hd p h; omega
        · have : p = ⟨(i : Int), n + 1, false, true⟩ := by simpa using h
          rw [this] at ht
          have ht : (i : Int) = 20 + (i : Int) := ht
          omega
      · have := ha p h; omega
  have hc1 := R1.cnt
  have e2 : putR 60 20 (n + 1) (setP S ⟨(i : Int), n + 1, false, true⟩) (20 + (i : Int)) true = ⟨0, n + 1 + 1, setP (setP S ⟨(i : Int), n + 1, false, true⟩) ⟨20 + (i : Int), n + 1 + 1, true, true⟩⟩ := by
    unfold putR
    rw [if_neg (by omega), if_neg (by rw [no2]; decide), if_pos (by unfold frI; rw [if_pos rfl]; omega)]
  exact ⟨_, e1, R1, _, e2, (R1.add (p := ⟨20 + (i : Int), n + 1 + 1, true, true⟩) no2 rfl).2 rfl⟩
/-- One moves over, and does not again. -/
theorem Rl.proms {S Dp Ap : List Pl} {n : Int} {k : Nat} {x : Pl} (R : Rl n S Dp Ap) (hk : Ap[k]? = some x) (hl : Dp.length < 60) :
    ∃ S1, promR 60 20 n S x.t = ⟨0, n + 1, S1⟩ ∧ promR 60 20 (n + 1) S1 x.t = ⟨5, n + 1, S1⟩ ∧ Rl (n + 1) S1 (Dp ++ [{ x with n := n + 1, a := false }]) (Ap.eraseIdx k) := by
  have hm : x ∈ S := R.mem.2 (.inr (List.mem_of_getElem? hk))
  have hxa : x.a = true := R.aa _ (List.mem_of_getElem? hk)
  have hh : hasP S x.t = true := hasP_iff.2 ⟨x, hm, rfl⟩
  have hc := R.cnt
  have R1 := R.move (q := { x with n := n + 1, a := false }) hk rfl rfl rfl
  have e1 : promR 60 20 n S x.t = ⟨0, n + 1, setP S { x with n := n + 1, a := false }⟩ := by
    unfold promR
    rw [if_pos hh, R.get hm, if_pos hxa, if_pos (by unfold frI; rw [if_neg (by decide)]; omega)]
  have hm1 : ({ x with n := n + 1, a := false } : Pl) ∈ setP S { x with n := n + 1, a := false } := R1.mem.2 (.inl (by simp))
  have hg : getP (setP S { x with n := n + 1, a := false }) x.t = { x with n := n + 1, a := false } := R1.get hm1
  refine ⟨_, e1, ?_, R1⟩
  unfold promR
  rw [if_pos (hasP_iff.2 ⟨_, hm1, rfl⟩), hg, if_neg (by simp)]
theorem wt_all {L : List Pl} (h : ∀ p ∈ L, p.w = true) : wtI (dl L) = L.map (·.t) := by
  unfold wtI dl
  rw [List.filter_map, List.map_map]
  show (List.filter (fun p : Pl => p.w) L).map (fun p : Pl => p.t) = _
  rw [List.filter_eq_self.2 (fun p hp => h p hp)]
def SP4 : SpT := [(8, sAwake), (9, sNew), (12, sFree), (13, sWaiting), (16, sInts), (17, sPut), (18, sProm)]
theorem sp4 : ∀ p ∈ SP4, SpecOK Try.prog p.1 p.2 := consSP sAwake_ok (consSP sNew_ok (consSP sFree_ok (consSP sWaiting_ok (consSP sInts_ok (consSP sPut_ok (consSP sProm_ok noSP))))))
theorem promotes_walk {c : Cx} (hc : c.P = Try.prog) {ub : Option Addr} {len cap : Nat} {z : Nat → Int} (hlen : len ≤ 9223372036854775807) (hz : ∀ i, i < len → 0 ≤ z i ∧ z i ≤ 255) :
    ∃ cd, Try.f4.body = some cd ∧ W ⟨c, Try.f4, T, SP4, fun o _ _ => o = .ret (.bool true)⟩ [.code cd] (argsS [.slice 100 0 len cap] 0) [(100, .ro ub len 1 (g1 .u8 z))] 0 := by
  refine ⟨_, rfl, ?_⟩
  have hE := mkE' (fn := Try.f4) (R := fun o _ _ => o = .ret (.bool true)) hc sp4
  obtain ⟨eX, hX⟩ : ∃ eX : Ent, eX = .ro ub len 1 (g1 .u8 z) := ⟨_, rfl⟩
  have wX : ∀ τ h', wkE τ h' eX eX := fun τ h' => by rw [hX]; exact ⟨rfl, rfl, rfl, fun i c hi hc => ⟨rfl, rfl⟩⟩
  have tX : ∀ h1 h2, tellE2 h1 h2 eX eX := fun h1 h2 => by rw [hX]; exact ⟨rfl, Nat.le_refl _, rfl, fun i c hi hc => tell_flat trivial⟩
  rw [← hX]
  have vX : eX.here := by rw [hX]; trivial
  have g100 : Gone 60 [(100, eX)] := Gone.cons gone_nil (by omega)
  refine W_seq (nx := 30) ?_
  refine W_keep (nx := 30) [(0, .slice 100 0 len cap)] [(100, eX)] 30 ?_ ?_
  · refine vc_sound hE 20 _ _ _ 30 ?_
    exact ⟨rfl, rfl, trivial⟩
  refine W_seq (nx := 30) ?_
  refine W_keep (nx := 30) [(0, .slice 100 0 len cap)] [(100, eX)] 30 ?_ ?_
  · refine vc_sound hE 40 _ _ _ 30 ?_
    refine ⟨rfl, ?_⟩
    exact ⟨rfl, rfl, trivial⟩
  refine W_seq (nx := 30) ?_
  refine W_some (nx := 30) (fun _ : Nat × Nat => True) (fun _ => [(0, .slice 100 0 len cap), (3, .ptr 8 0 0)]) (fun b => HTW b.1 b.2 60 20 0 [] [(100, eX)]) 30 ?_ ?_
  · refine vc_sound hE 40 _ _ _ 30 ?_
    refine ⟨60, 20, rfl, g100, fun q => absurd (by unfold mayI; omega) q, fun _ => ⟨⟨rfl, rfl⟩, fun bT bM => ?_⟩⟩
    exact ⟨(bT, bM), trivial, rfl, rfl, rfl, trivial⟩
  rintro ⟨bT, bM⟩ _
  refine W_seq (nx := 30) ?_
  refine W_keep (nx := 30) [(0, .slice 100 0 len cap), (3, .ptr 8 0 0)] (HTW bT bM 60 20 0 [] [(100, eX)]) 30 ?_ ?_
  · refine vc_sound hE 60 _ _ _ 30 ?_
    exact ⟨rfl, rfl, rfl, trivial⟩
  refine W_seq (nx := 30) ?_
  refine W_keep (nx := 30) [(0, .slice 100 0 len cap), (3, .ptr 8 0 0), (5, .nils)] (HTW bT bM 60 20 0 [] [(100, eX)]) 30 ?_ ?_
  · refine vc_sound hE 60 _ _ _ 30 ?_
    exact ⟨rfl, rfl, rfl, rfl, trivial⟩
  refine W_seq (nx := 30) ?_
  refine W_keep (nx := 30) [(0, .slice 100 0 len cap), (3, .ptr 8 0 0), (5, .nils), (6, .nils)] (HTW bT bM 60 20 0 [] [(100, eX)]) 30 ?_ ?_
  · refine vc_sound hE 60 _ _ _ 30 ?_
    exact ⟨rfl, rfl, rfl, rfl, rfl, trivial⟩
  have nlK : lstK RI (.ro none 0 1 (gl [])) [] 0 := .inl ⟨rfl, rfl, _, rfl⟩
  refine W_tell (σ' := [(0, .slice 100 0 len cap), (3, .ptr 8 0 0), (5, .slice 101 0 0 0), (6, .slice 102 0 0 0)]) (h' := HTW bT bM 60 20 0 [] ((101, .ro none 0 1 (gl [])) :: (102, .ro none 0 1 (gl [])) :: [(100, eX)])) (nx' := 30) (tau []) rfl ⟨⟨_, rfl, tell_slice rfl⟩, ⟨_, rfl, tell_ptr rfl⟩, ⟨_, rfl, tell_nil (n := 0) (sz := 1) rfl⟩, ⟨_, rfl, tell_nil (n := 0) (sz := 1) rfl⟩, trivial⟩ (HTW.tl rfl rfl rfl rfl rfl ⟨.inr (.inl ⟨_, _, rfl⟩), .inr (.inl ⟨_, _, rfl⟩), .inr (.inr (tX _ _)), trivial⟩) ?_
  have v0 : ∀ bT bM n S eD eA, live (HTW bT bM 60 20 n S ((101, eD) :: (102, eA) :: [(100, eX)])) 100 := fun _ _ _ _ _ _ => vX
  refine W_seq (nx := 30) ?_
  refine W_piece (nx := 30) (fun σ1 h1 _ => ∃ (n : Int) (S Dp Ap : List Pl) (eD eA : Ent) (cD cA : Nat), n = 40 ∧ Rl n S Dp Ap ∧ Dp.length = 20 ∧ Ap.length = 20 ∧ (∀ p ∈ Dp ++ Ap, p.w = true) ∧ lstK RI eD (Dp.map (·.t)) cD ∧ lstK RI eA (Ap.map (·.t)) cA ∧ subS σ1 [(0, .slice 100 0 len cap), (3, .ptr 8 0 0), (5, .slice 101 0 (Dp.map (·.t)).length cD), (6, .slice 102 0 (Ap.map (·.t)).length cA)] ∧ h1 = HTW bT bM 60 20 n S ((101, eD) :: (102, eA) :: [(100, eX)])) ?_ ?_
  · refine vc_sound hE 5 _ _ _ 30 ?_
    refine W_loop (fun q σ h => ∃ (i : Nat) (n : Int) (S Dp Ap : List Pl) (eD eA : Ent) (cD cA : Nat), q = 21 - i ∧ 1 ≤ i ∧ i ≤ 21 ∧ n = 2 * ((i : Int) - 1) ∧ Rl n S Dp Ap ∧ Dp.length = i - 1 ∧ Ap.length = i - 1 ∧ (∀ p ∈ Dp, p.t < (i : Int)) ∧ (∀ p ∈ Ap, 20 < p.t ∧ p.t < 20 + (i : Int)) ∧ (∀ p ∈ Dp ++ Ap, p.w = true) ∧ lstK RI eD (Dp.map (·.t)) cD ∧ lstK RI eA (Ap.map (·.t)) cA ∧ σ = [(0, .slice 100 0 len cap), (3, .ptr 8 0 0), (5, .slice 101 0 (Dp.map (·.t)).length cD), (6, .slice 102 0 (Ap.map (·.t)).length cA), (7, .int .i64 (i : Int))] ∧ h = HTW bT bM 60 20 n S ((101, eD) :: (102, eA) :: [(100, eX)]))
      20 ⟨1, 0, [], [], [], .ro none 0 1 (gl []), .ro none 0 1 (gl []), 0, 0, rfl, by omega, by omega, by omega, Rl.nil, rfl, rfl, by simp, by simp, by simp, nlK, nlK, rfl, rfl⟩ (tau []) ⟨rfl, (by repeat' (first | exact rfl | exact trivial | assumption | refine ⟨?_, ?_⟩)), HTW.wk (rest := (101, .ro none 0 1 (gl [])) :: (102, .ro none 0 1 (gl [])) :: [(100, eX)]) rfl rfl rfl trivial ⟨nlK.wk _ _, nlK.wk _ _, wX _ _, trivial⟩⟩ 60 ?_
    rintro q σ h1 ⟨i, n, S, Dp, Ap, eD, eA, cD, cA, rfl, hi1, hi21, hn, R, hD, hA, hd, ha, hw, lD, lA, rfl, rfl⟩
    have hwi : IntKind.i64.wrap ((i : Int) + 1) = ((i + 1 : Nat) : Int) := by simp only [IntKind.wrap_i64]; omega
    have hSl := R.len
    have vD := lD.here
    have vA := lA.here
    have v := v0 bT bM n S eD eA
    refine W_seq (nx := 60) ?_
    refine W_piece (nx := 60) (fun σ1 h1 _ => i ≤ 20 ∧ h1 = HTW bT bM 60 20 n S ((101, eD) :: (102, eA) :: [(100, eX)]) ∧ subS σ1 [(0, .slice 100 0 len cap), (3, .ptr 8 0 0), (5, .slice 101 0 (Dp.map (·.t)).length cD), (6, .slice 102 0 (Ap.map (·.t)).length cA), (7, .int .i64 (i : Int))]) ?_ ?_
    · refine vc_sound hE 60 _ _ _ 60 ?_
      (refine (?_ : br _ _ _); refine br_dec (fun q => ?_) (fun q => ?_))
      · have q1 : (i : Int) ≤ 20 := q
        exact ⟨by omega, rfl, rfl, rfl, rfl, rfl, rfl, trivial⟩
      · have q1 : ¬ (i : Int) ≤ 20 := q
        obtain rfl : i = 21 := by omega
        exact ⟨n, S, Dp, Ap, eD, eA, cD, cA, by rw [hn]; rfl, R, hD, hA, hw, lD, lA, ⟨rfl, rfl, rfl, rfl, trivial⟩, rfl⟩
    rintro σ1 h1 _ ⟨hi20, rfl, hs⟩
    refine W_sub (nx' := 60) hs ?_
    clear hs
    generalize hDm : Dp.map (·.t) = D at lD ⊢
    generalize hAm : Ap.map (·.t) = A at lA ⊢
    have hDl : D.length = i - 1 := by rw [← hDm, List.length_map, hD]
    have hAl : A.length = i - 1 := by rw [← hAm, List.length_map, hA]
    have hB : Bnd 60 20 n S := ⟨by omega, by omega, by omega, by omega⟩
    obtain ⟨S1, q1, R1, S2, q2, R2⟩ := R.puts hi1 hi20 hD hA hd ha
    have hSl1 := R1.len
    have hSl2 := R2.len
    rw [List.length_append] at hSl1 hSl2
    rw [List.length_append] at hSl2
    simp only [List.length_cons, List.length_nil] at hSl1 hSl2
    have hB1 : Bnd 60 20 (n + 1) S1 := ⟨by omega, by omega, by omega, by omega⟩
    have h20 : IntKind.i64.wrap (20 + (i : Int)) = 20 + (i : Int) := by simp only [IntKind.wrap_i64]; omega
    have hone : ∀ (b : Nat) (h1 : Hp) (tt : Nat) (x : Int), fd tt h1 = .blk b 1 1 (gOf 1 [.int .i64 x]) 3 → rdK RI h1 (.slice tt 0 1 1) [x] := fun b h1 tt x e => rdK.one (b := some ⟨b, 0, none⟩) (by rw [fd_roH, e]; rfl) (by decide) fun k hk => by
      match k, hk with
      | 0, _ => rfl
    refine vc_sound hE 2 _ _ _ 60 ?_
    refine W_seq (nx := 60) ?_
    refine W_to (nx := 60) [(0, .slice 100 0 len cap), (3, .ptr 8 0 0), (5, .slice 101 0 D.length cD), (6, .slice 102 0 A.length cA), (7, .int .i64 (i : Int))] (HTW bT bM 60 20 (n + 1 + 1) S2 ((101, eD) :: (102, eA) :: [(100, eX)])) 60 ?_ ?_
    · refine vc_sound hE 60 _ _ _ 60 ?_
      refine ⟨bT, bM, 60, 20, n, S, (i : Int), false, rfl, ⟨rfl, rfl⟩, hB, by repeat' (first | exact gone_nil | refine Gone.cons ?_ (by omega)), ?_⟩
      rw [q1]
      refine ⟨bT, bM, 60, 20, n + 1, S1, IntKind.i64.wrap (20 + (i : Int)), true, rfl, ⟨rfl, rfl⟩, hB1, by repeat' (first | exact gone_nil | refine Gone.cons ?_ (by omega)), ?_⟩
      rw [h20, q2]
      exact ⟨tau [], rfl, (by repeat' (first | exact rfl | exact trivial | assumption | refine ⟨?_, ?_⟩)), HTW.wk (rest := (101, eD) :: (102, eA) :: [(100, eX)]) rfl rfl rfl trivial ⟨lD.wk _ _, lA.wk _ _, wX _ _, trivial⟩⟩
    refine W_seq (nx := 60) ?_
    refine W_ex (nx := 60) (fun (x : Ent × Nat) => lstK RI x.1 (D ++ [(i : Int)]) x.2) (fun x => [(0, .slice 100 0 len cap), (3, .ptr 8 0 0), (5, .slice 101 0 (D ++ [(i : Int)]).length x.2), (6, .slice 102 0 A.length cA), (7, .int .i64 (i : Int))]) (fun x => HTW bT bM 60 20 (n + 1 + 1) S2 ((101, x.1) :: (102, eA) :: [(100, eX)])) 60 ?_ ?_
    · refine vc_sound hE 4 _ _ _ 60 ?_
      intro b
      refine putS_some rfl ?_
      refine W_app hE 60 (v := .slice 101 0 D.length cD) (u := .slice 60 0 1 1) (nx := 61) (nx' := 61) rfl rfl ?_
      refine app_oneK (R := RI) appTI lD rfl (hone b _ 60 _ rfl) rfl (by omega) (fun e' _ hl' => ?_) (fun e' cp' hl' => ?_)
      · have vD' := hl'.here
        exact ⟨(e', cD), hl', tau [], rfl, (by repeat' (first | exact rfl | exact trivial | assumption | refine ⟨?_, ?_⟩)), HTW.wk (rest := (101, e') :: (102, eA) :: [(100, eX)]) rfl rfl rfl trivial ⟨hl'.wk _ _, lA.wk _ _, wX _ _, trivial⟩⟩
      · have vD' := hl'.here
        exact ⟨(e', cp'), hl', tau [(101, 61)], rfl, (by repeat' (first | exact rfl | exact trivial | assumption | refine ⟨?_, ?_⟩)), HTW.wk (rest := (101, e') :: (102, eA) :: [(100, eX)]) rfl rfl rfl trivial ⟨hl'.wk _ _, lA.wk _ _, wX _ _, trivial⟩⟩
    clear lD vD
    rintro ⟨eD', cD'⟩ lD
    have lD : lstK RI eD' (D ++ [(i : Int)]) cD' := lD
    have vD := lD.here
    show W _ _ _ (HTW bT bM 60 20 (n + 1 + 1) S2 ((101, eD') :: (102, eA) :: [(100, eX)])) _
    refine W_ex (nx := 60) (fun (x : Ent × Nat) => lstK RI x.1 (A ++ [20 + (i : Int)]) x.2) (fun x => [(0, .slice 100 0 len cap), (3, .ptr 8 0 0), (5, .slice 101 0 (D ++ [(i : Int)]).length cD'), (6, .slice 102 0 (A ++ [20 + (i : Int)]).length x.2), (7, .int .i64 (i : Int))]) (fun x => HTW bT bM 60 20 (n + 1 + 1) S2 ((101, eD') :: (102, x.1) :: [(100, eX)])) 60 ?_ ?_
    · refine vc_sound hE 5 _ _ _ 60 ?_
      intro b
      refine putS_some rfl ?_
      refine W_app hE 60 (v := .slice 102 0 A.length cA) (u := .slice 60 0 1 1) (nx := 61) (nx' := 61) rfl rfl ?_
      rw [h20]
      refine app_oneK (R := RI) appTI lA rfl (hone b _ 60 _ rfl) rfl (by omega) (fun e' _ hl' => ?_) (fun e' cp' hl' => ?_)
      · have vA' := hl'.here
        exact ⟨(e', cA), hl', tau [], rfl, (by repeat' (first | exact rfl | exact trivial | assumption | refine ⟨?_, ?_⟩)), HTW.wk (rest := (101, eD') :: (102, e') :: [(100, eX)]) rfl rfl rfl trivial ⟨lD.wk _ _, hl'.wk _ _, wX _ _, trivial⟩⟩
      · have vA' := hl'.here
        exact ⟨(e', cp'), hl', tau [(102, 61)], rfl, (by repeat' (first | exact rfl | exact trivial | assumption | refine ⟨?_, ?_⟩)), HTW.wk (rest := (101, eD') :: (102, e') :: [(100, eX)]) rfl rfl rfl trivial ⟨lD.wk _ _, hl'.wk _ _, wX _ _, trivial⟩⟩
    clear lA vA
    rintro ⟨eA', cA'⟩ lA
    have lA : lstK RI eA' (A ++ [20 + (i : Int)]) cA' := lA
    have vA := lA.here
    show W _ _ _ (HTW bT bM 60 20 (n + 1 + 1) S2 ((101, eD') :: (102, eA') :: [(100, eX)])) _
    have mD : D ++ [(i : Int)] = (Dp ++ [⟨(i : Int), n + 1, false, true⟩] : List Pl).map (·.t) := by rw [List.map_append, hDm]; rfl
    have mA : A ++ [20 + (i : Int)] = (Ap ++ [⟨20 + (i : Int), n + 1 + 1, true, true⟩] : List Pl).map (·.t) := by rw [List.map_append, hAm]; rfl
    rw [mD] at lD
    rw [mA] at lA
    show W _ _ [(0, .slice 100 0 len cap), (3, .ptr 8 0 0), (5, .slice 101 0 (D ++ [(i : Int)]).length cD'), (6, .slice 102 0 (A ++ [20 + (i : Int)]).length cA'), (7, .int .i64 (i : Int))] _ _
    rw [mD, mA]
    have v := v0 bT bM (n + 1 + 1) S2 eD' eA'
    refine vc_sound hE 60 _ _ _ 60 ?_
    exact ⟨21 - (i + 1), _, _, by omega, ⟨i + 1, n + 1 + 1, S2, _, _, eD', eA', cD', cA', rfl, by omega, by omega, by omega, R2, by rw [List.length_append, hD]; simp; omega, by rw [List.length_append, hA]; simp; omega, fun p hp => by
        rcases List.mem_append.1 hp with h | h
        · have := hd p h; omega
        · have : p = ⟨(i : Int), n + 1, false, true⟩ := by simpa using h
          rw [this]; show (i : Int) < _; omega, fun p hp => by
        rcases List.mem_append.1 hp with h | h
        · have := ha p h; omega
        · have : p = ⟨20 + (i : Int), n + 1 + 1, true, true⟩ := by simpa using h
          rw [this]; show 20 < 20 + (i : Int) ∧ 20 + (i : Int) < _; omega, fun p hp => by
        rcases List.mem_append.1 hp with h | h
        · rcases List.mem_append.1 h with h | h
          · exact hw p (List.mem_append_left _ h)
          · have : p = ⟨(i : Int), n + 1, false, true⟩ := by simpa using h
            rw [this]
        · rcases List.mem_append.1 h with h | h
          · exact hw p (List.mem_append_right _ h)
          · have : p = ⟨20 + (i : Int), n + 1 + 1, true, true⟩ := by simpa using h
            rw [this], lD, lA, rfl, rfl⟩, tau [], rfl, ⟨⟨⟨rfl, v⟩, rfl, rfl, rfl⟩, ⟨⟨rfl, trivial⟩, rfl, rfl⟩, ⟨⟨rfl, vD⟩, rfl, rfl, rfl⟩, ⟨⟨rfl, vA⟩, rfl, rfl, rfl⟩, ⟨rfl, hwi⟩, trivial⟩, HTW.wk (rest := (101, eD') :: (102, eA') :: [(100, eX)]) rfl rfl rfl trivial ⟨lD.wk _ _, lA.wk _ _, wX _ _, trivial⟩⟩
  rintro σ1 h1 _ ⟨n0, S0, Dp0, Ap0, eD0, eA0, cD0, cA0, rfl, R0, hD0, hA0, hw0, lD0, lA0, hs, rfl⟩
  refine W_sub (nx' := 30) hs ?_
  clear hs
  refine W_seq (nx := 30) ?_
  refine W_piece (nx := 30) (fun _ _ _ => True) ?_ ?_
  rotate_left
  · intro σ1 h1 _ _
    refine vc_sound hE 60 _ _ _ 30 ?_
    rfl
  refine vc_sound hE 5 _ _ _ 30 ?_
  have vD0 := lD0.here
  have vA0 := lA0.here
  have v00 := v0 bT bM 40 S0 eD0 eA0
  refine W_loop (fun q σ h => ∃ (i : Nat) (n : Int) (S Dp Ap : List Pl) (eD eA : Ent) (cD cA : Nat), q = len - i ∧ i ≤ len ∧ 0 ≤ n ∧ n + (Ap.length : Int) = 60 ∧ Rl n S Dp Ap ∧ Dp.length + Ap.length = 40 ∧ (∀ p ∈ Dp ++ Ap, p.w = true) ∧ lstK RI eD (Dp.map (·.t)) cD ∧ lstK RI eA (Ap.map (·.t)) cA ∧ σ = [(0, .slice 100 0 len cap), (3, .ptr 8 0 0), (5, .slice 101 0 (Dp.map (·.t)).length cD), (6, .slice 102 0 (Ap.map (·.t)).length cA), (8, .int .i64 (i : Int))] ∧ h = HTW bT bM 60 20 n S ((101, eD) :: (102, eA) :: [(100, eX)]))
    len ⟨0, 40, S0, Dp0, Ap0, eD0, eA0, cD0, cA0, rfl, by omega, by omega, by omega, R0, by omega, hw0, lD0, lA0, rfl, rfl⟩ (tau []) ⟨rfl, (by repeat' (first | exact rfl | exact trivial | assumption | refine ⟨?_, ?_⟩)), HTW.wk (rest := (101, eD0) :: (102, eA0) :: [(100, eX)]) rfl rfl rfl trivial ⟨lD0.wk _ _, lA0.wk _ _, wX _ _, trivial⟩⟩ 60 ?_
  clear v00 vD0 vA0 lD0 lA0 hw0 hA0 hD0 R0
  rintro q σ h1 ⟨i, n, S, Dp, Ap, eD, eA, cD, cA, rfl, hi, hn0, hn, R, hDA, hw, lD, lA, rfl, rfl⟩
  have hSl := R.len
  have vD := lD.here
  have vA := lA.here
  have v := v0 bT bM n S eD eA
  generalize hDm : Dp.map (·.t) = D at lD ⊢
  generalize hAm : Ap.map (·.t) = A at lA ⊢
  have hDl : D.length = Dp.length := by rw [← hDm, List.length_map]
  have hAl : A.length = Ap.length := by rw [← hAm, List.length_map]
  refine W_seq (nx := 60) ?_
  refine W_piece (nx := 60) (fun σ1 h1 _ => (i < len ∧ 0 < A.length) ∧ h1 = HTW bT bM 60 20 n S ((101, eD) :: (102, eA) :: [(100, eX)]) ∧ subS σ1 [(0, .slice 100 0 len cap), (3, .ptr 8 0 0), (5, .slice 101 0 D.length cD), (6, .slice 102 0 A.length cA), (8, .int .i64 (i : Int))]) ?_ ?_
  · refine vc_sound hE 60 _ _ _ 60 ?_
    (refine (?_ : br _ _ _); refine br_dec (fun q => ?_) (fun q => ?_))
    · have q1 : (i : Int) < (len : Int) := q
      (refine (?_ : br _ _ _); refine br_dec (fun q => ?_) (fun q => ?_))
      · have q2 : (A.length : Int) > 0 := by assumption
        exact ⟨⟨by omega, by omega⟩, rfl, rfl, rfl, rfl, rfl, rfl, trivial⟩
      · exact trivial
    · exact trivial
  rintro σ1 h1 _ ⟨⟨hil, hA0⟩, rfl, hs⟩
  refine W_sub (nx' := 60) hs ?_
  clear hs
  have hwi : IntKind.i64.wrap ((i : Int) + 1) = ((i + 1 : Nat) : Int) := by simp only [IntKind.wrap_i64]; omega
  refine vc_sound hE 2 _ _ _ 60 ?_
  obtain ⟨u, hu⟩ : ∃ u, u = z i := ⟨_, rfl⟩
  have hu1 := hz i hil
  rw [← hu] at hu1
  have wr : Int.tmod (IntKind.i64.wrap u) (A.length : Int) = ((u.toNat % A.length : Nat) : Int) := by
    rw [show IntKind.i64.wrap u = u by simp only [IntKind.wrap_i64]; omega, Int.tmod_eq_emod_of_nonneg hu1.1, Int.natCast_emod, Int.toNat_of_nonneg hu1.1]
  obtain ⟨k, hk⟩ : ∃ k, k = u.toNat % A.length := ⟨_, rfl⟩
  have hkl : k < A.length := by rw [hk]; exact Nat.mod_lt _ (by omega)
  rw [← hk] at wr
  obtain ⟨x, hx⟩ : ∃ x, Ap[k]? = some x := ⟨_, List.getElem?_eq_getElem (by omega)⟩
  have hlk : A[k]? = some x.t := by rw [← hAm, List.getElem?_map, hx]; rfl
  refine W_seq (nx := 60) ?_
  refine W_keep (nx := 60) [(0, .slice 100 0 len cap), (3, .ptr 8 0 0), (5, .slice 101 0 D.length cD), (6, .slice 102 0 A.length cA), (8, .int .i64 (i : Int)), (9, .int .i64 (k : Int))] (HTW bT bM 60 20 n S ((101, eD) :: (102, eA) :: [(100, eX)])) 60 ?_ ?_
  · subst hX
    refine vc_sound hE 60 _ _ _ 60 ?_
    (refine (?_ : chk _ _); refine chk_ok (show (decide ((0 : Int) ≤ (i : Int)) && decide ((i : Int) < (len : Int))) = true by simp only [Bool.and_eq_true, decide_eq_true_eq]; omega) ?_)
    (refine (?_ : chk _ _); refine chk_ok rfl ?_)
    (refine (?_ : chk _ _); refine chk_ok (Nat.ble_eq_true_of_le (show addI 0 ((i : Int)).toNat * 1 + 0 + 1 ≤ len * 1 by rw [nat0]; omega)) ?_)
    (refine (?_ : chk _ _); refine chk_ok rfl ?_)
    have hux : z (addI 0 ((i : Int)).toNat + 0 / 1) = u := by rw [nat0, hu]; rfl
    (refine (?_ : chk _ _); refine chk_ok (show (!(decide ((A.length : Int) = 0))) = true by rw [decide_eq_false (by omega)]; rfl) ?_)
    refine ⟨rfl, rfl, rfl, rfl, rfl, rfl, ?_, trivial⟩
    show some (V.int .i64 (Int.tmod (IntKind.i64.wrap (z (addI 0 ((i : Int)).toNat + 0 / 1))) (A.length : Int))) = _
    rw [hux, wr]
  refine W_seq (nx := 60) ?_
  refine W_keep (nx := 60) [(0, .slice 100 0 len cap), (3, .ptr 8 0 0), (5, .slice 101 0 D.length cD), (6, .slice 102 0 A.length cA), (8, .int .i64 (i : Int)), (9, .int .i64 (k : Int)), (10, .int .i64 x.t)] (HTW bT bM 60 20 n S ((101, eD) :: (102, eA) :: [(100, eX)])) 60 ?_ ?_
  · obtain ⟨bb, g, F, rfl, f1, f2, f3, f4⟩ := lA.blk hA0
    refine vc_sound hE 5 _ _ _ 60 ?_
    (refine (?_ : chk _ _); refine chk_ok (show (decide ((0 : Int) ≤ (k : Int)) && decide ((k : Int) < (A.length : Int))) = true by simp only [Bool.and_eq_true, decide_eq_true_eq]; omega) ?_)
    (refine (?_ : chk _ _); refine chk_ok rfl ?_)
    (refine (?_ : chk _ _); refine chk_ok (Nat.ble_eq_true_of_le (show addI 0 ((k : Int)).toNat * 1 + 0 + 1 ≤ cA * 1 by rw [nat0]; omega)) ?_)
    (refine (?_ : chk _ _); refine chk_ok rfl ?_)
    have hval : g (addI 0 ((k : Int)).toNat) 0 = .int .i64 x.t := by
      rw [nat0, f3 k 0 (by omega) (by decide)]
      show V.int .i64 (F k) = _
      rw [f4 k x.t hlk]
    refine (force_eq _ _).mpr ?_
    refine putS_some (by rfl) ?_
    refine W_sub (nx := 60) (nx' := 60) (σ' := [(0, .slice 100 0 len cap), (3, .ptr 8 0 0), (5, .slice 101 0 D.length cD), (6, .slice 102 0 A.length cA), (8, .int .i64 (i : Int)), (9, .int .i64 (k : Int)), (67, .int .i64 x.t)]) ⟨rfl, rfl, rfl, rfl, rfl, rfl, ?_, trivial⟩ ?_
    · show some (g (addI 0 ((k : Int)).toNat) 0) = _
      rw [hval]
    refine vc_sound hE 60 _ _ _ 60 ?_
    exact ⟨rfl, rfl, rfl, rfl, rfl, rfl, rfl, rfl, trivial⟩
  have hB : Bnd 60 20 n S := ⟨by omega, by omega, by omega, by omega⟩
  obtain ⟨S1, q1, q2, R1⟩ := R.proms hx (by omega)
  have hSl1 := R1.len
  rw [List.length_append, List.length_eraseIdx, if_pos (by omega)] at hSl1
  simp only [List.length_cons, List.length_nil] at hSl1
  have hB1 : Bnd 60 20 (n + 1) S1 := ⟨by omega, by omega, by omega, by omega⟩
  refine W_seq (nx := 60) ?_
  refine W_to (nx := 60) [(0, .slice 100 0 len cap), (3, .ptr 8 0 0), (5, .slice 101 0 D.length cD), (6, .slice 102 0 A.length cA), (8, .int .i64 (i : Int)), (9, .int .i64 (k : Int)), (10, .int .i64 x.t)] (HTW bT bM 60 20 (n + 1) S1 ((101, eD) :: (102, eA) :: [(100, eX)])) 60 ?_ ?_
  · refine vc_sound hE 60 _ _ _ 60 ?_
    refine ⟨bT, bM, 60, 20, n, S, x.t, rfl, ⟨rfl, rfl⟩, hB, by repeat' (first | exact gone_nil | refine Gone.cons ?_ (by omega)), ?_⟩
    rw [q1]
    refine ⟨bT, bM, 60, 20, n + 1, S1, x.t, rfl, ⟨rfl, rfl⟩, hB1, by repeat' (first | exact gone_nil | refine Gone.cons ?_ (by omega)), ?_⟩
    rw [q2]
    exact ⟨tau [], rfl, (by repeat' (first | exact rfl | exact trivial | assumption | refine ⟨?_, ?_⟩)), HTW.wk (rest := (101, eD) :: (102, eA) :: [(100, eX)]) rfl rfl rfl trivial ⟨lD.wk _ _, lA.wk _ _, wX _ _, trivial⟩⟩
  have hone : ∀ (b : Nat) (h1 : Hp) (tt : Nat) (x : Int), fd tt h1 = .blk b 1 1 (gOf 1 [.int .i64 x]) 3 → rdK RI h1 (.slice tt 0 1 1) [x] := fun b h1 tt x e => rdK.one (b := some ⟨b, 0, none⟩) (by rw [fd_roH, e]; rfl) (by decide) fun k hk => by
    match k, hk with
    | 0, _ => rfl
  refine W_seq (nx := 60) ?_
  refine W_ex (nx := 60) (fun (y : Ent × Nat) => lstK RI y.1 (D ++ [x.t]) y.2) (fun y => [(0, .slice 100 0 len cap), (3, .ptr 8 0 0), (5, .slice 101 0 (D ++ [x.t]).length y.2), (6, .slice 102 0 A.length cA), (8, .int .i64 (i : Int)), (9, .int .i64 (k : Int))]) (fun y => HTW bT bM 60 20 (n + 1) S1 ((101, y.1) :: (102, eA) :: [(100, eX)])) 60 ?_ ?_
  · refine vc_sound hE 4 _ _ _ 60 ?_
    intro b
    refine putS_some rfl ?_
    refine W_app hE 60 (v := .slice 101 0 D.length cD) (u := .slice 60 0 1 1) (nx := 61) (nx' := 61) rfl rfl ?_
    refine app_oneK (R := RI) appTI lD rfl (hone b _ 60 _ rfl) rfl (by omega) (fun e' _ hl' => ?_) (fun e' cp' hl' => ?_)
    · have vD' := hl'.here
      exact ⟨(e', cD), hl', tau [], rfl, (by repeat' (first | exact rfl | exact trivial | assumption | refine ⟨?_, ?_⟩)), HTW.wk (rest := (101, e') :: (102, eA) :: [(100, eX)]) rfl rfl rfl trivial ⟨hl'.wk _ _, lA.wk _ _, wX _ _, trivial⟩⟩
    · have vD' := hl'.here
      exact ⟨(e', cp'), hl', tau [(101, 61)], rfl, (by repeat' (first | exact rfl | exact trivial | assumption | refine ⟨?_, ?_⟩)), HTW.wk (rest := (101, e') :: (102, eA) :: [(100, eX)]) rfl rfl rfl trivial ⟨hl'.wk _ _, lA.wk _ _, wX _ _, trivial⟩⟩
  clear lD vD
  rintro ⟨eD', cD'⟩ lD
  have lD : lstK RI eD' (D ++ [x.t]) cD' := lD
  have vD := lD.here
  show W _ _ [(0, .slice 100 0 len cap), (3, .ptr 8 0 0), (5, .slice 101 0 (D ++ [x.t]).length cD'), (6, .slice 102 0 A.length cA), (8, .int .i64 (i : Int)), (9, .int .i64 (k : Int))] (HTW bT bM 60 20 (n + 1) S1 ((101, eD') :: (102, eA) :: [(100, eX)])) _
  have mD : D ++ [x.t] = (Dp ++ [{ x with n := n + 1, a := false }] : List Pl).map (·.t) := by rw [List.map_append, hDm]; rfl
  rw [mD] at lD ⊢
  have mA : A.eraseIdx k = (Ap.eraseIdx k).map (·.t) := by rw [List.eraseIdx_eq_take_drop_succ, List.eraseIdx_eq_take_drop_succ, List.map_append, List.map_take, List.map_drop, hAm]
  have hDA' : (Dp ++ [{ x with n := n + 1, a := false }] : List Pl).length + (Ap.eraseIdx k).length = 40 := by
    rw [List.length_append, List.length_eraseIdx, if_pos (by omega)]; simp only [List.length_cons, List.length_nil]; omega
  have hAl' : (Ap.eraseIdx k).length = Ap.length - 1 := by rw [List.length_eraseIdx, if_pos (by omega)]
  have hw' : ∀ p ∈ (Dp ++ [{ x with n := n + 1, a := false }] : List Pl) ++ Ap.eraseIdx k, p.w = true := fun p hp => by
    rcases List.mem_append.1 hp with h | h
    · rcases List.mem_append.1 h with h | h
      · exact hw p (List.mem_append_left _ h)
      · have : p = { x with n := n + 1, a := false } := by simpa using h
        rw [this]
        exact hw x (List.mem_append_right _ (List.mem_of_getElem? hx))
    · exact hw p (List.mem_append_right _ (List.mem_of_mem_eraseIdx h))
  have hDp0 : 0 < (Dp ++ [{ x with n := n + 1, a := false }] : List Pl).length := by rw [List.length_append]; simp
  generalize (Dp ++ [{ x with n := n + 1, a := false }] : List Pl) = Dp' at lD mD hDA' hw' R1 hDp0 ⊢
  generalize hDm' : Dp'.map (·.t) = D' at lD ⊢
  clear mD hDm hDl hDA
  obtain ⟨L1, hL1⟩ : ∃ L, L = A.take k := ⟨_, rfl⟩
  obtain ⟨L2, hL2⟩ : ∃ L, L = A.drop (k + 1) := ⟨_, rfl⟩
  have hL12 : A.eraseIdx k = L1 ++ L2 := by rw [hL1, hL2]; exact List.eraseIdx_eq_take_drop_succ A k
  have hl1 : L1.length = k := by rw [hL1, List.length_take]; omega
  have hl2 : L2.length = A.length - (k + 1) := by rw [hL2]; exact List.length_drop
  have hwk1 : IntKind.i64.wrap ((k : Int) + 1) = ((k + 1 : Nat) : Int) := by simp only [IntKind.wrap_i64]; omega
  have hcA : A.length ≤ cA := lA.cap
  have r1 : ∀ h : Hp, fd 102 h = eA → rdK RI h (.slice 102 (match Nat.beq cA 0 with | true => 0 | false => addI 0 0) k cA) L1 := fun h e => by
    rw [hL1]; exact sub_lo (c := cA) (lA.rd e) k (by omega) cA
  have r2 : ∀ h : Hp, fd 102 h = eA → rdK RI h (.slice 102 (match Nat.beq cA (IntKind.i64.wrap ((k : Int) + 1)).toNat with | true => 0 | false => addI 0 (IntKind.i64.wrap ((k : Int) + 1)).toNat) (A.length - (IntKind.i64.wrap ((k : Int) + 1)).toNat) (cA - (IntKind.i64.wrap ((k : Int) + 1)).toNat)) L2 := fun h e => by
    rw [hwk1, Int.toNat_natCast, hL2]
    have := (lA.rd e).sub (a := k + 1) (b := A.length) (i' := match Nat.beq cA (k + 1) with | true => 0 | false => addI 0 (k + 1)) (c' := cA - (k + 1)) (by omega) (Nat.le_refl _) (by
      cases hb : Nat.beq cA (k + 1) with
      | true => right; have := Nat.eq_of_beq_eq_true hb; exact ⟨rfl, by omega⟩
      | false => left; show addI 0 (k + 1) = _; rw [addI_eq])
    rw [List.take_of_length_le (by rw [List.length_drop]; omega)] at this
    exact this
  refine W_seq (nx := 60) ?_
  refine W_ex (nx := 60) (fun (y : Ent × Nat) => lstK RI y.1 (L1 ++ L2) y.2) (fun y => [(0, .slice 100 0 len cap), (3, .ptr 8 0 0), (5, .slice 101 0 D'.length cD'), (6, .slice 102 0 (L1 ++ L2).length y.2), (8, .int .i64 (i : Int))]) (fun y => HTW bT bM 60 20 (n + 1) S1 ((101, eD') :: (102, y.1) :: [(100, eX)])) 60 ?_ ?_
  · have wkf : ∀ {h : Hp} {e : Ent} {cp t : Nat}, lstK RI e (L1 ++ L2) cp → fd t h = e → fd 8 h = .blk bT 1 4 (gTn 60 20 (n + 1)) 56 → fd 9 h = .mp bM (mpP S1) → fd 101 h = eD' → fd 100 h = eX → (tau [(102, t)] 8 = 8 ∧ tau [(102, t)] 9 = 9 ∧ tau [(102, t)] 101 = 101 ∧ tau [(102, t)] 102 = t ∧ tau [(102, t)] 100 = 100) → wkH (tau [(102, t)]) h (HTW bT bM 60 20 (n + 1) S1 ((101, eD') :: (102, e) :: [(100, eX)])) (HTW bT bM 60 20 (n + 1) S1 ((101, eD') :: (102, e) :: [(100, eX)])) := fun {h e cp t} he e1 e8 e9 e2 e3 et => HTW.wk (rest := (101, eD') :: (102, e) :: [(100, eX)]) (by rw [et.1]; exact e8) (by rw [et.2.1]; exact e9) et.2.1 trivial ⟨by rw [et.2.2.1, e2]; exact lD.wk _ _, by rw [et.2.2.2.1, e1]; exact he.wk _ _, by rw [et.2.2.2.2, e3]; exact wX _ _, trivial⟩
    obtain ⟨bA, gA, FA, heA, _⟩ := lA.blk hA0
    subst heA
    refine vc_sound hE 1 _ _ _ 60 ?_
    refine W_planw hE 60 [9] (.take 1 (.take 2 (.take 3 (.take 5 (.take 6 (.take 7 (.take 8 (.all (.cons 0 (.all (.cons 4 (.all (.cons 9 (.take 10 (.done)) (.nil))) (.nil))) (.nil)))))))))) (by rw [hc]; exact mix) (by kernel_rfl) 61 ?_
    iterate 2 (refine ⟨_, ⟨rfl, rfl⟩, ?_⟩)
    refine ⟨.slice 102 (match Nat.beq cA 0 with | true => 0 | false => addI 0 0) k cA, (show chk _ _ from chk_ok (show (decide ((0 : Int) ≤ 0) && decide ((0 : Int) ≤ (k : Int)) && decide ((k : Int) ≤ (cA : Int))) = true by simp only [Bool.and_eq_true, decide_eq_true_eq]; omega) ⟨rfl, rfl⟩), ?_⟩
    iterate 3 (refine ⟨_, ⟨rfl, rfl⟩, ?_⟩)
    refine ⟨.slice 102 (match Nat.beq cA (IntKind.i64.wrap ((k : Int) + 1)).toNat with | true => 0 | false => addI 0 (IntKind.i64.wrap ((k : Int) + 1)).toNat) (A.length - (IntKind.i64.wrap ((k : Int) + 1)).toNat) (cA - (IntKind.i64.wrap ((k : Int) + 1)).toNat), (show chk _ _ from chk_ok (show (decide ((0 : Int) ≤ IntKind.i64.wrap ((k : Int) + 1)) && decide (IntKind.i64.wrap ((k : Int) + 1) ≤ (A.length : Int))) = true by rw [hwk1]; simp only [Bool.and_eq_true, decide_eq_true_eq]; omega) ⟨rfl, rfl⟩), ?_⟩
    refine putS_some rfl ?_
    refine ⟨⟨fun b => trivial, fun b0 => ?_⟩, trivial⟩
    refine putS_some rfl ?_
    refine ⟨⟨step_app (v := .slice 60 0 0 0) (u := .slice 102 (match Nat.beq cA 0 with | true => 0 | false => addI 0 0) k cA) rfl rfl (app_copyK (R := RI) (m := L1) appTI rfl (r1 _ rfl).ro rfl (by omega) (fun _ => trivial) (fun _ _ _ => trivial)), stepC_app (v := .slice 60 0 0 0) (u := .slice 102 (match Nat.beq cA 0 with | true => 0 | false => addI 0 0) k cA) rfl rfl ?_⟩, trivial⟩
    refine app_copyK (R := RI) (m := L1) appTI rfl (r1 _ rfl) rfl (by omega) (fun h0 => ?_) (fun e cp hle => ?_)
    · have h0' : L1 ++ L2 = [] ++ L2 := by rw [h0]
      refine ⟨⟨trivial, stepC_app (v := .slice 60 0 0 0) (u := .slice 102 (match Nat.beq cA (IntKind.i64.wrap ((k : Int) + 1)).toNat with | true => 0 | false => addI 0 (IntKind.i64.wrap ((k : Int) + 1)).toNat) (A.length - (IntKind.i64.wrap ((k : Int) + 1)).toNat) (cA - (IntKind.i64.wrap ((k : Int) + 1)).toNat)) rfl rfl ?_⟩, trivial⟩
      refine app_moreK (R := RI) (l := []) (m := L2) appTI lstK.none0 rfl (r2 _ rfl) rfl (by simp; omega) (fun e' _ hl' => ?_) (fun e' cp' hl' => ?_) (fun hm => ?_)
      · refine ⟨_, ⟨rfl, rfl⟩, ?_⟩
        rw [← h0'] at hl'
        have vA' := hl'.here
        exact ⟨(e', 0), hl', tau [(102, 60)], rfl, ⟨⟨⟨rfl, v⟩, rfl, rfl, rfl⟩, ⟨⟨rfl, trivial⟩, rfl, rfl⟩, ⟨⟨rfl, vD⟩, rfl, rfl, rfl⟩, ⟨⟨rfl, vA'⟩, rfl, congrArg List.length h0'.symm, rfl⟩, ⟨rfl, rfl⟩, trivial⟩, wkf hl' rfl rfl rfl rfl rfl ⟨rfl, rfl, rfl, rfl, rfl⟩⟩
      · refine ⟨_, ⟨rfl, rfl⟩, ?_⟩
        rw [← h0'] at hl'
        have vA' := hl'.here
        exact ⟨(e', cp'), hl', tau [(102, 61)], rfl, ⟨⟨⟨rfl, v⟩, rfl, rfl, rfl⟩, ⟨⟨rfl, trivial⟩, rfl, rfl⟩, ⟨⟨rfl, vD⟩, rfl, rfl, rfl⟩, ⟨⟨rfl, vA'⟩, rfl, congrArg List.length h0'.symm, rfl⟩, ⟨rfl, rfl⟩, trivial⟩, wkf hl' rfl rfl rfl rfl rfl ⟨rfl, rfl, rfl, rfl, rfl⟩⟩
      · refine ⟨_, ⟨rfl, rfl⟩, ?_⟩
        have e0 : L1 ++ L2 = [] := by rw [h0', hm]; rfl
        have hl' : lstK RI (.blk b0 0 1 (gOf 1 []) 3) (L1 ++ L2) 0 := by rw [e0]; exact lstK.none0 (R := RI)
        have vA' := hl'.here
        exact ⟨(.blk b0 0 1 (gOf 1 []) 3, 0), hl', tau [(102, 60)], rfl, ⟨⟨⟨rfl, v⟩, rfl, rfl, rfl⟩, ⟨⟨rfl, trivial⟩, rfl, rfl⟩, ⟨⟨rfl, vD⟩, rfl, rfl, rfl⟩, ⟨⟨rfl, vA'⟩, rfl, congrArg List.length e0.symm, rfl⟩, ⟨rfl, rfl⟩, trivial⟩, wkf hl' rfl rfl rfl rfl rfl ⟨rfl, rfl, rfl, rfl, rfl⟩⟩
    · refine ⟨⟨trivial, stepC_app (v := .slice 61 0 L1.length cp) (u := .slice 102 (match Nat.beq cA (IntKind.i64.wrap ((k : Int) + 1)).toNat with | true => 0 | false => addI 0 (IntKind.i64.wrap ((k : Int) + 1)).toNat) (A.length - (IntKind.i64.wrap ((k : Int) + 1)).toNat) (cA - (IntKind.i64.wrap ((k : Int) + 1)).toNat)) rfl rfl ?_⟩, trivial⟩
      refine app_moreK (R := RI) (l := L1) (m := L2) appTI hle rfl (r2 _ rfl) rfl (by omega) (fun e' _ hl' => ?_) (fun e' cp' hl' => ?_) (fun hm => ?_)
      · refine ⟨_, ⟨rfl, rfl⟩, ?_⟩
        have vA' := hl'.here
        exact ⟨(e', cp), hl', tau [(102, 61)], rfl, (by repeat' (first | exact rfl | exact trivial | assumption | refine ⟨?_, ?_⟩)), wkf hl' rfl rfl rfl rfl rfl ⟨rfl, rfl, rfl, rfl, rfl⟩⟩
      · refine ⟨_, ⟨rfl, rfl⟩, ?_⟩
        have vA' := hl'.here
        exact ⟨(e', cp'), hl', tau [(102, 62)], rfl, (by repeat' (first | exact rfl | exact trivial | assumption | refine ⟨?_, ?_⟩)), wkf hl' rfl rfl rfl rfl rfl ⟨rfl, rfl, rfl, rfl, rfl⟩⟩
      · refine ⟨_, ⟨rfl, rfl⟩, ?_⟩
        have e0 : L1 ++ L2 = L1 := by rw [hm, List.append_nil]
        have hl' : lstK RI e (L1 ++ L2) cp := by rw [e0]; exact hle
        have vA' := hl'.here
        exact ⟨(e, cp), hl', tau [(102, 61)], rfl, ⟨⟨⟨rfl, v⟩, rfl, rfl, rfl⟩, ⟨⟨rfl, trivial⟩, rfl, rfl⟩, ⟨⟨rfl, vD⟩, rfl, rfl, rfl⟩, ⟨⟨rfl, vA'⟩, rfl, congrArg List.length e0.symm, rfl⟩, ⟨rfl, rfl⟩, trivial⟩, wkf hl' rfl rfl rfl rfl rfl ⟨rfl, rfl, rfl, rfl, rfl⟩⟩
  clear lA vA hlk r1 r2 hcA
  rintro ⟨eA', cA'⟩ lA
  have lA : lstK RI eA' (L1 ++ L2) cA' := lA
  have vA := lA.here
  show W _ _ [(0, .slice 100 0 len cap), (3, .ptr 8 0 0), (5, .slice 101 0 D'.length cD'), (6, .slice 102 0 (L1 ++ L2).length cA'), (8, .int .i64 (i : Int))] (HTW bT bM 60 20 (n + 1) S1 ((101, eD') :: (102, eA') :: [(100, eX)])) _
  rw [← hL12, mA] at lA
  rw [← hL12, mA]
  generalize Ap.eraseIdx k = Ap' at lA mA hDA' hAl' hw' R1 ⊢
  clear mA hL12 hl1 hl2 hL1 hL2
  generalize hAm' : Ap'.map (·.t) = A' at lA ⊢
  have hDl' : D'.length = Dp'.length := by rw [← hDm', List.length_map]
  have hAl2 : A'.length = Ap'.length := by rw [← hAm', List.length_map]
  have hcn := R1.cnt
  have hSl2 := R1.len
  have v := v0 bT bM (n + 1) S1 eD' eA'
  have hwt : wtI (dl (Dp' ++ Ap')) = D' ++ A' := by rw [wt_all hw', List.map_append, hDm', hAm']
  refine W_to (nx := 60) [(0, .slice 100 0 len cap), (3, .ptr 8 0 0), (5, .slice 101 0 D'.length cD'), (6, .slice 102 0 A'.length cA'), (8, .int .i64 (i : Int))] (HTW bT bM 60 20 (n + 1) S1 ((101, eD') :: (102, eA') :: [(100, eX)])) 60 ?_ ?_
  rotate_left
  · refine vc_sound hE 60 _ _ _ 60 ?_
    subst hDm'
    subst hAm'
    exact ⟨len - (i + 1), _, _, by omega, ⟨i + 1, n + 1, S1, Dp', Ap', eD', eA', cD', cA', rfl, by omega, by omega, by omega, R1, hDA', hw', lD, lA, rfl, rfl⟩, tau [], rfl, ⟨⟨⟨rfl, v⟩, rfl, rfl, rfl⟩, ⟨⟨rfl, trivial⟩, rfl, rfl⟩, ⟨⟨rfl, vD⟩, rfl, rfl, rfl⟩, ⟨⟨rfl, vA⟩, rfl, rfl, rfl⟩, ⟨rfl, hwi⟩, trivial⟩, HTW.wk (rest := (101, eD') :: (102, eA') :: [(100, eX)]) rfl rfl rfl trivial ⟨lD.wk _ _, lA.wk _ _, wX _ _, trivial⟩⟩
  refine W_seq (nx := 60) ?_
  refine W_keep (nx := 60) [(0, .slice 100 0 len cap), (3, .ptr 8 0 0), (5, .slice 101 0 D'.length cD'), (6, .slice 102 0 A'.length cA'), (8, .int .i64 (i : Int)), (11, .int .i64 (60 - cntP false S1)), (12, .int .i64 (20 - cntP true S1))] (HTW bT bM 60 20 (n + 1) S1 ((101, eD') :: (102, eA') :: [(100, eX)])) 60 ?_ ?_
  · refine vc_sound hE 60 _ _ _ 60 ?_
    refine ⟨bT, bM, 60, 20, n + 1, S1, rfl, HTW.at.rd, by omega, by omega, by omega, ?_⟩
    exact ⟨rfl, rfl, rfl, rfl, rfl, rfl, rfl, rfl, trivial⟩
  rw [hcn.1, hcn.2]
  have w1 : IntKind.i64.wrap (60 - (D'.length : Int)) = 60 - (Dp'.length : Int) := by simp only [IntKind.wrap_i64]; omega
  have w2 : IntKind.i64.wrap (20 - (A'.length : Int)) = 20 - (Ap'.length : Int) := by simp only [IntKind.wrap_i64]; omega
  refine vc_sound hE 6 _ _ _ 60 ?_
  refine ⟨bT, bM, 60, 20, n + 1, S1, D' ++ A', rfl, HTW.at.rd, by omega, by rw [← hwt]; exact R1.waits, rfl, fun e1 c1 hl1 => ?_⟩
  intro b0
  refine putS_some rfl ?_
  refine W_app hE 1 (v := .slice 61 0 0 0) (u := .slice 101 0 D'.length cD') (nx := 62) (nx' := 62) rfl rfl ?_
  refine app_copyK (R := RI) (m := D') appTI rfl (lD.rd rfl) rfl (by omega) (fun h0 => ?_) (fun e cp hle => ?_)
  · exfalso; rw [h0] at hDl'; simp at hDl'; omega
  refine W_app hE 60 (v := .slice 62 0 D'.length cp) (u := .slice 102 0 A'.length cA') (nx := 63) (nx' := 63) rfl rfl ?_
  have fl : ((D' ++ A').length : Nat) ≤ 1000000000 := by rw [List.length_append]; omega
  refine app_moreK (R := RI) (l := D') (m := A') appTI hle rfl (lA.rd rfl) rfl (by omega) (fun e' _ hl' => ?_) (fun e' cp' hl' => ?_) (fun hm => ?_)
  · refine ⟨_, _, D' ++ A', D' ++ A', rfl, hl1.rd rfl, rdKI (hl'.rd rfl), fl, fl, ?_⟩
    (refine (?_ : br _ _ _); refine br_f (by simp) ?_)
    (refine (?_ : br _ _ _); refine br_f (by rw [w1]; simp) ?_)
    (refine (?_ : br _ _ _); refine br_f (by rw [w2]; simp) ?_)
    exact ⟨tau [], rfl, (by repeat' (first | exact rfl | exact trivial | assumption | refine ⟨?_, ?_⟩)), HTW.wk (rest := (101, eD') :: (102, eA') :: [(100, eX)]) rfl rfl rfl trivial ⟨lD.wk _ _, lA.wk _ _, wX _ _, trivial⟩⟩
  · refine ⟨_, _, D' ++ A', D' ++ A', rfl, hl1.rd rfl, rdKI (hl'.rd rfl), fl, fl, ?_⟩
    (refine (?_ : br _ _ _); refine br_f (by simp) ?_)
    (refine (?_ : br _ _ _); refine br_f (by rw [w1]; simp) ?_)
    (refine (?_ : br _ _ _); refine br_f (by rw [w2]; simp) ?_)
    exact ⟨tau [], rfl, (by repeat' (first | exact rfl | exact trivial | assumption | refine ⟨?_, ?_⟩)), HTW.wk (rest := (101, eD') :: (102, eA') :: [(100, eX)]) rfl rfl rfl trivial ⟨lD.wk _ _, lA.wk _ _, wX _ _, trivial⟩⟩
  · refine ⟨_, _, D' ++ A', D', rfl, hl1.rd rfl, rdKI (hle.rd rfl), fl, by omega, ?_⟩
    (refine (?_ : br _ _ _); refine br_f (by simp [hm]) ?_)
    (refine (?_ : br _ _ _); refine br_f (by rw [w1]; simp) ?_)
    (refine (?_ : br _ _ _); refine br_f (by rw [w2]; simp) ?_)
    exact ⟨tau [], rfl, (by repeat' (first | exact rfl | exact trivial | assumption | refine ⟨?_, ?_⟩)), HTW.wk (rest := (101, eD') :: (102, eA') :: [(100, eX)]) rfl rfl rfl trivial ⟨lD.wk _ _, lA.wk _ _, wX _ _, trivial⟩⟩
def sLaw4 : Spec := fun args h nx K => ∃ (ub : Option Addr) (len cap : Nat) (z : Nat → Int), args = [.slice 100 0 len cap] ∧ h = [(100, .ro ub len 1 (g1 .u8 z))] ∧ len ≤ 9223372036854775807 ∧ (∀ i, i < len → 0 ≤ z i ∧ z i ≤ 255) ∧ K (.ret (.bool true)) h nx
theorem sLaw4_ok : SpecOK Try.prog 4 sLaw4 := by
  refine specOK_read (fn := Try.f4) rfl rfl rfl T_ok (SP := SP4) sp4 0 _ ?_
  rintro args h nx K ⟨ub, len, cap, z, rfl, rfl, hlen, hz, hk⟩
  refine ⟨[(100, .ro ub len 1 (g1 .u8 z))], ⟨fun i c hi hc => trivial, trivial⟩, ⟨⟨rfl, _, _, _, _, rfl⟩, trivial⟩, ⟨rfl, trivial⟩, by simp [Try.f4], fun o => o = .ret (.bool true), ?_, ?_⟩
  · rintro o rfl
    exact ⟨trivial, hk⟩
  · intro c hc
    obtain ⟨cd, h1, h2⟩ := promotes_walk hc (ub := ub) (cap := cap) (z := z) hlen hz
    cases h1
    exact h2
end Go.Proofs.Ytgcnknhfphgfnaa.Sx
