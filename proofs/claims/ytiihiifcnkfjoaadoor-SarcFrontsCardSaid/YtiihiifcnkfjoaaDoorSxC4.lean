import Derived.Test.YtiihiifcnkfjoaaDoorSxC3
/-
  The walks of this seat's laws: SarcOldest.
-/
namespace Go.Proofs.YtiihiifcnkfjoaaDoor.Sx
open Go Go.Proofs
set_option maxRecDepth 100000
set_option linter.unusedSimpArgs false
set_option linter.unusedVariables false

theorem nodup_rev {l : List Nat} : l.reverse.Nodup ↔ l.Nodup := by
  unfold List.Nodup
  rw [List.pairwise_reverse]
  constructor <;> intro h <;> exact h.imp Ne.symm
/-! ### A policy that has only the law's own list -/
structure Old (n : Nat) (p : Pol) (l : List Nat) : Prop where
  n : p.m.n = n
  e0 : p.m.L 0 = []
  e1 : p.m.L 1 = l.reverse
  hH : ∀ x, p.m.H x = false
theorem isN_of {m : Md} {k : Nat} (h : k < m.n) : m.isN (k : Int) = true := by unfold Md.isN; simp only [Bool.and_eq_true, decide_eq_true_eq]; omega
theorem may_of {p : Pol} {k : Nat} {q : Int} (h : k < p.m.n) (hq : q = 0 ∨ q = 1) : p.mayI k q = true := by
  unfold Pol.mayI
  rw [isN_of h]
  rcases hq with rfl | rfl <;> rfl
theorem Old.nd {n : Nat} {p : Pol} {l : List Nat} (h : Old n p l) (hok : Ok p.m) : l.Nodup := by
  obtain ⟨s, hi⟩ := hok
  have := hi.nd
  rw [h.e0, h.e1, List.nil_append] at this
  exact nodup_rev.1 this
theorem Old.at {n : Nat} {p : Pol} {l : List Nat} (h : Old n p l) (k : Nat) : p.m.at k = if k ∈ l then some 1 else none := by
  unfold Md.at
  rw [h.e0, h.e1]
  simp
theorem Old.lies {n : Nat} {p : Pol} {l : List Nat} (h : Old n p l) {k : Nat} (hk : k < n) : p.m.lies k = if k ∈ l then 0 else 3 := by
  unfold Md.lies
  rw [isN_of (by rw [h.n]; exact hk), if_neg (by simp), Int.toNat_natCast, h.at]
  split <;> simp
theorem Old.inB {n : Nat} {p : Pol} {l : List Nat} (h : Old n p l) {k : Nat} (hk : k < n) : p.inB k = decide (k ∈ l) := by
  unfold Pol.inB Md.whI
  rw [h.lies hk]
  by_cases w : k ∈ l
  · rw [if_pos w, if_pos rfl, Int.toNat_natCast, h.at, if_pos w]; simp [w]
  · rw [if_neg w, if_neg (by decide)]; simp [w]
theorem reverse_erase {l : List Nat} (hn : l.Nodup) (k : Nat) : l.reverse.erase k = (l.erase k).reverse := by
  rw [(nodup_rev.2 hn).erase_eq_filter k, hn.erase_eq_filter k, List.filter_reverse]
/-- To the front of the law's own list. -/
theorem Old.front {n : Nat} {p : Pol} {l : List Nat} (h : Old n p l) (hn : l.Nodup) {k : Nat} (hk : k < n) : (p.m.frontI 1 k).n = n ∧ (p.m.frontI 1 k).L 0 = [] ∧ (p.m.frontI 1 k).L 1 = (l.erase k ++ [k]).reverse ∧ (p.m.frontI 1 k).H = p.m.H := by
  have e : p.m.frontI 1 k = p.m.front 1 k := by unfold Md.frontI; rw [if_pos ⟨rfl, isN_of (by rw [h.n]; exact hk)⟩]; rfl
  have ho : (p.m.out k).n = n ∧ (p.m.out k).L 0 = [] ∧ (p.m.out k).L 1 = (l.erase k).reverse ∧ (p.m.out k).H = p.m.H := by
    unfold Md.out
    rw [h.at]
    by_cases w : k ∈ l
    · rw [if_pos w]
      refine ⟨h.n, ?_, ?_, rfl⟩
      · show (if (0 : Nat) = 1 then (p.m.L 1).erase k else p.m.L 0) = _
        rw [if_neg (by omega), h.e0]
      · show (if (1 : Nat) = 1 then (p.m.L 1).erase k else p.m.L 1) = _
        rw [if_pos rfl, h.e1, reverse_erase hn]
    · rw [if_neg w]
      exact ⟨h.n, h.e0, by rw [h.e1, List.erase_of_not_mem w], rfl⟩
  obtain ⟨o1, o2, o3, o4⟩ := ho
  rw [e]
  refine ⟨o1, ?_, ?_, o4⟩
  · show (if (0 : Nat) = 1 then k :: (p.m.out k).L 1 else (p.m.out k).L 0) = _
    rw [if_neg (by omega), o2]
  · show (if (1 : Nat) = 1 then k :: (p.m.out k).L 1 else (p.m.out k).L 1) = _
    rw [if_pos rfl, o3]
    simp
theorem Old.enter {n : Nat} {p : Pol} {l : List Nat} (h : Old n p l) (hok : Ok p.m) {k : Nat} (hk : k < n) (hl : k ∉ l) :
    p.enterC k 1 = 0 ∧ (p.enterP k 1).readyC k = 0 ∧ Old n ((p.enterP k 1).readyP k) (l ++ [k]) := by
  have hnd := h.nd hok
  have hkn : k < p.m.n := by rw [h.n]; exact hk
  have hm1 := may_of (p := p) hkn (q := 1) (.inr rfl)
  have hb : p.inB k = false := by rw [h.inB hk]; simpa using hl
  obtain ⟨f1, f2, f3, f4⟩ := h.front hnd hk
  rw [List.erase_of_not_mem hl] at f3
  have hlf : (p.m.frontI 1 k).lies k = 0 := lies_front rfl (isN_of hkn)
  have eP : p.enterP k 1 = (p.frontP k 1).withM ((p.m.frontI 1 k).holdI k true) := by unfold Pol.enterP; rw [if_pos ⟨hm1, hb⟩]
  have eH : (p.m.frontI 1 k).holdI k true = { p.m.frontI 1 k with H := updB p.m.H k true } := by unfold Md.holdI; rw [if_pos hlf, f4]; rfl
  have q1 : (p.enterP k 1).m = { p.m.frontI 1 k with H := updB p.m.H k true } := by rw [eP]; exact eH
  have hkm : k < (p.enterP k 1).m.n := by rw [q1]; show k < (p.m.frontI 1 k).n; rw [f1]; exact hk
  have hat : (p.enterP k 1).m.at k = some 1 := by
    rw [q1]; unfold Md.at
    show (if k ∈ (p.m.frontI 1 k).L 0 then some 0 else if k ∈ (p.m.frontI 1 k).L 1 then some 1 else none) = _
    rw [f2, f3]; simp
  have hlm : (p.enterP k 1).m.lies k = 0 := by
    unfold Md.lies
    rw [isN_of hkm, if_neg (by simp), Int.toNat_natCast, hat]
    rfl
  have hb' : (p.enterP k 1).inB k = true := by
    unfold Pol.inB Md.whI
    rw [if_pos hlm, Int.toNat_natCast, hat]
  have hheld : (k : Int) ∈ cI (p.enterP k 1).m.held := by
    rw [held_mem hkm, q1]
    show updB p.m.H k true k = true
    unfold updB; rw [if_pos rfl]
  have hm0 := may_of (p := p.enterP k 1) hkm (q := 0) (.inl rfl)
  refine ⟨?_, ?_, ?_⟩
  · unfold Pol.enterC
    rw [if_neg (by rw [hm1]; simp), if_neg (by rw [hb]; simp)]
    exact hlf
  · unfold Pol.readyC
    rw [if_neg (by rw [hm0]; simp), if_neg (by rw [hb']; simp), if_pos hheld]
    exact hlm
  · have eR : (p.enterP k 1).readyP k = (p.enterP k 1).withM ((p.enterP k 1).m.holdI k false) := by unfold Pol.readyP; rw [if_pos ⟨hm0, hb', hheld⟩]
    have q2 : ((p.enterP k 1).readyP k).m = { p.m.frontI 1 k with H := updB (updB p.m.H k true) k false } := by
      rw [eR]
      show (p.enterP k 1).m.holdI k false = _
      unfold Md.holdI
      rw [if_pos hlm, q1]; rfl
    refine ⟨by rw [q2]; exact f1, by rw [q2]; exact f2, by rw [q2]; exact f3, fun x => ?_⟩
    rw [q2]
    show updB (updB p.m.H k true) k false x = false
    unfold updB
    by_cases w : x = k
    · rw [if_pos w]
    · rw [if_neg w, if_neg w]; exact h.hH x
theorem Old.hit {n : Nat} {p : Pol} {l : List Nat} (h : Old n p l) (hok : Ok p.m) {k : Nat} (hk : k < n) (hl : k ∈ l) : p.hitC k 1 = 0 ∧ Old n (p.hitP k 1) (l.erase k ++ [k]) := by
  have hkn : k < p.m.n := by rw [h.n]; exact hk
  have hm1 := may_of (p := p) hkn (q := 1) (.inr rfl)
  have hb : p.inB k = true := by rw [h.inB hk]; simpa using hl
  obtain ⟨f1, f2, f3, f4⟩ := h.front (h.nd hok) hk
  refine ⟨?_, ?_⟩
  · unfold Pol.hitC
    rw [if_neg (by rw [hm1]; simp), if_neg (by rw [hb]; simp)]
  · have e : (p.hitP k 1).m = p.m.frontI 1 k := by
      unfold Pol.hitP
      rw [if_pos ⟨hm1, hb⟩]
      show (p.hitW k).m.frontI 1 k = _
      rw [(hitW_m p k).1]
    exact ⟨by rw [e]; exact f1, by rw [e]; exact f2, by rw [e]; exact f3, fun x => by rw [e, f4]; exact h.hH x⟩
theorem Old.pick {n : Nat} {p : Pol} {l : List Nat} (h : Old n p l) : p.pickI = lastN p.m.H l := by
  have e0 : p.m.lastI 0 = (0, false) := by
    show lastN p.m.H (p.m.L 0).reverse = _
    rw [h.e0]; rfl
  have e1 : p.m.lastI 1 = lastN p.m.H l := by
    show lastN p.m.H (p.m.L 1).reverse = _
    rw [h.e1, List.reverse_reverse]
  unfold Pol.pickI
  rw [e0, if_pos rfl, e1]
theorem Old.vic {n : Nat} {p : Pol} {x : Nat} {l : List Nat} (h : Old n p (x :: l)) (hok : Ok p.m) (hx : x < n) : p.vicI = ((x : Int), true) ∧ Old n p.vicP l := by
  have hp : p.pickI = ((x : Int), true) := by
    rw [h.pick]; unfold lastN; rw [if_pos (h.hH x)]
  have hnd := h.nd hok
  refine ⟨by unfold Pol.vicI; rw [hp, if_neg (by simp)], ?_⟩
  have e : p.vicP.m = { p.m.out x with H := updB p.m.H x false } := by
    unfold Pol.vicP
    rw [hp, if_neg (by simp)]
    show p.m.dropI (x : Int) = _
    unfold Md.dropI
    rw [if_pos (by rw [h.lies hx, if_pos (by simp)]), Int.toNat_natCast]
  have ho : (p.m.out x).L 0 = [] ∧ (p.m.out x).L 1 = l.reverse := by
    unfold Md.out
    rw [h.at, if_pos (by simp)]
    refine ⟨?_, ?_⟩
    · show (if (0 : Nat) = 1 then (p.m.L 1).erase x else p.m.L 0) = _
      rw [if_neg (by omega), h.e0]
    · show (if (1 : Nat) = 1 then (p.m.L 1).erase x else p.m.L 1) = _
      rw [if_pos rfl, h.e1, reverse_erase hnd]
      simp
  refine ⟨by rw [e]; exact out_nb.1.trans h.n, by rw [e]; exact ho.1, by rw [e]; exact ho.2, fun y => ?_⟩
  rw [e]
  show updB p.m.H x false y = false
  unfold updB
  split
  · rfl
  · exact h.hH y
theorem Old.none {n : Nat} {p : Pol} (h : Old n p []) : p.vicI.2 = false := by
  unfold Pol.vicI
  rw [h.pick]
  rfl
theorem Old.new (n b : Nat) : Old n (Pol.new n b) [] := ⟨rfl, rfl, rfl, fun _ => rfl⟩
/-! ### The walk -/
abbrev HO1 (bS bA bP bU : Nat) (s : Sh) (p : Pol) (eX : Ent) : Hp := HPW bS bA bP bU s p ++ [(100, eX)]
abbrev HO (bS bA bP bU : Nat) (s : Sh) (p : Pol) (eX eO : Ent) : Hp := HPW bS bA bP bU s p ++ [(100, eX), (200, eO)]
def SPL4 : SpT := [(9, sAwake), (10, sPNew), (21, PEnter), (22, PReady), (23, PHit), (18, PVic), (19, sFind), (24, sWithout)]
theorem spl4 : ∀ p ∈ SPL4, SpecOK Tryd.prog p.1 p.2 := consSP sAwake_ok (consSP sPNew_ok (consSP penter_ok (consSP pready_ok (consSP phit_ok (consSP pvic_ok (consSP sFind_ok (consSP sWithout_ok noSP)))))))
theorem g1_wk {k : IntKind} {b : Option Addr} {n : Nat} {z : Nat → Int} (τ : Nat → Nat) (h' : Hp) : wkE τ h' (.ro b n 1 (g1 k z)) (.ro b n 1 (g1 k z)) := ⟨rfl, rfl, rfl, fun i c hi hc => ⟨rfl, rfl⟩⟩
theorem HPW.wkO {t : Nat} {bS bA bP bU : Nat} {s : Sh} {p : Pol} {h h' rest : Hp} (e1 : fd 1 h = eS bS s) (e2 : fd 2 h = eA bA s) (e8 : fd 8 h = eP bP p) (e9 : fd 9 h = eU bU p) (eb : fd 1000 h = eB) (v1 : live h' 1) (v2 : live h' 2) (v9 : live h' 9) (hr : wkH (tau [(200, t)]) h h' rest) : wkH (tau [(200, t)]) h h' (HPW bS bA bP bU s p ++ rest) := by
  refine ⟨?_, ?_, ?_, ?_, ?_, hr⟩
  · show wkE _ _ (fd 1 h) _
    rw [e1]; exact eS_wk ⟨rfl, v2⟩
  · show wkE _ _ (fd 2 h) _
    rw [e2]; exact eA_wk rfl
  · show wkE _ _ (fd 8 h) _
    rw [e8]; exact ⟨rfl, rfl, rfl, rfl, fun i c hi hc => by
      obtain rfl : i = 0 := (by omega)
      match c, hc with
      | 0, _ => exact ⟨⟨rfl, v1⟩, rfl, rfl⟩
      | 1, _ => exact ⟨rfl, rfl⟩
      | 2, _ => exact ⟨rfl, rfl⟩
      | 3, _ => exact ⟨⟨rfl, v9⟩, rfl, rfl, rfl⟩
      | 4, _ => exact ⟨rfl, rfl⟩
      | 5, _ => exact ⟨rfl, rfl⟩
      | 6, _ => exact ⟨rfl, rfl⟩
      | 7, _ => exact ⟨rfl, rfl⟩⟩
  · show wkE _ _ (fd 9 h) _
    rw [e9]; exact ⟨rfl, rfl, rfl, rfl, fun i c hi hc => ⟨rfl, rfl⟩⟩
  · show wkE _ _ (fd 1000 h) _
    rw [eb]; exact ⟨rfl, rfl, rfl, fun i c hi hc => ⟨rfl, rfl⟩⟩
theorem cI_snoc (l : List Nat) (k : Nat) : cI l ++ [(k : Int)] = cI (l ++ [k]) := by simp [cI]

theorem oldest_walk {c : Cx} (hc : c.P = Tryd.prog) {fr bo : Int} (hfr : 0 ≤ fr ∧ fr ≤ 255) (hbo : 0 ≤ bo ∧ bo ≤ 255) {ub : Option Addr} {len cap : Nat} {z : Nat → Int} (hlen : len ≤ 9223372036854775807) (hz : ∀ i, i < len → 0 ≤ z i ∧ z i ≤ 255) :
    ∃ cd, Tryd.f6.body = some cd ∧ W ⟨c, Tryd.f6, T, SPL4, fun o _ _ => o = .ret (.bool true)⟩ [.code cd] (argsS [.int .u8 fr, .int .u8 bo, .slice 100 0 len cap] 0) [(1000, eB), (100, .ro ub len 1 (g1 .u8 z))] 0 := by
  refine ⟨_, rfl, ?_⟩
  have hE := mkE' (fn := Tryd.f6) (R := fun o _ _ => o = .ret (.bool true)) hc spl4
  obtain ⟨eX, hX⟩ : ∃ eX : Ent, eX = .ro ub len 1 (g1 .u8 z) := ⟨_, rfl⟩
  have wX : ∀ τ h', wkE τ h' eX eX := fun τ h' => by rw [hX]; exact g1_wk _ _
  rw [← hX]
  have hwk : wkH (tau []) [(1000, eB), (100, eX)] [(1000, eB), (100, eX)] [(1000, eB), (100, eX)] := ⟨⟨rfl, rfl, rfl, fun i c hi hc => ⟨rfl, rfl⟩⟩, wX _ _, trivial⟩
  have vX : eX.here := by rw [hX]; trivial
  have vX0 : live [(1000, eB), (100, eX)] 100 := vX
  obtain ⟨n, hn⟩ : ∃ n : Nat, (n : Int) = 1 + fr % 64 := ⟨(1 + fr % 64).toNat, by omega⟩
  have hn1 : 1 ≤ n ∧ n ≤ 64 := by omega
  obtain ⟨b, hb⟩ : ∃ b : Nat, (b : Int) = 1 + bo % n := ⟨(1 + bo % n).toNat, by have := Int.emod_nonneg bo (show (n : Int) ≠ 0 by omega); omega⟩
  have hb1 : 1 ≤ b ∧ b ≤ n := by
    have h1 := Int.emod_nonneg bo (show (n : Int) ≠ 0 by omega)
    have h2 := Int.emod_lt_of_pos bo (show (0 : Int) < n by omega)
    omega
  have hmay : mayB n b = true := by unfold mayB; simp only [Bool.and_eq_true, decide_eq_true_eq]; omega
  refine W_seq (nx := 0) ?_
  refine W_to (nx := 0) [(0, .int .u8 fr), (1, .int .u8 bo), (2, .slice 100 0 len cap)] [(1000, eB), (100, eX)] 30 ?_ ?_
  · refine vc_sound hE 20 _ _ _ 30 ?_
    exact ⟨tau [], rfl, (by repeat' (first | exact rfl | exact trivial | assumption | refine ⟨?_, ?_⟩)), hwk⟩
  refine W_seq (nx := 30) ?_
  refine W_to (nx := 30) [(0, .int .u8 fr), (1, .int .u8 bo), (2, .slice 100 0 len cap)] [(1000, eB), (100, eX)] 30 ?_ ?_
  · refine vc_sound hE 60 _ _ _ 30 ?_
    refine ⟨rfl, rfl, ?_⟩
    exact ⟨tau [], rfl, (by repeat' (first | exact rfl | exact trivial | assumption | refine ⟨?_, ?_⟩)), hwk⟩
  refine W_seq (nx := 30) ?_
  have e1 : IntKind.i64.wrap (1 + Int.tmod (IntKind.i64.wrap fr) 64) = (n : Int) := by
    rw [show IntKind.i64.wrap fr = fr by simp only [IntKind.wrap_i64]; omega, Int.tmod_eq_emod_of_nonneg (by omega)]
    simp only [IntKind.wrap_i64]; omega
  refine W_to (nx := 30) [(1, .int .u8 bo), (2, .slice 100 0 len cap), (7, .int .i64 n)] [(1000, eB), (100, eX)] 30 ?_ ?_
  · refine vc_sound hE 60 _ _ _ 30 ?_
    exact ⟨tau [], rfl, ⟨⟨rfl, rfl⟩, ⟨⟨rfl, vX0⟩, rfl, rfl, rfl⟩, ⟨rfl, e1⟩, trivial⟩, hwk⟩
  refine W_seq (nx := 30) ?_
  have e2 : IntKind.i64.wrap (1 + Int.tmod (IntKind.i64.wrap bo) n) = (b : Int) := by
    rw [show IntKind.i64.wrap bo = bo by simp only [IntKind.wrap_i64]; omega, Int.tmod_eq_emod_of_nonneg (by omega)]
    simp only [IntKind.wrap_i64]; omega
  refine W_piece (nx := 30) (fun σ1 h1 _ => ∃ (bS bA bP bU : Nat) (s : Sh), Inv s (Pol.new n b).m (Pol.new n b).m.n ∧ ∃ τ, wk τ σ1 h1 [(2, .slice 100 0 len cap), (7, .int .i64 n), (8, .ptr 8 0 0)] (HO1 bS bA bP bU s (Pol.new n b) eX)) ?_ ?_
  · refine vc_sound hE 60 _ _ _ 30 ?_
    (refine (?_ : chk _ _); refine chk_ok (show (!(decide ((n : Int) = 0))) = true by simp; omega) ?_)
    refine ⟨n, IntKind.i64.wrap (1 + Int.tmod (IntKind.i64.wrap bo) n), rfl, fun _ => ⟨rfl, rfl, rfl, rfl⟩, fun e => ?_, fun e bS bA bP bU s hN hi => ?_⟩
    · rw [e2, hmay] at e; cases e
    · rw [e2] at hi ⊢
      have v : live (HO1 bS bA bP bU s (Pol.new n b) eX) 100 := vX
      exact ⟨bS, bA, bP, bU, s, hi, tau [], rfl, (by repeat' (first | exact rfl | exact trivial | assumption | refine ⟨?_, ?_⟩)), HPW.wkIn (p := Pol.new n b) rfl rfl rfl rfl rfl trivial trivial trivial ⟨wX _ _, trivial⟩⟩
  rintro σ1 h1 _ ⟨bS, bA, bP, bU, s, hi, τ1, hw1⟩
  refine W_weak (nx' := 30) τ1 hw1 ?_
  clear hw1
  have hw1 : ∀ (s : Sh) (p : Pol), wkH (tau []) (HO1 bS bA bP bU s p eX) (HO1 bS bA bP bU s p eX) (HO1 bS bA bP bU s p eX) := fun s p => HPW.wkR ⟨wX _ _, trivial⟩
  have vX1 : ∀ (s : Sh) (p : Pol), live (HO1 bS bA bP bU s p eX) 100 := fun _ _ => vX
  refine W_seq (nx := 30) ?_
  refine W_to (nx := 30) [(2, .slice 100 0 len cap), (7, .int .i64 n), (8, .ptr 8 0 0)] (HO1 bS bA bP bU s (Pol.new n b) eX) 30 ?_ ?_
  · refine vc_sound hE 60 _ _ _ 30 ?_
    have v := vX1 s (Pol.new n b)
    exact ⟨tau [], rfl, (by repeat' (first | exact rfl | exact trivial | assumption | refine ⟨?_, ?_⟩)), hw1 _ _⟩
  refine W_seq (nx := 30) ?_
  refine W_to (nx := 30) [(2, .slice 100 0 len cap), (7, .int .i64 n), (8, .ptr 8 0 0), (10, .nils)] (HO1 bS bA bP bU s (Pol.new n b) eX) 30 ?_ ?_
  · refine vc_sound hE 60 _ _ _ 30 ?_
    have v := vX1 s (Pol.new n b)
    exact ⟨tau [], rfl, (by repeat' (first | exact rfl | exact trivial | assumption | refine ⟨?_, ?_⟩)), hw1 _ _⟩
  refine W_nil (σ' := [(2, .slice 100 0 len cap), (7, .int .i64 n), (8, .ptr 8 0 0), (10, .slice 200 0 (cI []).length 0)]) 200 rfl ⟨tell_slice rfl, tell_flat trivial, tell_ptr rfl, tell_nil rfl, trivial⟩ (nx' := 30) ?_
  refine W_seq (nx := 30) ?_
  -- all enter
  refine W_ex (nx := 30) (fun (a : Pol × Sh × Ent × Nat) => Inv a.2.1 a.1.m a.1.m.n ∧ Old n a.1 (List.range n) ∧ a.1.Fit2 n ∧ lstE a.2.2.1 (cI (List.range n)) a.2.2.2) (fun a => [(2, .slice 100 0 len cap), (7, .int .i64 n), (8, .ptr 8 0 0), (10, .slice 200 0 (cI (List.range n)).length a.2.2.2)]) (fun a => HO bS bA bP bU a.2.1 a.1 eX a.2.2.1) 60 ?_ ?_
  · refine vc_sound hE 5 _ _ _ 30 ?_
    have v0 : live (HO bS bA bP bU s (Pol.new n b) eX nilE) 200 := trivial
    have v1 : live (HO bS bA bP bU s (Pol.new n b) eX nilE) 100 := vX
    refine W_loop (fun r σ h => ∃ (j : Nat) (p : Pol) (s : Sh) (e : Ent) (cp : Nat), r = n - j ∧ j ≤ n ∧ Inv s p.m p.m.n ∧ Old n p (List.range j) ∧ p.Fit2 j ∧ lstE e (cI (List.range j)) cp ∧ σ = [(2, .slice 100 0 len cap), (7, .int .i64 n), (8, .ptr 8 0 0), (10, .slice 200 0 (cI (List.range j)).length cp), (11, .int .i64 (j : Int))] ∧ h = HO bS bA bP bU s p eX e)
      n ⟨0, Pol.new n b, s, nilE, 0, rfl, by omega, hi, Old.new n b, ⟨Nat.zero_le _, Nat.zero_le _, Nat.zero_le _, Nat.zero_le _⟩, nilL, rfl, rfl⟩ (tau []) ⟨rfl, (by repeat' (first | exact rfl | exact trivial | assumption | refine ⟨?_, ?_⟩)), HPW.wkIn (p := Pol.new n b) rfl rfl rfl rfl rfl trivial trivial trivial ⟨wX _ _, lst_wk nilL _ _, trivial⟩⟩ 60 ?_
    clear hi s v0 v1
    rintro r σ h1 ⟨j, p, s, e, cp, rfl, hj, hi, ho, hfit, hl, rfl, rfl⟩
    have hok : Ok p.m := ⟨s, hi⟩
    have v0 : live (HO bS bA bP bU s p eX e) 200 := lst_live hl
    have v1 : live (HO bS bA bP bU s p eX e) 100 := vX
    refine W_seq (nx := 60) ?_
    refine W_piece (nx := 60) (fun σ1 h1 _ => j < n ∧ ∃ τ, wk τ σ1 h1 [(2, .slice 100 0 len cap), (7, .int .i64 n), (8, .ptr 8 0 0), (10, .slice 200 0 (cI (List.range j)).length cp), (11, .int .i64 (j : Int))] (HO bS bA bP bU s p eX e)) ?_ ?_
    · refine vc_sound hE 60 _ _ _ 60 ?_
      (refine (?_ : br _ _ _); refine br_dec (fun q => ?_) (fun q => ?_))
      · have q : (j : Int) < n := q
        exact ⟨by omega, tau [], rfl, (by repeat' (first | exact rfl | exact trivial | assumption | refine ⟨?_, ?_⟩)), HPW.wkIn rfl rfl rfl rfl rfl trivial trivial trivial ⟨wX _ _, lst_wk hl _ _, trivial⟩⟩
      · have q : ¬ (j : Int) < n := q
        obtain rfl : j = n := by omega
        exact ⟨(p, s, e, cp), ⟨hi, ho, hfit, hl⟩, tau [], rfl, (by repeat' (first | exact rfl | exact trivial | assumption | refine ⟨?_, ?_⟩)), HPW.wkIn rfl rfl rfl rfl rfl trivial trivial trivial ⟨wX _ _, lst_wk hl _ _, trivial⟩⟩
    rintro σ1 h1 _ ⟨hjn, τ1, hw⟩
    refine W_weak (nx' := 60) τ1 hw ?_
    clear hw
    have hw : IntKind.i64.wrap ((j : Int) + 1) = ((j + 1 : Nat) : Int) := by simp [IntKind.wrap_i64]; omega
    obtain ⟨c1, c2, ho'⟩ := ho.enter hok hjn (by simp)
    rw [← List.range_succ] at ho'
    refine vc_sound hE 60 _ _ _ 60 ?_
    refine ⟨_, p, p.enterP j 1, _, rfl, ⟨j, 1, rfl, by have := hfit.few; omega, rfl, rfl⟩, bS, bA, bP, bU, s, hi, rfl, rfl, rfl, rfl, rfl, fun s' hN hi' => ?_⟩
    rw [c1]
    refine ⟨_, p.enterP j 1, (p.enterP j 1).readyP j, _, rfl, ⟨j, rfl, rfl, rfl⟩, bS, bA, bP, bU, s', hi', rfl, eA_N hN, rfl, eU_N (enterP_nb p j 1).1, rfl, fun s'' hN2 hi2 => ?_⟩
    rw [c2]
    have hfit' : ((p.enterP j 1).readyP j).Fit2 (j + 1) := by
      have h1 := actP_fit hfit 0 j 1
      have h1 : (p.enterP j 1).Fit2 (j + 1) := h1
      have h2 := actP_fit h1 1 j 1
      have h2 : ((p.enterP j 1).readyP j).Fit2 (j + 1 + 1) := h2
      exact ⟨h2.want, h2.miss, h2.hits, by rw [readyP_R]; exact h1.few⟩
    have hn2 := (readyP_nb (p.enterP j 1) j).1
    generalize (p.enterP j 1).readyP j = p2 at ho' hi2 hfit' hn2 ⊢
    intro b1
    refine putS_some rfl ?_
    refine vc_app (v := .slice 200 0 (cI (List.range j)).length cp) (u := .slice 60 0 1 1) rfl rfl ?_
    have hyI : cI (List.range j) ++ [(j : Int)] = cI (List.range (j + 1)) := by rw [cI_snoc, List.range_succ]
    refine app_one intT hl rfl (x := (j : Int)) (.inr ⟨60, 0, 1, _, 1, _, rfl, rfl, Nat.le_refl _, fun i hi => (by obtain rfl : i = 0 := (by simpa using hi); rfl)⟩) rfl (by rw [cI_len, List.length_range]; omega) (fun e' hl' => ?_) (fun e' cp' hl' => ?_)
    · rw [hyI] at hl' ⊢
      have v2 : live (HO bS bA bP bU s'' p2 eX e') 200 := lst_live hl'
      have v3 : live (HO bS bA bP bU s'' p2 eX e') 100 := vX
      exact ⟨n - (j + 1), _, _, by omega, ⟨j + 1, p2, s'', e', cp, rfl, by omega, hi2, ho', hfit', hl', rfl, rfl⟩, tau [], rfl, (by repeat' (first | exact rfl | exact trivial | assumption | refine ⟨?_, ?_⟩)), HPW.wkIn rfl (eA_N hN2) rfl (eU_N hn2) rfl trivial trivial trivial ⟨wX _ _, lst_wk hl' _ _, trivial⟩⟩
    · rw [hyI] at hl' ⊢
      have v2 : live (HO bS bA bP bU s'' p2 eX e') 200 := lst_live hl'
      have v3 : live (HO bS bA bP bU s'' p2 eX e') 100 := vX
      exact ⟨n - (j + 1), _, _, by omega, ⟨j + 1, p2, s'', e', cp', rfl, by omega, hi2, ho', hfit', hl', rfl, rfl⟩, tau [(200, 61)], rfl, (by repeat' (first | exact rfl | exact trivial | assumption | refine ⟨?_, ?_⟩)), HPW.wkO rfl (eA_N hN2) rfl (eU_N hn2) rfl trivial trivial trivial ⟨wX _ _, lst_wk hl' _ _, trivial⟩⟩
  rintro ⟨p, s, e, cp⟩ ⟨hi, ho, hfit, hl⟩
  have hi : Inv s p.m p.m.n := hi
  have ho : Old n p (List.range n) := ho
  have hfit : p.Fit2 n := hfit
  have hl : lstE e (cI (List.range n)) cp := hl
  refine W_seq (nx := 60) ?_
  -- hits
  refine W_ex (nx := 60) (fun (a : Pol × Sh × Ent × Nat × List Nat) => Inv a.2.1 a.1.m a.1.m.n ∧ Old n a.1 a.2.2.2.2 ∧ lstE a.2.2.1 (cI a.2.2.2.2) a.2.2.2.1 ∧ a.2.2.2.2.length = n) (fun a => [(7, .int .i64 n), (8, .ptr 8 0 0), (10, .slice 200 0 (cI a.2.2.2.2).length a.2.2.2.1)]) (fun a => HO bS bA bP bU a.2.1 a.1 eX a.2.2.1) 60 ?_ ?_
  · refine vc_sound hE 5 _ _ _ 60 ?_
    have v0 : live (HO bS bA bP bU s p eX e) 200 := lst_live hl
    have v1 : live (HO bS bA bP bU s p eX e) 100 := vX
    refine W_loop (fun r σ h => ∃ (j : Nat) (p : Pol) (s : Sh) (e : Ent) (cp : Nat) (l : List Nat), r = len - j ∧ j ≤ len ∧ j ≤ 200 ∧ Inv s p.m p.m.n ∧ Old n p l ∧ l.length = n ∧ (∀ k, k < n → k ∈ l) ∧ p.Fit2 (n + j) ∧ lstE e (cI l) cp ∧ σ = [(2, .slice 100 0 len cap), (7, .int .i64 n), (8, .ptr 8 0 0), (10, .slice 200 0 (cI l).length cp), (12, .int .i64 (j : Int))] ∧ h = HO bS bA bP bU s p eX e)
      len ⟨0, p, s, e, cp, List.range n, rfl, by omega, by omega, hi, ho, List.length_range, fun k hk => List.mem_range.2 hk, hfit, hl, rfl, rfl⟩ (tau []) ⟨rfl, (by repeat' (first | exact rfl | exact trivial | assumption | refine ⟨?_, ?_⟩)), HPW.wkIn rfl rfl rfl rfl rfl trivial trivial trivial ⟨wX _ _, lst_wk hl _ _, trivial⟩⟩ 60 ?_

    rintro r σ h1 ⟨j, p, s, e, cp, l, rfl, hj, hj200, hi, ho, hll, hall, hfit, hl, rfl, rfl⟩
    have hok : Ok p.m := ⟨s, hi⟩
    have v0 : live (HO bS bA bP bU s p eX e) 200 := lst_live hl
    have v1 : live (HO bS bA bP bU s p eX e) 100 := vX
    have hwH : wkH (tau []) (HO bS bA bP bU s p eX e) (HO bS bA bP bU s p eX e) (HO bS bA bP bU s p eX e) := HPW.wkIn rfl rfl rfl rfl rfl trivial trivial trivial ⟨wX _ _, lst_wk hl _ _, trivial⟩
    refine W_seq (nx := 60) ?_
    refine W_piece (nx := 60) (fun σ1 h1 _ => (j < len ∧ j < 200) ∧ ∃ τ, wk τ σ1 h1 [(2, .slice 100 0 len cap), (7, .int .i64 n), (8, .ptr 8 0 0), (10, .slice 200 0 (cI l).length cp), (12, .int .i64 (j : Int))] (HO bS bA bP bU s p eX e)) ?_ ?_
    · refine vc_sound hE 60 _ _ _ 60 ?_
      (refine (?_ : br _ _ _); refine br_dec (fun q => ?_) (fun q => ?_))
      · have q1 : (j : Int) < (len : Int) := q
        (refine (?_ : br _ _ _); refine br_dec (fun q => ?_) (fun q => ?_))
        · have q2 : (j : Int) < 200 := q
          exact ⟨⟨by omega, by omega⟩, tau [], rfl, (by repeat' (first | exact rfl | exact trivial | assumption | refine ⟨?_, ?_⟩)), hwH⟩
        · exact ⟨(p, s, e, cp, l), ⟨hi, ho, hl, hll⟩, tau [], rfl, (by repeat' (first | exact rfl | exact trivial | assumption | refine ⟨?_, ?_⟩)), hwH⟩
      · exact ⟨(p, s, e, cp, l), ⟨hi, ho, hl, hll⟩, tau [], rfl, (by repeat' (first | exact rfl | exact trivial | assumption | refine ⟨?_, ?_⟩)), hwH⟩
    rintro σ1 h1 _ ⟨⟨hjl, hj3⟩, τ1, hw⟩
    refine W_weak (nx' := 60) τ1 hw ?_
    clear hw
    have hwj : IntKind.i64.wrap ((j : Int) + 1) = ((j + 1 : Nat) : Int) := by simp only [IntKind.wrap_i64]; omega
    have hzj : addI 0 ((j : Int)).toNat = j := by rw [Int.toNat_natCast, addI_eq, Nat.zero_add]
    obtain ⟨k, hk⟩ : ∃ k : Nat, (k : Int) = z j % n := ⟨(z j % n).toNat, by have := Int.emod_nonneg (z j) (show (n : Int) ≠ 0 by omega); omega⟩
    have hkn : k < n := by
      have h2 := Int.emod_lt_of_pos (z j) (show (0 : Int) < n by omega)
      omega
    have hzz := hz j hjl
    have e3 : Int.tmod (IntKind.i64.wrap (z (addI 0 ((j : Int)).toNat + 0 / 1))) n = (k : Int) := by
      rw [hzj, show j + 0 / 1 = j by omega, show IntKind.i64.wrap (z j) = z j by simp only [IntKind.wrap_i64]; omega, Int.tmod_eq_emod_of_nonneg (by omega)]
      exact hk.symm
    have hkl := hall k hkn
    refine vc_sound hE 2 _ _ _ 60 ?_
    refine W_seq (nx := 60) ?_
    refine W_to (nx := 60) [(2, .slice 100 0 len cap), (7, .int .i64 n), (8, .ptr 8 0 0), (10, .slice 200 0 (cI l).length cp), (12, .int .i64 (j : Int)), (13, .int .i64 (k : Int))] (HO bS bA bP bU s p eX e) 60 ?_ ?_
    · subst hX
      refine vc_sound hE 60 _ _ _ 60 ?_
      (refine (?_ : chk _ _); refine chk_ok (show (decide ((0 : Int) ≤ (j : Int)) && decide ((j : Int) < (len : Int))) = true by simp only [Bool.and_eq_true, decide_eq_true_eq]; omega) ?_)
      (refine (?_ : chk _ _); refine chk_ok rfl ?_)
      (refine (?_ : chk _ _); refine chk_ok (Nat.ble_eq_true_of_le (show addI 0 ((j : Int)).toNat * 1 + 0 + 1 ≤ len * 1 by rw [hzj]; omega)) ?_)
      (refine (?_ : chk _ _); refine chk_ok rfl ?_)
      (refine (?_ : chk _ _); refine chk_ok (show (!(decide ((n : Int) = 0))) = true by simp; omega) ?_)
      exact ⟨tau [], rfl, ⟨⟨⟨rfl, trivial⟩, rfl, rfl, rfl⟩, ⟨rfl, rfl⟩, ⟨⟨rfl, trivial⟩, rfl, rfl⟩, ⟨⟨rfl, v0⟩, rfl, rfl, rfl⟩, ⟨rfl, rfl⟩, ⟨rfl, e3⟩, trivial⟩, hwH⟩
    obtain ⟨c1, ho'⟩ := ho.hit hok hkn hkl
    have hfit' : (p.hitP k 1).Fit2 (n + (j + 1)) := by
      have h1 := actP_fit hfit 2 k 1
      exact h1
    have hhn := (hitP_nb p k 1).1
    refine vc_sound hE 60 _ _ _ 60 ?_
    refine ⟨_, p, p.hitP k 1, _, rfl, ⟨k, 1, rfl, hfit.fit (by omega), rfl, rfl⟩, bS, bA, bP, bU, s, hi, rfl, rfl, rfl, rfl, rfl, fun s' hN hi' => ?_⟩
    rw [c1]
    generalize p.hitP k 1 = p' at ho' hi' hfit' hhn ⊢
    have hfd : findI (k : Int) (cI l) = ((ix k l : Nat) : Int) := by unfold findI; rw [if_pos (mem_c.2 hkl), ixZ_c]
    refine ⟨_, cI l, k, rfl, hl.rd rfl, by rw [cI_len]; omega, ?_⟩
    rw [hfd]
    refine ⟨_, cI l, ix k l, rfl, hl.rd rfl, fun _ _ _ _ q => (by cases q; exact lst_cap hl), by rw [cI_len]; exact ix_lt hkl, by rw [cI_len]; omega, rfl, fun f1 cf hl1 => ?_⟩
    rw [eraseIdx_c hkl] at hl1 ⊢
    have hle : (l.erase k).length + 1 = n := by
      have := List.length_erase_of_mem hkl
      have : 0 < l.length := List.length_pos_of_mem hkl
      omega
    have hllN : (l.erase k ++ [k]).length = n := by simp; omega
    have hallN : ∀ x, x < n → x ∈ l.erase k ++ [k] := fun x hx => by
      rw [List.mem_append, List.mem_singleton]
      by_cases w : x = k
      · exact .inr w
      · exact .inl ((List.mem_erase_of_ne w).2 (hall x hx))
    intro b1
    refine putS_some rfl ?_
    refine vc_app (v := .slice 60 0 (cI (l.erase k)).length cf) (u := .slice 61 0 1 1) rfl rfl ?_
    refine app_one intT hl1 rfl (x := (k : Int)) (.inr ⟨61, 0, 1, _, 1, _, rfl, rfl, Nat.le_refl _, fun i hi => (by obtain rfl : i = 0 := (by simpa using hi); rfl)⟩) rfl (by rw [cI_len]; omega) (fun e' hl' => ?_) (fun e' cp' hl' => ?_)
    · rw [cI_snoc] at hl' ⊢
      have v2 : live (HO bS bA bP bU s' p' eX e') 200 := lst_live hl'
      have v3 : live (HO bS bA bP bU s' p' eX e') 100 := vX
      exact ⟨len - (j + 1), _, _, by omega, ⟨j + 1, p', s', e', cf, _, rfl, by omega, by omega, hi', ho', hllN, hallN, hfit', hl', rfl, rfl⟩, tau [(200, 60)], rfl, ⟨⟨⟨rfl, v3⟩, rfl, rfl, rfl⟩, ⟨rfl, rfl⟩, ⟨⟨rfl, trivial⟩, rfl, rfl⟩, ⟨⟨rfl, v2⟩, rfl, rfl, rfl⟩, ⟨rfl, hwj⟩, trivial⟩, HPW.wkO rfl (eA_N hN) rfl (eU_N hhn) rfl trivial trivial trivial ⟨wX _ _, lst_wk hl' _ _, trivial⟩⟩
    · rw [cI_snoc] at hl' ⊢
      have v2 : live (HO bS bA bP bU s' p' eX e') 200 := lst_live hl'
      have v3 : live (HO bS bA bP bU s' p' eX e') 100 := vX
      exact ⟨len - (j + 1), _, _, by omega, ⟨j + 1, p', s', e', cp', _, rfl, by omega, by omega, hi', ho', hllN, hallN, hfit', hl', rfl, rfl⟩, tau [(200, 62)], rfl, ⟨⟨⟨rfl, v3⟩, rfl, rfl, rfl⟩, ⟨rfl, rfl⟩, ⟨⟨rfl, trivial⟩, rfl, rfl⟩, ⟨⟨rfl, v2⟩, rfl, rfl, rfl⟩, ⟨rfl, hwj⟩, trivial⟩, HPW.wkO rfl (eA_N hN) rfl (eU_N hhn) rfl trivial trivial trivial ⟨wX _ _, lst_wk hl' _ _, trivial⟩⟩

  rintro ⟨p, s, e, cp, l⟩ ⟨hi, ho, hl, hll⟩
  have hi : Inv s p.m p.m.n := hi
  have ho : Old n p l := ho
  have hl : lstE e (cI l) cp := hl
  have hll : l.length = n := hll
  rcases hl with ⟨hnil, -, -⟩ | ⟨bl, g, ty, he, q1, q2, q3, q4⟩
  · exfalso
    have : (cI l).length = 0 := by rw [hnil]; rfl
    rw [cI_len] at this; omega
  have wE : ∀ τ h', wkE τ h' e e := fun τ h' => by rw [he]; exact lst_wk (l := cI l) (.inr ⟨_, _, _, rfl, q1, q2, q3, q4⟩) _ _
  have vE : e.here := by rw [he]; trivial
  refine W_seq (nx := 60) ?_
  -- all go
  refine W_ex (nx := 60) (fun (a : Pol × Sh) => Inv a.2 a.1.m a.1.m.n ∧ Old n a.1 []) (fun a => [(8, .ptr 8 0 0)]) (fun a => HO bS bA bP bU a.2 a.1 eX e) 60 ?_ ?_
  · refine vc_sound hE 5 _ _ _ 60 ?_
    have v0 : live (HO bS bA bP bU s p eX e) 200 := vE
    refine W_loop (fun r σ h => ∃ (j : Nat) (p : Pol) (s : Sh), r = n - j ∧ j ≤ n ∧ Inv s p.m p.m.n ∧ Old n p (l.drop j) ∧ σ = [(7, .int .i64 n), (8, .ptr 8 0 0), (10, .slice 200 0 (cI l).length cp), (14, .int .i64 (j : Int))] ∧ h = HO bS bA bP bU s p eX e)
      n ⟨0, p, s, rfl, by omega, hi, ho, rfl, rfl⟩ (tau []) ⟨rfl, (by repeat' (first | exact rfl | exact trivial | assumption | refine ⟨?_, ?_⟩)), HPW.wkIn rfl rfl rfl rfl rfl trivial trivial trivial ⟨wX _ _, wE _ _, trivial⟩⟩ 60 ?_
    rintro r σ h1 ⟨j, p, s, rfl, hj, hi, ho, rfl, rfl⟩
    have hok : Ok p.m := ⟨s, hi⟩
    have v0 : live (HO bS bA bP bU s p eX e) 200 := vE
    refine W_seq (nx := 60) ?_
    refine W_piece (nx := 60) (fun σ1 h1 _ => j < n ∧ ∃ τ, wk τ σ1 h1 [(7, .int .i64 n), (8, .ptr 8 0 0), (10, .slice 200 0 (cI l).length cp), (14, .int .i64 (j : Int))] (HO bS bA bP bU s p eX e)) ?_ ?_
    · refine vc_sound hE 60 _ _ _ 60 ?_
      (refine (?_ : br _ _ _); refine br_dec (fun q => ?_) (fun q => ?_))
      · have q : (j : Int) < n := q
        exact ⟨by omega, tau [], rfl, (by repeat' (first | exact rfl | exact trivial | assumption | refine ⟨?_, ?_⟩)), HPW.wkIn rfl rfl rfl rfl rfl trivial trivial trivial ⟨wX _ _, wE _ _, trivial⟩⟩
      · have q : ¬ (j : Int) < n := q
        have hjn : j = n := by omega
        rw [List.drop_of_length_le (by omega)] at ho
        exact ⟨(p, s), ⟨hi, ho⟩, tau [], rfl, (by repeat' (first | exact rfl | exact trivial | assumption | refine ⟨?_, ?_⟩)), HPW.wkIn rfl rfl rfl rfl rfl trivial trivial trivial ⟨wX _ _, wE _ _, trivial⟩⟩
    rintro σ1 h1 _ ⟨hjn, τ1, hw⟩
    refine W_weak (nx' := 60) τ1 hw ?_
    clear hw
    have hwj : IntKind.i64.wrap ((j : Int) + 1) = ((j + 1 : Nat) : Int) := by simp only [IntKind.wrap_i64]; omega
    have hzj : addI 0 ((j : Int)).toNat = j := by rw [Int.toNat_natCast, addI_eq, Nat.zero_add]
    have hjl : j < l.length := by omega
    have hcl : (cI l).length = l.length := cI_len l
    rw [List.drop_eq_getElem_cons hjl] at ho
    have hxn : l[j] < n := by
      have := hok.lt (q := 1) (by omega) (i := l[j]) (by rw [ho.e1, List.mem_reverse]; exact List.mem_cons_self)
      rw [ho.n] at this
      exact this
    obtain ⟨hv, ho'⟩ := ho.vic hok hxn
    have hvn := (vicP_nb p).1
    refine vc_sound hE 60 _ _ _ 60 ?_
    refine ⟨_, p, p.vicP, _, rfl, ⟨rfl, rfl, rfl⟩, bS, bA, bP, bU, s, hi, rfl, rfl, rfl, rfl, rfl, fun s' hN hi' => ?_⟩
    rw [hv]
    subst he
    (refine (?_ : chk _ _); refine chk_ok (show (decide ((0 : Int) ≤ (j : Int)) && decide ((j : Int) < ((cI l).length : Int))) = true by simp only [Bool.and_eq_true, decide_eq_true_eq]; omega) ?_)
    (refine (?_ : chk _ _); refine chk_ok rfl ?_)
    (refine (?_ : chk _ _); refine chk_ok (Nat.ble_eq_true_of_le (show addI 0 ((j : Int)).toNat * 1 + 0 + 1 ≤ cp * 1 by rw [hzj]; omega)) ?_)
    have hg : g (addI 0 ((j : Int)).toNat + 0 / 1) (0 % 1) = .int .i64 ((l[j] : Nat) : Int) := by
      rw [hzj, show j + 0 / 1 = j by omega, show 0 % 1 = 0 by omega, q3 j (by rw [cI_len]; omega), cI_at hjl]
    (refine (?_ : chk _ _); refine chk_ok rfl ?_)
    rw [hg]
    (refine (?_ : br _ _ _); refine br_neF rfl ?_)
    have v2 : live (HO bS bA bP bU s' p.vicP eX (.blk bl cp 1 g ty)) 200 := trivial
    exact ⟨n - (j + 1), _, _, by omega, ⟨j + 1, p.vicP, s', rfl, by omega, hi', ho', rfl, rfl⟩, tau [], rfl, ⟨⟨rfl, rfl⟩, ⟨⟨rfl, trivial⟩, rfl, rfl⟩, ⟨⟨rfl, trivial⟩, rfl, rfl, rfl⟩, ⟨rfl, hwj⟩, trivial⟩, HPW.wkIn rfl (eA_N hN) rfl (eU_N hvn) rfl trivial trivial trivial ⟨wX _ _, wE _ _, trivial⟩⟩
  rintro ⟨p, s⟩ ⟨hi, ho⟩
  have hi : Inv s p.m p.m.n := hi
  have ho : Old n p [] := ho
  refine vc_sound hE 60 _ _ _ 60 ?_
  refine ⟨_, p, p.vicP, _, rfl, ⟨rfl, rfl, rfl⟩, bS, bA, bP, bU, s, hi, rfl, rfl, rfl, rfl, rfl, fun s' hN hi' => ?_⟩
  rw [ho.none]
  rfl

def sOldest : Spec := fun args h nx K => ∃ (fr bo : Int) (ub : Option Addr) (len cap : Nat) (z : Nat → Int), args = [.int .u8 fr, .int .u8 bo, .slice 100 0 len cap] ∧ h = [(1000, eB), (100, .ro ub len 1 (g1 .u8 z))] ∧ (0 ≤ fr ∧ fr ≤ 255) ∧ (0 ≤ bo ∧ bo ≤ 255) ∧ len ≤ 9223372036854775807 ∧ (∀ i, i < len → IntKind.u8.has (z i)) ∧ K (.ret (.bool true)) h nx
theorem sOldest_ok : SpecOK Tryd.prog 6 sOldest := by
  refine specOK_read (fn := Tryd.f6) rfl rfl rfl T_ok (SP := SPL4) spl4 0 _ ?_
  rintro args h nx K ⟨fr, bo, ub, len, cap, z, rfl, rfl, hfr, hbo, hlen, hz, hk⟩
  refine ⟨[(1000, eB), (100, .ro ub len 1 (g1 .u8 z))], ⟨fun i c hi hc => trivial, fun i c hi hc => trivial, trivial⟩, ⟨⟨rfl, _, _, _, _, rfl⟩, ⟨rfl, _, _, _, _, rfl⟩, trivial⟩, ⟨trivial, trivial, rfl, trivial⟩, by simp [Tryd.f6], fun o => o = .ret (.bool true), ?_, ?_⟩
  · rintro o rfl
    exact ⟨trivial, hk⟩
  · intro c hc
    obtain ⟨cd, h1, h2⟩ := oldest_walk hc hfr hbo (ub := ub) (cap := cap) (z := z) hlen (fun i hi => u8_has (hz i hi))
    cases h1
    exact h2
end Go.Proofs.YtiihiifcnkfjoaaDoor.Sx
