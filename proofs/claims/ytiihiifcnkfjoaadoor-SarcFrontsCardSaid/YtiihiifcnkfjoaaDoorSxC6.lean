import Derived.Test.YtiihiifcnkfjoaaDoorSxC5
/-
  The walks of this seat's laws: SarcFronts.
-/
namespace Go.Proofs.YtiihiifcnkfjoaaDoor.Sx
open Go Go.Proofs
set_option maxRecDepth 100000
set_option linter.unusedSimpArgs false
set_option linter.unusedVariables false

/-! ### What a hit does to both lists -/
theorem erase_no {l : List Nat} {k : Nat} (h : k ∉ l) : l.erase k = l := List.erase_of_not_mem h
theorem hit_L {p : Pol} (hok : Ok p.m) {k l : Nat} (hk : k < p.m.n) (hl : l < 2) (hb : p.inB k = true) {q : Nat} (hq : q < 2) : (p.hitP k l).m.L q = if q = l then k :: (p.m.L q).erase k else (p.m.L q).erase k := by
  have hm : p.mayI k l = true := may_of hk (by omega)
  have hnd : (p.m.L 0 ++ p.m.L 1).Nodup := by obtain ⟨s, hi⟩ := hok; exact hi.nd
  have e : (p.hitP k l).m = p.m.frontI l k := by
    unfold Pol.hitP
    rw [if_pos ⟨hm, hb⟩]
    show (p.hitW k).m.frontI l k = _
    rw [(hitW_m p k).1]
  have eF : p.m.frontI l k = p.m.front l k := by unfold Md.frontI; rw [if_pos ⟨by unfold rightB; simp; omega, isN_of hk⟩]; rfl
  have hO : ∀ i, i < 2 → (p.m.out k).L i = (p.m.L i).erase k := fun i hi => by
    unfold Md.out Md.at
    by_cases w0 : k ∈ p.m.L 0
    · have w1 : k ∉ p.m.L 1 := fun w => (List.nodup_append.1 hnd).2.2 k w0 k w rfl
      rw [if_pos w0]
      show (if i = 0 then (p.m.L 0).erase k else p.m.L i) = _
      obtain rfl | rfl : i = 0 ∨ i = 1 := by omega
      · rw [if_pos rfl]
      · rw [if_neg (by omega), erase_no w1]
    · rw [if_neg w0]
      by_cases w1 : k ∈ p.m.L 1
      · rw [if_pos w1]
        show (if i = 1 then (p.m.L 1).erase k else p.m.L i) = _
        obtain rfl | rfl : i = 0 ∨ i = 1 := by omega
        · rw [if_neg (by omega), erase_no w0]
        · rw [if_pos rfl]
      · rw [if_neg w1]
        obtain rfl | rfl : i = 0 ∨ i = 1 := by omega
        · exact (erase_no w0).symm
        · exact (erase_no w1).symm
  rw [e, eF]
  unfold Md.front
  show (if q = l then k :: (p.m.out k).L l else (p.m.out k).L q) = _
  by_cases w : q = l
  · rw [if_pos w, if_pos w, hO l hl, w]
  · rw [if_neg w, if_neg w, hO q hq]
theorem hit_held {p : Pol} (k l : Int) : (p.hitP k l).m.held = p.m.held := by
  unfold Pol.hitP
  split
  · have e : ((p.hitW k).frontP k l).m = p.m.frontI l k := by
      show (p.hitW k).m.frontI l k = _
      rw [(hitW_m p k).1]
    rw [e]
    have h1 : (p.m.frontI l k).n = p.m.n := front_nb.1
    have h2 : (p.m.frontI l k).H = p.m.H := by
      unfold Md.frontI
      split
      · unfold Md.front Md.out
        cases p.m.at k.toNat <;> rfl
      · rfl
    unfold Md.held
    rw [h1, h2]
  · rfl
theorem hit_cnt {p : Pol} (k l : Int) : (p.hitP k l).miss ≤ p.miss ∧ (p.hitP k l).hits ≤ p.hits + 1 := by
  unfold Pol.hitP
  split
  · show (p.hitW k).miss ≤ p.miss ∧ (p.hitW k).hits ≤ p.hits + 1
    unfold Pol.hitW
    split
    · refine ⟨?_, ?_⟩
      · show (if 64 ≤ max p.miss (p.hits + 1) then p.miss / 2 else p.miss) ≤ p.miss
        split <;> omega
      · show (if 64 ≤ max p.miss (p.hits + 1) then (p.hits + 1) / 2 else p.hits + 1) ≤ p.hits + 1
        split <;> omega
    · omega
  · omega
theorem hit_code {p : Pol} {k l : Nat} (hk : k < p.m.n) (hl : l < 2) : p.hitC k l = if p.inB k = true then 0 else 3 := by
  have hm : p.mayI k l = true := may_of hk (by omega)
  unfold Pol.hitC
  rw [if_neg (by rw [hm]; simp)]
  cases p.inB k <;> rfl

/-! ### The walk -/
theorem gPo_rn2 {h' : Hp} {p : Pol} {d0 d1 d2 c : Nat} (v0 : live h' 80) (v1 : live h' 81) (v2 : live h' 82) (hc : c < 6) : rn (tau []) h' (gPo p 80 d0 d1 d2 0 c) (gPo p 80 d0 d1 d2 0 c) := by
  match c, hc with
  | 0, _ => exact ⟨⟨rfl, v0⟩, rfl, rfl, rfl⟩
  | 1, _ => exact ⟨⟨rfl, v1⟩, rfl, rfl, rfl⟩
  | 2, _ => exact ⟨⟨rfl, v2⟩, rfl, rfl, rfl⟩
  | 3, _ => exact ⟨rfl, rfl⟩
  | 4, _ => exact ⟨rfl, rfl⟩
  | 5, _ => exact ⟨rfl, rfl⟩
abbrev eW2 (b : Nat) (p : Pol) (d0 d1 d2 : Nat) : Ent := .blk b 1 6 (gPo p 80 d0 d1 d2) 39
theorem eW2_wk {h' : Hp} {b : Nat} {p : Pol} {d0 d1 d2 : Nat} (v0 : live h' 80) (v1 : live h' 81) (v2 : live h' 82) : wkE (tau []) h' (eW2 b p d0 d1 d2) (eW2 b p d0 d1 d2) := ⟨rfl, rfl, rfl, rfl, fun i c hi hc => by obtain rfl : i = 0 := (by omega); exact gPo_rn2 v0 v1 v2 hc⟩
def gA2 (x y : Int) : Nat → Nat → V := fun i _ => match i with | 0 => .int .u8 x | _ => .int .u8 y
abbrev HT1 (bS bA bP bU : Nat) (s : Sh) (p : Pol) (eX : Ent) (ba : Nat) (x y : Int) : Hp := HPW bS bA bP bU s p ++ [(100, eX), (101, .blk ba 2 1 (gA2 x y) 54)]
abbrev HT2 (bS bA bP bU : Nat) (s : Sh) (p : Pol) (b : Nat) (p0 : Pol) (f0 f1 f2 : Ent) (d0 d1 d2 : Nat) (b' : Nat) (p' : Pol) (g0 g1 g2 : Ent) (u0 u1 u2 : Nat) : Hp := HPW bS bA bP bU s p ++ [(73, eW b p0 d0 d1 d2), (70, f0), (71, f1), (72, f2), (83, eW2 b' p' u0 u1 u2), (80, g0), (81, g1), (82, g2)]
theorem eAt_wk {b : Nat} {x y : Int} (τ : Nat → Nat) (h' : Hp) : wkE τ h' (.blk b 2 1 (gA2 x y) 54) (.blk b 2 1 (gA2 x y) 54) := ⟨rfl, rfl, rfl, rfl, fun i c hi hc => by
  match i with
  | 0 => exact ⟨rfl, rfl⟩
  | i + 1 => exact ⟨rfl, rfl⟩⟩
def SPL6 : SpT := [(9, sAwake), (10, sPNew), (15, sPolicy), (19, sFind), (12, sQNew), (13, sStepQ), (23, PHit), (24, sWithout), (25, sInts)]
theorem spl6 : ∀ p ∈ SPL6, SpecOK Tryd.prog p.1 p.2 := consSP sAwake_ok (consSP sPNew_ok (consSP sPolicy_ok (consSP sFind_ok (consSP sQNew_ok (consSP sStepQ_ok (consSP phit_ok (consSP sWithout_ok (consSP sInts_ok noSP))))))))

theorem vc_move {E : Env} {n : Nat} {d : Option Nat} {a ty : Nat} {pos : String} {aft : Array Edge} {all l : List Oper} {k : List It} {v : V} {σ : Sl} {h : Hp} {nx : Nat} (e1 : lk a σ = some v)
    (hk : putS E.fn.ntmps d v σ fun σ' => vc E n (.ops all l :: k) σ' h nx) : vc E (n + 1) (.ops all (⟨d, .move (.tmp a), ty, pos, aft, none⟩ :: l) :: k) σ h nx :=
  show opnd σ h (.tmp a) (fun v => putS E.fn.ntmps d v σ fun σ' => vc E n (.ops all l :: k) σ' h nx) from opnd_tmp e1 hk
/-- One in front of a list: a row of one, and the list behind it. -/
theorem app_pre {T : Tab} {t : Nat} (hA : appT T t) {tv nx : Nat} {u : V} {k : Int} {m : List Int} {h : Hp} {K : V → Hp → Nat → Prop} (hv : rdL h (.slice tv 0 1 1) [k]) (hu : rdL h u m) (hnx : fd nx h = .gone) (hsz : m.length + 1 ≤ 134217728)
    (k0 : m = [] → K (.slice tv 0 1 1) h nx) (k2 : ∀ e c, lstE e (k :: m) c → K (.slice nx 0 (k :: m).length c) ((nx, e) :: h) (nx + 1)) : appS T [t, t] (.slice tv 0 1 1) u h nx K := by
  refine app_L (l := [k]) (m := m) hA hv (fun _ _ _ _ q => by cases q; exact Nat.le_refl _) hu hnx (by simp; omega) k0 (fun tv' i c q hm hle => ?_) (fun _ b cap g' ty p1 p2 p3 => k2 _ cap (lstE.of p3 p1 p2))
  exfalso
  cases q
  cases m with
  | nil => exact hm rfl
  | cons a b => simp at hle; omega

theorem fronts_walk {c : Cx} (hc : c.P = Tryd.prog) {fr x y : Int} (hfr : 0 ≤ fr ∧ fr ≤ 255) (hx : 0 ≤ x ∧ x ≤ 255) (hy : 0 ≤ y ∧ y ≤ 255) {ub : Option Addr} {len cap : Nat} {z : Nat → Nat → Int} (hlen : len ≤ 9223372036854775807) :
    ∃ cd, Tryd.f7.body = some cd ∧ W ⟨c, Tryd.f7, T, SPL6, fun o _ _ => o = .ret (.bool true)⟩ [.code cd] (argsS [.int .u8 fr, .slice 100 0 len cap, .agg [.int .u8 x, .int .u8 y]] 0) [(1000, eB), (100, .ro ub len 3 (gT z))] 0 := by
  refine ⟨_, rfl, ?_⟩
  have hE := mkE' (fn := Tryd.f7) (R := fun o _ _ => o = .ret (.bool true)) hc spl6
  obtain ⟨eX, hX⟩ : ∃ eX : Ent, eX = .ro ub len 3 (gT z) := ⟨_, rfl⟩
  have wX : ∀ τ h', wkE τ h' eX eX := fun τ h' => by rw [hX]; exact gT_wk _ _
  rw [← hX]
  have vX : eX.here := by rw [hX]; trivial
  obtain ⟨n, hn⟩ : ∃ n : Nat, (n : Int) = 1 + fr % 64 := ⟨(1 + fr % 64).toNat, by omega⟩
  have hn1 : 1 ≤ n ∧ n ≤ 64 := by omega
  have hmay : mayB n 1 = true := by unfold mayB; simp only [Bool.and_eq_true, decide_eq_true_eq]; omega
  refine W_seq (nx := 0) ?_
  refine W_piece (nx := 0) (fun σ1 h1 _ => ∃ ba : Nat, ∃ τ, wk τ σ1 h1 [(0, .int .u8 fr), (1, .slice 100 0 len cap), (5, .ptr 101 0 0)] [(1000, eB), (100, eX), (101, .blk ba 2 1 (gA2 x y) 54)]) ?_ ?_
  · refine vc_sound hE 20 _ _ _ 30 ?_
    intro ba
    refine ⟨ba, tau [(101, 30)], rfl, ?_, ?_⟩
    · exact ⟨⟨rfl, rfl⟩, ⟨⟨rfl, vX⟩, rfl, rfl, rfl⟩, ⟨⟨rfl, trivial⟩, rfl, rfl⟩, trivial⟩
    · refine ⟨⟨rfl, rfl, rfl, fun i c hi hc => ⟨rfl, rfl⟩⟩, wX _ _, ⟨rfl, rfl, rfl, rfl, fun i c hi hc => ?_⟩, trivial⟩
      obtain rfl : c = 0 := (by have hc : c < 1 := hc; omega)
      have hi : i < 2 := hi
      match i, hi with
      | 0, _ => exact ⟨rfl, rfl⟩
      | 1, _ => exact ⟨rfl, rfl⟩
  rintro σ1 h1 _ ⟨ba, τ1, hw1⟩
  refine W_weak (nx' := 30) τ1 hw1 ?_
  clear hw1
  have hwk : wkH (tau []) [(1000, eB), (100, eX), (101, .blk ba 2 1 (gA2 x y) 54)] [(1000, eB), (100, eX), (101, .blk ba 2 1 (gA2 x y) 54)] [(1000, eB), (100, eX), (101, .blk ba 2 1 (gA2 x y) 54)] := ⟨⟨rfl, rfl, rfl, fun i c hi hc => ⟨rfl, rfl⟩⟩, wX _ _, eAt_wk _ _, trivial⟩
  have vX0 : live [(1000, eB), (100, eX), (101, .blk ba 2 1 (gA2 x y) 54)] 100 := vX
  refine W_seq (nx := 30) ?_
  refine W_to (nx := 30) [(0, .int .u8 fr), (1, .slice 100 0 len cap), (5, .ptr 101 0 0)] [(1000, eB), (100, eX), (101, .blk ba 2 1 (gA2 x y) 54)] 30 ?_ ?_
  · refine vc_sound hE 60 _ _ _ 30 ?_
    refine ⟨rfl, rfl, ?_⟩
    exact ⟨tau [], rfl, (by repeat' (first | exact rfl | exact trivial | assumption | refine ⟨?_, ?_⟩)), hwk⟩
  refine W_seq (nx := 30) ?_
  have e1 : IntKind.i64.wrap (1 + Int.tmod (IntKind.i64.wrap fr) 64) = (n : Int) := by
    rw [show IntKind.i64.wrap fr = fr by simp only [IntKind.wrap_i64]; omega, Int.tmod_eq_emod_of_nonneg (by omega)]
    simp only [IntKind.wrap_i64]; omega
  refine W_to (nx := 30) [(1, .slice 100 0 len cap), (5, .ptr 101 0 0), (7, .int .i64 n)] [(1000, eB), (100, eX), (101, .blk ba 2 1 (gA2 x y) 54)] 30 ?_ ?_
  · refine vc_sound hE 60 _ _ _ 30 ?_
    exact ⟨tau [], rfl, ⟨⟨⟨rfl, vX0⟩, rfl, rfl, rfl⟩, ⟨⟨rfl, trivial⟩, rfl, rfl⟩, ⟨rfl, e1⟩, trivial⟩, hwk⟩
  refine W_seq (nx := 30) ?_
  have vXH : ∀ (bS bA bP bU : Nat) (s : Sh) (p : Pol), live (HT1 bS bA bP bU s p eX ba x y) 100 := fun _ _ _ _ _ _ => vX
  refine W_piece (nx := 30) (fun σ1 h1 _ => ∃ (bS bA bP bU : Nat) (s : Sh), Inv s (Pol.new n 1).m (Pol.new n 1).m.n ∧ ∃ τ, wk τ σ1 h1 [(1, .slice 100 0 len cap), (5, .ptr 101 0 0), (7, .int .i64 n), (8, .ptr 8 0 0)] (HT1 bS bA bP bU s (Pol.new n 1) eX ba x y)) ?_ ?_
  · refine vc_sound hE 60 _ _ _ 30 ?_
    refine ⟨n, 1, rfl, fun _ => ⟨rfl, rfl, rfl, rfl⟩, fun e => ?_, fun e bS bA bP bU s hN hi => ?_⟩
    · rw [hmay] at e; cases e
    · have v := vXH bS bA bP bU s (Pol.new n 1)
      exact ⟨bS, bA, bP, bU, s, hi, tau [], rfl, (by repeat' (first | exact rfl | exact trivial | assumption | refine ⟨?_, ?_⟩)), HPW.wkIn (p := Pol.new n 1) rfl rfl rfl rfl rfl trivial trivial trivial ⟨wX _ _, eAt_wk _ _, trivial⟩⟩
  rintro σ1 h1 _ ⟨bS, bA, bP, bU, s, hi, τ1, hw1⟩
  refine W_weak (nx' := 30) τ1 hw1 ?_
  clear hw1
  have hw1 : ∀ (s : Sh) (p : Pol), wkH (tau []) (HT1 bS bA bP bU s p eX ba x y) (HT1 bS bA bP bU s p eX ba x y) (HT1 bS bA bP bU s p eX ba x y) := fun s p => HPW.wkIn rfl rfl rfl rfl rfl trivial trivial trivial ⟨wX _ _, eAt_wk _ _, trivial⟩
  refine W_seq (nx := 30) ?_
  refine W_to (nx := 30) [(1, .slice 100 0 len cap), (5, .ptr 101 0 0), (7, .int .i64 n), (8, .ptr 8 0 0)] (HT1 bS bA bP bU s (Pol.new n 1) eX ba x y) 30 ?_ ?_
  · refine vc_sound hE 60 _ _ _ 30 ?_
    have v := vXH bS bA bP bU s (Pol.new n 1)
    exact ⟨tau [], rfl, (by repeat' (first | exact rfl | exact trivial | assumption | refine ⟨?_, ?_⟩)), hw1 _ _⟩
  refine W_seq (nx := 30) ?_
  -- what is done first
  refine W_ex (nx := 30) (fun (a : Pol × Sh) => Inv a.2 a.1.m a.1.m.n ∧ a.1.m.n = n ∧ a.1.Fit2 150) (fun a => [(5, .ptr 101 0 0), (7, .int .i64 n), (8, .ptr 8 0 0)]) (fun a => HT1 bS bA bP bU a.2 a.1 eX ba x y) 70 ?_ ?_
  · refine vc_sound hE 5 _ _ _ 30 ?_
    have v := vXH bS bA bP bU s (Pol.new n 1)
    refine W_loop (fun r σ h => ∃ (j : Nat) (p : Pol) (s : Sh), r = len - j ∧ j ≤ len ∧ j ≤ 150 ∧ p.m.n = n ∧ p.Fit2 j ∧ Inv s p.m p.m.n ∧ σ = [(1, .slice 100 0 len cap), (5, .ptr 101 0 0), (7, .int .i64 n), (8, .ptr 8 0 0), (10, .int .i64 (j : Int))] ∧ h = HT1 bS bA bP bU s p eX ba x y)
      len ⟨0, Pol.new n 1, s, rfl, by omega, by omega, rfl, ⟨Nat.zero_le _, Nat.zero_le _, Nat.zero_le _, Nat.zero_le _⟩, hi, rfl, rfl⟩ (tau []) ⟨rfl, (by repeat' (first | exact rfl | exact trivial | assumption | refine ⟨?_, ?_⟩)), hw1 _ _⟩ 30 ?_
    rintro r σ h1 ⟨j, p, s, rfl, hj, hj150, hpn, hfit, hi, rfl, rfl⟩
    have hok : Ok p.m := ⟨s, hi⟩
    have v := vXH bS bA bP bU s p
    refine W_seq (nx := 30) ?_
    refine W_piece (nx := 30) (fun σ1 h1 _ => (j < len ∧ j < 150) ∧ ∃ τ, wk τ σ1 h1 [(1, .slice 100 0 len cap), (5, .ptr 101 0 0), (7, .int .i64 n), (8, .ptr 8 0 0), (10, .int .i64 (j : Int))] (HT1 bS bA bP bU s p eX ba x y)) ?_ ?_
    · refine vc_sound hE 60 _ _ _ 30 ?_
      (refine (?_ : br _ _ _); refine br_dec (fun q => ?_) (fun q => ?_))
      · have q1 : (j : Int) < (len : Int) := q
        (refine (?_ : br _ _ _); refine br_dec (fun q => ?_) (fun q => ?_))
        · have q2 : (j : Int) < 150 := q
          exact ⟨⟨by omega, by omega⟩, tau [], rfl, (by repeat' (first | exact rfl | exact trivial | assumption | refine ⟨?_, ?_⟩)), hw1 _ _⟩
        · exact ⟨(p, s), ⟨hi, hpn, hfit.mono hj150⟩, tau [], rfl, (by repeat' (first | exact rfl | exact trivial | assumption | refine ⟨?_, ?_⟩)), hw1 _ _⟩
      · exact ⟨(p, s), ⟨hi, hpn, hfit.mono hj150⟩, tau [], rfl, (by repeat' (first | exact rfl | exact trivial | assumption | refine ⟨?_, ?_⟩)), hw1 _ _⟩
    rintro σ1 h1 _ ⟨⟨hjl, hj3⟩, τ1, hw⟩
    refine W_weak (σ' := [(1, .slice 100 0 len cap), (5, .ptr 101 0 0), (7, .int .i64 n), (8, .ptr 8 0 0), (10, .int .i64 (j : Int))]) (h' := HT1 bS bA bP bU s p eX ba x y) (nx' := 90) τ1 hw ?_
    clear hw
    have hwj : IntKind.i64.wrap ((j : Int) + 1) = ((j + 1 : Nat) : Int) := by simp only [IntKind.wrap_i64]; omega
    have hzj : addI 0 ((j : Int)).toNat = j := by rw [Int.toNat_natCast, addI_eq, Nat.zero_add]
    have hokn : Ok (Pol.new n 1).m := Ok.new hmay
    refine W_seq (nx := 90) ?_
    refine W_piece (nx := 90) (fun σ1 h1 _ => ∃ (p' : Pol) (s' : Sh), (p'.m.n = n ∧ p'.Fit2 (j + 1) ∧ Inv s' p'.m p'.m.n) ∧ ∃ τ, wk τ σ1 h1 [(1, .slice 100 0 len cap), (5, .ptr 101 0 0), (7, .int .i64 n), (8, .ptr 8 0 0), (10, .int .i64 (j : Int))] (HT1 bS bA bP bU s' p' eX ba x y)) ?_ ?_
    · refine vc_sound hE 1 _ _ _ 90 ?_
      subst hX
      refine W_weak (nx := 90) (σ' := [(1, .slice 100 0 len cap), (5, .ptr 101 0 0), (7, .int .i64 n), (8, .ptr 8 0 0), (10, .int .i64 (j : Int))]) (h' := HT1 bS bA bP bU s p (.ro ub len 3 (gT z)) ba x y) (nx' := 90) (tau []) ⟨rfl, (by repeat' (first | exact rfl | exact trivial | assumption | refine ⟨?_, ?_⟩)), hw1 _ _⟩ ?_
      refine W_planw hE 90 [2, 7] (.take 0 (.take 1 (.take 3 (.take 4 (.all (.cons 2 (.all (.cons 5 (.all (.cons 6 (.all (.cons 7 .done .nil)) .nil)) .nil)) (.cons 5 (.all (.cons 2 (.all (.cons 6 (.all (.cons 7 .done .nil)) .nil)) (.cons 6 (.all (.cons 2 (.all (.cons 7 .done .nil)) .nil)) .nil))) .nil))))))) (by rw [hc]; exact mix) (by kernel_rfl) 60 ?_
      iterate 4 (refine ⟨_, ⟨rfl, rfl⟩, ?_⟩)
      refine ⟨⟨trivial, ?_⟩, ?_⟩
      · refine ⟨n, 1, rfl, by omega, rfl, rfl, rfl, rfl, rfl, rfl, fun bQ bR bH => ?_⟩
        refine ⟨⟨?_, ?_⟩, trivial⟩
        · (refine (?_ : chk _ _); refine chk_ok (show (decide ((0 : Int) ≤ (j : Int)) && decide ((j : Int) < (len : Int))) = true by simp only [Bool.and_eq_true, decide_eq_true_eq]; omega) ?_)
          trivial
        (refine (?_ : chk _ _); refine chk_ok (show (decide ((0 : Int) ≤ (j : Int)) && decide ((j : Int) < (len : Int))) = true by simp only [Bool.and_eq_true, decide_eq_true_eq]; omega) ?_)
        refine ⟨⟨?_, ?_⟩, trivial⟩
        · (refine (?_ : chk _ _); refine chk_ok (Nat.ble_eq_true_of_le (show addI 0 ((j : Int)).toNat * 3 + 0 + 3 ≤ len * 3 by rw [hzj]; omega)) ?_)
          trivial
        (refine (?_ : chk _ _); refine chk_ok (Nat.ble_eq_true_of_le (show addI 0 ((j : Int)).toNat * 3 + 0 + 3 ≤ len * 3 by rw [hzj]; omega)) ?_)
        refine ⟨⟨trivial, ?_⟩, trivial⟩
        refine ⟨p, Pol.new n 1, _, _, _, bS, bA, bP, bU, bQ, bR, bH, s, nilE, nilE, nilE, nilE, nilE, 0, 0, 0, _, _, rfl, rfl, hi, hfit.fit (by omega), LQ.nil n 1, .inl rfl, .inl rfl, hokn, new_fit _ _, rfl, fun ha bx s' EU E0 E1 EN t0 t1 tU d0 d1 dU hN' hi' n0 n1 nU => ?_, fun hna bx => ?_⟩
        · exact ⟨_, s', ⟨by rw [actP_n, hpn], actP_fit hfit _ _ _, hi'⟩, tau [], rfl, ⟨⟨⟨rfl, trivial⟩, rfl, rfl, rfl⟩, ⟨⟨rfl, trivial⟩, rfl, rfl⟩, ⟨rfl, rfl⟩, ⟨⟨rfl, trivial⟩, rfl, rfl⟩, ⟨rfl, rfl⟩, trivial⟩, HPW.wkIn rfl (eA_N hN') rfl (eU_N (actP_n p _ _ _)) rfl trivial trivial trivial ⟨wX _ _, eAt_wk _ _, trivial⟩⟩
        · exact ⟨p, s, ⟨hpn, hfit.mono (Nat.le_succ j), hi⟩, tau [], rfl, ⟨⟨⟨rfl, trivial⟩, rfl, rfl, rfl⟩, ⟨⟨rfl, trivial⟩, rfl, rfl⟩, ⟨rfl, rfl⟩, ⟨⟨rfl, trivial⟩, rfl, rfl⟩, ⟨rfl, rfl⟩, trivial⟩, HPW.wkIn rfl rfl rfl rfl rfl trivial trivial trivial ⟨wX _ _, eAt_wk _ _, trivial⟩⟩
      refine ⟨⟨?_, ?_⟩, trivial⟩
      · (refine (?_ : chk _ _); refine chk_ok (show (decide ((0 : Int) ≤ (j : Int)) && decide ((j : Int) < (len : Int))) = true by simp only [Bool.and_eq_true, decide_eq_true_eq]; omega) ?_)
        trivial
      (refine (?_ : chk _ _); refine chk_ok (show (decide ((0 : Int) ≤ (j : Int)) && decide ((j : Int) < (len : Int))) = true by simp only [Bool.and_eq_true, decide_eq_true_eq]; omega) ?_)
      refine ⟨⟨trivial, ?_⟩, ?_⟩
      · refine ⟨n, 1, rfl, by omega, rfl, rfl, rfl, rfl, rfl, rfl, fun bQ bR bH => ?_⟩
        refine ⟨⟨?_, ?_⟩, trivial⟩
        · (refine (?_ : chk _ _); refine chk_ok (Nat.ble_eq_true_of_le (show addI 0 ((j : Int)).toNat * 3 + 0 + 3 ≤ len * 3 by rw [hzj]; omega)) ?_)
          trivial
        (refine (?_ : chk _ _); refine chk_ok (Nat.ble_eq_true_of_le (show addI 0 ((j : Int)).toNat * 3 + 0 + 3 ≤ len * 3 by rw [hzj]; omega)) ?_)
        refine ⟨⟨trivial, ?_⟩, trivial⟩
        refine ⟨p, Pol.new n 1, _, _, _, bS, bA, bP, bU, bQ, bR, bH, s, nilE, nilE, nilE, nilE, nilE, 0, 0, 0, _, _, rfl, rfl, hi, hfit.fit (by omega), LQ.nil n 1, .inl rfl, .inl rfl, hokn, new_fit _ _, rfl, fun ha bx s' EU E0 E1 EN t0 t1 tU d0 d1 dU hN' hi' n0 n1 nU => ?_, fun hna bx => ?_⟩
        · exact ⟨_, s', ⟨by rw [actP_n, hpn], actP_fit hfit _ _ _, hi'⟩, tau [], rfl, ⟨⟨⟨rfl, trivial⟩, rfl, rfl, rfl⟩, ⟨⟨rfl, trivial⟩, rfl, rfl⟩, ⟨rfl, rfl⟩, ⟨⟨rfl, trivial⟩, rfl, rfl⟩, ⟨rfl, rfl⟩, trivial⟩, HPW.wkIn rfl (eA_N hN') rfl (eU_N (actP_n p _ _ _)) rfl trivial trivial trivial ⟨wX _ _, eAt_wk _ _, trivial⟩⟩
        · exact ⟨p, s, ⟨hpn, hfit.mono (Nat.le_succ j), hi⟩, tau [], rfl, ⟨⟨⟨rfl, trivial⟩, rfl, rfl, rfl⟩, ⟨⟨rfl, trivial⟩, rfl, rfl⟩, ⟨rfl, rfl⟩, ⟨⟨rfl, trivial⟩, rfl, rfl⟩, ⟨rfl, rfl⟩, trivial⟩, HPW.wkIn rfl rfl rfl rfl rfl trivial trivial trivial ⟨wX _ _, eAt_wk _ _, trivial⟩⟩
      refine ⟨⟨?_, ?_⟩, trivial⟩
      · (refine (?_ : chk _ _); refine chk_ok (Nat.ble_eq_true_of_le (show addI 0 ((j : Int)).toNat * 3 + 0 + 3 ≤ len * 3 by rw [hzj]; omega)) ?_)
        trivial
      (refine (?_ : chk _ _); refine chk_ok (Nat.ble_eq_true_of_le (show addI 0 ((j : Int)).toNat * 3 + 0 + 3 ≤ len * 3 by rw [hzj]; omega)) ?_)
      refine ⟨⟨trivial, ?_⟩, trivial⟩
      refine ⟨n, 1, rfl, by omega, rfl, rfl, rfl, rfl, rfl, rfl, fun bQ bR bH => ?_⟩
      refine ⟨⟨trivial, ?_⟩, trivial⟩
      refine ⟨p, Pol.new n 1, _, _, _, bS, bA, bP, bU, bQ, bR, bH, s, nilE, nilE, nilE, nilE, nilE, 0, 0, 0, _, _, rfl, rfl, hi, hfit.fit (by omega), LQ.nil n 1, .inl rfl, .inl rfl, hokn, new_fit _ _, rfl, fun ha bx s' EU E0 E1 EN t0 t1 tU d0 d1 dU hN' hi' n0 n1 nU => ?_, fun hna bx => ?_⟩
      · exact ⟨_, s', ⟨by rw [actP_n, hpn], actP_fit hfit _ _ _, hi'⟩, tau [], rfl, ⟨⟨⟨rfl, trivial⟩, rfl, rfl, rfl⟩, ⟨⟨rfl, trivial⟩, rfl, rfl⟩, ⟨rfl, rfl⟩, ⟨⟨rfl, trivial⟩, rfl, rfl⟩, ⟨rfl, rfl⟩, trivial⟩, HPW.wkIn rfl (eA_N hN') rfl (eU_N (actP_n p _ _ _)) rfl trivial trivial trivial ⟨wX _ _, eAt_wk _ _, trivial⟩⟩
      · exact ⟨p, s, ⟨hpn, hfit.mono (Nat.le_succ j), hi⟩, tau [], rfl, ⟨⟨⟨rfl, trivial⟩, rfl, rfl, rfl⟩, ⟨⟨rfl, trivial⟩, rfl, rfl⟩, ⟨rfl, rfl⟩, ⟨⟨rfl, trivial⟩, rfl, rfl⟩, ⟨rfl, rfl⟩, trivial⟩, HPW.wkIn rfl rfl rfl rfl rfl trivial trivial trivial ⟨wX _ _, eAt_wk _ _, trivial⟩⟩
    rintro σ1 h1 _ ⟨p', s', ⟨hpn', hfit', hi'⟩, τ1, hw⟩
    refine W_weak (nx' := 30) τ1 hw ?_
    clear hw
    have v := vXH bS bA bP bU s' p'
    refine vc_sound hE 60 _ _ _ 30 ?_
    exact ⟨len - (j + 1), _, _, by omega, ⟨j + 1, p', s', rfl, by omega, by omega, hpn', hfit', hi', rfl, rfl⟩, tau [], rfl, ⟨⟨⟨rfl, v⟩, rfl, rfl, rfl⟩, ⟨⟨rfl, trivial⟩, rfl, rfl⟩, ⟨rfl, rfl⟩, ⟨⟨rfl, trivial⟩, rfl, rfl⟩, ⟨rfl, hwj⟩, trivial⟩, hw1 _ _⟩
  rintro ⟨p, s⟩ ⟨hi, hpn, hfit⟩
  have hi : Inv s p.m p.m.n := hi
  have hpn : p.m.n = n := hpn
  have hfit : p.Fit2 150 := hfit
  have hok : Ok p.m := ⟨s, hi⟩
  obtain ⟨k, hk⟩ : ∃ k : Nat, (k : Int) = x % n := ⟨(x % n).toNat, by have := Int.emod_nonneg x (show (n : Int) ≠ 0 by omega); omega⟩
  have hkn : k < n := by
    have h2 := Int.emod_lt_of_pos x (show (0 : Int) < n by omega)
    omega
  obtain ⟨l, hl⟩ : ∃ l : Nat, (l : Int) = y % 2 := ⟨(y % 2).toNat, by omega⟩
  have hlt2 : l < 2 := by omega
  have e2 : Int.tmod (IntKind.i64.wrap x) n = (k : Int) := by
    rw [show IntKind.i64.wrap x = x by simp only [IntKind.wrap_i64]; omega, Int.tmod_eq_emod_of_nonneg (by omega)]
    exact hk.symm
  have e3 : Int.tmod (IntKind.i64.wrap y) 2 = (l : Int) := by
    rw [show IntKind.i64.wrap y = y by simp only [IntKind.wrap_i64]; omega, Int.tmod_eq_emod_of_nonneg (by omega)]
    exact hl.symm
  refine W_seq (nx := 70) ?_
  refine W_to (nx := 70) [(5, .ptr 101 0 0), (8, .ptr 8 0 0), (11, .int .i64 k)] (HT1 bS bA bP bU s p eX ba x y) 70 ?_ ?_
  · refine vc_sound hE 60 _ _ _ 70 ?_
    (refine (?_ : chk _ _); refine chk_ok (show (!(decide ((n : Int) = 0))) = true by simp; omega) ?_)
    exact ⟨tau [], rfl, ⟨⟨⟨rfl, trivial⟩, rfl, rfl⟩, ⟨⟨rfl, trivial⟩, rfl, rfl⟩, ⟨rfl, e2⟩, trivial⟩, hw1 _ _⟩
  refine W_seq (nx := 70) ?_
  refine W_to (nx := 70) [(8, .ptr 8 0 0), (11, .int .i64 k), (12, .int .i64 l)] (HPW bS bA bP bU s p) 70 ?_ ?_
  · refine vc_sound hE 60 _ _ _ 70 ?_
    exact ⟨tau [], rfl, ⟨⟨⟨rfl, trivial⟩, rfl, rfl⟩, ⟨rfl, rfl⟩, ⟨rfl, e3⟩, trivial⟩, HPW.wkIn (rest := []) rfl rfl rfl rfl rfl trivial trivial trivial trivial⟩
  -- what was
  refine W_seq (nx := 70) ?_
  refine W_piece (nx := 70) (fun σ1 h1 _ => ∃ (bw : Nat) (f0 f1 f2 : Ent) (d0 d1 d2 : Nat), (lstE f0 (cI (p.m.L 0)) d0 ∧ lstE f1 (cI (p.m.L 1)) d1 ∧ lstE f2 (cI p.m.held) d2) ∧ ∃ τ, wk τ σ1 h1 [(8, .ptr 8 0 0), (11, .int .i64 k), (12, .int .i64 l), (13, .ptr 73 0 0)] (HF2 bS bA bP bU s p bw p f0 f1 f2 d0 d1 d2)) ?_ ?_
  · refine vc_sound hE 60 _ _ _ 70 ?_
    refine ⟨p, rfl, ⟨bS, bA, bP, bU, s, hi, rfl, rfl, rfl, rfl, rfl⟩, rfl, rfl, rfl, fun f0 d0 f1 d1 f2 d2 hl0 hl1 hl2 => ?_⟩
    intro bw
    have v0 : live (HF2 bS bA bP bU s p bw p f0 f1 f2 d0 d1 d2) 70 := lst_live hl0
    have v1 : live (HF2 bS bA bP bU s p bw p f0 f1 f2 d0 d1 d2) 71 := lst_live hl1
    have v2 : live (HF2 bS bA bP bU s p bw p f0 f1 f2 d0 d1 d2) 72 := lst_live hl2
    refine ⟨bw, f0, f1, f2, d0, d1, d2, ⟨hl0, hl1, hl2⟩, tau [], rfl, (by repeat' (first | exact rfl | exact trivial | assumption | refine ⟨?_, ?_⟩)), HPW.wkIn rfl rfl rfl rfl rfl trivial trivial trivial ⟨⟨rfl, rfl, rfl, rfl, fun i c hi hc => ?_⟩, lst_wk hl0 _ _, lst_wk hl1 _ _, lst_wk hl2 _ _, trivial⟩⟩
    obtain rfl : i = 0 := (by have hi : i < 1 := hi; omega)
    match c, hc with
    | 0, _ => exact ⟨⟨rfl, v0⟩, rfl, rfl, rfl⟩
    | 1, _ => exact ⟨⟨rfl, v1⟩, rfl, rfl, rfl⟩
    | 2, _ => exact ⟨⟨rfl, v2⟩, rfl, rfl, rfl⟩
    | 3, _ => exact ⟨rfl, rfl⟩
    | 4, _ => exact ⟨rfl, rfl⟩
    | 5, _ => exact ⟨rfl, rfl⟩
  rintro σ1 h1 _ ⟨bw, f0, f1, f2, d0, d1, d2, ⟨hl0, hl1, hl2⟩, τ1, hw2⟩
  refine W_weak (nx' := 80) τ1 hw2 ?_
  clear hw2
  have hl064 := hok.len (q := 0) (by omega)
  have hl164 := hok.len (q := 1) (by omega)
  have hkp : k < p.m.n := by rw [hpn]; exact hkn
  have c1 := hit_code hkp hlt2
  cases hin : p.inB k with
  | false =>
    rw [hin, if_neg (by simp)] at c1
    have m0 : k ∉ p.m.L 0 := fun w => by rw [(inB_mem hok hkp).2 (List.mem_append.2 (.inl w))] at hin; cases hin
    have m1 : k ∉ p.m.L 1 := fun w => by rw [(inB_mem hok hkp).2 (List.mem_append.2 (.inr w))] at hin; cases hin
    have n0 : findI (k : Int) (cI (p.m.L 0)) < 0 := findI_neg.2 fun w => m0 (mem_c.1 w)
    have n1 : findI (k : Int) (cI (p.m.L 1)) < 0 := findI_neg.2 fun w => m1 (mem_c.1 w)
    refine vc_sound hE 80 _ _ _ 80 ?_
    refine ⟨_, p, p.hitP k l, _, rfl, ⟨k, l, rfl, hfit.fit (by omega), rfl, rfl⟩, bS, bA, bP, bU, s, hi, rfl, rfl, rfl, rfl, rfl, fun s' hN hi' => ?_⟩
    rw [c1]
    refine ⟨_, cI (p.m.L 0), k, rfl, hl0.rd rfl, by rw [cI_len]; omega, ?_⟩
    (refine (?_ : br _ _ _); refine br_decT n0 ?_)
    refine ⟨_, cI (p.m.L 1), k, rfl, hl1.rd rfl, by rw [cI_len]; omega, ?_⟩
    exact congrArg (fun b => Out.ret (V.bool b)) (decide_eq_true n1)
  | true =>
  rw [hin, if_pos rfl] at c1
  have hEq : ∀ q, q < 2 → (p.hitP k l).m.L q = if q = l then k :: (p.m.L q).erase k else (p.m.L q).erase k := fun q hq => hit_L hok hkp hlt2 hin hq
  have hHe := hit_held (p := p) k l
  obtain ⟨hM1, hM2⟩ := hit_cnt (p := p) k l
  have hhn := (hitP_nb p k l).1
  refine W_seq (nx := 80) ?_
  refine W_ex (nx := 80) (fun s' : Sh => Inv s' (p.hitP k l).m (p.hitP k l).m.n) (fun _ => [(8, .ptr 8 0 0), (11, .int .i64 k), (12, .int .i64 l), (13, .ptr 73 0 0)]) (fun s' => HF2 bS bA bP bU s' (p.hitP k l) bw p f0 f1 f2 d0 d1 d2) 80 ?_ ?_
  · refine vc_sound hE 60 _ _ _ 80 ?_
    refine ⟨_, p, p.hitP k l, _, rfl, ⟨k, l, rfl, hfit.fit (by omega), rfl, rfl⟩, bS, bA, bP, bU, s, hi, rfl, rfl, rfl, rfl, rfl, fun s' hN hi' => ?_⟩
    rw [c1]
    have v0 : live (HF2 bS bA bP bU s' (p.hitP k l) bw p f0 f1 f2 d0 d1 d2) 70 := lst_live hl0
    have v1 : live (HF2 bS bA bP bU s' (p.hitP k l) bw p f0 f1 f2 d0 d1 d2) 71 := lst_live hl1
    have v2 : live (HF2 bS bA bP bU s' (p.hitP k l) bw p f0 f1 f2 d0 d1 d2) 72 := lst_live hl2
    exact ⟨s', hi', tau [], rfl, (by repeat' (first | exact rfl | exact trivial | assumption | refine ⟨?_, ?_⟩)), HPW.wkIn rfl (eA_N hN) rfl (eU_N hhn) rfl trivial trivial trivial ⟨eW_wk v0 v1 v2, lst_wk hl0 _ _, lst_wk hl1 _ _, lst_wk hl2 _ _, trivial⟩⟩
  rintro s' hi'
  have hi' : Inv s' (p.hitP k l).m (p.hitP k l).m.n := hi'
  generalize p.hitP k l = p' at hEq hHe hM1 hM2 hhn hi' ⊢
  have hok' : Ok p'.m := ⟨s', hi'⟩
  have hp064 := hok'.len (q := 0) (by omega)
  have hp164 := hok'.len (q := 1) (by omega)
  -- what is
  refine W_seq (nx := 80) ?_
  refine W_piece (nx := 80) (fun σ1 h1 _ => ∃ (b2 : Nat) (g0 g1 g2 : Ent) (u0 u1 u2 : Nat), (lstE g0 (cI (p'.m.L 0)) u0 ∧ lstE g1 (cI (p'.m.L 1)) u1 ∧ lstE g2 (cI p'.m.held) u2) ∧ ∃ τ, wk τ σ1 h1 [(11, .int .i64 k), (12, .int .i64 l), (13, .ptr 73 0 0), (14, .ptr 83 0 0)] (HT2 bS bA bP bU s' p' bw p f0 f1 f2 d0 d1 d2 b2 p' g0 g1 g2 u0 u1 u2)) ?_ ?_
  · refine vc_sound hE 60 _ _ _ 80 ?_
    refine ⟨p', rfl, ⟨bS, bA, bP, bU, s', hi', rfl, rfl, rfl, rfl, rfl⟩, rfl, rfl, rfl, fun g0 u0 g1 u1 g2 u2 y0 y1 y2 => ?_⟩
    intro b2
    have v0 : live (HT2 bS bA bP bU s' p' bw p f0 f1 f2 d0 d1 d2 b2 p' g0 g1 g2 u0 u1 u2) 70 := lst_live hl0
    have v1 : live (HT2 bS bA bP bU s' p' bw p f0 f1 f2 d0 d1 d2 b2 p' g0 g1 g2 u0 u1 u2) 71 := lst_live hl1
    have v2 : live (HT2 bS bA bP bU s' p' bw p f0 f1 f2 d0 d1 d2 b2 p' g0 g1 g2 u0 u1 u2) 72 := lst_live hl2
    have v3 : live (HT2 bS bA bP bU s' p' bw p f0 f1 f2 d0 d1 d2 b2 p' g0 g1 g2 u0 u1 u2) 80 := lst_live y0
    have v4 : live (HT2 bS bA bP bU s' p' bw p f0 f1 f2 d0 d1 d2 b2 p' g0 g1 g2 u0 u1 u2) 81 := lst_live y1
    have v5 : live (HT2 bS bA bP bU s' p' bw p f0 f1 f2 d0 d1 d2 b2 p' g0 g1 g2 u0 u1 u2) 82 := lst_live y2
    refine ⟨b2, g0, g1, g2, u0, u1, u2, ⟨y0, y1, y2⟩, tau [], rfl, (by repeat' (first | exact rfl | exact trivial | assumption | refine ⟨?_, ?_⟩)), HPW.wkIn rfl rfl rfl rfl rfl trivial trivial trivial ⟨eW_wk v0 v1 v2, lst_wk hl0 _ _, lst_wk hl1 _ _, lst_wk hl2 _ _, ⟨rfl, rfl, rfl, rfl, fun i c hi hc => ?_⟩, lst_wk y0 _ _, lst_wk y1 _ _, lst_wk y2 _ _, trivial⟩⟩
    obtain rfl : i = 0 := (by have hi : i < 1 := hi; omega)
    match c, hc with
    | 0, _ => exact ⟨⟨rfl, v3⟩, rfl, rfl, rfl⟩
    | 1, _ => exact ⟨⟨rfl, v4⟩, rfl, rfl, rfl⟩
    | 2, _ => exact ⟨⟨rfl, v5⟩, rfl, rfl, rfl⟩
    | 3, _ => exact ⟨rfl, rfl⟩
    | 4, _ => exact ⟨rfl, rfl⟩
    | 5, _ => exact ⟨rfl, rfl⟩
  rintro σ1 h1 _ ⟨b2, g0, g1, g2, u0, u1, u2, ⟨y0, y1, y2⟩, τ1, hw2⟩
  refine W_weak (nx' := 90) τ1 hw2 ?_
  clear hw2
  have hwT : wkH (tau []) (HT2 bS bA bP bU s' p' bw p f0 f1 f2 d0 d1 d2 b2 p' g0 g1 g2 u0 u1 u2) (HT2 bS bA bP bU s' p' bw p f0 f1 f2 d0 d1 d2 b2 p' g0 g1 g2 u0 u1 u2) (HT2 bS bA bP bU s' p' bw p f0 f1 f2 d0 d1 d2 b2 p' g0 g1 g2 u0 u1 u2) := by
    have v0 : live (HT2 bS bA bP bU s' p' bw p f0 f1 f2 d0 d1 d2 b2 p' g0 g1 g2 u0 u1 u2) 70 := lst_live hl0
    have v1 : live (HT2 bS bA bP bU s' p' bw p f0 f1 f2 d0 d1 d2 b2 p' g0 g1 g2 u0 u1 u2) 71 := lst_live hl1
    have v2 : live (HT2 bS bA bP bU s' p' bw p f0 f1 f2 d0 d1 d2 b2 p' g0 g1 g2 u0 u1 u2) 72 := lst_live hl2
    have v3 : live (HT2 bS bA bP bU s' p' bw p f0 f1 f2 d0 d1 d2 b2 p' g0 g1 g2 u0 u1 u2) 80 := lst_live y0
    have v4 : live (HT2 bS bA bP bU s' p' bw p f0 f1 f2 d0 d1 d2 b2 p' g0 g1 g2 u0 u1 u2) 81 := lst_live y1
    have v5 : live (HT2 bS bA bP bU s' p' bw p f0 f1 f2 d0 d1 d2 b2 p' g0 g1 g2 u0 u1 u2) 82 := lst_live y2
    exact HPW.wkIn rfl rfl rfl rfl rfl trivial trivial trivial ⟨eW_wk v0 v1 v2, lst_wk hl0 _ _, lst_wk hl1 _ _, lst_wk hl2 _ _, eW2_wk v3 v4 v5, lst_wk y0 _ _, lst_wk y1 _ _, lst_wk y2 _ _, trivial⟩
  refine W_seq (nx := 90) ?_
  -- both lists
  refine W_to (nx := 90) [(13, .ptr 73 0 0), (14, .ptr 83 0 0)] (HT2 bS bA bP bU s' p' bw p f0 f1 f2 d0 d1 d2 b2 p' g0 g1 g2 u0 u1 u2) 90 ?_ ?_
  · refine vc_sound hE 5 _ _ _ 90 ?_
    refine W_loop (fun r σ h => ∃ (j : Nat), r = 2 - j ∧ j ≤ 2 ∧ σ = [(11, .int .i64 k), (12, .int .i64 l), (13, .ptr 73 0 0), (14, .ptr 83 0 0), (15, .int .i64 (j : Int))] ∧ h = HT2 bS bA bP bU s' p' bw p f0 f1 f2 d0 d1 d2 b2 p' g0 g1 g2 u0 u1 u2)
      2 ⟨0, rfl, by omega, rfl, rfl⟩ (tau []) ⟨rfl, (by repeat' (first | exact rfl | exact trivial | assumption | refine ⟨?_, ?_⟩)), hwT⟩ 90 ?_
    rintro r σ h1 ⟨j, rfl, hj, rfl, rfl⟩
    obtain rfl | rfl | rfl : j = 0 ∨ j = 1 ∨ j = 2 := by omega
    · refine vc_sound hE 90 _ _ _ 90 ?_
      refine ⟨_, cI (p.m.L 0), k, rfl, hl0.rd rfl, by rw [cI_len]; omega, ?_⟩
      (refine (?_ : br _ _ _); refine br_dec (fun q => ?_) (fun q => ?_))
      · have q1 : 0 ≤ findI (k : Int) (cI (p.m.L 0)) := q
        rw [findI_ge] at q1
        have hm := mem_c.1 q1
        have hfd : findI (k : Int) (cI (p.m.L 0)) = ((ix k (p.m.L 0) : Nat) : Int) := by unfold findI; rw [if_pos q1, ixZ_c]
        refine ⟨_, cI (p.m.L 0), k, rfl, hl0.rd rfl, by rw [cI_len]; omega, ?_⟩
        rw [hfd]
        refine ⟨_, cI (p.m.L 0), ix k (p.m.L 0), rfl, hl0.rd rfl, fun _ _ _ _ q => (by cases q; exact lst_cap hl0), by rw [cI_len]; exact ix_lt hm, by rw [cI_len]; omega, rfl, fun e1 c1 z1 => ?_⟩
        rw [eraseIdx_c hm] at z1 ⊢
        have hle := List.length_erase_le (a := k) (l := (p.m.L 0))
        (refine (?_ : br _ _ _); refine br_eq (fun q => ?_) (fun q => ?_))
        · have q2 : ((0 : Nat) : Int) = (l : Int) := q
          have hE2 : p'.m.L 0 = k :: (p.m.L 0).erase k := by rw [hEq 0 (by omega), if_pos (by omega)]
          have hE3 : cI (p'.m.L 0) = (k : Int) :: cI ((p.m.L 0).erase k) := by rw [hE2]; rfl
          intro b1
          refine putS_some rfl ?_
          refine vc_move (v := .slice 90 0 (cI ((p.m.L 0).erase k)).length c1) rfl (putS_some rfl ?_)
          refine vc_app (v := .slice 91 0 1 1) (u := .slice 90 0 (cI ((p.m.L 0).erase k)).length c1) rfl rfl ?_
          refine app_pre (k := (k : Int)) intT (.inr ⟨91, 0, 1, _, 1, _, rfl, rfl, Nat.le_refl _, fun i hi => (by obtain rfl : i = 0 := (by simpa using hi); rfl)⟩) (z1.rd rfl) rfl (by rw [cI_len]; omega) (fun e0 => ?_) (fun e' c' z' => ?_)
          · rw [e0] at hE3
            refine ⟨_, _, cI (p'.m.L 0), [(k : Int)], rfl, y0.rd rfl, (.inr ⟨91, 0, 1, _, 1, _, rfl, rfl, Nat.le_refl _, fun i hi => (by obtain rfl : i = 0 := (by simpa using hi); rfl)⟩), by rw [cI_len]; omega, by simp, ?_⟩
            rw [decide_eq_true (show cI (p'.m.L 0) = [(k : Int)] from hE3)]
            exact ⟨2 - (0 + 1), _, _, by omega, ⟨0 + 1, rfl, by omega, rfl, rfl⟩, tau [], rfl, ⟨⟨rfl, rfl⟩, ⟨rfl, rfl⟩, ⟨⟨rfl, trivial⟩, rfl, rfl⟩, ⟨⟨rfl, trivial⟩, rfl, rfl⟩, ⟨rfl, rfl⟩, trivial⟩, hwT⟩
          · skip
            refine ⟨_, _, cI (p'.m.L 0), _, rfl, y0.rd rfl, z'.rd rfl, by rw [cI_len]; omega, by rw [List.length_cons, cI_len]; omega, ?_⟩
            rw [decide_eq_true (hE3)]
            exact ⟨2 - (0 + 1), _, _, by omega, ⟨0 + 1, rfl, by omega, rfl, rfl⟩, tau [], rfl, ⟨⟨rfl, rfl⟩, ⟨rfl, rfl⟩, ⟨⟨rfl, trivial⟩, rfl, rfl⟩, ⟨⟨rfl, trivial⟩, rfl, rfl⟩, ⟨rfl, rfl⟩, trivial⟩, hwT⟩
        · have q2 : ¬ ((0 : Nat) : Int) = (l : Int) := q
          have hE3 : cI (p'.m.L 0) = cI ((p.m.L 0).erase k) := by rw [hEq 0 (by omega), if_neg (by omega)]
          refine ⟨_, _, cI (p'.m.L 0), _, rfl, y0.rd rfl, z1.rd rfl, by rw [cI_len]; omega, by rw [cI_len]; omega, ?_⟩
          rw [decide_eq_true (hE3)]
          exact ⟨2 - (0 + 1), _, _, by omega, ⟨0 + 1, rfl, by omega, rfl, rfl⟩, tau [], rfl, ⟨⟨rfl, rfl⟩, ⟨rfl, rfl⟩, ⟨⟨rfl, trivial⟩, rfl, rfl⟩, ⟨⟨rfl, trivial⟩, rfl, rfl⟩, ⟨rfl, rfl⟩, trivial⟩, hwT⟩
      · have q1 : ¬ 0 ≤ findI (k : Int) (cI (p.m.L 0)) := q
        rw [findI_ge] at q1
        have hm : k ∉ (p.m.L 0) := fun w => q1 (mem_c.2 w)
        (refine (?_ : br _ _ _); refine br_eq (fun q => ?_) (fun q => ?_))
        · have q2 : ((0 : Nat) : Int) = (l : Int) := q
          have hE3 : cI (p'.m.L 0) = (k : Int) :: cI (p.m.L 0) := by rw [hEq 0 (by omega), if_pos (by omega), erase_no hm]; rfl
          intro b1
          refine putS_some rfl ?_
          refine vc_move (v := .slice 70 0 (cI (p.m.L 0)).length d0) rfl (putS_some rfl ?_)
          refine vc_app (v := .slice 90 0 1 1) (u := .slice 70 0 (cI (p.m.L 0)).length d0) rfl rfl ?_
          refine app_pre (k := (k : Int)) intT (.inr ⟨90, 0, 1, _, 1, _, rfl, rfl, Nat.le_refl _, fun i hi => (by obtain rfl : i = 0 := (by simpa using hi); rfl)⟩) (hl0.rd rfl) rfl (by rw [cI_len]; omega) (fun e0 => ?_) (fun e' c' z' => ?_)
          · rw [e0] at hE3
            refine ⟨_, _, cI (p'.m.L 0), [(k : Int)], rfl, y0.rd rfl, (.inr ⟨90, 0, 1, _, 1, _, rfl, rfl, Nat.le_refl _, fun i hi => (by obtain rfl : i = 0 := (by simpa using hi); rfl)⟩), by rw [cI_len]; omega, by simp, ?_⟩
            rw [decide_eq_true (show cI (p'.m.L 0) = [(k : Int)] from hE3)]
            exact ⟨2 - (0 + 1), _, _, by omega, ⟨0 + 1, rfl, by omega, rfl, rfl⟩, tau [], rfl, ⟨⟨rfl, rfl⟩, ⟨rfl, rfl⟩, ⟨⟨rfl, trivial⟩, rfl, rfl⟩, ⟨⟨rfl, trivial⟩, rfl, rfl⟩, ⟨rfl, rfl⟩, trivial⟩, hwT⟩
          · skip
            refine ⟨_, _, cI (p'.m.L 0), _, rfl, y0.rd rfl, z'.rd rfl, by rw [cI_len]; omega, by rw [List.length_cons, cI_len]; omega, ?_⟩
            rw [decide_eq_true (hE3)]
            exact ⟨2 - (0 + 1), _, _, by omega, ⟨0 + 1, rfl, by omega, rfl, rfl⟩, tau [], rfl, ⟨⟨rfl, rfl⟩, ⟨rfl, rfl⟩, ⟨⟨rfl, trivial⟩, rfl, rfl⟩, ⟨⟨rfl, trivial⟩, rfl, rfl⟩, ⟨rfl, rfl⟩, trivial⟩, hwT⟩
        · have q2 : ¬ ((0 : Nat) : Int) = (l : Int) := q
          have hE3 : cI (p'.m.L 0) = cI (p.m.L 0) := by rw [hEq 0 (by omega), if_neg (by omega), erase_no hm]
          refine ⟨_, _, cI (p'.m.L 0), _, rfl, y0.rd rfl, hl0.rd rfl, by rw [cI_len]; omega, by rw [cI_len]; omega, ?_⟩
          rw [decide_eq_true (hE3)]
          exact ⟨2 - (0 + 1), _, _, by omega, ⟨0 + 1, rfl, by omega, rfl, rfl⟩, tau [], rfl, ⟨⟨rfl, rfl⟩, ⟨rfl, rfl⟩, ⟨⟨rfl, trivial⟩, rfl, rfl⟩, ⟨⟨rfl, trivial⟩, rfl, rfl⟩, ⟨rfl, rfl⟩, trivial⟩, hwT⟩
    · refine vc_sound hE 90 _ _ _ 90 ?_
      refine ⟨_, cI (p.m.L 1), k, rfl, hl1.rd rfl, by rw [cI_len]; omega, ?_⟩
      (refine (?_ : br _ _ _); refine br_dec (fun q => ?_) (fun q => ?_))
      · have q1 : 0 ≤ findI (k : Int) (cI (p.m.L 1)) := q
        rw [findI_ge] at q1
        have hm := mem_c.1 q1
        have hfd : findI (k : Int) (cI (p.m.L 1)) = ((ix k (p.m.L 1) : Nat) : Int) := by unfold findI; rw [if_pos q1, ixZ_c]
        refine ⟨_, cI (p.m.L 1), k, rfl, hl1.rd rfl, by rw [cI_len]; omega, ?_⟩
        rw [hfd]
        refine ⟨_, cI (p.m.L 1), ix k (p.m.L 1), rfl, hl1.rd rfl, fun _ _ _ _ q => (by cases q; exact lst_cap hl1), by rw [cI_len]; exact ix_lt hm, by rw [cI_len]; omega, rfl, fun e1 c1 z1 => ?_⟩
        rw [eraseIdx_c hm] at z1 ⊢
        have hle := List.length_erase_le (a := k) (l := (p.m.L 1))
        (refine (?_ : br _ _ _); refine br_eq (fun q => ?_) (fun q => ?_))
        · have q2 : ((1 : Nat) : Int) = (l : Int) := q
          have hE2 : p'.m.L 1 = k :: (p.m.L 1).erase k := by rw [hEq 1 (by omega), if_pos (by omega)]
          have hE3 : cI (p'.m.L 1) = (k : Int) :: cI ((p.m.L 1).erase k) := by rw [hE2]; rfl
          intro b1
          refine putS_some rfl ?_
          refine vc_move (v := .slice 90 0 (cI ((p.m.L 1).erase k)).length c1) rfl (putS_some rfl ?_)
          refine vc_app (v := .slice 91 0 1 1) (u := .slice 90 0 (cI ((p.m.L 1).erase k)).length c1) rfl rfl ?_
          refine app_pre (k := (k : Int)) intT (.inr ⟨91, 0, 1, _, 1, _, rfl, rfl, Nat.le_refl _, fun i hi => (by obtain rfl : i = 0 := (by simpa using hi); rfl)⟩) (z1.rd rfl) rfl (by rw [cI_len]; omega) (fun e0 => ?_) (fun e' c' z' => ?_)
          · rw [e0] at hE3
            refine ⟨_, _, cI (p'.m.L 1), [(k : Int)], rfl, y1.rd rfl, (.inr ⟨91, 0, 1, _, 1, _, rfl, rfl, Nat.le_refl _, fun i hi => (by obtain rfl : i = 0 := (by simpa using hi); rfl)⟩), by rw [cI_len]; omega, by simp, ?_⟩
            rw [decide_eq_true (show cI (p'.m.L 1) = [(k : Int)] from hE3)]
            exact ⟨2 - (1 + 1), _, _, by omega, ⟨1 + 1, rfl, by omega, rfl, rfl⟩, tau [], rfl, ⟨⟨rfl, rfl⟩, ⟨rfl, rfl⟩, ⟨⟨rfl, trivial⟩, rfl, rfl⟩, ⟨⟨rfl, trivial⟩, rfl, rfl⟩, ⟨rfl, rfl⟩, trivial⟩, hwT⟩
          · skip
            refine ⟨_, _, cI (p'.m.L 1), _, rfl, y1.rd rfl, z'.rd rfl, by rw [cI_len]; omega, by rw [List.length_cons, cI_len]; omega, ?_⟩
            rw [decide_eq_true (hE3)]
            exact ⟨2 - (1 + 1), _, _, by omega, ⟨1 + 1, rfl, by omega, rfl, rfl⟩, tau [], rfl, ⟨⟨rfl, rfl⟩, ⟨rfl, rfl⟩, ⟨⟨rfl, trivial⟩, rfl, rfl⟩, ⟨⟨rfl, trivial⟩, rfl, rfl⟩, ⟨rfl, rfl⟩, trivial⟩, hwT⟩
        · have q2 : ¬ ((1 : Nat) : Int) = (l : Int) := q
          have hE3 : cI (p'.m.L 1) = cI ((p.m.L 1).erase k) := by rw [hEq 1 (by omega), if_neg (by omega)]
          refine ⟨_, _, cI (p'.m.L 1), _, rfl, y1.rd rfl, z1.rd rfl, by rw [cI_len]; omega, by rw [cI_len]; omega, ?_⟩
          rw [decide_eq_true (hE3)]
          exact ⟨2 - (1 + 1), _, _, by omega, ⟨1 + 1, rfl, by omega, rfl, rfl⟩, tau [], rfl, ⟨⟨rfl, rfl⟩, ⟨rfl, rfl⟩, ⟨⟨rfl, trivial⟩, rfl, rfl⟩, ⟨⟨rfl, trivial⟩, rfl, rfl⟩, ⟨rfl, rfl⟩, trivial⟩, hwT⟩
      · have q1 : ¬ 0 ≤ findI (k : Int) (cI (p.m.L 1)) := q
        rw [findI_ge] at q1
        have hm : k ∉ (p.m.L 1) := fun w => q1 (mem_c.2 w)
        (refine (?_ : br _ _ _); refine br_eq (fun q => ?_) (fun q => ?_))
        · have q2 : ((1 : Nat) : Int) = (l : Int) := q
          have hE3 : cI (p'.m.L 1) = (k : Int) :: cI (p.m.L 1) := by rw [hEq 1 (by omega), if_pos (by omega), erase_no hm]; rfl
          intro b1
          refine putS_some rfl ?_
          refine vc_move (v := .slice 71 0 (cI (p.m.L 1)).length d1) rfl (putS_some rfl ?_)
          refine vc_app (v := .slice 90 0 1 1) (u := .slice 71 0 (cI (p.m.L 1)).length d1) rfl rfl ?_
          refine app_pre (k := (k : Int)) intT (.inr ⟨90, 0, 1, _, 1, _, rfl, rfl, Nat.le_refl _, fun i hi => (by obtain rfl : i = 0 := (by simpa using hi); rfl)⟩) (hl1.rd rfl) rfl (by rw [cI_len]; omega) (fun e0 => ?_) (fun e' c' z' => ?_)
          · rw [e0] at hE3
            refine ⟨_, _, cI (p'.m.L 1), [(k : Int)], rfl, y1.rd rfl, (.inr ⟨90, 0, 1, _, 1, _, rfl, rfl, Nat.le_refl _, fun i hi => (by obtain rfl : i = 0 := (by simpa using hi); rfl)⟩), by rw [cI_len]; omega, by simp, ?_⟩
            rw [decide_eq_true (show cI (p'.m.L 1) = [(k : Int)] from hE3)]
            exact ⟨2 - (1 + 1), _, _, by omega, ⟨1 + 1, rfl, by omega, rfl, rfl⟩, tau [], rfl, ⟨⟨rfl, rfl⟩, ⟨rfl, rfl⟩, ⟨⟨rfl, trivial⟩, rfl, rfl⟩, ⟨⟨rfl, trivial⟩, rfl, rfl⟩, ⟨rfl, rfl⟩, trivial⟩, hwT⟩
          · skip
            refine ⟨_, _, cI (p'.m.L 1), _, rfl, y1.rd rfl, z'.rd rfl, by rw [cI_len]; omega, by rw [List.length_cons, cI_len]; omega, ?_⟩
            rw [decide_eq_true (hE3)]
            exact ⟨2 - (1 + 1), _, _, by omega, ⟨1 + 1, rfl, by omega, rfl, rfl⟩, tau [], rfl, ⟨⟨rfl, rfl⟩, ⟨rfl, rfl⟩, ⟨⟨rfl, trivial⟩, rfl, rfl⟩, ⟨⟨rfl, trivial⟩, rfl, rfl⟩, ⟨rfl, rfl⟩, trivial⟩, hwT⟩
        · have q2 : ¬ ((1 : Nat) : Int) = (l : Int) := q
          have hE3 : cI (p'.m.L 1) = cI (p.m.L 1) := by rw [hEq 1 (by omega), if_neg (by omega), erase_no hm]
          refine ⟨_, _, cI (p'.m.L 1), _, rfl, y1.rd rfl, hl1.rd rfl, by rw [cI_len]; omega, by rw [cI_len]; omega, ?_⟩
          rw [decide_eq_true (hE3)]
          exact ⟨2 - (1 + 1), _, _, by omega, ⟨1 + 1, rfl, by omega, rfl, rfl⟩, tau [], rfl, ⟨⟨rfl, rfl⟩, ⟨rfl, rfl⟩, ⟨⟨rfl, trivial⟩, rfl, rfl⟩, ⟨⟨rfl, trivial⟩, rfl, rfl⟩, ⟨rfl, rfl⟩, trivial⟩, hwT⟩
    · refine vc_sound hE 90 _ _ _ 90 ?_
      exact ⟨tau [], rfl, (by repeat' (first | exact rfl | exact trivial | assumption | refine ⟨?_, ?_⟩)), hwT⟩
  -- the rest
  have hm1 : ((p'.miss : Nat) : Int) ≤ ((p.miss : Nat) : Int) := by omega
  have hm2 : ((p'.hits : Nat) : Int) ≤ IntKind.u64.wrap (((p.hits : Nat) : Int) + 1) := by have := hfit.hits; simp only [IntKind.wrap_u64]; omega
  have hhl := held_len (p := p)
  have h64 := hok.n
  refine vc_sound hE 60 _ _ _ 90 ?_
  refine ⟨_, _, cI p'.m.held, cI p.m.held, rfl, y2.rd rfl, hl2.rd rfl, by rw [hHe, cI_len]; omega, by rw [cI_len]; omega, ?_⟩
  rw [decide_eq_true (show cI p'.m.held = cI p.m.held by rw [hHe])]
  (refine (?_ : br _ _ _); refine br_decT hm1 ?_)
  exact congrArg (fun b => Out.ret (V.bool b)) (decide_eq_true hm2)

def sFronts : Spec := fun args h nx K => ∃ (fr x y : Int) (ub : Option Addr) (len cap : Nat) (z : Nat → Nat → Int), args = [.int .u8 fr, .slice 100 0 len cap, .agg [.int .u8 x, .int .u8 y]] ∧ h = [(1000, eB), (100, .ro ub len 3 (gT z))] ∧ (0 ≤ fr ∧ fr ≤ 255) ∧ (0 ≤ x ∧ x ≤ 255) ∧ (0 ≤ y ∧ y ≤ 255) ∧ len ≤ 9223372036854775807 ∧ K (.ret (.bool true)) h nx
theorem sFronts_ok : SpecOK Tryd.prog 7 sFronts := by
  refine specOK_read (fn := Tryd.f7) rfl rfl rfl T_ok (SP := SPL6) spl6 0 _ ?_
  rintro args h nx K ⟨fr, x, y, ub, len, cap, z, rfl, rfl, hfr, hx, hy, hlen, hk⟩
  refine ⟨[(1000, eB), (100, .ro ub len 3 (gT z))], ⟨fun i c hi hc => trivial, fun i c hi hc => trivial, trivial⟩, ⟨⟨rfl, _, _, _, _, rfl⟩, ⟨rfl, _, _, _, _, rfl⟩, trivial⟩, ⟨trivial, rfl, ⟨trivial, trivial, trivial⟩, trivial⟩, by simp [Tryd.f7], fun o => o = .ret (.bool true), ?_, ?_⟩
  · rintro o rfl
    exact ⟨trivial, hk⟩
  · intro c hc
    obtain ⟨cd, h1, h2⟩ := fronts_walk hc hfr hx hy (ub := ub) (cap := cap) (z := z) hlen
    cases h1
    exact h2
end Go.Proofs.YtiihiifcnkfjoaaDoor.Sx
