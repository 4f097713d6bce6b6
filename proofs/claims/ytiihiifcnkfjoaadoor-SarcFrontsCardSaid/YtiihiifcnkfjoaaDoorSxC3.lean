import Derived.Test.YtiihiifcnkfjoaaDoorSxVD
import Derived.Test.YtiihiifcnkfjoaaDoorSxCl
/-
  The walks of this seat's laws: SarcSafe.
-/
namespace Go.Proofs.YtiihiifcnkfjoaaDoor.Sx
open Go Go.Proofs
set_option maxRecDepth 100000
set_option linter.unusedSimpArgs false
set_option linter.unusedVariables false

/-! ### What goes to make room -/
theorem lastN_iff {H : Nat → Bool} : ∀ {l : List Nat}, (lastN H l).2 = true ↔ ∃ x ∈ l, H x = false
  | [] => by simp [lastN]
  | x :: l => by
    unfold lastN
    by_cases h : H x = false
    · rw [if_pos h]; simp [h]
    · rw [if_neg h, lastN_iff (l := l)]
      simp [h]
theorem lastI_iff {m : Md} {q : Nat} (hq : q < 2) : (m.lastI (q : Int)).2 = true ↔ ∃ x ∈ m.L q, m.H x = false := by
  unfold Md.lastI
  rw [if_pos (show rightB (q : Int) = true by unfold rightB; simp; omega), Int.toNat_natCast, lastN_iff]
  simp
theorem pick_or (p : Pol) : p.pickI.2 = ((p.m.lastI 0).2 || (p.m.lastI 1).2) := by
  unfold Pol.pickI
  cases e : (p.m.lastI 0).2 with
  | false => rw [if_pos rfl]; rfl
  | true =>
    rw [if_neg (fun h : true = false => by cases h)]
    cases e1 : (p.m.lastI 1).2 with
    | false => rw [if_pos rfl]; rfl
    | true =>
      rw [if_neg (fun h : true = false => by cases h)]
      split
      · split <;> rfl
      · split <;> rfl
theorem pick_cases {p : Pol} (h : p.pickI.2 = true) : (p.pickI.1 = (p.m.lastI 0).1 ∧ (p.m.lastI 0).2 = true) ∨ (p.pickI.1 = (p.m.lastI 1).1 ∧ (p.m.lastI 1).2 = true) := by
  unfold Pol.pickI at h ⊢
  cases e : (p.m.lastI 0).2 with
  | false => rw [e, if_pos rfl] at h; rw [if_pos rfl]; exact .inr ⟨rfl, h⟩
  | true =>
    rw [if_neg (fun h : true = false => by cases h)]
    cases e1 : (p.m.lastI 1).2 with
    | false => rw [if_pos rfl]; exact .inl ⟨rfl, rfl⟩
    | true =>
      rw [if_neg (fun h : true = false => by cases h)]
      split
      · split
        · exact .inl ⟨rfl, rfl⟩
        · exact .inr ⟨rfl, rfl⟩
      · split
        · exact .inl ⟨rfl, rfl⟩
        · exact .inr ⟨rfl, rfl⟩
theorem vic_ok (p : Pol) : p.vicI.2 = p.pickI.2 := by
  unfold Pol.vicI
  cases e : p.pickI.2 with
  | false => rw [if_pos rfl]
  | true => rw [if_neg (fun h : true = false => by cases h)]
theorem len_le {p : Pol} (hok : Ok p.m) : (p.m.L 0).length + (p.m.L 1).length ≤ p.m.n := by
  obtain ⟨s, hi⟩ := hok
  have hok : Ok p.m := ⟨s, hi⟩
  have h1 : ((List.range p.m.n).filter fun k : Nat => p.inB k).Perm (p.m.L 0 ++ p.m.L 1) := by
    refine (List.perm_ext_iff_of_nodup (List.Pairwise.filter _ List.nodup_range) hi.nd).2 fun k => ?_
    rw [List.mem_filter, List.mem_range]
    constructor
    · rintro ⟨a, b⟩; exact (inB_mem hok a).1 b
    · intro h
      have hk : k < p.m.n := by
        rcases List.mem_append.1 h with w | w
        · exact hi.lt 0 (by omega) k w
        · exact hi.lt 1 (by omega) k w
      exact ⟨hk, (inB_mem hok hk).2 h⟩
  have h2 := h1.length_eq
  have h3 := List.length_filter_le (fun k : Nat => p.inB k) (List.range p.m.n)
  rw [h2, List.length_append, List.length_range] at h3
  exact h3
theorem held_len {p : Pol} : p.m.held.length ≤ p.m.n := by
  have := List.length_filter_le (fun i => p.m.H i) (List.range p.m.n)
  simpa [Md.held] using this
theorem vic_iff {p : Pol} (hok : Ok p.m) : p.vicI.2 = decide ((p.m.held.length : Int) < ((p.m.L 0).length : Int) + (p.m.L 1).length) := by
  have hr := room_cnt hok
  unfold Pol.roomI at hr
  have hiff : p.vicI.2 = true ↔ 0 < p.cnt p.m.n := by
    rw [vic_ok, pick_or, Bool.or_eq_true, show (p.m.lastI 0).2 = true ↔ _ from lastI_iff (m := p.m) (q := 0) (by omega), show (p.m.lastI 1).2 = true ↔ _ from lastI_iff (m := p.m) (q := 1) (by omega)]
    unfold Pol.cnt
    rw [List.length_pos_iff_exists_mem]
    constructor
    · intro h
      have : ∃ q x, q < 2 ∧ x ∈ p.m.L q ∧ p.m.H x = false := by
        rcases h with ⟨x, h1, h2⟩ | ⟨x, h1, h2⟩
        · exact ⟨0, x, by omega, h1, h2⟩
        · exact ⟨1, x, by omega, h1, h2⟩
      obtain ⟨q, x, hq, h1, h2⟩ := this
      have hx := hok.lt hq h1
      refine ⟨x, List.mem_filter.2 ⟨List.mem_range.2 hx, ?_⟩⟩
      unfold Pol.goes
      rw [h2, (inB_mem hok hx).2 (by rw [List.mem_append]; rcases (show q = 0 ∨ q = 1 by omega) with rfl | rfl; exact .inl h1; exact .inr h1)]
      rfl
    · rintro ⟨x, hx⟩
      obtain ⟨h1, h2⟩ := List.mem_filter.1 hx
      have hxn := List.mem_range.1 h1
      unfold Pol.goes at h2
      simp only [Bool.and_eq_true, Bool.not_eq_true'] at h2
      have := (inB_mem hok hxn).1 h2.1
      rcases List.mem_append.1 this with w | w
      · exact .inl ⟨x, w, h2.2⟩
      · exact .inr ⟨x, w, h2.2⟩
  cases e : p.vicI.2 with
  | true =>
    have := hiff.1 e
    exact (decide_eq_true (by omega)).symm
  | false =>
    have : ¬ 0 < p.cnt p.m.n := fun w => by rw [hiff.2 w] at e; cases e
    exact (decide_eq_false (by omega)).symm
theorem vic_in {p : Pol} (hok : Ok p.m) (h : p.vicI.2 = true) : p.vicI.1 ∉ cI p.m.held ∧ (p.vicI.1 ∈ cI (p.m.L 0) ∨ p.vicI.1 ∈ cI (p.m.L 1)) := by
  rw [vic_ok] at h
  have e : p.vicI.1 = p.pickI.1 := by unfold Pol.vicI; rw [if_neg (by rw [h]; simp)]
  rw [e]
  rcases pick_cases h with ⟨h1, h2⟩ | ⟨h1, h2⟩
  · obtain ⟨j, e1, hj, hH, q, hq, eq, hm⟩ := hok.last (L := 0) h2
    obtain rfl : q = 0 := by omega
    rw [h1, e1]
    exact ⟨by rw [held_mem hj, hH]; simp, .inl (mem_c.2 hm)⟩
  · obtain ⟨j, e1, hj, hH, q, hq, eq, hm⟩ := hok.last (L := 1) h2
    obtain rfl : q = 1 := by omega
    rw [h1, e1]
    exact ⟨by rw [held_mem hj, hH]; simp, .inr (mem_c.2 hm)⟩

/-- The row that holds what Policy told. -/
abbrev gPo (p : Pol) (t d0 d1 d2 : Nat) : Nat → Nat → V := gOf 6 [.slice t 0 (cI (p.m.L 0)).length d0, .slice (t + 1) 0 (cI (p.m.L 1)).length d1, .slice (t + 2) 0 (cI p.m.held).length d2, .int .i64 p.want, .int .u64 p.miss, .int .u64 p.hits]
theorem gPo_rn {h' : Hp} {p : Pol} {d0 d1 d2 c : Nat} (v0 : live h' 70) (v1 : live h' 71) (v2 : live h' 72) (hc : c < 6) : rn (tau []) h' (gPo p 70 d0 d1 d2 0 c) (gPo p 70 d0 d1 d2 0 c) := by
  match c, hc with
  | 0, _ => exact ⟨⟨rfl, v0⟩, rfl, rfl, rfl⟩
  | 1, _ => exact ⟨⟨rfl, v1⟩, rfl, rfl, rfl⟩
  | 2, _ => exact ⟨⟨rfl, v2⟩, rfl, rfl, rfl⟩
  | 3, _ => exact ⟨rfl, rfl⟩
  | 4, _ => exact ⟨rfl, rfl⟩
  | 5, _ => exact ⟨rfl, rfl⟩
def gT (z : Nat → Nat → Int) : Nat → Nat → V := fun i j => .int .i64 (z i j)
theorem gT_wk {b : Option Addr} {n : Nat} {z : Nat → Nat → Int} (τ : Nat → Nat) (h' : Hp) : wkE τ h' (.ro b n 3 (gT z)) (.ro b n 3 (gT z)) := ⟨rfl, rfl, rfl, fun i c hi hc => ⟨rfl, rfl⟩⟩
abbrev eR (b : Nat) (k f l : Int) : Ent := .blk b 1 3 (gOf 3 [.int .i64 k, .int .i64 f, .int .i64 l]) 33
theorem eR_wk {b : Nat} {k f l : Int} (τ : Nat → Nat) (h' : Hp) : wkE τ h' (eR b k f l) (eR b k f l) := ⟨rfl, rfl, rfl, rfl, fun i c hi hc => by
  obtain rfl : i = 0 := by omega
  match c, hc with
  | 0, _ => exact ⟨rfl, rfl⟩
  | 1, _ => exact ⟨rfl, rfl⟩
  | 2, _ => exact ⟨rfl, rfl⟩⟩
abbrev eW (b : Nat) (p : Pol) (d0 d1 d2 : Nat) : Ent := .blk b 1 6 (gPo p 70 d0 d1 d2) 39

def SPL3 : SpT := [(9, sAwake), (10, sPNew), (15, sPolicy), (18, PVic), (19, sFind), (12, sQNew), (13, sStepQ), (16, sPRoom)]
theorem spl3 : ∀ p ∈ SPL3, SpecOK Tryd.prog p.1 p.2 := consSP sAwake_ok (consSP sPNew_ok (consSP sPolicy_ok (consSP pvic_ok (consSP sFind_ok (consSP sQNew_ok (consSP sStepQ_ok (consSP sPRoom_ok noSP)))))))
abbrev HS1 (bS bA bP bU : Nat) (s : Sh) (p : Pol) (eX : Ent) : Hp := HPW bS bA bP bU s p ++ [(100, eX)]
abbrev HS2 (bS bA bP bU : Nat) (s : Sh) (p : Pol) (eX : Ent) (b : Nat) (p0 : Pol) (f0 f1 f2 : Ent) (d0 d1 d2 : Nat) : Hp := HPW bS bA bP bU s p ++ [(100, eX), (73, eW b p0 d0 d1 d2), (70, f0), (71, f1), (72, f2)]
abbrev HS3 (bS bA bP bU : Nat) (s : Sh) (p : Pol) (eX : Ent) (b : Nat) (p0 : Pol) (f0 f1 f2 : Ent) (d0 d1 d2 : Nat) (eA : Ent) : Hp := HPW bS bA bP bU s p ++ [(100, eX), (73, eW b p0 d0 d1 d2), (70, f0), (71, f1), (72, f2), (74, eA)]
theorem eW_wk {h' : Hp} {b : Nat} {p : Pol} {d0 d1 d2 : Nat} (v0 : live h' 70) (v1 : live h' 71) (v2 : live h' 72) : wkE (tau []) h' (eW b p d0 d1 d2) (eW b p d0 d1 d2) := ⟨rfl, rfl, rfl, rfl, fun i c hi hc => by obtain rfl : i = 0 := (by omega); exact gPo_rn v0 v1 v2 hc⟩

theorem HPW.wkInT {bS bA bP bU : Nat} {s : Sh} {p : Pol} {h h' rest : Hp} (e1 : fd 1 h = eS bS s) (e2 : fd 2 h = eA bA s) (e8 : fd 8 h = eP bP p) (e9 : fd 9 h = eU bU p) (eb : fd 1000 h = eB) (v1 : live h' 1) (v2 : live h' 2) (v9 : live h' 9) (hr : wkH (tau [(101, 74)]) h h' rest) : wkH (tau [(101, 74)]) h h' (HPW bS bA bP bU s p ++ rest) := by
  refine ⟨?_, ?_, ?_, ?_, ?_, hr⟩
  · show wkE _ _ (fd 1 h) _
    rw [e1]; exact eS_wk ⟨rfl, v2⟩
  · show wkE _ _ (fd 2 h) _
    rw [e2]; exact eA_wk rfl
  · show wkE _ _ (fd 8 h) _
    rw [e8]; exact ⟨rfl, rfl, rfl, rfl, fun i c hi hc => by
      obtain rfl : i = 0 := (by omega)
      match c, hc with
      | 0, _ => exact ⟨⟨rfl, v1⟩, rfl, rfl⟩
      | 1, _ => exact ⟨rfl, rfl⟩
      | 2, _ => exact ⟨rfl, rfl⟩
      | 3, _ => exact ⟨⟨rfl, v9⟩, rfl, rfl, rfl⟩
      | 4, _ => exact ⟨rfl, rfl⟩
      | 5, _ => exact ⟨rfl, rfl⟩
      | 6, _ => exact ⟨rfl, rfl⟩
      | 7, _ => exact ⟨rfl, rfl⟩⟩
  · show wkE _ _ (fd 9 h) _
    rw [e9]; exact ⟨rfl, rfl, rfl, rfl, fun i c hi hc => ⟨rfl, rfl⟩⟩
  · show wkE _ _ (fd 1000 h) _
    rw [eb]; exact ⟨rfl, rfl, rfl, fun i c hi hc => ⟨rfl, rfl⟩⟩
theorem safe_walk {c : Cx} (hc : c.P = Tryd.prog) {fr bo : Int} (hfr : 0 ≤ fr ∧ fr ≤ 255) (hbo : 0 ≤ bo ∧ bo ≤ 255) {ub : Option Addr} {len cap : Nat} {z : Nat → Nat → Int} (hlen : len ≤ 9223372036854775807) :
    ∃ cd, Tryd.f4.body = some cd ∧ W ⟨c, Tryd.f4, T, SPL3, fun o _ _ => o = .ret (.bool true)⟩ [.code cd] (argsS [.int .u8 fr, .int .u8 bo, .slice 100 0 len cap] 0) [(1000, eB), (100, .ro ub len 3 (gT z))] 0 := by
  refine ⟨_, rfl, ?_⟩
  have hE := mkE' (fn := Tryd.f4) (R := fun o _ _ => o = .ret (.bool true)) hc spl3
  obtain ⟨eX, hX⟩ : ∃ eX : Ent, eX = .ro ub len 3 (gT z) := ⟨_, rfl⟩
  have wX : ∀ τ h', wkE τ h' eX eX := fun τ h' => by rw [hX]; exact gT_wk _ _
  rw [← hX]
  have hwk : wkH (tau []) [(1000, eB), (100, eX)] [(1000, eB), (100, eX)] [(1000, eB), (100, eX)] := ⟨⟨rfl, rfl, rfl, fun i c hi hc => ⟨rfl, rfl⟩⟩, wX _ _, trivial⟩
  have vX : eX.here := by rw [hX]; trivial
  have vX0 : live [(1000, eB), (100, eX)] 100 := vX
  obtain ⟨n, hn⟩ : ∃ n : Nat, (n : Int) = 1 + fr % 64 := ⟨(1 + fr % 64).toNat, by omega⟩
  have hn1 : 1 ≤ n ∧ n ≤ 64 := by omega
  obtain ⟨b, hb⟩ : ∃ b : Nat, (b : Int) = 1 + bo % n := ⟨(1 + bo % n).toNat, by have := Int.emod_nonneg bo (show (n : Int) ≠ 0 by omega); omega⟩
  have hb1 : 1 ≤ b ∧ b ≤ n := by
    have h1 := Int.emod_nonneg bo (show (n : Int) ≠ 0 by omega)
    have h2 := Int.emod_lt_of_pos bo (show (0 : Int) < n by omega)
    omega
  have hmay : mayB n b = true := by unfold mayB; simp only [Bool.and_eq_true, decide_eq_true_eq]; omega
  refine W_seq (nx := 0) ?_
  refine W_to (nx := 0) [(0, .int .u8 fr), (1, .int .u8 bo), (2, .slice 100 0 len cap)] [(1000, eB), (100, eX)] 30 ?_ ?_
  · refine vc_sound hE 20 _ _ _ 30 ?_
    exact ⟨tau [], rfl, (by repeat' (first | exact rfl | exact trivial | assumption | refine ⟨?_, ?_⟩)), hwk⟩
  refine W_seq (nx := 30) ?_
  refine W_to (nx := 30) [(0, .int .u8 fr), (1, .int .u8 bo), (2, .slice 100 0 len cap)] [(1000, eB), (100, eX)] 30 ?_ ?_
  · refine vc_sound hE 60 _ _ _ 30 ?_
    refine ⟨rfl, rfl, ?_⟩
    exact ⟨tau [], rfl, (by repeat' (first | exact rfl | exact trivial | assumption | refine ⟨?_, ?_⟩)), hwk⟩
  refine W_seq (nx := 30) ?_
  have e1 : IntKind.i64.wrap (1 + Int.tmod (IntKind.i64.wrap fr) 64) = (n : Int) := by
    rw [show IntKind.i64.wrap fr = fr by simp only [IntKind.wrap_i64]; omega, Int.tmod_eq_emod_of_nonneg (by omega)]
    simp only [IntKind.wrap_i64]; omega
  refine W_to (nx := 30) [(1, .int .u8 bo), (2, .slice 100 0 len cap), (7, .int .i64 n)] [(1000, eB), (100, eX)] 30 ?_ ?_
  · refine vc_sound hE 60 _ _ _ 30 ?_
    exact ⟨tau [], rfl, ⟨⟨rfl, rfl⟩, ⟨⟨rfl, vX0⟩, rfl, rfl, rfl⟩, ⟨rfl, e1⟩, trivial⟩, hwk⟩
  refine W_seq (nx := 30) ?_
  have e2 : IntKind.i64.wrap (1 + Int.tmod (IntKind.i64.wrap bo) n) = (b : Int) := by
    rw [show IntKind.i64.wrap bo = bo by simp only [IntKind.wrap_i64]; omega, Int.tmod_eq_emod_of_nonneg (by omega)]
    simp only [IntKind.wrap_i64]; omega
  refine W_piece (nx := 30) (fun σ1 h1 _ => ∃ (bS bA bP bU : Nat) (s : Sh), Inv s (Pol.new n b).m (Pol.new n b).m.n ∧ ∃ τ, wk τ σ1 h1 [(2, .slice 100 0 len cap), (7, .int .i64 n), (8, .ptr 8 0 0)] (HS1 bS bA bP bU s (Pol.new n b) eX)) ?_ ?_
  · refine vc_sound hE 60 _ _ _ 30 ?_
    (refine (?_ : chk _ _); refine chk_ok (show (!(decide ((n : Int) = 0))) = true by simp; omega) ?_)
    refine ⟨n, IntKind.i64.wrap (1 + Int.tmod (IntKind.i64.wrap bo) n), rfl, fun _ => ⟨rfl, rfl, rfl, rfl⟩, fun e => ?_, fun e bS bA bP bU s hN hi => ?_⟩
    · rw [e2, hmay] at e; cases e
    · rw [e2] at hi ⊢
      have v : live (HS1 bS bA bP bU s (Pol.new n b) eX) 100 := vX
      exact ⟨bS, bA, bP, bU, s, hi, tau [], rfl, (by repeat' (first | exact rfl | exact trivial | assumption | refine ⟨?_, ?_⟩)), HPW.wkIn (p := Pol.new n b) rfl rfl rfl rfl rfl trivial trivial trivial ⟨wX _ _, trivial⟩⟩
  rintro σ1 h1 _ ⟨bS, bA, bP, bU, s, hi, τ1, hw1⟩
  refine W_weak (nx' := 30) τ1 hw1 ?_
  clear hw1
  have hw1 : ∀ (s : Sh) (p : Pol), wkH (tau []) (HS1 bS bA bP bU s p eX) (HS1 bS bA bP bU s p eX) (HS1 bS bA bP bU s p eX) := fun s p => HPW.wkR ⟨wX _ _, trivial⟩
  have vX1 : ∀ (s : Sh) (p : Pol), live (HS1 bS bA bP bU s p eX) 100 := fun _ _ => vX
  refine W_seq (nx := 30) ?_
  refine W_to (nx := 30) [(2, .slice 100 0 len cap), (7, .int .i64 n), (8, .ptr 8 0 0)] (HS1 bS bA bP bU s (Pol.new n b) eX) 30 ?_ ?_
  · refine vc_sound hE 60 _ _ _ 30 ?_
    have v := vX1 s (Pol.new n b)
    exact ⟨tau [], rfl, (by repeat' (first | exact rfl | exact trivial | assumption | refine ⟨?_, ?_⟩)), hw1 _ _⟩
  refine W_seq (nx := 30) ?_
  refine W_to (nx := 30) [] [] 30 ?_ ?_
  rotate_left
  · refine vc_sound hE 60 _ _ _ 30 ?_
    rfl
  refine vc_sound hE 5 _ _ _ 30 ?_
  have vv := vX1 s (Pol.new n b)
  refine W_loop (fun r σ h => ∃ (j : Nat) (p : Pol) (s : Sh), r = len - j ∧ j ≤ len ∧ j ≤ 150 ∧ p.m.n = n ∧ p.Fit2 j ∧ Inv s p.m p.m.n ∧ σ = [(2, .slice 100 0 len cap), (7, .int .i64 n), (8, .ptr 8 0 0), (10, .int .i64 (j : Int))] ∧ h = HS1 bS bA bP bU s p eX)
    len ⟨0, Pol.new n b, s, rfl, by omega, by omega, rfl, ⟨Nat.zero_le _, Nat.zero_le _, Nat.zero_le _, Nat.zero_le _⟩, hi, rfl, rfl⟩ (tau []) ⟨rfl, (by repeat' (first | exact rfl | exact trivial | assumption | refine ⟨?_, ?_⟩)), hw1 _ _⟩ 30 ?_
  clear hi s vv
  rintro r σ h1 ⟨j, p, s, rfl, hj, hj150, hpn, hfit, hi, rfl, rfl⟩
  have hok : Ok p.m := ⟨s, hi⟩
  refine W_seq (nx := 30) ?_
  refine W_piece (nx := 30) (fun σ1 h1 _ => (j < len ∧ j < 150) ∧ ∃ τ, wk τ σ1 h1 [(2, .slice 100 0 len cap), (7, .int .i64 n), (8, .ptr 8 0 0), (10, .int .i64 (j : Int))] (HS1 bS bA bP bU s p eX)) ?_ ?_
  · have v := vX1 s p
    refine vc_sound hE 60 _ _ _ 30 ?_
    (refine (?_ : br _ _ _); refine br_dec (fun q => ?_) (fun q => ?_))
    · have q1 : (j : Int) < (len : Int) := q
      (refine (?_ : br _ _ _); refine br_dec (fun q => ?_) (fun q => ?_))
      · have q2 : (j : Int) < 150 := q
        exact ⟨⟨by omega, by omega⟩, tau [], rfl, (by repeat' (first | exact rfl | exact trivial | assumption | refine ⟨?_, ?_⟩)), hw1 _ _⟩
      · exact ⟨tau [], rfl, trivial, trivial⟩
    · exact ⟨tau [], rfl, trivial, trivial⟩
  rintro σ1 h1 _ ⟨⟨hjl, hj3⟩, τ1, hw⟩
  refine W_weak (nx' := 70) τ1 hw ?_
  clear hw
  have hwj : IntKind.i64.wrap ((j : Int) + 1) = ((j + 1 : Nat) : Int) := by simp only [IntKind.wrap_i64]; omega
  have hz : addI 0 ((j : Int)).toNat = j := by rw [Int.toNat_natCast, addI_eq, Nat.zero_add]
  refine W_seq (nx := 70) ?_
  refine W_piece (nx := 70) (fun σ1 h1 _ => ∃ (p' : Pol) (s' : Sh), (p'.m.n = n ∧ p'.Fit2 (j + 1) ∧ Inv s' p'.m p'.m.n) ∧ ∃ τ, wk τ σ1 h1 [(2, .slice 100 0 len cap), (7, .int .i64 n), (8, .ptr 8 0 0), (10, .int .i64 (j : Int))] (HS1 bS bA bP bU s' p' eX)) ?_ ?_
  rotate_left
  · rintro σ1 h1 _ ⟨p', s', ⟨hpn', hfit', hi'⟩, τ1, hw⟩
    refine W_weak (nx' := 30) τ1 hw ?_
    clear hw
    have v := vX1 s' p'
    refine vc_sound hE 60 _ _ _ 30 ?_
    exact ⟨len - (j + 1), _, _, by omega, ⟨j + 1, p', s', rfl, by omega, by omega, hpn', hfit', hi', rfl, rfl⟩, tau [], rfl, ⟨⟨⟨rfl, v⟩, rfl, rfl, rfl⟩, ⟨rfl, rfl⟩, ⟨⟨rfl, trivial⟩, rfl, rfl⟩, ⟨rfl, hwj⟩, trivial⟩, hw1 _ _⟩
  refine vc_sound hE 1 _ _ _ 70 ?_
  -- what was
  refine W_seq (nx := 70) ?_
  refine W_piece (nx := 70) (fun σ1 h1 _ => ∃ (bw : Nat) (f0 f1 f2 : Ent) (d0 d1 d2 : Nat), (lstE f0 (cI (p.m.L 0)) d0 ∧ lstE f1 (cI (p.m.L 1)) d1 ∧ lstE f2 (cI p.m.held) d2) ∧ ∃ τ, wk τ σ1 h1 [(2, .slice 100 0 len cap), (7, .int .i64 n), (8, .ptr 8 0 0), (10, .int .i64 (j : Int)), (11, .ptr 73 0 0)] (HS2 bS bA bP bU s p eX bw p f0 f1 f2 d0 d1 d2)) ?_ ?_
  · refine vc_sound hE 60 _ _ _ 70 ?_
    refine ⟨p, rfl, ⟨bS, bA, bP, bU, s, hi, rfl, rfl, rfl, rfl, rfl⟩, rfl, rfl, rfl, fun f0 d0 f1 d1 f2 d2 hl0 hl1 hl2 => ?_⟩
    intro bw
    have v0 : live (HS2 bS bA bP bU s p eX bw p f0 f1 f2 d0 d1 d2) 70 := lst_live hl0
    have v1 : live (HS2 bS bA bP bU s p eX bw p f0 f1 f2 d0 d1 d2) 71 := lst_live hl1
    have v2 : live (HS2 bS bA bP bU s p eX bw p f0 f1 f2 d0 d1 d2) 72 := lst_live hl2
    have v3 : live (HS2 bS bA bP bU s p eX bw p f0 f1 f2 d0 d1 d2) 100 := vX
    refine ⟨bw, f0, f1, f2, d0, d1, d2, ⟨hl0, hl1, hl2⟩, tau [], rfl, (by repeat' (first | exact rfl | exact trivial | assumption | refine ⟨?_, ?_⟩)), HPW.wkIn rfl rfl rfl rfl rfl trivial trivial trivial ⟨wX _ _, ⟨rfl, rfl, rfl, rfl, fun i c hi hc => ?_⟩, lst_wk hl0 _ _, lst_wk hl1 _ _, lst_wk hl2 _ _, trivial⟩⟩
    obtain rfl : i = 0 := (by have hi : i < 1 := hi; omega)
    match c, hc with
    | 0, _ => exact ⟨⟨rfl, v0⟩, rfl, rfl, rfl⟩
    | 1, _ => exact ⟨⟨rfl, v1⟩, rfl, rfl, rfl⟩
    | 2, _ => exact ⟨⟨rfl, v2⟩, rfl, rfl, rfl⟩
    | 3, _ => exact ⟨rfl, rfl⟩
    | 4, _ => exact ⟨rfl, rfl⟩
    | 5, _ => exact ⟨rfl, rfl⟩
  rintro σ1 h1 _ ⟨bw, f0, f1, f2, d0, d1, d2, ⟨hl0, hl1, hl2⟩, τ1, hw⟩
  refine W_weak (nx' := 74) τ1 hw ?_
  clear hw
  -- the step
  refine W_seq (nx := 74) ?_
  refine W_piece (nx := 74) (fun σ1 h1 _ => ∃ (k f l : Int) (ba : Nat), ∃ τ, wk τ σ1 h1 [(2, .slice 100 0 len cap), (7, .int .i64 n), (8, .ptr 8 0 0), (10, .int .i64 (j : Int)), (11, .ptr 73 0 0), (12, .ptr 74 0 0)] (HS3 bS bA bP bU s p eX bw p f0 f1 f2 d0 d1 d2 (eR ba k f l))) ?_ ?_
  · subst hX
    refine vc_sound hE 60 _ _ _ 74 ?_
    (refine (?_ : chk _ _); refine chk_ok (show (decide ((0 : Int) ≤ (j : Int)) && decide ((j : Int) < (len : Int))) = true by simp only [Bool.and_eq_true, decide_eq_true_eq]; omega) ?_)
    (refine (?_ : chk _ _); refine chk_ok rfl ?_)
    (refine (?_ : chk _ _); refine chk_ok (Nat.ble_eq_true_of_le (show addI 0 ((j : Int)).toNat * 3 + 0 + 3 ≤ len * 3 by rw [hz]; omega)) ?_)
    intro ba
    have v0 : f0.here := lst_live hl0
    have v1 : f1.here := lst_live hl1
    have v2 : f2.here := lst_live hl2
    exact ⟨_, _, _, ba, tau [], rfl, (by repeat' (first | exact rfl | exact trivial | assumption | refine ⟨?_, ?_⟩)), HPW.wkIn rfl rfl rfl rfl rfl trivial trivial trivial ⟨wX _ _, eW_wk v0 v1 v2, lst_wk hl0 _ _, lst_wk hl1 _ _, lst_wk hl2 _ _, ⟨rfl, rfl, rfl, rfl, fun i c hi hc => by
      obtain rfl : i = 0 := (by have hi : i < 1 := hi; omega)
      match c, hc with
      | 0, _ => exact ⟨rfl, rfl⟩
      | 1, _ => exact ⟨rfl, rfl⟩
      | 2, _ => exact ⟨rfl, rfl⟩⟩, trivial⟩⟩
  rintro σ1 h1 _ ⟨k, f, l, ba, τ1, hw⟩
  refine W_weak (nx' := 80) τ1 hw ?_
  clear hw
  refine W_seq (nx := 80) ?_
  refine W_piece (nx := 80) (fun σ1 h1 _ => ∃ (p' : Pol) (s' : Sh), (p'.m.n = n ∧ p'.Fit2 (j + 1) ∧ Inv s' p'.m p'.m.n) ∧ ∃ τ, wk τ σ1 h1 [(2, .slice 100 0 len cap), (7, .int .i64 n), (8, .ptr 8 0 0), (10, .int .i64 (j : Int))] (HS1 bS bA bP bU s' p' eX)) ?_ ?_
  rotate_left
  · -- what is then
    rintro σ1 h1 _ ⟨p', s', ⟨hpn', hfit', hi'⟩, τ1, hw⟩
    refine W_weak (nx' := 70) τ1 hw ?_
    clear hw
    have hok' : Ok p'.m := ⟨s', hi'⟩
    have hlen' := len_le hok'
    have hhl := held_len (p := p')
    have h64 := hok'.n
    have hfw := hfit'.want
    have hfm := hfit'.miss
    have hfh := hfit'.hits
    refine W_seq (nx := 70) ?_
    refine W_piece (nx := 70) (fun σ1 h1 _ => ∃ (bw : Nat) (f0 f1 f2 : Ent) (d0 d1 d2 : Nat), (lstE f0 (cI (p'.m.L 0)) d0 ∧ lstE f1 (cI (p'.m.L 1)) d1 ∧ lstE f2 (cI p'.m.held) d2) ∧ ∃ τ, wk τ σ1 h1 [(2, .slice 100 0 len cap), (7, .int .i64 n), (8, .ptr 8 0 0), (10, .int .i64 (j : Int)), (16, .ptr 73 0 0)] (HS2 bS bA bP bU s' p' eX bw p' f0 f1 f2 d0 d1 d2)) ?_ ?_
    · refine vc_sound hE 60 _ _ _ 70 ?_
      refine ⟨p', rfl, ⟨bS, bA, bP, bU, s', hi', rfl, rfl, rfl, rfl, rfl⟩, rfl, rfl, rfl, fun f0 d0 f1 d1 f2 d2 hl0 hl1 hl2 => ?_⟩
      intro bw
      have v0 : live (HS2 bS bA bP bU s' p' eX bw p' f0 f1 f2 d0 d1 d2) 70 := lst_live hl0
      have v1 : live (HS2 bS bA bP bU s' p' eX bw p' f0 f1 f2 d0 d1 d2) 71 := lst_live hl1
      have v2 : live (HS2 bS bA bP bU s' p' eX bw p' f0 f1 f2 d0 d1 d2) 72 := lst_live hl2
      have v3 : live (HS2 bS bA bP bU s' p' eX bw p' f0 f1 f2 d0 d1 d2) 100 := vX
      refine ⟨bw, f0, f1, f2, d0, d1, d2, ⟨hl0, hl1, hl2⟩, tau [], rfl, (by repeat' (first | exact rfl | exact trivial | assumption | refine ⟨?_, ?_⟩)), HPW.wkIn rfl rfl rfl rfl rfl trivial trivial trivial ⟨wX _ _, ⟨rfl, rfl, rfl, rfl, fun i c hi hc => ?_⟩, lst_wk hl0 _ _, lst_wk hl1 _ _, lst_wk hl2 _ _, trivial⟩⟩
      obtain rfl : i = 0 := (by have hi : i < 1 := hi; omega)
      match c, hc with
      | 0, _ => exact ⟨⟨rfl, v0⟩, rfl, rfl, rfl⟩
      | 1, _ => exact ⟨⟨rfl, v1⟩, rfl, rfl, rfl⟩
      | 2, _ => exact ⟨⟨rfl, v2⟩, rfl, rfl, rfl⟩
      | 3, _ => exact ⟨rfl, rfl⟩
      | 4, _ => exact ⟨rfl, rfl⟩
      | 5, _ => exact ⟨rfl, rfl⟩
    rintro σ1 h1 _ ⟨bw, f0, f1, f2, d0, d1, d2, ⟨hl0, hl1, hl2⟩, τ1, hw⟩
    refine W_weak (nx' := 90) τ1 hw ?_
    clear hw
    refine W_seq (nx := 90) ?_
    refine W_plan hE 90 99 (lineP 0 50 .done) (by rw [hc]; exact mix) (by kernel_rfl) 60 ?_
    iterate 10 (refine ⟨_, ⟨rfl, rfl⟩, ?_⟩)
    (refine (?_ : br _ _ _); refine br_decF (show ¬ (n : Int) < ((p'.want : Nat) : Int) by omega) ?_)
    iterate 5 (refine ⟨_, ⟨rfl, rfl⟩, ?_⟩)
    (refine (?_ : br _ _ _); refine br_decF (show ¬ (64 : Int) ≤ ((p'.miss : Nat) : Int) by omega) ?_)
    iterate 5 (refine ⟨_, ⟨rfl, rfl⟩, ?_⟩)
    (refine (?_ : br _ _ _); refine br_decF (show ¬ (64 : Int) ≤ ((p'.hits : Nat) : Int) by omega) ?_)
    iterate 13 (refine ⟨_, ⟨rfl, rfl⟩, ?_⟩)
    have hwl : IntKind.i64.wrap (((cI (p'.m.L 0)).length : Int) + ((cI (p'.m.L 1)).length : Int)) = ((p'.m.L 0).length : Int) + (p'.m.L 1).length := by
      rw [cI_len, cI_len]; simp only [IntKind.wrap_i64]; omega
    (refine (?_ : br _ _ _); refine br_decF (show ¬ (n : Int) < IntKind.i64.wrap (((cI (p'.m.L 0)).length : Int) + ((cI (p'.m.L 1)).length : Int)) by rw [hwl]; omega) ?_)
    refine ⟨_, ⟨rfl, rfl⟩, ?_⟩
    refine ⟨.int .i64 p'.roomI, ⟨p', rfl, ⟨bS, bA, bP, bU, s', hi', rfl, rfl, rfl, rfl, rfl⟩, ⟨rfl, rfl⟩⟩, ?_⟩
    iterate 15 (refine ⟨_, ⟨rfl, rfl⟩, ?_⟩)
    have hrm : p'.roomI = IntKind.i64.wrap (IntKind.i64.wrap (((cI (p'.m.L 0)).length : Int) + ((cI (p'.m.L 1)).length : Int)) - ((cI p'.m.held).length : Int)) := by
      rw [hwl, cI_len]; unfold Pol.roomI; simp only [IntKind.wrap_i64]; omega
    (refine (?_ : br _ _ _); refine br_neF hrm ?_)
    have v := vX1 s' p'
    exact ⟨p', s', ⟨hpn', hfit', hi'⟩, tau [], rfl, (by repeat' (first | exact rfl | exact trivial | assumption | refine ⟨?_, ?_⟩)), HPW.wkIn rfl rfl rfl rfl rfl trivial trivial trivial ⟨wX _ _, trivial⟩⟩
  have hlen0 := len_le hok
  have hhl := held_len (p := p)
  have h64 := hok.n
  by_cases h5 : k = 5
  · -- one goes
    subst h5
    refine vc_sound hE 7 _ _ _ 80 ?_
    refine W_seq (nx := 80) ?_
    have hvn : p.vicP.m.n = p.m.n := (vicP_nb p).1
    have hvf : p.vicP.Fit2 (j + 1) := by have := actP_fit hfit 5 0 0; exact this
    obtain ⟨u, hu⟩ : ∃ u, u = p.vicI.1 := ⟨_, rfl⟩
    obtain ⟨ok, hok5⟩ : ∃ u, u = p.vicI.2 := ⟨_, rfl⟩
    refine W_ex (nx := 80) (fun s' : Sh => Inv s' p.vicP.m p.vicP.m.n) (fun _ => [(2, .slice 100 0 len cap), (7, .int .i64 n), (8, .ptr 8 0 0), (10, .int .i64 (j : Int)), (11, .ptr 73 0 0), (13, .int .i64 u), (14, .bool ok)]) (fun s' => HS2 bS bA bP bU s' p.vicP eX bw p f0 f1 f2 d0 d1 d2) 80 ?_ ?_
    · refine vc_sound hE 60 _ _ _ 80 ?_
      refine ⟨_, p, p.vicP, _, rfl, ⟨rfl, rfl, rfl⟩, bS, bA, bP, bU, s, hi, rfl, rfl, rfl, rfl, rfl, fun s' hN' hi' => ?_⟩
      have v0 : live (HS2 bS bA bP bU s' p.vicP eX bw p f0 f1 f2 d0 d1 d2) 70 := lst_live hl0
      have v1 : live (HS2 bS bA bP bU s' p.vicP eX bw p f0 f1 f2 d0 d1 d2) 71 := lst_live hl1
      have v2 : live (HS2 bS bA bP bU s' p.vicP eX bw p f0 f1 f2 d0 d1 d2) 72 := lst_live hl2
      have v3 : live (HS2 bS bA bP bU s' p.vicP eX bw p f0 f1 f2 d0 d1 d2) 100 := vX
      exact ⟨s', hi', tau [], rfl, ⟨⟨⟨rfl, v3⟩, rfl, rfl, rfl⟩, ⟨rfl, rfl⟩, ⟨⟨rfl, trivial⟩, rfl, rfl⟩, ⟨rfl, rfl⟩, ⟨⟨rfl, trivial⟩, rfl, rfl⟩, ⟨rfl, hu.symm⟩, hok5.symm, trivial⟩, HPW.wkIn rfl (eA_N hN') rfl (eU_N hvn) rfl trivial trivial trivial ⟨wX _ _, eW_wk v0 v1 v2, lst_wk hl0 _ _, lst_wk hl1 _ _, lst_wk hl2 _ _, trivial⟩⟩
    rintro s' hi'
    refine W_seq (nx := 80) ?_
    have hwl : IntKind.i64.wrap (((cI (p.m.L 0)).length : Int) + ((cI (p.m.L 1)).length : Int)) = ((p.m.L 0).length : Int) + (p.m.L 1).length := by
      rw [cI_len, cI_len]; simp only [IntKind.wrap_i64]; omega
    refine W_to (nx := 80) [(2, .slice 100 0 len cap), (7, .int .i64 n), (8, .ptr 8 0 0), (10, .int .i64 (j : Int)), (11, .ptr 73 0 0), (13, .int .i64 u), (14, .bool ok), (15, .int .i64 (((p.m.L 0).length : Int) + (p.m.L 1).length))] (HS2 bS bA bP bU s' p.vicP eX bw p f0 f1 f2 d0 d1 d2) 80 ?_ ?_
    · have v0 : live (HS2 bS bA bP bU s' p.vicP eX bw p f0 f1 f2 d0 d1 d2) 70 := lst_live hl0
      have v1 : live (HS2 bS bA bP bU s' p.vicP eX bw p f0 f1 f2 d0 d1 d2) 71 := lst_live hl1
      have v2 : live (HS2 bS bA bP bU s' p.vicP eX bw p f0 f1 f2 d0 d1 d2) 72 := lst_live hl2
      have v3 : live (HS2 bS bA bP bU s' p.vicP eX bw p f0 f1 f2 d0 d1 d2) 100 := vX
      refine vc_sound hE 60 _ _ _ 80 ?_
      exact ⟨tau [], rfl, ⟨⟨⟨rfl, v3⟩, rfl, rfl, rfl⟩, ⟨rfl, rfl⟩, ⟨⟨rfl, trivial⟩, rfl, rfl⟩, ⟨rfl, rfl⟩, ⟨⟨rfl, trivial⟩, rfl, rfl⟩, ⟨rfl, rfl⟩, rfl, ⟨rfl, hwl⟩, trivial⟩, HPW.wkIn rfl rfl rfl rfl rfl trivial trivial trivial ⟨wX _ _, eW_wk v0 v1 v2, lst_wk hl0 _ _, lst_wk hl1 _ _, lst_wk hl2 _ _, trivial⟩⟩
    have hdone : ∀ τh : live (HS1 bS bA bP bU s' p.vicP eX) 100, True := fun _ => trivial
    have v := vX1 s' p.vicP
    have okE : ok = decide (((cI p.m.held).length : Int) < ((p.m.L 0).length : Int) + (p.m.L 1).length) := by rw [hok5, vic_iff hok, cI_len]
    refine vc_sound hE 80 _ _ _ 80 ?_
    (refine (?_ : br _ _ _); refine br_f (show (!(ok == decide (((cI p.m.held).length : Int) < ((p.m.L 0).length : Int) + (p.m.L 1).length))) = false by rw [← okE]; simp) ?_)
    cases ok with
    | false => exact ⟨p.vicP, s', ⟨by rw [hvn, hpn], hvf, hi'⟩, tau [], rfl, (by repeat' (first | exact rfl | exact trivial | assumption | refine ⟨?_, ?_⟩)), HPW.wkIn rfl rfl rfl rfl rfl trivial trivial trivial ⟨wX _ _, trivial⟩⟩
    | true =>
    obtain ⟨a1, a2⟩ := vic_in hok hok5.symm
    rw [← hu] at a1 a2
    have hl64 := hok.len (q := 0) (by omega)
    have hl65 := hok.len (q := 1) (by omega)
    refine ⟨_, cI p.m.held, u, rfl, hl2.rd rfl, by rw [cI_len]; omega, ?_⟩
    (refine (?_ : br _ _ _); refine br_decF (show ¬ 0 ≤ findI u (cI p.m.held) by rw [findI_ge]; exact a1) ?_)
    refine ⟨_, cI (p.m.L 0), u, rfl, hl0.rd rfl, by rw [cI_len]; omega, ?_⟩
    (refine (?_ : br _ _ _); refine br_dec (fun q => ?_) (fun q => ?_))
    · have q1 : findI u (cI (p.m.L 0)) < 0 := q
      rw [findI_neg] at q1
      refine ⟨_, cI (p.m.L 1), u, rfl, hl1.rd rfl, by rw [cI_len]; omega, ?_⟩
      have a3 : ¬ findI u (cI (p.m.L 1)) < 0 := by rw [findI_neg]; intro w; exact w (a2.resolve_left q1)
      (refine (?_ : br _ _ _); refine br_decF a3 ?_)
      exact ⟨p.vicP, s', ⟨by rw [hvn, hpn], hvf, hi'⟩, tau [], rfl, (by repeat' (first | exact rfl | exact trivial | assumption | refine ⟨?_, ?_⟩)), HPW.wkIn rfl rfl rfl rfl rfl trivial trivial trivial ⟨wX _ _, trivial⟩⟩
    · exact ⟨p.vicP, s', ⟨by rw [hvn, hpn], hvf, hi'⟩, tau [], rfl, (by repeat' (first | exact rfl | exact trivial | assumption | refine ⟨?_, ?_⟩)), HPW.wkIn rfl rfl rfl rfl rfl trivial trivial trivial ⟨wX _ _, trivial⟩⟩
  -- a step on both
  refine vc_sound hE 7 _ _ _ 80 ?_
  (refine (?_ : br _ _ _); refine br_eqF h5 ?_)
  refine W_weak (nx := 80) (σ' := [(2, .slice 100 0 len cap), (7, .int .i64 n), (8, .ptr 8 0 0), (10, .int .i64 (j : Int)), (12, .ptr 101 0 0)]) (h' := HPW bS bA bP bU s p ++ [(100, eX), (101, eR ba k f l)]) (nx' := 90) (tau [(101, 74)]) ⟨rfl, (by repeat' (first | exact rfl | exact trivial | assumption | refine ⟨?_, ?_⟩)), HPW.wkInT rfl rfl rfl rfl rfl trivial trivial trivial ⟨wX _ _, eR_wk _ _, trivial⟩⟩ ?_
  refine W_planw hE 90 [2, 4] (.take 0 (.take 1 (.all (.cons 2 (.all (.cons 3 (.all (.cons 4 .done .nil)) .nil)) (.cons 3 (.all (.cons 2 (.all (.cons 4 .done .nil)) .nil)) .nil))))) (by rw [hc]; exact mix) (by kernel_rfl) 60 ?_
  iterate 2 (refine ⟨_, ⟨rfl, rfl⟩, ?_⟩)
  have hmn : mayB n 1 = true := by unfold mayB; simp only [Bool.and_eq_true, decide_eq_true_eq]; omega
  have hokn : Ok (Pol.new n 1).m := Ok.new hmn
  refine ⟨⟨trivial, ?_⟩, ?_⟩
  · refine ⟨n, 1, rfl, by omega, rfl, rfl, rfl, rfl, rfl, rfl, fun bQ bR bH => ?_⟩
    refine ⟨⟨trivial, ?_⟩, trivial⟩
    refine ⟨⟨trivial, ?_⟩, trivial⟩
    refine ⟨p, Pol.new n 1, k, f, l, bS, bA, bP, bU, bQ, bR, bH, s, nilE, nilE, nilE, nilE, nilE, 0, 0, 0, eX, eR ba k f l, rfl, rfl, hi, hfit.fit (by omega), LQ.nil n 1, .inl rfl, .inl rfl, hokn, new_fit _ _, rfl, fun ha bx s' EU E0 E1 EN t0 t1 tU d0 d1 dU hN' hi' n0 n1 nU => ?_, fun hna bx => ?_⟩
    · exact ⟨p.actP k f l, s', ⟨by rw [actP_n, hpn], actP_fit hfit k f l, hi'⟩, tau [], rfl, ⟨⟨⟨rfl, vX⟩, rfl, rfl, rfl⟩, ⟨rfl, rfl⟩, ⟨⟨rfl, trivial⟩, rfl, rfl⟩, ⟨rfl, rfl⟩, trivial⟩, HPW.wkIn rfl (eA_N hN') rfl (eU_N (actP_n p k f l)) rfl trivial trivial trivial ⟨wX _ _, trivial⟩⟩
    · exact ⟨p, s, ⟨hpn, hfit.mono (Nat.le_succ j), hi⟩, tau [], rfl, ⟨⟨⟨rfl, vX⟩, rfl, rfl, rfl⟩, ⟨rfl, rfl⟩, ⟨⟨rfl, trivial⟩, rfl, rfl⟩, ⟨rfl, rfl⟩, trivial⟩, HPW.wkIn rfl rfl rfl rfl rfl trivial trivial trivial ⟨wX _ _, trivial⟩⟩
  refine ⟨⟨trivial, ?_⟩, trivial⟩
  refine ⟨⟨trivial, ?_⟩, trivial⟩
  refine ⟨n, 1, rfl, by omega, rfl, rfl, rfl, rfl, rfl, rfl, fun bQ bR bH => ?_⟩
  refine ⟨⟨trivial, ?_⟩, trivial⟩
  refine ⟨p, Pol.new n 1, k, f, l, bS, bA, bP, bU, bQ, bR, bH, s, nilE, nilE, nilE, nilE, nilE, 0, 0, 0, eX, eR ba k f l, rfl, rfl, hi, hfit.fit (by omega), LQ.nil n 1, .inl rfl, .inl rfl, hokn, new_fit _ _, rfl, fun ha bx s' EU E0 E1 EN t0 t1 tU d0 d1 dU hN' hi' n0 n1 nU => ?_, fun hna bx => ?_⟩
  · exact ⟨p.actP k f l, s', ⟨by rw [actP_n, hpn], actP_fit hfit k f l, hi'⟩, tau [], rfl, ⟨⟨⟨rfl, vX⟩, rfl, rfl, rfl⟩, ⟨rfl, rfl⟩, ⟨⟨rfl, trivial⟩, rfl, rfl⟩, ⟨rfl, rfl⟩, trivial⟩, HPW.wkIn rfl (eA_N hN') rfl (eU_N (actP_n p k f l)) rfl trivial trivial trivial ⟨wX _ _, trivial⟩⟩
  · exact ⟨p, s, ⟨hpn, hfit.mono (Nat.le_succ j), hi⟩, tau [], rfl, ⟨⟨⟨rfl, vX⟩, rfl, rfl, rfl⟩, ⟨rfl, rfl⟩, ⟨⟨rfl, trivial⟩, rfl, rfl⟩, ⟨rfl, rfl⟩, trivial⟩, HPW.wkIn rfl rfl rfl rfl rfl trivial trivial trivial ⟨wX _ _, trivial⟩⟩

def sSafe : Spec := fun args h nx K => ∃ (fr bo : Int) (ub : Option Addr) (len cap : Nat) (z : Nat → Nat → Int), args = [.int .u8 fr, .int .u8 bo, .slice 100 0 len cap] ∧ h = [(1000, eB), (100, .ro ub len 3 (gT z))] ∧ (0 ≤ fr ∧ fr ≤ 255) ∧ (0 ≤ bo ∧ bo ≤ 255) ∧ len ≤ 9223372036854775807 ∧ K (.ret (.bool true)) h nx
theorem sSafe_ok : SpecOK Tryd.prog 4 sSafe := by
  refine specOK_read (fn := Tryd.f4) rfl rfl rfl T_ok (SP := SPL3) spl3 0 _ ?_
  rintro args h nx K ⟨fr, bo, ub, len, cap, z, rfl, rfl, hfr, hbo, hlen, hk⟩
  refine ⟨[(1000, eB), (100, .ro ub len 3 (gT z))], ⟨fun i c hi hc => trivial, fun i c hi hc => trivial, trivial⟩, ⟨⟨rfl, _, _, _, _, rfl⟩, ⟨rfl, _, _, _, _, rfl⟩, trivial⟩, ⟨trivial, trivial, rfl, trivial⟩, by simp [Tryd.f4], fun o => o = .ret (.bool true), ?_, ?_⟩
  · rintro o rfl
    exact ⟨trivial, hk⟩
  · intro c hc
    obtain ⟨cd, h1, h2⟩ := safe_walk hc hfr hbo (ub := ub) (cap := cap) (z := z) hlen
    cases h1
    exact h2
end Go.Proofs.YtiihiifcnkfjoaaDoor.Sx
