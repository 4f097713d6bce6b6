import Derived.Test.YtiihiifcnkfjoaaDoorSxC4
/-
  The walks of this seat's laws: SarcFalls.
-/
namespace Go.Proofs.YtiihiifcnkfjoaaDoor.Sx
open Go Go.Proofs
set_option maxRecDepth 100000
set_option linter.unusedSimpArgs false
set_option linter.unusedVariables false

/-! ### What enters, what is hit, what is missed -/
theorem ix_snoc {k : Nat} : ∀ {A : List Nat}, k ∉ A → ix k (A ++ [k]) = A.length
  | [], _ => by simp [ix]
  | x :: A, h => by
    have h1 : ¬ x = k := fun e => h (by rw [e]; exact List.mem_cons_self)
    have h2 : k ∉ A := fun e => h (List.mem_cons_of_mem _ e)
    show ix k (x :: (A ++ [k])) = _
    unfold ix
    rw [if_neg h1, ix_snoc h2]; simp
structure Ent0 (n : Nat) (sq : Bool) (j : Nat) (p : Pol) : Prop where
  n : p.m.n = n
  b : p.m.b = 1
  want : p.want = 0
  miss : p.miss = 0
  hits : p.hits = 0
  l0 : (p.m.L 0).length = if sq = true ∧ 0 < j then 1 else 0
  lt : ∀ x, (x ∈ p.m.L 0 ∨ x ∈ p.m.L 1) → x < j
  len : (p.m.L 0).length + (p.m.L 1).length = j
theorem Ent0.new (n : Nat) (sq : Bool) : Ent0 n sq 0 (Pol.new n 1) := ⟨rfl, rfl, rfl, rfl, rfl, by rw [if_neg (by omega)]; rfl, fun x h => by rcases h with h | h <;> exact absurd h (by simp [Pol.new, Md.new]), rfl⟩
theorem front_new {m : Md} {k q : Nat} (hq : q < 2) (hk : k < m.n) (h0 : k ∉ m.L 0) (h1 : k ∉ m.L 1) : m.frontI q k = m.set q (k :: m.L q) := by
  have e : m.frontI q k = m.front q k := by unfold Md.frontI; rw [if_pos ⟨by unfold rightB; simp; omega, isN_of hk⟩]; rfl
  have ho : m.out k = m := by
    unfold Md.out Md.at
    rw [if_neg h0, if_neg h1]
  rw [e]
  unfold Md.front
  rw [ho]
theorem hold_L {m : Md} {k : Int} {b : Bool} : (m.holdI k b).L = m.L := by unfold Md.holdI; split <;> rfl
theorem Ent0.enter {n j q : Nat} {sq : Bool} {p : Pol} (h : Ent0 n sq j p) (hok : Ok p.m) (hj : j < n) (hq : q = if sq = true ∧ j = 0 then 0 else 1) : Ent0 n sq (j + 1) (p.enterP j q) := by
  have hjn : j < p.m.n := by rw [h.n]; exact hj
  have hq2 : q < 2 := by rw [hq]; split <;> omega
  have h0 : j ∉ p.m.L 0 := fun w => by have := h.lt j (.inl w); omega
  have h1 : j ∉ p.m.L 1 := fun w => by have := h.lt j (.inr w); omega
  have hm : p.mayI j q = true := may_of hjn (by rw [hq]; split <;> simp)
  have hb : p.inB j = false := by
    cases e : p.inB j with
    | false => rfl
    | true =>
      rcases List.mem_append.1 ((inB_mem hok hjn).1 e) with w | w
      · exact absurd w h0
      · exact absurd w h1
  have eP : p.enterP j q = (p.frontP j q).withM ((p.m.frontI q j).holdI j true) := by unfold Pol.enterP; rw [if_pos ⟨hm, hb⟩]
  have eF := front_new (m := p.m) hq2 hjn h0 h1
  have eL : ∀ i, (p.enterP j q).m.L i = if i = q then j :: p.m.L q else p.m.L i := fun i => by
    rw [eP]
    show ((p.m.frontI q j).holdI j true).L i = _
    rw [hold_L, eF]; rfl
  obtain ⟨nb1, nb2⟩ := enterP_nb p j q
  have hl := h.l0
  have hln := h.len
  refine ⟨nb1.trans h.n, nb2.trans h.b, by rw [eP]; exact h.want, by rw [eP]; exact h.miss, by rw [eP]; exact h.hits, ?_, ?_, ?_⟩
  · rw [eL]
    by_cases w : sq = true ∧ j = 0
    · rw [if_pos w] at hq
      obtain ⟨w1, w2⟩ := w
      subst hq
      rw [if_pos rfl, if_pos ⟨w1, by omega⟩]
      rw [if_neg (by omega)] at hl
      simp; exact List.length_eq_zero_iff.1 hl
    · rw [if_neg w] at hq
      subst hq
      rw [if_neg (by omega), hl]
      by_cases w1 : sq = true
      · have : j ≠ 0 := fun e => w ⟨w1, e⟩
        rw [if_pos ⟨w1, by omega⟩, if_pos ⟨w1, by omega⟩]
      · rw [if_neg (fun e => w1 e.1), if_neg (fun e => w1 e.1)]
  · intro x hx
    rw [eL, eL] at hx
    have hx' : x = j ∨ x ∈ p.m.L 0 ∨ x ∈ p.m.L 1 := by
      obtain rfl | rfl : q = 0 ∨ q = 1 := by omega
      · rw [if_pos rfl, if_neg (by omega)] at hx
        rcases hx with hx | hx
        · rcases List.mem_cons.1 hx with hx | hx
          · exact .inl hx
          · exact .inr (.inl hx)
        · exact .inr (.inr hx)
      · rw [if_neg (by omega), if_pos rfl] at hx
        rcases hx with hx | hx
        · exact .inr (.inl hx)
        · rcases List.mem_cons.1 hx with hx | hx
          · exact .inl hx
          · exact .inr (.inr hx)
    rcases hx' with hx | hx
    · omega
    · have := h.lt x hx; omega
  · rw [eL, eL]
    obtain rfl | rfl : q = 0 ∨ q = 1 := by omega
    · rw [if_pos rfl, if_neg (by omega), List.length_cons]; omega
    · rw [if_neg (by omega), if_pos rfl, List.length_cons]; omega
structure Fal (n h z : Nat) (p : Pol) : Prop where
  n : p.m.n = n
  b : p.m.b = 1
  want : p.want = 0
  miss : p.miss = 0
  hits : p.hits = h
  l0 : (p.m.L 0).length = z
  l1 : p.m.L 1 ≠ []
theorem Ent0.fal {n : Nat} {sq : Bool} {p : Pol} (h : Ent0 n sq n p) (hn : 2 ≤ n) : Fal n 0 (if sq = true then 1 else 0) p := by
  have hl := h.l0
  have hln := h.len
  refine ⟨h.n, h.b, h.want, h.miss, h.hits, ?_, fun e => ?_⟩
  · rw [hl]
    by_cases w : sq = true
    · rw [if_pos ⟨w, by omega⟩, if_pos w]
    · rw [if_neg (fun e => w e.1), if_neg w]
  · rw [e] at hln
    have : (p.m.L 0).length ≤ 1 := by rw [hl]; split <;> omega
    simp at hln; omega
theorem Fal.hit {n h z : Nat} {p : Pol} (hf : Fal n h z p) (hok : Ok p.m) (hh : h ≤ 60) {A : List Nat} {k : Nat} (e : p.m.L 1 = A ++ [k]) : p.hitC k 1 = 0 ∧ Fal n (h + 1) z (p.hitP k 1) := by
  have hk1 : k ∈ p.m.L 1 := by rw [e]; simp
  have hkn : k < p.m.n := hok.lt (q := 1) (by omega) hk1
  have hnd : (p.m.L 0 ++ p.m.L 1).Nodup := by obtain ⟨s, hi⟩ := hok; exact hi.nd
  have hk0 : k ∉ p.m.L 0 := fun w => (List.nodup_append.1 hnd).2.2 k w k hk1 rfl
  have hkA : k ∉ A := by
    have := (List.nodup_append.1 hnd).2.1
    rw [e] at this
    exact fun w => (List.nodup_append.1 this).2.2 k w k (by simp) rfl
  have hm : p.mayI k 1 = true := may_of hkn (.inr rfl)
  have hat : p.m.at k = some 1 := by unfold Md.at; rw [if_neg hk0, if_pos hk1]
  have hlies : p.m.lies k = 0 := by
    unfold Md.lies
    rw [isN_of hkn, if_neg (by simp), Int.toNat_natCast, hat]; rfl
  have hw : p.m.whI k = (1, true, true) := by
    unfold Md.whI
    rw [if_pos hlies, Int.toNat_natCast, hat]
    have : p.m.low 1 k = true := by
      unfold Md.low
      rw [e, ix_snoc hkA, hf.b]; simp
    show (((1 : Nat) : Int), p.m.low 1 k, true) = _
    rw [this]; rfl
  have hb : p.inB k = true := by unfold Pol.inB; rw [hw]
  have eP : p.hitP k 1 = (p.oneHit.weighP).frontP k 1 := by
    unfold Pol.hitP
    rw [if_pos ⟨hm, hb⟩]
    unfold Pol.hitW
    rw [hw, if_pos ⟨rfl, rfl⟩]
  have hwc : p.oneHit.wcmp ≠ 1 := by
    show cmpI (p.miss * p.m.b : Nat) ((p.hits + 1) * (p.m.L 0).length : Nat) ≠ 1
    rw [hf.miss]
    unfold cmpI
    rw [Nat.zero_mul]
    split
    · decide
    · rw [if_neg (by omega)]; decide
  have hwant : p.oneHit.weighP.want = 0 := by
    show p.oneHit.want1 = 0
    unfold Pol.want1
    rw [if_neg hwc]
    have : p.oneHit.want = 0 := hf.want
    rw [this]
    split <;> rfl
  obtain ⟨nb1, nb2⟩ := hitP_nb p k 1
  have eF : p.m.frontI 1 k = p.m.front 1 k := by unfold Md.frontI; rw [if_pos ⟨rfl, isN_of hkn⟩]; rfl
  have eO : p.m.out k = p.m.set 1 ((p.m.L 1).erase k) := by unfold Md.out; rw [hat]
  refine ⟨?_, ?_⟩
  · unfold Pol.hitC
    rw [if_neg (by rw [hm]; simp), if_neg (by rw [hb]; simp)]
  · refine ⟨nb1.trans hf.n, nb2.trans hf.b, by rw [eP]; exact hwant, ?_, ?_, ?_, ?_⟩
    · rw [eP]
      show (if 64 ≤ max p.miss (p.hits + 1) then p.miss / 2 else p.miss) = 0
      rw [hf.miss]; split <;> rfl
    · rw [eP]
      show (if 64 ≤ max p.miss (p.hits + 1) then (p.hits + 1) / 2 else p.hits + 1) = _
      rw [hf.miss, hf.hits, if_neg (by omega)]
    · rw [eP]
      show ((p.m.frontI 1 k).L 0).length = z
      rw [eF]
      unfold Md.front
      rw [eO]
      exact hf.l0
    · rw [eP]
      show (p.m.frontI 1 k).L 1 ≠ []
      rw [eF]
      show k :: _ ≠ []
      simp
theorem Fal.missed {n h z : Nat} {p : Pol} (hf : Fal n h z p) (hn : 1 ≤ n) (hh : h ≤ 60) : (p.missP 0).want = (if h * z = 0 then 1 else 0) ∧ (p.missP 0).miss = 1 ∧ (p.missP 0).hits = h := by
  have eP : p.missP 0 = p.oneMiss.weighP := if_pos rfl
  rw [eP]
  refine ⟨?_, ?_, ?_⟩
  · show p.oneMiss.want1 = _
    have hw : p.oneMiss.wcmp = cmpI ((1 : Nat) : Int) ((h * z : Nat) : Int) := by
      show cmpI ((p.miss + 1) * p.m.b : Nat) (p.hits * (p.m.L 0).length : Nat) = _
      rw [hf.miss, hf.b, hf.hits, hf.l0]
    have hwt : p.oneMiss.want = 0 := hf.want
    have hnn : p.oneMiss.m.n = n := hf.n
    unfold Pol.want1
    rw [hw, hwt, hnn]
    generalize h * z = x
    unfold cmpI
    by_cases w : x = 0
    · subst w
      rw [if_pos (by decide), if_pos rfl]
      omega
    · rw [if_neg w]
      by_cases w2 : (((1 : Nat) : Int)) < (x : Int)
      · rw [if_pos w2]; rfl
      · rw [if_neg w2, if_neg (show ¬ (x : Int) < ((1 : Nat) : Int) by omega)]; rfl
  · show (if 64 ≤ max (p.miss + 1) p.hits then (p.miss + 1) / 2 else p.miss + 1) = 1
    rw [hf.miss, hf.hits, if_neg (by omega)]
  · show (if 64 ≤ max (p.miss + 1) p.hits then p.hits / 2 else p.hits) = h
    rw [hf.miss, hf.hits, if_neg (by omega)]

/-! ### The walk -/
abbrev HW1 (bS bA bP bU : Nat) (s : Sh) (p : Pol) : Hp := HPW bS bA bP bU s p
abbrev HF2 (bS bA bP bU : Nat) (s : Sh) (p : Pol) (b : Nat) (p0 : Pol) (f0 f1 f2 : Ent) (d0 d1 d2 : Nat) : Hp := HPW bS bA bP bU s p ++ [(73, eW b p0 d0 d1 d2), (70, f0), (71, f1), (72, f2)]
def SPL5 : SpT := [(9, sAwake), (10, sPNew), (15, sPolicy), (20, PMiss), (21, PEnter), (23, PHit)]
theorem spl5 : ∀ p ∈ SPL5, SpecOK Tryd.prog p.1 p.2 := consSP sAwake_ok (consSP sPNew_ok (consSP sPolicy_ok (consSP pmiss_ok (consSP penter_ok (consSP phit_ok noSP)))))

theorem falls_walk {c : Cx} (hc : c.P = Tryd.prog) {fr ht : Int} {sq : Bool} (hfr : 0 ≤ fr ∧ fr ≤ 255) (hht : 0 ≤ ht ∧ ht ≤ 255) :
    ∃ cd, Tryd.f8.body = some cd ∧ W ⟨c, Tryd.f8, T, SPL5, fun o _ _ => o = .ret (.bool true)⟩ [.code cd] (argsS [.int .u8 fr, .bool sq, .int .u8 ht] 0) [(1000, eB)] 0 := by
  refine ⟨_, rfl, ?_⟩
  have hE := mkE' (fn := Tryd.f8) (R := fun o _ _ => o = .ret (.bool true)) hc spl5
  have hwk : wkH (tau []) [(1000, eB)] [(1000, eB)] [(1000, eB)] := ⟨⟨rfl, rfl, rfl, fun i c hi hc => ⟨rfl, rfl⟩⟩, trivial⟩
  obtain ⟨n, hn⟩ : ∃ n : Nat, (n : Int) = 2 + fr % 63 := ⟨(2 + fr % 63).toNat, by omega⟩
  have hn1 : 2 ≤ n ∧ n ≤ 64 := by omega
  obtain ⟨H, hH⟩ : ∃ H : Nat, (H : Int) = ht % 60 := ⟨(ht % 60).toNat, by omega⟩
  have hH1 : H < 60 := by omega
  have hmay : mayB n 1 = true := by unfold mayB; simp only [Bool.and_eq_true, decide_eq_true_eq]; omega
  refine W_seq (nx := 0) ?_
  refine W_to (nx := 0) [(0, .int .u8 fr), (1, .bool sq), (2, .int .u8 ht)] [(1000, eB)] 30 ?_ ?_
  · refine vc_sound hE 20 _ _ _ 30 ?_
    exact ⟨tau [], rfl, (by repeat' (first | exact rfl | exact trivial | assumption | refine ⟨?_, ?_⟩)), hwk⟩
  refine W_seq (nx := 30) ?_
  refine W_to (nx := 30) [(0, .int .u8 fr), (1, .bool sq), (2, .int .u8 ht)] [(1000, eB)] 30 ?_ ?_
  · refine vc_sound hE 60 _ _ _ 30 ?_
    refine ⟨rfl, rfl, ?_⟩
    exact ⟨tau [], rfl, (by repeat' (first | exact rfl | exact trivial | assumption | refine ⟨?_, ?_⟩)), hwk⟩
  refine W_seq (nx := 30) ?_
  have e1 : IntKind.i64.wrap (2 + Int.tmod (IntKind.i64.wrap fr) 63) = (n : Int) := by
    rw [show IntKind.i64.wrap fr = fr by simp only [IntKind.wrap_i64]; omega, Int.tmod_eq_emod_of_nonneg (by omega)]
    simp only [IntKind.wrap_i64]; omega
  have e2 : Int.tmod (IntKind.i64.wrap ht) 60 = (H : Int) := by
    rw [show IntKind.i64.wrap ht = ht by simp only [IntKind.wrap_i64]; omega, Int.tmod_eq_emod_of_nonneg (by omega)]
    omega
  refine W_to (nx := 30) [(1, .bool sq), (2, .int .u8 ht), (7, .int .i64 n)] [(1000, eB)] 30 ?_ ?_
  · refine vc_sound hE 60 _ _ _ 30 ?_
    exact ⟨tau [], rfl, ⟨rfl, ⟨rfl, rfl⟩, ⟨rfl, e1⟩, trivial⟩, hwk⟩
  refine W_seq (nx := 30) ?_
  refine W_piece (nx := 30) (fun σ1 h1 _ => ∃ (bS bA bP bU : Nat) (s : Sh), Inv s (Pol.new n 1).m (Pol.new n 1).m.n ∧ ∃ τ, wk τ σ1 h1 [(1, .bool sq), (2, .int .u8 ht), (7, .int .i64 n), (8, .ptr 8 0 0)] (HPW bS bA bP bU s (Pol.new n 1))) ?_ ?_
  · refine vc_sound hE 60 _ _ _ 30 ?_
    refine ⟨n, 1, rfl, fun _ => ⟨rfl, rfl, rfl, rfl⟩, fun e => ?_, fun e bS bA bP bU s hN hi => ?_⟩
    · rw [hmay] at e; cases e
    · exact ⟨bS, bA, bP, bU, s, hi, tau [], rfl, (by repeat' (first | exact rfl | exact trivial | assumption | refine ⟨?_, ?_⟩)), HPW.wk⟩
  rintro σ1 h1 _ ⟨bS, bA, bP, bU, s, hi, τ1, hw1⟩
  refine W_weak (nx' := 30) τ1 hw1 ?_
  clear hw1
  refine W_seq (nx := 30) ?_
  refine W_to (nx := 30) [(1, .bool sq), (2, .int .u8 ht), (7, .int .i64 n), (8, .ptr 8 0 0)] (HPW bS bA bP bU s (Pol.new n 1)) 30 ?_ ?_
  · refine vc_sound hE 60 _ _ _ 30 ?_
    exact ⟨tau [], rfl, (by repeat' (first | exact rfl | exact trivial | assumption | refine ⟨?_, ?_⟩)), HPW.wk⟩
  refine W_seq (nx := 30) ?_
  -- all enter
  refine W_ex (nx := 30) (fun (a : Pol × Sh) => Inv a.2 a.1.m a.1.m.n ∧ Ent0 n sq n a.1 ∧ a.1.Fit2 n) (fun a => [(1, .bool sq), (2, .int .u8 ht), (7, .int .i64 n), (8, .ptr 8 0 0)]) (fun a => HPW bS bA bP bU a.2 a.1) 30 ?_ ?_
  · refine vc_sound hE 5 _ _ _ 30 ?_
    refine W_loop (fun r σ h => ∃ (j : Nat) (p : Pol) (s : Sh), r = n - j ∧ j ≤ n ∧ Inv s p.m p.m.n ∧ Ent0 n sq j p ∧ p.Fit2 j ∧ σ = [(1, .bool sq), (2, .int .u8 ht), (7, .int .i64 n), (8, .ptr 8 0 0), (10, .int .i64 (j : Int))] ∧ h = HPW bS bA bP bU s p)
      n ⟨0, Pol.new n 1, s, rfl, by omega, hi, Ent0.new n sq, ⟨Nat.zero_le _, Nat.zero_le _, Nat.zero_le _, Nat.zero_le _⟩, rfl, rfl⟩ (tau []) ⟨rfl, (by repeat' (first | exact rfl | exact trivial | assumption | refine ⟨?_, ?_⟩)), HPW.wk⟩ 30 ?_
    rintro r σ h1 ⟨j, p, s, rfl, hj, hi, ho, hfit, rfl, rfl⟩
    have hok : Ok p.m := ⟨s, hi⟩
    refine W_seq (nx := 30) ?_
    refine W_piece (nx := 30) (fun σ1 h1 _ => j < n ∧ ∃ τ, wk τ σ1 h1 [(1, .bool sq), (2, .int .u8 ht), (7, .int .i64 n), (8, .ptr 8 0 0), (10, .int .i64 (j : Int))] (HPW bS bA bP bU s p)) ?_ ?_
    · refine vc_sound hE 60 _ _ _ 30 ?_
      (refine (?_ : br _ _ _); refine br_dec (fun q => ?_) (fun q => ?_))
      · have q : (j : Int) < n := q
        exact ⟨by omega, tau [], rfl, (by repeat' (first | exact rfl | exact trivial | assumption | refine ⟨?_, ?_⟩)), HPW.wk⟩
      · have q : ¬ (j : Int) < n := q
        have hjn : j = n := by omega
        rw [hjn] at ho hfit
        exact ⟨(p, s), ⟨hi, ho, hfit⟩, tau [], rfl, (by repeat' (first | exact rfl | exact trivial | assumption | refine ⟨?_, ?_⟩)), HPW.wk⟩
    rintro σ1 h1 _ ⟨hjn, τ1, hw⟩
    refine W_weak (nx' := 30) τ1 hw ?_
    clear hw
    have hw : IntKind.i64.wrap ((j : Int) + 1) = ((j + 1 : Nat) : Int) := by simp [IntKind.wrap_i64]; omega
    obtain ⟨qq, hq⟩ : ∃ q : Nat, q = if sq = true ∧ j = 0 then 0 else 1 := ⟨_, rfl⟩
    have ho' := ho.enter hok hjn hq
    have hfit' : (p.enterP j qq).Fit2 (j + 1) := by
      have h1 := actP_fit hfit 0 j qq
      exact h1
    refine vc_sound hE 2 _ _ _ 30 ?_
    refine W_seq (nx := 30) ?_
    refine W_to (nx := 30) [(1, .bool sq), (2, .int .u8 ht), (7, .int .i64 n), (8, .ptr 8 0 0), (10, .int .i64 (j : Int)), (11, .int .i64 1)] (HPW bS bA bP bU s p) 30 ?_ ?_
    · refine vc_sound hE 60 _ _ _ 30 ?_
      exact ⟨tau [], rfl, (by repeat' (first | exact rfl | exact trivial | assumption | refine ⟨?_, ?_⟩)), HPW.wk⟩
    refine W_seq (nx := 30) ?_
    refine W_to (nx := 30) [(1, .bool sq), (2, .int .u8 ht), (7, .int .i64 n), (8, .ptr 8 0 0), (10, .int .i64 (j : Int)), (11, .int .i64 qq)] (HPW bS bA bP bU s p) 30 ?_ ?_
    · refine vc_sound hE 60 _ _ _ 30 ?_
      (refine (?_ : br _ _ _); refine br_eq (fun q => ?_) (fun q => ?_))
      · have e0 : (j : Int) = 0 := q
        cases sq with
        | true =>
          have hq0 : (qq : Int) = 0 := by rw [hq, if_pos ⟨rfl, by omega⟩]; rfl
          exact ⟨tau [], rfl, ⟨rfl, ⟨rfl, rfl⟩, ⟨rfl, rfl⟩, ⟨⟨rfl, trivial⟩, rfl, rfl⟩, ⟨rfl, rfl⟩, ⟨rfl, hq0.symm⟩, trivial⟩, HPW.wk⟩
        | false =>
          have hq0 : (qq : Int) = 1 := by rw [hq, if_neg (fun w => by cases w.1)]; rfl
          exact ⟨tau [], rfl, ⟨rfl, ⟨rfl, rfl⟩, ⟨rfl, rfl⟩, ⟨⟨rfl, trivial⟩, rfl, rfl⟩, ⟨rfl, rfl⟩, ⟨rfl, hq0.symm⟩, trivial⟩, HPW.wk⟩
      · have e0 : ¬ (j : Int) = 0 := q
        have hq0 : (qq : Int) = 1 := by rw [hq, if_neg (fun w => by have := w.2; omega)]; rfl
        exact ⟨tau [], rfl, ⟨rfl, ⟨rfl, rfl⟩, ⟨rfl, rfl⟩, ⟨⟨rfl, trivial⟩, rfl, rfl⟩, ⟨rfl, rfl⟩, ⟨rfl, hq0.symm⟩, trivial⟩, HPW.wk⟩
    refine vc_sound hE 60 _ _ _ 30 ?_
    refine ⟨_, p, p.enterP j qq, _, rfl, ⟨j, qq, rfl, by have := hfit.few; omega, rfl, rfl⟩, bS, bA, bP, bU, s, hi, rfl, rfl, rfl, rfl, rfl, fun s' hN hi' => ?_⟩
    exact ⟨n - (j + 1), _, _, by omega, ⟨j + 1, p.enterP j qq, s', rfl, by omega, hi', ho', hfit', rfl, rfl⟩, tau [], rfl, ⟨rfl, ⟨rfl, rfl⟩, ⟨rfl, rfl⟩, ⟨⟨rfl, trivial⟩, rfl, rfl⟩, ⟨rfl, hw⟩, trivial⟩, HPW.wkIn (rest := []) rfl (eA_N hN) rfl (eU_N (enterP_nb p j qq).1) rfl trivial trivial trivial trivial⟩
  rintro ⟨p, s⟩ ⟨hi, ho, hfit⟩
  have hi : Inv s p.m p.m.n := hi
  have ho : Ent0 n sq n p := ho
  have hfit : p.Fit2 n := hfit
  have hf := ho.fal hn1.1
  obtain ⟨z, hz⟩ : ∃ z : Nat, z = if sq = true then 1 else 0 := ⟨_, rfl⟩
  rw [← hz] at hf
  refine W_seq (nx := 30) ?_
  refine W_ex (nx := 30) (fun (a : Pol × Sh) => Inv a.2 a.1.m a.1.m.n ∧ Fal n H z a.1 ∧ a.1.Fit2 (n + H)) (fun a => [(1, .bool sq), (2, .int .u8 ht), (8, .ptr 8 0 0)]) (fun a => HPW bS bA bP bU a.2 a.1) 70 ?_ ?_
  · refine vc_sound hE 5 _ _ _ 30 ?_
    refine W_loop (fun r σ h => ∃ (j : Nat) (p : Pol) (s : Sh), r = H - j ∧ j ≤ H ∧ Inv s p.m p.m.n ∧ Fal n j z p ∧ p.Fit2 (n + j) ∧ σ = [(1, .bool sq), (2, .int .u8 ht), (8, .ptr 8 0 0), (12, .int .i64 (j : Int))] ∧ h = HPW bS bA bP bU s p)
      H ⟨0, p, s, rfl, by omega, hi, hf, hfit, rfl, rfl⟩ (tau []) ⟨rfl, (by repeat' (first | exact rfl | exact trivial | assumption | refine ⟨?_, ?_⟩)), HPW.wk⟩ 30 ?_
    rintro r σ h1 ⟨j, p, s, rfl, hj, hi, hf, hfit, rfl, rfl⟩
    have hok : Ok p.m := ⟨s, hi⟩
    refine W_seq (nx := 30) ?_
    refine W_piece (nx := 30) (fun σ1 h1 _ => j < H ∧ ∃ τ, wk τ σ1 h1 [(1, .bool sq), (2, .int .u8 ht), (8, .ptr 8 0 0), (12, .int .i64 (j : Int))] (HPW bS bA bP bU s p)) ?_ ?_
    · refine vc_sound hE 60 _ _ _ 30 ?_
      (refine (?_ : br _ _ _); refine br_dec (fun q => ?_) (fun q => ?_))
      · have q : (j : Int) < Int.tmod (IntKind.i64.wrap ht) 60 := q
        rw [e2] at q
        exact ⟨by omega, tau [], rfl, (by repeat' (first | exact rfl | exact trivial | assumption | refine ⟨?_, ?_⟩)), HPW.wk⟩
      · have q : ¬ (j : Int) < Int.tmod (IntKind.i64.wrap ht) 60 := q
        rw [e2] at q
        have hjn : j = H := by omega
        rw [hjn] at hf hfit
        exact ⟨(p, s), ⟨hi, hf, hfit⟩, tau [], rfl, (by repeat' (first | exact rfl | exact trivial | assumption | refine ⟨?_, ?_⟩)), HPW.wk⟩
    rintro σ1 h1 _ ⟨hjn, τ1, hw⟩
    refine W_weak (nx' := 70) τ1 hw ?_
    clear hw
    have hw : IntKind.i64.wrap ((j : Int) + 1) = ((j + 1 : Nat) : Int) := by simp [IntKind.wrap_i64]; omega
    obtain ⟨A, k, hA⟩ : ∃ A k, p.m.L 1 = A ++ [k] := ⟨(p.m.L 1).dropLast, (p.m.L 1).getLast hf.l1, (List.dropLast_concat_getLast hf.l1).symm⟩
    obtain ⟨c1, hf'⟩ := hf.hit hok (by omega) hA
    have hfit' : (p.hitP k 1).Fit2 (n + (j + 1)) := by
      have h1 := actP_fit hfit 2 k 1
      exact h1
    refine vc_sound hE 2 _ _ _ 70 ?_
    refine W_seq (nx := 70) ?_
    refine W_piece (nx := 70) (fun σ1 h1 _ => ∃ (bw : Nat) (f0 f1 f2 : Ent) (d0 d1 d2 : Nat), (lstE f0 (cI (p.m.L 0)) d0 ∧ lstE f1 (cI (p.m.L 1)) d1 ∧ lstE f2 (cI p.m.held) d2) ∧ ∃ τ, wk τ σ1 h1 [(1, .bool sq), (2, .int .u8 ht), (8, .ptr 8 0 0), (12, .int .i64 (j : Int)), (13, .ptr 73 0 0)] (HF2 bS bA bP bU s p bw p f0 f1 f2 d0 d1 d2)) ?_ ?_
    · refine vc_sound hE 60 _ _ _ 70 ?_
      refine ⟨p, rfl, ⟨bS, bA, bP, bU, s, hi, rfl, rfl, rfl, rfl, rfl⟩, rfl, rfl, rfl, fun f0 d0 f1 d1 f2 d2 hl0 hl1 hl2 => ?_⟩
      intro bw
      have v0 : live (HF2 bS bA bP bU s p bw p f0 f1 f2 d0 d1 d2) 70 := lst_live hl0
      have v1 : live (HF2 bS bA bP bU s p bw p f0 f1 f2 d0 d1 d2) 71 := lst_live hl1
      have v2 : live (HF2 bS bA bP bU s p bw p f0 f1 f2 d0 d1 d2) 72 := lst_live hl2
      refine ⟨bw, f0, f1, f2, d0, d1, d2, ⟨hl0, hl1, hl2⟩, tau [], rfl, (by repeat' (first | exact rfl | exact trivial | assumption | refine ⟨?_, ?_⟩)), HPW.wkIn rfl rfl rfl rfl rfl trivial trivial trivial ⟨⟨rfl, rfl, rfl, rfl, fun i c hi hc => ?_⟩, lst_wk hl0 _ _, lst_wk hl1 _ _, lst_wk hl2 _ _, trivial⟩⟩
      obtain rfl : i = 0 := (by have hi : i < 1 := hi; omega)
      match c, hc with
      | 0, _ => exact ⟨⟨rfl, v0⟩, rfl, rfl, rfl⟩
      | 1, _ => exact ⟨⟨rfl, v1⟩, rfl, rfl, rfl⟩
      | 2, _ => exact ⟨⟨rfl, v2⟩, rfl, rfl, rfl⟩
      | 3, _ => exact ⟨rfl, rfl⟩
      | 4, _ => exact ⟨rfl, rfl⟩
      | 5, _ => exact ⟨rfl, rfl⟩
    rintro σ1 h1 _ ⟨bw, f0, f1, f2, d0, d1, d2, ⟨hl0, hl1, hl2⟩, τ1, hw2⟩
    refine W_weak (nx' := 80) τ1 hw2 ?_
    clear hw2
    have hcl : (cI (p.m.L 1)).length = A.length + 1 := by rw [cI_len, hA]; simp
    have hA64 := hok.len (q := 1) (by omega)
    rw [hA, List.length_append, List.length_singleton] at hA64
    rcases hl1 with ⟨hnil, -, -⟩ | ⟨bl, g, ty, he, q1, q2, q3, q4⟩
    · exfalso; rw [hnil] at hcl; simp at hcl
    subst he
    have hwl : IntKind.i64.wrap (((cI (p.m.L 1)).length : Int) - 1) = (A.length : Int) := by rw [hcl]; simp only [IntKind.wrap_i64]; omega
    have hzj : addI 0 ((IntKind.i64.wrap (((cI (p.m.L 1)).length : Int) - 1))).toNat = A.length := by rw [hwl, Int.toNat_natCast, addI_eq, Nat.zero_add]
    refine vc_sound hE 90 _ _ _ 80 ?_
    (refine (?_ : br _ _ _); refine br_eqF (show ¬ ((cI (p.m.L 1)).length : Int) = 0 by rw [hcl]; omega) ?_)
    (refine (?_ : chk _ _); refine chk_ok (show (decide ((0 : Int) ≤ IntKind.i64.wrap (((cI (p.m.L 1)).length : Int) - 1)) && decide (IntKind.i64.wrap (((cI (p.m.L 1)).length : Int) - 1) < ((cI (p.m.L 1)).length : Int))) = true by rw [hwl]; simp only [Bool.and_eq_true, decide_eq_true_eq]; omega) ?_)
    (refine (?_ : chk _ _); refine chk_ok rfl ?_)
    (refine (?_ : chk _ _); refine chk_ok (Nat.ble_eq_true_of_le (show addI 0 ((IntKind.i64.wrap (((cI (p.m.L 1)).length : Int) - 1))).toNat * 1 + 0 + 1 ≤ d1 * 1 by rw [hzj]; omega)) ?_)
    have hg : g (addI 0 ((IntKind.i64.wrap (((cI (p.m.L 1)).length : Int) - 1))).toNat + 0 / 1) (0 % 1) = .int .i64 ((k : Nat) : Int) := by
      rw [hzj, show A.length + 0 / 1 = A.length by omega, show 0 % 1 = 0 by omega, q3 A.length (by omega), hA]
      simp [cI]
    (refine (?_ : chk _ _); refine chk_ok rfl ?_)
    rw [hg]
    refine ⟨_, p, p.hitP k 1, _, rfl, ⟨k, 1, rfl, hfit.fit (by omega), rfl, rfl⟩, bS, bA, bP, bU, s, hi, rfl, rfl, rfl, rfl, rfl, fun s' hN hi' => ?_⟩
    rw [c1]
    have hhn := (hitP_nb p k 1).1
    generalize p.hitP k 1 = p' at hf' hfit' hi' hhn ⊢
    have r2 : Ent.ro (some ⟨bA, 0, none⟩) s.N 5 (gA s'.u s'.d s'.l s'.lo s'.he) = Ent.ro (some ⟨bA, 0, none⟩) s'.N 5 (gA s'.u s'.d s'.l s'.lo s'.he) := by rw [hN]
    have r9 : Ent.ro (some ⟨bU, 0, none⟩) p.m.n 1 (gU p') = Ent.ro (some ⟨bU, 0, none⟩) p'.m.n 1 (gU p') := by rw [hhn]
    refine ⟨p', rfl, ⟨bS, bA, bP, bU, s', hi', rfl, r2, rfl, r9, rfl⟩, rfl, rfl, rfl, fun g0 x0 g1 x1 g2 x2 y0 y1 y2 => ?_⟩
    have hv : ((p'.hits : Nat) : Int) = IntKind.u64.wrap (IntKind.i64.wrap ((j : Int) + 1)) := by rw [hw, hf'.hits]; simp only [IntKind.wrap_u64]; omega
    (refine (?_ : br _ _ _); refine br_neF hv ?_)
    refine ⟨p', rfl, ⟨bS, bA, bP, bU, s', hi', rfl, r2, rfl, r9, rfl⟩, rfl, rfl, rfl, fun h0 z0 h1 z1 h2 z2 w0 w1 w2 => ?_⟩
    have hv2 : ((p'.want : Nat) : Int) = 0 := by rw [hf'.want]; rfl
    (refine (?_ : br _ _ _); refine br_neF hv2 ?_)
    exact ⟨H - (j + 1), _, _, by omega, ⟨j + 1, p', s', rfl, by omega, hi', hf', hfit', rfl, rfl⟩, tau [], rfl, ⟨rfl, ⟨rfl, rfl⟩, ⟨⟨rfl, trivial⟩, rfl, rfl⟩, ⟨rfl, hw⟩, trivial⟩, HPW.wkIn (rest := []) rfl (eA_N hN) rfl (eU_N hhn) rfl trivial trivial trivial trivial⟩
  rintro ⟨p, s⟩ ⟨hi, hf, hfit⟩
  have hi : Inv s p.m p.m.n := hi
  have hf : Fal n H z p := hf
  have hfit : p.Fit2 (n + H) := hfit
  obtain ⟨m1, m2, m3⟩ := hf.missed (by omega) (by omega)
  refine W_seq (nx := 70) ?_
  have hmm := (missP_m p 0).1
  refine W_ex (nx := 70) (fun s' : Sh => Inv s' (p.missP 0).m (p.missP 0).m.n) (fun _ => [(1, .bool sq), (2, .int .u8 ht), (8, .ptr 8 0 0)]) (fun s' => HPW bS bA bP bU s' (p.missP 0)) 70 ?_ ?_
  · refine vc_sound hE 60 _ _ _ 70 ?_
    refine ⟨_, p, p.missP 0, _, rfl, ⟨0, rfl, hfit.fit (by omega), rfl, rfl⟩, bS, bA, bP, bU, s, hi, rfl, rfl, rfl, rfl, rfl, fun s' hN hi' => ?_⟩
    exact ⟨s', hi', tau [], rfl, (by repeat' (first | exact rfl | exact trivial | assumption | refine ⟨?_, ?_⟩)), HPW.wkIn (rest := []) rfl (eA_N hN) rfl (eU_N (by rw [hmm])) rfl trivial trivial trivial trivial⟩
  rintro s' hi'
  have hi' : Inv s' (p.missP 0).m (p.missP 0).m.n := hi'
  generalize p.missP 0 = p' at m1 m2 m3 hmm hi' ⊢
  refine W_seq (nx := 70) ?_
  refine W_piece (nx := 70) (fun σ1 h1 _ => ∃ (bw : Nat) (f0 f1 f2 : Ent) (d0 d1 d2 : Nat), (lstE f0 (cI (p'.m.L 0)) d0 ∧ lstE f1 (cI (p'.m.L 1)) d1 ∧ lstE f2 (cI p'.m.held) d2) ∧ ∃ τ, wk τ σ1 h1 [(1, .bool sq), (2, .int .u8 ht), (15, .ptr 73 0 0)] (HF2 bS bA bP bU s' p' bw p' f0 f1 f2 d0 d1 d2)) ?_ ?_
  · refine vc_sound hE 60 _ _ _ 70 ?_
    refine ⟨p', rfl, ⟨bS, bA, bP, bU, s', hi', rfl, rfl, rfl, rfl, rfl⟩, rfl, rfl, rfl, fun f0 d0 f1 d1 f2 d2 hl0 hl1 hl2 => ?_⟩
    intro bw
    have v0 : live (HF2 bS bA bP bU s' p' bw p' f0 f1 f2 d0 d1 d2) 70 := lst_live hl0
    have v1 : live (HF2 bS bA bP bU s' p' bw p' f0 f1 f2 d0 d1 d2) 71 := lst_live hl1
    have v2 : live (HF2 bS bA bP bU s' p' bw p' f0 f1 f2 d0 d1 d2) 72 := lst_live hl2
    refine ⟨bw, f0, f1, f2, d0, d1, d2, ⟨hl0, hl1, hl2⟩, tau [], rfl, (by repeat' (first | exact rfl | exact trivial | assumption | refine ⟨?_, ?_⟩)), HPW.wkIn rfl rfl rfl rfl rfl trivial trivial trivial ⟨⟨rfl, rfl, rfl, rfl, fun i c hi hc => ?_⟩, lst_wk hl0 _ _, lst_wk hl1 _ _, lst_wk hl2 _ _, trivial⟩⟩
    obtain rfl : i = 0 := (by have hi : i < 1 := hi; omega)
    match c, hc with
    | 0, _ => exact ⟨⟨rfl, v0⟩, rfl, rfl, rfl⟩
    | 1, _ => exact ⟨⟨rfl, v1⟩, rfl, rfl, rfl⟩
    | 2, _ => exact ⟨⟨rfl, v2⟩, rfl, rfl, rfl⟩
    | 3, _ => exact ⟨rfl, rfl⟩
    | 4, _ => exact ⟨rfl, rfl⟩
    | 5, _ => exact ⟨rfl, rfl⟩
  rintro σ1 h1 _ ⟨bw, f0, f1, f2, d0, d1, d2, ⟨hl0, hl1, hl2⟩, τ1, hw2⟩
  refine W_weak (nx' := 80) τ1 hw2 ?_
  clear hw2
  refine W_seq (nx := 80) ?_
  have e5 : IntKind.u64.wrap (Int.tmod (IntKind.i64.wrap ht) 60) = (H : Int) := by rw [e2]; simp only [IntKind.wrap_u64]; omega
  have v0 : live (HF2 bS bA bP bU s' p' bw p' f0 f1 f2 d0 d1 d2) 70 := lst_live hl0
  have v1 : live (HF2 bS bA bP bU s' p' bw p' f0 f1 f2 d0 d1 d2) 71 := lst_live hl1
  have v2 : live (HF2 bS bA bP bU s' p' bw p' f0 f1 f2 d0 d1 d2) 72 := lst_live hl2
  have hwF : wkH (tau []) (HF2 bS bA bP bU s' p' bw p' f0 f1 f2 d0 d1 d2) (HF2 bS bA bP bU s' p' bw p' f0 f1 f2 d0 d1 d2) (HF2 bS bA bP bU s' p' bw p' f0 f1 f2 d0 d1 d2) := HPW.wkIn rfl rfl rfl rfl rfl trivial trivial trivial ⟨eW_wk v0 v1 v2, lst_wk hl0 _ _, lst_wk hl1 _ _, lst_wk hl2 _ _, trivial⟩
  refine W_to (nx := 80) [(1, .bool sq), (15, .ptr 73 0 0), (16, .int .u64 H)] (HF2 bS bA bP bU s' p' bw p' f0 f1 f2 d0 d1 d2) 80 ?_ ?_
  · refine vc_sound hE 60 _ _ _ 80 ?_
    exact ⟨tau [], rfl, ⟨rfl, ⟨⟨rfl, trivial⟩, rfl, rfl⟩, ⟨rfl, e5⟩, trivial⟩, hwF⟩
  refine W_seq (nx := 80) ?_
  refine W_to (nx := 80) [(15, .ptr 73 0 0), (16, .int .u64 H), (17, .bool (decide (H = 0 ∨ sq = false)))] (HF2 bS bA bP bU s' p' bw p' f0 f1 f2 d0 d1 d2) 80 ?_ ?_
  · refine vc_sound hE 60 _ _ _ 80 ?_
    (refine (?_ : br _ _ _); refine br_eq (fun q => ?_) (fun q => ?_))
    · have q : (H : Int) = 0 := q
      exact ⟨tau [], rfl, ⟨⟨⟨rfl, trivial⟩, rfl, rfl⟩, ⟨rfl, rfl⟩, (show true = decide (H = 0 ∨ sq = false) from (decide_eq_true (.inl (by omega))).symm), trivial⟩, hwF⟩
    · have q : ¬ (H : Int) = 0 := q
      cases sq with
      | true => exact ⟨tau [], rfl, ⟨⟨⟨rfl, trivial⟩, rfl, rfl⟩, ⟨rfl, rfl⟩, (show false = decide (H = 0 ∨ true = false) from (decide_eq_false (by simp; omega)).symm), trivial⟩, hwF⟩
      | false => exact ⟨tau [], rfl, ⟨⟨⟨rfl, trivial⟩, rfl, rfl⟩, ⟨rfl, rfl⟩, (show true = decide (H = 0 ∨ false = false) from (decide_eq_true (.inr rfl)).symm), trivial⟩, hwF⟩
  have hv1 : ((p'.miss : Nat) : Int) = 1 := by rw [m2]; rfl
  have hv2 : ((p'.hits : Nat) : Int) = H := by rw [m3]
  cases hd : decide (H = 0 ∨ sq = false) with
  | true =>
    have hx := of_decide_eq_true hd
    have hv3 : ((p'.want : Nat) : Int) = 1 := by
      rw [m1, hz]
      rcases hx with hx | hx
      · rw [hx, Nat.zero_mul]; rfl
      · rw [hx, if_neg (show ¬ false = true by decide), Nat.mul_zero]; rfl
    refine vc_sound hE 60 _ _ _ 80 ?_
    (refine (?_ : br _ _ _); refine br_eqT hv1 ?_)
    (refine (?_ : br _ _ _); refine br_eqT hv2 ?_)
    (refine (?_ : br _ _ _); refine br_eqT hv3 ?_)
    rfl
  | false =>
    have hx := of_decide_eq_false hd
    have hv3 : ((p'.want : Nat) : Int) = 0 := by
      rw [m1, hz]
      have h1 : H ≠ 0 := fun e => hx (.inl e)
      have h2 : sq = true := by cases sq with | true => rfl | false => exact absurd (.inr rfl) hx
      rw [h2, if_pos rfl, Nat.mul_one, if_neg h1]; rfl
    refine vc_sound hE 60 _ _ _ 80 ?_
    (refine (?_ : br _ _ _); refine br_eqT hv1 ?_)
    (refine (?_ : br _ _ _); refine br_eqT hv2 ?_)
    have e6 : (((p'.want : Nat) : Int) == 0) = true := by rw [hv3]; rfl
    exact congrArg (fun b => Out.ret (V.bool b)) e6

def sFalls : Spec := fun args h nx K => ∃ (fr ht : Int) (sq : Bool), args = [.int .u8 fr, .bool sq, .int .u8 ht] ∧ h = [(1000, eB)] ∧ (0 ≤ fr ∧ fr ≤ 255) ∧ (0 ≤ ht ∧ ht ≤ 255) ∧ K (.ret (.bool true)) h nx
theorem sFalls_ok : SpecOK Tryd.prog 8 sFalls := by
  refine specOK_read (fn := Tryd.f8) rfl rfl rfl T_ok (SP := SPL5) spl5 0 _ ?_
  rintro args h nx K ⟨fr, ht, sq, rfl, rfl, hfr, hht, hk⟩
  refine ⟨[(1000, eB)], ⟨fun i c hi hc => trivial, trivial⟩, ⟨⟨rfl, _, _, _, _, rfl⟩, trivial⟩, ⟨trivial, trivial, trivial, trivial⟩, by simp [Tryd.f8], fun o => o = .ret (.bool true), ?_, ?_⟩
  · rintro o rfl
    exact ⟨trivial, hk⟩
  · intro c hc
    obtain ⟨cd, h1, h2⟩ := falls_walk hc (sq := sq) hfr hht
    cases h1
    exact h2
end Go.Proofs.YtiihiifcnkfjoaaDoor.Sx
