import Derived.Test.YtiihiifcnkfjoaaDoorSxGB
/-
  The document's policy: Enter, Ready, Gone.
-/
namespace Go.Proofs.YtiihiifcnkfjoaaDoor.Sx
open Go Go.Proofs
set_option maxRecDepth 100000
set_option linter.unusedSimpArgs false
set_option linter.unusedVariables false

theorem inB_lies {p : Pol} {f : Int} (h : p.inB f = true) : p.m.lies f = 0 := by
  unfold Pol.inB Md.whI at h
  split at h
  · assumption
  · cases h
theorem mem_at {m : Md} {q k : Nat} (hq : q < 2) (h : k ∈ m.L q) : m.at k ≠ none := by
  unfold Md.at
  by_cases h0 : k ∈ m.L 0
  · rw [if_pos h0]; simp
  · rw [if_neg h0]
    obtain rfl : q = 1 := by
      rcases (show q = 0 ∨ q = 1 by omega) with rfl | rfl
      · exact absurd h h0
      · rfl
    rw [if_pos h]; simp
theorem lies_front {m : Md} {l f : Int} (hl : rightB l = true) (hf : m.isN f = true) : (m.frontI l f).lies f = 0 := by
  obtain ⟨j, rfl, hj⟩ := isN_nat hf
  obtain ⟨q, rfl, hq⟩ := right_nat hl
  have e : m.frontI q j = m.front q j := by unfold Md.frontI; rw [if_pos ⟨hl, hf⟩]; rfl
  unfold Md.lies
  have hn : (m.frontI q j).isN j = true := by unfold Md.isN; rw [front_nb.1]; exact hf
  rw [if_neg (by rw [hn]; decide), if_neg]
  rw [Int.toNat_natCast]
  refine mem_at hq ?_
  rw [e]
  unfold Md.front
  rw [Md.set_at]
  exact List.mem_cons_self ..
theorem held_mem {m : Md} {j : Nat} (hj : j < m.n) : (j : Int) ∈ cI m.held ↔ m.H j = true := by
  rw [mem_c]
  unfold Md.held
  simp [hj]
theorem mayI_nat {p : Pol} {f l : Int} (h : p.mayI f l = true) : (∃ j : Nat, f = j ∧ j < p.m.n) ∧ rightB l = true ∧ p.m.isN f = true := by
  unfold Pol.mayI at h
  simp only [Bool.and_eq_true] at h
  exact ⟨isN_nat h.1, h.2, h.1⟩

abbrev RFr : Spec := fun args h nx K => ∃ p rest m m' v, args = p :: rest ∧ preRFront rest m m' v ∧ rMut h nx K p m m' v
abbrev RHo : Spec := fun args h nx K => ∃ p rest m m' v, args = p :: rest ∧ preRHold rest m m' v ∧ rMut h nx K p m m' v
abbrev RDr : Spec := fun args h nx K => ∃ p rest m m' v, args = p :: rest ∧ preRDrop rest m m' v ∧ rMut h nx K p m m' v

/-- The uses with one more: how a walk ends. -/
theorem RsOut.one {bQ bR bH : Nat} {X0 X1 e0 e1 eU e' : Ent} {c0 c1 cU : Nat} {p q : Pol} {x : Nat} (h : Hp) (x0 : XL X0 e0 (q.m.L 0) c0) (x1 : XL X1 e1 (q.m.L 1) c1) (hn : q.m.n = p.m.n) (hb : q.m.b = p.m.b) (hB : sameB eU e') (hl : lstE e' (q.us ++ [(x : Int)]) cU) (g : Nat → Nat → V)
    (hg : ∀ c, c < 5 → g 0 c = gQ { q with R := x :: q.R } 42 cU 0 c) (f1 : fd 3000 h = .blk bQ 1 5 g 66) (f2 : fd 2000 h = .blk bR 1 5 (gF q.m.n q.m.b 40 (q.m.L 0).length c0 41 (q.m.L 1).length c1 2003) 68) (f3 : fd 2003 h = .blk bH q.m.n 1 (gb q.m.H) 4) (f4 : fd 40 h = X0) (f5 : fd 41 h = X1) (f6 : fd 42 h = e') :
    RsOut h bQ bR bH e0 e1 eU p { q with R := x :: q.R } :=
  ⟨_, _, _, c0, c1, 42, cU, f1, hg, f2, fun c _ => by rw [hn, hb], by rw [f3, hn], fun i _ => rfl, by rw [f4]; exact x0, by rw [f5]; exact x1, .inl ⟨rfl, by rw [f6]; exact hB, by rw [f6, us_cons]; exact hl⟩⟩
theorem RsOut.new {bQ bR bH : Nat} {X0 X1 e0 e1 eU e' : Ent} {c0 c1 tU cU' : Nat} {p q : Pol} {x : Nat} (h : Hp) (x0 : XL X0 e0 (q.m.L 0) c0) (x1 : XL X1 e1 (q.m.L 1) c1) (hn : q.m.n = p.m.n) (hb : q.m.b = p.m.b) (ht : 50 ≤ tU ∧ tU < 2000) (hl : blkL e' (q.us ++ [(x : Int)]) cU') (g : Nat → Nat → V)
    (hg : ∀ c, c < 5 → g 0 c = gQ { q with R := x :: q.R } tU cU' 0 c) (f1 : fd 3000 h = .blk bQ 1 5 g 66) (f2 : fd 2000 h = .blk bR 1 5 (gF q.m.n q.m.b 40 (q.m.L 0).length c0 41 (q.m.L 1).length c1 2003) 68) (f3 : fd 2003 h = .blk bH q.m.n 1 (gb q.m.H) 4) (f4 : fd 40 h = X0) (f5 : fd 41 h = X1) (f6 : fd 42 h = eU) (f7 : fd tU h = e') :
    RsOut h bQ bR bH e0 e1 eU p { q with R := x :: q.R } :=
  ⟨_, _, _, c0, c1, tU, cU', f1, hg, f2, fun c _ => by rw [hn, hb], by rw [f3, hn], fun i _ => rfl, by rw [f4]; exact x0, by rw [f5]; exact x1, .inr ⟨ht.1, ht.2, f6, by rw [f7, us_cons]; exact hl⟩⟩

def preQEnter : List V → Pol → Pol → V → Prop := fun rest p p' v => ∃ f l : Int, rest = [.int .i64 f, .int .i64 l] ∧ Ok p.m ∧ p.R.length ≤ 100000 ∧ p' = p.enterP f l ∧ v = .int .i64 (p.enterC f l)
abbrev QEnter : Spec := fun args h nx K => ∃ rest p p' v, args = .ptr 3000 0 0 :: rest ∧ preQEnter rest p p' v ∧ rsMut h nx K p p' v
def SPQE : SpT := [(50, sQMay), (39, sQIn), (51, RFr), (52, RHo)]
theorem spqe : ∀ p ∈ SPQE, SpecOK Tryd.prog p.1 p.2 := consSP sQMay_ok (consSP sQIn_ok (consSP rfront_ok (consSP rhold_ok noSP)))
theorem enterP_nb (p : Pol) (f l : Int) : (p.enterP f l).m.n = p.m.n ∧ (p.enterP f l).m.b = p.m.b := by
  unfold Pol.enterP
  split
  · exact ⟨hold_nb.1.trans front_nb.1, hold_nb.2.trans front_nb.2⟩
  · exact ⟨rfl, rfl⟩
theorem qenter_ok : SpecOK Tryd.prog 29 QEnter := by
  refine specOK_rs (fn := Tryd.f29) rfl rfl rfl (SP := SPQE) spqe preQEnter ?_ ?_
  · rintro rest p p' v ⟨f, l, rfl, _, _, rfl, rfl⟩
    exact ⟨⟨trivial, trivial, trivial⟩, trivial, (enterP_nb p f l).1, (enterP_nb p f l).2, by simp [Tryd.f29]⟩
  rintro rest p p' v bQ bR bH e0 e1 eU c0 c1 cU c ⟨f, l, rfl, hok, hfew, rfl, rfl⟩ hl hc
  have hE := mkE' (fn := Tryd.f29) (R := fun o h1 _ => o = .ret (.int .i64 (p.enterC f l)) ∧ RsOut h1 bQ bR bH e0 e1 eU p (p.enterP f l)) hc spqe
  have x0 : XL e0.toRo e0 (p.m.L 0) c0 := .inl ⟨rfl, hl.l0⟩
  have x1 : XL e1.toRo e1 (p.m.L 1) c1 := .inl ⟨rfl, hl.l1⟩
  have hwk := HQ.wk (bQ := bQ) (bR := bR) (bH := bH) x0 x1 hl.lU
  have hr : rQ (HQ bQ bR bH e0.toRo e1.toRo eU c0 c1 cU p) p := HQ.r hl (.inr rfl) (.inr rfl)
  have same : p.enterP f l = p → RsOut (HQ bQ bR bH e0.toRo e1.toRo eU c0 c1 cU p) bQ bR bH e0 e1 eU p (p.enterP f l) := fun e => by rw [e]; exact HQ.out x0 x1 hl.lU rfl rfl rfl
  refine W_seq (nx := 0) ?_
  refine W_to (nx := 0) [(0, .ptr 3000 0 0), (1, .int .i64 f), (2, .int .i64 l)] (HQ bQ bR bH e0.toRo e1.toRo eU c0 c1 cU p) 60 ?_ ?_
  · refine vc_sound hE 20 _ _ _ 60 ?_
    exact ⟨tau [], rfl, (by repeat' (first | exact rfl | exact trivial | assumption | refine ⟨?_, ?_⟩)), hwk⟩
  refine W_seq (nx := 60) ?_
  refine W_piece (nx := 60) (fun σ1 h1 _ => p.mayI f l = true ∧ ∃ τ, wk τ σ1 h1 [(0, .ptr 3000 0 0), (1, .int .i64 f), (2, .int .i64 l)] (HQ bQ bR bH e0.toRo e1.toRo eU c0 c1 cU p)) ?_ ?_
  · refine vc_sound hE 60 _ _ _ 60 ?_
    refine ⟨p, f, l, rfl, hr, ?_⟩
    (refine (?_ : br _ _ _); refine br_not (br_both (fun q => ?_) (fun q => ?_)))
    · have q : p.mayI f l = true := q
      exact ⟨q, tau [], rfl, (by repeat' (first | exact rfl | exact trivial | assumption | refine ⟨?_, ?_⟩)), hwk⟩
    · have q : p.mayI f l = false := q
      exact ⟨outI (by rw [Pol.enterC, if_pos q]), same (by rw [Pol.enterP, if_neg (by rw [q]; simp)])⟩
  rintro σ1 h1 _ ⟨hmay, τ1, hw1⟩
  refine W_weak (nx' := 60) τ1 hw1 ?_
  clear hw1 τ1 σ1 h1
  obtain ⟨⟨j, rfl, hj⟩, hlr, hfn⟩ := mayI_nat hmay
  refine W_seq (nx := 60) ?_
  refine W_piece (nx := 60) (fun σ1 h1 _ => p.inB j = false ∧ ∃ τ, wk τ σ1 h1 [(0, .ptr 3000 0 0), (1, .int .i64 j), (2, .int .i64 l)] (HQ bQ bR bH e0.toRo e1.toRo eU c0 c1 cU p)) ?_ ?_
  · refine vc_sound hE 60 _ _ _ 60 ?_
    refine ⟨p, j, rfl, hr, hok, ?_⟩
    (refine (?_ : br _ _ _); refine br_both (fun q => ?_) (fun q => ?_))
    · have q : p.inB j = true := q
      exact ⟨outI (by rw [Pol.enterC, if_neg (by rw [hmay]; simp), if_pos q]), same (by rw [Pol.enterP, if_neg (by rw [q]; simp)])⟩
    · have q : p.inB j = false := q
      exact ⟨q, tau [], rfl, (by repeat' (first | exact rfl | exact trivial | assumption | refine ⟨?_, ?_⟩)), hwk⟩
  rintro σ1 h1 _ ⟨hin, τ1, hw1⟩
  refine W_weak (nx' := 60) τ1 hw1 ?_
  clear hw1 τ1 σ1 h1
  -- the shelf: in front
  refine W_seq (nx := 60) ?_
  obtain ⟨m1, hm1⟩ : ∃ m1, m1 = p.m.frontI l j := ⟨_, rfl⟩
  have hn1 : m1.n = p.m.n := by rw [hm1]; exact front_nb.1
  have hb1 : m1.b = p.m.b := by rw [hm1]; exact front_nb.2
  have hok1 : Ok m1 := by rw [hm1]; exact hok.front l j
  refine W_ex (nx := 60) (fun (a : Ent × Ent × Nat × Nat) => XL a.1 e0 (m1.L 0) a.2.2.1 ∧ XL a.2.1 e1 (m1.L 1) a.2.2.2) (fun _ => [(0, .ptr 3000 0 0), (1, .int .i64 j)]) (fun a => HQ bQ bR bH a.1 a.2.1 eU a.2.2.1 a.2.2.2 cU (p.withM m1)) 60 ?_ ?_
  · refine vc_sound hE 60 _ _ _ 60 ?_
    refine ⟨_, _, p.m, m1, _, rfl, ⟨l, j, rfl, hok, hm1, rfl⟩, HQ.mut x0 x1 hl.lU hn1 ⟨by omega, by omega⟩ fun h2 X0' X1' c0' c1' t0' t1' y0 y1 hnd hwk2 => ?_⟩
    exact ⟨(X0', X1', c0', c1'), ⟨y0, y1⟩, tau [(40, t0'), (41, t1')], hnd, (by repeat' (first | exact rfl | exact trivial | assumption | refine ⟨?_, ?_⟩)), hwk2⟩
  rintro ⟨X0, X1, d0, d1⟩ ⟨y0, y1⟩
  have y0 : XL X0 e0 (m1.L 0) d0 := y0
  have y1 : XL X1 e1 (m1.L 1) d1 := y1
  show W _ _ _ (HQ bQ bR bH X0 X1 eU d0 d1 cU (p.withM m1)) 60
  -- held
  refine W_seq (nx := 60) ?_
  obtain ⟨m2, hm2⟩ : ∃ m2, m2 = m1.holdI j true := ⟨_, rfl⟩
  have hn2 : m2.n = p.m.n := by rw [hm2]; exact hold_nb.1.trans hn1
  have hb2 : m2.b = p.m.b := by rw [hm2]; exact hold_nb.2.trans hb1
  refine W_ex (nx := 60) (fun (a : Ent × Ent × Nat × Nat) => XL a.1 e0 (m2.L 0) a.2.2.1 ∧ XL a.2.1 e1 (m2.L 1) a.2.2.2) (fun _ => [(0, .ptr 3000 0 0), (1, .int .i64 j)]) (fun a => HQ bQ bR bH a.1 a.2.1 eU a.2.2.1 a.2.2.2 cU (p.withM m2)) 60 ?_ ?_
  · refine vc_sound hE 60 _ _ _ 60 ?_
    refine ⟨_, _, m1, m2, _, rfl, ⟨j, true, rfl, hok1, hm2, rfl⟩, HQ.mut (p := p.withM m1) y0 y1 hl.lU (hn2.trans hn1.symm) ⟨by omega, by omega⟩ fun h2 X0' X1' c0' c1' t0' t1' z0 z1 hnd hwk2 => ?_⟩
    exact ⟨(X0', X1', c0', c1'), ⟨z0, z1⟩, tau [(40, t0'), (41, t1')], hnd, (by repeat' (first | exact rfl | exact trivial | assumption | refine ⟨?_, ?_⟩)), hwk2⟩
  rintro ⟨X0, X1, d0, d1⟩ ⟨y0, y1⟩
  have y0 : XL X0 e0 (m2.L 0) d0 := y0
  have y1 : XL X1 e1 (m2.L 1) d1 := y1
  show W _ _ _ (HQ bQ bR bH X0 X1 eU d0 d1 cU (p.withM m2)) 60
  -- the uses
  have hP : p.enterP j l = { p.withM m2 with R := j :: (p.withM m2).R } := by
    unfold Pol.enterP
    rw [if_pos ⟨hmay, hin⟩, hm2, hm1]
    rfl
  have hC : p.enterC j l = 0 := by
    unfold Pol.enterC
    rw [if_neg (by rw [hmay]; simp), if_neg (by rw [hin]; simp)]
    exact lies_front hlr hfn
  rw [hP, hC] at hE ⊢
  refine vc_sound hE 60 _ _ _ 60 ?_
  intro b1
  refine putS_some rfl ?_
  refine vc_app (v := .slice 42 0 p.us.length cU) (u := .slice 60 0 1 1) rfl rfl ?_
  refine app_oneB intT hl.lU rfl (x := (j : Int)) (.inr ⟨60, 0, 1, _, 1, _, rfl, rfl, Nat.le_refl _, fun i hi => (by obtain rfl : i = 0 := (by simpa using hi); rfl)⟩) rfl (by rw [us_len]; omega) (fun e' hB hl' => ?_) (fun e' cp' hl' => ?_)
  · refine ⟨rfl, RsOut.one (q := p.withM m2) _ y0 y1 hn2 hb2 hB hl' _ (fun c hc => ?_) rfl rfl rfl rfl rfl rfl⟩
    match c, hc with
    | 0, _ => rfl
    | 1, _ => rfl
    | 2, _ => rfl
    | 3, _ => rfl
    | 4, _ => show V.slice 42 0 (p.us ++ [(j : Int)]).length cU = .slice 42 0 (Pol.us { p.withM m2 with R := j :: (p.withM m2).R }).length cU; rw [us_cons]; rfl
  · refine ⟨rfl, RsOut.new (tU := 61) (q := p.withM m2) _ y0 y1 hn2 hb2 ⟨by omega, by omega⟩ hl' _ (fun c hc => ?_) rfl rfl rfl rfl rfl rfl rfl⟩
    match c, hc with
    | 0, _ => rfl
    | 1, _ => rfl
    | 2, _ => rfl
    | 3, _ => rfl
    | 4, _ => show V.slice 61 0 (p.us ++ [(j : Int)]).length cp' = .slice 61 0 (Pol.us { p.withM m2 with R := j :: (p.withM m2).R }).length cp'; rw [us_cons]; rfl
end Go.Proofs.YtiihiifcnkfjoaaDoor.Sx

/-
  The document's policy: Ready, Gone, Hit, Miss_.
-/
namespace Go.Proofs.YtiihiifcnkfjoaaDoor.Sx
open Go Go.Proofs
set_option maxRecDepth 100000
set_option linter.unusedSimpArgs false
set_option linter.unusedVariables false

def preQReady : List V → Pol → Pol → V → Prop := fun rest p p' v => ∃ f : Int, rest = [.int .i64 f] ∧ Ok p.m ∧ p' = p.readyP f ∧ v = .int .i64 (p.readyC f)
abbrev QReady : Spec := fun args h nx K => ∃ rest p p' v, args = .ptr 3000 0 0 :: rest ∧ preQReady rest p p' v ∧ rsMut h nx K p p' v
theorem readyP_nb (p : Pol) (f : Int) : (p.readyP f).m.n = p.m.n ∧ (p.readyP f).m.b = p.m.b := by
  unfold Pol.readyP
  split
  · exact hold_nb
  · exact ⟨rfl, rfl⟩
theorem readyP_R (p : Pol) (f : Int) : (p.readyP f).R = p.R := by unfold Pol.readyP; split <;> rfl
theorem qready_ok : SpecOK Tryd.prog 30 QReady := by
  refine specOK_rs (fn := Tryd.f30) rfl rfl rfl (SP := SPQE) spqe preQReady ?_ ?_
  · rintro rest p p' v ⟨f, rfl, _, rfl, rfl⟩
    exact ⟨⟨trivial, trivial⟩, trivial, (readyP_nb p f).1, (readyP_nb p f).2, by simp [Tryd.f30]⟩
  rintro rest p p' v bQ bR bH e0 e1 eU c0 c1 cU c ⟨f, rfl, hok, rfl, rfl⟩ hl hc
  have hE := mkE' (fn := Tryd.f30) (R := fun o h1 _ => o = .ret (.int .i64 (p.readyC f)) ∧ RsOut h1 bQ bR bH e0 e1 eU p (p.readyP f)) hc spqe
  have x0 : XL e0.toRo e0 (p.m.L 0) c0 := .inl ⟨rfl, hl.l0⟩
  have x1 : XL e1.toRo e1 (p.m.L 1) c1 := .inl ⟨rfl, hl.l1⟩
  have hwk := HQ.wk (bQ := bQ) (bR := bR) (bH := bH) x0 x1 hl.lU
  have hr : rQ (HQ bQ bR bH e0.toRo e1.toRo eU c0 c1 cU p) p := HQ.r hl (.inr rfl) (.inr rfl)
  have same : p.readyP f = p → RsOut (HQ bQ bR bH e0.toRo e1.toRo eU c0 c1 cU p) bQ bR bH e0 e1 eU p (p.readyP f) := fun e => by rw [e]; exact HQ.out x0 x1 hl.lU rfl rfl rfl
  refine W_seq (nx := 0) ?_
  refine W_to (nx := 0) [(0, .ptr 3000 0 0), (1, .int .i64 f)] (HQ bQ bR bH e0.toRo e1.toRo eU c0 c1 cU p) 60 ?_ ?_
  · refine vc_sound hE 20 _ _ _ 60 ?_
    exact ⟨tau [], rfl, (by repeat' (first | exact rfl | exact trivial | assumption | refine ⟨?_, ?_⟩)), hwk⟩
  refine W_seq (nx := 60) ?_
  refine W_piece (nx := 60) (fun σ1 h1 _ => p.mayI f 0 = true ∧ ∃ τ, wk τ σ1 h1 [(0, .ptr 3000 0 0), (1, .int .i64 f)] (HQ bQ bR bH e0.toRo e1.toRo eU c0 c1 cU p)) ?_ ?_
  · refine vc_sound hE 60 _ _ _ 60 ?_
    refine ⟨p, f, 0, rfl, hr, ?_⟩
    (refine (?_ : br _ _ _); refine br_not (br_both (fun q => ?_) (fun q => ?_)))
    · have q : p.mayI f 0 = true := q
      exact ⟨q, tau [], rfl, (by repeat' (first | exact rfl | exact trivial | assumption | refine ⟨?_, ?_⟩)), hwk⟩
    · have q : p.mayI f 0 = false := q
      exact ⟨outI (by rw [Pol.readyC, if_pos q]), same (by rw [Pol.readyP, if_neg (by rw [q]; simp)])⟩
  rintro σ1 h1 _ ⟨hmay, τ1, hw1⟩
  refine W_weak (nx' := 60) τ1 hw1 ?_
  clear hw1 τ1 σ1 h1
  obtain ⟨⟨j, rfl, hj⟩, hlr, hfn⟩ := mayI_nat hmay
  refine W_seq (nx := 60) ?_
  refine W_piece (nx := 60) (fun σ1 h1 _ => p.inB j = true ∧ ∃ τ, wk τ σ1 h1 [(0, .ptr 3000 0 0), (1, .int .i64 j)] (HQ bQ bR bH e0.toRo e1.toRo eU c0 c1 cU p)) ?_ ?_
  · refine vc_sound hE 60 _ _ _ 60 ?_
    refine ⟨p, j, rfl, hr, hok, ?_⟩
    (refine (?_ : br _ _ _); refine br_not (br_both (fun q => ?_) (fun q => ?_)))
    · have q : p.inB j = true := q
      exact ⟨q, tau [], rfl, (by repeat' (first | exact rfl | exact trivial | assumption | refine ⟨?_, ?_⟩)), hwk⟩
    · have q : p.inB j = false := q
      exact ⟨outI (by rw [Pol.readyC, if_neg (by rw [hmay]; simp), if_pos q]), same (by rw [Pol.readyP, if_neg (by rw [q]; simp)])⟩
  rintro σ1 h1 _ ⟨hin, τ1, hw1⟩
  refine W_weak (nx' := 60) τ1 hw1 ?_
  clear hw1 τ1 σ1 h1
  refine W_seq (nx := 60) ?_
  refine W_piece (nx := 60) (fun σ1 h1 _ => p.m.H j = true ∧ ∃ τ, wk τ σ1 h1 [(0, .ptr 3000 0 0), (1, .int .i64 j)] (HQ bQ bR bH e0.toRo e1.toRo eU c0 c1 cU p)) ?_ ?_
  · refine vc_sound hE 60 _ _ _ 60 ?_
    have hz : addI 0 ((j : Int)).toNat = j := by rw [Int.toNat_natCast, addI_eq, Nat.zero_add]
    (refine (?_ : chk _ _); refine chk_ok (show (decide ((0 : Int) ≤ (j : Int)) && decide ((j : Int) < (p.m.n : Int))) = true by simp only [Bool.and_eq_true, decide_eq_true_eq]; omega) ?_)
    (refine (?_ : chk _ _); refine chk_ok rfl ?_)
    (refine (?_ : chk _ _); refine chk_ok (Nat.ble_eq_true_of_le (show addI 0 ((j : Int)).toNat * 1 + 0 + 1 ≤ p.m.n * 1 by rw [hz]; omega)) ?_)
    (refine (?_ : br _ _ _); refine br_not (br_both (fun q => ?_) (fun q => ?_)))
    · have q : p.m.H (addI 0 ((j : Int)).toNat) = true := q
      rw [hz] at q
      exact ⟨q, tau [], rfl, (by repeat' (first | exact rfl | exact trivial | assumption | refine ⟨?_, ?_⟩)), hwk⟩
    · have q : p.m.H (addI 0 ((j : Int)).toNat) = false := q
      rw [hz] at q
      have hno : ¬ (j : Int) ∈ cI p.m.held := by rw [held_mem hj, q]; simp
      exact ⟨outI (by rw [Pol.readyC, if_neg (by rw [hmay]; simp), if_neg (by rw [hin]; simp), if_neg hno]), same (by rw [Pol.readyP, if_neg (fun w => hno w.2.2)])⟩
  rintro σ1 h1 _ ⟨hH, τ1, hw1⟩
  refine W_weak (nx' := 60) τ1 hw1 ?_
  clear hw1 τ1 σ1 h1
  have hh : (j : Int) ∈ cI p.m.held := (held_mem hj).2 hH
  have hP : p.readyP j = p.withM (p.m.holdI j false) := by unfold Pol.readyP; rw [if_pos ⟨hmay, hin, hh⟩]
  have hC : p.readyC j = 0 := by unfold Pol.readyC; rw [if_neg (by rw [hmay]; simp), if_neg (by rw [hin]; simp), if_pos hh]; exact inB_lies hin
  rw [hP, hC] at hE ⊢
  obtain ⟨m1, hm1⟩ : ∃ m1, m1 = p.m.holdI j false := ⟨_, rfl⟩
  have hn1 : m1.n = p.m.n := by rw [hm1]; exact hold_nb.1
  have hb1 : m1.b = p.m.b := by rw [hm1]; exact hold_nb.2
  rw [← hm1] at hE ⊢
  refine W_seq (nx := 60) ?_
  refine W_ex (nx := 60) (fun (a : Ent × Ent × Nat × Nat) => XL a.1 e0 (m1.L 0) a.2.2.1 ∧ XL a.2.1 e1 (m1.L 1) a.2.2.2) (fun _ => [(0, .ptr 3000 0 0)]) (fun a => HQ bQ bR bH a.1 a.2.1 eU a.2.2.1 a.2.2.2 cU (p.withM m1)) 60 ?_ ?_
  · refine vc_sound hE 60 _ _ _ 60 ?_
    refine ⟨_, _, p.m, m1, _, rfl, ⟨j, false, rfl, hok, hm1, rfl⟩, HQ.mut x0 x1 hl.lU hn1 ⟨by omega, by omega⟩ fun h2 X0' X1' c0' c1' t0' t1' y0 y1 hnd hwk2 => ?_⟩
    exact ⟨(X0', X1', c0', c1'), ⟨y0, y1⟩, tau [(40, t0'), (41, t1')], hnd, (by repeat' (first | exact rfl | exact trivial | assumption | refine ⟨?_, ?_⟩)), hwk2⟩
  rintro ⟨X0, X1, d0, d1⟩ ⟨y0, y1⟩
  refine vc_sound hE 60 _ _ _ 60 ?_
  exact ⟨rfl, HQ.out (p := p) (p' := p.withM m1) y0 y1 hl.lU hn1 hb1 rfl⟩

def preQGone : List V → Pol → Pol → V → Prop := fun rest p p' v => ∃ f : Int, rest = [.int .i64 f] ∧ Ok p.m ∧ p' = p.withM (p.m.dropI f) ∧ v = .int .i64 (p.m.lies f)
abbrev QGone : Spec := fun args h nx K => ∃ rest p p' v, args = .ptr 3000 0 0 :: rest ∧ preQGone rest p p' v ∧ rsMut h nx K p p' v
theorem qgone_ok : SpecOK Tryd.prog 33 QGone := by
  refine specOK_rs (fn := Tryd.f33) rfl rfl rfl (SP := [(55, RDr)]) (consSP rdrop_ok noSP) preQGone ?_ ?_
  · rintro rest p p' v ⟨f, rfl, _, rfl, rfl⟩
    exact ⟨⟨trivial, trivial⟩, trivial, drop_nb.1, drop_nb.2, by simp [Tryd.f33]⟩
  rintro rest p p' v bQ bR bH e0 e1 eU c0 c1 cU c ⟨f, rfl, hok, rfl, rfl⟩ hl hc
  have hE := mkE' (fn := Tryd.f33) (R := fun o h1 _ => o = .ret (.int .i64 (p.m.lies f)) ∧ RsOut h1 bQ bR bH e0 e1 eU p (p.withM (p.m.dropI f))) hc (SP := [(55, RDr)]) (consSP rdrop_ok noSP)
  have x0 : XL e0.toRo e0 (p.m.L 0) c0 := .inl ⟨rfl, hl.l0⟩
  have x1 : XL e1.toRo e1 (p.m.L 1) c1 := .inl ⟨rfl, hl.l1⟩
  have hwk := HQ.wk (bQ := bQ) (bR := bR) (bH := bH) x0 x1 hl.lU
  obtain ⟨m1, hm1⟩ : ∃ m1, m1 = p.m.dropI f := ⟨_, rfl⟩
  have hn1 : m1.n = p.m.n := by rw [hm1]; exact drop_nb.1
  have hb1 : m1.b = p.m.b := by rw [hm1]; exact drop_nb.2
  rw [← hm1] at hE ⊢
  refine W_seq (nx := 0) ?_
  refine W_to (nx := 0) [(0, .ptr 3000 0 0), (1, .int .i64 f)] (HQ bQ bR bH e0.toRo e1.toRo eU c0 c1 cU p) 60 ?_ ?_
  · refine vc_sound hE 20 _ _ _ 60 ?_
    exact ⟨tau [], rfl, (by repeat' (first | exact rfl | exact trivial | assumption | refine ⟨?_, ?_⟩)), hwk⟩
  refine W_seq (nx := 60) ?_
  refine W_ex (nx := 60) (fun (a : Ent × Ent × Nat × Nat) => XL a.1 e0 (m1.L 0) a.2.2.1 ∧ XL a.2.1 e1 (m1.L 1) a.2.2.2) (fun _ => [(4, .int .i64 (p.m.lies f))]) (fun a => HQ bQ bR bH a.1 a.2.1 eU a.2.2.1 a.2.2.2 cU (p.withM m1)) 60 ?_ ?_
  · refine vc_sound hE 60 _ _ _ 60 ?_
    refine ⟨_, _, p.m, m1, _, rfl, ⟨f, rfl, hok, hm1, rfl⟩, HQ.mut x0 x1 hl.lU hn1 ⟨by omega, by omega⟩ fun h2 X0' X1' c0' c1' t0' t1' y0 y1 hnd hwk2 => ?_⟩
    exact ⟨(X0', X1', c0', c1'), ⟨y0, y1⟩, tau [(40, t0'), (41, t1')], hnd, (by repeat' (first | exact rfl | exact trivial | assumption | refine ⟨?_, ?_⟩)), hwk2⟩
  rintro ⟨X0, X1, d0, d1⟩ ⟨y0, y1⟩
  refine vc_sound hE 60 _ _ _ 60 ?_
  exact ⟨rfl, HQ.out (p := p) (p' := p.withM m1) y0 y1 hl.lU hn1 hb1 rfl⟩

def preQHit : List V → Pol → Pol → V → Prop := fun rest p p' v => ∃ f l : Int, rest = [.int .i64 f, .int .i64 l] ∧ Ok p.m ∧ p.Fit ∧ p' = p.hitP f l ∧ v = .int .i64 (p.hitC f l)
abbrev QHit : Spec := fun args h nx K => ∃ rest p p' v, args = .ptr 3000 0 0 :: rest ∧ preQHit rest p p' v ∧ rsMut h nx K p p' v
def preQMiss : List V → Pol → Pol → V → Prop := fun rest p p' v => ∃ l : Int, rest = [.int .i64 l] ∧ Ok p.m ∧ p.Fit ∧ p' = p.missP l ∧ v = .int .i64 (Pol.missC l)
abbrev QMiss : Spec := fun args h nx K => ∃ rest p p' v, args = .ptr 3000 0 0 :: rest ∧ preQMiss rest p p' v ∧ rsMut h nx K p p' v
end Go.Proofs.YtiihiifcnkfjoaaDoor.Sx

/-
  The document's policy: Hit, Miss_, Victim.
-/
namespace Go.Proofs.YtiihiifcnkfjoaaDoor.Sx
open Go Go.Proofs
set_option maxRecDepth 100000
set_option linter.unusedSimpArgs false
set_option linter.unusedVariables false

theorem weighP_mR (p : Pol) : p.weighP.m = p.m ∧ p.weighP.R = p.R := ⟨rfl, rfl⟩
theorem LQ.of {e0 e1 eU : Ent} {c0 c1 cU : Nat} {p p' : Pol} (hl : LQ e0 e1 eU c0 c1 cU p) (hm : p'.m = p.m) (hR : p'.R = p.R) : LQ e0 e1 eU c0 c1 cU p' := ⟨by rw [hm]; exact hl.l0, by rw [hm]; exact hl.l1, by rw [us_eq hR]; exact hl.lU⟩

def SPQH : SpT := [(50, sQMay), (53, sRWhere), (54, QW), (51, RFr)]
theorem spqh : ∀ p ∈ SPQH, SpecOK Tryd.prog p.1 p.2 := consSP sQMay_ok (consSP sRWhere_ok (consSP qweigh_ok (consSP rfront_ok noSP)))
theorem hitP_nb (p : Pol) (f l : Int) : (p.hitP f l).m.n = p.m.n ∧ (p.hitP f l).m.b = p.m.b := by
  unfold Pol.hitP
  split
  · refine ⟨front_nb.1.trans ?_, front_nb.2.trans ?_⟩ <;> rw [(hitW_m p f).1]
  · exact ⟨rfl, rfl⟩
theorem qhit_ok : SpecOK Tryd.prog 31 QHit := by
  refine specOK_rs (fn := Tryd.f31) rfl rfl rfl (SP := SPQH) spqh preQHit ?_ ?_
  · rintro rest p p' v ⟨f, l, rfl, _, _, rfl, rfl⟩
    exact ⟨⟨trivial, trivial, trivial⟩, trivial, (hitP_nb p f l).1, (hitP_nb p f l).2, by simp [Tryd.f31]⟩
  rintro rest p p' v bQ bR bH e0 e1 eU c0 c1 cU c ⟨f, l, rfl, hok, hfit, rfl, rfl⟩ hl hc
  have hE := mkE' (fn := Tryd.f31) (R := fun o h1 _ => o = .ret (.int .i64 (p.hitC f l)) ∧ RsOut h1 bQ bR bH e0 e1 eU p (p.hitP f l)) hc spqh
  have x0 : XL e0.toRo e0 (p.m.L 0) c0 := .inl ⟨rfl, hl.l0⟩
  have x1 : XL e1.toRo e1 (p.m.L 1) c1 := .inl ⟨rfl, hl.l1⟩
  have hh := hfit.hits
  have hmi := hfit.miss
  have hwk := HQ.wk (bQ := bQ) (bR := bR) (bH := bH) x0 x1 hl.lU
  have hr : rQ (HQ bQ bR bH e0.toRo e1.toRo eU c0 c1 cU p) p := HQ.r hl (.inr rfl) (.inr rfl)
  have same : p.hitP f l = p → RsOut (HQ bQ bR bH e0.toRo e1.toRo eU c0 c1 cU p) bQ bR bH e0 e1 eU p (p.hitP f l) := fun e => by rw [e]; exact HQ.out x0 x1 hl.lU rfl rfl rfl
  refine W_seq (nx := 0) ?_
  refine W_to (nx := 0) [(0, .ptr 3000 0 0), (1, .int .i64 f), (2, .int .i64 l)] (HQ bQ bR bH e0.toRo e1.toRo eU c0 c1 cU p) 60 ?_ ?_
  · refine vc_sound hE 20 _ _ _ 60 ?_
    exact ⟨tau [], rfl, (by repeat' (first | exact rfl | exact trivial | assumption | refine ⟨?_, ?_⟩)), hwk⟩
  refine W_seq (nx := 60) ?_
  refine W_piece (nx := 60) (fun σ1 h1 _ => p.mayI f l = true ∧ ∃ τ, wk τ σ1 h1 [(0, .ptr 3000 0 0), (1, .int .i64 f), (2, .int .i64 l)] (HQ bQ bR bH e0.toRo e1.toRo eU c0 c1 cU p)) ?_ ?_
  · refine vc_sound hE 60 _ _ _ 60 ?_
    refine ⟨p, f, l, rfl, hr, ?_⟩
    (refine (?_ : br _ _ _); refine br_not (br_both (fun q => ?_) (fun q => ?_)))
    · have q : p.mayI f l = true := q
      exact ⟨q, tau [], rfl, (by repeat' (first | exact rfl | exact trivial | assumption | refine ⟨?_, ?_⟩)), hwk⟩
    · have q : p.mayI f l = false := q
      exact ⟨outI (by rw [Pol.hitC, if_pos q]), same (by rw [Pol.hitP, if_neg (by rw [q]; simp)])⟩
  rintro σ1 h1 _ ⟨hmay, τ1, hw1⟩
  refine W_weak (nx' := 60) τ1 hw1 ?_
  clear hw1 τ1 σ1 h1
  obtain ⟨⟨j, rfl, hj⟩, hlr, hfn⟩ := mayI_nat hmay
  obtain ⟨O, hO⟩ : ∃ O, O = (p.m.whI j).1 := ⟨_, rfl⟩
  obtain ⟨Lw, hLw⟩ : ∃ O, O = (p.m.whI j).2.1 := ⟨_, rfl⟩
  obtain ⟨I, hI⟩ : ∃ O, O = p.inB j := ⟨_, rfl⟩
  refine W_seq (nx := 60) ?_
  refine W_to (nx := 60) [(0, .ptr 3000 0 0), (1, .int .i64 j), (2, .int .i64 l), (7, .int .i64 O), (8, .bool Lw), (9, .bool I)] (HQ bQ bR bH e0.toRo e1.toRo eU c0 c1 cU p) 60 ?_ ?_
  · refine vc_sound hE 60 _ _ _ 60 ?_
    refine ⟨_, p.m, j, rfl, hr.sh, hok, ?_⟩
    rw [← hO, ← hLw, show (p.m.whI j).2.2 = I from hI.symm]
    exact ⟨tau [], rfl, (by repeat' (first | exact rfl | exact trivial | assumption | refine ⟨?_, ?_⟩)), hwk⟩
  refine W_seq (nx := 60) ?_
  refine W_piece (nx := 60) (fun σ1 h1 _ => I = true ∧ ∃ τ, wk τ σ1 h1 [(0, .ptr 3000 0 0), (1, .int .i64 j), (2, .int .i64 l), (7, .int .i64 O), (8, .bool Lw)] (HQ bQ bR bH e0.toRo e1.toRo eU c0 c1 cU p)) ?_ ?_
  · refine vc_sound hE 60 _ _ _ 60 ?_
    (refine (?_ : br _ _ _); refine br_not (br_both (fun q => ?_) (fun q => ?_)))
    · exact ⟨q, tau [], rfl, (by repeat' (first | exact rfl | exact trivial | assumption | refine ⟨?_, ?_⟩)), hwk⟩
    · rw [hI] at q
      exact ⟨outI (by rw [Pol.hitC, if_neg (by rw [hmay]; simp), if_pos q]), same (by rw [Pol.hitP, if_neg (by rw [q]; simp)])⟩
  rintro σ1 h1 _ ⟨hin, τ1, hw1⟩
  refine W_weak (nx' := 60) τ1 hw1 ?_
  clear hw1 τ1 σ1 h1
  rw [hI] at hin
  refine W_seq (nx := 60) ?_
  have hWm := (hitW_m p j).1
  have hWR := (hitW_m p j).2
  obtain ⟨pw, hpw⟩ : ∃ pw, pw = p.hitW j := ⟨_, rfl⟩
  rw [← hpw] at hWm hWR
  have xw0 : XL e0.toRo e0 (pw.m.L 0) c0 := by rw [hWm]; exact x0
  have xw1 : XL e1.toRo e1 (pw.m.L 1) c1 := by rw [hWm]; exact x1
  have lw : lstE eU pw.us cU := by rw [us_eq hWR]; exact hl.lU
  refine W_to (nx := 60) [(0, .ptr 3000 0 0), (1, .int .i64 j), (2, .int .i64 l)] (HQ bQ bR bH e0.toRo e1.toRo eU c0 c1 cU pw) 60 ?_ ?_
  · by_cases hO1 : O = 1
    rotate_left
    · have e : pw = p := by rw [hpw]; exact if_neg (fun w => hO1 (hO.trans w.1))
      rw [e]
      refine vc_sound hE 60 _ _ _ 60 ?_
      (refine (?_ : br _ _ _); refine br_eqF hO1 ?_)
      exact ⟨tau [], rfl, (by repeat' (first | exact rfl | exact trivial | assumption | refine ⟨?_, ?_⟩)), hwk⟩
    cases Lw with
    | false =>
      have e : pw = p := by rw [hpw]; exact if_neg (fun w => by rw [← hLw] at w; cases w.2)
      rw [e]
      refine vc_sound hE 60 _ _ _ 60 ?_
      (refine (?_ : br _ _ _); refine br_eqT hO1 ?_)
      exact ⟨tau [], rfl, (by repeat' (first | exact rfl | exact trivial | assumption | refine ⟨?_, ?_⟩)), hwk⟩
    | true =>
    have e : pw = p.oneHit.weighP := by rw [hpw]; exact if_pos ⟨by rw [← hO]; exact hO1, hLw.symm⟩
    rw [e]
    refine vc_sound hE 9 _ _ _ 60 ?_
    (refine (?_ : br _ _ _); refine br_eqT hO1 ?_)
    refine W_seq (nx := 60) ?_
    have hw1 : IntKind.u64.wrap ((p.hits : Int) + 1) = ((p.hits + 1 : Nat) : Int) := by simp only [IntKind.wrap_u64]; omega
    refine W_to (nx := 60) [(0, .ptr 3000 0 0), (1, .int .i64 j), (2, .int .i64 l)] (HQ bQ bR bH e0.toRo e1.toRo eU c0 c1 cU p.oneHit) 60 ?_ ?_
    · refine vc_sound hE 60 _ _ _ 60 ?_
      refine ⟨tau [], rfl, (by repeat' (first | exact rfl | exact trivial | assumption | refine ⟨?_, ?_⟩)), HQ.wkQ (p := p) (p' := p.oneHit) x0 x1 hl.lU rfl rfl _ fun c hc => ?_⟩
      match c, hc with
      | 0, _ => rfl
      | 1, _ => rfl
      | 2, _ => rfl
      | 3, _ => exact congrArg (V.int .u64) hw1
      | 4, _ => rfl
    refine vc_sound hE 60 _ _ _ 60 ?_
    have hwa := hfit.want
    refine ⟨rfl, p.oneHit, bQ, bR, bH, e0, e1, eU, c0, c1, cU, hl.of rfl rfl, hok, (show p.miss ≤ 64 by omega), (show p.hits + 1 ≤ 64 by omega), hwa, rfl, rfl, toRo_toRo _, toRo_toRo _, rfl, rfl, ?_⟩
    exact ⟨tau [], rfl, (by repeat' (first | exact rfl | exact trivial | assumption | refine ⟨?_, ?_⟩)), HQ.wkQ (p := p.oneHit) (p' := p.oneHit.weighP) x0 x1 hl.lU rfl rfl _ fun c hc => rfl⟩
  -- the shelf: in front
  refine W_seq (nx := 60) ?_
  obtain ⟨m1, hm1⟩ : ∃ m1, m1 = p.m.frontI l j := ⟨_, rfl⟩
  have hn1 : m1.n = p.m.n := by rw [hm1]; exact front_nb.1
  have hb1 : m1.b = p.m.b := by rw [hm1]; exact front_nb.2
  refine W_ex (nx := 60) (fun (a : Ent × Ent × Nat × Nat) => XL a.1 e0 (m1.L 0) a.2.2.1 ∧ XL a.2.1 e1 (m1.L 1) a.2.2.2) (fun _ => [(0, .ptr 3000 0 0), (1, .int .i64 j)]) (fun a => HQ bQ bR bH a.1 a.2.1 eU a.2.2.1 a.2.2.2 cU (pw.withM m1)) 60 ?_ ?_
  · refine vc_sound hE 60 _ _ _ 60 ?_
    refine ⟨_, _, pw.m, m1, _, rfl, ⟨l, j, rfl, by rw [hWm]; exact hok, by rw [hWm]; exact hm1, rfl⟩, HQ.mut (p := pw) xw0 xw1 lw (by rw [hWm]; exact hn1) ⟨by omega, by omega⟩ fun h2 X0' X1' c0' c1' t0' t1' y0 y1 hnd hwk2 => ?_⟩
    exact ⟨(X0', X1', c0', c1'), ⟨y0, y1⟩, tau [(40, t0'), (41, t1')], hnd, (by repeat' (first | exact rfl | exact trivial | assumption | refine ⟨?_, ?_⟩)), hwk2⟩
  rintro ⟨X0, X1, d0, d1⟩ ⟨y0, y1⟩
  have y0 : XL X0 e0 (m1.L 0) d0 := y0
  have y1 : XL X1 e1 (m1.L 1) d1 := y1
  show W _ _ _ (HQ bQ bR bH X0 X1 eU d0 d1 cU (pw.withM m1)) 60
  have hP : p.hitP j l = { pw.withM m1 with R := j :: (pw.withM m1).R } := by
    unfold Pol.hitP
    rw [if_pos ⟨hmay, hin⟩, ← hpw]
    unfold Pol.frontP
    rw [hWm, ← hm1]
    rfl
  have hC : p.hitC j l = 0 := by
    unfold Pol.hitC
    rw [if_neg (by rw [hmay]; simp), if_neg (by rw [hin]; simp)]
  rw [hP, hC] at hE ⊢
  have hfew := hfit.few
  refine vc_sound hE 60 _ _ _ 60 ?_
  intro b1
  refine putS_some rfl ?_
  refine vc_app (v := .slice 42 0 pw.us.length cU) (u := .slice 60 0 1 1) rfl rfl ?_
  refine app_oneB intT lw rfl (x := (j : Int)) (.inr ⟨60, 0, 1, _, 1, _, rfl, rfl, Nat.le_refl _, fun i hi => (by obtain rfl : i = 0 := (by simpa using hi); rfl)⟩) rfl (by rw [us_len, hWR]; omega) (fun e' hB hl' => ?_) (fun e' cp' hl' => ?_)
  · refine ⟨rfl, RsOut.one (q := pw.withM m1) _ y0 y1 hn1 hb1 hB hl' _ (fun c hc => ?_) rfl rfl rfl rfl rfl rfl⟩
    match c, hc with
    | 0, _ => rfl
    | 1, _ => rfl
    | 2, _ => rfl
    | 3, _ => rfl
    | 4, _ => show V.slice 42 0 (pw.us ++ [(j : Int)]).length cU = .slice 42 0 (Pol.us { pw.withM m1 with R := j :: (pw.withM m1).R }).length cU; rw [us_cons]; rfl
  · refine ⟨rfl, RsOut.new (tU := 61) (q := pw.withM m1) _ y0 y1 hn1 hb1 ⟨by omega, by omega⟩ hl' _ (fun c hc => ?_) rfl rfl rfl rfl rfl rfl rfl⟩
    match c, hc with
    | 0, _ => rfl
    | 1, _ => rfl
    | 2, _ => rfl
    | 3, _ => rfl
    | 4, _ => show V.slice 61 0 (pw.us ++ [(j : Int)]).length cp' = .slice 61 0 (Pol.us { pw.withM m1 with R := j :: (pw.withM m1).R }).length cp'; rw [us_cons]; rfl

theorem missP_m (p : Pol) (l : Int) : (p.missP l).m = p.m ∧ (p.missP l).R = p.R := by unfold Pol.missP; split <;> exact ⟨rfl, rfl⟩
theorem qmiss_ok : SpecOK Tryd.prog 32 QMiss := by
  refine specOK_rs (fn := Tryd.f32) rfl rfl rfl (SP := [(54, QW)]) (consSP qweigh_ok noSP) preQMiss ?_ ?_
  · rintro rest p p' v ⟨l, rfl, _, _, rfl, rfl⟩
    exact ⟨⟨trivial, trivial⟩, trivial, by rw [(missP_m p l).1], by rw [(missP_m p l).1], by simp [Tryd.f32]⟩
  rintro rest p p' v bQ bR bH e0 e1 eU c0 c1 cU c ⟨l, rfl, hok, hfit, rfl, rfl⟩ hl hc
  have hE := mkE' (fn := Tryd.f32) (R := fun o h1 _ => o = .ret (.int .i64 (Pol.missC l)) ∧ RsOut h1 bQ bR bH e0 e1 eU p (p.missP l)) hc (SP := [(54, QW)]) (consSP qweigh_ok noSP)
  have x0 : XL e0.toRo e0 (p.m.L 0) c0 := .inl ⟨rfl, hl.l0⟩
  have x1 : XL e1.toRo e1 (p.m.L 1) c1 := .inl ⟨rfl, hl.l1⟩
  have hh := hfit.hits
  have hmi := hfit.miss
  have hwk := HQ.wk (bQ := bQ) (bR := bR) (bH := bH) x0 x1 hl.lU
  have same : p.missP l = p → RsOut (HQ bQ bR bH e0.toRo e1.toRo eU c0 c1 cU p) bQ bR bH e0 e1 eU p (p.missP l) := fun e => by rw [e]; exact HQ.out x0 x1 hl.lU rfl rfl rfl
  refine W_seq (nx := 0) ?_
  refine W_to (nx := 0) [(0, .ptr 3000 0 0), (1, .int .i64 l)] (HQ bQ bR bH e0.toRo e1.toRo eU c0 c1 cU p) 60 ?_ ?_
  · refine vc_sound hE 20 _ _ _ 60 ?_
    exact ⟨tau [], rfl, (by repeat' (first | exact rfl | exact trivial | assumption | refine ⟨?_, ?_⟩)), hwk⟩
  refine W_seq (nx := 60) ?_
  refine W_piece (nx := 60) (fun σ1 h1 _ => (l = 0 ∨ l = 1) ∧ ∃ τ, wk τ σ1 h1 [(0, .ptr 3000 0 0), (1, .int .i64 l)] (HQ bQ bR bH e0.toRo e1.toRo eU c0 c1 cU p)) ?_ ?_
  · refine vc_sound hE 60 _ _ _ 60 ?_
    (refine (?_ : br _ _ _); refine br_dec (fun q => ?_) (fun q => ?_))
    · have q1 : l < 0 := q
      exact ⟨outI (by rw [Pol.missC, if_neg (by omega)]), same (if_neg (by omega))⟩
    · have q1 : ¬ l < 0 := q
      (refine (?_ : br _ _ _); refine br_dec (fun q => ?_) (fun q => ?_))
      · have q2 : 1 < l := q
        exact ⟨outI (by rw [Pol.missC, if_neg (by omega)]), same (if_neg (by omega))⟩
      · have q2 : ¬ 1 < l := q
        exact ⟨by omega, tau [], rfl, (by repeat' (first | exact rfl | exact trivial | assumption | refine ⟨?_, ?_⟩)), hwk⟩
  rintro σ1 h1 _ ⟨hl01, τ1, hw1⟩
  refine W_weak (nx' := 60) τ1 hw1 ?_
  clear hw1 τ1 σ1 h1
  have hC : Pol.missC l = 0 := if_pos hl01
  rw [hC] at hE ⊢
  refine W_seq (nx := 60) ?_
  obtain ⟨pw, hpw⟩ : ∃ pw, pw = p.missP l := ⟨_, rfl⟩
  have hWm : pw.m = p.m := by rw [hpw]; exact (missP_m p l).1
  have hWR : pw.R = p.R := by rw [hpw]; exact (missP_m p l).2
  rw [← hpw] at hE ⊢
  refine W_to (nx := 60) [(0, .ptr 3000 0 0)] (HQ bQ bR bH e0.toRo e1.toRo eU c0 c1 cU pw) 60 ?_ ?_
  · by_cases h0 : l = 0
    rotate_left
    · have e : pw = p := by rw [hpw]; exact if_neg h0
      rw [e] at hE ⊢
      refine vc_sound hE 60 _ _ _ 60 ?_
      (refine (?_ : br _ _ _); refine br_eqF h0 ?_)
      exact ⟨tau [], rfl, (by repeat' (first | exact rfl | exact trivial | assumption | refine ⟨?_, ?_⟩)), hwk⟩
    have e : pw = p.oneMiss.weighP := by rw [hpw]; exact if_pos h0
    rw [e] at hE ⊢
    refine vc_sound hE 6 _ _ _ 60 ?_
    (refine (?_ : br _ _ _); refine br_eqT h0 ?_)
    refine W_seq (nx := 60) ?_
    have hw1 : IntKind.u64.wrap ((p.miss : Int) + 1) = ((p.miss + 1 : Nat) : Int) := by simp only [IntKind.wrap_u64]; omega
    refine W_to (nx := 60) [(0, .ptr 3000 0 0)] (HQ bQ bR bH e0.toRo e1.toRo eU c0 c1 cU p.oneMiss) 60 ?_ ?_
    · refine vc_sound hE 60 _ _ _ 60 ?_
      refine ⟨tau [], rfl, (by repeat' (first | exact rfl | exact trivial | assumption | refine ⟨?_, ?_⟩)), HQ.wkQ (p := p) (p' := p.oneMiss) x0 x1 hl.lU rfl rfl _ fun c hc => ?_⟩
      match c, hc with
      | 0, _ => rfl
      | 1, _ => rfl
      | 2, _ => exact congrArg (V.int .u64) hw1
      | 3, _ => rfl
      | 4, _ => rfl
    refine vc_sound hE 60 _ _ _ 60 ?_
    have hwa := hfit.want
    refine ⟨rfl, p.oneMiss, bQ, bR, bH, e0, e1, eU, c0, c1, cU, hl.of rfl rfl, hok, (show p.miss + 1 ≤ 64 by omega), (show p.hits ≤ 64 by omega), hwa, rfl, rfl, toRo_toRo _, toRo_toRo _, rfl, rfl, ?_⟩
    exact ⟨tau [], rfl, (by repeat' (first | exact rfl | exact trivial | assumption | refine ⟨?_, ?_⟩)), HQ.wkQ (p := p.oneMiss) (p' := p.oneMiss.weighP) x0 x1 hl.lU rfl rfl _ fun c hc => rfl⟩
  refine vc_sound hE 60 _ _ _ 60 ?_
  exact ⟨rfl, HQ.out (p := p) (p' := pw) (by rw [hWm]; exact x0) (by rw [hWm]; exact x1) hl.lU (by rw [hWm]) (by rw [hWm]) hWR⟩
end Go.Proofs.YtiihiifcnkfjoaaDoor.Sx

/-
  The document's policy: Victim.
-/
namespace Go.Proofs.YtiihiifcnkfjoaaDoor.Sx
open Go Go.Proofs
set_option maxRecDepth 100000
set_option linter.unusedSimpArgs false
set_option linter.unusedVariables false

def preQVic : List V → Pol → Pol → V → Prop := fun rest p p' v => rest = [] ∧ Ok p.m ∧ p.R.length ≤ 1000000 ∧ p' = p.vicP ∧ v = .tup [.int .i64 p.vicI.1, .bool p.vicI.2]
abbrev QVic : Spec := fun args h nx K => ∃ rest p p' v, args = .ptr 3000 0 0 :: rest ∧ preQVic rest p p' v ∧ rsMut h nx K p p' v
def SPQV : SpT := [(56, sRLast), (57, sQLast), (55, RDr)]
theorem spqv : ∀ p ∈ SPQV, SpecOK Tryd.prog p.1 p.2 := consSP sRLast_ok (consSP sQLast_ok (consSP rdrop_ok noSP))
theorem vicP_nb (p : Pol) : p.vicP.m.n = p.m.n ∧ p.vicP.m.b = p.m.b := by
  unfold Pol.vicP
  split
  · exact ⟨rfl, rfl⟩
  · exact drop_nb
theorem qvic_ok : SpecOK Tryd.prog 34 QVic := by
  refine specOK_rs (fn := Tryd.f34) rfl rfl rfl (SP := SPQV) spqv preQVic ?_ ?_
  · rintro rest p p' v ⟨rfl, _, _, rfl, rfl⟩
    exact ⟨trivial, ⟨trivial, trivial, trivial⟩, (vicP_nb p).1, (vicP_nb p).2, by simp [Tryd.f34]⟩
  rintro rest p p' v bQ bR bH e0 e1 eU c0 c1 cU c ⟨rfl, hok, hfew, rfl, rfl⟩ hl hc
  have hE := mkE' (fn := Tryd.f34) (R := fun o h1 _ => o = .ret (.tup [.int .i64 p.vicI.1, .bool p.vicI.2]) ∧ RsOut h1 bQ bR bH e0 e1 eU p p.vicP) hc spqv
  have x0 : XL e0.toRo e0 (p.m.L 0) c0 := .inl ⟨rfl, hl.l0⟩
  have x1 : XL e1.toRo e1 (p.m.L 1) c1 := .inl ⟨rfl, hl.l1⟩
  have hwk := HQ.wk (bQ := bQ) (bR := bR) (bH := bH) x0 x1 hl.lU
  have hr : rQ (HQ bQ bR bH e0.toRo e1.toRo eU c0 c1 cU p) p := HQ.r hl (.inr rfl) (.inr rfl)
  obtain ⟨A, hA⟩ : ∃ A, A = p.m.lastI 0 := ⟨_, rfl⟩
  obtain ⟨B, hB⟩ : ∃ B, B = p.m.lastI 1 := ⟨_, rfl⟩
  obtain ⟨a, x⟩ := A
  obtain ⟨b, y⟩ := B
  refine W_seq (nx := 0) ?_
  refine W_to (nx := 0) [(0, .ptr 3000 0 0)] (HQ bQ bR bH e0.toRo e1.toRo eU c0 c1 cU p) 60 ?_ ?_
  · refine vc_sound hE 20 _ _ _ 60 ?_
    exact ⟨tau [], rfl, (by repeat' (first | exact rfl | exact trivial | assumption | refine ⟨?_, ?_⟩)), hwk⟩
  refine W_seq (nx := 60) ?_
  refine W_to (nx := 60) [(0, .ptr 3000 0 0), (4, .int .i64 a), (5, .bool x)] (HQ bQ bR bH e0.toRo e1.toRo eU c0 c1 cU p) 60 ?_ ?_
  · refine vc_sound hE 60 _ _ _ 60 ?_
    refine ⟨_, p.m, 0, rfl, hr.sh, hok, ?_⟩
    exact ⟨tau [], rfl, ⟨⟨⟨rfl, trivial⟩, rfl, rfl⟩, ⟨rfl, congrArg (·.1) hA.symm⟩, (show (p.m.lastI 0).2 = x from congrArg (·.2) hA.symm), trivial⟩, hwk⟩
  refine W_seq (nx := 60) ?_
  refine W_to (nx := 60) [(0, .ptr 3000 0 0), (4, .int .i64 a), (5, .bool x), (6, .int .i64 b), (7, .bool y)] (HQ bQ bR bH e0.toRo e1.toRo eU c0 c1 cU p) 60 ?_ ?_
  · refine vc_sound hE 60 _ _ _ 60 ?_
    refine ⟨_, p.m, 1, rfl, hr.sh, hok, ?_⟩
    exact ⟨tau [], rfl, ⟨⟨⟨rfl, trivial⟩, rfl, rfl⟩, ⟨rfl, rfl⟩, rfl, ⟨rfl, congrArg (·.1) hB.symm⟩, (show (p.m.lastI 1).2 = y from congrArg (·.2) hB.symm), trivial⟩, hwk⟩
  by_cases hnone : x = false ∧ y = false
  · obtain ⟨rfl, rfl⟩ := hnone
    have hpk : p.pickI.2 = false := by unfold Pol.pickI; rw [← hA, if_pos rfl, ← hB]
    refine vc_sound hE 60 _ _ _ 60 ?_
    refine ⟨outIB (by rw [Pol.vicI, if_pos hpk]) (by rw [Pol.vicI, if_pos hpk]), ?_⟩
    rw [Pol.vicP, if_pos hpk]
    exact HQ.out x0 x1 hl.lU rfl rfl rfl
  have hsome : p.pickI.2 = true := by
    unfold Pol.pickI
    rw [← hA, ← hB]
    cases x with
    | false =>
      cases y with
      | false => exact absurd ⟨rfl, rfl⟩ hnone
      | true => rfl
    | true =>
      rw [if_neg (fun h : true = false => by cases h)]
      cases y with
      | false => rfl
      | true =>
        rw [if_neg (fun h : true = false => by cases h)]
        split
        · split <;> rfl
        · split <;> rfl
  obtain ⟨u, hu⟩ : ∃ u, u = p.pickI.1 := ⟨_, rfl⟩
  refine W_seq (nx := 60) ?_
  refine W_to (nx := 60) [(0, .ptr 3000 0 0), (4, .int .i64 a), (5, .bool x), (6, .int .i64 b), (7, .bool y)] (HQ bQ bR bH e0.toRo e1.toRo eU c0 c1 cU p) 60 ?_ ?_
  · cases x with
    | true =>
      refine vc_sound hE 60 _ _ _ 60 ?_
      exact ⟨tau [], rfl, (by repeat' (first | exact rfl | exact trivial | assumption | refine ⟨?_, ?_⟩)), hwk⟩
    | false =>
      cases y with
      | false => exact absurd ⟨rfl, rfl⟩ hnone
      | true =>
        refine vc_sound hE 60 _ _ _ 60 ?_
        exact ⟨tau [], rfl, (by repeat' (first | exact rfl | exact trivial | assumption | refine ⟨?_, ?_⟩)), hwk⟩
  refine W_seq (nx := 60) ?_
  refine W_to (nx := 60) [(0, .ptr 3000 0 0), (4, .int .i64 a), (5, .bool x), (6, .int .i64 b), (7, .bool y), (8, .int .i64 b)] (HQ bQ bR bH e0.toRo e1.toRo eU c0 c1 cU p) 60 ?_ ?_
  · refine vc_sound hE 60 _ _ _ 60 ?_
    exact ⟨tau [], rfl, (by repeat' (first | exact rfl | exact trivial | assumption | refine ⟨?_, ?_⟩)), hwk⟩
  refine W_seq (nx := 60) ?_
  refine W_to (nx := 60) [(0, .ptr 3000 0 0), (8, .int .i64 u)] (HQ bQ bR bH e0.toRo e1.toRo eU c0 c1 cU p) 60 ?_ ?_
  · cases x with
    | false =>
      have e : b = u := by rw [hu]; unfold Pol.pickI; rw [← hA, if_pos rfl, ← hB]
      refine vc_sound hE 60 _ _ _ 60 ?_
      exact ⟨tau [], rfl, ⟨⟨⟨rfl, trivial⟩, rfl, rfl⟩, ⟨rfl, e⟩, trivial⟩, hwk⟩
    | true =>
    cases y with
    | false =>
      have e : a = u := by rw [hu]; unfold Pol.pickI; rw [← hA, if_neg (fun h : true = false => by cases h), ← hB, if_pos rfl]
      refine vc_sound hE 60 _ _ _ 60 ?_
      exact ⟨tau [], rfl, ⟨⟨⟨rfl, trivial⟩, rfl, rfl⟩, ⟨rfl, e⟩, trivial⟩, hwk⟩
    | true =>
    obtain ⟨ja, ea, hja, _⟩ := hok.last (L := 0) (by rw [← hA])
    rw [← hA] at ea
    have ea : a = (ja : Int) := ea
    subst ea
    obtain ⟨jb, eb, hjb, _⟩ := hok.last (L := 1) (by rw [← hB])
    rw [← hB] at eb
    have eb : b = (jb : Int) := eb
    subst eb
    have hpick : p.pickI = if p.shortB = true then (if useN ja p.R < useN jb p.R then ((ja : Int), true) else ((jb : Int), true)) else if (p.want : Int) < p.m.lenI 0 then ((ja : Int), true) else ((jb : Int), true) := by
      unfold Pol.pickI
      rw [← hA, if_neg (fun h : true = false => by cases h), ← hB, if_neg (fun h : true = false => by cases h)]
      rfl
    -- short
    refine W_seq (nx := 60) ?_
    refine W_to (nx := 60) [(0, .ptr 3000 0 0), (4, .int .i64 ja), (5, .bool true), (6, .int .i64 jb), (7, .bool true), (8, .int .i64 jb), (35, .bool true)] (HQ bQ bR bH e0.toRo e1.toRo eU c0 c1 cU p) 60 ?_ ?_
    · refine vc_sound hE 60 _ _ _ 60 ?_
      exact ⟨tau [], rfl, (by repeat' (first | exact rfl | exact trivial | assumption | refine ⟨?_, ?_⟩)), hwk⟩
    refine vc_sound hE 1 _ _ _ 60 ?_
    refine W_seq (nx := 60) ?_
    obtain ⟨S, hS⟩ : ∃ S, S = p.shortB := ⟨_, rfl⟩
    refine W_to (nx := 60) [(0, .ptr 3000 0 0), (4, .int .i64 ja), (6, .int .i64 jb), (8, .int .i64 jb), (71, .bool S)] (HQ bQ bR bH e0.toRo e1.toRo eU c0 c1 cU p) 60 ?_ ?_
    · refine W_plan hE 60 99 (lineP 0 36 .done) (by rw [hc]; exact mix) (by kernel_rfl) 60 ?_
      repeat' (first | refine ⟨_, ⟨rfl, rfl⟩, ?_⟩ | fail)
      (refine (?_ : br _ _ _); refine br_dec (fun q => ?_) (fun q => ?_))
      · have q1 : ((p.m.L 0).length : Int) < (p.m.b : Int) := q
        repeat' (first | refine ⟨_, ⟨rfl, rfl⟩, ?_⟩ | fail)
        exact ⟨tau [], rfl, ⟨⟨⟨rfl, trivial⟩, rfl, rfl⟩, ⟨rfl, rfl⟩, ⟨rfl, rfl⟩, ⟨rfl, rfl⟩, (show true = S by rw [hS]; unfold Pol.shortB; exact (decide_eq_true (.inl q1)).symm), trivial⟩, hwk⟩
      · have q1 : ¬ ((p.m.L 0).length : Int) < (p.m.b : Int) := q
        repeat' (first | refine ⟨_, ⟨rfl, rfl⟩, ?_⟩ | fail)
        exact ⟨tau [], rfl, ⟨⟨⟨rfl, trivial⟩, rfl, rfl⟩, ⟨rfl, rfl⟩, ⟨rfl, rfl⟩, ⟨rfl, rfl⟩, (show decide (((p.m.L 1).length : Int) < (p.m.b : Int)) = S by rw [hS]; unfold Pol.shortB; exact decide_eq_decide.2 ⟨fun w => .inr w, fun w => w.resolve_left q1⟩), trivial⟩, hwk⟩
    cases S with
    | true =>
      rw [← hS, if_pos rfl] at hpick
      refine vc_sound hE 60 _ _ _ 60 ?_
      refine ⟨p, ja, rfl, hr, by omega, ?_⟩
      refine ⟨p, jb, rfl, hr, by omega, ?_⟩
      (refine (?_ : br _ _ _); refine br_dec (fun q => ?_) (fun q => ?_))
      · have q1 : ((useN ja p.R : Nat) : Int) - 1 < ((useN jb p.R : Nat) : Int) - 1 := q
        rw [if_pos (by omega)] at hpick
        exact ⟨tau [], rfl, ⟨⟨⟨rfl, trivial⟩, rfl, rfl⟩, ⟨rfl, by rw [hu, hpick]⟩, trivial⟩, hwk⟩
      · have q1 : ¬ ((useN ja p.R : Nat) : Int) - 1 < ((useN jb p.R : Nat) : Int) - 1 := q
        rw [if_neg (by omega)] at hpick
        exact ⟨tau [], rfl, ⟨⟨⟨rfl, trivial⟩, rfl, rfl⟩, ⟨rfl, by rw [hu, hpick]⟩, trivial⟩, hwk⟩
    | false =>
      rw [← hS, if_neg (fun h : false = true => by cases h)] at hpick
      refine vc_sound hE 60 _ _ _ 60 ?_
      refine W_plan hE 60 99 (lineP 0 14 .done) (by rw [hc]; exact mix) (by kernel_rfl) 60 ?_
      repeat' (first | refine ⟨_, ⟨rfl, rfl⟩, ?_⟩ | fail)
      (refine (?_ : br _ _ _); refine br_dec (fun q => ?_) (fun q => ?_))
      · have q1 : (p.want : Int) < ((p.m.L 0).length : Int) := q
        rw [if_pos (show (p.want : Int) < p.m.lenI 0 from q1)] at hpick
        exact ⟨tau [], rfl, ⟨⟨⟨rfl, trivial⟩, rfl, rfl⟩, ⟨rfl, by rw [hu, hpick]⟩, trivial⟩, hwk⟩
      · have q1 : ¬ (p.want : Int) < ((p.m.L 0).length : Int) := q
        rw [if_neg (show ¬ (p.want : Int) < p.m.lenI 0 from q1)] at hpick
        exact ⟨tau [], rfl, ⟨⟨⟨rfl, trivial⟩, rfl, rfl⟩, ⟨rfl, by rw [hu, hpick]⟩, trivial⟩, hwk⟩
  have hP : p.vicP = p.withM (p.m.dropI u) := by unfold Pol.vicP; rw [if_neg (by rw [hsome]; simp), hu]
  have hC : p.vicI = (u, true) := by unfold Pol.vicI; rw [if_neg (by rw [hsome]; simp), hu]
  rw [hP, hC] at hE ⊢
  obtain ⟨m1, hm1⟩ : ∃ m1, m1 = p.m.dropI u := ⟨_, rfl⟩
  have hn1 : m1.n = p.m.n := by rw [hm1]; exact drop_nb.1
  have hb1 : m1.b = p.m.b := by rw [hm1]; exact drop_nb.2
  rw [← hm1] at hE ⊢
  refine W_seq (nx := 60) ?_
  refine W_ex (nx := 60) (fun (a : Ent × Ent × Nat × Nat) => XL a.1 e0 (m1.L 0) a.2.2.1 ∧ XL a.2.1 e1 (m1.L 1) a.2.2.2) (fun _ => [(8, .int .i64 u)]) (fun a => HQ bQ bR bH a.1 a.2.1 eU a.2.2.1 a.2.2.2 cU (p.withM m1)) 60 ?_ ?_
  · refine vc_sound hE 60 _ _ _ 60 ?_
    refine ⟨_, _, p.m, m1, _, rfl, ⟨u, rfl, hok, hm1, rfl⟩, HQ.mut x0 x1 hl.lU hn1 ⟨by omega, by omega⟩ fun h2 X0' X1' c0' c1' t0' t1' y0 y1 hnd hwk2 => ?_⟩
    exact ⟨(X0', X1', c0', c1'), ⟨y0, y1⟩, tau [(40, t0'), (41, t1')], hnd, (by repeat' (first | exact rfl | exact trivial | assumption | refine ⟨?_, ?_⟩)), hwk2⟩
  rintro ⟨X0, X1, d0, d1⟩ ⟨y0, y1⟩
  refine vc_sound hE 60 _ _ _ 60 ?_
  exact ⟨rfl, HQ.out (p := p) (p' := p.withM m1) y0 y1 hl.lU hn1 hb1 rfl⟩
end Go.Proofs.YtiihiifcnkfjoaaDoor.Sx

