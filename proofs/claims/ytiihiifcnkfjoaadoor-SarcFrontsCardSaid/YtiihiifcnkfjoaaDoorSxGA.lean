import Derived.Test.YtiihiifcnkfjoaaDoorSxG9
/-
  The policy: a frame enters, is ready, goes.
-/
namespace Go.Proofs.YtiihiifcnkfjoaaDoor.Sx
open Go Go.Proofs
set_option maxRecDepth 100000
set_option linter.unusedSimpArgs false
set_option linter.unusedVariables false

theorem GP.wk {bS bA bP bU N n : Nat} {s s' : Sh} {p p' : Pol} (hN : s'.N = N) (hn : p'.m.n = n) : wkH (tau []) (GP bS bA bP bU N n s' p' ++ HPW bS bA bP bU s p) (HPW bS bA bP bU s' p') (HPW bS bA bP bU s' p') :=
  ⟨eS_wk ⟨rfl, trivial⟩, eA_wk hN, ⟨rfl, rfl, rfl, rfl, fun i c hi hc => by obtain rfl : i = 0 := (by omega); exact gP_rn trivial trivial hc⟩, ⟨rfl, hn.symm, rfl, rfl, fun i c hi hc => ⟨rfl, rfl⟩⟩, ⟨rfl, rfl, rfl, fun i c hi hc => ⟨rfl, rfl⟩⟩, trivial⟩
theorem HPW.out {bS bA bP bU N : Nat} {s' : Sh} {p p' : Pol} (hN : s'.N = N) (hn : p'.m.n = p.m.n) (hi' : Inv s' p'.m p'.m.n) : PolOut (HPW bS bA bP bU s' p') bS bA bP bU N p p' := by
  subst hN
  refine ⟨s', _, _, _, _, rfl, hi', rfl, rfl, rfl, ?_, fun c hc => rfl, fun i c hi hc => rfl, fun c hc => rfl, fun i hi => rfl⟩
  show Ent.blk bU p'.m.n 1 (gU p') 3 = _
  rw [hn]
/-- Another shelf alone: what is known of the policy's own cells stays. -/
def Pol.withM (p : Pol) (m' : Md) : Pol := { p with m := m' }
theorem gP_m {p : Pol} {m' : Md} (hn : m'.n = p.m.n) (hb : m'.b = p.m.b) (c : Nat) : gP (p.withM m') 0 c = gP p 0 c := by
  match c with
  | 0 => rfl
  | 1 => show V.int .i64 m'.n = .int .i64 p.m.n; rw [hn]
  | 2 => show V.int .i64 m'.b = .int .i64 p.m.b; rw [hb]
  | 3 => show V.slice 9 0 m'.n m'.n = .slice 9 0 p.m.n p.m.n; rw [hn]
  | 4 => rfl
  | 5 => rfl
  | 6 => rfl
  | c + 7 => rfl
theorem hold_nb {m : Md} {k : Int} {b : Bool} : (m.holdI k b).n = m.n ∧ (m.holdI k b).b = m.b := by unfold Md.holdI; split <;> exact ⟨rfl, rfl⟩
theorem out_nb {m : Md} {k : Nat} : (m.out k).n = m.n ∧ (m.out k).b = m.b := by unfold Md.out; split <;> exact ⟨rfl, rfl⟩
theorem drop_nb {m : Md} {k : Int} : (m.dropI k).n = m.n ∧ (m.dropI k).b = m.b := by
  unfold Md.dropI; split
  · exact out_nb
  · exact ⟨rfl, rfl⟩
/-- A call that writes into the shelf alone. -/
theorem PolOut.sh {bS bA bP bU N : Nat} {s' : Sh} {p0 p : Pol} {m' : Md} (h : Hp) (hN : s'.N = N) (hi' : Inv s' m' m'.n) (hn : m'.n = p.m.n) (hb : m'.b = p.m.b) (hn0 : p.m.n = p0.m.n)
    (e1 : fd 1 h = eS bS s') (e2 : fd 2 h = .blk bA N 5 (gA s'.u s'.d s'.l s'.lo s'.he) 86) (e3 : fd 8 h = eP bP p) (e4 : fd 9 h = eU bU p) : PolOut h bS bA bP bU N p0 (p.withM m') :=
  ⟨s', _, _, _, _, hN, hi', e1, e2, e3, by rw [e4, ← hn0]; rfl, fun c hc => rfl, fun i c hi hc => rfl, fun c hc => (gP_m hn hb c).symm, fun i hi => rfl⟩

def Pol.inB (p : Pol) (f : Int) : Bool := (p.m.whI f).2.2
def Pol.enterC (p : Pol) (f l : Int) : Int := if p.mayI f l = false then 1 else if p.inB f = true then 4 else (p.m.frontI l f).lies f
def Pol.enterP (p : Pol) (f l : Int) : Pol := if p.mayI f l = true ∧ p.inB f = false then (p.frontP f l).withM ((p.m.frontI l f).holdI f true) else p
def preEnter : List V → Pol → Pol → V → Prop := fun rest p p' v => ∃ f l : Int, rest = [.int .i64 f, .int .i64 l] ∧ p.R.length ≤ 100000 ∧ p' = p.enterP f l ∧ v = .int .i64 (p.enterC f l)
abbrev PEnter : Spec := fun args h nx K => ∃ rest p p' v, args = .ptr 8 0 0 :: rest ∧ preEnter rest p p' v ∧ pMut h nx K p p' v
def SPEn : SpT := [(44, sPMay), (45, mWhere), (46, PF), (47, mHold)]
theorem spen : ∀ p ∈ SPEn, SpecOK Tryd.prog p.1 p.2 := consSP sPMay_ok (consSP mWhere_ok (consSP pfront_ok (consSP mHold_ok noSP)))
theorem penter_ok : SpecOK Tryd.prog 21 PEnter := by
  refine specOK_pol (fn := Tryd.f21) rfl rfl rfl (SP := SPEn) spen preEnter ?_ ?_
  · rintro rest p p' v ⟨f, l, rfl, _, rfl, rfl⟩
    exact ⟨⟨trivial, trivial, trivial⟩, trivial, by simp [Tryd.f21]⟩
  rintro rest p p' v bS bA bP bU s c ⟨f, l, rfl, hfew, rfl, rfl⟩ hi hc
  have hE := mkE' (fn := Tryd.f21) (R := fun o h1 _ => o = .ret (.int .i64 (p.enterC f l)) ∧ PolOut h1 bS bA bP bU s.N p (p.enterP f l)) hc spen
  refine W_seq (nx := 0) ?_
  refine W_to (nx := 0) [(0, .ptr 8 0 0), (1, .int .i64 f), (2, .int .i64 l)] (HPW bS bA bP bU s p) 30 ?_ ?_
  · refine vc_sound hE 20 _ _ _ 30 ?_
    exact ⟨tau [], rfl, (by repeat' (first | exact rfl | exact trivial | assumption | refine ⟨?_, ?_⟩)), HPW.wk⟩
  refine W_seq (nx := 30) ?_
  refine W_piece (nx := 30) (fun σ1 h1 _ => p.mayI f l = true ∧ ∃ τ, wk τ σ1 h1 [(0, .ptr 8 0 0), (1, .int .i64 f), (2, .int .i64 l)] (HPW bS bA bP bU s p)) ?_ ?_
  · refine vc_sound hE 60 _ _ _ 30 ?_
    refine ⟨p, f, l, rfl, HPW.r hi, ?_⟩
    (refine (?_ : br _ _ _); refine br_not (br_both (fun q => ?_) (fun q => ?_)))
    · have q : p.mayI f l = true := q
      exact ⟨q, tau [], rfl, (by repeat' (first | exact rfl | exact trivial | assumption | refine ⟨?_, ?_⟩)), HPW.wk⟩
    · have q : p.mayI f l = false := q
      exact ⟨outI (by rw [Pol.enterC, if_pos q]), by rw [Pol.enterP, if_neg (by rw [q]; simp)]; exact HPW.out rfl rfl hi⟩
  rintro σ1 h1 _ ⟨hmay, τ1, hw1⟩
  refine W_weak (nx' := 30) τ1 hw1 ?_
  clear hw1 τ1 σ1 h1
  refine W_seq (nx := 30) ?_
  refine W_piece (nx := 30) (fun σ1 h1 _ => p.inB f = false ∧ ∃ τ, wk τ σ1 h1 [(0, .ptr 8 0 0), (1, .int .i64 f), (2, .int .i64 l)] (HPW bS bA bP bU s p)) ?_ ?_
  · refine vc_sound hE 60 _ _ _ 30 ?_
    refine ⟨_, p.m, f, rfl, HPW.m hi, ?_⟩
    (refine (?_ : br _ _ _); refine br_both (fun q => ?_) (fun q => ?_))
    · have q : p.inB f = true := q
      exact ⟨outI (by rw [Pol.enterC, if_neg (by rw [hmay]; simp), if_pos q]), by rw [Pol.enterP, if_neg (by rw [q]; simp)]; exact HPW.out rfl rfl hi⟩
    · have q : p.inB f = false := q
      exact ⟨q, tau [], rfl, (by repeat' (first | exact rfl | exact trivial | assumption | refine ⟨?_, ?_⟩)), HPW.wk⟩
  rintro σ1 h1 _ ⟨hin, τ1, hw1⟩
  refine W_weak (nx' := 30) τ1 hw1 ?_
  clear hw1 τ1 σ1 h1
  refine W_seq (nx := 30) ?_
  have hn1 : (p.frontP f l).m.n = p.m.n := front_nb.1
  refine W_ex (nx := 30) (fun s' : Sh => s'.N = s.N ∧ Inv s' (p.frontP f l).m (p.frontP f l).m.n) (fun _ => [(0, .ptr 8 0 0), (1, .int .i64 f)]) (fun s' => HPW bS bA bP bU s' (p.frontP f l)) 30 ?_ ?_
  · refine vc_sound hE 60 _ _ _ 30 ?_
    refine ⟨_, p, p.frontP f l, _, rfl, ⟨f, l, rfl, hmay, hfew, rfl, rfl⟩, bS, bA, bP, bU, s, hi, rfl, rfl, rfl, rfl, rfl, fun s' hN hi' => ?_⟩
    exact ⟨s', ⟨hN, hi'⟩, tau [], rfl, (by repeat' (first | exact rfl | exact trivial | assumption | refine ⟨?_, ?_⟩)), GP.wk hN hn1⟩
  rintro s' ⟨hN, hi'⟩
  refine vc_sound hE 60 _ _ _ 30 ?_
  refine ⟨_, (p.frontP f l).m, f, true, rfl, hi'.mut rfl rfl fun s2 hN2 hi2 => ?_⟩
  refine ⟨?_, ?_⟩
  · rw [Pol.enterC, if_neg (by rw [hmay]; simp), if_neg (by rw [hin]; simp)]; rfl
  · rw [Pol.enterP, if_pos ⟨hmay, hin⟩, ← hN]
    exact PolOut.sh _ hN2 hi2 hold_nb.1 hold_nb.2 hn1 rfl rfl rfl rfl

def Pol.readyC (p : Pol) (f : Int) : Int := if p.mayI f 0 = false then 1 else if p.inB f = false then 3 else if f ∈ cI p.m.held then p.m.lies f else 5
def Pol.readyP (p : Pol) (f : Int) : Pol := if p.mayI f 0 = true ∧ p.inB f = true ∧ f ∈ cI p.m.held then p.withM (p.m.holdI f false) else p
def preReady : List V → Pol → Pol → V → Prop := fun rest p p' v => ∃ f : Int, rest = [.int .i64 f] ∧ p' = p.readyP f ∧ v = .int .i64 (p.readyC f)
abbrev PReady : Spec := fun args h nx K => ∃ rest p p' v, args = .ptr 8 0 0 :: rest ∧ preReady rest p p' v ∧ pMut h nx K p p' v
def SPRy : SpT := [(44, sPMay), (45, mWhere), (37, mHeld), (48, sContains), (47, mHold)]
theorem spry : ∀ p ∈ SPRy, SpecOK Tryd.prog p.1 p.2 := consSP sPMay_ok (consSP mWhere_ok (consSP mHeld_ok (consSP sContains_ok (consSP mHold_ok noSP))))
theorem pready_ok : SpecOK Tryd.prog 22 PReady := by
  refine specOK_pol (fn := Tryd.f22) rfl rfl rfl (SP := SPRy) spry preReady ?_ ?_
  · rintro rest p p' v ⟨f, rfl, rfl, rfl⟩
    exact ⟨⟨trivial, trivial⟩, trivial, by simp [Tryd.f22]⟩
  rintro rest p p' v bS bA bP bU s c ⟨f, rfl, rfl, rfl⟩ hi hc
  have hE := mkE' (fn := Tryd.f22) (R := fun o h1 _ => o = .ret (.int .i64 (p.readyC f)) ∧ PolOut h1 bS bA bP bU s.N p (p.readyP f)) hc spry
  refine W_seq (nx := 0) ?_
  refine W_to (nx := 0) [(0, .ptr 8 0 0), (1, .int .i64 f)] (HPW bS bA bP bU s p) 30 ?_ ?_
  · refine vc_sound hE 20 _ _ _ 30 ?_
    exact ⟨tau [], rfl, (by repeat' (first | exact rfl | exact trivial | assumption | refine ⟨?_, ?_⟩)), HPW.wk⟩
  refine W_seq (nx := 30) ?_
  refine W_piece (nx := 30) (fun σ1 h1 _ => p.mayI f 0 = true ∧ ∃ τ, wk τ σ1 h1 [(0, .ptr 8 0 0), (1, .int .i64 f)] (HPW bS bA bP bU s p)) ?_ ?_
  · refine vc_sound hE 60 _ _ _ 30 ?_
    refine ⟨p, f, 0, rfl, HPW.r hi, ?_⟩
    (refine (?_ : br _ _ _); refine br_not (br_both (fun q => ?_) (fun q => ?_)))
    · have q : p.mayI f 0 = true := q
      exact ⟨q, tau [], rfl, (by repeat' (first | exact rfl | exact trivial | assumption | refine ⟨?_, ?_⟩)), HPW.wk⟩
    · have q : p.mayI f 0 = false := q
      exact ⟨outI (by rw [Pol.readyC, if_pos q]), by rw [Pol.readyP, if_neg (by rw [q]; simp)]; exact HPW.out rfl rfl hi⟩
  rintro σ1 h1 _ ⟨hmay, τ1, hw1⟩
  refine W_weak (nx' := 30) τ1 hw1 ?_
  clear hw1 τ1 σ1 h1
  refine W_seq (nx := 30) ?_
  refine W_piece (nx := 30) (fun σ1 h1 _ => p.inB f = true ∧ ∃ τ, wk τ σ1 h1 [(0, .ptr 8 0 0), (1, .int .i64 f)] (HPW bS bA bP bU s p)) ?_ ?_
  · refine vc_sound hE 60 _ _ _ 30 ?_
    refine ⟨_, p.m, f, rfl, HPW.m hi, ?_⟩
    (refine (?_ : br _ _ _); refine br_not (br_both (fun q => ?_) (fun q => ?_)))
    · have q : p.inB f = true := q
      exact ⟨q, tau [], rfl, (by repeat' (first | exact rfl | exact trivial | assumption | refine ⟨?_, ?_⟩)), HPW.wk⟩
    · have q : p.inB f = false := q
      exact ⟨outI (by rw [Pol.readyC, if_neg (by rw [hmay]; simp), if_pos q]), by rw [Pol.readyP, if_neg (by rw [q]; simp)]; exact HPW.out rfl rfl hi⟩
  rintro σ1 h1 _ ⟨hin, τ1, hw1⟩
  refine W_weak (nx' := 30) τ1 hw1 ?_
  clear hw1 τ1 σ1 h1
  refine W_seq (nx := 30) ?_
  have hhl : p.m.held.length ≤ 64 := by have := List.length_filter_le (fun i => p.m.H i) (List.range p.m.n); have h2 : p.m.held.length ≤ p.m.n := by simpa [Md.held] using this
                                        have := hi.n2; omega
  refine W_piece (nx := 30) (fun σ1 h1 _ => f ∈ cI p.m.held ∧ ∃ τ, wk τ σ1 h1 [(0, .ptr 8 0 0), (1, .int .i64 f)] (HPW bS bA bP bU s p)) ?_ ?_
  · refine vc_sound hE 60 _ _ _ 30 ?_
    refine ⟨_, p.m, rfl, HPW.m hi, rfl, fun e cp hl => ?_⟩
    refine ⟨_, cI p.m.held, f, rfl, hl.rd rfl, by rw [cI_len]; omega, ?_⟩
    (refine (?_ : br _ _ _); refine br_not (br_dec (fun q => ?_) (fun q => ?_)))
    · exact ⟨q, tau [], rfl, (by repeat' (first | exact rfl | exact trivial | assumption | refine ⟨?_, ?_⟩)), HPW.wk⟩
    · exact ⟨outI (by rw [Pol.readyC, if_neg (by rw [hmay]; simp), if_neg (by rw [hin]; simp), if_neg q]), by rw [Pol.readyP, if_neg (fun w => q w.2.2)]; exact PolOut.sh (p := p) (m' := p.m) _ rfl hi rfl rfl rfl rfl rfl rfl rfl⟩
  rintro σ1 h1 _ ⟨hh, τ1, hw1⟩
  refine W_weak (nx' := 30) τ1 hw1 ?_
  clear hw1 τ1 σ1 h1
  refine vc_sound hE 60 _ _ _ 30 ?_
  refine ⟨_, p.m, f, false, rfl, hi.mut rfl rfl fun s2 hN2 hi2 => ?_⟩
  refine ⟨?_, ?_⟩
  · exact outI (by rw [Pol.readyC, if_neg (by rw [hmay]; simp), if_neg (by rw [hin]; simp), if_pos hh])
  · rw [Pol.readyP, if_pos ⟨hmay, hin, hh⟩]
    exact PolOut.sh _ hN2 hi2 hold_nb.1 hold_nb.2 rfl rfl rfl rfl rfl

def preGone : List V → Pol → Pol → V → Prop := fun rest p p' v => ∃ f : Int, rest = [.int .i64 f] ∧ p' = p.withM (p.m.dropI f) ∧ v = .int .i64 (p.m.lies f)
abbrev PGone : Spec := fun args h nx K => ∃ rest p p' v, args = .ptr 8 0 0 :: rest ∧ preGone rest p p' v ∧ pMut h nx K p p' v
theorem pgone_ok : SpecOK Tryd.prog 26 PGone := by
  refine specOK_pol (fn := Tryd.f26) rfl rfl rfl (SP := [(41, mDrop)]) (consSP mDrop_ok noSP) preGone ?_ ?_
  · rintro rest p p' v ⟨f, rfl, rfl, rfl⟩
    exact ⟨⟨trivial, trivial⟩, trivial, by simp [Tryd.f26]⟩
  rintro rest p p' v bS bA bP bU s c ⟨f, rfl, rfl, rfl⟩ hi hc
  have hE := mkE' (fn := Tryd.f26) (R := fun o h1 _ => o = .ret (.int .i64 (p.m.lies f)) ∧ PolOut h1 bS bA bP bU s.N p (p.withM (p.m.dropI f))) hc (SP := [(41, mDrop)]) (consSP mDrop_ok noSP)
  refine vc_sound hE 60 _ _ _ 30 ?_
  refine ⟨_, p.m, f, rfl, hi.mut rfl rfl fun s2 hN2 hi2 => ?_⟩
  exact ⟨rfl, PolOut.sh _ hN2 hi2 drop_nb.1 drop_nb.2 rfl rfl rfl rfl rfl⟩
end Go.Proofs.YtiihiifcnkfjoaaDoor.Sx

/-
  The policy: a frame is hit, missed; one goes to make room.
-/
namespace Go.Proofs.YtiihiifcnkfjoaaDoor.Sx
open Go Go.Proofs
set_option maxRecDepth 100000
set_option linter.unusedSimpArgs false
set_option linter.unusedVariables false

theorem GP.out {bS bA bP bU N : Nat} {s' : Sh} {p p0 p' : Pol} (h : Hp) (hN : s'.N = N) (hi' : Inv s' p'.m p'.m.n) (hn : p.m.n = p0.m.n) : PolOut (GP bS bA bP bU N p.m.n s' p' ++ h) bS bA bP bU N p0 p' :=
  ⟨s', _, _, _, _, hN, hi', rfl, rfl, rfl, by rw [← hn]; rfl, fun c hc => rfl, fun i c hi hc => rfl, fun c hc => rfl, fun i hi => rfl⟩
def Pol.oneHit (p : Pol) : Pol := { p with hits := p.hits + 1 }
def Pol.oneMiss (p : Pol) : Pol := { p with miss := p.miss + 1 }
/-- The counts of a policy whose Rand's bottom was hit. -/
def Pol.hitW (p : Pol) (f : Int) : Pol := if (p.m.whI f).1 = 1 ∧ (p.m.whI f).2.1 = true then p.oneHit.weighP else p
theorem hitW_m (p : Pol) (f : Int) : (p.hitW f).m = p.m ∧ (p.hitW f).R = p.R := by unfold Pol.hitW; split <;> exact ⟨rfl, rfl⟩
def Pol.hitC (p : Pol) (f l : Int) : Int := if p.mayI f l = false then 1 else if p.inB f = false then 3 else 0
def Pol.hitP (p : Pol) (f l : Int) : Pol := if p.mayI f l = true ∧ p.inB f = true then (p.hitW f).frontP f l else p
def preHit : List V → Pol → Pol → V → Prop := fun rest p p' v => ∃ f l : Int, rest = [.int .i64 f, .int .i64 l] ∧ p.Fit ∧ p' = p.hitP f l ∧ v = .int .i64 (p.hitC f l)
abbrev PHit : Spec := fun args h nx K => ∃ rest p p' v, args = .ptr 8 0 0 :: rest ∧ preHit rest p p' v ∧ pMut h nx K p p' v
def SPHi : SpT := [(44, sPMay), (45, mWhere), (42, sSat), (43, PW), (46, PF)]
theorem sphi : ∀ p ∈ SPHi, SpecOK Tryd.prog p.1 p.2 := consSP sPMay_ok (consSP mWhere_ok (consSP sSat_ok (consSP pweigh_ok (consSP pfront_ok noSP))))
theorem sat1 {a : Nat} (h : a ≤ 1000) : satI a 1 = ((a + 1 : Nat) : Int) := by unfold satI; rw [if_neg (by omega)]; omega
theorem bnd_nat {a : Nat} (h : a ≤ 1000) : bnd a := by unfold bnd; omega
theorem phit_ok : SpecOK Tryd.prog 23 PHit := by
  refine specOK_pol (fn := Tryd.f23) rfl rfl rfl (SP := SPHi) sphi preHit ?_ ?_
  · rintro rest p p' v ⟨f, l, rfl, _, rfl, rfl⟩
    exact ⟨⟨trivial, trivial, trivial⟩, trivial, by simp [Tryd.f23]⟩
  rintro rest p p' v bS bA bP bU s c ⟨f, l, rfl, hfit, rfl, rfl⟩ hi hc
  have hE := mkE' (fn := Tryd.f23) (R := fun o h1 _ => o = .ret (.int .i64 (p.hitC f l)) ∧ PolOut h1 bS bA bP bU s.N p (p.hitP f l)) hc sphi
  have hh := hfit.hits
  have hmi := hfit.miss
  refine W_seq (nx := 0) ?_
  refine W_to (nx := 0) [(0, .ptr 8 0 0), (1, .int .i64 f), (2, .int .i64 l)] (HPW bS bA bP bU s p) 30 ?_ ?_
  · refine vc_sound hE 20 _ _ _ 30 ?_
    exact ⟨tau [], rfl, (by repeat' (first | exact rfl | exact trivial | assumption | refine ⟨?_, ?_⟩)), HPW.wk⟩
  refine W_seq (nx := 30) ?_
  refine W_piece (nx := 30) (fun σ1 h1 _ => p.mayI f l = true ∧ ∃ τ, wk τ σ1 h1 [(0, .ptr 8 0 0), (1, .int .i64 f), (2, .int .i64 l)] (HPW bS bA bP bU s p)) ?_ ?_
  · refine vc_sound hE 60 _ _ _ 30 ?_
    refine ⟨p, f, l, rfl, HPW.r hi, ?_⟩
    (refine (?_ : br _ _ _); refine br_not (br_both (fun q => ?_) (fun q => ?_)))
    · have q : p.mayI f l = true := q
      exact ⟨q, tau [], rfl, (by repeat' (first | exact rfl | exact trivial | assumption | refine ⟨?_, ?_⟩)), HPW.wk⟩
    · have q : p.mayI f l = false := q
      exact ⟨outI (by rw [Pol.hitC, if_pos q]), by rw [Pol.hitP, if_neg (by rw [q]; simp)]; exact HPW.out rfl rfl hi⟩
  rintro σ1 h1 _ ⟨hmay, τ1, hw1⟩
  refine W_weak (nx' := 30) τ1 hw1 ?_
  clear hw1 τ1 σ1 h1
  obtain ⟨O, hO⟩ : ∃ O, O = (p.m.whI f).1 := ⟨_, rfl⟩
  obtain ⟨Lw, hLw⟩ : ∃ O, O = (p.m.whI f).2.1 := ⟨_, rfl⟩
  obtain ⟨I, hI⟩ : ∃ O, O = p.inB f := ⟨_, rfl⟩
  refine W_seq (nx := 30) ?_
  refine W_to (nx := 30) [(0, .ptr 8 0 0), (1, .int .i64 f), (2, .int .i64 l), (7, .int .i64 O), (8, .bool Lw), (9, .bool I)] (HPW bS bA bP bU s p) 30 ?_ ?_
  · refine vc_sound hE 60 _ _ _ 30 ?_
    refine ⟨_, p.m, f, rfl, HPW.m hi, ?_⟩
    rw [← hO, ← hLw, show (p.m.whI f).2.2 = I from hI.symm]
    exact ⟨tau [], rfl, (by repeat' (first | exact rfl | exact trivial | assumption | refine ⟨?_, ?_⟩)), HPW.wk⟩
  refine W_seq (nx := 30) ?_
  refine W_piece (nx := 30) (fun σ1 h1 _ => I = true ∧ ∃ τ, wk τ σ1 h1 [(0, .ptr 8 0 0), (1, .int .i64 f), (2, .int .i64 l), (7, .int .i64 O), (8, .bool Lw)] (HPW bS bA bP bU s p)) ?_ ?_
  · refine vc_sound hE 60 _ _ _ 30 ?_
    (refine (?_ : br _ _ _); refine br_not (br_both (fun q => ?_) (fun q => ?_)))
    · exact ⟨q, tau [], rfl, (by repeat' (first | exact rfl | exact trivial | assumption | refine ⟨?_, ?_⟩)), HPW.wk⟩
    · rw [hI] at q
      exact ⟨outI (by rw [Pol.hitC, if_neg (by rw [hmay]; simp), if_pos q]), by rw [Pol.hitP, if_neg (by rw [q]; simp)]; exact HPW.out rfl rfl hi⟩
  rintro σ1 h1 _ ⟨hin, τ1, hw1⟩
  refine W_weak (nx' := 30) τ1 hw1 ?_
  clear hw1 τ1 σ1 h1
  rw [hI] at hin
  refine W_seq (nx := 30) ?_
  have hWm := (hitW_m p f).1
  refine W_ex (nx := 30) (fun s' : Sh => s'.N = s.N ∧ Inv s' (p.hitW f).m (p.hitW f).m.n) (fun _ => [(0, .ptr 8 0 0), (1, .int .i64 f), (2, .int .i64 l)]) (fun s' => HPW bS bA bP bU s' (p.hitW f)) 30 ?_ ?_
  · have no : ¬ ((p.m.whI f).1 = 1 ∧ (p.m.whI f).2.1 = true) → ∃ s' : Sh, (s'.N = s.N ∧ Inv s' (p.hitW f).m (p.hitW f).m.n) ∧ HPW bS bA bP bU s p = HPW bS bA bP bU s' (p.hitW f) := fun q => by
      have e : p.hitW f = p := if_neg q
      rw [e]; exact ⟨s, ⟨rfl, hi⟩, rfl⟩
    by_cases hO1 : O = 1
    rotate_left
    · obtain ⟨s', hs', e⟩ := no (fun w => hO1 (hO.trans w.1))
      refine vc_sound hE 60 _ _ _ 30 ?_
      (refine (?_ : br _ _ _); refine br_eqF hO1 ?_)
      exact ⟨s', hs', tau [], rfl, (by repeat' (first | exact rfl | exact trivial | assumption | refine ⟨?_, ?_⟩)), by rw [← e]; exact HPW.wk⟩
    cases Lw with
    | false =>
      obtain ⟨s', hs', e⟩ := no (fun w => by rw [← hLw] at w; cases w.2)
      refine vc_sound hE 60 _ _ _ 30 ?_
      (refine (?_ : br _ _ _); refine br_eqT hO1 ?_)
      exact ⟨s', hs', tau [], rfl, (by repeat' (first | exact rfl | exact trivial | assumption | refine ⟨?_, ?_⟩)), by rw [← e]; exact HPW.wk⟩
    | true =>
    have e : p.hitW f = p.oneHit.weighP := if_pos ⟨by rw [← hO]; exact hO1, hLw.symm⟩
    rw [e]
    refine vc_sound hE 9 _ _ _ 30 ?_
    (refine (?_ : br _ _ _); refine br_eqT hO1 ?_)
    refine W_seq (nx := 30) ?_
    refine W_to (nx := 30) [(0, .ptr 8 0 0), (1, .int .i64 f), (2, .int .i64 l)] (HPW bS bA bP bU s p.oneHit) 30 ?_ ?_
    · refine vc_sound hE 60 _ _ _ 30 ?_
      refine ⟨bnd_nat (by omega), (show bnd 1 by unfold bnd; omega), ?_⟩
      refine ⟨tau [], rfl, (by repeat' (first | exact rfl | exact trivial | assumption | refine ⟨?_, ?_⟩)), eS_wk ⟨rfl, trivial⟩, eA_wk rfl, ⟨rfl, rfl, rfl, rfl, fun i c hi hc => ?_⟩, ⟨rfl, rfl, rfl, rfl, fun i c hi hc => ⟨rfl, rfl⟩⟩, ⟨rfl, rfl, rfl, fun i c hi hc => ⟨rfl, rfl⟩⟩, trivial⟩
      obtain rfl : i = 0 := by omega
      match c, hc with
      | 0, _ => exact ⟨⟨rfl, trivial⟩, rfl, rfl⟩
      | 1, _ => exact ⟨rfl, rfl⟩
      | 2, _ => exact ⟨rfl, rfl⟩
      | 3, _ => exact ⟨⟨rfl, trivial⟩, rfl, rfl, rfl⟩
      | 4, _ => exact ⟨rfl, rfl⟩
      | 5, _ => exact ⟨rfl, rfl⟩
      | 6, _ => exact ⟨rfl, rfl⟩
      | 7, _ => exact ⟨rfl, sat1 (by omega)⟩
    refine vc_sound hE 60 _ _ _ 30 ?_
    have hwa := hfit.want
    refine ⟨_, p.oneHit, p.oneHit.weighP, _, rfl, ⟨rfl, (show p.miss ≤ 64 by omega), (show p.hits + 1 ≤ 64 by omega), hwa, rfl, rfl⟩, bS, bA, bP, bU, s, hi, rfl, rfl, rfl, rfl, rfl, fun s' hN hi' => ?_⟩
    exact ⟨s', ⟨hN, hi'⟩, tau [], rfl, (by repeat' (first | exact rfl | exact trivial | assumption | refine ⟨?_, ?_⟩)), GP.wk hN rfl⟩
  rintro s' ⟨hN, hi'⟩
  refine vc_sound hE 60 _ _ _ 30 ?_
  refine ⟨_, p.hitW f, (p.hitW f).frontP f l, _, rfl, ⟨f, l, rfl, by unfold Pol.mayI; rw [hWm]; exact hmay, by rw [(hitW_m p f).2]; exact hfit.few, rfl, rfl⟩, bS, bA, bP, bU, s', hi', rfl, rfl, rfl, rfl, rfl, fun s2 hN2 hi2 => ?_⟩
  refine ⟨outI (by rw [Pol.hitC, if_neg (by rw [hmay]; simp), if_neg (by rw [hin]; simp)]), ?_⟩
  rw [Pol.hitP, if_pos ⟨hmay, hin⟩, ← hN]
  exact GP.out _ hN2 hi2 (by rw [hWm])

def Pol.missC (l : Int) : Int := if l = 0 ∨ l = 1 then 0 else 1
def Pol.missP (p : Pol) (l : Int) : Pol := if l = 0 then p.oneMiss.weighP else p
def preMiss : List V → Pol → Pol → V → Prop := fun rest p p' v => ∃ l : Int, rest = [.int .i64 l] ∧ p.Fit ∧ p' = p.missP l ∧ v = .int .i64 (Pol.missC l)
abbrev PMiss : Spec := fun args h nx K => ∃ rest p p' v, args = .ptr 8 0 0 :: rest ∧ preMiss rest p p' v ∧ pMut h nx K p p' v
def SPMi : SpT := [(42, sSat), (43, PW)]
theorem spmi : ∀ p ∈ SPMi, SpecOK Tryd.prog p.1 p.2 := consSP sSat_ok (consSP pweigh_ok noSP)
theorem pmiss_ok : SpecOK Tryd.prog 20 PMiss := by
  refine specOK_pol (fn := Tryd.f20) rfl rfl rfl (SP := SPMi) spmi preMiss ?_ ?_
  · rintro rest p p' v ⟨l, rfl, _, rfl, rfl⟩
    exact ⟨⟨trivial, trivial⟩, trivial, by simp [Tryd.f20]⟩
  rintro rest p p' v bS bA bP bU s c ⟨l, rfl, hfit, rfl, rfl⟩ hi hc
  have hE := mkE' (fn := Tryd.f20) (R := fun o h1 _ => o = .ret (.int .i64 (Pol.missC l)) ∧ PolOut h1 bS bA bP bU s.N p (p.missP l)) hc spmi
  have hh := hfit.hits
  have hmi := hfit.miss
  refine W_seq (nx := 0) ?_
  refine W_to (nx := 0) [(0, .ptr 8 0 0), (1, .int .i64 l)] (HPW bS bA bP bU s p) 30 ?_ ?_
  · refine vc_sound hE 20 _ _ _ 30 ?_
    exact ⟨tau [], rfl, (by repeat' (first | exact rfl | exact trivial | assumption | refine ⟨?_, ?_⟩)), HPW.wk⟩
  refine W_seq (nx := 30) ?_
  by_cases h0 : l = 0
  rotate_left
  · have e : p.missP l = p := if_neg h0
    rw [e] at hE ⊢
    refine vc_sound hE 60 _ _ _ 30 ?_
    (refine (?_ : br _ _ _); refine br_eqF h0 ?_)
    (refine (?_ : br _ _ _); refine br_eq (fun q => ?_) (fun q => ?_))
    · have q : l = 1 := q
      exact ⟨outI (by rw [Pol.missC, if_pos (.inr q)]), HPW.out rfl rfl hi⟩
    · have q : l ≠ 1 := q
      exact ⟨outI (by rw [Pol.missC, if_neg (by rintro (w | w); exact h0 w; exact q w)]), HPW.out rfl rfl hi⟩
  subst h0
  have e : p.missP 0 = p.oneMiss.weighP := if_pos rfl
  rw [e] at hE ⊢
  refine W_seq (nx := 30) ?_
  refine W_to (nx := 30) [(0, .ptr 8 0 0), (5, .int .i64 0)] (HPW bS bA bP bU s p) 30 ?_ ?_
  · refine vc_sound hE 20 _ _ _ 30 ?_
    exact ⟨tau [], rfl, (by repeat' (first | exact rfl | exact trivial | assumption | refine ⟨?_, ?_⟩)), HPW.wk⟩
  refine W_ex (nx := 30) (fun s' : Sh => s'.N = s.N ∧ Inv s' p.oneMiss.weighP.m p.oneMiss.weighP.m.n) (fun _ => [(0, .ptr 8 0 0)]) (fun s' => HPW bS bA bP bU s' p.oneMiss.weighP) 30 ?_ ?_
  · refine vc_sound hE 7 _ _ _ 30 ?_
    refine W_seq (nx := 30) ?_
    refine W_to (nx := 30) [(0, .ptr 8 0 0)] (HPW bS bA bP bU s p.oneMiss) 30 ?_ ?_
    · refine vc_sound hE 60 _ _ _ 30 ?_
      refine ⟨bnd_nat (by omega), (show bnd 1 by unfold bnd; omega), ?_⟩
      refine ⟨tau [], rfl, (by repeat' (first | exact rfl | exact trivial | assumption | refine ⟨?_, ?_⟩)), eS_wk ⟨rfl, trivial⟩, eA_wk rfl, ⟨rfl, rfl, rfl, rfl, fun i c hi hc => ?_⟩, ⟨rfl, rfl, rfl, rfl, fun i c hi hc => ⟨rfl, rfl⟩⟩, ⟨rfl, rfl, rfl, fun i c hi hc => ⟨rfl, rfl⟩⟩, trivial⟩
      obtain rfl : i = 0 := by omega
      match c, hc with
      | 0, _ => exact ⟨⟨rfl, trivial⟩, rfl, rfl⟩
      | 1, _ => exact ⟨rfl, rfl⟩
      | 2, _ => exact ⟨rfl, rfl⟩
      | 3, _ => exact ⟨⟨rfl, trivial⟩, rfl, rfl, rfl⟩
      | 4, _ => exact ⟨rfl, rfl⟩
      | 5, _ => exact ⟨rfl, rfl⟩
      | 6, _ => exact ⟨rfl, sat1 (by omega)⟩
      | 7, _ => exact ⟨rfl, rfl⟩
    refine vc_sound hE 60 _ _ _ 30 ?_
    have hwa := hfit.want
    refine ⟨_, p.oneMiss, p.oneMiss.weighP, _, rfl, ⟨rfl, (show p.miss + 1 ≤ 64 by omega), (show p.hits ≤ 64 by omega), hwa, rfl, rfl⟩, bS, bA, bP, bU, s, hi, rfl, rfl, rfl, rfl, rfl, fun s' hN hi' => ?_⟩
    exact ⟨s', ⟨hN, hi'⟩, tau [], rfl, (by repeat' (first | exact rfl | exact trivial | assumption | refine ⟨?_, ?_⟩)), GP.wk hN rfl⟩
  rintro s' ⟨hN, hi'⟩
  refine vc_sound hE 60 _ _ _ 30 ?_
  exact ⟨rfl, by rw [← hN]; exact HPW.out rfl rfl hi'⟩

def Pol.vicI (p : Pol) : Int × Bool := if p.pickI.2 = false then (0, false) else (p.pickI.1, true)
def Pol.vicP (p : Pol) : Pol := if p.pickI.2 = false then p else p.withM (p.m.dropI p.pickI.1)
def preVic : List V → Pol → Pol → V → Prop := fun rest p p' v => rest = [] ∧ p' = p.vicP ∧ v = .tup [.int .i64 p.vicI.1, .bool p.vicI.2]
abbrev PVic : Spec := fun args h nx K => ∃ rest p p' v, args = .ptr 8 0 0 :: rest ∧ preVic rest p p' v ∧ pMut h nx K p p' v
def SPVi : SpT := [(40, sPick), (41, mDrop)]
theorem spvi : ∀ p ∈ SPVi, SpecOK Tryd.prog p.1 p.2 := consSP sPick_ok (consSP mDrop_ok noSP)
theorem pvic_ok : SpecOK Tryd.prog 18 PVic := by
  refine specOK_pol (fn := Tryd.f18) rfl rfl rfl (SP := SPVi) spvi preVic ?_ ?_
  · rintro rest p p' v ⟨rfl, rfl, rfl⟩
    exact ⟨trivial, ⟨trivial, trivial, trivial⟩, by simp [Tryd.f18]⟩
  rintro rest p p' v bS bA bP bU s c ⟨rfl, rfl, rfl⟩ hi hc
  have hE := mkE' (fn := Tryd.f18) (R := fun o h1 _ => o = .ret (.tup [.int .i64 p.vicI.1, .bool p.vicI.2]) ∧ PolOut h1 bS bA bP bU s.N p p.vicP) hc spvi
  refine vc_sound hE 60 _ _ _ 30 ?_
  refine ⟨p, rfl, HPW.r hi, ?_⟩
  (refine (?_ : br _ _ _); refine br_not (br_both (fun q => ?_) (fun q => ?_)))
  · have q : p.pickI.2 = true := q
    refine ⟨_, p.m, p.pickI.1, rfl, hi.mut rfl rfl fun s2 hN2 hi2 => ?_⟩
    refine ⟨outIB (by rw [Pol.vicI, if_neg (by rw [q]; simp)]) (by rw [Pol.vicI, if_neg (by rw [q]; simp)]), ?_⟩
    rw [Pol.vicP, if_neg (by rw [q]; simp)]
    exact PolOut.sh _ hN2 hi2 drop_nb.1 drop_nb.2 rfl rfl rfl rfl rfl
  · have q : p.pickI.2 = false := q
    refine ⟨outIB (by rw [Pol.vicI, if_pos q]) (by rw [Pol.vicI, if_pos q]), ?_⟩
    rw [Pol.vicP, if_pos q]
    exact HPW.out rfl rfl hi
end Go.Proofs.YtiihiifcnkfjoaaDoor.Sx

/-
  The policy: a new one; all that is known of it.
-/
namespace Go.Proofs.YtiihiifcnkfjoaaDoor.Sx
open Go Go.Proofs
set_option maxRecDepth 100000
set_option linter.unusedSimpArgs false
set_option linter.unusedVariables false

def Pol.new (n b : Int) : Pol := ⟨Md.new n.toNat b.toNat, 0, 0, 0, []⟩
def gPn (n b : Nat) : Nat → Nat → V := fun _ c => match c with
  | 0 => .ptr 30 0 0
  | 1 => .int .i64 n
  | 2 => .int .i64 b
  | 3 => .slice 32 0 n n
  | 4 => .int .i64 0
  | 5 => .int .i64 0
  | 6 => .int .u64 0
  | _ => .int .u64 0
def postP (n b : Int) (o : Out) (h1 : Hp) : Prop := (mayB n b = false ∧ o = .ret (.tup [.nilp, .int .i64 1])) ∨ (mayB n b = true ∧ ∃ (bS bA bP bU : Nat) (s : Sh) (gp gu : Nat → Nat → V), s.N = n.toNat + 2 ∧ Inv s (Md.new n.toNat b.toNat) n.toNat ∧
  o = .ret (.tup [.ptr 33 0 0, .int .i64 0]) ∧ fd 30 h1 = .blk bS 1 8 (gS 31 s.N s.bot s.E) 84 ∧ fd 31 h1 = .blk bA s.N 5 (gA s.u s.d s.l s.lo s.he) 86 ∧ fd 32 h1 = .blk bU n.toNat 1 gu 3 ∧ fd 33 h1 = .blk bP 1 8 gp 62 ∧ (∀ i, i < n.toNat → gu i 0 = .int .i64 0) ∧ ∀ c, c < 8 → gp 0 c = gPn n.toNat b.toNat 0 c)
def sPNew : Spec := fun args h nx K => ∃ n b : Int, args = [.int .i64 n, .int .i64 b] ∧ (mayB n b = true → fd 1 h = .gone ∧ fd 2 h = .gone ∧ fd 8 h = .gone ∧ fd 9 h = .gone) ∧ (mayB n b = false → K (.ret (.tup [.nilp, .int .i64 1])) h nx) ∧
  (mayB n b = true → ∀ (bS bA bP bU : Nat) (s : Sh), s.N = n.toNat + 2 → Inv s (Md.new n.toNat b.toNat) n.toNat → K (.ret (.tup [.ptr 8 0 0, .int .i64 0])) ([(1, eS bS s), (2, eA bA s), (8, eP bP (Pol.new n b)), (9, eU bU (Pol.new n b))] ++ h) nx)
theorem sPNew_ok : SpecOK Tryd.prog 10 sPNew := by
  refine specOK_gen (fn := Tryd.f10) rfl rfl rfl T_ok (SP := [(27, mNew)]) (consSP mNew_ok noSP) _ ?_
  rintro args h nx K ⟨n, b, rfl, hg, hk0, hk1⟩
  refine ⟨tau [], [], [.int .i64 n, .int .i64 b], rfl, fun p hp => absurd hp (by simp), ⟨⟨rfl, rfl⟩, ⟨rfl, rfl⟩, trivial⟩, by simp [Tryd.f10], fun o h1 => postP n b o h1, ?_, ?_⟩
  · rintro o h1 (⟨e, rfl⟩ | ⟨e, bS, bA, bP, bU, s, gp, gu, hN, hi, rfl, e1, e2, e9, e8, cu, cp⟩)
    · refine ⟨tau [], [], _, nx, ⟨fun t ht => (by cases ht), fun t b n sz g ty e => (by cases e), fun t t' ht => (by cases ht), fun e he => ?_⟩, hk0 e⟩
      obtain ⟨x, rfl, rx⟩ := he
      exact ⟨x, rfl, flat_rel _ _ ⟨trivial, trivial, trivial⟩ rx⟩
    · obtain ⟨g1, g2, g8, g9⟩ := hg e
      refine ⟨tau [(1, 30), (2, 31), (8, 33), (9, 32)], [(1, eS bS s), (2, eA bA s), (8, eP bP (Pol.new n b)), (9, eU bU (Pol.new n b))], _, nx, ⟨fun t ht => ?_, fun t b n sz g ty e => (by cases e), fun t t' ht ht' hne => ?_, fun e he => ?_⟩, hk1 e bS bA bP bU s hN hi⟩
      · have hkeys := memB_iff.1 ht
        simp only [List.map_cons, List.map_nil, List.mem_cons, List.not_mem_nil, or_false] at hkeys
        rcases hkeys with rfl | rfl | rfl | rfl
        · refine .inr (.inr ⟨bS, 1, 8, _, _, 84, g1, e1, rfl, fun t' b' n' sz' g' ty' q => (by cases q), fun i k hi hk => ?_⟩)
          obtain rfl : i = 0 := by omega
          match k, hk with
          | 0, _ => exact tell_slice (by rw [e2]; rfl)
          | 1, _ => exact tell_flat (by trivial)
          | k + 2, _ => exact tell_flat (by trivial)
        · refine .inr (.inr ⟨bA, s.N, 5, _, _, 86, g2, e2, rfl, fun t' b' n' sz' g' ty' q => (by cases q), fun i k hi hk => ?_⟩)
          refine tell_flat ?_
          match k, hk with
          | 0, _ | 1, _ | 2, _ | 3, _ | 4, _ => trivial
        · refine .inr (.inr ⟨bP, 1, 8, gp, _, 62, g8, e8, rfl, fun t' b' n' sz' g' ty' q => (by cases q), fun i k hi hk => ?_⟩)
          obtain rfl : i = 0 := by omega
          rw [cp k hk]
          match k, hk with
          | 0, _ => exact tell_ptr (by rw [e1]; rfl)
          | 1, _ => exact tell_flat (by trivial)
          | 2, _ => exact tell_flat (by trivial)
          | 3, _ => exact tell_slice (by rw [e9]; rfl)
          | 4, _ => exact tell_flat (by trivial)
          | 5, _ => exact tell_flat (by trivial)
          | 6, _ => exact tell_flat (by trivial)
          | 7, _ => exact tell_flat (by trivial)
        · refine .inr (.inr ⟨bU, n.toNat, 1, gu, _, 3, g9, e9, rfl, fun t' b' n' sz' g' ty' q => (by cases q), fun i k hi hk => ?_⟩)
          obtain rfl : k = 0 := by omega
          rw [cu i hi]
          exact tell_flat (by trivial)
      · have hk1 := memB_iff.1 ht
        have hk2 := memB_iff.1 ht'
        simp only [List.map_cons, List.map_nil, List.mem_cons, List.not_mem_nil, or_false] at hk1 hk2
        rcases hk1 with rfl | rfl | rfl | rfl <;> rcases hk2 with rfl | rfl | rfl | rfl <;> first | exact absurd rfl hne | decide
      · obtain ⟨x, rfl, rx⟩ := he
        obtain ⟨xs, rfl, y, ys, rfl, ry, rys⟩ := rx
        refine ⟨_, rfl, _, rfl, y, ys, rfl, tell_ptr (h1 := h1) ?_ _ ry, flatL_rel [.int .i64 0] _ ⟨trivial, trivial⟩ rys⟩
        rw [e8]; rfl
  · intro c hc
    have hE := mkE' (fn := Tryd.f10) (R := fun o h _ => postP n b o h) hc (SP := [(27, mNew)]) (consSP mNew_ok noSP)
    refine vc_sound hE 80 _ _ _ 30 ?_
    refine ⟨n, b, rfl, rfl, rfl, fun e => ?_, fun e bS bA s hN hi => ?_⟩
    · exact .inl ⟨e, rfl⟩
    · have hm' := e
      unfold mayB at hm'
      simp only [Bool.and_eq_true, decide_eq_true_eq] at hm'
      obtain ⟨m, rfl⟩ : ∃ m : Nat, n = m := ⟨n.toNat, by omega⟩
      obtain ⟨k, rfl⟩ : ∃ m : Nat, b = m := ⟨b.toNat, by omega⟩
      refine ⟨by omega, fun bU => ?_⟩
      intro bP
      refine .inr ⟨e, bS, bA, bP, bU, s, _, _, hN, hi, rfl, rfl, rfl, rfl, rfl, fun i hi => rfl, fun c hc => ?_⟩
      match c, hc with
      | 0, _ => rfl
      | 1, _ => rfl
      | 2, _ => rfl
      | 3, _ => rfl
      | 4, _ => rfl
      | 5, _ => rfl
      | 6, _ => rfl
      | 7, _ => rfl

/-! ### All that is known -/
def ret3 (l0 l1 l2 : List Int) (fl : List V) (o : Out) (h1 : Hp) : Prop := ∃ t0 c0 t1 c1 t2 c2, o = .ret (.agg (.slice t0 0 l0.length c0 :: .slice t1 0 l1.length c1 :: .slice t2 0 l2.length c2 :: fl)) ∧ t0 ≠ t1 ∧ t0 ≠ t2 ∧ t1 ≠ t2 ∧
  lstE (fd t0 h1) l0 c0 ∧ lstE (fd t1 h1) l1 c1 ∧ lstE (fd t2 h1) l2 c2
def new3 (l0 l1 l2 : List Int) (fl : List V) (h : Hp) (nx : Nat) (K : Out → Hp → Nat → Prop) : Prop := ∀ e0 c0 e1 c1 e2 c2, lstE e0 l0 c0 → lstE e1 l1 c1 → lstE e2 l2 c2 →
  K (.ret (.agg (.slice nx 0 l0.length c0 :: .slice (nx + 1) 0 l1.length c1 :: .slice (nx + 2) 0 l2.length c2 :: fl))) ((nx, e0) :: (nx + 1, e1) :: (nx + 2, e2) :: h) (nx + 3)
theorem Rel.addL {c : Cx} {h h1 : Hp} {w w' : World} {P : Program} (hr2 : Rel c h w') (hr1 : Rel (quiet P w) h1 w') (hsz : c.w0.heap.size ≤ w.heap.size) {t nx cap : Nat} {l : List Int} (hl : lstE (fd t h1) l cap) (hg : fd nx h = .gone)
    (hne : ∀ b n sz g ty, fd t h1 = .blk b n sz g ty → ∀ t' b' n' sz' g' ty', fd t' h = .blk b' n' sz' g' ty' → b' ≠ b) : Rel c ((nx, fd t h1) :: h) w' ∧ Ext h ((nx, fd t h1) :: h) := by
  rcases hl with ⟨rfl, rfl, e⟩ | ⟨b, g, ty, e, h2, h3, h4, h5⟩
  · rw [e]; exact hr2.ronil hg
  · have H := hr1.holds t
    rw [e] at H ⊢
    obtain ⟨⟨cs, c1, c2, c3⟩, c4⟩ := H
    have hb : w.heap.size ≤ b := by rcases c4 with c4 | c4; exact c4.elim; exact c4
    refine ⟨hr2.add hg ⟨⟨cs, c1, c2, fun i k hi hk => ?_⟩, .inr (Nat.le_trans hsz hb)⟩ (hne _ _ _ _ _ e), Ext.new (by rw [hg]; rfl)⟩
    obtain ⟨x, ex, rx⟩ := c3 i k hi hk
    obtain rfl : k = 0 := by omega
    exact ⟨x, ex, flat_rel _ _ (h5 i hi) rx⟩
theorem specOK_new3 {P : Program} {f : Nat} {fn : Func} {cd : Code} {T : Tab} {SP : SpT} (hf : P.funcs[f]? = some fn) (hx : (fn.name == "runtime.NumGoroutine") = false) (hb : fn.body = some cd) (hT : TabOK P T) (hS : ∀ p ∈ SP, SpecOK P p.1 p.2) (s : Spec)
    (hs : ∀ args h nx K, s args h nx K → fd nx h = .gone ∧ fd (nx + 1) h = .gone ∧ fd (nx + 2) h = .gone ∧ ∃ G args' l0 l1 l2 fl, Told h args G args' ∧ args'.length ≤ fn.ntmps ∧ flatL fl ∧ new3 l0 l1 l2 fl h nx K ∧ ∀ c, c.P = P → W ⟨c, fn, T, SP, fun o h _ => ret3 l0 l1 l2 fl o h⟩ [.code cd] (argsS args' 0) G 0) : SpecOK P f s := by
  intro c hc args h nx K hk w xs hr hv
  obtain ⟨g0, g1, g2, G, args', l0, l1, l2, fl, H, hlen, hfl, hnew, hvc⟩ := hs _ _ _ _ hk
  subst hc
  have hE : EnvOK ⟨quiet c.P w, fn, T, SP, fun o h _ => ret3 l0 l1 l2 fl o h⟩ := ⟨hT, hS⟩
  obtain ⟨hr', hv'⟩ := H.rel hr hv
  refine .inl ⟨callFunc_enter hf hx hb _ w, ?_⟩
  refine (enterW hE (f := f) hf hb hv' hr' hlen (hvc _ rfl)).mono ?_
  rintro e w' ⟨o, h1, nx1, ⟨t0, c0, t1, c1, t2, c2, rfl, d01, d02, d12, hl0, hl1, hl2⟩, hr1, hor⟩
  have hr2 := hr.after hr1.fr
  have fresh : ∀ t b n sz g ty, fd t h1 = .blk b n sz g ty → ∀ cp l, lstE (fd t h1) l cp → ∀ t' b' n' sz' g' ty', fd t' h = .blk b' n' sz' g' ty' → b' ≠ b := fun t b n sz g ty e cp l hl t' b' n' sz' g' ty' e' => by
    have H := hr1.holds t
    rw [e] at H
    have hb : w.heap.size ≤ b := by rcases H.2 with c4 | c4; exact c4.elim; exact c4
    have := hr.lt e'
    omega
  have ap : ∀ t t', t ≠ t' → ∀ b n sz g ty b' n' sz' g' ty', fd t h1 = .blk b n sz g ty → fd t' h1 = .blk b' n' sz' g' ty' → b' ≠ b := fun t t' hne b n sz g ty b' n' sz' g' ty' e e' => by
    have := hr1.apart t t' hne
    rw [e, e'] at this
    exact fun q => this q.symm
  obtain ⟨ra, xa⟩ := hr2.addL hr1 hr.fr.size hl2 g2 (fun b n sz g ty e => fresh _ _ _ _ _ _ e _ _ hl2)
  have gb : fd (nx + 1) ((nx + 2, fd t2 h1) :: h) = .gone := by rw [fd_cons, if_neg (by omega)]; exact g1
  obtain ⟨rb, xb⟩ := ra.addL hr1 hr.fr.size hl1 gb (fun b n sz g ty e t' b' n' sz' g' ty' e' => by
    rw [fd_cons] at e'
    split at e'
    · exact ap _ _ d12 _ _ _ _ _ _ _ _ _ _ e e'
    · exact fresh _ _ _ _ _ _ e _ _ hl1 _ _ _ _ _ _ e')
  have gc : fd nx ((nx + 1, fd t1 h1) :: (nx + 2, fd t2 h1) :: h) = .gone := by rw [fd_cons, if_neg (by omega), fd_cons, if_neg (by omega)]; exact g0
  obtain ⟨rc, xc⟩ := rb.addL hr1 hr.fr.size hl0 gc (fun b n sz g ty e t' b' n' sz' g' ty' e' => by
    rw [fd_cons] at e'
    split at e'
    · exact ap _ _ d01 _ _ _ _ _ _ _ _ _ _ e e'
    · rw [fd_cons] at e'
      split at e'
      · exact ap _ _ d02 _ _ _ _ _ _ _ _ _ _ e e'
      · exact fresh _ _ _ _ _ _ e _ _ hl0 _ _ _ _ _ _ e')
  refine ⟨_, _, _, hnew _ _ _ _ _ _ hl0 hl1 hl2, rc, xa.trans (xb.trans xc), ?_⟩
  obtain ⟨x, rfl, xs, rfl, y0, ys, rfl, r0, y1, ys, rfl, r1, y2, ys, rfl, r2, rr⟩ := hor
  refine ⟨_, rfl, _, rfl, y0, _, rfl, tell_slice (h1 := h1) ?_ _ r0, y1, _, rfl, tell_slice (h1 := h1) ?_ _ r1, y2, ys, rfl, tell_slice (h1 := h1) ?_ _ r2, flatL_rel _ _ hfl rr⟩
  · rw [fd_cons, if_pos rfl]
  · rw [fd_cons, if_neg (by omega), fd_cons, if_pos rfl]
  · rw [fd_cons, if_neg (by omega), fd_cons, if_neg (by omega), fd_cons, if_pos rfl]

def Pol.fl (p : Pol) : List V := [.int .i64 p.want, .int .u64 p.miss, .int .u64 p.hits]
def sPolicy : Spec := fun args h nx K => ∃ (p : Pol), args = [.ptr 8 0 0] ∧ pR h p ∧ fd nx h = .gone ∧ fd (nx + 1) h = .gone ∧ fd (nx + 2) h = .gone ∧ new3 (cI (p.m.L 0)) (cI (p.m.L 1)) (cI p.m.held) p.fl h nx K
def SPPo : SpT := [(36, mList), (37, mHeld)]
theorem sppo : ∀ p ∈ SPPo, SpecOK Tryd.prog p.1 p.2 := consSP mList_ok (consSP mHeld_ok noSP)
theorem sPolicy_ok : SpecOK Tryd.prog 15 sPolicy := by
  refine specOK_new3 (fn := Tryd.f15) rfl rfl rfl T_ok (SP := SPPo) sppo _ ?_
  rintro args h nx K ⟨p, rfl, hp, g0, g1, g2, hk⟩
  obtain ⟨bS, bA, bP, bU, s, hi, told⟩ := told_pol (rest := []) hp trivial
  refine ⟨g0, g1, g2, _, _, _, _, _, p.fl, told, by simp [Tryd.f15], ⟨trivial, trivial, trivial, trivial⟩, hk, ?_⟩
  intro cx hcx
  clear hk told hp g0 g1 g2
  have hE := mkE' (fn := Tryd.f15) (R := fun o h _ => ret3 (cI (p.m.L 0)) (cI (p.m.L 1)) (cI p.m.held) p.fl o h) hcx sppo
  have hm : ∀ h : Hp, fd 1 (roH h) = .ro (some ⟨bS, 0, none⟩) 1 8 (gS 2 s.N s.bot s.E) → fd 2 (roH h) = .ro (some ⟨bA, 0, none⟩) s.N 5 (gA s.u s.d s.l s.lo s.he) → mS h (.ptr 1 0 0) p.m := fun h e1 e2 => ⟨s, hi, 1, 2, bS, bA, _, _, rfl, by decide, e1, e2, fun c hc => rfl, fun i c hi hc => rfl⟩
  refine vc_sound hE 5 _ _ _ 30 ?_
  intro b0
  refine W_plan hE 31 29 (lineP 0 4 (lineP 5 4 (lineP 11 4 (lineP 16 12 (oneP 4 (oneP 9 (.take 10 (oneP 15 (.take 28 (oneP 29 .done)))))))))) (by rw [hcx]; exact mix) (by kernel_rfl) 60 ?_
  repeat' (first | refine ⟨_, ⟨rfl, rfl⟩, ?_⟩ | fail)
  refine ⟨?_, trivial⟩
  refine ⟨_, p.m, 0, rfl, hm _ rfl rfl, rfl, fun e0 c0 hl0 => ?_⟩
  refine oneNew_lst hl0 rfl ?_
  refine ⟨?_, trivial⟩
  refine ⟨_, p.m, 1, rfl, hm _ rfl rfl, rfl, fun e1 c1 hl1 => ?_⟩
  refine oneNew_lst hl1 rfl ?_
  repeat' (first | refine ⟨_, ⟨rfl, rfl⟩, ?_⟩ | fail)
  refine ⟨?_, trivial⟩
  refine ⟨_, p.m, rfl, hm _ rfl rfl, rfl, fun e2 c2 hl2 => ?_⟩
  refine oneNew_lst hl2 rfl ?_
  repeat' (first | refine ⟨_, ⟨rfl, rfl⟩, ?_⟩ | fail)
  refine ⟨⟨trivial, ?_⟩, trivial⟩
  exact ⟨31, c0, 32, c1, 33, c2, rfl, by decide, by decide, by decide, hl0, hl1, hl2⟩
end Go.Proofs.YtiihiifcnkfjoaaDoor.Sx

