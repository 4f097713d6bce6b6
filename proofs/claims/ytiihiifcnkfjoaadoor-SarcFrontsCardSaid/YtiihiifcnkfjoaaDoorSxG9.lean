import Derived.Test.YtiihiifcnkfjoaaDoorSxPn
import Derived.Test.YtiihiifcnkfjoaaDoorSxG8
/-
  The policy: what is known of it; functions that read it, and that write into it.
-/
namespace Go.Proofs.YtiihiifcnkfjoaaDoor.Sx
open Go Go.Proofs
set_option maxRecDepth 100000
set_option linter.unusedSimpArgs false
set_option linter.unusedVariables false

/-- How manieth a thing's last use was (the last use comes first); 0: it was never used. -/
def useN (i : Nat) : List Nat → Nat
  | [] => 0
  | x :: r => if x = i then r.length + 1 else useN i r
theorem useN_le (i : Nat) : ∀ l, useN i l ≤ l.length
  | [] => Nat.le_refl _
  | x :: r => by
    unfold useN
    have := useN_le i r
    split <;> simp <;> omega
/-- A policy: its shelf, Want, the counts, and the uses, the last one first. -/
structure Pol where
  m : Md
  want : Nat
  miss : Nat
  hits : Nat
  R : List Nat
/-- What every policy meets. -/
structure Pol.Fit (p : Pol) : Prop where
  want : p.want ≤ p.m.n
  miss : p.miss ≤ 63
  hits : p.hits ≤ 63
  few : p.R.length ≤ 100000
def gP (p : Pol) : Nat → Nat → V := fun _ c => match c with
  | 0 => .ptr 1 0 0
  | 1 => .int .i64 p.m.n
  | 2 => .int .i64 p.m.b
  | 3 => .slice 9 0 p.m.n p.m.n
  | 4 => .int .i64 p.R.length
  | 5 => .int .i64 p.want
  | 6 => .int .u64 p.miss
  | _ => .int .u64 p.hits
def gU (p : Pol) : Nat → Nat → V := fun i _ => .int .i64 (useN i p.R : Nat)
def gI : Nat → Nat → V := fun i _ => .int .i64 (i : Nat)
abbrev eP (b : Nat) (p : Pol) : Ent := .blk b 1 8 (gP p) 62
abbrev eU (b : Nat) (p : Pol) : Ent := .blk b p.m.n 1 (gU p) 3
abbrev eB : Ent := .ro (some ⟨0, 0, none⟩) 2 1 gI

theorem gP_rn {h' : Hp} {p : Pol} {c : Nat} (h1 : live h' 1) (h9 : live h' 9) (hc : c < 8) : rn (tau []) h' (gP p 0 c) (gP p 0 c) := by
  match c, hc with
  | 0, _ => exact ⟨⟨rfl, h1⟩, rfl, rfl⟩
  | 1, _ => exact ⟨rfl, rfl⟩
  | 2, _ => exact ⟨rfl, rfl⟩
  | 3, _ => exact ⟨⟨rfl, h9⟩, rfl, rfl, rfl⟩
  | 4, _ => exact ⟨rfl, rfl⟩
  | 5, _ => exact ⟨rfl, rfl⟩
  | 6, _ => exact ⟨rfl, rfl⟩
  | 7, _ => exact ⟨rfl, rfl⟩

/-- What a reader of a policy is handed. -/
abbrev HPR (bS bA bP bU : Nat) (s : Sh) (p : Pol) : Hp := [(1, .ro (some ⟨bS, 0, none⟩) 1 8 (gS 2 s.N s.bot s.E)), (2, .ro (some ⟨bA, 0, none⟩) s.N 5 (gA s.u s.d s.l s.lo s.he)), (8, .ro (some ⟨bP, 0, none⟩) 1 8 (gP p)), (9, .ro (some ⟨bU, 0, none⟩) p.m.n 1 (gU p)), (1000, eB)]
/-- What a writer is handed. -/
abbrev HPW (bS bA bP bU : Nat) (s : Sh) (p : Pol) : Hp := [(1, eS bS s), (2, eA bA s), (8, eP bP p), (9, eU bU p), (1000, eB)]
theorem HPR.wk {bS bA bP bU : Nat} {s : Sh} {p : Pol} : wkH (tau []) (HPR bS bA bP bU s p) (HPR bS bA bP bU s p) (HPR bS bA bP bU s p) :=
  ⟨⟨rfl, rfl, rfl, fun i c hi hc => by obtain rfl : i = 0 := (by omega); exact gS_rn ⟨rfl, trivial⟩⟩, ⟨rfl, rfl, rfl, fun i c hi hc => gA_rn hc⟩, ⟨rfl, rfl, rfl, fun i c hi hc => by obtain rfl : i = 0 := (by omega); exact gP_rn trivial trivial hc⟩, ⟨rfl, rfl, rfl, fun i c hi hc => ⟨rfl, rfl⟩⟩, ⟨rfl, rfl, rfl, fun i c hi hc => ⟨rfl, rfl⟩⟩, trivial⟩
theorem HPW.wk {bS bA bP bU : Nat} {s : Sh} {p : Pol} : wkH (tau []) (HPW bS bA bP bU s p) (HPW bS bA bP bU s p) (HPW bS bA bP bU s p) :=
  ⟨eS_wk ⟨rfl, trivial⟩, eA_wk rfl, ⟨rfl, rfl, rfl, rfl, fun i c hi hc => by obtain rfl : i = 0 := (by omega); exact gP_rn trivial trivial hc⟩, ⟨rfl, rfl, rfl, rfl, fun i c hi hc => ⟨rfl, rfl⟩⟩, ⟨rfl, rfl, rfl, fun i c hi hc => ⟨rfl, rfl⟩⟩, trivial⟩

/-- A policy lies at the tag 8, to a reader. -/
def pR (h : Hp) (p : Pol) : Prop := ∃ (bS bA bP bU : Nat) (s : Sh), Inv s p.m p.m.n ∧ fd 1 (roH h) = .ro (some ⟨bS, 0, none⟩) 1 8 (gS 2 s.N s.bot s.E) ∧ fd 2 (roH h) = .ro (some ⟨bA, 0, none⟩) s.N 5 (gA s.u s.d s.l s.lo s.he) ∧
  fd 8 (roH h) = .ro (some ⟨bP, 0, none⟩) 1 8 (gP p) ∧ fd 9 (roH h) = .ro (some ⟨bU, 0, none⟩) p.m.n 1 (gU p) ∧ fd 1000 (roH h) = eB
theorem HPR.r {bS bA bP bU : Nat} {s : Sh} {p : Pol} (hi : Inv s p.m p.m.n) : pR (HPR bS bA bP bU s p) p := ⟨bS, bA, bP, bU, s, hi, rfl, rfl, rfl, rfl, rfl⟩
theorem HPR.m {bS bA bP bU : Nat} {s : Sh} {p : Pol} (hi : Inv s p.m p.m.n) : mS (HPR bS bA bP bU s p) (.ptr 1 0 0) p.m := ⟨s, hi, 1, 2, bS, bA, _, _, rfl, by decide, rfl, rfl, fun c hc => rfl, fun i c hi hc => rfl⟩
theorem HPW.r {bS bA bP bU : Nat} {s : Sh} {p : Pol} (hi : Inv s p.m p.m.n) : pR (HPW bS bA bP bU s p) p := ⟨bS, bA, bP, bU, s, hi, rfl, rfl, rfl, rfl, rfl⟩
theorem HPW.m {bS bA bP bU : Nat} {s : Sh} {p : Pol} (hi : Inv s p.m p.m.n) : mS (HPW bS bA bP bU s p) (.ptr 1 0 0) p.m := hi.mS rfl rfl
theorem told_pol {h : Hp} {p : Pol} {rest : List V} (hp : pR h p) (hf : flatL rest) : ∃ (bS bA bP bU : Nat) (s : Sh), Inv s p.m p.m.n ∧ Told h (.ptr 8 0 0 :: rest) (HPR bS bA bP bU s p) (.ptr 8 0 0 :: rest) := by
  obtain ⟨bS, bA, bP, bU, s, hi, e1, e2, e3, e4, e5⟩ := hp
  refine ⟨bS, bA, bP, bU, s, hi, told_wk (tau []) rfl ⟨?_, ?_, ?_, ?_, ?_, trivial⟩ ⟨⟨⟨rfl, trivial⟩, rfl, rfl⟩, flatL_rn _ hf⟩⟩
  · show wkE _ _ (fd 1 (roH h)) _
    rw [e1]; exact ⟨rfl, rfl, rfl, fun i c hi hc => by obtain rfl : i = 0 := (by omega); exact gS_rn ⟨rfl, trivial⟩⟩
  · show wkE _ _ (fd 2 (roH h)) _
    rw [e2]; exact ⟨rfl, rfl, rfl, fun i c hi hc => gA_rn hc⟩
  · show wkE _ _ (fd 8 (roH h)) _
    rw [e3]; exact ⟨rfl, rfl, rfl, fun i c hi hc => by obtain rfl : i = 0 := (by omega); exact gP_rn trivial trivial hc⟩
  · show wkE _ _ (fd 9 (roH h)) _
    rw [e4]; exact ⟨rfl, rfl, rfl, fun i c hi hc => ⟨rfl, rfl⟩⟩
  · show wkE _ _ (fd 1000 (roH h)) _
    rw [e5]; exact ⟨rfl, rfl, rfl, fun i c hi hc => ⟨rfl, rfl⟩⟩

/-- What is known behind a writer. -/
abbrev GP (bS bA bP bU N n : Nat) (s' : Sh) (p' : Pol) : Hp := [(1, .blk bS 1 8 (gS 2 s'.N s'.bot s'.E) 84), (2, .blk bA N 5 (gA s'.u s'.d s'.l s'.lo s'.he) 86), (8, .blk bP 1 8 (gP p') 62), (9, .blk bU n 1 (gU p') 3)]
/-- The policy at the tag 8 is p, and then p'; the answer is v. -/
def pMut (h : Hp) (nx : Nat) (K : Out → Hp → Nat → Prop) (p p' : Pol) (v : V) : Prop :=
  ∃ (bS bA bP bU : Nat) (s : Sh), Inv s p.m p.m.n ∧ fd 1 h = eS bS s ∧ fd 2 h = eA bA s ∧ fd 8 h = eP bP p ∧ fd 9 h = eU bU p ∧ fd 1000 h = eB ∧
    ∀ s' : Sh, s'.N = s.N → Inv s' p'.m p'.m.n → K (.ret v) (GP bS bA bP bU s.N p.m.n s' p' ++ h) nx
def PolOut (h1 : Hp) (bS bA bP bU N : Nat) (p p' : Pol) : Prop := ∃ (s' : Sh) (gs ga gp gu : Nat → Nat → V), s'.N = N ∧ Inv s' p'.m p'.m.n ∧ fd 1 h1 = .blk bS 1 8 gs 84 ∧ fd 2 h1 = .blk bA N 5 ga 86 ∧ fd 8 h1 = .blk bP 1 8 gp 62 ∧ fd 9 h1 = .blk bU p.m.n 1 gu 3 ∧
  (∀ c, c < 8 → gs 0 c = gS 2 s'.N s'.bot s'.E 0 c) ∧ (∀ i c, i < N → c < 5 → ga i c = gA s'.u s'.d s'.l s'.lo s'.he i c) ∧ (∀ c, c < 8 → gp 0 c = gP p' 0 c) ∧ (∀ i, i < p.m.n → gu i 0 = gU p' i 0)

theorem specOK_pol {f : Nat} {fn : Func} {cd : Code} {SP : SpT} (hf : Tryd.prog.funcs[f]? = some fn) (hx : (fn.name == "runtime.NumGoroutine") = false) (hb : fn.body = some cd) (hS : ∀ p ∈ SP, SpecOK Tryd.prog p.1 p.2)
    (pre : List V → Pol → Pol → V → Prop) (hp : ∀ rest p p' v, pre rest p p' v → flatL rest ∧ flat v ∧ rest.length + 1 ≤ fn.ntmps)
    (hw : ∀ rest p p' v (bS bA bP bU : Nat) (s : Sh) c, pre rest p p' v → Inv s p.m p.m.n → c.P = Tryd.prog → W ⟨c, fn, T, SP, fun o h1 _ => o = .ret v ∧ PolOut h1 bS bA bP bU s.N p p'⟩ [.code cd] (argsS (.ptr 8 0 0 :: rest) 0) (HPW bS bA bP bU s p) 0) :
    SpecOK Tryd.prog f (fun args h nx K => ∃ rest p p' v, args = .ptr 8 0 0 :: rest ∧ pre rest p p' v ∧ pMut h nx K p p' v) := by
  refine specOK_mut hf hx hb T_ok hS _ ?_
  rintro args h nx K ⟨rest, p, p', v, rfl, hpre, bS, bA, bP, bU, s, hi, e1, e2, e3, e4, e5, hk⟩
  obtain ⟨hfl, hfv, hlen⟩ := hp _ _ _ _ hpre
  refine ⟨tau [], HPW bS bA bP bU s p, .ptr 8 0 0 :: rest, rfl, ⟨?_, ?_, ?_, ?_, ?_, trivial⟩, ⟨⟨⟨rfl, trivial⟩, rfl, rfl⟩, flatL_rn _ hfl⟩, by simpa using hlen, _, ?_, fun c hc => hw rest p p' v bS bA bP bU s c hpre hi hc⟩
  · show wkE _ _ (fd 1 h) _
    rw [e1]; exact eS_wk ⟨rfl, trivial⟩
  · show wkE _ _ (fd 2 h) _
    rw [e2]; exact eA_wk rfl
  · show wkE _ _ (fd 8 h) _
    rw [e3]; exact ⟨rfl, rfl, rfl, rfl, fun i c hi hc => by obtain rfl : i = 0 := (by omega); exact gP_rn trivial trivial hc⟩
  · show wkE _ _ (fd 9 h) _
    rw [e4]; exact ⟨rfl, rfl, rfl, rfl, fun i c hi hc => ⟨rfl, rfl⟩⟩
  · show wkE _ _ (fd 1000 h) _
    rw [e5]; exact ⟨rfl, rfl, rfl, fun i c hi hc => ⟨rfl, rfl⟩⟩
  · rintro o h1 ⟨rfl, s', gs, ga, gp, gu, hN, hi', f1, f2, f3, f4, c1, c2, c3, c4⟩
    refine ⟨tau [], GP bS bA bP bU s.N p.m.n s' p', .ret v, ⟨?_, ?_, ?_, flat_rn v hfv⟩, hk s' hN hi'⟩
    · intro q hq
      simp only [List.mem_cons, List.not_mem_nil, or_false] at hq
      rcases hq with rfl | rfl | rfl | rfl <;> exact fun q => by cases q
    · intro t b n sz g ty e
      have e' : fd t ((1, eS bS s) :: (2, eA bA s) :: (8, eP bP p) :: (9, eU bU p) :: (1000, eB) :: []) = .blk b n sz g ty := e
      simp only [fd_cons] at e'
      show live (GP bS bA bP bU s.N p.m.n s' p') t
      split at e'
      · rename_i q; subst q; trivial
      split at e'
      · rename_i q; subst q; trivial
      split at e'
      · rename_i q; subst q; trivial
      split at e'
      · rename_i q; subst q; trivial
      split at e' <;> cases e'
    · intro t hl
      have hl' : t = 1 ∨ t = 2 ∨ t = 8 ∨ t = 9 := by
        have hm := fd_mem hl
        have := List.mem_map_of_mem (f := (·.1)) hm
        simpa using this
      rcases hl' with rfl | rfl | rfl | rfl
      · exact ⟨1, bS, 1, 8, _, gs, _, 84, rfl, rfl, rfl, f1, rfl, fun i k hi hk => by obtain rfl : i = 0 := (by omega); rw [c1 k hk]; exact gS_rn ⟨rfl, trivial⟩⟩
      · exact ⟨2, bA, s.N, 5, _, ga, _, 86, rfl, rfl, rfl, f2, rfl, fun i k hi hk => by rw [c2 i k hi hk]; exact gA_rn hk⟩
      · exact ⟨8, bP, 1, 8, _, gp, _, 62, rfl, rfl, rfl, f3, rfl, fun i k hi hk => by obtain rfl : i = 0 := (by omega); rw [c3 k hk]; exact gP_rn trivial trivial hk⟩
      · exact ⟨9, bU, p.m.n, 1, _, gu, _, 3, rfl, rfl, rfl, f4, rfl, fun i k hi hk => by obtain rfl : k = 0 := (by omega); rw [c4 i hi]; exact ⟨rfl, rfl⟩⟩
end Go.Proofs.YtiihiifcnkfjoaaDoor.Sx

/-
  The policy: may a frame and a list be; how many could go.
-/
namespace Go.Proofs.YtiihiifcnkfjoaaDoor.Sx
open Go Go.Proofs
set_option maxRecDepth 100000
set_option linter.unusedSimpArgs false
set_option linter.unusedVariables false

theorem toRo_ro {x : Ent} {b : Option Addr} {n sz : Nat} {g : Nat → Nat → V} (h : x.toRo = .ro b n sz g) : x.toRo.toRo = .ro b n sz g := by rw [toRo_toRo]; exact h
theorem pR.ro {h : Hp} {p : Pol} (hp : pR h p) : pR (roH h) p := by
  obtain ⟨bS, bA, bP, bU, s, hi, e1, e2, e3, e4, e5⟩ := hp
  refine ⟨bS, bA, bP, bU, s, hi, ?_, ?_, ?_, ?_, ?_⟩ <;> rw [fd_roH]
  · rw [e1]; rfl
  · rw [e2]; rfl
  · rw [e3]; rfl
  · rw [e4]; rfl
  · rw [e5]; rfl
theorem pR.sh {h : Hp} {p : Pol} (hp : pR h p) : mS h (.ptr 1 0 0) p.m := by
  obtain ⟨bS, bA, bP, bU, s, hi, e1, e2, e3, e4, e5⟩ := hp
  exact ⟨s, hi, 1, 2, bS, bA, _, _, rfl, by decide, e1, e2, fun c hc => rfl, fun i c hi hc => rfl⟩
theorem pR.inv {h : Hp} {p : Pol} (hp : pR h p) : ∃ s, Inv s p.m p.m.n := by
  obtain ⟨bS, bA, bP, bU, s, hi, _⟩ := hp
  exact ⟨s, hi⟩

def Pol.mayI (p : Pol) (f l : Int) : Bool := p.m.isN f && rightB l
theorem mem01 (l : Int) : decide (l ∈ ([0, 1] : List Int)) = rightB l := by
  unfold rightB
  by_cases h0 : l = 0
  · subst h0; rfl
  · by_cases h1 : l = 1
    · subst h1; rfl
    · rw [decide_eq_false (by simp [h0, h1])]
      by_cases h : 0 ≤ l
      · rw [decide_eq_true h, decide_eq_false (by omega)]; rfl
      · rw [decide_eq_false h]; rfl
def sPMay : Spec := fun args h nx K => ∃ (p : Pol) (f l : Int), args = [.ptr 8 0 0, .int .i64 f, .int .i64 l] ∧ pR h p ∧ K (.ret (.bool (p.mayI f l))) h nx
theorem sPMay_ok : SpecOK Tryd.prog 44 sPMay := by
  refine specOK_read2 (fn := Tryd.f44) rfl rfl rfl T_ok (SP := [(48, sContains)]) (consSP sContains_ok noSP) 0 _ ?_
  rintro args h nx K ⟨p, f, l, rfl, hp, hk⟩
  obtain ⟨bS, bA, bP, bU, s, hi, told⟩ := told_pol (rest := [.int .i64 f, .int .i64 l]) hp ⟨trivial, trivial, trivial⟩
  refine ⟨_, _, told, by simp [Tryd.f44], fun o => o = .ret (.bool (p.mayI f l)), ?_, ?_⟩
  · rintro o rfl; exact ⟨trivial, hk⟩
  intro cx hcx
  clear hk told hp
  have hE := mkE' (fn := Tryd.f44) (R := fun o _ _ => o = .ret (.bool (p.mayI f l))) hcx (SP := [(48, sContains)]) (consSP sContains_ok noSP)
  refine vc_sound hE 200 _ _ _ 30 ?_
  (refine (?_ : br _ _ _); refine br_dec (fun q => ?_) (fun q => ?_))
  · have q1 : 0 ≤ f := q
    (refine (?_ : br _ _ _); refine br_dec (fun q => ?_) (fun q => ?_))
    · have q2 : f < (p.m.n : Int) := q
      refine ⟨.slice 1000 0 2 2, [0, 1], l, rfl, .inr ⟨1000, 0, 2, _, 2, gI, rfl, rfl, Nat.le_refl _, fun j hj => ?_⟩, by simp, ?_⟩
      · have hj : j < 2 := hj
        match j, hj with
        | 0, _ => rfl
        | 1, _ => rfl
      · exact outB (by unfold Pol.mayI Md.isN; rw [decide_eq_true q1, decide_eq_true q2, mem01]; rfl)
    · have q2 : ¬ f < (p.m.n : Int) := q
      exact outB (by unfold Pol.mayI Md.isN; rw [decide_eq_false q2, Bool.and_false]; rfl)
  · have q1 : ¬ 0 ≤ f := q
    exact outB (by unfold Pol.mayI Md.isN; rw [decide_eq_false q1]; rfl)

theorem oneNew_lst {e : Ent} {l : List Int} {cap : Nat} (hl : lstE e l cap) {h : Hp} {K : V → Hp → Nat → Prop} {v : V} {t nx : Nat} (hg : fd t h = .gone) (hk : K v ((t, e) :: h) nx) : oneNew h K v ((t, e) :: roH h) nx := by
  rcases hl with ⟨rfl, rfl, rfl⟩ | ⟨b, g, ty, rfl, h1, h2, h3, h4⟩
  · exact ⟨rfl, hg, hk⟩
  · exact ⟨rfl, hg, fun i c hi hc => (by obtain rfl : c = 0 := (by omega); exact h4 i hi), hk⟩

/-- How many frames could go. -/
def Pol.roomI (p : Pol) : Int := ((p.m.L 0).length : Int) + (p.m.L 1).length - p.m.held.length
def SPRo : SpT := [(38, mLen), (37, mHeld)]
theorem spro : ∀ p ∈ SPRo, SpecOK Tryd.prog p.1 p.2 := consSP mLen_ok (consSP mHeld_ok noSP)
def sPRoom : Spec := fun args h nx K => ∃ (p : Pol), args = [.ptr 8 0 0] ∧ pR h p ∧ K (.ret (.int .i64 p.roomI)) h nx
theorem sPRoom_ok : SpecOK Tryd.prog 16 sPRoom := by
  refine specOK_read2 (fn := Tryd.f16) rfl rfl rfl T_ok (SP := SPRo) spro 0 _ ?_
  rintro args h nx K ⟨p, rfl, hp, hk⟩
  obtain ⟨bS, bA, bP, bU, s, hi, told⟩ := told_pol (rest := []) hp trivial
  refine ⟨_, _, told, by simp [Tryd.f16], fun o => o = .ret (.int .i64 p.roomI), ?_, ?_⟩
  · rintro o rfl; exact ⟨trivial, hk⟩
  intro cx hcx
  clear hk told hp
  have hE := mkE' (fn := Tryd.f16) (R := fun o _ _ => o = .ret (.int .i64 p.roomI)) hcx spro
  have hm := (HPR.r (bS := bS) (bA := bA) (bP := bP) (bU := bU) hi).ro.sh
  refine vc_sound hE 5 _ _ _ 30 ?_
  refine W_plan hE 30 99 (lineP 0 15 (oneP 15 (lineP 16 3 .done))) (by rw [hcx]; exact mix) (by kernel_rfl) 60 ?_
  repeat' (first | refine ⟨_, ⟨rfl, rfl⟩, ?_⟩ | fail)
  refine ⟨.int .i64 (p.m.lenI 0), ⟨_, p.m, 0, rfl, hm, ⟨rfl, rfl⟩⟩, ?_⟩
  repeat' (first | refine ⟨_, ⟨rfl, rfl⟩, ?_⟩ | fail)
  refine ⟨.int .i64 (p.m.lenI 1), ⟨_, p.m, 1, rfl, hm, ⟨rfl, rfl⟩⟩, ?_⟩
  repeat' (first | refine ⟨_, ⟨rfl, rfl⟩, ?_⟩ | fail)
  refine ⟨?_, trivial⟩
  refine ⟨_, p.m, rfl, hm, rfl, fun e cp hl => ?_⟩
  refine oneNew_lst hl rfl ?_
  repeat' (first | refine ⟨_, ⟨rfl, rfl⟩, ?_⟩ | fail)
  have h0 := hi.lenq (q := 0) (by omega)
  have h1 := hi.lenq (q := 1) (by omega)
  have h2 : p.m.held.length ≤ p.m.n := by have := List.length_filter_le (fun i => p.m.H i) (List.range p.m.n); simpa [Md.held] using this
  have hn := hi.n2
  refine outI ?_
  show IntKind.i64.wrap (IntKind.i64.wrap (((p.m.L 0).length : Int) + ((p.m.L 1).length : Int)) - ((cI p.m.held).length : Int)) = _
  rw [cI_len]
  unfold Pol.roomI
  simp only [IntKind.wrap_i64]
  omega
end Go.Proofs.YtiihiifcnkfjoaaDoor.Sx

/-
  The policy: which of the lists' last ones goes.
-/
namespace Go.Proofs.YtiihiifcnkfjoaaDoor.Sx
open Go Go.Proofs
set_option maxRecDepth 100000
set_option linter.unusedSimpArgs false
set_option linter.unusedVariables false

theorem lastN_mem {H : Nat → Bool} : ∀ {l : List Nat} {x : Int}, lastN H l = (x, true) → ∃ j : Nat, x = j ∧ j ∈ l ∧ H j = false
  | [], x, h => by cases h
  | y :: l, x, h => by
    unfold lastN at h
    split at h
    · rename_i hy
      cases h
      exact ⟨y, rfl, by simp, hy⟩
    · obtain ⟨j, h1, h2, h3⟩ := lastN_mem h
      exact ⟨j, h1, by simp [h2], h3⟩
theorem Ok.last {m : Md} (hok : Ok m) {L : Int} (h : (m.lastI L).2 = true) : ∃ j : Nat, (m.lastI L).1 = j ∧ j < m.n ∧ m.H j = false ∧ ∃ q : Nat, q < 2 ∧ L = (q : Int) ∧ j ∈ m.L q := by
  have hr : rightB L = true := by
    cases e : rightB L with
    | true => rfl
    | false => unfold Md.lastI at h; rw [e] at h; cases h
  obtain ⟨q, rfl, hq⟩ := right_nat hr
  have e : m.lastI (q : Int) = lastN m.H (m.L q).reverse := by unfold Md.lastI; rw [if_pos hr, Int.toNat_natCast]
  rw [e] at h ⊢
  obtain ⟨j, h1, h2, h3⟩ := lastN_mem (x := (lastN m.H (m.L q).reverse).1) (by rw [← h])
  have h2 : j ∈ m.L q := by simpa using h2
  exact ⟨j, h1, hok.lt hq h2, h3, q, hq, rfl, h2⟩

def Pol.shortB (p : Pol) : Bool := decide (p.m.lenI 0 < p.m.b ∨ p.m.lenI 1 < p.m.b)
/-- Of the lists' last ones the one that goes. -/
def Pol.pickI (p : Pol) : Int × Bool :=
  if (p.m.lastI 0).2 = false then p.m.lastI 1
  else if (p.m.lastI 1).2 = false then ((p.m.lastI 0).1, true)
  else if p.shortB = true then (if useN (p.m.lastI 0).1.toNat p.R < useN (p.m.lastI 1).1.toNat p.R then ((p.m.lastI 0).1, true) else ((p.m.lastI 1).1, true))
  else if (p.want : Int) < p.m.lenI 0 then ((p.m.lastI 0).1, true) else ((p.m.lastI 1).1, true)

def SPPk : SpT := [(38, mLen), (61, mLast)]
theorem sppk : ∀ p ∈ SPPk, SpecOK Tryd.prog p.1 p.2 := consSP mLen_ok (consSP mLast_ok noSP)
def sPick : Spec := fun args h nx K => ∃ (p : Pol), args = [.ptr 8 0 0] ∧ pR h p ∧ K (.ret (.tup [.int .i64 p.pickI.1, .bool p.pickI.2])) h nx
theorem sPick_ok : SpecOK Tryd.prog 40 sPick := by
  refine specOK_read2 (fn := Tryd.f40) rfl rfl rfl T_ok (SP := SPPk) sppk 0 _ ?_
  rintro args h nx K ⟨p, rfl, hp, hk⟩
  obtain ⟨bS, bA, bP, bU, s, hi, told⟩ := told_pol (rest := []) hp trivial
  refine ⟨_, _, told, by simp [Tryd.f40], fun o => o = .ret (.tup [.int .i64 p.pickI.1, .bool p.pickI.2]), ?_, ?_⟩
  · rintro o rfl; exact ⟨⟨trivial, trivial, trivial⟩, hk⟩
  intro cx hcx
  clear hk told hp
  have hok : Ok p.m := ⟨s, hi⟩
  obtain ⟨A, hA⟩ : ∃ A, A = p.m.lastI 0 := ⟨_, rfl⟩
  obtain ⟨B, hB⟩ : ∃ B, B = p.m.lastI 1 := ⟨_, rfl⟩
  obtain ⟨X, hX⟩ : ∃ X, X = p.m.lenI 0 := ⟨_, rfl⟩
  obtain ⟨Y, hY⟩ : ∃ Y, Y = p.m.lenI 1 := ⟨_, rfl⟩
  obtain ⟨a, x⟩ := A
  obtain ⟨b, y⟩ := B
  have hE := mkE' (fn := Tryd.f40) (R := fun o _ _ => o = .ret (.tup [.int .i64 p.pickI.1, .bool p.pickI.2])) hcx sppk
  have hm : ∀ h : Hp, fd 1 (roH h) = .ro (some ⟨bS, 0, none⟩) 1 8 (gS 2 s.N s.bot s.E) → fd 2 (roH h) = .ro (some ⟨bA, 0, none⟩) s.N 5 (gA s.u s.d s.l s.lo s.he) → mS h (.ptr 1 0 0) p.m := fun h e1 e2 => ⟨s, hi, 1, 2, bS, bA, _, _, rfl, by decide, e1, e2, fun c hc => rfl, fun i c hi hc => rfl⟩
  obtain ⟨S, hS⟩ : ∃ S, S = p.shortB := ⟨_, rfl⟩
  -- what is known behind the loop
  let H : Nat → Nat → Hp := fun b1 b2 => HPR bS bA bP bU s p ++ [(20, .blk b1 2 1 (fun i _ => match i with | 0 => .int .i64 a | _ => .int .i64 b) 92), (21, .blk b2 2 1 (fun i _ => match i with | 0 => .bool x | _ => .bool y) 93)]
  refine W_seq (nx := 0) ?_
  refine W_to (nx := 0) [(0, .ptr 8 0 0)] (HPR bS bA bP bU s p) 30 ?_ ?_
  · refine vc_sound hE 20 _ _ _ 30 ?_
    exact ⟨tau [], rfl, (by repeat' (first | exact rfl | exact trivial | assumption | refine ⟨?_, ?_⟩)), HPR.wk⟩
  refine W_seq (nx := 30) ?_
  refine W_piece (nx := 30) (fun σ1 h1 _ => ∃ b1 : Nat, ∃ τ, wk τ σ1 h1 [(0, .ptr 8 0 0), (4, .ptr 20 0 0)] (HPR bS bA bP bU s p ++ [(20, .blk b1 2 1 (fun i _ => .int .i64 0) 92)])) ?_ ?_
  · refine vc_sound hE 20 _ _ _ 20 ?_
    intro b1
    exact ⟨b1, tau [], rfl, (by repeat' (first | exact rfl | exact trivial | assumption | refine ⟨?_, ?_⟩)), ⟨rfl, rfl, rfl, fun i c hi hc => by obtain rfl : i = 0 := (by omega); exact gS_rn ⟨rfl, trivial⟩⟩, ⟨rfl, rfl, rfl, fun i c hi hc => gA_rn hc⟩, ⟨rfl, rfl, rfl, fun i c hi hc => by obtain rfl : i = 0 := (by omega); exact gP_rn trivial trivial hc⟩, ⟨rfl, rfl, rfl, fun i c hi hc => ⟨rfl, rfl⟩⟩, ⟨rfl, rfl, rfl, fun i c hi hc => ⟨rfl, rfl⟩⟩, ⟨rfl, rfl, rfl, rfl, fun i c hi hc => by match i, hi, c, hc with | 0, _, 0, _ => exact ⟨rfl, rfl⟩ | 1, _, 0, _ => exact ⟨rfl, rfl⟩⟩, trivial⟩
  rintro σ1 h1 _ ⟨b1, τ1, hw1⟩
  refine W_weak (nx' := 30) τ1 hw1 ?_
  clear hw1
  refine W_seq (nx := 30) ?_
  refine W_piece (nx := 30) (fun σ1 h1 _ => ∃ b2 : Nat, ∃ τ, wk τ σ1 h1 [(0, .ptr 8 0 0), (4, .ptr 20 0 0), (5, .ptr 21 0 0)] (HPR bS bA bP bU s p ++ [(20, .blk b1 2 1 (fun i _ => .int .i64 0) 92), (21, .blk b2 2 1 (fun i _ => .bool false) 93)])) ?_ ?_
  · refine vc_sound hE 20 _ _ _ 21 ?_
    intro b1
    exact ⟨b1, tau [], rfl, (by repeat' (first | exact rfl | exact trivial | assumption | refine ⟨?_, ?_⟩)), ⟨rfl, rfl, rfl, fun i c hi hc => by obtain rfl : i = 0 := (by omega); exact gS_rn ⟨rfl, trivial⟩⟩, ⟨rfl, rfl, rfl, fun i c hi hc => gA_rn hc⟩, ⟨rfl, rfl, rfl, fun i c hi hc => by obtain rfl : i = 0 := (by omega); exact gP_rn trivial trivial hc⟩, ⟨rfl, rfl, rfl, fun i c hi hc => ⟨rfl, rfl⟩⟩, ⟨rfl, rfl, rfl, fun i c hi hc => ⟨rfl, rfl⟩⟩, ⟨rfl, rfl, rfl, rfl, fun i c hi hc => ⟨rfl, rfl⟩⟩, ⟨rfl, rfl, rfl, rfl, fun i c hi hc => by match i, hi, c, hc with | 0, _, 0, _ => exact rfl | 1, _, 0, _ => exact rfl⟩, trivial⟩
  rintro σ1 h1 _ ⟨b2, τ1, hw1⟩
  refine W_weak (nx' := 30) τ1 hw1 ?_
  clear hw1
  refine W_seq (nx := 30) ?_
  refine W_to (nx := 30) [(0, .ptr 8 0 0), (4, .ptr 20 0 0), (5, .ptr 21 0 0)] (H b1 b2) 30 ?_ ?_
  · refine vc_sound hE 8 _ _ _ 30 ?_
    refine W_unroll 3 30 ?_
    refine vc_sound hE 60 _ _ _ 30 ?_
    refine ⟨_, p.m, 0, rfl, hm _ rfl rfl, ?_⟩
    refine vc_sound hE 60 _ _ _ 30 ?_
    refine ⟨_, p.m, 1, rfl, hm _ rfl rfl, ?_⟩
    refine vc_sound hE 60 _ _ _ 30 ?_
    refine ⟨tau [], rfl, (by repeat' (first | exact rfl | exact trivial | assumption | refine ⟨?_, ?_⟩)), ⟨rfl, rfl, rfl, fun i c hi hc => by obtain rfl : i = 0 := (by omega); exact gS_rn ⟨rfl, trivial⟩⟩, ⟨rfl, rfl, rfl, fun i c hi hc => gA_rn hc⟩, ⟨rfl, rfl, rfl, fun i c hi hc => by obtain rfl : i = 0 := (by omega); exact gP_rn trivial trivial hc⟩, ⟨rfl, rfl, rfl, fun i c hi hc => ⟨rfl, rfl⟩⟩, ⟨rfl, rfl, rfl, fun i c hi hc => ⟨rfl, rfl⟩⟩, ⟨rfl, rfl, rfl, rfl, fun i c hi hc => ?_⟩, ⟨rfl, rfl, rfl, rfl, fun i c hi hc => ?_⟩, trivial⟩
    · match i, hi, c, hc with
      | 0, _, 0, _ => exact ⟨rfl, congrArg (·.1) hA.symm⟩
      | 1, _, 0, _ => exact ⟨rfl, congrArg (·.1) hB.symm⟩
    · match i, hi, c, hc with
      | 0, _, 0, _ => exact congrArg (·.2) hA.symm
      | 1, _, 0, _ => exact congrArg (·.2) hB.symm
  have hH : wkH (tau []) (H b1 b2) (H b1 b2) (H b1 b2) := ⟨⟨rfl, rfl, rfl, fun i c hi hc => by obtain rfl : i = 0 := (by omega); exact gS_rn ⟨rfl, trivial⟩⟩, ⟨rfl, rfl, rfl, fun i c hi hc => gA_rn hc⟩, ⟨rfl, rfl, rfl, fun i c hi hc => by obtain rfl : i = 0 := (by omega); exact gP_rn trivial trivial hc⟩, ⟨rfl, rfl, rfl, fun i c hi hc => ⟨rfl, rfl⟩⟩, ⟨rfl, rfl, rfl, fun i c hi hc => ⟨rfl, rfl⟩⟩, ⟨rfl, rfl, rfl, rfl, fun i c hi hc => by match i, hi, c, hc with | 0, _, 0, _ => exact ⟨rfl, rfl⟩ | 1, _, 0, _ => exact ⟨rfl, rfl⟩⟩, ⟨rfl, rfl, rfl, rfl, fun i c hi hc => by match i, hi, c, hc with | 0, _, 0, _ => exact rfl | 1, _, 0, _ => exact rfl⟩, trivial⟩
  refine W_seq (nx := 30) ?_
  refine W_to (nx := 30) [(0, .ptr 8 0 0), (5, .ptr 21 0 0), (8, .int .i64 a), (9, .int .i64 b)] (H b1 b2) 30 ?_ ?_
  · refine W_plan hE 30 99 (lineP 0 6 .done) (by rw [hcx]; exact mix) (by kernel_rfl) 60 ?_
    repeat' (first | refine ⟨_, ⟨rfl, rfl⟩, ?_⟩ | fail)
    exact ⟨tau [], rfl, (by repeat' (first | exact rfl | exact trivial | assumption | refine ⟨?_, ?_⟩)), hH⟩
  refine W_seq (nx := 30) ?_
  refine W_to (nx := 30) [(0, .ptr 8 0 0), (5, .ptr 21 0 0), (8, .int .i64 a), (9, .int .i64 b), (10, .bool S)] (H b1 b2) 30 ?_ ?_
  · refine W_plan hE 30 99 (lineP 0 17 .done) (by rw [hcx]; exact mix) (by kernel_rfl) 60 ?_
    repeat' (first | refine ⟨_, ⟨rfl, rfl⟩, ?_⟩ | fail)
    refine ⟨.int .i64 (p.m.lenI 0), ⟨_, p.m, 0, rfl, hm _ rfl rfl, ⟨rfl, rfl⟩⟩, ?_⟩
    repeat' (first | refine ⟨_, ⟨rfl, rfl⟩, ?_⟩ | fail)
    refine ⟨.int .i64 (p.m.lenI 1), ⟨_, p.m, 1, rfl, hm _ rfl rfl, ⟨rfl, rfl⟩⟩, ?_⟩
    repeat' (first | refine ⟨_, ⟨rfl, rfl⟩, ?_⟩ | fail)
    exact ⟨tau [], rfl, ⟨⟨⟨rfl, trivial⟩, rfl, rfl⟩, ⟨⟨rfl, trivial⟩, rfl, rfl⟩, ⟨rfl, rfl⟩, ⟨rfl, rfl⟩, (show decide ((if p.m.lenI 1 < p.m.lenI 0 then p.m.lenI 1 else p.m.lenI 0) < (p.m.b : Int)) = S by rw [hS]; unfold Pol.shortB; exact decide_eq_decide.2 (by split <;> omega)), trivial⟩, hH⟩
  have pk : ∀ u : Int × Bool, u = p.pickI → ∀ o, o = Out.ret (.tup [.int .i64 u.1, .bool u.2]) → o = .ret (.tup [.int .i64 p.pickI.1, .bool p.pickI.2]) := fun u e o q => by rw [← e]; exact q
  have pk0 := p
  cases x with
  | false =>
    refine vc_sound hE 60 _ _ _ 30 ?_
    refine W_plan hE 30 99 (lineP 0 5 .done) (by rw [hcx]; exact mix) (by kernel_rfl) 60 ?_
    repeat' (first | refine ⟨_, ⟨rfl, rfl⟩, ?_⟩ | fail)
    exact pk (b, y) (by unfold Pol.pickI; rw [← hA, if_pos rfl, ← hB]) _ rfl
  | true =>
  obtain ⟨ja, ea, hja, _⟩ := hok.last (L := 0) (by rw [← hA])
  rw [← hA] at ea
  have ea : a = (ja : Int) := ea
  subst ea
  cases y with
  | false =>
    refine vc_sound hE 60 _ _ _ 30 ?_
    exact pk ((ja : Int), true) (by unfold Pol.pickI; rw [← hA, if_neg (fun h : true = false => by cases h), ← hB, if_pos rfl]) _ rfl
  | true =>
  obtain ⟨jb, eb, hjb, _⟩ := hok.last (L := 1) (by rw [← hB])
  rw [← hB] at eb
  have eb : b = (jb : Int) := eb
  subst eb
  have za : addI 0 ((ja : Int)).toNat = ja := by rw [Int.toNat_natCast, addI_eq, Nat.zero_add]
  have zb : addI 0 ((jb : Int)).toNat = jb := by rw [Int.toNat_natCast, addI_eq, Nat.zero_add]
  cases S with
  | true =>
    refine vc_sound hE 60 _ _ _ 30 ?_
    refine W_plan hE 30 99 (lineP 0 19 .done) (by rw [hcx]; exact mix) (by kernel_rfl) 60 ?_
    repeat' (first | refine ⟨_, ⟨rfl, rfl⟩, ?_⟩ | fail)
    refine ⟨.ptr 9 (addI 0 ((ja : Int)).toNat) 0, (show chk _ _ from chk_ok (by simp; omega) (show chk _ _ from chk_ok rfl ⟨rfl, rfl⟩)), ?_⟩
    refine ⟨.int .i64 (useN (addI 0 ((ja : Int)).toNat) p.R : Nat), (show chk _ _ from chk_ok (Nat.ble_eq_true_of_le (show addI 0 ((ja : Int)).toNat * 1 + 0 + 1 ≤ p.m.n * 1 by rw [za]; omega)) ⟨rfl, rfl⟩), ?_⟩
    repeat' (first | refine ⟨_, ⟨rfl, rfl⟩, ?_⟩ | fail)
    refine ⟨.ptr 9 (addI 0 ((jb : Int)).toNat) 0, (show chk _ _ from chk_ok (by simp; omega) (show chk _ _ from chk_ok rfl ⟨rfl, rfl⟩)), ?_⟩
    refine ⟨.int .i64 (useN (addI 0 ((jb : Int)).toNat) p.R : Nat), (show chk _ _ from chk_ok (Nat.ble_eq_true_of_le (show addI 0 ((jb : Int)).toNat * 1 + 0 + 1 ≤ p.m.n * 1 by rw [zb]; omega)) ⟨rfl, rfl⟩), ?_⟩
    repeat' (first | refine ⟨_, ⟨rfl, rfl⟩, ?_⟩ | fail)
    (refine (?_ : br _ _ _); refine br_dec (fun q => ?_) (fun q => ?_))
    · have q1 : ((useN (addI 0 ((ja : Int)).toNat) p.R : Nat) : Int) < (useN (addI 0 ((jb : Int)).toNat) p.R : Nat) := q
      (refine (?_ : br _ _ _); refine br_decT q ?_)
      rw [za, zb] at q1
      exact pk ((ja : Int), true) (by unfold Pol.pickI; rw [← hA, if_neg (fun h : true = false => by cases h), ← hB, if_neg (fun h : true = false => by cases h), ← hS, if_pos rfl, if_pos (by simp only [Int.toNat_natCast]; omega)]) _ rfl
    · have q1 : ¬ ((useN (addI 0 ((ja : Int)).toNat) p.R : Nat) : Int) < (useN (addI 0 ((jb : Int)).toNat) p.R : Nat) := q
      rw [za, zb] at q1
      refine W_plan hE 30 99 (lineP 0 15 .done) (by rw [hcx]; exact mix) (by kernel_rfl) 60 ?_
      repeat' (first | refine ⟨_, ⟨rfl, rfl⟩, ?_⟩ | fail)
      exact pk ((jb : Int), true) (by unfold Pol.pickI; rw [← hA, if_neg (fun h : true = false => by cases h), ← hB, if_neg (fun h : true = false => by cases h), ← hS, if_pos rfl, if_neg (by simp only [Int.toNat_natCast]; omega)]) _ rfl
  | false =>
    refine vc_sound hE 60 _ _ _ 30 ?_
    refine W_plan hE 30 99 (lineP 0 19 .done) (by rw [hcx]; exact mix) (by kernel_rfl) 60 ?_
    repeat' (first | refine ⟨_, ⟨rfl, rfl⟩, ?_⟩ | fail)
    refine W_plan hE 30 99 (lineP 0 15 .done) (by rw [hcx]; exact mix) (by kernel_rfl) 60 ?_
    repeat' (first | refine ⟨_, ⟨rfl, rfl⟩, ?_⟩ | fail)
    refine ⟨.int .i64 (p.m.lenI 0), ⟨_, p.m, 0, rfl, hm _ rfl rfl, ⟨rfl, rfl⟩⟩, ?_⟩
    repeat' (first | refine ⟨_, ⟨rfl, rfl⟩, ?_⟩ | fail)
    (refine (?_ : br _ _ _); refine br_dec (fun q => ?_) (fun q => ?_))
    · have q1 : (p.want : Int) < p.m.lenI 0 := q
      exact pk ((ja : Int), true) (by unfold Pol.pickI; rw [← hA, if_neg (fun h : true = false => by cases h), ← hB, if_neg (fun h : true = false => by cases h), ← hS, if_neg (fun h : false = true => by cases h), if_pos q1]) _ rfl
    · have q1 : ¬ (p.want : Int) < p.m.lenI 0 := q
      exact pk ((jb : Int), true) (by unfold Pol.pickI; rw [← hA, if_neg (fun h : true = false => by cases h), ← hB, if_neg (fun h : true = false => by cases h), ← hS, if_neg (fun h : false = true => by cases h), if_neg q1]) _ rfl
end Go.Proofs.YtiihiifcnkfjoaaDoor.Sx

/-
  The policy: a frame is used; Want follows the counts.
-/
namespace Go.Proofs.YtiihiifcnkfjoaaDoor.Sx
open Go Go.Proofs
set_option maxRecDepth 100000
set_option linter.unusedSimpArgs false
set_option linter.unusedVariables false

/-- A frame is used, and the first of a list. -/
def Pol.frontP (p : Pol) (f l : Int) : Pol := { p with m := p.m.frontI l f, R := f.toNat :: p.R }
def prePFront : List V → Pol → Pol → V → Prop := fun rest p p' v => ∃ f l : Int, rest = [.int .i64 f, .int .i64 l] ∧ p.mayI f l = true ∧ p.R.length ≤ 100000 ∧ p' = p.frontP f l ∧ v = .tup []
abbrev PF : Spec := fun args h nx K => ∃ rest p p' v, args = .ptr 8 0 0 :: rest ∧ prePFront rest p p' v ∧ pMut h nx K p p' v
theorem pfront_ok : SpecOK Tryd.prog 46 PF := by
  refine specOK_pol (fn := Tryd.f46) rfl rfl rfl (SP := [(66, mFront)]) (consSP mFront_ok noSP) prePFront ?_ ?_
  · rintro rest p p' v ⟨f, l, rfl, _, _, rfl, rfl⟩
    exact ⟨⟨trivial, trivial, trivial⟩, trivial, by simp [Tryd.f46]⟩
  rintro rest p p' v bS bA bP bU s c ⟨f, l, rfl, hmay, hfew, rfl, rfl⟩ hi hc
  have hE := mkE' (fn := Tryd.f46) (R := fun o h1 _ => o = .ret (.tup []) ∧ PolOut h1 bS bA bP bU s.N p (p.frontP f l)) hc (SP := [(66, mFront)]) (consSP mFront_ok noSP)
  unfold Pol.mayI at hmay
  simp only [Bool.and_eq_true] at hmay
  obtain ⟨j, rfl, hj⟩ := isN_nat hmay.1
  have zj : addI 0 ((j : Int)).toNat = j := by rw [Int.toNat_natCast, addI_eq, Nat.zero_add]
  have hw : IntKind.i64.wrap ((p.R.length : Int) + 1) = ((p.R.length + 1 : Nat) : Int) := by simp [IntKind.wrap_i64]; omega
  refine vc_sound hE 30 _ _ _ 30 ?_
  refine W_plan hE 30 10 (lineP 0 10 (oneP 10 .done)) (by rw [hc]; exact mix) (by kernel_rfl) 60 ?_
  repeat' (first | refine ⟨_, ⟨rfl, rfl⟩, ?_⟩ | fail)
  refine ⟨.ptr 9 (addI 0 ((j : Int)).toNat) 0, (show chk _ _ from chk_ok (by simp; omega) (show chk _ _ from chk_ok rfl ⟨rfl, rfl⟩)), ?_⟩
  refine ⟨⟨trivial, ?_⟩, trivial⟩
  (refine (?_ : chk _ _); refine chk_ok (Nat.ble_eq_true_of_le (show addI 0 ((j : Int)).toNat * 1 + 0 + 1 ≤ p.m.n * 1 by rw [zj]; omega)) ?_)
  refine ⟨_, p.m, l, j, rfl, hi.mut rfl rfl fun s' hN hi' => ?_⟩
  refine ⟨rfl, s', _, _, _, _, hN, hi', rfl, rfl, rfl, rfl, fun c hc => rfl, fun i c hi hc => rfl, fun c hc => ?_, fun i hi => ?_⟩
  · have hn : (p.frontP j l).m.n = p.m.n := front_nb.1
    have hb : (p.frontP j l).m.b = p.m.b := front_nb.2
    match c, hc with
    | 0, _ => rfl
    | 1, _ => show V.int .i64 p.m.n = .int .i64 (p.frontP j l).m.n; rw [hn]
    | 2, _ => show V.int .i64 p.m.b = .int .i64 (p.frontP j l).m.b; rw [hb]
    | 3, _ => show V.slice 9 0 p.m.n p.m.n = .slice 9 0 (p.frontP j l).m.n (p.frontP j l).m.n; rw [hn]
    | 4, _ => exact congrArg (V.int .i64) hw
    | 5, _ => rfl
    | 6, _ => rfl
    | 7, _ => rfl
  · show putG 1 (gU p) (addI 0 ((j : Int)).toNat) 0 [.int .i64 (IntKind.i64.wrap ((p.R.length : Int) + 1))] i 0 = .int .i64 (useN i (((j : Int)).toNat :: p.R) : Nat)
    rw [putG_one (by omega) (by omega), zj, Int.toNat_natCast, hw]
    unfold useN
    by_cases e : i = j
    · subst e; rw [if_pos ⟨rfl, rfl⟩, if_pos rfl]
    · rw [if_neg (fun q => e q.1), if_neg (fun q => e q.symm)]; rfl

/-- Want follows the counts. -/
def Pol.wcmp (p : Pol) : Int := cmpI (p.miss * p.m.b : Nat) (p.hits * (p.m.L 0).length : Nat)
def Pol.want1 (p : Pol) : Nat := if p.wcmp = 1 then min (p.want + 1) p.m.n else if p.wcmp = -1 then p.want - 1 else p.want
def Pol.weighP (p : Pol) : Pol := { p with want := p.want1, miss := if 64 ≤ max p.miss p.hits then p.miss / 2 else p.miss, hits := if 64 ≤ max p.miss p.hits then p.hits / 2 else p.hits }
theorem cmpI_3 (a b : Int) : cmpI a b = 1 ∨ cmpI a b = -1 ∨ cmpI a b = 0 := by unfold cmpI; split; simp; split <;> simp
def prePWeigh : List V → Pol → Pol → V → Prop := fun rest p p' v => rest = [] ∧ p.miss ≤ 64 ∧ p.hits ≤ 64 ∧ p.want ≤ p.m.n ∧ p' = p.weighP ∧ v = .tup []
abbrev PW : Spec := fun args h nx K => ∃ rest p p' v, args = .ptr 8 0 0 :: rest ∧ prePWeigh rest p p' v ∧ pMut h nx K p p' v
def SPWe : SpT := [(38, mLen), (65, sCrossS)]
theorem spwe : ∀ p ∈ SPWe, SpecOK Tryd.prog p.1 p.2 := consSP mLen_ok (consSP sCrossS_ok noSP)
theorem gP_eq {p q : Pol} (hm : p.m = q.m) (hR : p.R = q.R) (hw : p.want = q.want) (h1 : p.miss = q.miss) (h2 : p.hits = q.hits) : p = q := by
  cases p; cases q; simp only at hm hR hw h1 h2; subst hm hR hw h1 h2; rfl
theorem pweigh_ok : SpecOK Tryd.prog 43 PW := by
  refine specOK_pol (fn := Tryd.f43) rfl rfl rfl (SP := SPWe) spwe prePWeigh ?_ ?_
  · rintro rest p p' v ⟨rfl, _, _, _, rfl, rfl⟩
    exact ⟨trivial, trivial, by simp [Tryd.f43]⟩
  rintro rest p p' v bS bA bP bU s c ⟨rfl, hmi, hhi, hwa, rfl, rfl⟩ hi hc
  have hE := mkE' (fn := Tryd.f43) (R := fun o h1 _ => o = .ret (.tup []) ∧ PolOut h1 bS bA bP bU s.N p p.weighP) hc spwe
  have hm := (HPW.r (bS := bS) (bA := bA) (bP := bP) (bU := bU) hi).ro.sh
  have hl0 := hi.lenq (q := 0) (by omega)
  have hn := hi.n2
  have hb := hi.b2
  obtain ⟨C, hC⟩ : ∃ C, C = p.wcmp := ⟨_, rfl⟩
  refine W_seq (nx := 0) ?_
  refine W_seq (nx := 0) ?_
  refine W_to (nx := 0) [(0, .ptr 8 0 0), (21, .int .i64 C)] (HPW bS bA bP bU s p) 30 ?_ ?_
  · refine W_plan hE 30 99 (lineP 0 20 .done) (by rw [hc]; exact mix) (by kernel_rfl) 60 ?_
    iterate 8 (refine ⟨_, ⟨rfl, rfl⟩, ?_⟩)
    refine ⟨.int .u64 p.m.b, ⟨congrArg (V.int .u64) (show IntKind.u64.wrap (p.m.b : Int) = p.m.b by simp only [IntKind.wrap_u64]; omega), rfl⟩, ?_⟩
    iterate 8 (refine ⟨_, ⟨rfl, rfl⟩, ?_⟩)
    refine ⟨.int .i64 (p.m.lenI 0), ⟨_, p.m, 0, rfl, hm, ⟨rfl, rfl⟩⟩, ?_⟩
    refine ⟨.int .u64 (p.m.L 0).length, ⟨congrArg (V.int .u64) (show IntKind.u64.wrap ((p.m.L 0).length : Int) = (p.m.L 0).length by simp only [IntKind.wrap_u64]; omega), rfl⟩, ?_⟩
    refine ⟨.int .i64 C, ⟨p.miss, p.m.b, p.hits, (p.m.L 0).length, rfl, by omega, by omega, by omega, by omega, ⟨by rw [hC]; rfl, rfl⟩⟩, ?_⟩
    exact ⟨tau [], rfl, (by repeat' (first | exact rfl | exact trivial | assumption | refine ⟨?_, ?_⟩)), HPW.wk⟩
  -- the block: Want
  let p1 : Pol := { p with want := p.want1 }
  have wkW : ∀ (g : Nat → Nat → V), (∀ c, c < 8 → g 0 c = gP p1 0 c) → wkH (tau []) ((8, .blk bP 1 8 g 62) :: HPW bS bA bP bU s p) (HPW bS bA bP bU s p1) (HPW bS bA bP bU s p1) := fun g hg =>
    ⟨eS_wk ⟨rfl, trivial⟩, eA_wk rfl, ⟨rfl, rfl, rfl, rfl, fun i c hi hc => by obtain rfl : i = 0 := (by omega); rw [hg c hc]; exact gP_rn trivial trivial hc⟩, ⟨rfl, rfl, rfl, rfl, fun i c hi hc => ⟨rfl, rfl⟩⟩, ⟨rfl, rfl, rfl, fun i c hi hc => ⟨rfl, rfl⟩⟩, trivial⟩
  refine W_to (nx := 30) [(0, .ptr 8 0 0)] (HPW bS bA bP bU s p1) 30 ?_ ?_
  · rcases (show C = 1 ∨ C = -1 ∨ C = 0 by rw [hC]; exact cmpI_3 _ _) with e | e | e
    · subst e
      refine vc_sound hE 40 _ _ _ 30 ?_
      refine W_plan hE 30 13 (lineP 0 13 (oneP 13 .done)) (by rw [hc]; exact mix) (by kernel_rfl) 60 ?_
      repeat' (first | refine ⟨_, ⟨rfl, rfl⟩, ?_⟩ | fail)
      refine ⟨⟨trivial, ?_⟩, trivial⟩
      refine ⟨tau [], rfl, (by repeat' (first | exact rfl | exact trivial | assumption | refine ⟨?_, ?_⟩)), wkW _ fun c hc => ?_⟩
      match c, hc with
      | 0, _ => rfl
      | 1, _ => rfl
      | 2, _ => rfl
      | 3, _ => rfl
      | 4, _ => rfl
      | 5, _ =>
        refine congrArg (V.int .i64) ?_
        show (if (p.m.n : Int) < IntKind.i64.wrap ((p.want : Int) + 1) then (p.m.n : Int) else IntKind.i64.wrap ((p.want : Int) + 1)) = ((p.want1 : Nat) : Int)
        have e5 : p.want1 = min (p.want + 1) p.m.n := by unfold Pol.want1; rw [← hC, if_pos rfl]
        rw [e5, show IntKind.i64.wrap ((p.want : Int) + 1) = (p.want : Int) + 1 by simp only [IntKind.wrap_i64]; omega]
        split <;> omega
      | 6, _ => rfl
      | 7, _ => rfl
    · subst e
      refine vc_sound hE 40 _ _ _ 30 ?_
      refine ⟨tau [], rfl, (by repeat' (first | exact rfl | exact trivial | assumption | refine ⟨?_, ?_⟩)), wkW _ fun c hc => ?_⟩
      match c, hc with
      | 0, _ => rfl
      | 1, _ => rfl
      | 2, _ => rfl
      | 3, _ => rfl
      | 4, _ => rfl
      | 5, _ =>
        refine congrArg (V.int .i64) ?_
        show mx (IntKind.i64.wrap ((p.want : Int) - 1)) 0 = ((p.want1 : Nat) : Int)
        have e5 : p.want1 = p.want - 1 := by unfold Pol.want1; rw [← hC, if_neg (by decide), if_pos rfl]
        unfold mx
        rw [e5, show IntKind.i64.wrap ((p.want : Int) - 1) = (p.want : Int) - 1 by simp only [IntKind.wrap_i64]; omega]
        split <;> omega
      | 6, _ => rfl
      | 7, _ => rfl
    · subst e
      refine vc_sound hE 40 _ _ _ 30 ?_
      have e1 : p1 = p := gP_eq rfl rfl (show p.want1 = p.want by unfold Pol.want1; rw [← hC, if_neg (by decide), if_neg (by decide)]) rfl rfl
      rw [e1]
      exact ⟨tau [], rfl, (by repeat' (first | exact rfl | exact trivial | assumption | refine ⟨?_, ?_⟩)), HPW.wk⟩
  refine W_seq (nx := 30) ?_
  obtain ⟨B, hB⟩ : ∃ B, B = decide (64 ≤ max p.miss p.hits) := ⟨_, rfl⟩
  refine W_to (nx := 30) [(0, .ptr 8 0 0), (57, .bool B)] (HPW bS bA bP bU s p1) 30 ?_ ?_
  · refine W_plan hE 30 99 (lineP 0 10 .done) (by rw [hc]; exact mix) (by kernel_rfl) 60 ?_
    repeat' (first | refine ⟨_, ⟨rfl, rfl⟩, ?_⟩ | fail)
    exact ⟨tau [], rfl, ⟨⟨⟨rfl, trivial⟩, rfl, rfl⟩, (show decide ((64 : Int) ≤ mx (p.miss : Int) (p.hits : Int)) = B by rw [hB]; unfold mx; exact decide_eq_decide.2 (by split <;> omega)), trivial⟩, HPW.wk⟩
  cases B with
  | false =>
    refine vc_sound hE 40 _ _ _ 30 ?_
    have e1 : p1 = p.weighP := gP_eq rfl rfl rfl (show p.miss = if 64 ≤ max p.miss p.hits then p.miss / 2 else p.miss by rw [if_neg (of_decide_eq_false hB.symm)]) (show p.hits = if 64 ≤ max p.miss p.hits then p.hits / 2 else p.hits by rw [if_neg (of_decide_eq_false hB.symm)])
    exact ⟨rfl, s, _, _, _, _, rfl, hi, rfl, rfl, rfl, rfl, fun c hc => rfl, fun i c hi hc => rfl, fun c hc => by rw [e1], fun i hi => rfl⟩
  | true =>
    refine vc_sound hE 40 _ _ _ 30 ?_
    refine W_planw hE 30 [14, 17] (lineP 0 14 (oneP 14 (oneP 15 (.take 16 (oneP 17 .done))))) (by rw [hc]; exact mix) (by kernel_rfl) 60 ?_
    repeat' (first | refine ⟨_, ⟨rfl, rfl⟩, ?_⟩ | fail)
    refine ⟨⟨trivial, ?_⟩, trivial⟩
    refine ⟨⟨trivial, ?_⟩, trivial⟩
    refine ⟨_, ⟨rfl, rfl⟩, ?_⟩
    refine ⟨⟨trivial, ?_⟩, trivial⟩
    have hd := of_decide_eq_true hB.symm
    refine ⟨rfl, s, _, _, _, _, rfl, hi, rfl, rfl, rfl, rfl, fun c hc => rfl, fun i c hi hc => rfl, fun c hc => ?_, fun i hi => rfl⟩
    match c, hc with
    | 0, _ => rfl
    | 1, _ => rfl
    | 2, _ => rfl
    | 3, _ => rfl
    | 4, _ => rfl
    | 5, _ => rfl
    | 6, _ =>
      refine congrArg (V.int .u64) ?_
      show IntKind.u64.wrap ((p.miss : Int).tdiv 2) = ((if 64 ≤ max p.miss p.hits then p.miss / 2 else p.miss : Nat) : Int)
      rw [if_pos hd, Int.tdiv_eq_ediv_of_nonneg (by omega)]
      simp only [IntKind.wrap_u64]
      omega
    | 7, _ =>
      refine congrArg (V.int .u64) ?_
      show IntKind.u64.wrap ((p.hits : Int).tdiv 2) = ((if 64 ≤ max p.miss p.hits then p.hits / 2 else p.hits : Nat) : Int)
      rw [if_pos hd, Int.tdiv_eq_ediv_of_nonneg (by omega)]
      simp only [IntKind.wrap_u64]
      omega
end Go.Proofs.YtiihiifcnkfjoaaDoor.Sx

