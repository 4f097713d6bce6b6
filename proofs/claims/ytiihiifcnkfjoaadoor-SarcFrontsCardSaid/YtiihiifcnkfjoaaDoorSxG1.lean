import Derived.Test.YtiihiifcnkfjoaaDoorSxLs
import Derived.Test.YtiihiifcnkfjoaaDoorSxT
/-
  The walks of this seat's functions, first part: what is known of a shelf; its readers.
-/
namespace Go.Proofs.YtiihiifcnkfjoaaDoor.Sx
open Go Go.Proofs
set_option maxRecDepth 100000
set_option linter.unusedSimpArgs false
set_option linter.unusedVariables false

theorem mix : Tryd.prog.follows .mixedOrders = true := by kernel_rfl
theorem noSP {P : Program} : ∀ p ∈ ([] : SpT), SpecOK P p.1 p.2 := by intro p hp; cases hp
theorem consSP {P : Program} {f : Nat} {s : Spec} {l : SpT} (h : SpecOK P f s) (k : ∀ p ∈ l, SpecOK P p.1 p.2) : ∀ p ∈ (f, s) :: l, SpecOK P p.1 p.2 := by
  intro p hp
  rcases List.mem_cons.1 hp with rfl | hp
  · exact h
  · exact k p hp

theorem vrel_ro {h : Hp} {v : V} {x : Value} (r : vrel h v x) : vrel (roH h) v x := vrel_mono (fun t r e => by rw [fd_roH, Ent.toRo_rf]; exact e) v x r
theorem vrelL_ro {h : Hp} {l : List V} {xs : List Value} (r : vrelL h l xs) : vrelL (roH h) l xs := vrelL_mono (fun t r e => by rw [fd_roH, Ent.toRo_rf]; exact e) l xs r
/-- What is known, told anew, to a reader. -/
theorem told_wk {h G : Hp} {args args' : List V} (τ : Nat → Nat) (hn : nodupB ((G.map (·.1)).map τ) = true) (hw : wkH τ (roH h) G G) (ha : rnL τ G args args') : Told h args G args' :=
  ⟨fun hr hv => ⟨wk_rel hn hw hr.ro, rnL_rel (fun t' hl => wkE_rf (wkH_at hw _ _ (fd_mem hl)) hl) _ _ _ ha (vrelL_ro hv)⟩⟩

/-- A shelf's own cells, and its nodes'. -/
def gS (t N : Nat) (bot : Int) (E : Nat → Int) : Nat → Nat → V := fun _ c => match c with
  | 0 => .slice t 0 N N
  | 1 => .int .i64 bot
  | c + 2 => .int .i64 (E c)
def gA (u d l : Nat → Int) (lo he : Nat → Bool) : Nat → Nat → V := fun i c => match c with
  | 0 => .int .i64 (u i)
  | 1 => .int .i64 (d i)
  | 2 => .int .i64 (l i)
  | 3 => .bool (lo i)
  | _ => .bool (he i)

/-- What a shelf's rows hold: nodes and guards, N of them; the bottom's size; the ends; neighbours, lists, low, held. -/
structure Sh where
  N : Nat
  bot : Int
  E : Nat → Int
  u : Nat → Int
  d : Nat → Int
  l : Nat → Int
  lo : Nat → Bool
  he : Nat → Bool
def shelf (h : Hp) (p : V) (s : Sh) : Prop :=
  ∃ tS tA bS bA gs ga, p = .ptr tS 0 0 ∧ tS ≠ tA ∧ fd tS h = .blk bS 1 8 gs 84 ∧ fd tA h = .blk bA s.N 5 ga 86 ∧ (∀ c, c < 8 → gs 0 c = gS tA s.N s.bot s.E 0 c) ∧ (∀ i c, i < s.N → c < 5 → ga i c = gA s.u s.d s.l s.lo s.he i c)

/-- The same, to a reader. -/
def shelfR (h : Hp) (p : V) (s : Sh) : Prop :=
  ∃ tS tA bS bA gs ga, p = .ptr tS 0 0 ∧ tS ≠ tA ∧ fd tS (roH h) = .ro (some ⟨bS, 0, none⟩) 1 8 gs ∧ fd tA (roH h) = .ro (some ⟨bA, 0, none⟩) s.N 5 ga ∧ (∀ c, c < 8 → gs 0 c = gS tA s.N s.bot s.E 0 c) ∧ (∀ i c, i < s.N → c < 5 → ga i c = gA s.u s.d s.l s.lo s.he i c)
theorem shelf.r {h : Hp} {p : V} {s : Sh} (hs : shelf h p s) : shelfR h p s := by
  obtain ⟨tS, tA, bS, bA, gs, ga, rfl, hne, e1, e2, h1, h2⟩ := hs
  exact ⟨tS, tA, bS, bA, gs, ga, rfl, hne, by rw [fd_roH, e1]; rfl, by rw [fd_roH, e2]; rfl, h1, h2⟩

theorem gS_rn {τ : Nat → Nat} {h' : Hp} {t t' N : Nat} {bot : Int} {E : Nat → Int} {c : Nat} (ht : t = τ t' ∧ live h' t') : rn τ h' (gS t N bot E 0 c) (gS t' N bot E 0 c) := by
  match c with
  | 0 => exact ⟨ht, rfl, rfl, rfl⟩
  | 1 => exact ⟨rfl, rfl⟩
  | c + 2 => exact ⟨rfl, rfl⟩
theorem gA_rn {τ : Nat → Nat} {h' : Hp} {u d l : Nat → Int} {lo he : Nat → Bool} {i c : Nat} (hc : c < 5) : rn τ h' (gA u d l lo he i c) (gA u d l lo he i c) := by
  match c, hc with
  | 0, _ => exact ⟨rfl, rfl⟩
  | 1, _ => exact ⟨rfl, rfl⟩
  | 2, _ => exact ⟨rfl, rfl⟩
  | 3, _ => rfl
  | 4, _ => rfl


/-- A shelf, told anew to a reader: its tags are 2000 and 2001. -/
theorem told_shelf {h : Hp} {p : V} {s : Sh} {rest : List V} (hs : shelfR h p s) (hf : flatL rest) : ∃ (bS bA : Nat),
    Told h (p :: rest) [(2000, .ro (some ⟨bS, 0, none⟩) 1 8 (gS 2001 s.N s.bot s.E)), (2001, .ro (some ⟨bA, 0, none⟩) s.N 5 (gA s.u s.d s.l s.lo s.he))] (.ptr 2000 0 0 :: rest) := by
  obtain ⟨tS, tA, bS, bA, gs, ga, rfl, hne, e1, e2, h1, h2⟩ := hs
  refine ⟨bS, bA, told_wk (tau [(2000, tS), (2001, tA)]) ?_ ?_ ?_⟩
  · show nodupB [tS, tA] = true
    simp only [nodupB, memB]
    rw [beq_ne hne]
  · refine ⟨?_, ?_, trivial⟩
    · show wkE _ _ (fd tS (roH h)) _
      rw [e1]
      refine ⟨rfl, rfl, rfl, fun i c hi hc => ?_⟩
      obtain rfl : i = 0 := by omega
      rw [h1 c hc]
      exact gS_rn ⟨rfl, trivial⟩
    · show wkE _ _ (fd tA (roH h)) _
      rw [e2]
      refine ⟨rfl, rfl, rfl, fun i c hi hc => ?_⟩
      rw [h2 i c hi hc]
      exact gA_rn hc
  · refine ⟨⟨⟨rfl, trivial⟩, rfl, rfl⟩, ?_⟩
    exact flatL_rn _ hf

def sRight : Spec := fun args h nx K => match args with
  | [.int .i64 q] => K (.ret (.bool (decide (0 ≤ q) && decide (q < 2)))) h nx
  | _ => False
theorem sRight_ok : SpecOK Tryd.prog 58 sRight := by
  refine specOK_pure (fn := Tryd.f58) rfl rfl rfl T_ok (SP := []) noSP [] trivial 100 _ ?_
  intro args h nx K hs
  unfold sRight at hs
  split at hs
  · rename_i q
    refine ⟨trivial, by repeat constructor, by simp [Tryd.f58], fun o => o = .ret (.bool (decide (0 ≤ q) && decide (q < 2))), ?_, ?_⟩
    · rintro o rfl; exact ⟨trivial, hs⟩
    intro c hc
    (refine (?_ : br _ _ _); refine br_dec (fun e => ?_) (fun e => ?_))
    · have e : 0 ≤ q := e
      exact outB (by rw [decide_eq_true e, Bool.true_and])
    · have e : ¬ 0 ≤ q := e
      exact outB (by rw [decide_eq_false e, Bool.false_and])
  · exact hs.elim

/-- The number of nodes that are none of the lists' own. -/
def Sh.n (s : Sh) : Int := IntKind.i64.wrap ((s.N : Int) - 2)
def sGuard : Spec := fun args h nx K => ∃ (p : V) (s : Sh) (q : Int), args = [p, .int .i64 q] ∧ shelfR h p s ∧ K (.ret (.int .i64 (IntKind.i64.wrap (s.n + q)))) h nx
theorem sGuard_ok : SpecOK Tryd.prog 49 sGuard := by
  refine specOK_read2 (fn := Tryd.f49) rfl rfl rfl T_ok (SP := []) noSP 100 _ ?_
  rintro args h nx K ⟨p, s, q, rfl, hs, hk⟩
  obtain ⟨bS, bA, told⟩ := told_shelf (rest := [.int .i64 q]) hs ⟨trivial, trivial⟩
  refine ⟨_, _, told, by simp [Tryd.f49], fun o => o = .ret (.int .i64 (IntKind.i64.wrap (s.n + q))), ?_, ?_⟩
  · rintro o rfl; exact ⟨trivial, hk⟩
  intro c hc
  clear hk told hs
  rfl
def isB (s : Sh) (k : Int) : Bool := decide (0 ≤ k) && decide (k < s.n)
def sIs : Spec := fun args h nx K => ∃ (p : V) (s : Sh) (k : Int), args = [p, .int .i64 k] ∧ shelfR h p s ∧ K (.ret (.bool (isB s k))) h nx
theorem sIs_ok : SpecOK Tryd.prog 73 sIs := by
  refine specOK_read2 (fn := Tryd.f73) rfl rfl rfl T_ok (SP := []) noSP 100 _ ?_
  rintro args h nx K ⟨p, s, q, rfl, hs, hk⟩
  obtain ⟨bS, bA, told⟩ := told_shelf (rest := [.int .i64 q]) hs ⟨trivial, trivial⟩
  refine ⟨_, _, told, by simp [Tryd.f73], fun o => o = .ret (.bool (isB s q)), ?_, ?_⟩
  · rintro o rfl; exact ⟨trivial, hk⟩
  intro c hc
  clear hk told hs
  (refine (?_ : br _ _ _); refine br_dec (fun e => ?_) (fun e => ?_))
  · have e : 0 ≤ q := e
    exact outB (by rw [isB, decide_eq_true e, Bool.true_and]; rfl)
  · have e : ¬ 0 ≤ q := e
    exact outB (by rw [isB, decide_eq_false e, Bool.false_and])

/-- May it be asked of a node? -/
def liesI (s : Sh) (k : Int) : Int := if isB s k = false then 1 else if s.l k.toNat < 0 then 3 else 0
def sLies : Spec := fun args h nx K => ∃ (p : V) (s : Sh) (k : Int), args = [p, .int .i64 k] ∧ shelfR h p s ∧ s.n ≤ s.N ∧ K (.ret (.int .i64 (liesI s k))) h nx
theorem sLies_ok : SpecOK Tryd.prog 62 sLies := by
  refine specOK_read2 (fn := Tryd.f62) rfl rfl rfl T_ok (SP := [(73, sIs)]) (consSP sIs_ok noSP) 100 _ ?_
  rintro args h nx K ⟨p, s, k, rfl, hs, hN, hk⟩
  obtain ⟨bS, bA, told⟩ := told_shelf (rest := [.int .i64 k]) hs ⟨trivial, trivial⟩
  refine ⟨_, _, told, by simp [Tryd.f62], fun o => o = .ret (.int .i64 (liesI s k)), ?_, ?_⟩
  · rintro o rfl; exact ⟨trivial, hk⟩
  intro c hc
  clear hk told hs
  refine ⟨_, s, k, rfl, ⟨2000, 2001, bS, bA, _, _, rfl, by decide, rfl, rfl, fun c hc => rfl, fun i c hi hc => rfl⟩, ?_⟩
  (refine (?_ : br _ _ _); refine br_not (br_both (fun e => ?_) (fun e => ?_)))
  · have e : isB s k = true := e
    have e2 := e
    unfold isB at e2
    simp only [Bool.and_eq_true, decide_eq_true_eq] at e2
    repeat' ((refine (?_ : chk _ _)); (first
      | refine chk_ok rfl ?_
      | refine chk_ok (by simp only [Bool.and_eq_true, decide_eq_true_eq]; omega) ?_
      | refine chk_ok (Nat.ble_eq_true_of_le (show addI 0 k.toNat * 5 + (0 + 2) + 1 ≤ s.N * 5 by rw [addI_eq]; omega)) ?_))
    have ek : addI 0 k.toNat = k.toNat := by rw [addI_eq, Nat.zero_add]
    (refine (?_ : br _ _ _); refine br_dec (fun e3 => ?_) (fun e3 => ?_))
    · have e3 : s.l (addI 0 k.toNat) < 0 := e3
      rw [ek] at e3
      exact outI (by rw [liesI, e, if_neg (by decide), if_pos e3])
    · have e3 : ¬ s.l (addI 0 k.toNat) < 0 := e3
      rw [ek] at e3
      exact outI (by rw [liesI, e, if_neg (by decide), if_neg e3])
  · have e : isB s k = false := e
    exact outI (by rw [liesI, if_pos e])
end Go.Proofs.YtiihiifcnkfjoaaDoor.Sx

/-
  Functions that write into a shelf: what is known of them.
-/
namespace Go.Proofs.YtiihiifcnkfjoaaDoor.Sx
open Go Go.Proofs
set_option maxRecDepth 100000
set_option linter.unusedSimpArgs false
set_option linter.unusedVariables false

/-- These rows hold the shelf s. -/
def cells (tA : Nat) (s : Sh) (gs ga : Nat → Nat → V) : Prop := (∀ c, c < 8 → gs 0 c = gS tA s.N s.bot s.E 0 c) ∧ ∀ i c, i < s.N → c < 5 → ga i c = gA s.u s.d s.l s.lo s.he i c
/-- The shelf s that lies at p becomes s', the answer is v. -/
def sMut (h : Hp) (nx : Nat) (K : Out → Hp → Nat → Prop) (p : V) (s s' : Sh) (v : V) : Prop :=
  ∃ tS tA bS bA gs ga, p = .ptr tS 0 0 ∧ tS ≠ tA ∧ fd tS h = .blk bS 1 8 gs 84 ∧ fd tA h = .blk bA s.N 5 ga 86 ∧ cells tA s gs ga ∧
    K (.ret v) ((tS, .blk bS 1 8 (gS tA s'.N s'.bot s'.E) 84) :: (tA, .blk bA s.N 5 (gA s'.u s'.d s'.l s'.lo s'.he) 86) :: h) nx

theorem specOK_shelf {P : Program} {f : Nat} {fn : Func} {cd : Code} {T : Tab} {SP : SpT} (hf : P.funcs[f]? = some fn) (hx : (fn.name == "runtime.NumGoroutine") = false) (hb : fn.body = some cd) (hT : TabOK P T) (hS : ∀ p ∈ SP, SpecOK P p.1 p.2)
    (pre : List V → Sh → Sh → V → Prop) (hp : ∀ rest s s' v, pre rest s s' v → flatL rest ∧ flat v ∧ s'.N = s.N ∧ rest.length + 1 ≤ fn.ntmps)
    (hw : ∀ rest s s' v (bS bA : Nat) c, pre rest s s' v → c.P = P → W ⟨c, fn, T, SP, fun o h1 _ => o = .ret v ∧ ∃ gs ga, fd 2000 h1 = .blk bS 1 8 gs 84 ∧ fd 2001 h1 = .blk bA s.N 5 ga 86 ∧ cells 2001 s' gs ga⟩ [.code cd] (argsS (.ptr 2000 0 0 :: rest) 0)
      [(2000, .blk bS 1 8 (gS 2001 s.N s.bot s.E) 84), (2001, .blk bA s.N 5 (gA s.u s.d s.l s.lo s.he) 86)] 0) :
    SpecOK P f (fun args h nx K => ∃ p rest s s' v, args = p :: rest ∧ pre rest s s' v ∧ sMut h nx K p s s' v) := by
  refine specOK_mut hf hx hb hT hS _ ?_
  rintro args h nx K ⟨p, rest, s, s', v, rfl, hpre, tS, tA, bS, bA, gs, ga, rfl, hne, e1, e2, ⟨c1, c2⟩, hk⟩
  obtain ⟨hfl, hfv, hN, hlen⟩ := hp _ _ _ _ hpre
  refine ⟨tau [(2000, tS), (2001, tA)], [(2000, .blk bS 1 8 (gS 2001 s.N s.bot s.E) 84), (2001, .blk bA s.N 5 (gA s.u s.d s.l s.lo s.he) 86)], .ptr 2000 0 0 :: rest, ?_, ?_, ?_, by simpa using hlen, _, ?_, fun c hc => hw rest s s' v bS bA c hpre hc⟩
  · show nodupB [tS, tA] = true
    simp only [nodupB, memB]
    rw [beq_ne hne]
  · refine ⟨?_, ?_, trivial⟩
    · show wkE _ _ (fd tS h) _
      rw [e1]
      refine ⟨rfl, rfl, rfl, rfl, fun i c hi hc => ?_⟩
      obtain rfl : i = 0 := by omega
      rw [c1 c hc]
      exact gS_rn ⟨rfl, trivial⟩
    · show wkE _ _ (fd tA h) _
      rw [e2]
      refine ⟨rfl, rfl, rfl, rfl, fun i c hi hc => ?_⟩
      rw [c2 i c hi hc]
      exact gA_rn hc
  · exact ⟨⟨⟨rfl, trivial⟩, rfl, rfl⟩, flatL_rn _ hfl⟩
  · rintro o h1 ⟨rfl, gs1, ga1, f1, f2, d1, d2⟩
    have hfS : fd tS [(tS, Ent.blk bS 1 8 (gS tA s'.N s'.bot s'.E) 84), (tA, .blk bA s.N 5 (gA s'.u s'.d s'.l s'.lo s'.he) 86)] = .blk bS 1 8 (gS tA s'.N s'.bot s'.E) 84 := by rw [fd_cons, if_pos rfl]
    have hfA : fd tA [(tS, Ent.blk bS 1 8 (gS tA s'.N s'.bot s'.E) 84), (tA, .blk bA s.N 5 (gA s'.u s'.d s'.l s'.lo s'.he) 86)] = .blk bA s.N 5 (gA s'.u s'.d s'.l s'.lo s'.he) 86 := by rw [fd_cons, if_neg (fun q => hne q.symm), fd_cons, if_pos rfl]
    have hbt : tau [(tS, 2000), (tA, 2001)] tS = 2000 := by simp [tau]
    have hbA : tau [(tS, 2000), (tA, 2001)] tA = 2001 := by
      unfold tau
      rw [beq_ne (fun q => hne q.symm)]
      simp [tau]
    refine ⟨tau [(tS, 2000), (tA, 2001)], [(tS, .blk bS 1 8 (gS tA s'.N s'.bot s'.E) 84), (tA, .blk bA s.N 5 (gA s'.u s'.d s'.l s'.lo s'.he) 86)], .ret v, ⟨?_, ?_, ?_, flat_rn v hfv⟩, ?_⟩
    · intro p hp
      simp only [List.mem_cons, List.not_mem_nil, or_false] at hp
      rcases hp with rfl | rfl <;> exact fun q => by cases q
    · intro t b n sz g ty e
      rw [fd_cons] at e
      split at e
      · rename_i ht
        subst ht
        show live _ tS
        unfold live; rw [hfS]; trivial
      · rw [fd_cons] at e
        split at e
        · rename_i ht
          subst ht
          show live _ tA
          unfold live; rw [hfA]; trivial
        · cases e
    · intro t hl
      unfold live at hl
      by_cases q1 : t = tS
      · subst q1
        refine ⟨2000, bS, 1, 8, _, gs1, _, 84, rfl, hbt, rfl, f1, hfS, fun i k hi hk => ?_⟩
        obtain rfl : i = 0 := by omega
        rw [d1 k hk]
        exact gS_rn ⟨hbA.symm, by unfold live; rw [hfA]; trivial⟩
      · by_cases q2 : t = tA
        · subst q2
          refine ⟨2001, bA, s.N, 5, _, ga1, _, 86, rfl, hbA, rfl, f2, hfA, fun i k hi hk => ?_⟩
          rw [d2 i k (by rw [hN]; exact hi) hk]
          exact gA_rn hk
        · rw [fd_cons, if_neg q1, fd_cons, if_neg q2] at hl
          exact hl.elim
    · exact hk
end Go.Proofs.YtiihiifcnkfjoaaDoor.Sx

/-
  The walks of this seat's functions: a node is held; a node is taken out of its list.
-/
namespace Go.Proofs.YtiihiifcnkfjoaaDoor.Sx
open Go Go.Proofs
set_option maxRecDepth 100000
set_option linter.unusedSimpArgs false
set_option linter.unusedVariables false

def updI (f : Nat → Int) (a : Nat) (v : Int) : Nat → Int := fun i => if i = a then v else f i
def updB (f : Nat → Bool) (a : Nat) (v : Bool) : Nat → Bool := fun i => if i = a then v else f i

section
variable {g : Nat → Nat → V} {u d l : Nat → Int} {lo he : Nat → Bool} {N : Nat} (hg : ∀ i c, i < N → c < 5 → g i c = gA u d l lo he i c)
include hg
theorem put0 (a : Nat) (v : Int) : ∀ i c, i < N → c < 5 → putG 5 g a 0 [.int .i64 v] i c = gA (updI u a v) d l lo he i c := by
  intro i c hi hc
  rw [putG_one (by omega) hc, hg i c hi hc]
  match c, hc with
  | 0, _ => by_cases e : i = a <;> simp [e, gA, updI]
  | 1, _ | 2, _ | 3, _ | 4, _ => simp [gA]
theorem put1 (a : Nat) (v : Int) : ∀ i c, i < N → c < 5 → putG 5 g a 1 [.int .i64 v] i c = gA u (updI d a v) l lo he i c := by
  intro i c hi hc
  rw [putG_one (by omega) hc, hg i c hi hc]
  match c, hc with
  | 1, _ => by_cases e : i = a <;> simp [e, gA, updI]
  | 0, _ | 2, _ | 3, _ | 4, _ => simp [gA]
theorem put2 (a : Nat) (v : Int) : ∀ i c, i < N → c < 5 → putG 5 g a 2 [.int .i64 v] i c = gA u d (updI l a v) lo he i c := by
  intro i c hi hc
  rw [putG_one (by omega) hc, hg i c hi hc]
  match c, hc with
  | 2, _ => by_cases e : i = a <;> simp [e, gA, updI]
  | 0, _ | 1, _ | 3, _ | 4, _ => simp [gA]
theorem put3 (a : Nat) (v : Bool) : ∀ i c, i < N → c < 5 → putG 5 g a 3 [.bool v] i c = gA u d l (updB lo a v) he i c := by
  intro i c hi hc
  rw [putG_one (by omega) hc, hg i c hi hc]
  match c, hc with
  | 3, _ => by_cases e : i = a <;> simp [e, gA, updB]
  | 0, _ | 1, _ | 2, _ | 4, _ => simp [gA]
theorem put4 (a : Nat) (v : Bool) : ∀ i c, i < N → c < 5 → putG 5 g a 4 [.bool v] i c = gA u d l lo (updB he a v) i c := by
  intro i c hi hc
  rw [putG_one (by omega) hc, hg i c hi hc]
  match c, hc with
  | 4, _ => by_cases e : i = a <;> simp [e, gA, updB]
  | 0, _ | 1, _ | 2, _ | 3, _ => simp [gA]
end
theorem gA_self {N : Nat} {u d l : Nat → Int} {lo he : Nat → Bool} : ∀ i c, i < N → c < 5 → gA u d l lo he i c = gA u d l lo he i c := fun _ _ _ _ => rfl

theorem mkE' {c : Cx} (hc : c.P = Tryd.prog) {fn : Func} {SP : SpT} {R : Out → Hp → Nat → Prop} (hS : ∀ p ∈ SP, SpecOK Tryd.prog p.1 p.2) : EnvOK ⟨c, fn, T, SP, R⟩ := mkE hc T_ok hS

/-- A node is held, or is not. -/
def holdS (s : Sh) (k : Int) (b : Bool) : Sh := if liesI s k = 0 then { s with he := updB s.he k.toNat b } else s
def preHold : List V → Sh → Sh → V → Prop := fun rest s s' v => ∃ (k : Int) (b : Bool), rest = [.int .i64 k, .bool b] ∧ s.n ≤ s.N ∧ s' = holdS s k b ∧ v = .int .i64 (liesI s k)
theorem hold_ok : SpecOK Tryd.prog 47 (fun args h nx K => ∃ p rest s s' v, args = p :: rest ∧ preHold rest s s' v ∧ sMut h nx K p s s' v) := by
  refine specOK_shelf (fn := Tryd.f47) rfl rfl rfl T_ok (SP := [(62, sLies)]) (consSP sLies_ok noSP) preHold ?_ ?_
  · rintro rest s s' v ⟨k, b, rfl, hN, rfl, rfl⟩
    refine ⟨⟨trivial, trivial, trivial⟩, trivial, ?_, by simp [Tryd.f47]⟩
    unfold holdS; split <;> rfl
  · rintro rest s s' v bS bA c ⟨k, b, rfl, hN, rfl, rfl⟩ hc
    refine vc_sound (mkE' hc (consSP sLies_ok noSP)) 200 _ _ _ 0 ?_
    refine ⟨_, s, k, rfl, ⟨2000, 2001, bS, bA, _, _, rfl, by decide, rfl, rfl, fun c hc => rfl, fun i c hi hc => rfl⟩, hN, ?_⟩
    (refine (?_ : br _ _ _); refine br_eq (fun e => ?_) (fun e => ?_))
    · have e : liesI s k = 0 := e
      have hk : isB s k = true := by
        cases q : isB s k with
        | true => rfl
        | false => rw [liesI, if_pos q] at e; cases e
      have e2 := hk
      unfold isB at e2
      simp only [Bool.and_eq_true, decide_eq_true_eq] at e2
      repeat' ((refine (?_ : chk _ _)); (first
        | refine chk_ok rfl ?_
        | refine chk_ok (by simp only [Bool.and_eq_true, decide_eq_true_eq]; omega) ?_
        | refine chk_ok (Nat.ble_eq_true_of_le (show addI 0 k.toNat * 5 + (0 + 4) + 1 ≤ s.N * 5 by rw [addI_eq]; omega)) ?_))
      have ek : addI 0 k.toNat = k.toNat := by rw [addI_eq, Nat.zero_add]
      refine ⟨rfl, _, _, rfl, rfl, ?_⟩
      rw [holdS, if_pos e]
      refine ⟨fun c hc => rfl, fun i c hi hc => ?_⟩
      have := put4 (N := s.N) (gA_self (u := s.u) (d := s.d) (l := s.l) (lo := s.lo) (he := s.he)) (addI 0 k.toNat) b i c hi hc
      rw [ek] at this
      exact this
    · have e : liesI s k ≠ 0 := e
      refine ⟨rfl, _, _, rfl, rfl, ?_⟩
      rw [holdS, if_neg e]
      exact ⟨fun c hc => rfl, fun i c hi hc => rfl⟩
end Go.Proofs.YtiihiifcnkfjoaaDoor.Sx

/-
  The walks of this seat's functions: a node is taken out of its list.
-/
namespace Go.Proofs.YtiihiifcnkfjoaaDoor.Sx
open Go Go.Proofs
set_option maxRecDepth 100000
set_option linter.unusedSimpArgs false
set_option linter.unusedVariables false

def Sh.setE (s : Sh) (c : Nat) (v : Int) : Sh := { s with E := updI s.E c v }
/-- A node's neighbours know of each other. -/
def unl (s : Sh) (n : Nat) : Sh := { s with u := updI s.u (s.d n).toNat (s.u n), d := updI s.d (s.u n).toNat (s.d n) }
def out1 (s : Sh) (n q : Nat) : Sh := (unl s n).setE (3 * q) (IntKind.i64.wrap (s.E (3 * q) - 1))
def out2 (s : Sh) (n q : Nat) : Sh := let t := out1 s n q; if t.E (3 * q + 2) = n then t.setE (3 * q + 2) (s.d n) else t
def out3 (s : Sh) (n q : Nat) : Sh := let t := out2 s n q; t.setE (3 * q + 1) (IntKind.i64.wrap (t.E (3 * q + 1) - 1))
def edgeUp (t : Sh) (q : Nat) : Int := t.u (t.E (3 * q + 2)).toNat
def out4 (s : Sh) (n q : Nat) : Sh := let t := out3 s n q; if t.E (3 * q + 1) < t.E (3 * q) then (let e := edgeUp t q; { t with E := updI (updI t.E (3 * q + 2) e) (3 * q + 1) (IntKind.i64.wrap (t.E (3 * q + 1) + 1)), lo := updB t.lo e.toNat true }) else t
def outS (s : Sh) (n q : Nat) : Sh := if s.lo n = false then out1 s n q else out4 s n q

theorem gA_eq {τ : Nat → Nat} {h' : Hp} {v : V} {u d l : Nat → Int} {lo he : Nat → Bool} {i c : Nat} (e : v = gA u d l lo he i c) (hc : c < 5) : rn τ h' v (gA u d l lo he i c) := by rw [e]; exact gA_rn hc
/-- A node's copy. -/
def gX (a b c : Int) (p r : Bool) : Nat → Nat → V := fun _ k => match k with
  | 0 => .int .i64 a
  | 1 => .int .i64 b
  | 2 => .int .i64 c
  | 3 => .bool p
  | _ => .bool r
theorem box_rn {τ : Nat → Nat} {h' : Hp} {g : Nat → Nat → V} {a b c : Int} {p r : Bool} {i k : Nat} (hi : i < 1) (hk : k < 5) : rn τ h' (putG 5 g 0 0 [.int .i64 a, .int .i64 b, .int .i64 c, .bool p, .bool r] i k) (gX a b c p r i k) := by
  obtain rfl : i = 0 := by omega
  match k, hk with
  | 0, _ | 1, _ | 2, _ => exact ⟨rfl, rfl⟩
  | 3, _ | 4, _ => rfl
theorem putE {g : Nat → Nat → V} {t N : Nat} {bot : Int} {E : Nat → Int} (hg : ∀ c, c < 8 → g 0 c = gS t N bot E 0 c) (m : Nat) (v : Int) (hm : m < 6) : ∀ c, c < 8 → putG 8 g 0 (2 + m) [.int .i64 v] 0 c = gS t N bot (updI E m v) 0 c := by
  intro c hc
  rw [putG_one (by omega) hc, hg c hc]
  match c with
  | 0 => rw [if_neg (by omega)]; rfl
  | 1 => rw [if_neg (by omega)]; rfl
  | c + 2 =>
    by_cases e : c = m
    · subst e
      rw [if_pos ⟨rfl, by omega⟩]
      simp [gS, updI]
    · rw [if_neg (by omega)]
      simp [gS, updI, e]
def preOut : List V → Sh → Sh → V → Prop := fun rest s s' v => ∃ (n q : Nat), rest = [.int .i64 (n : Int)] ∧ q < 2 ∧ s.l n = q ∧ n < s.N ∧ (0 ≤ s.u n ∧ s.u n < s.N) ∧ (0 ≤ s.d n ∧ s.d n < s.N) ∧
  (s.lo n = true → (out3 s n q).E (3 * q + 1) < (out3 s n q).E (3 * q) → (0 ≤ (out3 s n q).E (3 * q + 2) ∧ (out3 s n q).E (3 * q + 2) < s.N) ∧ (0 ≤ edgeUp (out3 s n q) q ∧ edgeUp (out3 s n q) q < s.N)) ∧ s' = outS s n q ∧ v = .tup []
theorem outS_N (s : Sh) (n q : Nat) : (outS s n q).N = s.N := by
  unfold outS out4 out3 out2 out1 unl Sh.setE
  simp only
  repeat' split
  all_goals rfl
theorem out_ok : SpecOK Tryd.prog 63 (fun args h nx K => ∃ p rest s s' v, args = p :: rest ∧ preOut rest s s' v ∧ sMut h nx K p s s' v) := by
  refine specOK_shelf (fn := Tryd.f63) rfl rfl rfl T_ok (SP := []) noSP preOut ?_ ?_
  · rintro rest s s' v ⟨n, q, rfl, _, _, _, _, _, _, rfl, rfl⟩
    exact ⟨⟨trivial, trivial⟩, trivial, outS_N s n q, by simp [Tryd.f63]⟩
  · rintro rest s s' v bS bA c ⟨n, q, rfl, hq, hl, hn, hu, hd, hE, rfl, rfl⟩ hc
    have ru : (decide (0 ≤ s.u n) && decide (s.u n < (s.N : Int))) = true := by simp only [Bool.and_eq_true, decide_eq_true_eq]; omega
    have rd : (decide (0 ≤ s.d n) && decide (s.d n < (s.N : Int))) = true := by simp only [Bool.and_eq_true, decide_eq_true_eq]; omega
    have hq2 : q = 0 ∨ q = 1 := by omega
    rcases hq2 with rfl | rfl
    · -- list 0
      have hl : s.l n = 0 := hl
      refine vc_sound (mkE' hc noSP) 100 _ _ _ 2 ?_
      (refine (?_ : chk _ _); refine chk_ok (show (decide ((0 : Int) ≤ (n : Int)) && decide ((n : Int) < (s.N : Int))) = true by simp only [Bool.and_eq_true, decide_eq_true_eq]; omega) ?_)
      (refine (?_ : chk _ _); refine chk_ok rfl ?_)
      (refine (?_ : chk _ _); refine chk_ok (Nat.ble_eq_true_of_le (show n * 5 + 0 + 5 ≤ s.N * 5 by omega)) ?_)
      intro b0
      refine W_plan (mkE' hc noSP) 3 6 (lineP 0 6 (oneP 6 .done)) (by rw [hc]; exact mix) (by kernel_rfl) 0 ?_
      refine ⟨_, ⟨rfl, rfl⟩, ?_⟩
      refine ⟨_, ⟨rfl, rfl⟩, ?_⟩
      refine ⟨.int .i64 0, ⟨congrArg (V.int .i64) hl, rfl⟩, ?_⟩
      refine ⟨_, ⟨rfl, rfl⟩, ?_⟩
      refine ⟨_, ⟨rfl, rfl⟩, ?_⟩
      refine ⟨_, ⟨rfl, rfl⟩, ?_⟩
      refine ⟨⟨trivial, ?_⟩, trivial⟩
      refine W_seq (nx := 0) ?_
      refine W_to (nx := 0) [(0, .ptr 2000 0 0), (1, .int .i64 (n : Int)), (4, .ptr 2002 0 0), (5, .ptr 2000 0 2)] [(2000, .blk bS 1 8 (gS 2001 s.N s.bot s.E) 84), (2001, .blk bA s.N 5 (gA (unl s n).u (unl s n).d s.l s.lo s.he) 86), (2002, .blk b0 1 5 (gX (s.u n) (s.d n) (s.l n) (s.lo n) (s.he n)) 86)] 30 ?_ ?_
      · refine W_plan (mkE' hc noSP) 3 18 (.take 0 (.take 1 (.take 2 (.take 3 (.take 4 (.take 5 (.take 6 (.take 7 (.take 8 (.take 9 (.take 10 (.take 12 (.take 13 (.take 14 (.take 16 (.take 17 (.all (.cons 11 (.all (.cons 15 (oneP 18 (oneP 19 (oneP 20 (oneP 21 .done)))) (.cons 18 (oneP 15 (oneP 19 (oneP 20 (oneP 21 .done)))) .nil))) (.cons 15 (.all (.cons 11 (oneP 18 (oneP 19 (oneP 20 (oneP 21 .done)))) (.cons 18 (oneP 11 (oneP 19 (oneP 20 (oneP 21 .done)))) .nil))) (.cons 18 (.all (.cons 11 (oneP 15 (oneP 19 (oneP 20 (oneP 21 .done)))) (.cons 15 (oneP 11 (oneP 19 (oneP 20 (oneP 21 .done)))) .nil))) .nil)))))))))))))))))))) (by rw [hc]; exact mix) (by kernel_rfl) 10 ?_
        refine ⟨_, ⟨rfl, rfl⟩, ?_⟩
        refine ⟨_, ⟨rfl, rfl⟩, ?_⟩
        refine ⟨_, ⟨rfl, rfl⟩, ?_⟩
        refine ⟨_, ⟨rfl, rfl⟩, ?_⟩
        refine ⟨_, ⟨rfl, rfl⟩, ?_⟩
        refine ⟨_, ⟨rfl, rfl⟩, ?_⟩
        refine ⟨_, ⟨rfl, rfl⟩, ?_⟩
        refine ⟨_, ⟨rfl, rfl⟩, ?_⟩
        refine ⟨_, ⟨rfl, rfl⟩, ?_⟩
        refine ⟨_, ⟨rfl, rfl⟩, ?_⟩
        refine ⟨_, ⟨rfl, rfl⟩, ?_⟩
        refine ⟨_, ⟨rfl, rfl⟩, ?_⟩
        refine ⟨_, ⟨rfl, rfl⟩, ?_⟩
        refine ⟨_, ⟨rfl, rfl⟩, ?_⟩
        refine ⟨.ptr 2001 (s.u n).toNat 0, (show chk _ _ from chk_ok ru (show chk _ _ from chk_ok rfl ⟨rfl, rfl⟩)), ?_⟩
        refine ⟨_, ⟨rfl, rfl⟩, ?_⟩
        refine ⟨⟨trivial, ?_⟩, ⟨trivial, ?_⟩, ⟨trivial, ?_⟩, trivial⟩
        · skip
          refine ⟨⟨trivial, ?_⟩, ⟨trivial, ?_⟩, trivial⟩
          · skip
            refine ⟨⟨trivial, ?_⟩, trivial⟩
            (refine (?_ : chk _ _); refine chk_ok (Nat.ble_eq_true_of_le (show (s.u n).toNat * 5 + (0 + 1) + 1 ≤ s.N * 5 by omega)) ?_)
            refine ⟨⟨trivial, ?_⟩, trivial⟩
            (refine (?_ : chk _ _); refine chk_ok rd ?_)
            (refine (?_ : chk _ _); refine chk_ok rfl ?_)
            refine ⟨⟨trivial, ?_⟩, trivial⟩
            refine ⟨⟨trivial, ?_⟩, trivial⟩
            (refine (?_ : chk _ _); refine chk_ok (Nat.ble_eq_true_of_le (show (s.d n).toNat * 5 + (0 + 0) + 1 ≤ s.N * 5 by omega)) ?_)
            refine ⟨tau [(2002, 2)], rfl, ?_, ?_⟩
            · repeat' (first | exact rfl | exact trivial | refine ⟨?_, ?_⟩)
            · exact ⟨⟨rfl, rfl, rfl, rfl, fun i c hi hc => by obtain rfl : i = 0 := (by omega); exact gS_rn ⟨rfl, trivial⟩⟩, ⟨rfl, rfl, rfl, rfl, fun i c hi hc => gA_eq (put0 (N := s.N) (put1 (N := s.N) gA_self (s.u n).toNat (s.d n)) (s.d n).toNat (s.u n) i c hi hc) hc⟩, ⟨rfl, rfl, rfl, rfl, fun i c hi hc => box_rn hi hc⟩, trivial⟩
          · skip
            (refine (?_ : chk _ _); refine chk_ok (Nat.ble_eq_true_of_le (show (s.u n).toNat * 5 + (0 + 1) + 1 ≤ s.N * 5 by omega)) ?_)
            refine ⟨⟨trivial, ?_⟩, trivial⟩
            refine ⟨⟨trivial, ?_⟩, trivial⟩
            (refine (?_ : chk _ _); refine chk_ok rd ?_)
            (refine (?_ : chk _ _); refine chk_ok rfl ?_)
            refine ⟨⟨trivial, ?_⟩, trivial⟩
            refine ⟨⟨trivial, ?_⟩, trivial⟩
            (refine (?_ : chk _ _); refine chk_ok (Nat.ble_eq_true_of_le (show (s.d n).toNat * 5 + (0 + 0) + 1 ≤ s.N * 5 by omega)) ?_)
            refine ⟨tau [(2002, 2)], rfl, ?_, ?_⟩
            · repeat' (first | exact rfl | exact trivial | refine ⟨?_, ?_⟩)
            · exact ⟨⟨rfl, rfl, rfl, rfl, fun i c hi hc => by obtain rfl : i = 0 := (by omega); exact gS_rn ⟨rfl, trivial⟩⟩, ⟨rfl, rfl, rfl, rfl, fun i c hi hc => gA_eq (put0 (N := s.N) (put1 (N := s.N) gA_self (s.u n).toNat (s.d n)) (s.d n).toNat (s.u n) i c hi hc) hc⟩, ⟨rfl, rfl, rfl, rfl, fun i c hi hc => box_rn hi hc⟩, trivial⟩
        · skip
          refine ⟨⟨trivial, ?_⟩, ⟨trivial, ?_⟩, trivial⟩
          · skip
            refine ⟨⟨trivial, ?_⟩, trivial⟩
            (refine (?_ : chk _ _); refine chk_ok (Nat.ble_eq_true_of_le (show (s.u n).toNat * 5 + (0 + 1) + 1 ≤ s.N * 5 by omega)) ?_)
            refine ⟨⟨trivial, ?_⟩, trivial⟩
            (refine (?_ : chk _ _); refine chk_ok rd ?_)
            (refine (?_ : chk _ _); refine chk_ok rfl ?_)
            refine ⟨⟨trivial, ?_⟩, trivial⟩
            refine ⟨⟨trivial, ?_⟩, trivial⟩
            (refine (?_ : chk _ _); refine chk_ok (Nat.ble_eq_true_of_le (show (s.d n).toNat * 5 + (0 + 0) + 1 ≤ s.N * 5 by omega)) ?_)
            refine ⟨tau [(2002, 2)], rfl, ?_, ?_⟩
            · repeat' (first | exact rfl | exact trivial | refine ⟨?_, ?_⟩)
            · exact ⟨⟨rfl, rfl, rfl, rfl, fun i c hi hc => by obtain rfl : i = 0 := (by omega); exact gS_rn ⟨rfl, trivial⟩⟩, ⟨rfl, rfl, rfl, rfl, fun i c hi hc => gA_eq (put0 (N := s.N) (put1 (N := s.N) gA_self (s.u n).toNat (s.d n)) (s.d n).toNat (s.u n) i c hi hc) hc⟩, ⟨rfl, rfl, rfl, rfl, fun i c hi hc => box_rn hi hc⟩, trivial⟩
          · skip
            (refine (?_ : chk _ _); refine chk_ok (Nat.ble_eq_true_of_le (show (s.u n).toNat * 5 + (0 + 1) + 1 ≤ s.N * 5 by omega)) ?_)
            refine ⟨⟨trivial, ?_⟩, trivial⟩
            refine ⟨⟨trivial, ?_⟩, trivial⟩
            (refine (?_ : chk _ _); refine chk_ok rd ?_)
            (refine (?_ : chk _ _); refine chk_ok rfl ?_)
            refine ⟨⟨trivial, ?_⟩, trivial⟩
            refine ⟨⟨trivial, ?_⟩, trivial⟩
            (refine (?_ : chk _ _); refine chk_ok (Nat.ble_eq_true_of_le (show (s.d n).toNat * 5 + (0 + 0) + 1 ≤ s.N * 5 by omega)) ?_)
            refine ⟨tau [(2002, 2)], rfl, ?_, ?_⟩
            · repeat' (first | exact rfl | exact trivial | refine ⟨?_, ?_⟩)
            · exact ⟨⟨rfl, rfl, rfl, rfl, fun i c hi hc => by obtain rfl : i = 0 := (by omega); exact gS_rn ⟨rfl, trivial⟩⟩, ⟨rfl, rfl, rfl, rfl, fun i c hi hc => gA_eq (put0 (N := s.N) (put1 (N := s.N) gA_self (s.u n).toNat (s.d n)) (s.d n).toNat (s.u n) i c hi hc) hc⟩, ⟨rfl, rfl, rfl, rfl, fun i c hi hc => box_rn hi hc⟩, trivial⟩
        · skip
          (refine (?_ : chk _ _); refine chk_ok (Nat.ble_eq_true_of_le (show (s.u n).toNat * 5 + (0 + 1) + 1 ≤ s.N * 5 by omega)) ?_)
          refine ⟨⟨trivial, ?_⟩, ⟨trivial, ?_⟩, trivial⟩
          · skip
            refine ⟨⟨trivial, ?_⟩, trivial⟩
            refine ⟨⟨trivial, ?_⟩, trivial⟩
            (refine (?_ : chk _ _); refine chk_ok rd ?_)
            (refine (?_ : chk _ _); refine chk_ok rfl ?_)
            refine ⟨⟨trivial, ?_⟩, trivial⟩
            refine ⟨⟨trivial, ?_⟩, trivial⟩
            (refine (?_ : chk _ _); refine chk_ok (Nat.ble_eq_true_of_le (show (s.d n).toNat * 5 + (0 + 0) + 1 ≤ s.N * 5 by omega)) ?_)
            refine ⟨tau [(2002, 2)], rfl, ?_, ?_⟩
            · repeat' (first | exact rfl | exact trivial | refine ⟨?_, ?_⟩)
            · exact ⟨⟨rfl, rfl, rfl, rfl, fun i c hi hc => by obtain rfl : i = 0 := (by omega); exact gS_rn ⟨rfl, trivial⟩⟩, ⟨rfl, rfl, rfl, rfl, fun i c hi hc => gA_eq (put0 (N := s.N) (put1 (N := s.N) gA_self (s.u n).toNat (s.d n)) (s.d n).toNat (s.u n) i c hi hc) hc⟩, ⟨rfl, rfl, rfl, rfl, fun i c hi hc => box_rn hi hc⟩, trivial⟩
          · skip
            refine ⟨⟨trivial, ?_⟩, trivial⟩
            refine ⟨⟨trivial, ?_⟩, trivial⟩
            (refine (?_ : chk _ _); refine chk_ok rd ?_)
            (refine (?_ : chk _ _); refine chk_ok rfl ?_)
            refine ⟨⟨trivial, ?_⟩, trivial⟩
            refine ⟨⟨trivial, ?_⟩, trivial⟩
            (refine (?_ : chk _ _); refine chk_ok (Nat.ble_eq_true_of_le (show (s.d n).toNat * 5 + (0 + 0) + 1 ≤ s.N * 5 by omega)) ?_)
            refine ⟨tau [(2002, 2)], rfl, ?_, ?_⟩
            · repeat' (first | exact rfl | exact trivial | refine ⟨?_, ?_⟩)
            · exact ⟨⟨rfl, rfl, rfl, rfl, fun i c hi hc => by obtain rfl : i = 0 := (by omega); exact gS_rn ⟨rfl, trivial⟩⟩, ⟨rfl, rfl, rfl, rfl, fun i c hi hc => gA_eq (put0 (N := s.N) (put1 (N := s.N) gA_self (s.u n).toNat (s.d n)) (s.d n).toNat (s.u n) i c hi hc) hc⟩, ⟨rfl, rfl, rfl, rfl, fun i c hi hc => box_rn hi hc⟩, trivial⟩
      · refine vc_sound (mkE' hc noSP) 100 _ _ _ 30 ?_
        have GS0 : ∀ c, c < 8 → gS 2001 s.N s.bot s.E 0 c = gS 2001 s.N s.bot s.E 0 c := fun _ _ => rfl
        (refine (?_ : br _ _ _); refine br_not (br_both (fun hlo => ?_) (fun hlo => ?_)))
        · have hlo : s.lo n = true := hlo
          (refine (?_ : br _ _ _); refine br_eq (fun e => ?_) (fun e => ?_))
          · have e : s.E 2 = n := e
            have o2 : out2 s n 0 = (out1 s n 0).setE 2 (s.d n) := if_pos e
            have o3 : out3 s n 0 = ((out1 s n 0).setE 2 (s.d n)).setE 1 (IntKind.i64.wrap (s.E 1 - 1)) := by unfold out3; rw [o2]; rfl
            refine W_plan (mkE' hc noSP) 30 9 (lineP 0 9 .done) (by rw [hc]; exact mix) (by kernel_rfl) 100 ?_
            repeat' (first | refine ⟨_, ⟨rfl, rfl⟩, ?_⟩ | fail)
            (refine (?_ : br _ _ _); refine br_dec (fun g => ?_) (fun g => ?_))
            · have g : (IntKind.i64.wrap (s.E 1 - 1)) < (IntKind.i64.wrap (s.E 0 - 1)) := g
              have hE' := hE hlo (by rw [o3]; exact g)
              rw [o3] at hE'
              have re : 0 ≤ s.d n ∧ s.d n < s.N := hE'.1
              obtain ⟨e2, he2⟩ : ∃ e2, e2 = (unl s n).u (s.d n).toNat := ⟨_, rfl⟩
              have rf : 0 ≤ e2 ∧ e2 < s.N := by rw [he2]; exact hE'.2
              have re' : (decide (0 ≤ s.d n) && decide (s.d n < (s.N : Int))) = true := by simp only [Bool.and_eq_true, decide_eq_true_eq]; omega
              have rf' : (decide (0 ≤ e2) && decide (e2 < (s.N : Int))) = true := by simp only [Bool.and_eq_true, decide_eq_true_eq]; omega
              refine W_plan (mkE' hc noSP) 30 14 (lineP 0 14 (oneP 14 .done)) (by rw [hc]; exact mix) (by kernel_rfl) 100 ?_
              refine ⟨_, ⟨rfl, rfl⟩, ?_⟩
              refine ⟨_, ⟨rfl, rfl⟩, ?_⟩
              refine ⟨_, ⟨rfl, rfl⟩, ?_⟩
              refine ⟨_, ⟨rfl, rfl⟩, ?_⟩
              refine ⟨_, ⟨rfl, rfl⟩, ?_⟩
              refine ⟨_, ⟨rfl, rfl⟩, ?_⟩
              refine ⟨_, ⟨rfl, rfl⟩, ?_⟩
              refine ⟨_, ⟨rfl, rfl⟩, ?_⟩
              refine ⟨_, ⟨rfl, rfl⟩, ?_⟩
              refine ⟨.ptr 2001 (s.d n).toNat 0, (show chk _ _ from chk_ok re' (show chk _ _ from chk_ok rfl ⟨rfl, rfl⟩)), ?_⟩
              refine ⟨_, ⟨rfl, rfl⟩, ?_⟩
              refine ⟨.int .i64 e2, (show chk _ _ from chk_ok (Nat.ble_eq_true_of_le (show (s.d n).toNat * 5 + (0 + 0) + 1 ≤ s.N * 5 by omega)) ⟨by rw [he2]; rfl, rfl⟩), ?_⟩
              refine ⟨_, ⟨rfl, rfl⟩, ?_⟩
              refine ⟨_, ⟨rfl, rfl⟩, ?_⟩
              refine ⟨⟨trivial, ?_⟩, trivial⟩
              refine W_plan (mkE' hc noSP) 30 10 (lineP 0 10 (oneP 10 .done)) (by rw [hc]; exact mix) (by kernel_rfl) 100 ?_
              refine ⟨_, ⟨rfl, rfl⟩, ?_⟩
              refine ⟨_, ⟨rfl, rfl⟩, ?_⟩
              refine ⟨_, ⟨rfl, rfl⟩, ?_⟩
              refine ⟨_, ⟨rfl, rfl⟩, ?_⟩
              refine ⟨_, ⟨rfl, rfl⟩, ?_⟩
              refine ⟨_, ⟨rfl, rfl⟩, ?_⟩
              refine ⟨_, ⟨rfl, rfl⟩, ?_⟩
              refine ⟨_, ⟨rfl, rfl⟩, ?_⟩
              refine ⟨.ptr 2001 e2.toNat 0, (show chk _ _ from chk_ok rf' (show chk _ _ from chk_ok rfl ⟨rfl, rfl⟩)), ?_⟩
              refine ⟨_, ⟨rfl, rfl⟩, ?_⟩
              refine ⟨⟨trivial, ?_⟩, trivial⟩
              (refine (?_ : chk _ _); refine chk_ok (Nat.ble_eq_true_of_le (show e2.toNat * 5 + (0 + 3) + 1 ≤ s.N * 5 by omega)) ?_)
              refine ⟨rfl, _, _, rfl, rfl, ?_⟩
              have o4 : outS s n 0 = { out3 s n 0 with E := updI (updI (out3 s n 0).E 2 e2) 1 (IntKind.i64.wrap ((IntKind.i64.wrap (s.E 1 - 1)) + 1)), lo := updB s.lo e2.toNat true } := by
                rw [outS, if_neg (by rw [hlo]; decide)]
                unfold out4
                simp only
                rw [if_pos (by rw [o3]; exact g), he2, o3]
                rfl
              rw [o4, o3]
              exact ⟨putE (putE (putE (putE (putE GS0 0 (IntKind.i64.wrap (s.E 0 - 1)) (by omega)) 2 (s.d n) (by omega)) 1 (IntKind.i64.wrap (s.E 1 - 1)) (by omega)) 2 e2 (by omega)) 1 _ (by omega), fun i c hi hc => put3 (N := s.N) gA_self e2.toNat true i c hi hc⟩
            · have g : ¬ (IntKind.i64.wrap (s.E 1 - 1)) < (IntKind.i64.wrap (s.E 0 - 1)) := g
              refine ⟨rfl, _, _, rfl, rfl, ?_⟩
              have o4 : outS s n 0 = out3 s n 0 := by
                rw [outS, if_neg (by rw [hlo]; decide)]
                unfold out4
                simp only
                rw [if_neg (by rw [o3]; exact g)]
              rw [o4, o3]
              exact ⟨putE (putE (putE GS0 0 (IntKind.i64.wrap (s.E 0 - 1)) (by omega)) 2 (s.d n) (by omega)) 1 (IntKind.i64.wrap (s.E 1 - 1)) (by omega), fun i c hi hc => rfl⟩
          · have e : s.E 2 ≠ n := e
            have o2 : out2 s n 0 = out1 s n 0 := if_neg e
            have o3 : out3 s n 0 = (out1 s n 0).setE 1 (IntKind.i64.wrap (s.E 1 - 1)) := by unfold out3; rw [o2]; rfl
            refine W_plan (mkE' hc noSP) 30 9 (lineP 0 9 .done) (by rw [hc]; exact mix) (by kernel_rfl) 100 ?_
            repeat' (first | refine ⟨_, ⟨rfl, rfl⟩, ?_⟩ | fail)
            (refine (?_ : br _ _ _); refine br_dec (fun g => ?_) (fun g => ?_))
            · have g : (IntKind.i64.wrap (s.E 1 - 1)) < (IntKind.i64.wrap (s.E 0 - 1)) := g
              have hE' := hE hlo (by rw [o3]; exact g)
              rw [o3] at hE'
              have re : 0 ≤ s.E 2 ∧ s.E 2 < s.N := hE'.1
              obtain ⟨e2, he2⟩ : ∃ e2, e2 = (unl s n).u (s.E 2).toNat := ⟨_, rfl⟩
              have rf : 0 ≤ e2 ∧ e2 < s.N := by rw [he2]; exact hE'.2
              have re' : (decide (0 ≤ s.E 2) && decide (s.E 2 < (s.N : Int))) = true := by simp only [Bool.and_eq_true, decide_eq_true_eq]; omega
              have rf' : (decide (0 ≤ e2) && decide (e2 < (s.N : Int))) = true := by simp only [Bool.and_eq_true, decide_eq_true_eq]; omega
              refine W_plan (mkE' hc noSP) 30 14 (lineP 0 14 (oneP 14 .done)) (by rw [hc]; exact mix) (by kernel_rfl) 100 ?_
              refine ⟨_, ⟨rfl, rfl⟩, ?_⟩
              refine ⟨_, ⟨rfl, rfl⟩, ?_⟩
              refine ⟨_, ⟨rfl, rfl⟩, ?_⟩
              refine ⟨_, ⟨rfl, rfl⟩, ?_⟩
              refine ⟨_, ⟨rfl, rfl⟩, ?_⟩
              refine ⟨_, ⟨rfl, rfl⟩, ?_⟩
              refine ⟨_, ⟨rfl, rfl⟩, ?_⟩
              refine ⟨_, ⟨rfl, rfl⟩, ?_⟩
              refine ⟨_, ⟨rfl, rfl⟩, ?_⟩
              refine ⟨.ptr 2001 (s.E 2).toNat 0, (show chk _ _ from chk_ok re' (show chk _ _ from chk_ok rfl ⟨rfl, rfl⟩)), ?_⟩
              refine ⟨_, ⟨rfl, rfl⟩, ?_⟩
              refine ⟨.int .i64 e2, (show chk _ _ from chk_ok (Nat.ble_eq_true_of_le (show (s.E 2).toNat * 5 + (0 + 0) + 1 ≤ s.N * 5 by omega)) ⟨by rw [he2]; rfl, rfl⟩), ?_⟩
              refine ⟨_, ⟨rfl, rfl⟩, ?_⟩
              refine ⟨_, ⟨rfl, rfl⟩, ?_⟩
              refine ⟨⟨trivial, ?_⟩, trivial⟩
              refine W_plan (mkE' hc noSP) 30 10 (lineP 0 10 (oneP 10 .done)) (by rw [hc]; exact mix) (by kernel_rfl) 100 ?_
              refine ⟨_, ⟨rfl, rfl⟩, ?_⟩
              refine ⟨_, ⟨rfl, rfl⟩, ?_⟩
              refine ⟨_, ⟨rfl, rfl⟩, ?_⟩
              refine ⟨_, ⟨rfl, rfl⟩, ?_⟩
              refine ⟨_, ⟨rfl, rfl⟩, ?_⟩
              refine ⟨_, ⟨rfl, rfl⟩, ?_⟩
              refine ⟨_, ⟨rfl, rfl⟩, ?_⟩
              refine ⟨_, ⟨rfl, rfl⟩, ?_⟩
              refine ⟨.ptr 2001 e2.toNat 0, (show chk _ _ from chk_ok rf' (show chk _ _ from chk_ok rfl ⟨rfl, rfl⟩)), ?_⟩
              refine ⟨_, ⟨rfl, rfl⟩, ?_⟩
              refine ⟨⟨trivial, ?_⟩, trivial⟩
              (refine (?_ : chk _ _); refine chk_ok (Nat.ble_eq_true_of_le (show e2.toNat * 5 + (0 + 3) + 1 ≤ s.N * 5 by omega)) ?_)
              refine ⟨rfl, _, _, rfl, rfl, ?_⟩
              have o4 : outS s n 0 = { out3 s n 0 with E := updI (updI (out3 s n 0).E 2 e2) 1 (IntKind.i64.wrap ((IntKind.i64.wrap (s.E 1 - 1)) + 1)), lo := updB s.lo e2.toNat true } := by
                rw [outS, if_neg (by rw [hlo]; decide)]
                unfold out4
                simp only
                rw [if_pos (by rw [o3]; exact g), he2, o3]
                rfl
              rw [o4, o3]
              exact ⟨putE (putE (putE (putE GS0 0 (IntKind.i64.wrap (s.E 0 - 1)) (by omega)) 1 (IntKind.i64.wrap (s.E 1 - 1)) (by omega)) 2 e2 (by omega)) 1 _ (by omega), fun i c hi hc => put3 (N := s.N) gA_self e2.toNat true i c hi hc⟩
            · have g : ¬ (IntKind.i64.wrap (s.E 1 - 1)) < (IntKind.i64.wrap (s.E 0 - 1)) := g
              refine ⟨rfl, _, _, rfl, rfl, ?_⟩
              have o4 : outS s n 0 = out3 s n 0 := by
                rw [outS, if_neg (by rw [hlo]; decide)]
                unfold out4
                simp only
                rw [if_neg (by rw [o3]; exact g)]
              rw [o4, o3]
              exact ⟨putE (putE GS0 0 (IntKind.i64.wrap (s.E 0 - 1)) (by omega)) 1 (IntKind.i64.wrap (s.E 1 - 1)) (by omega), fun i c hi hc => rfl⟩
        · have hlo : s.lo n = false := hlo
          refine ⟨rfl, _, _, rfl, rfl, ?_⟩
          rw [outS, if_pos hlo]
          exact ⟨putE GS0 0 _ (by omega), fun i c hi hc => rfl⟩
    · -- list 1
      have hl : s.l n = 1 := hl
      refine vc_sound (mkE' hc noSP) 100 _ _ _ 2 ?_
      (refine (?_ : chk _ _); refine chk_ok (show (decide ((0 : Int) ≤ (n : Int)) && decide ((n : Int) < (s.N : Int))) = true by simp only [Bool.and_eq_true, decide_eq_true_eq]; omega) ?_)
      (refine (?_ : chk _ _); refine chk_ok rfl ?_)
      (refine (?_ : chk _ _); refine chk_ok (Nat.ble_eq_true_of_le (show n * 5 + 0 + 5 ≤ s.N * 5 by omega)) ?_)
      intro b0
      refine W_plan (mkE' hc noSP) 3 6 (lineP 0 6 (oneP 6 .done)) (by rw [hc]; exact mix) (by kernel_rfl) 0 ?_
      refine ⟨_, ⟨rfl, rfl⟩, ?_⟩
      refine ⟨_, ⟨rfl, rfl⟩, ?_⟩
      refine ⟨.int .i64 1, ⟨congrArg (V.int .i64) hl, rfl⟩, ?_⟩
      refine ⟨_, ⟨rfl, rfl⟩, ?_⟩
      refine ⟨_, ⟨rfl, rfl⟩, ?_⟩
      refine ⟨_, ⟨rfl, rfl⟩, ?_⟩
      refine ⟨⟨trivial, ?_⟩, trivial⟩
      refine W_seq (nx := 0) ?_
      refine W_to (nx := 0) [(0, .ptr 2000 0 0), (1, .int .i64 (n : Int)), (4, .ptr 2002 0 0), (5, .ptr 2000 0 5)] [(2000, .blk bS 1 8 (gS 2001 s.N s.bot s.E) 84), (2001, .blk bA s.N 5 (gA (unl s n).u (unl s n).d s.l s.lo s.he) 86), (2002, .blk b0 1 5 (gX (s.u n) (s.d n) (s.l n) (s.lo n) (s.he n)) 86)] 30 ?_ ?_
      · refine W_plan (mkE' hc noSP) 3 18 (.take 0 (.take 1 (.take 2 (.take 3 (.take 4 (.take 5 (.take 6 (.take 7 (.take 8 (.take 9 (.take 10 (.take 12 (.take 13 (.take 14 (.take 16 (.take 17 (.all (.cons 11 (.all (.cons 15 (oneP 18 (oneP 19 (oneP 20 (oneP 21 .done)))) (.cons 18 (oneP 15 (oneP 19 (oneP 20 (oneP 21 .done)))) .nil))) (.cons 15 (.all (.cons 11 (oneP 18 (oneP 19 (oneP 20 (oneP 21 .done)))) (.cons 18 (oneP 11 (oneP 19 (oneP 20 (oneP 21 .done)))) .nil))) (.cons 18 (.all (.cons 11 (oneP 15 (oneP 19 (oneP 20 (oneP 21 .done)))) (.cons 15 (oneP 11 (oneP 19 (oneP 20 (oneP 21 .done)))) .nil))) .nil)))))))))))))))))))) (by rw [hc]; exact mix) (by kernel_rfl) 10 ?_
        refine ⟨_, ⟨rfl, rfl⟩, ?_⟩
        refine ⟨_, ⟨rfl, rfl⟩, ?_⟩
        refine ⟨_, ⟨rfl, rfl⟩, ?_⟩
        refine ⟨_, ⟨rfl, rfl⟩, ?_⟩
        refine ⟨_, ⟨rfl, rfl⟩, ?_⟩
        refine ⟨_, ⟨rfl, rfl⟩, ?_⟩
        refine ⟨_, ⟨rfl, rfl⟩, ?_⟩
        refine ⟨_, ⟨rfl, rfl⟩, ?_⟩
        refine ⟨_, ⟨rfl, rfl⟩, ?_⟩
        refine ⟨_, ⟨rfl, rfl⟩, ?_⟩
        refine ⟨_, ⟨rfl, rfl⟩, ?_⟩
        refine ⟨_, ⟨rfl, rfl⟩, ?_⟩
        refine ⟨_, ⟨rfl, rfl⟩, ?_⟩
        refine ⟨_, ⟨rfl, rfl⟩, ?_⟩
        refine ⟨.ptr 2001 (s.u n).toNat 0, (show chk _ _ from chk_ok ru (show chk _ _ from chk_ok rfl ⟨rfl, rfl⟩)), ?_⟩
        refine ⟨_, ⟨rfl, rfl⟩, ?_⟩
        refine ⟨⟨trivial, ?_⟩, ⟨trivial, ?_⟩, ⟨trivial, ?_⟩, trivial⟩
        · skip
          refine ⟨⟨trivial, ?_⟩, ⟨trivial, ?_⟩, trivial⟩
          · skip
            refine ⟨⟨trivial, ?_⟩, trivial⟩
            (refine (?_ : chk _ _); refine chk_ok (Nat.ble_eq_true_of_le (show (s.u n).toNat * 5 + (0 + 1) + 1 ≤ s.N * 5 by omega)) ?_)
            refine ⟨⟨trivial, ?_⟩, trivial⟩
            (refine (?_ : chk _ _); refine chk_ok rd ?_)
            (refine (?_ : chk _ _); refine chk_ok rfl ?_)
            refine ⟨⟨trivial, ?_⟩, trivial⟩
            refine ⟨⟨trivial, ?_⟩, trivial⟩
            (refine (?_ : chk _ _); refine chk_ok (Nat.ble_eq_true_of_le (show (s.d n).toNat * 5 + (0 + 0) + 1 ≤ s.N * 5 by omega)) ?_)
            refine ⟨tau [(2002, 2)], rfl, ?_, ?_⟩
            · repeat' (first | exact rfl | exact trivial | refine ⟨?_, ?_⟩)
            · exact ⟨⟨rfl, rfl, rfl, rfl, fun i c hi hc => by obtain rfl : i = 0 := (by omega); exact gS_rn ⟨rfl, trivial⟩⟩, ⟨rfl, rfl, rfl, rfl, fun i c hi hc => gA_eq (put0 (N := s.N) (put1 (N := s.N) gA_self (s.u n).toNat (s.d n)) (s.d n).toNat (s.u n) i c hi hc) hc⟩, ⟨rfl, rfl, rfl, rfl, fun i c hi hc => box_rn hi hc⟩, trivial⟩
          · skip
            (refine (?_ : chk _ _); refine chk_ok (Nat.ble_eq_true_of_le (show (s.u n).toNat * 5 + (0 + 1) + 1 ≤ s.N * 5 by omega)) ?_)
            refine ⟨⟨trivial, ?_⟩, trivial⟩
            refine ⟨⟨trivial, ?_⟩, trivial⟩
            (refine (?_ : chk _ _); refine chk_ok rd ?_)
            (refine (?_ : chk _ _); refine chk_ok rfl ?_)
            refine ⟨⟨trivial, ?_⟩, trivial⟩
            refine ⟨⟨trivial, ?_⟩, trivial⟩
            (refine (?_ : chk _ _); refine chk_ok (Nat.ble_eq_true_of_le (show (s.d n).toNat * 5 + (0 + 0) + 1 ≤ s.N * 5 by omega)) ?_)
            refine ⟨tau [(2002, 2)], rfl, ?_, ?_⟩
            · repeat' (first | exact rfl | exact trivial | refine ⟨?_, ?_⟩)
            · exact ⟨⟨rfl, rfl, rfl, rfl, fun i c hi hc => by obtain rfl : i = 0 := (by omega); exact gS_rn ⟨rfl, trivial⟩⟩, ⟨rfl, rfl, rfl, rfl, fun i c hi hc => gA_eq (put0 (N := s.N) (put1 (N := s.N) gA_self (s.u n).toNat (s.d n)) (s.d n).toNat (s.u n) i c hi hc) hc⟩, ⟨rfl, rfl, rfl, rfl, fun i c hi hc => box_rn hi hc⟩, trivial⟩
        · skip
          refine ⟨⟨trivial, ?_⟩, ⟨trivial, ?_⟩, trivial⟩
          · skip
            refine ⟨⟨trivial, ?_⟩, trivial⟩
            (refine (?_ : chk _ _); refine chk_ok (Nat.ble_eq_true_of_le (show (s.u n).toNat * 5 + (0 + 1) + 1 ≤ s.N * 5 by omega)) ?_)
            refine ⟨⟨trivial, ?_⟩, trivial⟩
            (refine (?_ : chk _ _); refine chk_ok rd ?_)
            (refine (?_ : chk _ _); refine chk_ok rfl ?_)
            refine ⟨⟨trivial, ?_⟩, trivial⟩
            refine ⟨⟨trivial, ?_⟩, trivial⟩
            (refine (?_ : chk _ _); refine chk_ok (Nat.ble_eq_true_of_le (show (s.d n).toNat * 5 + (0 + 0) + 1 ≤ s.N * 5 by omega)) ?_)
            refine ⟨tau [(2002, 2)], rfl, ?_, ?_⟩
            · repeat' (first | exact rfl | exact trivial | refine ⟨?_, ?_⟩)
            · exact ⟨⟨rfl, rfl, rfl, rfl, fun i c hi hc => by obtain rfl : i = 0 := (by omega); exact gS_rn ⟨rfl, trivial⟩⟩, ⟨rfl, rfl, rfl, rfl, fun i c hi hc => gA_eq (put0 (N := s.N) (put1 (N := s.N) gA_self (s.u n).toNat (s.d n)) (s.d n).toNat (s.u n) i c hi hc) hc⟩, ⟨rfl, rfl, rfl, rfl, fun i c hi hc => box_rn hi hc⟩, trivial⟩
          · skip
            (refine (?_ : chk _ _); refine chk_ok (Nat.ble_eq_true_of_le (show (s.u n).toNat * 5 + (0 + 1) + 1 ≤ s.N * 5 by omega)) ?_)
            refine ⟨⟨trivial, ?_⟩, trivial⟩
            refine ⟨⟨trivial, ?_⟩, trivial⟩
            (refine (?_ : chk _ _); refine chk_ok rd ?_)
            (refine (?_ : chk _ _); refine chk_ok rfl ?_)
            refine ⟨⟨trivial, ?_⟩, trivial⟩
            refine ⟨⟨trivial, ?_⟩, trivial⟩
            (refine (?_ : chk _ _); refine chk_ok (Nat.ble_eq_true_of_le (show (s.d n).toNat * 5 + (0 + 0) + 1 ≤ s.N * 5 by omega)) ?_)
            refine ⟨tau [(2002, 2)], rfl, ?_, ?_⟩
            · repeat' (first | exact rfl | exact trivial | refine ⟨?_, ?_⟩)
            · exact ⟨⟨rfl, rfl, rfl, rfl, fun i c hi hc => by obtain rfl : i = 0 := (by omega); exact gS_rn ⟨rfl, trivial⟩⟩, ⟨rfl, rfl, rfl, rfl, fun i c hi hc => gA_eq (put0 (N := s.N) (put1 (N := s.N) gA_self (s.u n).toNat (s.d n)) (s.d n).toNat (s.u n) i c hi hc) hc⟩, ⟨rfl, rfl, rfl, rfl, fun i c hi hc => box_rn hi hc⟩, trivial⟩
        · skip
          (refine (?_ : chk _ _); refine chk_ok (Nat.ble_eq_true_of_le (show (s.u n).toNat * 5 + (0 + 1) + 1 ≤ s.N * 5 by omega)) ?_)
          refine ⟨⟨trivial, ?_⟩, ⟨trivial, ?_⟩, trivial⟩
          · skip
            refine ⟨⟨trivial, ?_⟩, trivial⟩
            refine ⟨⟨trivial, ?_⟩, trivial⟩
            (refine (?_ : chk _ _); refine chk_ok rd ?_)
            (refine (?_ : chk _ _); refine chk_ok rfl ?_)
            refine ⟨⟨trivial, ?_⟩, trivial⟩
            refine ⟨⟨trivial, ?_⟩, trivial⟩
            (refine (?_ : chk _ _); refine chk_ok (Nat.ble_eq_true_of_le (show (s.d n).toNat * 5 + (0 + 0) + 1 ≤ s.N * 5 by omega)) ?_)
            refine ⟨tau [(2002, 2)], rfl, ?_, ?_⟩
            · repeat' (first | exact rfl | exact trivial | refine ⟨?_, ?_⟩)
            · exact ⟨⟨rfl, rfl, rfl, rfl, fun i c hi hc => by obtain rfl : i = 0 := (by omega); exact gS_rn ⟨rfl, trivial⟩⟩, ⟨rfl, rfl, rfl, rfl, fun i c hi hc => gA_eq (put0 (N := s.N) (put1 (N := s.N) gA_self (s.u n).toNat (s.d n)) (s.d n).toNat (s.u n) i c hi hc) hc⟩, ⟨rfl, rfl, rfl, rfl, fun i c hi hc => box_rn hi hc⟩, trivial⟩
          · skip
            refine ⟨⟨trivial, ?_⟩, trivial⟩
            refine ⟨⟨trivial, ?_⟩, trivial⟩
            (refine (?_ : chk _ _); refine chk_ok rd ?_)
            (refine (?_ : chk _ _); refine chk_ok rfl ?_)
            refine ⟨⟨trivial, ?_⟩, trivial⟩
            refine ⟨⟨trivial, ?_⟩, trivial⟩
            (refine (?_ : chk _ _); refine chk_ok (Nat.ble_eq_true_of_le (show (s.d n).toNat * 5 + (0 + 0) + 1 ≤ s.N * 5 by omega)) ?_)
            refine ⟨tau [(2002, 2)], rfl, ?_, ?_⟩
            · repeat' (first | exact rfl | exact trivial | refine ⟨?_, ?_⟩)
            · exact ⟨⟨rfl, rfl, rfl, rfl, fun i c hi hc => by obtain rfl : i = 0 := (by omega); exact gS_rn ⟨rfl, trivial⟩⟩, ⟨rfl, rfl, rfl, rfl, fun i c hi hc => gA_eq (put0 (N := s.N) (put1 (N := s.N) gA_self (s.u n).toNat (s.d n)) (s.d n).toNat (s.u n) i c hi hc) hc⟩, ⟨rfl, rfl, rfl, rfl, fun i c hi hc => box_rn hi hc⟩, trivial⟩
      · refine vc_sound (mkE' hc noSP) 100 _ _ _ 30 ?_
        have GS0 : ∀ c, c < 8 → gS 2001 s.N s.bot s.E 0 c = gS 2001 s.N s.bot s.E 0 c := fun _ _ => rfl
        (refine (?_ : br _ _ _); refine br_not (br_both (fun hlo => ?_) (fun hlo => ?_)))
        · have hlo : s.lo n = true := hlo
          (refine (?_ : br _ _ _); refine br_eq (fun e => ?_) (fun e => ?_))
          · have e : s.E 5 = n := e
            have o2 : out2 s n 1 = (out1 s n 1).setE 5 (s.d n) := if_pos e
            have o3 : out3 s n 1 = ((out1 s n 1).setE 5 (s.d n)).setE 4 (IntKind.i64.wrap (s.E 4 - 1)) := by unfold out3; rw [o2]; rfl
            refine W_plan (mkE' hc noSP) 30 9 (lineP 0 9 .done) (by rw [hc]; exact mix) (by kernel_rfl) 100 ?_
            repeat' (first | refine ⟨_, ⟨rfl, rfl⟩, ?_⟩ | fail)
            (refine (?_ : br _ _ _); refine br_dec (fun g => ?_) (fun g => ?_))
            · have g : (IntKind.i64.wrap (s.E 4 - 1)) < (IntKind.i64.wrap (s.E 3 - 1)) := g
              have hE' := hE hlo (by rw [o3]; exact g)
              rw [o3] at hE'
              have re : 0 ≤ s.d n ∧ s.d n < s.N := hE'.1
              obtain ⟨e2, he2⟩ : ∃ e2, e2 = (unl s n).u (s.d n).toNat := ⟨_, rfl⟩
              have rf : 0 ≤ e2 ∧ e2 < s.N := by rw [he2]; exact hE'.2
              have re' : (decide (0 ≤ s.d n) && decide (s.d n < (s.N : Int))) = true := by simp only [Bool.and_eq_true, decide_eq_true_eq]; omega
              have rf' : (decide (0 ≤ e2) && decide (e2 < (s.N : Int))) = true := by simp only [Bool.and_eq_true, decide_eq_true_eq]; omega
              refine W_plan (mkE' hc noSP) 30 14 (lineP 0 14 (oneP 14 .done)) (by rw [hc]; exact mix) (by kernel_rfl) 100 ?_
              refine ⟨_, ⟨rfl, rfl⟩, ?_⟩
              refine ⟨_, ⟨rfl, rfl⟩, ?_⟩
              refine ⟨_, ⟨rfl, rfl⟩, ?_⟩
              refine ⟨_, ⟨rfl, rfl⟩, ?_⟩
              refine ⟨_, ⟨rfl, rfl⟩, ?_⟩
              refine ⟨_, ⟨rfl, rfl⟩, ?_⟩
              refine ⟨_, ⟨rfl, rfl⟩, ?_⟩
              refine ⟨_, ⟨rfl, rfl⟩, ?_⟩
              refine ⟨_, ⟨rfl, rfl⟩, ?_⟩
              refine ⟨.ptr 2001 (s.d n).toNat 0, (show chk _ _ from chk_ok re' (show chk _ _ from chk_ok rfl ⟨rfl, rfl⟩)), ?_⟩
              refine ⟨_, ⟨rfl, rfl⟩, ?_⟩
              refine ⟨.int .i64 e2, (show chk _ _ from chk_ok (Nat.ble_eq_true_of_le (show (s.d n).toNat * 5 + (0 + 0) + 1 ≤ s.N * 5 by omega)) ⟨by rw [he2]; rfl, rfl⟩), ?_⟩
              refine ⟨_, ⟨rfl, rfl⟩, ?_⟩
              refine ⟨_, ⟨rfl, rfl⟩, ?_⟩
              refine ⟨⟨trivial, ?_⟩, trivial⟩
              refine W_plan (mkE' hc noSP) 30 10 (lineP 0 10 (oneP 10 .done)) (by rw [hc]; exact mix) (by kernel_rfl) 100 ?_
              refine ⟨_, ⟨rfl, rfl⟩, ?_⟩
              refine ⟨_, ⟨rfl, rfl⟩, ?_⟩
              refine ⟨_, ⟨rfl, rfl⟩, ?_⟩
              refine ⟨_, ⟨rfl, rfl⟩, ?_⟩
              refine ⟨_, ⟨rfl, rfl⟩, ?_⟩
              refine ⟨_, ⟨rfl, rfl⟩, ?_⟩
              refine ⟨_, ⟨rfl, rfl⟩, ?_⟩
              refine ⟨_, ⟨rfl, rfl⟩, ?_⟩
              refine ⟨.ptr 2001 e2.toNat 0, (show chk _ _ from chk_ok rf' (show chk _ _ from chk_ok rfl ⟨rfl, rfl⟩)), ?_⟩
              refine ⟨_, ⟨rfl, rfl⟩, ?_⟩
              refine ⟨⟨trivial, ?_⟩, trivial⟩
              (refine (?_ : chk _ _); refine chk_ok (Nat.ble_eq_true_of_le (show e2.toNat * 5 + (0 + 3) + 1 ≤ s.N * 5 by omega)) ?_)
              refine ⟨rfl, _, _, rfl, rfl, ?_⟩
              have o4 : outS s n 1 = { out3 s n 1 with E := updI (updI (out3 s n 1).E 5 e2) 4 (IntKind.i64.wrap ((IntKind.i64.wrap (s.E 4 - 1)) + 1)), lo := updB s.lo e2.toNat true } := by
                rw [outS, if_neg (by rw [hlo]; decide)]
                unfold out4
                simp only
                rw [if_pos (by rw [o3]; exact g), he2, o3]
                rfl
              rw [o4, o3]
              exact ⟨putE (putE (putE (putE (putE GS0 3 (IntKind.i64.wrap (s.E 3 - 1)) (by omega)) 5 (s.d n) (by omega)) 4 (IntKind.i64.wrap (s.E 4 - 1)) (by omega)) 5 e2 (by omega)) 4 _ (by omega), fun i c hi hc => put3 (N := s.N) gA_self e2.toNat true i c hi hc⟩
            · have g : ¬ (IntKind.i64.wrap (s.E 4 - 1)) < (IntKind.i64.wrap (s.E 3 - 1)) := g
              refine ⟨rfl, _, _, rfl, rfl, ?_⟩
              have o4 : outS s n 1 = out3 s n 1 := by
                rw [outS, if_neg (by rw [hlo]; decide)]
                unfold out4
                simp only
                rw [if_neg (by rw [o3]; exact g)]
              rw [o4, o3]
              exact ⟨putE (putE (putE GS0 3 (IntKind.i64.wrap (s.E 3 - 1)) (by omega)) 5 (s.d n) (by omega)) 4 (IntKind.i64.wrap (s.E 4 - 1)) (by omega), fun i c hi hc => rfl⟩
          · have e : s.E 5 ≠ n := e
            have o2 : out2 s n 1 = out1 s n 1 := if_neg e
            have o3 : out3 s n 1 = (out1 s n 1).setE 4 (IntKind.i64.wrap (s.E 4 - 1)) := by unfold out3; rw [o2]; rfl
            refine W_plan (mkE' hc noSP) 30 9 (lineP 0 9 .done) (by rw [hc]; exact mix) (by kernel_rfl) 100 ?_
            repeat' (first | refine ⟨_, ⟨rfl, rfl⟩, ?_⟩ | fail)
            (refine (?_ : br _ _ _); refine br_dec (fun g => ?_) (fun g => ?_))
            · have g : (IntKind.i64.wrap (s.E 4 - 1)) < (IntKind.i64.wrap (s.E 3 - 1)) := g
              have hE' := hE hlo (by rw [o3]; exact g)
              rw [o3] at hE'
              have re : 0 ≤ s.E 5 ∧ s.E 5 < s.N := hE'.1
              obtain ⟨e2, he2⟩ : ∃ e2, e2 = (unl s n).u (s.E 5).toNat := ⟨_, rfl⟩
              have rf : 0 ≤ e2 ∧ e2 < s.N := by rw [he2]; exact hE'.2
              have re' : (decide (0 ≤ s.E 5) && decide (s.E 5 < (s.N : Int))) = true := by simp only [Bool.and_eq_true, decide_eq_true_eq]; omega
              have rf' : (decide (0 ≤ e2) && decide (e2 < (s.N : Int))) = true := by simp only [Bool.and_eq_true, decide_eq_true_eq]; omega
              refine W_plan (mkE' hc noSP) 30 14 (lineP 0 14 (oneP 14 .done)) (by rw [hc]; exact mix) (by kernel_rfl) 100 ?_
              refine ⟨_, ⟨rfl, rfl⟩, ?_⟩
              refine ⟨_, ⟨rfl, rfl⟩, ?_⟩
              refine ⟨_, ⟨rfl, rfl⟩, ?_⟩
              refine ⟨_, ⟨rfl, rfl⟩, ?_⟩
              refine ⟨_, ⟨rfl, rfl⟩, ?_⟩
              refine ⟨_, ⟨rfl, rfl⟩, ?_⟩
              refine ⟨_, ⟨rfl, rfl⟩, ?_⟩
              refine ⟨_, ⟨rfl, rfl⟩, ?_⟩
              refine ⟨_, ⟨rfl, rfl⟩, ?_⟩
              refine ⟨.ptr 2001 (s.E 5).toNat 0, (show chk _ _ from chk_ok re' (show chk _ _ from chk_ok rfl ⟨rfl, rfl⟩)), ?_⟩
              refine ⟨_, ⟨rfl, rfl⟩, ?_⟩
              refine ⟨.int .i64 e2, (show chk _ _ from chk_ok (Nat.ble_eq_true_of_le (show (s.E 5).toNat * 5 + (0 + 0) + 1 ≤ s.N * 5 by omega)) ⟨by rw [he2]; rfl, rfl⟩), ?_⟩
              refine ⟨_, ⟨rfl, rfl⟩, ?_⟩
              refine ⟨_, ⟨rfl, rfl⟩, ?_⟩
              refine ⟨⟨trivial, ?_⟩, trivial⟩
              refine W_plan (mkE' hc noSP) 30 10 (lineP 0 10 (oneP 10 .done)) (by rw [hc]; exact mix) (by kernel_rfl) 100 ?_
              refine ⟨_, ⟨rfl, rfl⟩, ?_⟩
              refine ⟨_, ⟨rfl, rfl⟩, ?_⟩
              refine ⟨_, ⟨rfl, rfl⟩, ?_⟩
              refine ⟨_, ⟨rfl, rfl⟩, ?_⟩
              refine ⟨_, ⟨rfl, rfl⟩, ?_⟩
              refine ⟨_, ⟨rfl, rfl⟩, ?_⟩
              refine ⟨_, ⟨rfl, rfl⟩, ?_⟩
              refine ⟨_, ⟨rfl, rfl⟩, ?_⟩
              refine ⟨.ptr 2001 e2.toNat 0, (show chk _ _ from chk_ok rf' (show chk _ _ from chk_ok rfl ⟨rfl, rfl⟩)), ?_⟩
              refine ⟨_, ⟨rfl, rfl⟩, ?_⟩
              refine ⟨⟨trivial, ?_⟩, trivial⟩
              (refine (?_ : chk _ _); refine chk_ok (Nat.ble_eq_true_of_le (show e2.toNat * 5 + (0 + 3) + 1 ≤ s.N * 5 by omega)) ?_)
              refine ⟨rfl, _, _, rfl, rfl, ?_⟩
              have o4 : outS s n 1 = { out3 s n 1 with E := updI (updI (out3 s n 1).E 5 e2) 4 (IntKind.i64.wrap ((IntKind.i64.wrap (s.E 4 - 1)) + 1)), lo := updB s.lo e2.toNat true } := by
                rw [outS, if_neg (by rw [hlo]; decide)]
                unfold out4
                simp only
                rw [if_pos (by rw [o3]; exact g), he2, o3]
                rfl
              rw [o4, o3]
              exact ⟨putE (putE (putE (putE GS0 3 (IntKind.i64.wrap (s.E 3 - 1)) (by omega)) 4 (IntKind.i64.wrap (s.E 4 - 1)) (by omega)) 5 e2 (by omega)) 4 _ (by omega), fun i c hi hc => put3 (N := s.N) gA_self e2.toNat true i c hi hc⟩
            · have g : ¬ (IntKind.i64.wrap (s.E 4 - 1)) < (IntKind.i64.wrap (s.E 3 - 1)) := g
              refine ⟨rfl, _, _, rfl, rfl, ?_⟩
              have o4 : outS s n 1 = out3 s n 1 := by
                rw [outS, if_neg (by rw [hlo]; decide)]
                unfold out4
                simp only
                rw [if_neg (by rw [o3]; exact g)]
              rw [o4, o3]
              exact ⟨putE (putE GS0 3 (IntKind.i64.wrap (s.E 3 - 1)) (by omega)) 4 (IntKind.i64.wrap (s.E 4 - 1)) (by omega), fun i c hi hc => rfl⟩
        · have hlo : s.lo n = false := hlo
          refine ⟨rfl, _, _, rfl, rfl, ?_⟩
          rw [outS, if_pos hlo]
          exact ⟨putE GS0 3 _ (by omega), fun i c hi hc => rfl⟩
end Go.Proofs.YtiihiifcnkfjoaaDoor.Sx

/-
  The walks of this seat's functions: a node is put in front of a list.
-/
namespace Go.Proofs.YtiihiifcnkfjoaaDoor.Sx
open Go Go.Proofs
set_option maxRecDepth 100000
set_option linter.unusedSimpArgs false
set_option linter.unusedVariables false

def gd (s : Sh) (q : Nat) : Nat := s.N - 2 + q
/-- A node in front of list q. -/
def inS (s : Sh) (q n : Nat) : Sh :=
  let f := s.d (gd s q); let low := decide (s.E (3 * q + 1) < s.bot); let E1 := updI s.E (3 * q) (IntKind.i64.wrap (s.E (3 * q) + 1))
  { s with u := updI (updI s.u n (gd s q)) f.toNat n, d := updI (updI s.d n f) (gd s q) n, l := updI s.l n q, lo := updB s.lo n low, E := if low = true then updI (updI E1 (3 * q + 1) (IntKind.i64.wrap (E1 (3 * q + 1) + 1))) (3 * q + 2) n else E1 }
def preIn : List V → Sh → Sh → V → Prop := fun rest s s' v => ∃ (q n : Nat), rest = [.int .i64 (q : Int), .int .i64 (n : Int)] ∧ q < 2 ∧ n < s.N ∧ 3 ≤ s.N ∧ s.N ≤ 1000 ∧ (0 ≤ s.d (gd s q) ∧ s.d (gd s q) < s.N) ∧ s' = inS s q n ∧ v = .tup []
theorem gd_wrap {s : Sh} {q : Nat} (h3 : 3 ≤ s.N) (h1 : s.N ≤ 1000) (hq : q < 2) : IntKind.i64.wrap (s.n + (q : Int)) = ((gd s q : Nat) : Int) := by
  unfold Sh.n gd
  simp only [IntKind.wrap_i64]
  omega
theorem in_ok : SpecOK Tryd.prog 77 (fun args h nx K => ∃ p rest s s' v, args = p :: rest ∧ preIn rest s s' v ∧ sMut h nx K p s s' v) := by
  refine specOK_shelf (fn := Tryd.f77) rfl rfl rfl T_ok (SP := [(49, sGuard)]) (consSP sGuard_ok noSP) preIn ?_ ?_
  · rintro rest s s' v ⟨q, n, rfl, _, _, _, _, _, rfl, rfl⟩
    exact ⟨⟨trivial, trivial, trivial⟩, trivial, rfl, by simp [Tryd.f77]⟩
  · rintro rest s s' v bS bA c ⟨q, n, rfl, hq, hn, h3, h1, hd, rfl, rfl⟩ hc
    have hq2 : q = 0 ∨ q = 1 := by omega
    rcases hq2 with rfl | rfl
    · -- list 0
      have hG := gd_wrap (q := 0) h3 h1 (by omega)
      obtain ⟨G, hGe⟩ : ∃ G, G = gd s 0 := ⟨_, rfl⟩
      have hGN : G < s.N := by rw [hGe]; unfold gd; omega
      rw [← hGe] at hG hd
      have rG : (decide ((0 : Int) ≤ (G : Int)) && decide ((G : Int) < (s.N : Int))) = true := by simp only [Bool.and_eq_true, decide_eq_true_eq]; omega
      have rn' : (decide ((0 : Int) ≤ (n : Int)) && decide ((n : Int) < (s.N : Int))) = true := by simp only [Bool.and_eq_true, decide_eq_true_eq]; omega
      have rf : (decide ((0 : Int) ≤ s.d G) && decide (s.d G < (s.N : Int))) = true := by simp only [Bool.and_eq_true, decide_eq_true_eq]; omega
      have eS : ∀ {τ : Nat → Nat} {hh : Hp}, (2001 = τ 2001 ∧ live hh 2001) → ∀ i c, i < 1 → c < 8 → rn τ hh (gS 2001 s.N s.bot s.E i c) (gS 2001 s.N s.bot s.E i c) := fun ht i c hi hc => gS_rn ht
      refine W_seq (nx := 0) ?_
      refine W_to (nx := 0) [(0, .ptr 2000 0 0), (1, .int .i64 0), (2, .int .i64 (n : Int)), (6, .int .i64 (G : Int))] [(2000, .blk bS 1 8 (gS 2001 s.N s.bot s.E) 84), (2001, .blk bA s.N 5 (gA s.u s.d s.l s.lo s.he) 86)] 30 ?_ ?_
      · refine vc_sound (mkE' hc (consSP sGuard_ok noSP)) 20 _ _ _ 0 ?_
        refine ⟨_, s, _, rfl, ⟨2000, 2001, bS, bA, _, _, rfl, by decide, rfl, rfl, fun c hc => rfl, fun i c hi hc => rfl⟩, ?_⟩
        rw [hG]
        refine ⟨tau [], rfl, ?_, ⟨rfl, rfl, rfl, rfl, eS ⟨rfl, trivial⟩⟩, ⟨rfl, rfl, rfl, rfl, fun i c hi hc => gA_rn hc⟩, trivial⟩
        repeat' (first | exact rfl | exact trivial | refine ⟨?_, ?_⟩)
      refine W_seq (nx := 0) ?_
      refine W_to (nx := 0) [(0, .ptr 2000 0 0), (1, .int .i64 0), (2, .int .i64 (n : Int)), (6, .int .i64 (G : Int)), (7, .ptr 2000 0 2)] [(2000, .blk bS 1 8 (gS 2001 s.N s.bot s.E) 84), (2001, .blk bA s.N 5 (gA s.u s.d s.l s.lo s.he) 86)] 30 ?_ ?_
      · refine vc_sound (mkE' hc (consSP sGuard_ok noSP)) 20 _ _ _ 0 ?_
        refine ⟨tau [], rfl, ?_, ⟨rfl, rfl, rfl, rfl, eS ⟨rfl, trivial⟩⟩, ⟨rfl, rfl, rfl, rfl, fun i c hi hc => gA_rn hc⟩, trivial⟩
        repeat' (first | exact rfl | exact trivial | refine ⟨?_, ?_⟩)
      refine W_seq (nx := 0) ?_
      refine W_to (nx := 0) [(0, .ptr 2000 0 0), (1, .int .i64 0), (2, .int .i64 (n : Int)), (6, .int .i64 (G : Int)), (7, .ptr 2000 0 2), (8, .int .i64 (s.d G))] [(2000, .blk bS 1 8 (gS 2001 s.N s.bot s.E) 84), (2001, .blk bA s.N 5 (gA s.u s.d s.l s.lo s.he) 86)] 30 ?_ ?_
      · refine vc_sound (mkE' hc (consSP sGuard_ok noSP)) 20 _ _ _ 0 ?_
        (refine (?_ : chk _ _); refine chk_ok rG ?_)
        (refine (?_ : chk _ _); refine chk_ok rfl ?_)
        (refine (?_ : chk _ _); refine chk_ok (Nat.ble_eq_true_of_le (show G * 5 + (0 + 1) + 1 ≤ s.N * 5 by omega)) ?_)
        refine ⟨tau [], rfl, ?_, ⟨rfl, rfl, rfl, rfl, eS ⟨rfl, trivial⟩⟩, ⟨rfl, rfl, rfl, rfl, fun i c hi hc => gA_rn hc⟩, trivial⟩
        repeat' (first | exact rfl | exact trivial | refine ⟨?_, ?_⟩)
      refine W_seq (nx := 0) ?_
      refine W_to (nx := 0) [(0, .ptr 2000 0 0), (1, .int .i64 0), (2, .int .i64 (n : Int)), (6, .int .i64 (G : Int)), (7, .ptr 2000 0 2), (8, .int .i64 (s.d G)), (9, .ptr 2001 n 0)] [(2000, .blk bS 1 8 (gS 2001 s.N s.bot s.E) 84), (2001, .blk bA s.N 5 (gA s.u s.d s.l s.lo s.he) 86)] 30 ?_ ?_
      · refine vc_sound (mkE' hc (consSP sGuard_ok noSP)) 20 _ _ _ 0 ?_
        (refine (?_ : chk _ _); refine chk_ok rn' ?_)
        (refine (?_ : chk _ _); refine chk_ok rfl ?_)
        refine ⟨tau [], rfl, ?_, ⟨rfl, rfl, rfl, rfl, eS ⟨rfl, trivial⟩⟩, ⟨rfl, rfl, rfl, rfl, fun i c hi hc => gA_rn hc⟩, trivial⟩
        repeat' (first | exact rfl | exact trivial | refine ⟨?_, ?_⟩)
      refine W_seq (nx := 0) ?_
      refine W_to (nx := 0) [(0, .ptr 2000 0 0), (1, .int .i64 0), (2, .int .i64 (n : Int)), (6, .int .i64 (G : Int)), (7, .ptr 2000 0 2), (8, .int .i64 (s.d G)), (9, .ptr 2001 n 0)] [(2000, .blk bS 1 8 (gS 2001 s.N s.bot s.E) 84), (2001, .blk bA s.N 5 (gA (updI s.u n G) (updI s.d n (s.d G)) (updI s.l n 0) (updB s.lo n (decide (s.E 1 < s.bot))) s.he) 86)] 30 ?_ ?_
      · refine W_plan (mkE' hc (consSP sGuard_ok noSP)) 3 18 (lineP 0 18 (oneP 18 (oneP 19 (oneP 20 (oneP 21 (oneP 22 (oneP 23 (oneP 24 (oneP 25 (oneP 26 (oneP 27 (.done)))))))))))) (by rw [hc]; exact mix) (by kernel_rfl) 10 ?_
        repeat' (first | refine ⟨_, ⟨rfl, rfl⟩, ?_⟩ | fail)
        refine ⟨⟨trivial, ?_⟩, trivial⟩
        (refine (?_ : chk _ _); refine chk_ok (Nat.ble_eq_true_of_le (show n * 5 + (0 + 0) + 1 ≤ s.N * 5 by omega)) ?_)
        refine ⟨⟨trivial, ?_⟩, trivial⟩
        refine ⟨⟨trivial, ?_⟩, trivial⟩
        refine ⟨⟨trivial, ?_⟩, trivial⟩
        (refine (?_ : chk _ _); refine chk_ok (Nat.ble_eq_true_of_le (show n * 5 + (0 + 1) + 1 ≤ s.N * 5 by omega)) ?_)
        refine ⟨⟨trivial, ?_⟩, trivial⟩
        refine ⟨⟨trivial, ?_⟩, trivial⟩
        refine ⟨⟨trivial, ?_⟩, trivial⟩
        (refine (?_ : chk _ _); refine chk_ok (Nat.ble_eq_true_of_le (show n * 5 + (0 + 2) + 1 ≤ s.N * 5 by omega)) ?_)
        refine ⟨⟨trivial, ?_⟩, trivial⟩
        refine ⟨⟨trivial, ?_⟩, trivial⟩
        refine ⟨⟨trivial, ?_⟩, trivial⟩
        (refine (?_ : chk _ _); refine chk_ok (Nat.ble_eq_true_of_le (show n * 5 + (0 + 3) + 1 ≤ s.N * 5 by omega)) ?_)
        refine ⟨tau [], rfl, ?_, ?_⟩
        · repeat' (first | exact rfl | exact trivial | refine ⟨?_, ?_⟩)
        · exact ⟨⟨rfl, rfl, rfl, rfl, eS ⟨rfl, trivial⟩⟩, ⟨rfl, rfl, rfl, rfl, fun i c hi hc => gA_eq (put3 (N := s.N) (put2 (N := s.N) (put1 (N := s.N) (put0 (N := s.N) (gA_self (u := s.u) (d := s.d) (l := s.l) (lo := s.lo) (he := s.he)) n (G : Int)) n (s.d G)) n 0) n (decide (s.E 1 < s.bot)) i c hi hc) hc⟩, trivial⟩
      refine W_seq (nx := 0) ?_
      refine W_to (nx := 0) [(0, .ptr 2000 0 0), (2, .int .i64 (n : Int)), (7, .ptr 2000 0 2), (9, .ptr 2001 n 0)] [(2000, .blk bS 1 8 (gS 2001 s.N s.bot s.E) 84), (2001, .blk bA s.N 5 (gA (inS s 0 n).u (inS s 0 n).d (inS s 0 n).l (inS s 0 n).lo s.he) 86)] 30 ?_ ?_
      · refine W_plan (mkE' hc (consSP sGuard_ok noSP)) 3 14 (lineP 0 14 (oneP 14 (oneP 15 (oneP 16 (oneP 17 .done))))) (by rw [hc]; exact mix) (by kernel_rfl) 10 ?_
        refine ⟨_, ⟨rfl, rfl⟩, ?_⟩
        refine ⟨_, ⟨rfl, rfl⟩, ?_⟩
        refine ⟨_, ⟨rfl, rfl⟩, ?_⟩
        refine ⟨_, ⟨rfl, rfl⟩, ?_⟩
        refine ⟨_, ⟨rfl, rfl⟩, ?_⟩
        refine ⟨_, ⟨rfl, rfl⟩, ?_⟩
        refine ⟨_, ⟨rfl, rfl⟩, ?_⟩
        refine ⟨_, ⟨rfl, rfl⟩, ?_⟩
        refine ⟨_, ⟨rfl, rfl⟩, ?_⟩
        refine ⟨_, ⟨rfl, rfl⟩, ?_⟩
        refine ⟨_, ⟨rfl, rfl⟩, ?_⟩
        refine ⟨_, ⟨rfl, rfl⟩, ?_⟩
        refine ⟨.ptr 2001 G 0, (show chk _ _ from chk_ok rG (show chk _ _ from chk_ok rfl ⟨rfl, rfl⟩)), ?_⟩
        refine ⟨_, ⟨rfl, rfl⟩, ?_⟩
        refine ⟨⟨trivial, ?_⟩, trivial⟩
        (refine (?_ : chk _ _); refine chk_ok (Nat.ble_eq_true_of_le (show G * 5 + (0 + 1) + 1 ≤ s.N * 5 by omega)) ?_)
        refine ⟨⟨trivial, ?_⟩, trivial⟩
        (refine (?_ : chk _ _); refine chk_ok rf ?_)
        (refine (?_ : chk _ _); refine chk_ok rfl ?_)
        refine ⟨⟨trivial, ?_⟩, trivial⟩
        refine ⟨⟨trivial, ?_⟩, trivial⟩
        (refine (?_ : chk _ _); refine chk_ok (Nat.ble_eq_true_of_le (show (s.d G).toNat * 5 + (0 + 0) + 1 ≤ s.N * 5 by omega)) ?_)
        refine ⟨tau [], rfl, ?_, ?_⟩
        · repeat' (first | exact rfl | exact trivial | refine ⟨?_, ?_⟩)
        · refine ⟨⟨rfl, rfl, rfl, rfl, eS ⟨rfl, trivial⟩⟩, ⟨rfl, rfl, rfl, rfl, fun i c hi hc => ?_⟩, trivial⟩
          have := put0 (N := s.N) (put1 (N := s.N) (gA_self (u := updI s.u n G) (d := updI s.d n (s.d G)) (l := updI s.l n 0) (lo := updB s.lo n (decide (s.E 1 < s.bot))) (he := s.he)) G n) (s.d G).toNat n i c hi hc
          refine gA_eq (this.trans ?_) hc
          rw [hGe]
          rfl
      · refine vc_sound (mkE' hc (consSP sGuard_ok noSP)) 100 _ _ _ 30 ?_
        have hlow : (inS s 0 n).lo n = decide (s.E 1 < s.bot) := by simp [inS, updB]
        (refine (?_ : chk _ _); refine chk_ok (Nat.ble_eq_true_of_le (show n * 5 + (0 + 3) + 1 ≤ s.N * 5 by omega)) ?_)
        (refine (?_ : br _ _ _); refine br_both (fun e => ?_) (fun e => ?_))
        · have e : (inS s 0 n).lo n = true := e
          rw [hlow] at e
          refine ⟨rfl, _, _, rfl, rfl, ?_, fun i c hi hc => rfl⟩
          have hE : (inS s 0 n).E = updI (updI (updI s.E 0 (IntKind.i64.wrap (s.E 0 + 1))) 1 (IntKind.i64.wrap (s.E 1 + 1))) 2 n := by
            show (if decide (s.E 1 < s.bot) = true then _ else _) = _
            rw [if_pos e]
            rfl
          intro c hc
          rw [hE]
          exact putE (putE (putE (fun _ _ => rfl) 0 _ (by omega)) 1 _ (by omega)) 2 _ (by omega) c hc
        · have e : (inS s 0 n).lo n = false := e
          rw [hlow] at e
          refine ⟨rfl, _, _, rfl, rfl, ?_, fun i c hi hc => rfl⟩
          have hE : (inS s 0 n).E = updI s.E 0 (IntKind.i64.wrap (s.E 0 + 1)) := by
            show (if decide (s.E 1 < s.bot) = true then _ else _) = _
            rw [if_neg (by rw [e]; decide)]
          intro c hc
          rw [hE]
          exact putE (fun _ _ => rfl) 0 _ (by omega) c hc
    · -- list 1
      have hG := gd_wrap (q := 1) h3 h1 (by omega)
      obtain ⟨G, hGe⟩ : ∃ G, G = gd s 1 := ⟨_, rfl⟩
      have hGN : G < s.N := by rw [hGe]; unfold gd; omega
      rw [← hGe] at hG hd
      have rG : (decide ((0 : Int) ≤ (G : Int)) && decide ((G : Int) < (s.N : Int))) = true := by simp only [Bool.and_eq_true, decide_eq_true_eq]; omega
      have rn' : (decide ((0 : Int) ≤ (n : Int)) && decide ((n : Int) < (s.N : Int))) = true := by simp only [Bool.and_eq_true, decide_eq_true_eq]; omega
      have rf : (decide ((0 : Int) ≤ s.d G) && decide (s.d G < (s.N : Int))) = true := by simp only [Bool.and_eq_true, decide_eq_true_eq]; omega
      have eS : ∀ {τ : Nat → Nat} {hh : Hp}, (2001 = τ 2001 ∧ live hh 2001) → ∀ i c, i < 1 → c < 8 → rn τ hh (gS 2001 s.N s.bot s.E i c) (gS 2001 s.N s.bot s.E i c) := fun ht i c hi hc => gS_rn ht
      refine W_seq (nx := 0) ?_
      refine W_to (nx := 0) [(0, .ptr 2000 0 0), (1, .int .i64 1), (2, .int .i64 (n : Int)), (6, .int .i64 (G : Int))] [(2000, .blk bS 1 8 (gS 2001 s.N s.bot s.E) 84), (2001, .blk bA s.N 5 (gA s.u s.d s.l s.lo s.he) 86)] 30 ?_ ?_
      · refine vc_sound (mkE' hc (consSP sGuard_ok noSP)) 20 _ _ _ 0 ?_
        refine ⟨_, s, _, rfl, ⟨2000, 2001, bS, bA, _, _, rfl, by decide, rfl, rfl, fun c hc => rfl, fun i c hi hc => rfl⟩, ?_⟩
        rw [hG]
        refine ⟨tau [], rfl, ?_, ⟨rfl, rfl, rfl, rfl, eS ⟨rfl, trivial⟩⟩, ⟨rfl, rfl, rfl, rfl, fun i c hi hc => gA_rn hc⟩, trivial⟩
        repeat' (first | exact rfl | exact trivial | refine ⟨?_, ?_⟩)
      refine W_seq (nx := 0) ?_
      refine W_to (nx := 0) [(0, .ptr 2000 0 0), (1, .int .i64 1), (2, .int .i64 (n : Int)), (6, .int .i64 (G : Int)), (7, .ptr 2000 0 5)] [(2000, .blk bS 1 8 (gS 2001 s.N s.bot s.E) 84), (2001, .blk bA s.N 5 (gA s.u s.d s.l s.lo s.he) 86)] 30 ?_ ?_
      · refine vc_sound (mkE' hc (consSP sGuard_ok noSP)) 20 _ _ _ 0 ?_
        refine ⟨tau [], rfl, ?_, ⟨rfl, rfl, rfl, rfl, eS ⟨rfl, trivial⟩⟩, ⟨rfl, rfl, rfl, rfl, fun i c hi hc => gA_rn hc⟩, trivial⟩
        repeat' (first | exact rfl | exact trivial | refine ⟨?_, ?_⟩)
      refine W_seq (nx := 0) ?_
      refine W_to (nx := 0) [(0, .ptr 2000 0 0), (1, .int .i64 1), (2, .int .i64 (n : Int)), (6, .int .i64 (G : Int)), (7, .ptr 2000 0 5), (8, .int .i64 (s.d G))] [(2000, .blk bS 1 8 (gS 2001 s.N s.bot s.E) 84), (2001, .blk bA s.N 5 (gA s.u s.d s.l s.lo s.he) 86)] 30 ?_ ?_
      · refine vc_sound (mkE' hc (consSP sGuard_ok noSP)) 20 _ _ _ 0 ?_
        (refine (?_ : chk _ _); refine chk_ok rG ?_)
        (refine (?_ : chk _ _); refine chk_ok rfl ?_)
        (refine (?_ : chk _ _); refine chk_ok (Nat.ble_eq_true_of_le (show G * 5 + (0 + 1) + 1 ≤ s.N * 5 by omega)) ?_)
        refine ⟨tau [], rfl, ?_, ⟨rfl, rfl, rfl, rfl, eS ⟨rfl, trivial⟩⟩, ⟨rfl, rfl, rfl, rfl, fun i c hi hc => gA_rn hc⟩, trivial⟩
        repeat' (first | exact rfl | exact trivial | refine ⟨?_, ?_⟩)
      refine W_seq (nx := 0) ?_
      refine W_to (nx := 0) [(0, .ptr 2000 0 0), (1, .int .i64 1), (2, .int .i64 (n : Int)), (6, .int .i64 (G : Int)), (7, .ptr 2000 0 5), (8, .int .i64 (s.d G)), (9, .ptr 2001 n 0)] [(2000, .blk bS 1 8 (gS 2001 s.N s.bot s.E) 84), (2001, .blk bA s.N 5 (gA s.u s.d s.l s.lo s.he) 86)] 30 ?_ ?_
      · refine vc_sound (mkE' hc (consSP sGuard_ok noSP)) 20 _ _ _ 0 ?_
        (refine (?_ : chk _ _); refine chk_ok rn' ?_)
        (refine (?_ : chk _ _); refine chk_ok rfl ?_)
        refine ⟨tau [], rfl, ?_, ⟨rfl, rfl, rfl, rfl, eS ⟨rfl, trivial⟩⟩, ⟨rfl, rfl, rfl, rfl, fun i c hi hc => gA_rn hc⟩, trivial⟩
        repeat' (first | exact rfl | exact trivial | refine ⟨?_, ?_⟩)
      refine W_seq (nx := 0) ?_
      refine W_to (nx := 0) [(0, .ptr 2000 0 0), (1, .int .i64 1), (2, .int .i64 (n : Int)), (6, .int .i64 (G : Int)), (7, .ptr 2000 0 5), (8, .int .i64 (s.d G)), (9, .ptr 2001 n 0)] [(2000, .blk bS 1 8 (gS 2001 s.N s.bot s.E) 84), (2001, .blk bA s.N 5 (gA (updI s.u n G) (updI s.d n (s.d G)) (updI s.l n 1) (updB s.lo n (decide (s.E 4 < s.bot))) s.he) 86)] 30 ?_ ?_
      · refine W_plan (mkE' hc (consSP sGuard_ok noSP)) 3 18 (lineP 0 18 (oneP 18 (oneP 19 (oneP 20 (oneP 21 (oneP 22 (oneP 23 (oneP 24 (oneP 25 (oneP 26 (oneP 27 (.done)))))))))))) (by rw [hc]; exact mix) (by kernel_rfl) 10 ?_
        repeat' (first | refine ⟨_, ⟨rfl, rfl⟩, ?_⟩ | fail)
        refine ⟨⟨trivial, ?_⟩, trivial⟩
        (refine (?_ : chk _ _); refine chk_ok (Nat.ble_eq_true_of_le (show n * 5 + (0 + 0) + 1 ≤ s.N * 5 by omega)) ?_)
        refine ⟨⟨trivial, ?_⟩, trivial⟩
        refine ⟨⟨trivial, ?_⟩, trivial⟩
        refine ⟨⟨trivial, ?_⟩, trivial⟩
        (refine (?_ : chk _ _); refine chk_ok (Nat.ble_eq_true_of_le (show n * 5 + (0 + 1) + 1 ≤ s.N * 5 by omega)) ?_)
        refine ⟨⟨trivial, ?_⟩, trivial⟩
        refine ⟨⟨trivial, ?_⟩, trivial⟩
        refine ⟨⟨trivial, ?_⟩, trivial⟩
        (refine (?_ : chk _ _); refine chk_ok (Nat.ble_eq_true_of_le (show n * 5 + (0 + 2) + 1 ≤ s.N * 5 by omega)) ?_)
        refine ⟨⟨trivial, ?_⟩, trivial⟩
        refine ⟨⟨trivial, ?_⟩, trivial⟩
        refine ⟨⟨trivial, ?_⟩, trivial⟩
        (refine (?_ : chk _ _); refine chk_ok (Nat.ble_eq_true_of_le (show n * 5 + (0 + 3) + 1 ≤ s.N * 5 by omega)) ?_)
        refine ⟨tau [], rfl, ?_, ?_⟩
        · repeat' (first | exact rfl | exact trivial | refine ⟨?_, ?_⟩)
        · exact ⟨⟨rfl, rfl, rfl, rfl, eS ⟨rfl, trivial⟩⟩, ⟨rfl, rfl, rfl, rfl, fun i c hi hc => gA_eq (put3 (N := s.N) (put2 (N := s.N) (put1 (N := s.N) (put0 (N := s.N) (gA_self (u := s.u) (d := s.d) (l := s.l) (lo := s.lo) (he := s.he)) n (G : Int)) n (s.d G)) n 1) n (decide (s.E 4 < s.bot)) i c hi hc) hc⟩, trivial⟩
      refine W_seq (nx := 0) ?_
      refine W_to (nx := 0) [(0, .ptr 2000 0 0), (2, .int .i64 (n : Int)), (7, .ptr 2000 0 5), (9, .ptr 2001 n 0)] [(2000, .blk bS 1 8 (gS 2001 s.N s.bot s.E) 84), (2001, .blk bA s.N 5 (gA (inS s 1 n).u (inS s 1 n).d (inS s 1 n).l (inS s 1 n).lo s.he) 86)] 30 ?_ ?_
      · refine W_plan (mkE' hc (consSP sGuard_ok noSP)) 3 14 (lineP 0 14 (oneP 14 (oneP 15 (oneP 16 (oneP 17 .done))))) (by rw [hc]; exact mix) (by kernel_rfl) 10 ?_
        refine ⟨_, ⟨rfl, rfl⟩, ?_⟩
        refine ⟨_, ⟨rfl, rfl⟩, ?_⟩
        refine ⟨_, ⟨rfl, rfl⟩, ?_⟩
        refine ⟨_, ⟨rfl, rfl⟩, ?_⟩
        refine ⟨_, ⟨rfl, rfl⟩, ?_⟩
        refine ⟨_, ⟨rfl, rfl⟩, ?_⟩
        refine ⟨_, ⟨rfl, rfl⟩, ?_⟩
        refine ⟨_, ⟨rfl, rfl⟩, ?_⟩
        refine ⟨_, ⟨rfl, rfl⟩, ?_⟩
        refine ⟨_, ⟨rfl, rfl⟩, ?_⟩
        refine ⟨_, ⟨rfl, rfl⟩, ?_⟩
        refine ⟨_, ⟨rfl, rfl⟩, ?_⟩
        refine ⟨.ptr 2001 G 0, (show chk _ _ from chk_ok rG (show chk _ _ from chk_ok rfl ⟨rfl, rfl⟩)), ?_⟩
        refine ⟨_, ⟨rfl, rfl⟩, ?_⟩
        refine ⟨⟨trivial, ?_⟩, trivial⟩
        (refine (?_ : chk _ _); refine chk_ok (Nat.ble_eq_true_of_le (show G * 5 + (0 + 1) + 1 ≤ s.N * 5 by omega)) ?_)
        refine ⟨⟨trivial, ?_⟩, trivial⟩
        (refine (?_ : chk _ _); refine chk_ok rf ?_)
        (refine (?_ : chk _ _); refine chk_ok rfl ?_)
        refine ⟨⟨trivial, ?_⟩, trivial⟩
        refine ⟨⟨trivial, ?_⟩, trivial⟩
        (refine (?_ : chk _ _); refine chk_ok (Nat.ble_eq_true_of_le (show (s.d G).toNat * 5 + (0 + 0) + 1 ≤ s.N * 5 by omega)) ?_)
        refine ⟨tau [], rfl, ?_, ?_⟩
        · repeat' (first | exact rfl | exact trivial | refine ⟨?_, ?_⟩)
        · refine ⟨⟨rfl, rfl, rfl, rfl, eS ⟨rfl, trivial⟩⟩, ⟨rfl, rfl, rfl, rfl, fun i c hi hc => ?_⟩, trivial⟩
          have := put0 (N := s.N) (put1 (N := s.N) (gA_self (u := updI s.u n G) (d := updI s.d n (s.d G)) (l := updI s.l n 1) (lo := updB s.lo n (decide (s.E 4 < s.bot))) (he := s.he)) G n) (s.d G).toNat n i c hi hc
          refine gA_eq (this.trans ?_) hc
          rw [hGe]
          rfl
      · refine vc_sound (mkE' hc (consSP sGuard_ok noSP)) 100 _ _ _ 30 ?_
        have hlow : (inS s 1 n).lo n = decide (s.E 4 < s.bot) := by simp [inS, updB]
        (refine (?_ : chk _ _); refine chk_ok (Nat.ble_eq_true_of_le (show n * 5 + (0 + 3) + 1 ≤ s.N * 5 by omega)) ?_)
        (refine (?_ : br _ _ _); refine br_both (fun e => ?_) (fun e => ?_))
        · have e : (inS s 1 n).lo n = true := e
          rw [hlow] at e
          refine ⟨rfl, _, _, rfl, rfl, ?_, fun i c hi hc => rfl⟩
          have hE : (inS s 1 n).E = updI (updI (updI s.E 3 (IntKind.i64.wrap (s.E 3 + 1))) 4 (IntKind.i64.wrap (s.E 4 + 1))) 5 n := by
            show (if decide (s.E 4 < s.bot) = true then _ else _) = _
            rw [if_pos e]
            rfl
          intro c hc
          rw [hE]
          exact putE (putE (putE (fun _ _ => rfl) 3 _ (by omega)) 4 _ (by omega)) 5 _ (by omega) c hc
        · have e : (inS s 1 n).lo n = false := e
          rw [hlow] at e
          refine ⟨rfl, _, _, rfl, rfl, ?_, fun i c hi hc => rfl⟩
          have hE : (inS s 1 n).E = updI s.E 3 (IntKind.i64.wrap (s.E 3 + 1)) := by
            show (if decide (s.E 4 < s.bot) = true then _ else _) = _
            rw [if_neg (by rw [e]; decide)]
          intro c hc
          rw [hE]
          exact putE (fun _ _ => rfl) 3 _ (by omega) c hc
end Go.Proofs.YtiihiifcnkfjoaaDoor.Sx

