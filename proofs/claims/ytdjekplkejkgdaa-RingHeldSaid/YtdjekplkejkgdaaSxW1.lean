import Derived.Test.YtdjekplkejkgdaaSxLs
import Derived.Test.YtdjekplkejkgdaaSxT
/-
  The walks of this seat's functions, first part: what is known of a shelf; its readers.
-/
namespace Go.Proofs.Ytdjekplkejkgdaa.Sx
open Go Go.Proofs
set_option maxRecDepth 100000
set_option linter.unusedSimpArgs false
set_option linter.unusedVariables false

theorem mix : Try.prog.follows .mixedOrders = true := by kernel_rfl
theorem noSP {P : Program} : ∀ p ∈ ([] : SpT), SpecOK P p.1 p.2 := by intro p hp; cases hp
theorem consSP {P : Program} {f : Nat} {s : Spec} {l : SpT} (h : SpecOK P f s) (k : ∀ p ∈ l, SpecOK P p.1 p.2) : ∀ p ∈ (f, s) :: l, SpecOK P p.1 p.2 := by
  intro p hp
  rcases List.mem_cons.1 hp with rfl | hp
  · exact h
  · exact k p hp

theorem vrel_ro {h : Hp} {v : V} {x : Value} (r : vrel h v x) : vrel (roH h) v x := vrel_mono (fun t r e => by rw [fd_roH, Ent.toRo_rf]; exact e) v x r
theorem vrelL_ro {h : Hp} {l : List V} {xs : List Value} (r : vrelL h l xs) : vrelL (roH h) l xs := vrelL_mono (fun t r e => by rw [fd_roH, Ent.toRo_rf]; exact e) l xs r
/-- What is known, told anew, to a reader. -/
theorem told_wk {h G : Hp} {args args' : List V} (τ : Nat → Nat) (hn : nodupB ((G.map (·.1)).map τ) = true) (hw : wkH τ (roH h) G G) (ha : rnL τ G args args') : Told h args G args' :=
  ⟨fun hr hv => ⟨wk_rel hn hw hr.ro, rnL_rel (fun t' hl => wkE_rf (wkH_at hw _ _ (fd_mem hl)) hl) _ _ _ ha (vrelL_ro hv)⟩⟩

/-- A shelf's own cells, and its nodes'. -/
def gS (t N : Nat) (bot : Int) (E : Nat → Int) : Nat → Nat → V := fun _ c => match c with
  | 0 => .slice t 0 N N
  | 1 => .int .i64 bot
  | c + 2 => .int .i64 (E c)
def gA (u d l : Nat → Int) (lo he : Nat → Bool) : Nat → Nat → V := fun i c => match c with
  | 0 => .int .i64 (u i)
  | 1 => .int .i64 (d i)
  | 2 => .int .i64 (l i)
  | 3 => .bool (lo i)
  | _ => .bool (he i)

/-- What a shelf's rows hold: nodes and guards, N of them; the bottom's size; the ends; neighbours, lists, low, held. -/
structure Sh where
  N : Nat
  bot : Int
  E : Nat → Int
  u : Nat → Int
  d : Nat → Int
  l : Nat → Int
  lo : Nat → Bool
  he : Nat → Bool
def shelf (h : Hp) (p : V) (s : Sh) : Prop :=
  ∃ tS tA bS bA gs ga, p = .ptr tS 0 0 ∧ tS ≠ tA ∧ fd tS h = .blk bS 1 8 gs 61 ∧ fd tA h = .blk bA s.N 5 ga 63 ∧ (∀ c, c < 8 → gs 0 c = gS tA s.N s.bot s.E 0 c) ∧ (∀ i c, i < s.N → c < 5 → ga i c = gA s.u s.d s.l s.lo s.he i c)

/-- The same, to a reader. -/
def shelfR (h : Hp) (p : V) (s : Sh) : Prop :=
  ∃ tS tA bS bA gs ga, p = .ptr tS 0 0 ∧ tS ≠ tA ∧ fd tS (roH h) = .ro (some ⟨bS, 0, none⟩) 1 8 gs ∧ fd tA (roH h) = .ro (some ⟨bA, 0, none⟩) s.N 5 ga ∧ (∀ c, c < 8 → gs 0 c = gS tA s.N s.bot s.E 0 c) ∧ (∀ i c, i < s.N → c < 5 → ga i c = gA s.u s.d s.l s.lo s.he i c)
theorem shelf.r {h : Hp} {p : V} {s : Sh} (hs : shelf h p s) : shelfR h p s := by
  obtain ⟨tS, tA, bS, bA, gs, ga, rfl, hne, e1, e2, h1, h2⟩ := hs
  exact ⟨tS, tA, bS, bA, gs, ga, rfl, hne, by rw [fd_roH, e1]; rfl, by rw [fd_roH, e2]; rfl, h1, h2⟩

theorem gS_rn {τ : Nat → Nat} {h' : Hp} {t t' N : Nat} {bot : Int} {E : Nat → Int} {c : Nat} (ht : t = τ t' ∧ live h' t') : rn τ h' (gS t N bot E 0 c) (gS t' N bot E 0 c) := by
  match c with
  | 0 => exact ⟨ht, rfl, rfl, rfl⟩
  | 1 => exact ⟨rfl, rfl⟩
  | c + 2 => exact ⟨rfl, rfl⟩
theorem gA_rn {τ : Nat → Nat} {h' : Hp} {u d l : Nat → Int} {lo he : Nat → Bool} {i c : Nat} (hc : c < 5) : rn τ h' (gA u d l lo he i c) (gA u d l lo he i c) := by
  match c, hc with
  | 0, _ => exact ⟨rfl, rfl⟩
  | 1, _ => exact ⟨rfl, rfl⟩
  | 2, _ => exact ⟨rfl, rfl⟩
  | 3, _ => rfl
  | 4, _ => rfl


/-- A shelf, told anew to a reader: its tags are 2000 and 2001. -/
theorem told_shelf {h : Hp} {p : V} {s : Sh} {rest : List V} (hs : shelfR h p s) (hf : flatL rest) : ∃ (bS bA : Nat),
    Told h (p :: rest) [(2000, .ro (some ⟨bS, 0, none⟩) 1 8 (gS 2001 s.N s.bot s.E)), (2001, .ro (some ⟨bA, 0, none⟩) s.N 5 (gA s.u s.d s.l s.lo s.he))] (.ptr 2000 0 0 :: rest) := by
  obtain ⟨tS, tA, bS, bA, gs, ga, rfl, hne, e1, e2, h1, h2⟩ := hs
  refine ⟨bS, bA, told_wk (tau [(2000, tS), (2001, tA)]) ?_ ?_ ?_⟩
  · show nodupB [tS, tA] = true
    simp only [nodupB, memB]
    rw [beq_ne hne]
  · refine ⟨?_, ?_, trivial⟩
    · show wkE _ _ (fd tS (roH h)) _
      rw [e1]
      refine ⟨rfl, rfl, rfl, fun i c hi hc => ?_⟩
      obtain rfl : i = 0 := by omega
      rw [h1 c hc]
      exact gS_rn ⟨rfl, trivial⟩
    · show wkE _ _ (fd tA (roH h)) _
      rw [e2]
      refine ⟨rfl, rfl, rfl, fun i c hi hc => ?_⟩
      rw [h2 i c hi hc]
      exact gA_rn hc
  · refine ⟨⟨⟨rfl, trivial⟩, rfl, rfl⟩, ?_⟩
    exact flatL_rn _ hf

def sRight : Spec := fun args h nx K => match args with
  | [.int .i64 q] => K (.ret (.bool (decide (0 ≤ q) && decide (q < 2)))) h nx
  | _ => False
theorem sRight_ok : SpecOK Try.prog 32 sRight := by
  refine specOK_pure (fn := Try.f32) rfl rfl rfl T_ok (SP := []) noSP [] trivial 100 _ ?_
  intro args h nx K hs
  unfold sRight at hs
  split at hs
  · rename_i q
    refine ⟨trivial, by repeat constructor, by simp [Try.f32], fun o => o = .ret (.bool (decide (0 ≤ q) && decide (q < 2))), ?_, ?_⟩
    · rintro o rfl; exact ⟨trivial, hs⟩
    intro c hc
    (refine (?_ : br _ _ _); refine br_dec (fun e => ?_) (fun e => ?_))
    · have e : 0 ≤ q := e
      exact outB (by rw [decide_eq_true e, Bool.true_and])
    · have e : ¬ 0 ≤ q := e
      exact outB (by rw [decide_eq_false e, Bool.false_and])
  · exact hs.elim

/-- The number of nodes that are none of the lists' own. -/
def Sh.n (s : Sh) : Int := IntKind.i64.wrap ((s.N : Int) - 2)
def sGuard : Spec := fun args h nx K => ∃ (p : V) (s : Sh) (q : Int), args = [p, .int .i64 q] ∧ shelfR h p s ∧ K (.ret (.int .i64 (IntKind.i64.wrap (s.n + q)))) h nx
theorem sGuard_ok : SpecOK Try.prog 25 sGuard := by
  refine specOK_read2 (fn := Try.f25) rfl rfl rfl T_ok (SP := []) noSP 100 _ ?_
  rintro args h nx K ⟨p, s, q, rfl, hs, hk⟩
  obtain ⟨bS, bA, told⟩ := told_shelf (rest := [.int .i64 q]) hs ⟨trivial, trivial⟩
  refine ⟨_, _, told, by simp [Try.f25], fun o => o = .ret (.int .i64 (IntKind.i64.wrap (s.n + q))), ?_, ?_⟩
  · rintro o rfl; exact ⟨trivial, hk⟩
  intro c hc
  clear hk told hs
  rfl
def isB (s : Sh) (k : Int) : Bool := decide (0 ≤ k) && decide (k < s.n)
def sIs : Spec := fun args h nx K => ∃ (p : V) (s : Sh) (k : Int), args = [p, .int .i64 k] ∧ shelfR h p s ∧ K (.ret (.bool (isB s k))) h nx
theorem sIs_ok : SpecOK Try.prog 36 sIs := by
  refine specOK_read2 (fn := Try.f36) rfl rfl rfl T_ok (SP := []) noSP 100 _ ?_
  rintro args h nx K ⟨p, s, q, rfl, hs, hk⟩
  obtain ⟨bS, bA, told⟩ := told_shelf (rest := [.int .i64 q]) hs ⟨trivial, trivial⟩
  refine ⟨_, _, told, by simp [Try.f36], fun o => o = .ret (.bool (isB s q)), ?_, ?_⟩
  · rintro o rfl; exact ⟨trivial, hk⟩
  intro c hc
  clear hk told hs
  (refine (?_ : br _ _ _); refine br_dec (fun e => ?_) (fun e => ?_))
  · have e : 0 ≤ q := e
    exact outB (by rw [isB, decide_eq_true e, Bool.true_and]; rfl)
  · have e : ¬ 0 ≤ q := e
    exact outB (by rw [isB, decide_eq_false e, Bool.false_and])

/-- May it be asked of a node? -/
def liesI (s : Sh) (k : Int) : Int := if isB s k = false then 1 else if s.l k.toNat < 0 then 3 else 0
def sLies : Spec := fun args h nx K => ∃ (p : V) (s : Sh) (k : Int), args = [p, .int .i64 k] ∧ shelfR h p s ∧ s.n ≤ s.N ∧ K (.ret (.int .i64 (liesI s k))) h nx
theorem sLies_ok : SpecOK Try.prog 35 sLies := by
  refine specOK_read2 (fn := Try.f35) rfl rfl rfl T_ok (SP := [(36, sIs)]) (consSP sIs_ok noSP) 100 _ ?_
  rintro args h nx K ⟨p, s, k, rfl, hs, hN, hk⟩
  obtain ⟨bS, bA, told⟩ := told_shelf (rest := [.int .i64 k]) hs ⟨trivial, trivial⟩
  refine ⟨_, _, told, by simp [Try.f35], fun o => o = .ret (.int .i64 (liesI s k)), ?_, ?_⟩
  · rintro o rfl; exact ⟨trivial, hk⟩
  intro c hc
  clear hk told hs
  refine ⟨_, s, k, rfl, ⟨2000, 2001, bS, bA, _, _, rfl, by decide, rfl, rfl, fun c hc => rfl, fun i c hi hc => rfl⟩, ?_⟩
  (refine (?_ : br _ _ _); refine br_not (br_both (fun e => ?_) (fun e => ?_)))
  · have e : isB s k = true := e
    have e2 := e
    unfold isB at e2
    simp only [Bool.and_eq_true, decide_eq_true_eq] at e2
    repeat' ((refine (?_ : chk _ _)); (first
      | refine chk_ok rfl ?_
      | refine chk_ok (by simp only [Bool.and_eq_true, decide_eq_true_eq]; omega) ?_
      | refine chk_ok (Nat.ble_eq_true_of_le (show addI 0 k.toNat * 5 + (0 + 2) + 1 ≤ s.N * 5 by rw [addI_eq]; omega)) ?_))
    have ek : addI 0 k.toNat = k.toNat := by rw [addI_eq, Nat.zero_add]
    (refine (?_ : br _ _ _); refine br_dec (fun e3 => ?_) (fun e3 => ?_))
    · have e3 : s.l (addI 0 k.toNat) < 0 := e3
      rw [ek] at e3
      exact outI (by rw [liesI, e, if_neg (by decide), if_pos e3])
    · have e3 : ¬ s.l (addI 0 k.toNat) < 0 := e3
      rw [ek] at e3
      exact outI (by rw [liesI, e, if_neg (by decide), if_neg e3])
  · have e : isB s k = false := e
    exact outI (by rw [liesI, if_pos e])
end Go.Proofs.Ytdjekplkejkgdaa.Sx
