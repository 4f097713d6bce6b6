import Derived.Test.YtdjekplkejkgdaaSxW1
/-
  Functions that write into a shelf: what is known of them.
-/
namespace Go.Proofs.Ytdjekplkejkgdaa.Sx
open Go Go.Proofs
set_option maxRecDepth 100000
set_option linter.unusedSimpArgs false
set_option linter.unusedVariables false

/-- These rows hold the shelf s. -/
def cells (tA : Nat) (s : Sh) (gs ga : Nat → Nat → V) : Prop := (∀ c, c < 8 → gs 0 c = gS tA s.N s.bot s.E 0 c) ∧ ∀ i c, i < s.N → c < 5 → ga i c = gA s.u s.d s.l s.lo s.he i c
/-- The shelf s that lies at p becomes s', the answer is v. -/
def sMut (h : Hp) (nx : Nat) (K : Out → Hp → Nat → Prop) (p : V) (s s' : Sh) (v : V) : Prop :=
  ∃ tS tA bS bA gs ga, p = .ptr tS 0 0 ∧ tS ≠ tA ∧ fd tS h = .blk bS 1 8 gs 61 ∧ fd tA h = .blk bA s.N 5 ga 63 ∧ cells tA s gs ga ∧
    K (.ret v) ((tS, .blk bS 1 8 (gS tA s'.N s'.bot s'.E) 61) :: (tA, .blk bA s.N 5 (gA s'.u s'.d s'.l s'.lo s'.he) 63) :: h) nx

theorem specOK_shelf {P : Program} {f : Nat} {fn : Func} {cd : Code} {T : Tab} {SP : SpT} (hf : P.funcs[f]? = some fn) (hx : (fn.name == "runtime.NumGoroutine") = false) (hb : fn.body = some cd) (hT : TabOK P T) (hS : ∀ p ∈ SP, SpecOK P p.1 p.2)
    (pre : List V → Sh → Sh → V → Prop) (hp : ∀ rest s s' v, pre rest s s' v → flatL rest ∧ flat v ∧ s'.N = s.N ∧ rest.length + 1 ≤ fn.ntmps)
    (hw : ∀ rest s s' v (bS bA : Nat) c, pre rest s s' v → c.P = P → W ⟨c, fn, T, SP, fun o h1 _ => o = .ret v ∧ ∃ gs ga, fd 2000 h1 = .blk bS 1 8 gs 61 ∧ fd 2001 h1 = .blk bA s.N 5 ga 63 ∧ cells 2001 s' gs ga⟩ [.code cd] (argsS (.ptr 2000 0 0 :: rest) 0)
      [(2000, .blk bS 1 8 (gS 2001 s.N s.bot s.E) 61), (2001, .blk bA s.N 5 (gA s.u s.d s.l s.lo s.he) 63)] 0) :
    SpecOK P f (fun args h nx K => ∃ p rest s s' v, args = p :: rest ∧ pre rest s s' v ∧ sMut h nx K p s s' v) := by
  refine specOK_mut hf hx hb hT hS _ ?_
  rintro args h nx K ⟨p, rest, s, s', v, rfl, hpre, tS, tA, bS, bA, gs, ga, rfl, hne, e1, e2, ⟨c1, c2⟩, hk⟩
  obtain ⟨hfl, hfv, hN, hlen⟩ := hp _ _ _ _ hpre
  refine ⟨tau [(2000, tS), (2001, tA)], [(2000, .blk bS 1 8 (gS 2001 s.N s.bot s.E) 61), (2001, .blk bA s.N 5 (gA s.u s.d s.l s.lo s.he) 63)], .ptr 2000 0 0 :: rest, ?_, ?_, ?_, by simpa using hlen, _, ?_, fun c hc => hw rest s s' v bS bA c hpre hc⟩
  · show nodupB [tS, tA] = true
    simp only [nodupB, memB]
    rw [beq_ne hne]
  · refine ⟨?_, ?_, trivial⟩
    · show wkE _ _ (fd tS h) _
      rw [e1]
      refine ⟨rfl, rfl, rfl, rfl, fun i c hi hc => ?_⟩
      obtain rfl : i = 0 := by omega
      rw [c1 c hc]
      exact gS_rn ⟨rfl, trivial⟩
    · show wkE _ _ (fd tA h) _
      rw [e2]
      refine ⟨rfl, rfl, rfl, rfl, fun i c hi hc => ?_⟩
      rw [c2 i c hi hc]
      exact gA_rn hc
  · exact ⟨⟨⟨rfl, trivial⟩, rfl, rfl⟩, flatL_rn _ hfl⟩
  · rintro o h1 ⟨rfl, gs1, ga1, f1, f2, d1, d2⟩
    have hfS : fd tS [(tS, Ent.blk bS 1 8 (gS tA s'.N s'.bot s'.E) 61), (tA, .blk bA s.N 5 (gA s'.u s'.d s'.l s'.lo s'.he) 63)] = .blk bS 1 8 (gS tA s'.N s'.bot s'.E) 61 := by rw [fd_cons, if_pos rfl]
    have hfA : fd tA [(tS, Ent.blk bS 1 8 (gS tA s'.N s'.bot s'.E) 61), (tA, .blk bA s.N 5 (gA s'.u s'.d s'.l s'.lo s'.he) 63)] = .blk bA s.N 5 (gA s'.u s'.d s'.l s'.lo s'.he) 63 := by rw [fd_cons, if_neg (fun q => hne q.symm), fd_cons, if_pos rfl]
    have hbt : tau [(tS, 2000), (tA, 2001)] tS = 2000 := by simp [tau]
    have hbA : tau [(tS, 2000), (tA, 2001)] tA = 2001 := by
      unfold tau
      rw [beq_ne (fun q => hne q.symm)]
      simp [tau]
    refine ⟨tau [(tS, 2000), (tA, 2001)], [(tS, .blk bS 1 8 (gS tA s'.N s'.bot s'.E) 61), (tA, .blk bA s.N 5 (gA s'.u s'.d s'.l s'.lo s'.he) 63)], .ret v, ⟨?_, ?_, ?_, flat_rn v hfv⟩, ?_⟩
    · intro p hp
      simp only [List.mem_cons, List.not_mem_nil, or_false] at hp
      rcases hp with rfl | rfl <;> exact fun q => by cases q
    · intro t b n sz g ty e
      rw [fd_cons] at e
      split at e
      · rename_i ht
        subst ht
        show live _ tS
        unfold live; rw [hfS]; trivial
      · rw [fd_cons] at e
        split at e
        · rename_i ht
          subst ht
          show live _ tA
          unfold live; rw [hfA]; trivial
        · cases e
    · intro t hl
      unfold live at hl
      by_cases q1 : t = tS
      · subst q1
        refine ⟨2000, bS, 1, 8, _, gs1, _, 61, rfl, hbt, rfl, f1, hfS, fun i k hi hk => ?_⟩
        obtain rfl : i = 0 := by omega
        rw [d1 k hk]
        exact gS_rn ⟨hbA.symm, by unfold live; rw [hfA]; trivial⟩
      · by_cases q2 : t = tA
        · subst q2
          refine ⟨2001, bA, s.N, 5, _, ga1, _, 63, rfl, hbA, rfl, f2, hfA, fun i k hi hk => ?_⟩
          rw [d2 i k (by rw [hN]; exact hi) hk]
          exact gA_rn hk
        · rw [fd_cons, if_neg q1, fd_cons, if_neg q2] at hl
          exact hl.elim
    · exact hk
end Go.Proofs.Ytdjekplkejkgdaa.Sx
