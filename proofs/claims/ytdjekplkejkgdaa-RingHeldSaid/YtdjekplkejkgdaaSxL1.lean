import Derived.Test.YtdjekplkejkgdaaSxR1
/-
  The walks of this seat's functions: awake.
-/
namespace Go.Proofs.Ytdjekplkejkgdaa.Sx
open Go Go.Proofs
set_option maxRecDepth 100000
set_option linter.unusedSimpArgs false
set_option linter.unusedVariables false

/-- A piece leaves one of these. -/
theorem W_ex {E : Env} {x : Code} {k : List It} {σ : Sl} {h : Hp} {nx : Nat} {α : Type} (Q : α → Prop) (σ' : α → Sl) (h' : α → Hp) (nx' : Nat) (h1 : W E (.code x :: .fin (fun σ1 h1 _ => ∃ a, Q a ∧ ∃ τ, wk τ σ1 h1 (σ' a) (h' a)) :: k) σ h nx) (h2 : ∀ a, Q a → W E k (σ' a) (h' a) nx') : W E (.code x :: k) σ h nx :=
  W_piece _ h1 fun _ _ _ ⟨a, hq, τ, hw⟩ => W_weak (nx' := nx') τ hw (h2 a hq)

/-- A shelf's rows, by the tags 1 and 2. -/
abbrev eS (bS : Nat) (s : Sh) : Ent := .blk bS 1 8 (gS 2 s.N s.bot s.E) 61
abbrev eA (bA : Nat) (s : Sh) : Ent := .blk bA s.N 5 (gA s.u s.d s.l s.lo s.he) 63
theorem eS_wk {τ : Nat → Nat} {h' : Hp} {b : Nat} {t : Nat} {s : Sh} (ht : t = τ 2 ∧ live h' 2) : wkE τ h' (.blk b 1 8 (gS t s.N s.bot s.E) 61) (eS b s) := ⟨rfl, rfl, rfl, rfl, fun i c hi hc => by obtain rfl : i = 0 := (by omega); exact gS_rn ht⟩
theorem eA_wk {τ : Nat → Nat} {h' : Hp} {b N : Nat} {s : Sh} (hN : s.N = N) : wkE τ h' (.blk b N 5 (gA s.u s.d s.l s.lo s.he) 63) (eA b s) := ⟨rfl, hN.symm, rfl, rfl, fun i c hi hc => gA_rn hc⟩

theorem Inv.mS {s : Sh} {m : Md} (hi : Inv s m m.n) {h : Hp} {bS bA : Nat} (e1 : fd 1 h = eS bS s) (e2 : fd 2 h = eA bA s) : mS h (.ptr 1 0 0) m :=
  ⟨s, hi, shelf.r ⟨1, 2, bS, bA, _, _, rfl, by decide, e1, e2, fun c hc => rfl, fun i c hi hc => rfl⟩⟩
theorem Inv.mut {s : Sh} {m m' : Md} (hi : Inv s m m.n) {h : Hp} {nx : Nat} {K : Out → Hp → Nat → Prop} {v : V} {bS bA : Nat} (e1 : fd 1 h = eS bS s) (e2 : fd 2 h = eA bA s) (hk : ∀ s', s'.N = s.N → Inv s' m' m'.n → K (.ret v) ((1, eS bS s') :: (2, .blk bA s.N 5 (gA s'.u s'.d s'.l s'.lo s'.he) 63) :: h) nx) : mMut h nx K (.ptr 1 0 0) m m' v :=
  ⟨s, 1, 2, bS, bA, _, _, hi, rfl, by decide, e1, e2, ⟨fun c hc => rfl, fun i c hi hc => rfl⟩, hk⟩

def mj : Nat → Md
  | 0 => Md.new 3 1
  | j + 1 => (mj j).frontI 0 j
theorem mj_c {j : Nat} (h : j < 3) : (mj j).frontC 0 j = 0 := by match j, h with | 0, _ | 1, _ | 2, _ => rfl
def m4 : Md := (mj 3).frontI 0 0
def m5 : Md := m4.holdI 1 true
def m6 : Md := m5.dropI 1
def sAwake : Spec := fun args h nx K => args = [] ∧ K (.ret (.bool true)) h nx
def SPA : SpT := [(9, mNew), (14, mList), (15, mWhere), (17, mLast), (18, mHeld), (19, mLen), (20, mFront), (22, sInts), (23, mHold), (24, mDrop)]
theorem spa : ∀ p ∈ SPA, SpecOK Try.prog p.1 p.2 := consSP mNew_ok (consSP mList_ok (consSP mWhere_ok (consSP mLast_ok (consSP mHeld_ok (consSP mLen_ok (consSP mFront_ok (consSP sInts_ok (consSP mHold_ok (consSP mDrop_ok noSP)))))))))

theorem awake_walk {c : Cx} (hc : c.P = Try.prog) : ∃ cd, Try.f8.body = some cd ∧ W ⟨c, Try.f8, T, SPA, fun o _ _ => o = .ret (.bool true)⟩ [.code cd] (argsS [] 0) [] 0 := by
  refine ⟨_, rfl, ?_⟩
  have hE := mkE' (fn := Try.f8) (R := fun o _ _ => o = .ret (.bool true)) hc spa
  refine W_seq (nx := 0) ?_
  refine W_to (nx := 0) [] [] 30 ?_ ?_
  · refine vc_sound hE 20 _ _ _ 30 ?_
    exact ⟨tau [], rfl, trivial, trivial⟩
  -- a new shelf
  refine W_seq (nx := 30) ?_
  refine W_ex (nx := 30) (fun (a : Nat × Nat × Sh) => Inv a.2.2 (mj 0) (mj 0).n) (fun a => [(1, .ptr 1 0 0), (2, .int .i64 0)]) (fun a => [(1, eS a.1 a.2.2), (2, eA a.2.1 a.2.2)]) 30 ?_ ?_
  · refine vc_sound hE 20 _ _ _ 30 ?_
    refine ⟨3, 1, rfl, rfl, rfl, fun e => (by cases e), fun _ bS bA s hN hi => ?_⟩
    refine ⟨(bS, bA, s), hi, tau [(1, 30), (2, 31)], rfl, ?_, ⟨eS_wk ⟨rfl, trivial⟩, eA_wk rfl, trivial⟩⟩
    exact ⟨⟨⟨rfl, trivial⟩, rfl, rfl⟩, ⟨rfl, rfl⟩, trivial⟩
  rintro ⟨bS, bA, s⟩ hi
  -- none
  refine W_seq (nx := 30) ?_
  refine W_to (nx := 30) [(1, .ptr 1 0 0), (2, .int .i64 0), (4, .int .i64 1)] [(1, eS bS s), (2, eA bA s)] 30 ?_ ?_
  · refine vc_sound hE 20 _ _ _ 30 ?_
    refine ⟨3, 4, rfl, rfl, rfl, fun _ => ?_, fun e => (by cases e)⟩
    exact ⟨tau [], rfl, ⟨⟨⟨rfl, trivial⟩, rfl, rfl⟩, ⟨rfl, rfl⟩, ⟨rfl, rfl⟩, trivial⟩, eS_wk ⟨rfl, trivial⟩, eA_wk rfl, trivial⟩
  refine W_seq (nx := 30) ?_
  refine W_to (nx := 30) [(1, .ptr 1 0 0)] [(1, eS bS s), (2, eA bA s)] 30 ?_ ?_
  · refine vc_sound hE 30 _ _ _ 30 ?_
    exact ⟨tau [], rfl, ⟨⟨⟨rfl, trivial⟩, rfl, rfl⟩, trivial⟩, eS_wk ⟨rfl, trivial⟩, eA_wk rfl, trivial⟩
  -- three nodes
  refine W_seq (nx := 30) ?_
  refine W_ex (nx := 30) (fun (s : Sh) => Inv s (mj 3) (mj 3).n) (fun a => [(1, .ptr 1 0 0)]) (fun s => [(1, eS bS s), (2, eA bA s)]) 30 ?_ ?_
  · refine vc_sound hE 8 _ _ _ 30 ?_
    refine W_loop (fun r σ h => ∃ (j : Nat) (s : Sh), r = 3 - j ∧ j ≤ 3 ∧ Inv s (mj j) (mj j).n ∧ σ = [(1, .ptr 1 0 0), (5, .int .i64 j)] ∧ h = [(1, eS bS s), (2, eA bA s)]) 3 ⟨0, s, rfl, by omega, hi, rfl, rfl⟩ (tau []) ⟨rfl, ⟨⟨⟨rfl, trivial⟩, rfl, rfl⟩, ⟨rfl, rfl⟩, trivial⟩, eS_wk ⟨rfl, trivial⟩, eA_wk rfl, trivial⟩ 30 ?_
    rintro r σ h ⟨j, s, rfl, hj, hi, rfl, rfl⟩
    refine vc_sound hE 60 _ _ _ 30 ?_
    (refine (?_ : br _ _ _); refine br_dec (fun e => ?_) (fun e => ?_))
    · have e : (j : Int) < 3 := e
      refine ⟨_, mj j, 0, j, rfl, hi.mut rfl rfl fun s' hN hi' => ?_⟩
      rw [mj_c (by omega)]
      have hw : IntKind.i64.wrap ((j : Int) + 1) = ((j + 1 : Nat) : Int) := by simp [IntKind.wrap_i64]; omega
      exact ⟨3 - (j + 1), _, _, by omega, ⟨j + 1, s', rfl, by omega, hi', rfl, rfl⟩, tau [], rfl, ⟨⟨⟨rfl, trivial⟩, rfl, rfl⟩, ⟨rfl, hw⟩, trivial⟩, eS_wk ⟨rfl, trivial⟩, eA_wk hN, trivial⟩
    · have e : ¬ (j : Int) < 3 := e
      obtain rfl : j = 3 := by omega
      exact ⟨s, hi, tau [], rfl, ⟨⟨⟨rfl, trivial⟩, rfl, rfl⟩, trivial⟩, eS_wk ⟨rfl, trivial⟩, eA_wk rfl, trivial⟩
  clear hi s
  intro s hi
  -- as they were put
  refine W_seq (nx := 30) ?_
  refine W_to (nx := 30) [(1, .ptr 1 0 0), (6, .bool true)] [(1, eS bS s), (2, eA bA s)] 30 ?_ ?_
  · refine vc_sound hE 40 _ _ _ 30 ?_
    refine ⟨_, mj 3, 0, rfl, hi.mS rfl rfl, rfl, fun e cap hl => ?_⟩
    intro b
    have e1 : cI ((mj 3).listI 0) = [2, 1, 0] := by decide
    refine ⟨_, _, cI ((mj 3).listI 0), [2, 1, 0], rfl, hl.rd rfl, .inr ⟨31, 0, 3, _, 3, _, rfl, rfl, Nat.le_refl _, fun j hj => ?_⟩, by rw [e1]; decide, by decide, ?_⟩
    · match j, hj with
      | 0, _ | 1, _ | 2, _ => rfl
    rw [decide_eq_true e1]
    exact ⟨tau [], rfl, ⟨⟨⟨rfl, trivial⟩, rfl, rfl⟩, rfl, trivial⟩, eS_wk ⟨rfl, trivial⟩, eA_wk rfl, trivial⟩
  -- the first one again
  refine W_seq (nx := 30) ?_
  refine W_ex (nx := 30) (fun (s : Sh) => Inv s m4 m4.n) (fun a => [(1, .ptr 1 0 0), (6, .bool true)]) (fun s => [(1, eS bS s), (2, eA bA s)]) 30 ?_ ?_
  · refine vc_sound hE 20 _ _ _ 30 ?_
    refine ⟨_, mj 3, 0, 0, rfl, hi.mut rfl rfl fun s' hN hi' => ?_⟩
    exact ⟨s', hi', tau [], rfl, ⟨⟨⟨rfl, trivial⟩, rfl, rfl⟩, rfl, trivial⟩, eS_wk ⟨rfl, trivial⟩, eA_wk hN, trivial⟩
  clear hi s
  intro s hi
  refine W_seq (nx := 30) ?_
  refine W_to (nx := 30) [(1, .ptr 1 0 0), (6, .bool true), (8, .bool true), (9, .bool true)] [(1, eS bS s), (2, eA bA s)] 30 ?_ ?_
  · refine vc_sound hE 40 _ _ _ 30 ?_
    refine ⟨_, m4, 1, rfl, hi.mS rfl rfl, ?_⟩
    rw [show m4.whI 1 = (0, true, true) by decide]
    exact ⟨tau [], rfl, ⟨⟨⟨rfl, trivial⟩, rfl, rfl⟩, rfl, rfl, rfl, trivial⟩, eS_wk ⟨rfl, trivial⟩, eA_wk rfl, trivial⟩
  -- one is held
  refine W_seq (nx := 30) ?_
  refine W_ex (nx := 30) (fun (s : Sh) => Inv s m5 m5.n) (fun a => [(1, .ptr 1 0 0), (6, .bool true), (8, .bool true), (9, .bool true)]) (fun s => [(1, eS bS s), (2, eA bA s)]) 30 ?_ ?_
  · refine vc_sound hE 20 _ _ _ 30 ?_
    refine ⟨_, m4, 1, true, rfl, hi.mut rfl rfl fun s' hN hi' => ?_⟩
    exact ⟨s', hi', tau [], rfl, ⟨⟨⟨rfl, trivial⟩, rfl, rfl⟩, rfl, rfl, rfl, trivial⟩, eS_wk ⟨rfl, trivial⟩, eA_wk hN, trivial⟩
  clear hi s
  intro s hi
  refine W_seq (nx := 30) ?_
  refine W_to (nx := 30) [(1, .ptr 1 0 0), (6, .bool true), (8, .bool true), (9, .bool true), (10, .int .i64 2), (11, .bool true)] [(1, eS bS s), (2, eA bA s)] 30 ?_ ?_
  · refine vc_sound hE 40 _ _ _ 30 ?_
    refine ⟨_, m5, 0, rfl, hi.mS rfl rfl, ?_⟩
    rw [show m5.lastI 0 = (2, true) by decide]
    exact ⟨tau [], rfl, ⟨⟨⟨rfl, trivial⟩, rfl, rfl⟩, rfl, rfl, rfl, ⟨rfl, rfl⟩, rfl, trivial⟩, eS_wk ⟨rfl, trivial⟩, eA_wk rfl, trivial⟩
  -- all together
  refine W_seq (nx := 30) ?_
  refine W_to (nx := 30) [(0, .bool true)] [] 30 ?_ ?_
  · refine vc_sound hE 200 _ _ _ 30 ?_
    refine ⟨_, m5, 0, rfl, hi.mS rfl rfl, ?_⟩
    rw [show m5.lenI 0 = 3 by decide]
    refine ⟨_, m5, rfl, hi.mS rfl rfl, rfl, fun e cap hl => ?_⟩
    intro b
    have e1 : cI m5.held = [1] := by decide
    refine ⟨_, _, cI m5.held, [1], rfl, hl.rd rfl, .inr ⟨31, 0, 1, _, 1, _, rfl, rfl, Nat.le_refl _, fun j hj => ?_⟩, by rw [e1]; decide, by decide, ?_⟩
    · match j, hj with
      | 0, _ => rfl
    rw [decide_eq_true e1]
    refine ⟨_, m5, 1, rfl, hi.mut rfl rfl fun s' hN hi' => ?_⟩
    rw [show m5.lies 1 = 0 by decide]
    refine ⟨_, m6, 1, rfl, hi'.mut rfl (by show Ent.blk bA s.N 5 _ 63 = _; rw [← hN]) fun s2 hN2 hi2 => ?_⟩
    rw [show m6.lies 1 = 3 by decide]
    refine ⟨_, m6.dropI 1, 3, rfl, hi2.mut rfl (by show Ent.blk bA s'.N 5 _ 63 = _; rw [← hN2]) fun s3 hN3 hi3 => ?_⟩
    rw [show (m6.dropI 1).lies 3 = 1 by decide]
    refine ⟨_, (m6.dropI 1).dropI 3, 0, rfl, hi3.mS rfl (by show Ent.blk bA s2.N 5 _ 63 = _; rw [← hN3]), ?_⟩
    rw [show ((m6.dropI 1).dropI 3).lenI 0 = 2 by decide]
    refine ⟨_, (m6.dropI 1).dropI 3, rfl, hi3.mS rfl (by show Ent.blk bA s2.N 5 _ 63 = _; rw [← hN3]), rfl, fun e' cap' hl' => ?_⟩
    have e2 : (cI ((m6.dropI 1).dropI 3).held).length = 0 := by decide
    rw [e2]
    exact ⟨tau [], rfl, ⟨rfl, trivial⟩, trivial⟩
  refine vc_sound hE 20 _ _ _ 30 ?_
  rfl

theorem sAwake_ok : SpecOK Try.prog 8 sAwake := by
  refine specOK_gen (fn := Try.f8) rfl rfl rfl T_ok (SP := SPA) spa _ ?_
  rintro args h nx K ⟨rfl, hk⟩
  refine ⟨fun t => t, [], [], rfl, fun p hp => absurd hp (by simp), trivial, by simp [Try.f8], fun o h1 => o = .ret (.bool true), ?_, ?_⟩
  · rintro o h1 rfl
    refine ⟨fun t => t, [], _, nx, ⟨fun t ht => (by cases ht), fun t b n sz g ty e => (by cases e), fun t t' ht => (by cases ht), fun e he => ?_⟩, hk⟩
    obtain ⟨x, rfl, rx⟩ := he
    exact ⟨x, rfl, rx⟩
  · intro c hc
    obtain ⟨cd, h1, h2⟩ := awake_walk hc
    cases h1
    exact h2
end Go.Proofs.Ytdjekplkejkgdaa.Sx
