import Derived.Test.YtfmnebdfanaafaaSxW1
/-
  The walks of this seat's functions, second part: Meet, Blocks, Ints.
-/
namespace Go.Proofs.Ytfmnebdfanaafaa.Sx
open Go Go.Proofs
set_option maxRecDepth 100000
set_option linter.unusedSimpArgs false
set_option linter.unusedVariables false
set_option linter.unnecessarySimpa false

/-- What two runs have in common. -/
def loI (a c : Int) : Int := if c > a then c else a
def hiI (a b c d : Int) : Int := if c + d < a + b then c + d else a + b
def meetF (a b c d : Int) : Int := if mayB a b = true ∧ mayB c d = true ∧ ¬ hiI a b c d ≤ loI a c then loI a c else 0
def meetC (a b c d : Int) : Int := if mayB a b = true ∧ mayB c d = true ∧ ¬ hiI a b c d ≤ loI a c then hiI a b c d - loI a c else 0

def sMeet : Spec := fun args h nx K => match args with
  | [.agg [.int .i64 a, .int .i64 b], .agg [.int .i64 c, .int .i64 d]] => i64 a ∧ i64 b ∧ i64 c ∧ i64 d ∧ K (.ret (.agg [.int .i64 (meetF a b c d), .int .i64 (meetC a b c d)])) h nx
  | _ => False
theorem may_iff {a b : Int} : mayB a b = true ↔ 0 ≤ a ∧ a < 256 ∧ 1 ≤ b ∧ b ≤ 256 - a := by simp [mayB, and_assoc]
theorem sMeet_ok : SpecOK Try.prog 13 sMeet := by
  refine specOK_pure (fn := Try.f13) rfl rfl rfl T_ok (SP := [(26, sMay)]) (consSP sMay_ok noSP) [] trivial 200 _ ?_
  intro args h nx K hs
  unfold sMeet at hs
  split at hs
  · rename_i a b c d
    obtain ⟨ha, hb, hc, hd, hk⟩ := hs
    refine ⟨trivial, by repeat constructor, by simp [Try.f13], fun o => o = .ret (.agg [.int .i64 (meetF a b c d), .int .i64 (meetC a b c d)]), ?_, ?_⟩
    · rintro o rfl; exact ⟨by repeat constructor, hk⟩
    intro cx hcx
    clear hk
    intro b0 b1 b2
    refine ⟨ha, hb, ?_⟩
    have no1 : mayB a b = false → meetF a b c d = 0 ∧ meetC a b c d = 0 := fun e => by simp [meetF, meetC, e]
    have no2 : mayB c d = false → meetF a b c d = 0 ∧ meetC a b c d = 0 := fun e => by simp [meetF, meetC, e]
    cases e1 : mayB a b with
    | false =>
      obtain ⟨q1, q2⟩ := no1 e1
      rw [q1, q2]
      rfl
    | true =>
      refine ⟨hc, hd, ?_⟩
      cases e2 : mayB c d with
      | false =>
        obtain ⟨q1, q2⟩ := no2 e2
        rw [q1, q2]
        rfl
      | true =>
        have m1 := may_iff.1 e1
        have m2 := may_iff.1 e2
        have w1 : IntKind.i64.wrap (a + b) = a + b := by simp [IntKind.wrap_i64]; omega
        have w2 : IntKind.i64.wrap (c + d) = c + d := by simp [IntKind.wrap_i64]; omega
        (refine (?_ : br _ _ _); refine br_dec (fun e => ?_) (fun e => ?_))
        · rw [w1, w2] at e
          have e : hiI a b c d ≤ loI a c := e
          refine outAII ?_ ?_
          · simp [meetF, e]
          · simp [meetC, e]
        · rw [w1, w2] at e
          have e : ¬ hiI a b c d ≤ loI a c := e
          refine outAII ?_ ?_
          · rw [meetF, if_pos (And.intro e1 (And.intro e2 e))]; rfl
          · rw [meetC, if_pos (And.intro e1 (And.intro e2 e)), w1, w2]
            unfold hiI loI at *
            simp only [IntKind.wrap_i64]
            split <;> split <;> omega
  · exact hs.elim

def sBlocks : Spec := fun args h nx K => match args with
  | [.agg [.int .i64 a, .int .i64 b]] => i64 a ∧ i64 b ∧ br (mayB a b) (fd nx h = .gone ∧ ∀ (bb cap : Nat) (F : Nat → Int), b.toNat ≤ cap → (∀ j : Nat, j < b.toNat → F j = a + j) → K (.ret (.slice nx 0 b.toNat cap)) ((nx, .blk bb cap 1 (g1 .i64 F) 3) :: h) (nx + 1)) (K (.ret .nils) h nx)
  | _ => False

/-- What is known at the head of the loop of Blocks. -/
def JB (a b : Int) (n b0 : Nat) : Nat → Sl → Hp → Prop := fun r σ h =>
  (r = n ∧ σ = [(1, .ptr 0 0 0), (3, .nils), (9, .int .i64 b), (10, .int .i64 0)] ∧ h = [(0, .blk b0 1 2 (gOf 2 [.int .i64 a, .int .i64 b]) 27)]) ∨
  ∃ (j bb cap : Nat) (F : Nat → Int), r = n - j ∧ 0 < j ∧ j ≤ n ∧ j ≤ cap ∧ (∀ i : Nat, i < j → F i = a + i) ∧ σ = [(1, .ptr 0 0 0), (3, .slice 9 0 j cap), (9, .int .i64 b), (10, .int .i64 j)] ∧ h = [(0, .blk b0 1 2 (gOf 2 [.int .i64 a, .int .i64 b]) 27), (9, .blk bb cap 1 (g1 .i64 F) 3)]

theorem sBlocks_ok : SpecOK Try.prog 16 sBlocks := by
  refine specOK_new (fn := Try.f16) rfl rfl rfl T_ok (SP := [(26, sMay)]) (consSP sMay_ok noSP) 200 _ ?_
  intro args h nx K hs
  unfold sBlocks at hs
  split at hs
  rotate_left
  · exact hs.elim
  rename_i a b
  obtain ⟨ha, hb, hk⟩ := hs
  refine ⟨_, _, told_flat (by repeat constructor), by simp [Try.f16], fun o h1 => (mayB a b = false ∧ o = .ret .nils) ∨ (mayB a b = true ∧ ∃ (t bb cap : Nat) (F : Nat → Int), o = .ret (.slice t 0 b.toNat cap) ∧ b.toNat ≤ cap ∧ (∀ j : Nat, j < b.toNat → F j = a + j) ∧ fd t h1 = .blk bb cap 1 (g1 .i64 F) 3), ?_, ?_⟩
  · rintro o h1 (⟨e, rfl⟩ | ⟨e, t, bb, cap, F, rfl, h2, h3, h4⟩)
    · rw [e] at hk; exact .inl ⟨trivial, hk⟩
    · rw [e] at hk
      obtain ⟨hg, hk⟩ := hk
      exact .inr ⟨_, t, bb, cap, 1, _, 3, .slice nx 0 b.toNat cap, rfl, h4, fun i c _ _ => trivial, ⟨⟨rfl, by simp [live, fd]⟩, rfl, rfl, rfl⟩, hg, hk bb cap F h2 h3⟩
  intro cx hcx
  clear hk
  intro b0
  refine ⟨ha, hb, ?_⟩
  cases e1 : mayB a b with
  | false => exact .inl ⟨rfl, rfl⟩
  | true =>
    have m1 := may_iff.1 e1
    obtain ⟨n, hn⟩ : ∃ n : Nat, b = n := ⟨b.toNat, by omega⟩
    refine W_loop (JB a b n b0) n (.inl ⟨rfl, rfl, rfl⟩) (tau []) ⟨rfl, ?_, ?_⟩ 30 ?_
    · repeat' (first | exact rfl | exact trivial | refine ⟨?_, ?_⟩)
    · refine ⟨⟨rfl, rfl, rfl, rfl, fun i c hi hc => ?_⟩, trivial⟩
      have hi : i < 1 := hi
      obtain rfl : i = 0 := by omega
      match c, hc with
      | 0, _ | 1, _ => exact ⟨rfl, rfl⟩
    have box' : ∀ {τ : Nat → Nat} {h : Hp} (i c : Nat), i < 1 → c < 2 → rn τ h (gOf 2 [.int .i64 a, .int .i64 b] i c) (gOf 2 [.int .i64 a, .int .i64 b] i c) := by
      intro τ h i c hi hc
      obtain rfl : i = 0 := by omega
      match c, hc with
      | 0, _ | 1, _ => exact ⟨rfl, rfl⟩
    rintro r σ h1 (⟨hr, rfl, rfl⟩ | ⟨j, bb, cap, F, rfl, hj0, hj, hjc, hF, rfl, rfl⟩)
    · refine vc_sound (mkE hcx T_ok (consSP sMay_ok noSP)) 200 _ _ _ 30 ?_
      (refine (?_ : br _ _ _); refine br_decT (by omega) ?_)
      intro b1
      refine ⟨rfl, fun bb cap h1 h2 => ?_⟩
      have w0 : IntKind.i64.wrap (a + 0) = a := by simp [IntKind.wrap_i64]; omega
      refine ⟨n - 1, _, _, by omega, .inr ⟨1, bb, cap, fun i => if i < 0 then 0 else if i = 0 then IntKind.i64.wrap (a + 0) else 0, rfl, by omega, by omega, h1, fun i hi => ?_, rfl, rfl⟩, tau [(9, 31)], rfl, ?_, ?_⟩
      · obtain rfl : i = 0 := by omega
        have w0' : IntKind.i64.wrap a = a := by simp [IntKind.wrap_i64]; omega
        simp [w0']
      · repeat' (first | exact rfl | exact trivial | refine ⟨?_, ?_⟩)
      · exact ⟨⟨rfl, rfl, rfl, rfl, fun i c hi hc => box' i c hi hc⟩, ⟨rfl, rfl, rfl, rfl, fun i c hi hc => appG_int (F := fun _ => 0) (fun i hi => absurd hi (by omega)) rfl rfl i c hc⟩, trivial⟩
    · refine vc_sound (mkE hcx T_ok (consSP sMay_ok noSP)) 200 _ _ _ 30 ?_
      have w0 : IntKind.i64.wrap (a + (j : Int)) = a + j := by simp [IntKind.wrap_i64]; omega
      have w1 : IntKind.i64.wrap ((j : Int) + 1) = ((j + 1 : Nat) : Int) := by simp [IntKind.wrap_i64]; omega
      (refine (?_ : br _ _ _); refine br_dec (fun hlt => ?_) (fun hlt => ?_))
      · have hlt : (j : Int) < b := hlt
        intro b1
        (refine (?_ : br _ _ _); refine br_both (fun hcap => ?_) (fun hcap => ?_))
        · have hcap : j + 1 ≤ cap := Nat.le_of_ble_eq_true hcap
          (refine (?_ : chk _ _); refine chk_ok (show (Nat.beq 1 1 && Nat.ble (0 + j + 1) cap) = true by rw [Nat.ble_eq_true_of_le (by omega)]; rfl) ?_)
          refine ⟨fun i k hi hk => ?_, ?_⟩
          · have hi : i < 1 := hi
            have hk : k < 1 := hk
            obtain rfl : i = 0 := by omega
            obtain rfl : k = 0 := by omega
            rfl
          refine ⟨n - (j + 1), _, _, by omega, .inr ⟨j + 1, bb, cap, fun i => if i = j then IntKind.i64.wrap (a + (j : Int)) else F i, rfl, by omega, by omega, hcap, fun i hi => ?_, rfl, rfl⟩, tau [], rfl, ?_, ?_⟩
          · by_cases e : i = j
            · subst e; simp only [if_true]; exact w0
            · simp only [if_neg e]; exact hF i (by omega)
          · repeat' (first | exact rfl | exact trivial | exact w1 | refine ⟨?_, ?_⟩)
          · exact ⟨⟨rfl, rfl, rfl, rfl, fun i c hi hc => box' i c hi hc⟩, ⟨rfl, rfl, rfl, rfl, fun i c hi hc => appR_int rfl i c hc⟩, trivial⟩
        · (refine (?_ : chk _ _); refine chk_ok (Nat.ble_eq_true_of_le (by omega)) ?_)
          (refine (?_ : chk _ _); refine chk_ok (show (Nat.beq 1 1 && Nat.ble (0 + j) cap) = true by rw [Nat.ble_eq_true_of_le (by omega)]; rfl) ?_)
          refine ⟨rfl, fun bb' cap' h1 h2 => ?_⟩
          refine ⟨n - (j + 1), _, _, by omega, .inr ⟨j + 1, bb', cap', fun i => if i < j then F i else if i = j then IntKind.i64.wrap (a + (j : Int)) else 0, rfl, by omega, by omega, h1, fun i hi => ?_, rfl, rfl⟩, tau [(9, 31)], rfl, ?_, ?_⟩
          · by_cases e : i < j
            · simp only [if_pos e]; exact hF i e
            · have e2 : i = j := by omega
              subst e2
              simp only [Nat.lt_irrefl, if_false, if_true]; exact w0
          · repeat' (first | exact rfl | exact trivial | exact w1 | refine ⟨?_, ?_⟩)
          · exact ⟨⟨rfl, rfl, rfl, rfl, fun i c hi hc => box' i c hi hc⟩, ⟨rfl, rfl, rfl, rfl, fun i c hi hc => appG_int (fun i hi => rfl) rfl rfl i c hc⟩, trivial⟩
      · have hlt : ¬ (j : Int) < b := hlt
        obtain rfl : j = n := by omega
        have hbn : b.toNat = j := by omega
        rw [hbn]
        exact .inr ⟨rfl, 9, bb, cap, F, rfl, hjc, hF, rfl⟩
end Go.Proofs.Ytfmnebdfanaafaa.Sx
