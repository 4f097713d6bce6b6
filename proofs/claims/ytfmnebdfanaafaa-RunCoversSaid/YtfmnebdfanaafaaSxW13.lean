import Derived.Test.YtfmnebdfanaafaaSxW9
/-
  The walks of this seat's functions, thirteenth part: the document's Blocks and Meet.
-/
namespace Go.Proofs.Ytfmnebdfanaafaa.Sx
open Go Go.Proofs
set_option maxRecDepth 100000
set_option linter.unusedSimpArgs false
set_option linter.unusedVariables false
set_option linter.unnecessarySimpa false

def SPB : SpT := [(19, sHas)]
theorem spb : ∀ p ∈ SPB, SpecOK Try.prog p.1 p.2 := consSP sHas_ok noSP
theorem has_iff {a b x : Int} : hasR a b x = true ↔ mayB a b = true ∧ a ≤ x ∧ x < a + b := by
  unfold hasR
  simp
  omega

/-- What is known at the head of the loop of the document's Blocks. -/
def JRB (a b : Int) (b0 : Nat) : Nat → Sl → Hp → Prop := fun r σ h => ∃ k : Nat, r = 256 - k ∧ k ≤ 256 ∧
  ((((mayB a b = false ∨ (k : Int) ≤ a)) ∧ σ = [(1, .ptr 0 0 0), (3, .nils), (4, .int .i64 k)] ∧ h = [(0, .blk b0 1 2 (gOf 2 [.int .i64 a, .int .i64 b]) 27)]) ∨
  ∃ (j bb cap : Nat) (F : Nat → Int), mayB a b = true ∧ 0 < j ∧ ((k : Int) ≤ a + b ∧ (j : Int) = k - a ∨ a + b ≤ (k : Int) ∧ (j : Int) = b) ∧ j ≤ cap ∧ (∀ i : Nat, i < j → F i = a + i) ∧ σ = [(1, .ptr 0 0 0), (3, .slice 9 0 j cap), (4, .int .i64 k)] ∧ h = [(0, .blk b0 1 2 (gOf 2 [.int .i64 a, .int .i64 b]) 27), (9, .blk bb cap 1 (g1 .i64 F) 3)])

set_option maxHeartbeats 1000000 in
theorem sRefBlocks_ok : SpecOK Try.prog 17 sBlocks := by
  refine specOK_new (fn := Try.f17) rfl rfl rfl T_ok (SP := SPB) spb 200 _ ?_
  intro args h nx K hs
  unfold sBlocks at hs
  split at hs
  rotate_left
  · exact hs.elim
  rename_i a b
  obtain ⟨ha, hb, hk⟩ := hs
  refine ⟨_, _, told_flat (by repeat constructor), by simp [Try.f17], fun o h1 => (mayB a b = false ∧ o = .ret .nils) ∨ (mayB a b = true ∧ ∃ (t bb cap : Nat) (F : Nat → Int), o = .ret (.slice t 0 b.toNat cap) ∧ b.toNat ≤ cap ∧ (∀ j : Nat, j < b.toNat → F j = a + j) ∧ fd t h1 = .blk bb cap 1 (g1 .i64 F) 3), ?_, ?_⟩
  · rintro o h1 (⟨e, rfl⟩ | ⟨e, t, bb, cap, F, rfl, h2, h3, h4⟩)
    · rw [e] at hk; exact .inl ⟨trivial, hk⟩
    · rw [e] at hk
      obtain ⟨hg, hk⟩ := hk
      exact .inr ⟨_, t, bb, cap, 1, _, 3, .slice nx 0 b.toNat cap, rfl, h4, fun i c _ _ => trivial, ⟨⟨rfl, by simp [live, fd]⟩, rfl, rfl, rfl⟩, hg, hk bb cap F h2 h3⟩
  intro cx hcx
  clear hk
  intro b0
  have box' : ∀ {τ : Nat → Nat} {h : Hp} (i c : Nat), i < 1 → c < 2 → rn τ h (gOf 2 [.int .i64 a, .int .i64 b] i c) (gOf 2 [.int .i64 a, .int .i64 b] i c) := by
    intro τ h i c hi hc
    obtain rfl : i = 0 := by omega
    match c, hc with
    | 0, _ | 1, _ => exact ⟨rfl, rfl⟩
  have h0 : mayB a b = false ∨ ((0 : Nat) : Int) ≤ a := by
    cases e : mayB a b with
    | false => exact .inl rfl
    | true => have := may_iff.1 e; exact .inr (by omega)
  refine W_loop (JRB a b b0) 256 ⟨0, rfl, by omega, .inl ⟨h0, rfl, rfl⟩⟩ (tau []) ⟨rfl, ?_, ?_⟩ 30 ?_
  · repeat' (first | exact rfl | exact trivial | refine ⟨?_, ?_⟩)
  · exact ⟨⟨rfl, rfl, rfl, rfl, fun i c hi hc => box' i c hi hc⟩, trivial⟩
  rintro r σ h1 ⟨k, rfl, hk, (⟨hst, rfl, rfl⟩ | ⟨j, bb, cap, F, e1, hj0, hj, hjc, hF, rfl, rfl⟩)⟩
  · refine vc_sound (mkE hcx T_ok spb) 200 _ _ _ 30 ?_
    (refine (?_ : br _ _ _); refine br_dec (fun hlt => ?_) (fun hlt => ?_))
    · have hlt : (k : Int) < 256 := hlt
      have w1 : IntKind.i64.wrap ((k : Int) + 1) = ((k + 1 : Nat) : Int) := by simp [IntKind.wrap_i64]; omega
      refine ⟨ha, hb, ⟨by omega, by omega⟩, ?_⟩
      cases e2 : hasR a b k with
      | false =>
        refine ⟨256 - (k + 1), _, _, by omega, ⟨k + 1, rfl, by omega, .inl ⟨?_, rfl, rfl⟩⟩, tau [], rfl, ?_, ?_⟩
        · rcases hst with q | q
          · exact .inl q
          · cases e3 : mayB a b with
            | false => exact .inl rfl
            | true =>
              have m1 := may_iff.1 e3
              have : ¬ (a ≤ (k : Int) ∧ (k : Int) < a + b) := fun q => by rw [has_iff.2 ⟨e3, q.1, q.2⟩] at e2; cases e2
              exact .inr (by omega)
        · repeat' (first | exact rfl | exact trivial | exact w1 | refine ⟨?_, ?_⟩)
        · exact ⟨⟨rfl, rfl, rfl, rfl, fun i c hi hc => box' i c hi hc⟩, trivial⟩
      | true =>
        obtain ⟨e3, q1, q2⟩ := has_iff.1 e2
        have m1 := may_iff.1 e3
        have hka : (k : Int) = a := by rcases hst with q | q; (rw [e3] at q; cases q); omega
        intro b1
        refine ⟨rfl, fun bb cap h1 h2 => ?_⟩
        refine ⟨256 - (k + 1), _, _, by omega, ⟨k + 1, rfl, by omega, .inr ⟨1, bb, cap, fun i => if i < 0 then 0 else if i = 0 then (k : Int) else 0, e3, by omega, .inl ⟨by omega, by omega⟩, h1, fun i hi => ?_, rfl, rfl⟩⟩, tau [(9, 31)], rfl, ?_, ?_⟩
        · obtain rfl : i = 0 := by omega
          simp [hka]
        · repeat' (first | exact rfl | exact trivial | exact w1 | refine ⟨?_, ?_⟩)
        · exact ⟨⟨rfl, rfl, rfl, rfl, fun i c hi hc => box' i c hi hc⟩, ⟨rfl, rfl, rfl, rfl, fun i c hi hc => appG_int (F := fun _ => 0) (fun i hi => absurd hi (by omega)) rfl rfl i c hc⟩, trivial⟩
    · have hlt : ¬ (k : Int) < 256 := hlt
      cases e3 : mayB a b with
      | false => exact .inl ⟨rfl, rfl⟩
      | true =>
        have m1 := may_iff.1 e3
        rcases hst with q | q
        · rw [e3] at q; cases q
        · omega
  · have m1 := may_iff.1 e1
    refine vc_sound (mkE hcx T_ok spb) 200 _ _ _ 30 ?_
    (refine (?_ : br _ _ _); refine br_dec (fun hlt => ?_) (fun hlt => ?_))
    · have hlt : (k : Int) < 256 := hlt
      have w1 : IntKind.i64.wrap ((k : Int) + 1) = ((k + 1 : Nat) : Int) := by simp [IntKind.wrap_i64]; omega
      refine ⟨ha, hb, ⟨by omega, by omega⟩, ?_⟩
      cases e2 : hasR a b k with
      | false =>
        have : ¬ (a ≤ (k : Int) ∧ (k : Int) < a + b) := fun q => by rw [has_iff.2 ⟨e1, q.1, q.2⟩] at e2; cases e2
        refine ⟨256 - (k + 1), _, _, by omega, ⟨k + 1, rfl, by omega, .inr ⟨j, bb, cap, F, e1, hj0, .inr ⟨by omega, by omega⟩, hjc, hF, rfl, rfl⟩⟩, tau [], rfl, ?_, ?_⟩
        · repeat' (first | exact rfl | exact trivial | exact w1 | refine ⟨?_, ?_⟩)
        · exact ⟨⟨rfl, rfl, rfl, rfl, fun i c hi hc => box' i c hi hc⟩, ⟨rfl, rfl, rfl, rfl, fun i c hi hc => ⟨rfl, rfl⟩⟩, trivial⟩
      | true =>
        obtain ⟨_, q1, q2⟩ := has_iff.1 e2
        have hjk : (k : Int) = a + j := by omega
        intro b1
        (refine (?_ : br _ _ _); refine br_both (fun hcap => ?_) (fun hcap => ?_))
        · have hcap : j + 1 ≤ cap := Nat.le_of_ble_eq_true hcap
          (refine (?_ : chk _ _); refine chk_ok (show (Nat.beq 1 1 && Nat.ble (0 + j + 1) cap) = true by rw [Nat.ble_eq_true_of_le (by omega)]; rfl) ?_)
          refine ⟨fun i k hi hk => ?_, ?_⟩
          · have hi : i < 1 := hi
            have hk : k < 1 := hk
            obtain rfl : i = 0 := by omega
            obtain rfl : k = 0 := by omega
            rfl
          refine ⟨256 - (k + 1), _, _, by omega, ⟨k + 1, rfl, by omega, .inr ⟨j + 1, bb, cap, fun i => if i = j then (k : Int) else F i, e1, by omega, .inl ⟨by omega, by omega⟩, hcap, fun i hi => ?_, rfl, rfl⟩⟩, tau [], rfl, ?_, ?_⟩
          · by_cases e : i = j
            · subst e; simp only [if_true]; exact hjk
            · simp only [if_neg e]; exact hF i (by omega)
          · repeat' (first | exact rfl | exact trivial | exact w1 | refine ⟨?_, ?_⟩)
          · exact ⟨⟨rfl, rfl, rfl, rfl, fun i c hi hc => box' i c hi hc⟩, ⟨rfl, rfl, rfl, rfl, fun i c hi hc => appR_int rfl i c hc⟩, trivial⟩
        · (refine (?_ : chk _ _); refine chk_ok (Nat.ble_eq_true_of_le (by omega)) ?_)
          (refine (?_ : chk _ _); refine chk_ok (show (Nat.beq 1 1 && Nat.ble (0 + j) cap) = true by rw [Nat.ble_eq_true_of_le (by omega)]; rfl) ?_)
          refine ⟨rfl, fun bb' cap' h1 h2 => ?_⟩
          refine ⟨256 - (k + 1), _, _, by omega, ⟨k + 1, rfl, by omega, .inr ⟨j + 1, bb', cap', fun i => if i < j then F i else if i = j then (k : Int) else 0, e1, by omega, .inl ⟨by omega, by omega⟩, h1, fun i hi => ?_, rfl, rfl⟩⟩, tau [(9, 31)], rfl, ?_, ?_⟩
          · by_cases e : i < j
            · simp only [if_pos e]; exact hF i e
            · have e2 : i = j := by omega
              subst e2
              simp only [Nat.lt_irrefl, if_false, if_true]; exact hjk
          · repeat' (first | exact rfl | exact trivial | exact w1 | refine ⟨?_, ?_⟩)
          · exact ⟨⟨rfl, rfl, rfl, rfl, fun i c hi hc => box' i c hi hc⟩, ⟨rfl, rfl, rfl, rfl, fun i c hi hc => appG_int (fun i hi => rfl) rfl rfl i c hc⟩, trivial⟩
    · have hlt : ¬ (k : Int) < 256 := hlt
      have hbn : b.toNat = j := by omega
      rw [hbn]
      exact .inr ⟨e1, 9, bb, cap, F, rfl, hjc, hF, rfl⟩

/-- What the document's Meet has found among the first k blocks. -/
def rmF (a b c d : Int) (k : Int) : Int := if mayB a b = true ∧ mayB c d = true ∧ loI a c < hiI a b c d ∧ loI a c < k then loI a c else 0
def rmC (a b c d : Int) (k : Int) : Int := if mayB a b = true ∧ mayB c d = true ∧ loI a c < hiI a b c d ∧ loI a c < k then (if k < hiI a b c d then k else hiI a b c d) - loI a c else 0

set_option maxHeartbeats 1000000 in
theorem sRefMeet_ok : SpecOK Try.prog 14 sMeet := by
  refine specOK_pure (fn := Try.f14) rfl rfl rfl T_ok (SP := SPB) spb [] trivial 200 _ ?_
  intro args h nx K hs
  unfold sMeet at hs
  split at hs
  rotate_left
  · exact hs.elim
  rename_i a b c d
  obtain ⟨ha, hb, hc, hd, hk⟩ := hs
  refine ⟨trivial, by repeat constructor, by simp [Try.f14], fun o => o = .ret (.agg [.int .i64 (meetF a b c d), .int .i64 (meetC a b c d)]), ?_, ?_⟩
  · rintro o rfl; exact ⟨by repeat constructor, hk⟩
  intro cx hcx
  clear hk
  intro b0 b1 b2 b3
  have box' : ∀ {τ : Nat → Nat} {h : Hp} {x y : Int} (i c : Nat), i < 1 → c < 2 → rn τ h (gOf 2 [.int .i64 x, .int .i64 y] i c) (gOf 2 [.int .i64 x, .int .i64 y] i c) := by
    intro τ h x y i c hi hc
    obtain rfl : i = 0 := by omega
    match c, hc with
    | 0, _ | 1, _ => exact ⟨rfl, rfl⟩
  have z0 : ∀ k : Int, k ≤ 0 → rmF a b c d k = 0 ∧ rmC a b c d k = 0 := fun k hk => by
    have : ¬ (mayB a b = true ∧ mayB c d = true ∧ loI a c < hiI a b c d ∧ loI a c < k) := by
      rintro ⟨q1, q2, q3, q4⟩
      have := may_iff.1 q1
      have := may_iff.1 q2
      unfold loI at q4
      split at q4 <;> omega
    unfold rmF rmC
    rw [if_neg this, if_neg this]; exact ⟨rfl, rfl⟩
  refine W_loop (fun r σ h => ∃ k : Nat, r = 256 - k ∧ k ≤ 256 ∧ σ = [(2, .ptr 0 0 0), (3, .ptr 1 0 0), (4, .ptr 2 0 0), (5, .ptr 3 0 0), (6, .int .i64 k)] ∧
    h = [(0, .blk b0 1 2 (gOf 2 [.int .i64 a, .int .i64 b]) 27), (1, .blk b1 1 2 (gOf 2 [.int .i64 c, .int .i64 d]) 27), (2, .blk b2 1 2 (gOf 2 [.int .i64 0, .int .i64 0]) 27), (3, .blk b3 1 2 (gOf 2 [.int .i64 (rmF a b c d k), .int .i64 (rmC a b c d k)]) 27)]) 256 ⟨0, rfl, by omega, rfl, rfl⟩ (tau []) ⟨rfl, ?_, ?_⟩ 30 ?_
  · repeat' (first | exact rfl | exact trivial | refine ⟨?_, ?_⟩)
  · refine ⟨⟨rfl, rfl, rfl, rfl, fun i c hi hc => box' i c hi hc⟩, ⟨rfl, rfl, rfl, rfl, fun i c hi hc => box' i c hi hc⟩, ⟨rfl, rfl, rfl, rfl, fun i c hi hc => box' i c hi hc⟩, ⟨rfl, rfl, rfl, rfl, fun i c hi hc => ?_⟩, trivial⟩
    have hi : i < 1 := hi
    obtain rfl : i = 0 := by omega
    obtain ⟨q1, q2⟩ := z0 ((0 : Nat) : Int) (by omega)
    rw [q1, q2]
    match c, hc with
    | 0, _ | 1, _ => exact ⟨rfl, rfl⟩
  rintro r σ h1 ⟨k, rfl, hk, rfl, rfl⟩
  refine vc_sound (mkE hcx T_ok spb) 300 _ _ _ 30 ?_
  have off : (hasR a b k = false ∨ hasR c d k = false) → rmF a b c d ((k + 1 : Nat) : Int) = rmF a b c d k ∧ rmC a b c d ((k + 1 : Nat) : Int) = rmC a b c d k := fun q => by
    by_cases e1 : mayB a b = true
    · by_cases e2 : mayB c d = true
      · have m1 := may_iff.1 e1
        have m2 := may_iff.1 e2
        have hn : ¬ ((a ≤ (k : Int) ∧ (k : Int) < a + b) ∧ (c ≤ (k : Int) ∧ (k : Int) < c + d)) := by
          rintro ⟨q1, q2⟩
          rcases q with q | q
          · rw [has_iff.2 ⟨e1, q1.1, q1.2⟩] at q; cases q
          · rw [has_iff.2 ⟨e2, q2.1, q2.2⟩] at q; cases q
        unfold rmF rmC
        simp only [e1, e2, true_and]
        unfold loI hiI
        constructor <;> (repeat' split) <;> omega
      · unfold rmF rmC
        rw [if_neg (fun q => e2 q.2.1), if_neg (fun q => e2 q.2.1), if_neg (fun q => e2 q.2.1), if_neg (fun q => e2 q.2.1)]; exact ⟨rfl, rfl⟩
    · unfold rmF rmC
      rw [if_neg (fun q => e1 q.1), if_neg (fun q => e1 q.1), if_neg (fun q => e1 q.1), if_neg (fun q => e1 q.1)]; exact ⟨rfl, rfl⟩
  (refine (?_ : br _ _ _); refine br_dec (fun hlt => ?_) (fun hlt => ?_))
  · have hlt : (k : Int) < 256 := hlt
    have w1 : IntKind.i64.wrap ((k : Int) + 1) = ((k + 1 : Nat) : Int) := by simp [IntKind.wrap_i64]; omega
    refine ⟨ha, hb, ⟨by omega, by omega⟩, ?_⟩
    cases e1 : hasR a b k with
    | false =>
      obtain ⟨o1, o2⟩ := off (.inl e1)
      refine ⟨256 - (k + 1), _, _, by omega, ⟨k + 1, rfl, by omega, rfl, rfl⟩, tau [], rfl, ?_, ?_⟩
      · repeat' (first | exact rfl | exact trivial | exact w1 | refine ⟨?_, ?_⟩)
      · rw [o1, o2]
        exact ⟨⟨rfl, rfl, rfl, rfl, fun i c hi hc => box' i c hi hc⟩, ⟨rfl, rfl, rfl, rfl, fun i c hi hc => box' i c hi hc⟩, ⟨rfl, rfl, rfl, rfl, fun i c hi hc => box' i c hi hc⟩, ⟨rfl, rfl, rfl, rfl, fun i c hi hc => box' i c hi hc⟩, trivial⟩
    | true =>
      refine ⟨hc, hd, ⟨by omega, by omega⟩, ?_⟩
      cases e2 : hasR c d k with
      | false =>
        obtain ⟨o1, o2⟩ := off (.inr e2)
        refine ⟨256 - (k + 1), _, _, by omega, ⟨k + 1, rfl, by omega, rfl, rfl⟩, tau [], rfl, ?_, ?_⟩
        · repeat' (first | exact rfl | exact trivial | exact w1 | refine ⟨?_, ?_⟩)
        · rw [o1, o2]
          exact ⟨⟨rfl, rfl, rfl, rfl, fun i c hi hc => box' i c hi hc⟩, ⟨rfl, rfl, rfl, rfl, fun i c hi hc => box' i c hi hc⟩, ⟨rfl, rfl, rfl, rfl, fun i c hi hc => box' i c hi hc⟩, ⟨rfl, rfl, rfl, rfl, fun i c hi hc => box' i c hi hc⟩, trivial⟩
      | true =>
        obtain ⟨n1, q1, q2⟩ := has_iff.1 e1
        obtain ⟨n2, q3, q4⟩ := has_iff.1 e2
        have m1 := may_iff.1 n1
        have m2 := may_iff.1 n2
        have lk : loI a c ≤ k := by unfold loI; split <;> omega
        have kh : (k : Int) < hiI a b c d := by unfold hiI; split <;> omega
        have new : rmF a b c d ((k + 1 : Nat) : Int) = loI a c ∧ rmC a b c d ((k + 1 : Nat) : Int) = k + 1 - loI a c := by
          unfold rmF rmC
          rw [if_pos ⟨n1, n2, by omega, by omega⟩, if_pos ⟨n1, n2, by omega, by omega⟩]
          exact ⟨rfl, by split <;> omega⟩
        have cOld : (loI a c = k → rmC a b c d k = 0) ∧ (loI a c < k → rmF a b c d k = loI a c ∧ rmC a b c d k = k - loI a c) := by
          constructor
          · intro q
            unfold rmC
            rw [if_neg (by rintro ⟨_, _, _, q'⟩; omega)]
          · intro q
            unfold rmF rmC
            rw [if_pos ⟨n1, n2, by omega, by omega⟩, if_pos ⟨n1, n2, by omega, by omega⟩]
            exact ⟨rfl, by rw [if_pos kh]⟩
        have l0 : 0 ≤ loI a c := by unfold loI; split <;> omega
        have wc : IntKind.i64.wrap (rmC a b c d k + 1) = rmC a b c d ((k + 1 : Nat) : Int) := by
          rw [new.2]
          rcases Int.lt_or_eq_of_le lk with q | q
          · rw [(cOld.2 q).2]; simp only [IntKind.wrap_i64]; omega
          · rw [cOld.1 q]; simp only [IntKind.wrap_i64]; omega
        (refine (?_ : br _ _ _); refine br_eq (fun e5 => ?_) (fun e5 => ?_))
        · have e5 : rmC a b c d k = 0 := e5
          have hlk : loI a c = k := by
            rcases Int.lt_or_eq_of_le lk with q | q
            · have := (cOld.2 q).2; omega
            · exact q
          have wf : (k : Int) = rmF a b c d ((k + 1 : Nat) : Int) := by rw [new.1, hlk]
          refine ⟨256 - (k + 1), _, _, by omega, ⟨k + 1, rfl, by omega, rfl, rfl⟩, tau [], rfl, ?_, ?_⟩
          · repeat' (first | exact rfl | exact trivial | exact w1 | refine ⟨?_, ?_⟩)
          · refine ⟨⟨rfl, rfl, rfl, rfl, fun i c hi hc => box' i c hi hc⟩, ⟨rfl, rfl, rfl, rfl, fun i c hi hc => box' i c hi hc⟩, ⟨rfl, rfl, rfl, rfl, fun i c hi hc => box' i c hi hc⟩, ⟨rfl, rfl, rfl, rfl, fun i c hi hc => ?_⟩, trivial⟩
            have hi : i < 1 := hi
            obtain rfl : i = 0 := by omega
            match c, hc with
            | 0, _ => exact ⟨rfl, wf⟩
            | 1, _ => exact ⟨rfl, wc⟩
        · have e5 : rmC a b c d k ≠ 0 := e5
          have hlk : loI a c < k := by
            rcases Int.lt_or_eq_of_le lk with q | q
            · exact q
            · exact absurd (cOld.1 q) e5
          have wf : rmF a b c d k = rmF a b c d ((k + 1 : Nat) : Int) := by rw [new.1, (cOld.2 hlk).1]
          refine ⟨256 - (k + 1), _, _, by omega, ⟨k + 1, rfl, by omega, rfl, rfl⟩, tau [], rfl, ?_, ?_⟩
          · repeat' (first | exact rfl | exact trivial | exact w1 | refine ⟨?_, ?_⟩)
          · refine ⟨⟨rfl, rfl, rfl, rfl, fun i c hi hc => box' i c hi hc⟩, ⟨rfl, rfl, rfl, rfl, fun i c hi hc => box' i c hi hc⟩, ⟨rfl, rfl, rfl, rfl, fun i c hi hc => box' i c hi hc⟩, ⟨rfl, rfl, rfl, rfl, fun i c hi hc => ?_⟩, trivial⟩
            have hi : i < 1 := hi
            obtain rfl : i = 0 := by omega
            match c, hc with
            | 0, _ => exact ⟨rfl, wf⟩
            | 1, _ => exact ⟨rfl, wc⟩
  · have hlt : ¬ (k : Int) < 256 := hlt
    obtain rfl : k = 256 := by omega
    have fin : rmF a b c d 256 = meetF a b c d ∧ rmC a b c d 256 = meetC a b c d := by
      by_cases e1 : mayB a b = true
      · by_cases e2 : mayB c d = true
        · have m1 := may_iff.1 e1
          have m2 := may_iff.1 e2
          unfold rmF rmC meetF meetC
          simp only [e1, e2, true_and]
          unfold loI hiI
          constructor <;> (repeat' split) <;> omega
        · unfold rmF rmC meetF meetC
          rw [if_neg (fun q => e2 q.2.1), if_neg (fun q => e2 q.2.1), if_neg (fun q => e2 q.2.1), if_neg (fun q => e2 q.2.1)]; exact ⟨rfl, rfl⟩
      · unfold rmF rmC meetF meetC
        rw [if_neg (fun q => e1 q.1), if_neg (fun q => e1 q.1), if_neg (fun q => e1 q.1), if_neg (fun q => e1 q.1)]; exact ⟨rfl, rfl⟩
    exact outAII fin.1 fin.2

end Go.Proofs.Ytfmnebdfanaafaa.Sx
