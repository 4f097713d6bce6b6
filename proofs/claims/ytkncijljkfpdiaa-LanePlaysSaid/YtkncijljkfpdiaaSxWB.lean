import Derived.Test.YtkncijljkfpdiaaSxWA
/-
  The lanes, read: Heads (18).
-/
namespace Go.Proofs.Ytkncijljkfpdiaa.Sx
open Go Go.Proofs
set_option maxRecDepth 100000
set_option linter.unusedSimpArgs false
set_option linter.unusedVariables false

def gR (S : Std) (cp : Nat → Nat) : Nat → Nat → V := fun i _ => .slice (i + 3000) 0 (lane S i).length (cp i)
/-- Lanes that are read, and what else there is. -/
abbrev HRo (bL bM bR n room : Nat) (S : Std) (e : Nat → Ent) (cp : Nat → Nat) (rest : Hp) : Hp := (2, .ro (some ⟨bR, 0, none⟩) n 1 (gR S cp)) :: (9, .rmp bM (mpS S)) :: (8, .ro (some ⟨bL, 0, none⟩) 1 3 (gLn n room)) :: (rest ++ lanes 3000 n e)
/-- Lanes that may be written, and what else there is. -/
abbrev HLw (bL bM bR n room : Nat) (S : Std) (e : Nat → Ent) (cp : Nat → Nat) (rest : Hp) : Hp := (2, .blk bR n 1 (gR S cp) 58) :: (9, .mp bM (mpS S)) :: (8, .blk bL 1 3 (gLn n room) 55) :: (rest ++ lanes 3000 n e)
/-- What stands between may have no lane's tag, nor 2, 8, 9. -/
def Mid (rest : Hp) : Prop := ∀ t, t ∈ rest.map (·.1) → t < 3000 ∧ t ≠ 2 ∧ t ≠ 9 ∧ t ≠ 8
theorem Mid.of {rest : Hp} (h : (rest.map (·.1)).all (fun t => Nat.blt t 3000 && !(Nat.beq t 2) && !(Nat.beq t 9) && !(Nat.beq t 8)) = true) : Mid rest := by
  intro t ht
  have := List.all_eq_true.1 h t ht
  simp only [Bool.and_eq_true, Bool.not_eq_true'] at this
  obtain ⟨⟨⟨h1, h2⟩, h3⟩, h4⟩ := this
  have h1 : t + 1 ≤ 3000 := Nat.le_of_ble_eq_true h1
  exact ⟨h1, (by rintro rfl; cases h2), (by rintro rfl; cases h3), (by rintro rfl; cases h4)⟩
theorem Mid.at {rest : Hp} (hm : Mid rest) {n i : Nat} {e : Nat → Ent} (hi : i < n) {a b c : Ent} : fd (i + 3000) ((2, a) :: (9, b) :: (8, c) :: (rest ++ lanes 3000 n e)) = e i := by
  rw [fd_cons, if_neg (by omega), fd_cons, if_neg (by omega), fd_cons, if_neg (by omega), fd_appR, fd_lanes hi]
  intro q
  have := hm _ q
  omega
theorem Mid.far {rest : Hp} (hm : Mid rest) {n t : Nat} {e : Nat → Ent} (ht : n + 3000 ≤ t) {a b c : Ent} : fd t ((2, a) :: (9, b) :: (8, c) :: (rest ++ lanes 3000 n e)) = .gone := by
  rw [fd_cons, if_neg (by omega), fd_cons, if_neg (by omega), fd_cons, if_neg (by omega), fd_appR, fd_lanes_out fun i hi => by omega]
  intro q
  have := hm _ q
  omega
theorem HLw.q {bL bM bR n room : Nat} {S : Std} {e : Nat → Ent} {cp : Nat → Nat} {rest : Hp} (hm : Mid rest) (he : ∀ i, i < n → lstE (e i) (lane S i) (cp i)) : LnQ (HLw bL bM bR n room S e cp rest) bL bM bR n room (gR S cp) S e cp (tau []) :=
  ⟨rfl, rfl, rfl, fun i hi => rfl, fun i hi => hm.at hi, he⟩
theorem HRo.rd {bL bM bR n room : Nat} {S : Std} {e : Nat → Ent} {cp : Nat → Nat} {rest : Hp} (hm : Mid rest) (he : ∀ i, i < n → rdE (e i) (lane S i) (cp i)) : LnRd (HRo bL bM bR n room S e cp rest) bL bM bR n room (gR S cp) S (· + 3000) cp :=
  ⟨by rw [fd_roH]; rfl, by rw [fd_roH]; rfl, by rw [fd_roH]; rfl, fun i hi => rfl, fun i hi => by rw [fd_roH, hm.at hi, (he i hi).toRo]; exact he i hi, fun i j _ _ q => by simpa using q, fun i _ => by show 1000 ≤ i + 3000; omega⟩
theorem HRo.wk {bL bM bR n room : Nat} {S : Std} {e : Nat → Ent} {cp : Nat → Nat} {rest h h' : Hp} {τ : Nat → Nat} {g : Nat → Nat → V} (e2 : fd (τ 2) h = .ro (some ⟨bR, 0, none⟩) n 1 g) (hg : ∀ i, i < n → g i 0 = .slice (τ (i + 3000)) 0 (lane S i).length (cp i)) (e9 : fd (τ 9) h = .rmp bM (mpS S)) (e8 : fd (τ 8) h = .ro (some ⟨bL, 0, none⟩) 1 3 (gLn n room))
    (t2 : τ 2 = 2) (t9 : τ 9 = 9) (v2 : live h' 2) (v9 : live h' 9) (vl : ∀ i, i < n → live h' (i + 3000)) (he : ∀ i, i < n → fd (τ (i + 3000)) h = e i ∧ rdE (e i) (lane S i) (cp i)) (hr : wkH τ h h' rest) : wkH τ h h' (HRo bL bM bR n room S e cp rest) := by
  refine ⟨?_, ?_, ?_, wkH_app hr (wkH_lanes fun i hi => ?_)⟩
  · rw [e2]
    refine ⟨rfl, rfl, rfl, fun i c hi hc => ?_⟩
    obtain rfl : c = 0 := by omega
    rw [hg i hi]
    exact ⟨⟨rfl, vl i hi⟩, rfl, rfl, rfl⟩
  · rw [e9]; exact ⟨rfl, rfl⟩
  · rw [e8]
    refine ⟨rfl, rfl, rfl, fun i c hi hc => ?_⟩
    obtain rfl : i = 0 := (by omega)
    match c, hc with
    | 0, _ => exact ⟨⟨t2.symm, v2⟩, rfl, rfl, rfl⟩
    | 1, _ => exact ⟨rfl, rfl⟩
    | 2, _ => exact ⟨t9.symm, v9⟩
  · obtain ⟨h1, h2⟩ := he i hi
    rw [h1]; exact h2.wk _ _
theorem HLw.wk {bL bM bR n room : Nat} {S : Std} {e : Nat → Ent} {cp : Nat → Nat} {rest h h' : Hp} {τ : Nat → Nat} {g : Nat → Nat → V} (e2 : fd (τ 2) h = .blk bR n 1 g 58) (hg : ∀ i, i < n → g i 0 = .slice (τ (i + 3000)) 0 (lane S i).length (cp i)) (e9 : fd (τ 9) h = .mp bM (mpS S)) (e8 : fd (τ 8) h = .blk bL 1 3 (gLn n room) 55)
    (t2 : τ 2 = 2) (t9 : τ 9 = 9) (v2 : live h' 2) (v9 : live h' 9) (vl : ∀ i, i < n → live h' (i + 3000)) (he : ∀ i, i < n → fd (τ (i + 3000)) h = e i ∧ lstE (e i) (lane S i) (cp i)) (hr : wkH τ h h' rest) : wkH τ h h' (HLw bL bM bR n room S e cp rest) := by
  refine ⟨?_, ?_, ?_, wkH_app hr (wkH_lanes fun i hi => ?_)⟩
  · rw [e2]
    refine ⟨rfl, rfl, rfl, rfl, fun i c hi hc => ?_⟩
    obtain rfl : c = 0 := by omega
    rw [hg i hi]
    exact ⟨⟨rfl, vl i hi⟩, rfl, rfl, rfl⟩
  · rw [e9]; exact ⟨rfl, rfl⟩
  · rw [e8]
    refine ⟨rfl, rfl, rfl, rfl, fun i c hi hc => ?_⟩
    obtain rfl : i = 0 := (by omega)
    match c, hc with
    | 0, _ => exact ⟨⟨t2.symm, v2⟩, rfl, rfl, rfl⟩
    | 1, _ => exact ⟨rfl, rfl⟩
    | 2, _ => exact ⟨t9.symm, v9⟩
  · obtain ⟨h1, h2⟩ := he i hi
    rw [h1]; exact lst_wk h2 _ _
theorem keysH {a b c : Ent} {rest : Hp} {n : Nat} {e : Nat → Ent} {τ : Nat → Nat} (hA : nodupB (((2 :: 9 :: 8 :: rest.map (·.1))).map τ) = true) (h1 : ∀ i j, i < n → j < n → τ (i + 3000) = τ (j + 3000) → i = j) (h2 : ∀ t ∈ (2 :: 9 :: 8 :: rest.map (·.1)), ∀ i, i < n → τ t ≠ τ (i + 3000)) : nodupB (((((2, a) :: (9, b) :: (8, c) :: (rest ++ lanes 3000 n e)) : Hp).map (·.1)).map τ) = true :=
  nodup_lanes (A := (2, a) :: (9, b) :: (8, c) :: rest) hA h1 h2
theorem live_lane {rest : Hp} (hm : Mid rest) {n i : Nat} {e : Nat → Ent} (hi : i < n) {a b c : Ent} (h : (e i).here) : live ((2, a) :: (9, b) :: (8, c) :: (rest ++ lanes 3000 n e)) (i + 3000) := live_fd (hm.at hi) h
theorem told_full {h : Hp} {bL bM bR n room : Nat} {g : Nat → Nat → V} {S : Std} {q cp : Nat → Nat} {rest : List V} (H : LnRd h bL bM bR n room g S q cp) (hf : flatL rest) : Told h (.ptr 8 0 0 :: rest) (HRo bL bM bR n room S (fun i => fd (q i) (roH h)) cp []) (.ptr 8 0 0 :: rest) := by
  have hm : Mid [] := fun t ht => by cases ht
  obtain ⟨τ, hτ, t2, t9, t8⟩ : ∃ τ : Nat → Nat, (∀ i, τ (i + 3000) = q i) ∧ τ 2 = 2 ∧ τ 9 = 9 ∧ τ 8 = 8 :=
    ⟨fun t => if t < 3000 then t else q (t - 3000), fun i => by show (if _ then _ else _) = _; rw [if_neg (by omega), Nat.add_sub_cancel], rfl, rfl, rfl⟩
  refine told_wk τ ?_ ?_ ⟨⟨⟨t8.symm, trivial⟩, rfl, rfl⟩, flatL_rn _ hf⟩
  · refine keysH ?_ (fun i j hi hj e => H.inj i j hi hj (by rw [hτ, hτ] at e; exact e)) fun t ht i hi => ?_
    · simp only [List.map_nil, List.map_cons, t2, t9, t8]; rfl
    rw [hτ]
    have := H.low i hi
    simp only [List.map_nil, List.mem_cons, List.not_mem_nil, or_false] at ht
    rcases ht with rfl | rfl | rfl <;> omega
  · exact HRo.wk (g := g) (by rw [t2]; exact H.row) (fun i hi => by rw [hτ]; exact H.cell i hi) (by rw [t9]; exact H.map) (by rw [t8]; exact H.str) t2 t9 trivial trivial (fun i hi => live_lane hm hi (H.is i hi).here) (fun i hi => ⟨by rw [hτ], H.is i hi⟩) trivial
end Go.Proofs.Ytkncijljkfpdiaa.Sx
