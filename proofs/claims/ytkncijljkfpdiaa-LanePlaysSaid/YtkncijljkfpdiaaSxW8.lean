import Derived.Test.YtkncijljkfpdiaaSxW7
/-
  The lanes: Push (10), Pull (12).
-/
namespace Go.Proofs.Ytkncijljkfpdiaa.Sx
open Go Go.Proofs
set_option maxRecDepth 100000
set_option linter.unusedSimpArgs false
set_option linter.unusedVariables false

/-- Lanes that may be written lie at the tags 8, 9, 2; lane i's list at the tag τ (i + 3000). -/
structure LnQ (h : Hp) (bL bM bR n room : Nat) (g : Nat → Nat → V) (S : Std) (e : Nat → Ent) (cp : Nat → Nat) (τ : Nat → Nat) : Prop where
  str : fd 8 h = .blk bL 1 3 (gLn n room) 55
  map : fd 9 h = .mp bM (mpS S)
  row : fd 2 h = .blk bR n 1 g 58
  cell : ∀ i, i < n → g i 0 = .slice (τ (i + 3000)) 0 (lane S i).length (cp i)
  lst : ∀ i, i < n → fd (τ (i + 3000)) h = e i
  is : ∀ i, i < n → lstE (e i) (lane S i) (cp i)
/-- At most one lane's list has a new tag. -/
def Ren1 (τ : Nat → Nat) : Prop := ∃ b q, (b < 256 ∧ (q = b + 3000 ∨ q = 2901)) ∧ ∀ t, τ t = if t = b + 3000 then q else if t = q then b + 3000 else t
theorem Ren1.id : Ren1 (tau []) := ⟨0, 3000, ⟨by decide, .inl rfl⟩, fun t => by show t = _; split <;> (try split) <;> omega⟩
/-- All else lies where it lay. -/
def Else (n : Nat) (h h' : Hp) : Prop := ∀ t, t ≠ 2 → t ≠ 9 → t < 2900 ∨ n + 3000 ≤ t → fd t h' = fd t h
theorem LnQ.ro {h : Hp} {bL bM bR n room : Nat} {g : Nat → Nat → V} {S : Std} {e : Nat → Ent} {cp : Nat → Nat} {τ : Nat → Nat} (H : LnQ h bL bM bR n room g S e cp τ) : lnR h n room (mpS S) :=
  ⟨bL, bM, bR, g, by rw [fd_roH, H.str]; rfl, by rw [fd_roH, H.map]; rfl, by rw [fd_roH, H.row]; rfl⟩
theorem lnR.fdeq {h h' : Hp} {n room : Nat} {l : List (Int × Int)} (he : ∀ t, fd t h' = fd t h) (H : lnR h n room l) : lnR h' n room l := by
  obtain ⟨bL, bM, bR, g, e1, e2, e3⟩ := H
  exact ⟨bL, bM, bR, g, by rw [fd_roH, he, ← fd_roH]; exact e1, by rw [fd_roH, he, ← fd_roH]; exact e2, by rw [fd_roH, he, ← fd_roH]; exact e3⟩

def sPush : Spec := fun args h nx K => ∃ (bL bM bR n room : Nat) (g : Nat → Nat → V) (S : Std) (e : Nat → Ent) (cp : Nat → Nat) (b t : Int), args = [.ptr 8 0 0, .int .i64 b, .int .i64 t] ∧ LnQ h bL bM bR n room g S e cp (tau []) ∧ Fit n room S ∧ fd 2900 h = .gone ∧ fd 2901 h = .gone ∧
  ∀ (h' : Hp) (g' : Nat → Nat → V) (e' : Nat → Ent) (cp' : Nat → Nat) (τ : Nat → Nat), Ext h h' → Else n h h' → LnQ h' bL bM bR n room g' (pushS n room S b t) e' cp' τ → Ren1 τ → (pushC n room S b t ≠ 0 → ∀ u, fd u h' = fd u h) → K (.ret (.int .i64 (pushC n room S b t))) h' nx
theorem sPush_ok : SpecOK Try.prog 10 sPush := specOK_imp (inlx_ok (fn := Try.f10) rfl rfl rfl T_ok (SP := [(28, sIs), (29, sRPush)]) (consSP sIs_ok (consSP sRPush_ok noSP))) <| by
  rintro args h nx K ⟨bL, bM, bR, n, room, g, S, e, cp, b, t, rfl, H, hF, hx0, hx1, hk⟩
  refine ⟨by simp [Try.f10], fun c hc => ?_⟩
  have hE := mkE' (fn := Try.f10) (R := fun o h' _ => Ext h h' ∧ ∃ m, K o h' m) hc (consSP sIs_ok (consSP sRPush_ok noSP))
  have heq : ∀ u, fd u ((2, .blk bR n 1 g 58) :: (9, .mp bM (mpS S)) :: (8, .blk bL 1 3 (gLn n room) 55) :: h) = fd u h := fdeq_cons2 H.row (fdeq_cons2 H.map (fdeq_cons H.str))
  have hout : ∀ {C : Int}, pushC n room S b t = C → C ≠ 0 → Ext h ((2, .blk bR n 1 g 58) :: (9, .mp bM (mpS S)) :: (8, .blk bL 1 3 (gLn n room) 55) :: h) ∧ ∃ m, K (.ret (.int .i64 C)) ((2, .blk bR n 1 g 58) :: (9, .mp bM (mpS S)) :: (8, .blk bL 1 3 (gLn n room) 55) :: h) m := fun {C} hC h0 => by
    subst hC
    refine ⟨Ext.fdeq heq, nx, hk _ g e cp (tau []) (Ext.fdeq heq) (fun u _ _ _ => heq u) ?_ Ren1.id fun _ => heq⟩
    unfold pushS
    rw [if_neg h0]
    exact ⟨by rw [heq]; exact H.str, by rw [heq]; exact H.map, by rw [heq]; exact H.row, H.cell, fun i hi => by rw [heq]; exact H.lst i hi, H.is⟩
  refine W_fdeq (nx' := 2900) heq ?_
  refine vc_sound hE 200 _ _ _ 2900 ?_
  refine ⟨n, room, mpS S, b, rfl, H.ro.fdeq heq, ?_⟩
  rw [mhas_S]
  (refine (?_ : br _ _ _); refine br_both (fun q1 => ?_) (fun q1 => ?_))
  · have q1 : isI n b = false := by simpa using q1
    exact hout (by unfold pushC; rw [if_pos (.inl q1)]) (by decide)
  have q1 : isI n b = true := by simpa using q1
  (refine (?_ : br _ _ _); refine br_dec (fun q => ?_) (fun q => ?_))
  · have q : t < 1 := q
    exact hout (by unfold pushC; rw [if_pos (.inr q)]) (by decide)
  have q2 : ¬ t < 1 := q
  have h1 : ¬ (isI n b = false ∨ t < 1) := by rw [q1]; simpa using q2
  (refine (?_ : br _ _ _); refine br_both (fun q3 => ?_) (fun q3 => ?_))
  · exact hout (by unfold pushC; rw [if_neg h1, if_pos q3]) (by decide)
  have h2 : ¬ hasT S t = true := by rw [q3]; decide
  refine W_drawn (id := 6) hE 60 1000 (by rw [hc]; exact mix) (by kernel_rfl) (by kernel_rfl) 2900 ?_
  iterate 11 (refine ⟨_, ⟨rfl, rfl⟩, ?_⟩)
  (refine (?_ : br _ _ _); refine br_eq (fun q4 => ?_) (fun q4 => ?_))
  · have q4 : ((mpS S).length : Int) = room := q4
    rw [mpS_len] at q4
    exact hout (by unfold pushC; rw [if_neg h1, if_neg h2, if_pos (by omega)]) (by decide)
  have q4 : ¬ ((mpS S).length : Int) = room := q4
  rw [mpS_len] at q4
  have hC : pushC n room S b t = 0 := by unfold pushC; rw [if_neg h1, if_neg h2, if_neg (by omega)]
  have hb : 0 ≤ b ∧ b < n := by unfold isI at q1; simpa using q1
  obtain ⟨bn, rfl⟩ : ∃ bn : Nat, b = (bn : Int) := ⟨b.toNat, by omega⟩
  have hbn : bn < n := by omega
  have hz : addI 0 ((bn : Int)).toNat = bn := by rw [Int.toNat_natCast, addI_eq, Nat.zero_add]
  (refine (?_ : chk _ _); refine chk_ok (show (decide ((0 : Int) ≤ (bn : Int)) && decide ((bn : Int) < (n : Int))) = true by simp only [Bool.and_eq_true, decide_eq_true_eq]; omega) ?_)
  (refine (?_ : chk _ _); refine chk_ok rfl ?_)
  have hf : hasT S t = false := q3
  rw [mput_S hf (by omega), Int.toNat_natCast] 
  have hfd : ∀ u, u ≠ 9 → fd u ((9, .mp bM (mpS (S ++ [(bn, t)]))) :: (2, .blk bR n 1 g 58) :: (9, .mp bM (mpS S)) :: (8, .blk bL 1 3 (gLn n room) 55) :: h) = fd u h := fun u hu => by rw [fd_cons, if_neg hu]; exact heq u
  have hS : pushS n room S (bn : Int) t = S ++ [(bn, t)] := by unfold pushS; rw [if_pos hC, Int.toNat_natCast]
  refine ⟨bR, n, 58, bn, cp bn, g, e bn, lane S bn, t, (show [V.ptr 2 (addI 0 ((bn : Int)).toNat) 0, .int .i64 t] = _ by rw [hz]), rfl, hbn, H.cell bn hbn, (hfd _ (by omega)).trans (H.lst bn hbn), H.is bn hbn, ?_, (hfd _ (by decide)).trans hx0, (hfd _ (by decide)).trans hx1, fun h' q cp' e' g' kx k1 k2 k3 k4 k5 k6 => ?_⟩
  · have := lane_len (S := S) (b := bn); have := hF.len; have := hF.room; omega
  rw [hC] at hk
  have hX : Ext h h' := ((Ext.fdeq heq).fd1 (by rfl)).trans kx
  refine ⟨hX, nx, hk h' g' (fun i => if i = bn then e' else e i) (fun i => if i = bn then cp' else cp i) (fun u => if u = bn + 3000 then q else if u = q then bn + 3000 else u) hX (fun u u1 u2 u3 => ?_) ?_ ⟨bn, q, ⟨by have := hF.blocks; omega, k6⟩, fun _ => rfl⟩ fun q => absurd rfl q⟩
  · rw [k1 u u1 (by omega) (by omega) (by omega)]
    exact hfd u u2
  · rw [hS]
    refine ⟨?_, ?_, k2, fun i hi => ?_, fun i hi => ?_, fun i hi => ?_⟩
    · rw [k1 8 (by decide) (by omega) (by decide) (by decide)]; rfl
    · rw [k1 9 (by decide) (by omega) (by decide) (by decide)]; rfl
    · rw [k3]
      by_cases w : i = bn
      · subst w; rw [if_pos rfl, if_pos rfl, lane_snoc, if_pos rfl, if_pos rfl]
      · rw [if_neg w, if_neg (by omega), if_neg (by omega), lane_snoc, if_neg w, if_neg w]; exact H.cell i hi
    · by_cases w : i = bn
      · subst w; rw [if_pos rfl, if_pos rfl]; exact k4
      · rw [if_neg (by omega), if_neg (by omega), if_neg w, k1 _ (by omega) (by omega) (by omega) (by omega), hfd _ (by omega)]; exact H.lst i hi
    · rw [lane_snoc]
      by_cases w : i = bn
      · subst w; rw [if_pos rfl, if_pos rfl, if_pos rfl]; exact k5
      · rw [if_neg w, if_neg w, if_neg w]; exact H.is i hi
end Go.Proofs.Ytkncijljkfpdiaa.Sx
