import Derived.Test.YtkncijljkfpdiaaSxW8
/-
  The lanes: Pull (12).
-/
namespace Go.Proofs.Ytkncijljkfpdiaa.Sx
open Go Go.Proofs
set_option maxRecDepth 100000
set_option linter.unusedSimpArgs false
set_option linter.unusedVariables false

theorem pullS_no {S : Std} {t : Int} (h : hasT S t = false) : pullS S t = S := by
  unfold pullS
  refine List.eraseP_of_forall_not fun a ha => ?_
  intro q
  have : hasT S t = true := by unfold hasT; exact List.any_eq_true.2 ⟨a, ha, q⟩
  rw [h] at this; cases this
theorem blkT_no {S : Std} {t : Int} (h : hasT S t = false) : blkT S t = 0 := by
  rw [hasT_find] at h
  unfold blkT
  cases e : S.find? (fun p => p.2 == t) with
  | none => rfl
  | some p => rw [e] at h; cases h
def pullC (S : Std) (t : Int) : Int := if hasT S t = true then 0 else 3
def sPull : Spec := fun args h nx K => ∃ (bL bM bR n room : Nat) (g : Nat → Nat → V) (S : Std) (e : Nat → Ent) (cp : Nat → Nat) (t : Int), args = [.ptr 8 0 0, .int .i64 t] ∧ LnQ h bL bM bR n room g S e cp (tau []) ∧ Fit n room S ∧
  ∀ (h' : Hp) (g' : Nat → Nat → V) (e' : Nat → Ent) (cp' : Nat → Nat), Ext h h' → Else n h h' → LnQ h' bL bM bR n room g' (pullS S t) e' cp' (tau []) → K (.ret (.tup [.int .i64 (blkT S t), .int .i64 (pullC S t)])) h' nx
theorem sPull_ok : SpecOK Try.prog 12 sPull := specOK_imp (inlx_ok (fn := Try.f12) rfl rfl rfl T_ok (SP := [(30, sRPull)]) (consSP sRPull_ok noSP)) <| by
  rintro args h nx K ⟨bL, bM, bR, n, room, g, S, e, cp, t, rfl, H, hF, hk⟩
  refine ⟨by simp [Try.f12], fun c hc => ?_⟩
  have hE := mkE' (fn := Try.f12) (R := fun o h' _ => Ext h h' ∧ ∃ m, K o h' m) hc (consSP sRPull_ok noSP)
  have heq : ∀ u, fd u ((2, .blk bR n 1 g 58) :: (9, .mp bM (mpS S)) :: (8, .blk bL 1 3 (gLn n room) 55) :: h) = fd u h := fdeq_cons2 H.row (fdeq_cons2 H.map (fdeq_cons H.str))
  refine W_fdeq (nx' := 2900) heq ?_
  refine vc_sound hE 200 _ _ _ 2900 ?_
  (refine (?_ : br _ _ _); refine br_both (fun q1 => ?_) (fun q1 => ?_))
  · have q1 : hasT S t = false := by rw [← mhas_S]; simpa using q1
    have hC : pullC S t = 3 := by unfold pullC; rw [q1]; rfl
    rw [hC, pullS_no q1, blkT_no q1] at hk
    refine and_ext (m := nx) (Ext.fdeq heq) fun hX => hk _ g e cp hX (fun u _ _ _ => heq u) ?_
    exact ⟨by rw [heq]; exact H.str, by rw [heq]; exact H.map, by rw [heq]; exact H.row, H.cell, fun i hi => by rw [heq]; exact H.lst i hi, H.is⟩
  have q1 : hasT S t = true := by rw [← mhas_S]; simpa using q1
  obtain ⟨bn, hbt, hmem⟩ := blkT_mem q1
  have hbn : bn < n := hF.blk _ hmem
  have hz : addI 0 (((bn : Nat) : Int)).toNat = bn := by rw [Int.toNat_natCast, addI_eq, Nat.zero_add]
  have hmg : mget (mpS S) t = (bn : Int) := by rw [mget_S, hbt]
  rw [hbt] at hk
  rw [hmg]
  (refine (?_ : chk _ _); refine chk_ok (show (decide ((0 : Int) ≤ (bn : Int)) && decide ((bn : Int) < (n : Int))) = true by simp only [Bool.and_eq_true, decide_eq_true_eq]; omega) ?_)
  (refine (?_ : chk _ _); refine chk_ok rfl ?_)
  rw [mdel_S]
  have hfd : ∀ u, u ≠ 9 → fd u ((9, .mp bM (mpS (pullS S t))) :: (2, .blk bR n 1 g 58) :: (9, .mp bM (mpS S)) :: (8, .blk bL 1 3 (gLn n room) 55) :: h) = fd u h := fun u hu => by rw [fd_cons, if_neg hu]; exact heq u
  refine ⟨bR, n, 58, bn, cp bn, g, e bn, lane S bn, t, (show [V.ptr 2 (addI 0 ((bn : Int)).toNat) 0, .int .i64 t] = _ by rw [hz]), rfl, hbn, H.cell bn hbn, (hfd _ (by omega)).trans (H.lst bn hbn), H.is bn hbn, ?_, mem_lane.2 hmem, fun h' e' g' kx k1 k2 k3 k4 k5 => ?_⟩
  · have := lane_len (S := S) (b := bn); have := hF.len; have := hF.room; omega
  have hC : pullC S t = 0 := by unfold pullC; rw [if_pos q1]
  have hl : ∀ i, lane (pullS S t) i = if i = bn then (lane S i).erase t else lane S i := fun i => by
    rw [lane_pull q1, hbt]
    by_cases w : i = bn
    · rw [if_pos w, if_pos (by omega)]
    · rw [if_neg w, if_neg (by omega)]
  rw [hC] at hk
  refine and_ext (m := nx) (((Ext.fdeq heq).fd1 (by rfl)).trans kx) fun hX => hk h' g' (fun i => if i = bn then e' else e i) cp hX (fun u u1 u2 u3 => ?_) ?_
  · rw [k1 u u1 (by omega)]
    exact hfd u u2
  · refine ⟨?_, ?_, k2, fun i hi => ?_, fun i hi => ?_, fun i hi => ?_⟩
    · rw [k1 8 (by decide) (by omega)]; rfl
    · rw [k1 9 (by decide) (by omega)]; rfl
    · rw [k3, hl]
      by_cases w : i = bn
      · subst w; rw [if_pos rfl, if_pos rfl]; rfl
      · rw [if_neg w, if_neg w]; exact H.cell i hi
    · by_cases w : i = bn
      · subst w; rw [if_pos rfl]; exact k4
      · rw [if_neg w]
        have := k1 (i + 3000) (by omega) (by omega)
        exact (this.trans (hfd _ (by omega))).trans (H.lst i hi)
    · rw [hl]
      by_cases w : i = bn
      · subst w; rw [if_pos rfl, if_pos rfl]; exact k5
      · rw [if_neg w, if_neg w]; exact H.is i hi
end Go.Proofs.Ytkncijljkfpdiaa.Sx
