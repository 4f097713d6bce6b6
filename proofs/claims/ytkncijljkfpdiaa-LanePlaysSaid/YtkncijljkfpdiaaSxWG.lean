import Derived.Test.YtkncijljkfpdiaaSxWF
/-
  The lanes' model: what steps keep; the lanes in a heap whose other entries are told anew.
-/
namespace Go.Proofs.Ytkncijljkfpdiaa.Sx
open Go Go.Proofs
set_option maxRecDepth 100000
set_option linter.unusedSimpArgs false
set_option linter.unusedVariables false

theorem HLw.wkA {bL bM bR n room : Nat} {S : Std} {e : Nat → Ent} {cp : Nat → Nat} (A : Hp) {rest rest' : Hp} {τ : Nat → Nat} (hA : (A.map (·.1)).all (fun t => Nat.blt t 3000) = true) (hm : Mid rest) (hm' : Mid rest') (he : LsOK n S e cp)
    (f2 : fd (τ 2) (A ++ HLw bL bM bR n room S e cp rest) = .blk bR n 1 (gR S cp) 58) (f9 : fd (τ 9) (A ++ HLw bL bM bR n room S e cp rest) = .mp bM (mpS S)) (f8 : fd (τ 8) (A ++ HLw bL bM bR n room S e cp rest) = .blk bL 1 3 (gLn n room) 55) (hτ : ∀ i, τ (i + 3000) = i + 3000) (t2 : τ 2 = 2) (t9 : τ 9 = 9)
    (hr : wkH τ (A ++ HLw bL bM bR n room S e cp rest) (HLw bL bM bR n room S e cp rest') rest') : wkH τ (A ++ HLw bL bM bR n room S e cp rest) (HLw bL bM bR n room S e cp rest') (HLw bL bM bR n room S e cp rest') :=
  HLw.wk (g := gR S cp) f2 (fun i hi => by rw [hτ]; rfl) f9 f8 t2 t9 trivial trivial (fun i hi => live_lane hm' hi (lst_live (he i hi))) (fun i hi => ⟨by rw [hτ, low_app hA, hm.at hi], he i hi⟩) hr

theorem HLw.re {bL bM bR n room : Nat} {S : Std} {e : Nat → Ent} {cp : Nat → Nat} (A : Hp) {rest rest' : Hp} (τ : Nat → Nat) (hA : (A.map (·.1)).all (fun t => Nat.blt t 3000) = true) (hl : Low rest) (hl' : Low rest') (he : LsOK n S e cp) (hk : nodupB ((2 :: 9 :: 8 :: (gg rest').map (·.1)).map τ) = true) (hL : ((2 :: 9 :: 8 :: (gg rest').map (·.1)).map τ).all (fun t => Nat.blt t 3000) = true)
    (f2 : fd (τ 2) (A ++ HLw bL bM bR n room S e cp (gg rest)) = .blk bR n 1 (gR S cp) 58) (f9 : fd (τ 9) (A ++ HLw bL bM bR n room S e cp (gg rest)) = .mp bM (mpS S)) (f8 : fd (τ 8) (A ++ HLw bL bM bR n room S e cp (gg rest)) = .blk bL 1 3 (gLn n room) 55) (hτ : ∀ i, τ (i + 3000) = i + 3000) (t2 : τ 2 = 2) (t9 : τ 9 = 9)
    (hr : wkH τ (A ++ HLw bL bM bR n room S e cp (gg rest)) (HLw bL bM bR n room S e cp (gg rest')) rest') : nodupB (((HLw bL bM bR n room S e cp (gg rest')).map (·.1)).map τ) = true ∧ wkH τ (A ++ HLw bL bM bR n room S e cp (gg rest)) (HLw bL bM bR n room S e cp (gg rest')) (HLw bL bM bR n room S e cp (gg rest')) :=
  ⟨keysR hk hτ hL, HLw.wkA A hA (gg.mid hl) (gg.mid hl') he f2 f9 f8 hτ t2 t9 (wkH_app hr ⟨wk_gone, wk_gone, trivial⟩)⟩
theorem HNew.else {bL bM bR n room : Nat} {h : Hp} {t : Nat} (h1 : t < 3000) (h2 : t ≠ 2) (h3 : t ≠ 9) (h4 : t ≠ 8) : fd t (HNew bL bM bR n room ++ h) = fd t h := by
  refine fd_appR fun q => ?_
  rw [List.map_cons, List.map_cons, List.map_cons, List.nil_append, lanes_keys] at q
  simp only [List.mem_cons, List.mem_map, List.mem_range] at q
  rcases q with q | q | q | ⟨i, hi, q⟩
  · exact h2 q
  · exact h3 q
  · exact h4 q
  · omega
theorem pushC_zero {n room : Nat} {S : Std} {b t : Int} (h : pushC n room S b t = 0) : ∃ bn : Nat, b = bn ∧ bn < n ∧ 1 ≤ t ∧ hasT S t = false ∧ S.length ≠ room := by
  unfold pushC at h
  split at h
  · cases h
  · rename_i h1
    split at h
    · cases h
    · rename_i h2
      split at h
      · cases h
      · rename_i h3
        have h1 : isI n b = true ∧ ¬ t < 1 := ⟨by cases e : isI n b; exact absurd (.inl e) h1; rfl, fun q => h1 (.inr q)⟩
        have hb : 0 ≤ b ∧ b < n := by have := h1.1; unfold isI at this; simpa using this
        exact ⟨b.toNat, by omega, by omega, by omega, by simpa using h2, h3⟩
theorem pushS_of {n room : Nat} {S : Std} {bn : Nat} {t : Int} (h : pushC n room S bn t = 0) : pushS n room S bn t = S ++ [(bn, t)] := by
  unfold pushS; rw [if_pos h, Int.toNat_natCast]
theorem pushS_ne {n room : Nat} {S : Std} {b t : Int} (h : pushC n room S b t ≠ 0) : pushS n room S b t = S := by
  unfold pushS; rw [if_neg h]
theorem Fit.push {n room : Nat} {S : Std} (hF : Fit n room S) (b t : Int) : Fit n room (pushS n room S b t) := by
  by_cases h : pushC n room S b t = 0
  · obtain ⟨bn, rfl, h1, h2, h3, h4⟩ := pushC_zero h
    rw [pushS_of h]
    refine ⟨?_, hF.room, hF.blocks, fun p hp => ?_, fun p hp => ?_, ?_⟩
    · have := hF.len; rw [List.length_append]; simp only [List.length_cons, List.length_nil]; omega
    · rcases List.mem_append.1 hp with hp | hp
      · exact hF.blk p hp
      · simp only [List.mem_singleton] at hp; subst hp; exact h1
    · rcases List.mem_append.1 hp with hp | hp
      · exact hF.tick p hp
      · simp only [List.mem_singleton] at hp; subst hp; exact h2
    · rw [List.map_append, List.nodup_append]
      refine ⟨hF.nd, by simp, fun a ha b hb => ?_⟩
      simp only [List.map_cons, List.map_nil, List.mem_singleton] at hb
      subst hb
      rintro rfl
      rw [hasT_iff.2 ha] at h3; cases h3
  · rw [pushS_ne h]; exact hF
theorem Fit.pull {n room : Nat} {S : Std} (hF : Fit n room S) (t : Int) : Fit n room (pullS S t) := by
  have hs : (pullS S t).Sublist S := List.eraseP_sublist
  exact ⟨Nat.le_trans hs.length_le hF.len, hF.room, hF.blocks, fun p hp => hF.blk p (hs.subset hp), fun p hp => hF.tick p (hs.subset hp), hF.nd.sublist (hs.map _)⟩
/-- The block of what stands in a lane. -/
theorem blkT_at : ∀ {S : Std} {b : Nat} {t : Int}, (S.map (·.2)).Nodup → (b, t) ∈ S → hasT S t = true ∧ blkT S t = b
  | [], b, t, _, h => by cases h
  | p :: S, b, t, hn, h => by
    rw [List.map_cons, List.nodup_cons] at hn
    rcases List.mem_cons.1 h with rfl | h
    · exact ⟨by unfold hasT; simp, by unfold blkT; simp⟩
    · have hne : p.2 ≠ t := by
        rintro rfl
        exact hn.1 (List.mem_map_of_mem (f := (·.2)) h)
      obtain ⟨h1, h2⟩ := blkT_at hn.2 h
      refine ⟨by unfold hasT at h1 ⊢; simp [h1], ?_⟩
      rw [← h2]
      unfold blkT
      rw [List.find?_cons]
      have : (p.2 == t) = false := by simpa using hne
      rw [this]
def cntN (S : Std) (j : Nat) : Nat := (S.filter fun p => decide (p.1 < j)).length
theorem cntN_zero {S : Std} : cntN S 0 = 0 := by unfold cntN; simp
theorem cntN_succ {j : Nat} : ∀ {S : Std}, cntN S (j + 1) = cntN S j + (lane S j).length
  | [] => rfl
  | p :: S => by
    have ih := cntN_succ (j := j) (S := S)
    unfold cntN lane at ih ⊢
    rw [List.length_map] at ih ⊢
    rw [List.filter_cons, List.filter_cons, List.filter_cons]
    by_cases h1 : p.1 < j
    · have h2 : p.1 < j + 1 := by omega
      have h3 : (p.1 == j) = false := by simp; omega
      simp only [h1, h2, h3, decide_true, if_true, Bool.false_eq_true, if_false, List.length_cons]
      omega
    · by_cases h2 : p.1 = j
      · have h3 : (p.1 == j) = true := by simpa using h2
        have h4 : p.1 < j + 1 := by omega
        simp only [h1, h4, h3, decide_true, decide_false, if_true, Bool.false_eq_true, if_false, List.length_cons]
        omega
      · have h3 : (p.1 == j) = false := by simpa using h2
        have h4 : ¬ p.1 < j + 1 := by omega
        simp only [h1, h4, h3, decide_false, Bool.false_eq_true, if_false]
        omega
theorem cntN_le {S : Std} {j : Nat} : cntN S j ≤ S.length := List.length_filter_le _ _
theorem cntN_all {n room : Nat} {S : Std} (hF : Fit n room S) : cntN S n = S.length := by
  unfold cntN
  rw [List.filter_eq_self.2]
  intro p hp
  simpa using hF.blk p hp
def gT (z : Nat → Nat → Int) : Nat → Nat → V := fun i c => .int .i64 (z i c)
theorem gT_wk {b : Option Addr} {n : Nat} {z : Nat → Nat → Int} (τ : Nat → Nat) (h' : Hp) : wkE τ h' (.ro b n 3 (gT z)) (.ro b n 3 (gT z)) := ⟨rfl, rfl, rfl, fun i c hi hc => ⟨rfl, rfl⟩⟩
end Go.Proofs.Ytkncijljkfpdiaa.Sx
