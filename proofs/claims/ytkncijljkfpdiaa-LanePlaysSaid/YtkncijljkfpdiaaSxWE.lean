import Derived.Test.YtkncijljkfpdiaaSxWD
/-
  The lanes behind a step, told anew.
-/
namespace Go.Proofs.Ytkncijljkfpdiaa.Sx
open Go Go.Proofs
set_option maxRecDepth 100000
set_option linter.unusedSimpArgs false
set_option linter.unusedVariables false

theorem Ren1.low {τ : Nat → Nat} (hτ : Ren1 τ) {t : Nat} (h : t < 2901) : τ t = t := by
  obtain ⟨b, q, _, h2⟩ := hτ
  rw [h2, if_neg (by omega), if_neg (by omega)]
theorem Ren1.one {τ : Nat → Nat} (hτ : Ren1 τ) {t u : Nat} (h : τ t = τ u) : t = u := by
  obtain ⟨b, q, _, h2⟩ := hτ
  rw [h2, h2] at h
  split at h <;> split at h <;> (try split at h) <;> (try split at h) <;> omega
/-- What stands between, behind a step that leaves it as it is. -/
def wkJ (τ : Nat → Nat) (h h' : Hp) : Hp → Prop
  | [] => True
  | (t, e) :: r => wkE τ h' (fd t h) e ∧ wkJ τ h h' r
theorem wkJ_H {τ : Nat → Nat} {h h' h2 : Hp} : ∀ {G : Hp}, (∀ t ∈ G.map (·.1), fd (τ t) h2 = fd t h) → wkJ τ h h' G → wkH τ h2 h' G
  | [], _, _ => trivial
  | (t, e) :: r, H, ⟨h1, h3⟩ => ⟨by rw [H t (by simp)]; exact h1, wkJ_H (fun u hu => H u (by simp only [List.map_cons, List.mem_cons]; exact .inr hu)) h3⟩
def Low (A : Hp) : Prop := ((A.map (·.1)).all fun t => Nat.blt t 2900 && !(Nat.beq t 2) && !(Nat.beq t 9) && !(Nat.beq t 8)) = true
theorem Low.mem {A : Hp} (h : Low A) {t : Nat} (ht : t ∈ A.map (·.1)) : t < 2900 ∧ t ≠ 2 ∧ t ≠ 9 ∧ t ≠ 8 := by
  have := List.all_eq_true.1 h t ht
  simp only [Bool.and_eq_true, Bool.not_eq_true'] at this
  obtain ⟨⟨⟨h1, h2⟩, h3⟩, h4⟩ := this
  have h1 : t + 1 ≤ 2900 := Nat.le_of_ble_eq_true h1
  exact ⟨h1, (by rintro rfl; cases h2), (by rintro rfl; cases h3), (by rintro rfl; cases h4)⟩
theorem Low.low {A : Hp} (h : Low A) : (A.map (·.1)).all (fun t => Nat.blt t 3000) = true := by
  refine List.all_eq_true.2 fun t ht => ?_
  have := h.mem ht
  exact Nat.ble_eq_true_of_le (by omega)
/-- What stands between, and the tags that a push takes. -/
abbrev gg (rest : Hp) : Hp := rest ++ [(2900, .gone), (2901, .gone)]
theorem gg.mid {rest : Hp} (h : Low rest) : Mid (gg rest) := by
  intro t ht
  rw [List.map_append, List.mem_append] at ht
  rcases ht with ht | ht
  · have := h.mem ht; exact ⟨by omega, this.2⟩
  · simp only [List.map_cons, List.map_nil, List.mem_cons, List.not_mem_nil, or_false] at ht
    rcases ht with rfl | rfl <;> decide
theorem gg.gone {rest : Hp} (h : Low rest) {n : Nat} {e : Nat → Ent} {a b c : Ent} : fd 2900 ((2, a) :: (9, b) :: (8, c) :: (gg rest ++ lanes 3000 n e)) = .gone ∧ fd 2901 ((2, a) :: (9, b) :: (8, c) :: (gg rest ++ lanes 3000 n e)) = .gone := by
  have h1 : ∀ t, 2900 ≤ t → t ∉ rest.map (·.1) := fun t ht q => by have := h.mem q; omega
  constructor
  · rw [fd_cons, if_neg (by decide), fd_cons, if_neg (by decide), fd_cons, if_neg (by decide), List.append_assoc, fd_appR (h1 _ (by decide))]; rfl
  · rw [fd_cons, if_neg (by decide), fd_cons, if_neg (by decide), fd_cons, if_neg (by decide), List.append_assoc, fd_appR (h1 _ (by decide))]; rfl
/-- The lanes behind a step, told anew. -/
theorem LnQ.back {h h' : Hp} {bL bM bR n room : Nat} {g : Nat → Nat → V} {S : Std} {e : Nat → Ent} {cp : Nat → Nat} {τ : Nat → Nat} {rest : Hp} (H : LnQ h' bL bM bR n room g S e cp τ) (hτ : Ren1 τ) (hE : ∀ t, t < 2900 → t ≠ 2 → t ≠ 9 → t ≠ 8 → fd t h' = fd t h) (hl : Low rest) (hk : nodupB (rest.map (·.1)) = true)
    (hr : wkJ τ h (HLw bL bM bR n room S e cp (gg rest)) rest) : nodupB (((HLw bL bM bR n room S e cp (gg rest)).map (·.1)).map τ) = true ∧ wkH τ h' (HLw bL bM bR n room S e cp (gg rest)) (HLw bL bM bR n room S e cp (gg rest)) := by
  have hm := gg.mid hl
  have low : ∀ t ∈ (2 :: 9 :: 8 :: (gg rest).map (·.1)), t < 3000 := fun t ht => by
    simp only [List.mem_cons] at ht
    rcases ht with rfl | rfl | rfl | ht
    · omega
    · omega
    · omega
    · exact (hm t ht).1
  have base : (2 :: 9 :: 8 :: (gg rest).map (·.1)).Nodup := by
    have hn := nodupB_iff hk
    have hg : ((gg rest).map (·.1)).Nodup := by
      rw [List.map_append, List.nodup_append]
      refine ⟨hn, by decide, fun a ha b hb => ?_⟩
      have := hl.mem ha
      simp only [List.map_cons, List.map_nil, List.mem_cons, List.not_mem_nil, or_false] at hb
      rcases hb with rfl | rfl <;> omega
    refine List.nodup_cons.2 ⟨?_, List.nodup_cons.2 ⟨?_, List.nodup_cons.2 ⟨?_, hg⟩⟩⟩
    · simp only [List.mem_cons, not_or]
      exact ⟨by decide, by decide, fun q => (hm _ q).2.1 rfl⟩
    · simp only [List.mem_cons, not_or]
      exact ⟨by decide, fun q => (hm _ q).2.2.1 rfl⟩
    · exact fun q => (hm _ q).2.2.2 rfl
  refine ⟨keysH ?_ (fun i j _ _ q => hτ.inj.1 i j q) fun t ht i hi q => ?_, ?_⟩
  · refine nodupB_of ?_
    unfold List.Nodup
    rw [List.pairwise_map]
    exact base.imp fun h q => h (hτ.one q)
  · have := low t ht
    have := hτ.one q
    omega
  · refine HLw.wk (g := g) (by rw [hτ.low (by decide)]; exact H.row) H.cell (by rw [hτ.low (by decide)]; exact H.map) (by rw [hτ.low (by decide)]; exact H.str) (hτ.low (by decide)) (hτ.low (by decide)) trivial trivial (fun i hi => live_lane hm hi (lst_live (H.is i hi))) (fun i hi => ⟨H.lst i hi, H.is i hi⟩) ?_
    refine wkH_app (wkJ_H (fun t ht => ?_) hr) ⟨wk_gone, wk_gone, trivial⟩
    have := hl.mem ht
    rw [hτ.low (by omega)]
    exact hE t this.1 this.2.1 this.2.2.1 this.2.2.2
theorem LnQ.cons {h : Hp} {bL bM bR n room : Nat} {g : Nat → Nat → V} {S : Std} {e : Nat → Ent} {cp : Nat → Nat} (H : LnQ h bL bM bR n room g S e cp (tau [])) {t : Nat} {x : Ent} (ht : t < 3000 ∧ t ≠ 2 ∧ t ≠ 9 ∧ t ≠ 8) : LnQ ((t, x) :: h) bL bM bR n room g S e cp (tau []) :=
  ⟨by rw [fd_cons, if_neg (by omega)]; exact H.str, by rw [fd_cons, if_neg (by omega)]; exact H.map, by rw [fd_cons, if_neg (by omega)]; exact H.row, H.cell, fun i hi => by rw [fd_cons, if_neg (by show i + 3000 ≠ t; omega)]; exact H.lst i hi, H.is⟩
theorem LnQ.fdeq {h h' : Hp} {bL bM bR n room : Nat} {g : Nat → Nat → V} {S : Std} {e : Nat → Ent} {cp : Nat → Nat} {τ : Nat → Nat} (H : LnQ h bL bM bR n room g S e cp τ) (he : ∀ u, fd u h' = fd u h) : LnQ h' bL bM bR n room g S e cp τ :=
  ⟨(he _).trans H.str, (he _).trans H.map, (he _).trans H.row, H.cell, fun i hi => (he _).trans (H.lst i hi), H.is⟩
theorem HNew.q {bL bM bR n room : Nat} {h : Hp} : LnQ (HNew bL bM bR n room ++ h) bL bM bR n room (gR [] fun _ => 0) [] (fun _ => nilE) (fun _ => 0) (tau []) := by
  have m0 : Mid [] := fun t ht => by cases ht
  refine ⟨rfl, rfl, rfl, fun i hi => rfl, fun i hi => ?_, fun i hi => nilL⟩
  rcases fd_app (HNew bL bM bR n room) h (i + 3000) with ⟨_, q⟩ | ⟨_, _, z⟩
  · exact q.trans (m0.at hi)
  · rw [show fd (i + 3000) (HNew bL bM bR n room) = nilE from m0.at hi] at z; cases z
theorem low_gone {A : Hp} (hA : (A.map (·.1)).all (fun t => Nat.blt t 3000) = true) {i : Nat} : fd (i + 3000) A = .gone := by
  have := low_app (i := i) hA (h := [])
  rw [List.append_nil] at this
  exact this
end Go.Proofs.Ytkncijljkfpdiaa.Sx
