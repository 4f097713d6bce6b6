import Derived.Test.YtkncijljkfpdiaaSxWC
/-
  The lanes: New (9).
-/
namespace Go.Proofs.Ytkncijljkfpdiaa.Sx
open Go Go.Proofs
set_option maxRecDepth 100000
set_option linter.unusedSimpArgs false
set_option linter.unusedVariables false

theorem tell_map {h1 h2 : Hp} {t t' : Nat} (e : (fd t' h2).rf = (fd t h1).rf) : tell h1 h2 (.map t) (.map t') := by
  rintro x ⟨b, e1, e2⟩
  exact ⟨b, e.trans e1, e2⟩
def mayB (n room : Int) : Bool := decide (1 ≤ n ∧ n ≤ 256 ∧ 1 ≤ room ∧ room ≤ 128)
abbrev HNew (bL bM bR n room : Nat) : Hp := HLw bL bM bR n room [] (fun _ => nilE) (fun _ => 0) []
def sNew : Spec := fun args h nx K => ∃ (a b : Int), args = [.int .i64 a, .int .i64 b] ∧ (mayB a b = false → K (.ret (.tup [.nilp, .int .i64 1])) h nx) ∧ (∀ n room : Nat, mayB a b = true → a = n → b = room → fd 2 h = .gone ∧ fd 9 h = .gone ∧ fd 8 h = .gone ∧ (∀ i, i < n → fd (i + 3000) h = .gone) ∧ ∀ bL bM bR : Nat, K (.ret (.tup [.ptr 8 0 0, .int .i64 0])) (HNew bL bM bR n room ++ h) nx)
theorem sNew_ok : SpecOK Try.prog 9 sNew := by
  refine specOK_gen5 (fn := Try.f9) rfl rfl rfl T_ok (SP := []) noSP _ ?_
  rintro args h nx K ⟨a, b, rfl, hk0, hk1⟩
  refine ⟨tau [], [], [.int .i64 a, .int .i64 b], rfl, fun p hp => absurd hp (by simp), ⟨⟨rfl, rfl⟩, ⟨rfl, rfl⟩, trivial⟩, by simp [Try.f9], fun o h1 => (mayB a b = false ∧ o = .ret (.tup [.nilp, .int .i64 1])) ∨ (mayB a b = true ∧ ∃ (bL bM bR n room : Nat) (gl gr : Nat → Nat → V), a = n ∧ b = room ∧ o = .ret (.tup [.ptr 62 0 0, .int .i64 0]) ∧ fd 62 h1 = .blk bL 1 3 gl 55 ∧ gl 0 0 = .slice 60 0 n n ∧ gl 0 1 = .int .i64 room ∧ gl 0 2 = .map 61 ∧ fd 61 h1 = .mp bM [] ∧ fd 60 h1 = .blk bR n 1 gr 58 ∧ ∀ i, gr i 0 = .nils), ?_, fun c hc => ?_⟩
  · rintro o h1 (⟨hm, rfl⟩ | ⟨hm, bL, bM, bR, n, room, gl', gr, rfl, rfl, rfl, e62, g0, g1', g2', e61, e60, hr⟩)
    · exact ⟨tau [], [], .ret (.tup [.nilp, .int .i64 1]), nx, ⟨fun t ht => (by cases ht), fun t b e => (by cases e), fun t t' ht => (by cases ht), fun e he => let ⟨x, ex, rx⟩ := he; ⟨x, ex, flat_rel (.tup [.nilp, .int .i64 1]) x ⟨trivial, trivial, trivial⟩ rx⟩⟩, hk0 hm⟩
    obtain ⟨f2, f9, f8, fl, hk⟩ := hk1 n room hm rfl rfl
    have m0 : Mid [] := fun t ht => by cases ht
    have hnn : ∀ t' b', (fd t' ([] : Hp)).at = some b' → False := fun t' b' e => by cases e
    have key : ∀ t, memB t ((HNew bL bM bR n room).map (·.1)) = true → t = 2 ∨ t = 9 ∨ t = 8 ∨ ∃ i, i < n ∧ t = i + 3000 := fun t ht => by
      have := memB_iff.1 ht
      rw [List.map_cons, List.map_cons, List.map_cons, List.nil_append, lanes_keys] at this
      simp only [List.mem_cons, List.mem_map, List.mem_range] at this
      rcases this with h | h | h | ⟨i, hi, rfl⟩
      · exact .inl h
      · exact .inr (.inl h)
      · exact .inr (.inr (.inl h))
      · exact .inr (.inr (.inr ⟨i, hi, rfl⟩))
    have hG : ∀ t, fd t (HNew bL bM bR n room) ≠ .gone → fd t (HNew bL bM bR n room ++ h) = fd t (HNew bL bM bR n room) := fun t ht => by
      rcases fd_app (HNew bL bM bR n room) h t with ⟨_, q⟩ | ⟨_, _, z⟩
      · exact q
      · exact absurd z ht
    have hlane : ∀ i, i < n → fd (i + 3000) (HNew bL bM bR n room) = nilE := fun i hi => m0.at hi
    refine ⟨tau [(2, 60), (9, 61), (8, 62)], HNew bL bM bR n room, _, nx, ⟨fun t ht => ?_, fun t b e => (hnn _ _ e).elim, fun t t' ht ht' hne => ?_, ?_⟩, hk bL bM bR⟩
    · rcases key t ht with rfl | rfl | rfl | ⟨i, hi, rfl⟩
      · refine .inr (.inr (.inl ⟨bR, n, 1, gr, _, 58, f2, e60, rfl, fun t' b' e => (hnn _ _ e).elim, fun i k hi hk => ?_⟩))
        obtain rfl : k = 0 := by omega
        rw [hr]
        exact tell_nil (n := 0) (sz := 1) (g := gl []) (by rw [hG _ (by rw [hlane i hi]; exact fun q => by cases q)]; exact hlane i hi)
      · exact .inr (.inr (.inr (.inr (.inr ⟨bM, [], f9, e61, rfl, fun t' b' e => (hnn _ _ e).elim⟩))))
      · refine .inr (.inr (.inl ⟨bL, 1, 3, gl', _, 55, f8, e62, rfl, fun t' b' e => (hnn _ _ e).elim, fun i k hi hk => ?_⟩))
        obtain rfl : i = 0 := by omega
        match k, hk with
        | 0, _ => rw [g0]; exact tell_slice (by rw [e60]; rfl)
        | 1, _ => rw [g1']; exact tell_flat trivial
        | 2, _ => rw [g2']; exact tell_map (by rw [e61]; rfl)
      · exact .inl ⟨fl i hi, .inr ⟨1, gl [], hlane i hi⟩⟩
    · have hf : ∀ i, tau [(2, 60), (9, 61), (8, 62)] (i + 3000) = i + 3000 := fun i => rfl
      rcases key t ht with rfl | rfl | rfl | ⟨i, hi, rfl⟩ <;> rcases key t' ht' with rfl | rfl | rfl | ⟨j, hj, rfl⟩ <;> first | exact absurd rfl hne | (rw [hf, hf]; exact hne) | (rw [hf]; show (_ : Nat) ≠ _; simp only [tau]; omega) | decide | (show (60 : Nat) ≠ _; rw [hf]; omega) | (show (61 : Nat) ≠ _; rw [hf]; omega) | (show (62 : Nat) ≠ _; rw [hf]; omega) | (show _ ≠ (60 : Nat); rw [hf]; omega) | (show _ ≠ (61 : Nat); rw [hf]; omega) | (show _ ≠ (62 : Nat); rw [hf]; omega)
    · rintro e ⟨x, ex, xs, rfl, y, ys, rfl, ry, rz⟩
      exact ⟨_, ex, _, rfl, _, _, rfl, tell_ptr (h1 := h1) (h2 := HNew bL bM bR n room ++ h) (by rw [e62]; rfl) _ ry, flatL_rel [.int .i64 0] _ ⟨trivial, trivial⟩ rz⟩
  · have hE := mkE' (fn := Try.f9) (R := fun o h1 _ => (mayB a b = false ∧ o = .ret (.tup [.nilp, .int .i64 1])) ∨ (mayB a b = true ∧ ∃ (bL bM bR n room : Nat) (gl gr : Nat → Nat → V), a = n ∧ b = room ∧ o = .ret (.tup [.ptr 62 0 0, .int .i64 0]) ∧ fd 62 h1 = .blk bL 1 3 gl 55 ∧ gl 0 0 = .slice 60 0 n n ∧ gl 0 1 = .int .i64 room ∧ gl 0 2 = .map 61 ∧ fd 61 h1 = .mp bM [] ∧ fd 60 h1 = .blk bR n 1 gr 58 ∧ ∀ i, gr i 0 = .nils)) hc noSP
    refine vc_sound hE 100 _ _ _ 60 ?_
    (refine (?_ : br _ _ _); refine br_dec (fun q => ?_) (fun q => ?_))
    · have q : a < 1 := q
      exact .inl ⟨by unfold mayB; simp only [decide_eq_false_iff_not]; omega, rfl⟩
    have q1 : ¬ a < 1 := q
    (refine (?_ : br _ _ _); refine br_dec (fun q => ?_) (fun q => ?_))
    · have q : a > 256 := q
      exact .inl ⟨by unfold mayB; simp only [decide_eq_false_iff_not]; omega, rfl⟩
    have q2 : ¬ a > 256 := q
    (refine (?_ : br _ _ _); refine br_dec (fun q => ?_) (fun q => ?_))
    · have q : b < 1 := q
      exact .inl ⟨by unfold mayB; simp only [decide_eq_false_iff_not]; omega, rfl⟩
    have q3 : ¬ b < 1 := q
    (refine (?_ : br _ _ _); refine br_dec (fun q => ?_) (fun q => ?_))
    · have q : b > 128 := q
      exact .inl ⟨by unfold mayB; simp only [decide_eq_false_iff_not]; omega, rfl⟩
    have q4 : ¬ b > 128 := q
    obtain ⟨n, rfl⟩ : ∃ n : Nat, a = (n : Int) := ⟨a.toNat, by omega⟩
    obtain ⟨room, rfl⟩ : ∃ n : Nat, b = (n : Int) := ⟨b.toNat, by omega⟩
    refine ⟨⟨by omega, by omega, by omega⟩, fun bR => ?_⟩
    intro bM
    intro bL
    exact Or.inr ⟨by unfold mayB; simp only [decide_eq_true_eq]; omega, bL, bM, bR, n, room, _, _, rfl, rfl, rfl, rfl, rfl, rfl, rfl, rfl, rfl, fun i => rfl⟩
end Go.Proofs.Ytkncijljkfpdiaa.Sx
