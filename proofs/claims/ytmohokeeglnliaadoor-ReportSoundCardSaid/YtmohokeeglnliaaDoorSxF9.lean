import Derived.Test.YtmohokeeglnliaaDoorSxF8
/-
  Plain laws of floats: a part by a whole that is not less is not above 1.
-/
namespace Go.Proofs.YtmohokeeglnliaaDoor.Sx
open Go Go.Proofs
set_option linter.unusedVariables false

theorem cut_mono {a b d : Nat} (h : a ≤ b) (ha : d ≤ a.log2 + 2) (hb : d ≤ b.log2 + 2) : Ieee.Toward.even.cut false a d ≤ Ieee.Toward.even.cut false b d := by
  rw [cut_even a d ha, cut_even b d hb]
  have hp : 0 < 2 ^ d := Nat.two_pow_pos d
  generalize 2 ^ d = g at *
  have g3 : ∀ b : Bool, b.toNat ≤ 1 := fun b => by cases b <;> decide
  have ta := g3 (decide (g < 2 * (a % g)) || (g == 2 * (a % g) && a / g % 2 == 1))
  have hle : a / g ≤ b / g := Nat.div_le_div_right h
  rcases Nat.lt_or_ge (a / g) (b / g) with hl | hl
  · omega
  · have he : a / g = b / g := by omega
    rw [he]
    have h1 := Nat.div_add_mod a g
    have h2 := Nat.div_add_mod b g
    rw [he] at h1
    have hm : a % g ≤ b % g := by omega
    generalize b / g = Q at *
    generalize a % g = r at *
    generalize b % g = s at *
    by_cases k1 : g < 2 * s
    · have : (decide (g < 2 * s) || (g == 2 * s && Q % 2 == 1)) = true := by rw [decide_eq_true k1]; rfl
      rw [this]
      have := g3 (decide (g < 2 * r) || (g == 2 * r && Q % 2 == 1))
      show Q + _ ≤ Q + 1
      omega
    · have k2 : ¬ g < 2 * r := by omega
      rw [decide_eq_false k1, decide_eq_false k2]
      simp only [Bool.false_or]
      by_cases k3 : g = 2 * r
      · have k4 : r = s := by omega
        rw [k4]
        exact Nat.le_refl _
      · have : (g == 2 * r) = false := by simpa using k3
        rw [this]
        simp

theorem log2_mono {a b : Nat} (ha : a ≠ 0) (h : a ≤ b) : a.log2 ≤ b.log2 := by
  rw [Nat.le_log2 (by omega)]
  exact Nat.le_trans (Nat.log2_self_le ha) h
theorem kept_mono {a b : Nat} (ha : a ≠ 0) (h : a ≤ b) (hl : a.log2 = b.log2) : kept a ≤ kept b := by
  unfold kept
  rw [hl]
  by_cases h5 : b.log2 ≤ 52
  · rw [show b.log2 - 52 = 0 by omega]
    refine cut_mono ?_ (by omega) (by omega)
    rw [Nat.shiftLeft_eq, Nat.shiftLeft_eq]
    exact Nat.mul_le_mul_right _ h
  · rw [show 52 - b.log2 = 0 by omega, Nat.shiftLeft_zero, Nat.shiftLeft_zero]
    exact cut_mono h (by omega) (by omega)
theorem near_mono {a b : Nat} (ha : a ≠ 0) (h : a ≤ b) (h64 : b.log2 ≤ 63) : near a ≤ near b := by
  have hl := log2_mono ha h
  obtain ⟨e1, k1, k2⟩ := near_kept ha (by omega)
  obtain ⟨e2, k3, k4⟩ := near_kept (a := b) (by omega) h64
  rw [e1, e2]
  rcases Nat.lt_or_ge a.log2 b.log2 with h5 | h5
  · omega
  · have h6 : a.log2 = b.log2 := by omega
    have := kept_mono ha h h6
    rw [h6]
    omega

theorem log2_52 {m : Nat} (h : 4503599627370496 ≤ m) (h2 : m < 9007199254740992) : m.log2 = 52 := (Nat.log2_eq_iff (by omega)).2 ⟨h, h2⟩
theorem pow_part {D Q E : Nat} (h : D + Q = E) : 2 ^ D * 2 ^ Q = 2 ^ E := by rw [← Nat.pow_add, h]
theorem one_rung {l : Nat} (h : l = 1022) : rungV 4607182418800017408 = 4503599627370496 * 2 ^ l := by
  have := rungV_at (l := l) (K := 4503599627370496) (by omega) (.inr (by omega))
  rw [show l * 4503599627370496 + 4503599627370496 = 4607182418800017408 by omega] at this
  exact this
theorem pow_three (E : Nat) : 2 ^ (E + 3) = 2 ^ E * 8 := Nat.pow_add 2 E 3

/-- A part by a whole that is not less: a float from 0 to 1. -/
theorem rate_one {a b : Nat} (ha : a ≠ 0) (h : a ≤ b) (hb : b < 18446744073709551616) : ∃ r : Nat, floatBits .quo .f64 (near a) (near b) = some r ∧ r ≤ 4607182418800017408 := by
  have hl : b.log2 ≤ 63 := by
    have := (Nat.log2_lt (show b ≠ 0 by omega) (k := 64)).2 (by simpa using hb)
    omega
  have hla := log2_mono ha h
  have hm := near_mono ha h hl
  obtain ⟨e1, k1, k2⟩ := near_kept ha (by omega)
  obtain ⟨e2, k3, k4⟩ := near_kept (a := b) (by omega) hl
  have rA := read_norm (r := near a) (by omega) (by omega)
  have rB := read_norm (r := near b) (by omega) (by omega)
  have A1 : 1023 ≤ near a / 4503599627370496 := by omega
  have A2 : near a / 4503599627370496 ≤ near b / 4503599627370496 := Nat.div_le_div_right hm
  have B2 : near b / 4503599627370496 ≤ 1087 := by omega
  have hr : rungV (near a) ≤ rungV (near b) := by
    rcases Nat.lt_or_ge (near a) (near b) with q | q
    · exact Nat.le_of_lt (rungV_lt q)
    · rw [show near a = near b by omega]; exact Nat.le_refl _
  unfold rungV at hr
  rw [if_neg (by omega), if_neg (by omega)] at hr
  rw [div_eq rA rB]
  have mA1 : near a % 4503599627370496 < 4503599627370496 := Nat.mod_lt _ (by omega)
  have mB1 : near b % 4503599627370496 < 4503599627370496 := Nat.mod_lt _ (by omega)
  generalize near a % 4503599627370496 = xa at *
  generalize near b % 4503599627370496 = xb at *
  obtain ⟨KA, hKA⟩ : ∃ K, K = near a / 4503599627370496 - 1 := ⟨_, rfl⟩
  obtain ⟨KB, hKB⟩ : ∃ K, K = near b / 4503599627370496 - 1 := ⟨_, rfl⟩
  rw [← hKA, ← hKB] at hr ⊢
  obtain ⟨D, hD⟩ : ∃ D, KB = KA + D := ⟨KB - KA, by omega⟩
  have hD64 : D ≤ 64 := by omega
  rw [quo_num, if_neg (by omega), log2_52 (m := 4503599627370496 + xa) (by omega) (by omega), log2_52 (m := 4503599627370496 + xb) (by omega) (by omega)]
  rw [show 54 + 52 - 52 = 54 from rfl, Nat.shiftLeft_eq]
  have hmD : 4503599627370496 + xa ≤ (4503599627370496 + xb) * 2 ^ D := by
    rw [hD, Nat.pow_add, Nat.mul_comm (2 ^ KA), ← Nat.mul_assoc] at hr
    exact Nat.le_of_mul_le_mul_right hr (Nat.two_pow_pos _)
  obtain ⟨mA, hmA⟩ : ∃ m, m = 4503599627370496 + xa := ⟨_, rfl⟩
  obtain ⟨mB, hmB⟩ : ∃ m, m = 4503599627370496 + xb := ⟨_, rfl⟩
  rw [← hmA, ← hmB] at hmD ⊢
  have hX : mA * 2 ^ 54 ≤ mB * (2 ^ D * 2 ^ 54) := by rw [← Nat.mul_assoc]; exact Nat.mul_le_mul_right _ hmD
  have hX0 : mB ≤ mA * 2 ^ 54 := by
    have : (2 : Nat) ^ 54 = 18014398509481984 := by decide +kernel
    rw [this]; omega
  obtain ⟨G, hG⟩ : ∃ G, G = 2 ^ D * 2 ^ 54 := ⟨_, rfl⟩
  obtain ⟨X, hXe⟩ : ∃ X, X = mA * 2 ^ 54 := ⟨_, rfl⟩
  rw [← hG] at hX
  rw [← hXe] at hX hX0 ⊢
  have hB0 : 0 < mB := by omega
  have hdm := Nat.div_add_mod X mB
  have hq1 : 1 ≤ X / mB := (Nat.le_div_iff_mul_le hB0).2 (by omega)
  have hq2 : X / mB ≤ G := by
    refine Nat.le_of_mul_le_mul_left (c := mB) ?_ hB0
    omega
  have ht : (X % mB != 0).toNat ≤ 1 := by cases (X % mB != 0) <;> decide
  have hq : 2 * (X / mB) + (X % mB != 0).toNat ≤ 2 * G := by
    rcases Nat.lt_or_ge (X / mB) G with q | q
    · omega
    · have e : X / mB = G := by omega
      rw [e] at hdm
      have : X % mB = 0 := by omega
      rw [e, this]
      simp
  obtain ⟨q, hqq⟩ : ∃ q, q = 2 * (X / mB) + (X % mB != 0).toNat := ⟨_, rfl⟩
  rw [← hqq] at hq ⊢
  have hq0 : q ≠ 0 := by omega
  have he : ((-1074 + (KA : Int)) - (-1074 + (KB : Int)) - ((54 : Nat) : Int) - 1) = -1074 + ((1019 - D : Nat) : Int) := by omega
  rw [he]
  obtain ⟨r, n1, n2, n3, n4⟩ := near_side false (m := q) (q := 1019 - D) hq0
  refine ⟨r, ?_, ?_⟩
  · show some (Ieee.double.nearest false q _) = _
    rw [n1]
    rfl
  · refine n3 _ ?_
    obtain ⟨E, hE⟩ : ∃ E : Nat, E = 1019 := ⟨_, rfl⟩
    rw [one_rung (l := E + 3) (by omega), pow_three]
    have e3 := pow_part (D := D) (Q := 1019 - D) (E := E) (by omega)
    have e54 : (2 : Nat) ^ 54 = 18014398509481984 := by decide +kernel
    refine Nat.le_trans (Nat.mul_le_mul_right _ hq) ?_
    rw [hG, ← e3, e54]
    generalize 2 ^ D = u
    generalize 2 ^ (1019 - D) = v
    have : 2 * (u * 18014398509481984) * v = 36028797018963968 * (u * v) := by
      rw [Nat.mul_comm u, ← Nat.mul_assoc, Nat.mul_assoc]
    rw [this]
    omega
end Go.Proofs.YtmohokeeglnliaaDoor.Sx
