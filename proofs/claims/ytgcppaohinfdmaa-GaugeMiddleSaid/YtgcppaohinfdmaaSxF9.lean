import Derived.Test.YtgcppaohinfdmaaSxF8
/-
  Plain laws of floats: halves are exact but for tiny ones; the mean lies between.
-/
namespace Go.Proofs.Ytgcppaohinfdmaa.Sx
open Go Go.Proofs

theorem word_parts (s : Bool) {r : Nat} (h : r ≤ 9218868437227405312) : magN (Ieee.double.word s r) = r ∧ negB (Ieee.double.word s r) = s := by
  unfold Ieee.Format.word magN negB
  rw [dw]
  cases s
  · simp only [Bool.false_eq_true, if_false]
    refine ⟨Nat.mod_eq_of_lt (by omega), ?_⟩
    rw [Nat.div_eq_of_lt (by omega)]; rfl
  · simp only [if_true]
    refine ⟨by omega, ?_⟩
    have : (9223372036854775808 + r) / 9223372036854775808 = 1 := by omega
    rw [this]; rfl
theorem sval_word (s : Bool) {r : Nat} (h : r ≤ 9218868437227405312) : sval (Ieee.double.word s r) = sg s (rungV r) := by
  obtain ⟨h1, h2⟩ := word_parts s h
  unfold sval
  rw [h1, h2]

/-- Rounded, a number is on the right side of every float. -/
theorem round_side (neg : Bool) (mag q : Nat) {w : Nat} (hw : isN w = false) : (sg neg (mag * 2 ^ q) ≤ sval w → sval (Ieee.double.nearest neg mag (-1074 + q)) ≤ sval w) ∧ (sval w ≤ sg neg (mag * 2 ^ q) → sval w ≤ sval (Ieee.double.nearest neg mag (-1074 + q))) := by
  rw [isN_F] at hw
  have hw : magN w ≤ 9218868437227405312 := hw
  by_cases hm : mag = 0
  · subst hm
    have e : Ieee.double.nearest neg 0 (-1074 + q) = Ieee.double.word neg 0 := by unfold Ieee.Format.nearest; rw [if_pos rfl]
    rw [e, sval_word neg (by omega), rungV_zero, Nat.zero_mul]
    exact ⟨id, id⟩
  · obtain ⟨r, e, hr, h1, h2⟩ := near_side neg (q := q) hm
    rw [e, sval_word neg hr]
    have hv : 0 < mag * 2 ^ q := Nat.mul_pos (by omega) (Nat.two_pow_pos _)
    have h1 := h1 (magN w)
    have h2 := h2 (magN w) hw
    have m1 : r ≤ magN w → rungV r ≤ rungV (magN w) := fun h => by
      rcases Nat.lt_or_ge r (magN w) with z | z
      · exact Nat.le_of_lt (rungV_lt z)
      · have : r = magN w := by omega
        rw [this]; exact Nat.le_refl _
    have m2 : magN w ≤ r → rungV (magN w) ≤ rungV r := fun h => by
      rcases Nat.lt_or_ge (magN w) r with z | z
      · exact Nat.le_of_lt (rungV_lt z)
      · have : r = magN w := by omega
        rw [this]; exact Nat.le_refl _
    unfold sval
    generalize mag * 2 ^ q = v at *
    generalize rungV (magN w) = B at *
    generalize rungV r = A at *
    rcases sg_cases neg v with ⟨c1, e1⟩ | ⟨c1, e1⟩ <;> rcases sg_cases neg A with ⟨c2, e2⟩ | ⟨c2, e2⟩ <;> rcases sg_cases (negB w) B with ⟨c3, e3⟩ | ⟨c3, e3⟩ <;> rw [e1, e2, e3]
    all_goals first | (rw [c1] at c2; cases c2; done) | skip
    · refine ⟨fun h => ?_, fun h => ?_⟩
      · have := m2 (h2 (by omega)); omega
      · have := m1 (h1 (by omega)); omega
    · refine ⟨fun h => by omega, fun h => by omega⟩
    · refine ⟨fun h => by omega, fun h => by omega⟩
    · refine ⟨fun h => ?_, fun h => ?_⟩
      · have := m1 (h1 (by omega)); omega
      · have := m2 (h2 (by omega)); omega

theorem quo_gen (d m n : Nat) (s : Bool) (i j : Int) (hn : n ≠ 0) : (Ieee.Datum.number s m i).quotient d (.number false n j) = some (.number s (2 * ((m <<< (d + n.log2 - m.log2)) / n) + ((m <<< (d + n.log2 - m.log2)) % n != 0).toNat) (i - j - ((d + n.log2 - m.log2 : Nat) : Int) - 1)) := by
  have : (Ieee.Datum.number s m i).quotient d (.number false n j) = if n = 0 then if m = 0 then none else some (.infinity (s ^^ false)) else some (.number (s ^^ false) (2 * ((m <<< (d + n.log2 - m.log2)) / n) + ((m <<< (d + n.log2 - m.log2)) % n != 0).toNat) (i - j - ((d + n.log2 - m.log2 : Nat) : Int) - 1)) := rfl
  rw [this, if_neg hn, Bool.xor_false]

theorem log2_of {m k : Nat} (h1 : 2 ^ k ≤ m) (h2 : m < 2 ^ (k + 1)) : m.log2 = k := (Nat.log2_eq_iff (by have := Nat.two_pow_pos k; omega)).2 ⟨h1, h2⟩

/-- Not tiny: nought, or an exponent above the least two. -/
def big (a : Nat) : Prop := magN a = 0 ∨ 9007199254740992 ≤ magN a

theorem rung_half {p m : Nat} (hp1 : 1 ≤ p) (hm1 : 4503599627370496 ≤ m) (hm2 : m < 9007199254740992) : 2 * rungV ((p - 1) * 4503599627370496 + m) = rungV (p * 4503599627370496 + m) := by
  have r1 := rungV_at (l := p - 1) (K := m) (by omega) (.inr hm1)
  have r2 := rungV_at (l := p) (K := m) (by omega) (.inr hm1)
  rw [r1, r2]
  have e6 : 2 ^ p = 2 * 2 ^ (p - 1) := by rw [← Nat.pow_succ']; congr 1; omega
  rw [e6, Nat.mul_left_comm]
theorem write_half (s : Bool) {p m : Nat} (hp1 : 1 ≤ p) (hm1 : 4503599627370496 ≤ m) (hm2 : m < 9007199254740992) (hlt : (p - 1) * 4503599627370496 + m ≤ 9218868437227405312) : Ieee.double.write (.number s (8 * m) (-1078 + (p : Int))) = Ieee.double.word s ((p - 1) * 4503599627370496 + m) := by
  have l3 : (8 * m).log2 = 55 := log2_of (by have : (2 : Nat) ^ 55 = 36028797018963968 := by decide
                                             omega) (by have : (2 : Nat) ^ (55 + 1) = 72057594037927936 := by decide
                                                        omega)
  show Ieee.double.nearest s (8 * m) (-1078 + (p : Int)) = _
  unfold Ieee.Format.nearest
  rw [if_neg (by omega), l3]
  have e1 : max ((-1078 + (p : Int)) + ((55 : Nat) : Int) - (Ieee.double.fractionBits : Nat)) Ieee.double.leastPlace = -1074 + ((p - 1 : Nat) : Int) := by
    rw [dl]
    show max ((-1078 + (p : Int)) + ((55 : Nat) : Int) - 52) _ = _
    omega
  simp only [e1]
  have e2 : ((-1078 + (p : Int)) - (-1074 + ((p - 1 : Nat) : Int))).toNat = 0 := by omega
  have e3 : ((-1074 + ((p - 1 : Nat) : Int)) - (-1078 + (p : Int))).toNat = 3 := by omega
  have e4 : ((-1074 + ((p - 1 : Nat) : Int)) - Ieee.double.leastPlace).toNat = p - 1 := by rw [dl]; omega
  rw [e2, e3, e4, db, di, Nat.shiftLeft_zero]
  have c1 : Ieee.Toward.even.cut s (8 * m) 3 = m := by
    show Ieee.Toward.even.cut false (8 * m) 3 = m
    rw [cut_even _ _ (by omega)]
    have d1 : 8 * m / 2 ^ 3 = m := by
      have : (2 : Nat) ^ 3 = 8 := by decide
      rw [this]; omega
    have d2 : 8 * m % 2 ^ 3 = 0 := by
      have : (2 : Nat) ^ 3 = 8 := by decide
      rw [this]; omega
    rw [d1, d2]
    simp
  rw [c1, Nat.min_eq_left hlt]
theorem half_word {a : Nat} (hn : isN a = false) (hb : big a) : ∃ r, half a = Ieee.double.word (negB a) r ∧ ((magN a = 9218868437227405312 ∧ r = 9218868437227405312) ∨ (magN a < 9218868437227405312 ∧ r < 9218868437227405312 ∧ 2 * rungV r = rungV (magN a))) := by
  have hs := half_some hn
  rw [isN_F] at hn
  have hn : magN a ≤ 9218868437227405312 := hn
  rcases Nat.lt_or_ge (magN a) 9218868437227405312 with q | q
  · rcases hb with h0 | hb
    · have e : Ieee.double.read a = .number (negB a) 0 (-1074) := by
        rw [read_eq]
        have h0' : a % 9223372036854775808 = 0 := h0
        rw [if_pos (by omega), h0']; rfl
      rw [div_eq e read_two, quo_gen _ _ _ _ _ _ (by decide)] at hs
      simp [Ieee.Format.write, Ieee.Format.nearest] at hs
      exact ⟨0, hs.symm, .inr ⟨q, by omega, by rw [h0, rungV_zero]⟩⟩
    · have e : Ieee.double.read a = .number (negB a) (4503599627370496 + magN a % 4503599627370496) (-1074 + (magN a / 4503599627370496 - 1 : Nat)) := by
        have hb' : 9007199254740992 ≤ a % 9223372036854775808 := hb
        have q' : a % 9223372036854775808 < 9218868437227405312 := q
        rw [read_eq, if_neg (by omega), if_pos q']; rfl
      generalize hm : 4503599627370496 + magN a % 4503599627370496 = m at *
      generalize hp : magN a / 4503599627370496 - 1 = p at *
      have hm1 : 4503599627370496 ≤ m := by omega
      have hm2 : m < 9007199254740992 := by omega
      have hp1 : 1 ≤ p := by omega
      have l1 : m.log2 = 52 := log2_of (by simpa using hm1) (by simpa using hm2)
      have l2 : (4503599627370496 : Nat).log2 = 52 := by decide
      have l3 : (8 * m).log2 = 55 := log2_of (by have : (2 : Nat) ^ 55 = 36028797018963968 := by decide
                                                 omega) (by have : (2 : Nat) ^ (55 + 1) = 72057594037927936 := by decide
                                                            omega)
      rw [div_eq e read_two, quo_gen _ _ _ _ _ _ (by decide), l1, l2] at hs
      have s1 : m <<< (54 + 52 - 52) = 4503599627370496 * (4 * m) := by
        rw [Nat.shiftLeft_eq]
        have : (2 : Nat) ^ (54 + 52 - 52) = 4503599627370496 * 4 := by decide
        rw [this]
        omega
      rw [s1, Nat.mul_div_cancel_left _ (by decide), Nat.mul_mod_right] at hs
      have s2 : 2 * (4 * m) + ((0 : Nat) != 0).toNat = 8 * m := by
        show 2 * (4 * m) + 0 = 8 * m
        omega
      have s3 : (-1074 + (p : Int)) - (-51) - ((54 + 52 - 52 : Nat) : Int) - 1 = -1078 + (p : Int) := by omega
      rw [s2, s3] at hs
      have hr := rung_half hp1 hm1 hm2
      have hs2 : some (Ieee.double.write (.number (negB a) (8 * m) (-1078 + (p : Int)))) = some (half a) := hs
      injection hs2 with hs2
      have hw := write_half (negB a) hp1 hm1 hm2 (by omega)
      have e5 : magN a = p * 4503599627370496 + m := by omega
      exact ⟨(p - 1) * 4503599627370496 + m, hs2.symm.trans hw, .inr ⟨q, by omega, by rw [e5]; exact hr⟩⟩
  · have q : magN a = 9218868437227405312 := Nat.le_antisymm hn q
    have e := read_inf q
    rw [div_eq e read_two] at hs
    have hs : some (Ieee.double.write (.infinity (negB a ^^ false))) = some (half a) := hs
    injection hs with hs
    refine ⟨9218868437227405312, ?_, .inl ⟨q, rfl⟩⟩
    rw [← hs, Bool.xor_false]
    show Ieee.double.word (negB a) Ieee.double.infRung = _
    rw [di]

theorem sum_fin {s t : Bool} {m n p q : Nat} : ∃ neg mag, (Ieee.Datum.number s m (-1074 + p)).sum (.number t n (-1074 + q)) = some (.number neg mag (-1074 + ((min p q : Nat) : Int))) ∧ sg neg (mag * 2 ^ (min p q)) = sg s (m * 2 ^ p) + sg t (n * 2 ^ q) := by
  unfold Ieee.Datum.sum
  simp only [signed_eq]
  have e0 : min (-1074 + (p : Int)) (-1074 + q) = -1074 + ((min p q : Nat) : Int) := by omega
  rw [e0]
  have e1 : ((-1074 + (p : Int)) - (-1074 + ((min p q : Nat) : Int))).toNat = p - min p q := by omega
  have e2 : ((-1074 + (q : Int)) - (-1074 + ((min p q : Nat) : Int))).toNat = q - min p q := by omega
  rw [e1, e2]
  have e3 : m * 2 ^ p = m * 2 ^ (p - min p q) * 2 ^ (min p q) := by rw [Nat.mul_assoc, ← Nat.pow_add]; congr 2; omega
  have e4 : n * 2 ^ q = n * 2 ^ (q - min p q) * 2 ^ (min p q) := by rw [Nat.mul_assoc, ← Nat.pow_add]; congr 2; omega
  refine ⟨_, _, rfl, ?_⟩
  rw [e3, e4, sg_mul s (m * 2 ^ (p - min p q)), sg_mul t (n * 2 ^ (q - min p q)), ← Int.add_mul, sg_mul]
  congr 1
  generalize sg s (m * 2 ^ (p - min p q)) + sg t (n * 2 ^ (q - min p q)) = T
  by_cases h : T = 0
  · subst h
    unfold sg
    cases (if (0 : Int) = 0 then s && t else decide ((0 : Int) < 0)) <;> rfl
  · rw [if_neg h]
    unfold sg
    by_cases h2 : T < 0
    · rw [decide_eq_true h2, if_pos rfl]; omega
    · rw [decide_eq_false h2, if_neg (by simp)]; omega

/-- Opposite infinities. -/
def opp (a b : Nat) : Prop := magN a = 9218868437227405312 ∧ magN b = 9218868437227405312 ∧ negB a ≠ negB b

theorem middle {a b : Nat} (ha : isN a = false) (hb : isN b = false) (ga : big a) (gb : big b) :
    (opp a b ∧ floatBits .add .f64 (half a) (half b) = none) ∨ (¬ opp a b ∧ ∃ r, floatBits .add .f64 (half a) (half b) = some r ∧ ((sval a ≤ sval r ∧ sval r ≤ sval b) ∨ (sval b ≤ sval r ∧ sval r ≤ sval a))) := by
  obtain ⟨x, hx, cx⟩ := half_word ha ga
  obtain ⟨y, hy, cy⟩ := half_word hb gb
  have ad : floatBits .add .f64 (half a) (half b) = ((Ieee.double.read (half a)).sum (Ieee.double.read (half b))).map Ieee.double.write := rfl
  have sinf : ∀ s : Bool, Ieee.double.write (.infinity s) = Ieee.double.word s 9218868437227405312 := fun s => by
    show Ieee.double.word s Ieee.double.infRung = _
    rw [di]
  have svi : ∀ w, magN w = 9218868437227405312 → sval (Ieee.double.word (negB w) 9218868437227405312) = sval w := fun w q => by
    rw [sval_word _ (Nat.le_refl _)]; unfold sval; rw [q]
  rcases cx with ⟨q1, rfl⟩ | ⟨q1, q2, q3⟩
  · have rx : Ieee.double.read (half a) = .infinity (negB a) := by
      rw [hx]
      obtain ⟨k1, k2⟩ := word_parts (negB a) (Nat.le_refl 9218868437227405312)
      rw [read_inf k1, k2]
    rcases cy with ⟨p1, rfl⟩ | ⟨p1, p2, p3⟩
    · have ry : Ieee.double.read (half b) = .infinity (negB b) := by
        rw [hy]
        obtain ⟨k1, k2⟩ := word_parts (negB b) (Nat.le_refl 9218868437227405312)
        rw [read_inf k1, k2]
      rw [ad, rx, ry]
      by_cases z : negB a = negB b
      · right
        refine ⟨fun h => h.2.2 z, Ieee.double.word (negB a) 9218868437227405312, ?_, ?_⟩
        · simp only [Ieee.Datum.sum, if_pos z, Option.map_some, sinf]
        · rw [svi a q1]
          rcases Int.le_total (sval a) (sval b) with w | w
          · exact .inl ⟨Int.le_refl _, w⟩
          · exact .inr ⟨w, Int.le_refl _⟩
      · left
        exact ⟨⟨q1, p1, z⟩, by simp only [Ieee.Datum.sum, if_neg z, Option.map_none]⟩
    · right
      have km : magN (half b) < 9218868437227405312 := by rw [hy, (word_parts _ (by omega)).1]; exact p2
      obtain ⟨n, q, e, _, _⟩ := read_fin km
      refine ⟨fun h => by have := h.2.1; omega, Ieee.double.word (negB a) 9218868437227405312, ?_, ?_⟩
      · rw [ad, rx, e]
        simp only [Ieee.Datum.sum, Option.map_some, sinf]
      · rw [svi a q1]
        rcases Int.le_total (sval a) (sval b) with w | w
        · exact .inl ⟨Int.le_refl _, w⟩
        · exact .inr ⟨w, Int.le_refl _⟩
  · right
    have km : magN (half a) < 9218868437227405312 := by rw [hx, (word_parts _ (by omega)).1]; exact q2
    obtain ⟨m, p, e, e2, _⟩ := read_fin km
    refine ⟨fun h => by have := h.1; omega, ?_⟩
    rcases cy with ⟨p1, rfl⟩ | ⟨p1, p2, p3⟩
    · have ry : Ieee.double.read (half b) = .infinity (negB b) := by
        rw [hy]
        obtain ⟨k1, k2⟩ := word_parts (negB b) (Nat.le_refl 9218868437227405312)
        rw [read_inf k1, k2]
      refine ⟨Ieee.double.word (negB b) 9218868437227405312, ?_, ?_⟩
      · rw [ad, ry, e]
        simp only [Ieee.Datum.sum, Option.map_some, sinf]
      · rw [svi b p1]
        rcases Int.le_total (sval a) (sval b) with w | w
        · exact .inl ⟨w, Int.le_refl _⟩
        · exact .inr ⟨Int.le_refl _, w⟩
    · have km2 : magN (half b) < 9218868437227405312 := by rw [hy, (word_parts _ (by omega)).1]; exact p2
      obtain ⟨n, q, f, f2, _⟩ := read_fin km2
      obtain ⟨neg, mag, g1, g2⟩ := sum_fin (s := negB (half a)) (t := negB (half b)) (m := m) (n := n) (p := p) (q := q)
      refine ⟨Ieee.double.nearest neg mag (-1074 + ((min p q : Nat) : Int)), ?_, ?_⟩
      · rw [ad, e, f, g1]; rfl
      · obtain ⟨a1, a2⟩ := round_side neg mag (min p q) ha
        obtain ⟨b1, b2⟩ := round_side neg mag (min p q) hb
        rw [g2] at a1 a2 b1 b2
        rw [← e2, ← f2] at a1 a2 b1 b2
        have u1 : 2 * sg (negB (half a)) (rungV (magN (half a))) = sval a := by
          rw [hx, (word_parts _ (by omega : x ≤ 9218868437227405312)).1, (word_parts _ (by omega : x ≤ 9218868437227405312)).2]
          unfold sval
          rcases sg_cases (negB a) (rungV x) with ⟨_, k⟩ | ⟨_, k⟩ <;> rcases sg_cases (negB a) (rungV (magN a)) with ⟨_, k'⟩ | ⟨_, k'⟩ <;> rw [k, k'] <;> simp_all <;> omega
        have u2 : 2 * sg (negB (half b)) (rungV (magN (half b))) = sval b := by
          rw [hy, (word_parts _ (by omega : y ≤ 9218868437227405312)).1, (word_parts _ (by omega : y ≤ 9218868437227405312)).2]
          unfold sval
          rcases sg_cases (negB b) (rungV y) with ⟨_, k⟩ | ⟨_, k⟩ <;> rcases sg_cases (negB b) (rungV (magN b)) with ⟨_, k'⟩ | ⟨_, k'⟩ <;> rw [k, k'] <;> simp_all <;> omega
        generalize sg (negB (half a)) (rungV (magN (half a))) = A at *
        generalize sg (negB (half b)) (rungV (magN (half b))) = B at *
        rcases Int.le_total (sval a) (sval b) with w | w
        · exact .inl ⟨a2 (by omega), b1 (by omega)⟩
        · exact .inr ⟨b2 (by omega), a1 (by omega)⟩
end Go.Proofs.Ytgcppaohinfdmaa.Sx
