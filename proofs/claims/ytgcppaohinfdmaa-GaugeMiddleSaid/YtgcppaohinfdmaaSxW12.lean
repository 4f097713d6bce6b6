import Derived.Test.YtgcppaohinfdmaaSxW9
import Derived.Test.YtgcppaohinfdmaaSxF9
/-
  The walks of this seat's functions, twelfth part: the law GaugeMiddle.
-/
namespace Go.Proofs.Ytgcppaohinfdmaa.Sx
open Go Go.Proofs
set_option maxRecDepth 100000
set_option linter.unusedSimpArgs false
set_option linter.unusedVariables false

def T1 (a : Int) : Prop := IntKind.u64.wrap (a * 2 ^ (min (1 : Int).toNat IntKind.u64.bits)) ≠ 0
def T2 (a : Int) : Prop := (a.fdiv (2 ^ (min (52 : Int).toNat IntKind.u64.bits))).tmod 2048 < 2
theorem big_of {a : Int} (ha : bnd a) (h : ¬ (T1 a ∧ T2 a)) : big a.toNat := by
  obtain ⟨n, rfl⟩ := Int.eq_ofNat_of_zero_le ha.1
  have hn : n < 18446744073709551616 := by have := ha.2; omega
  have e1 : (2 : Int) ^ (min (1 : Int).toNat IntKind.u64.bits) = 2 := by decide
  have e2 : (2 : Int) ^ (min (52 : Int).toNat IntKind.u64.bits) = 4503599627370496 := by decide
  unfold T1 T2 at h
  rw [e1, e2] at h
  rw [Int.fdiv_eq_ediv_of_nonneg _ (by decide)] at h
  have e3 : ((n : Int) / 4503599627370496).tmod 2048 = (((n / 4503599627370496) % 2048 : Nat) : Int) := rfl
  rw [e3] at h
  have e4 : IntKind.u64.wrap ((n : Int) * 2) = (((n * 2) % 18446744073709551616 : Nat) : Int) := by simp [IntKind.wrap_u64]
  rw [e4] at h
  unfold big magN
  simp only [Int.toNat_natCast]
  by_cases q : n % 9223372036854775808 = 0
  · exact .inl q
  · right
    have h1 : n * 2 % 18446744073709551616 ≠ 0 := by omega
    have h2 : ¬ (((n / 4503599627370496 % 2048 : Nat) : Int) < 2) := fun z => h ⟨by omega, z⟩
    omega

theorem opp_of {a b : Int} (h : (a = 9218868437227405312 ∧ b = 18442240474082181120) ∨ (b = 9218868437227405312 ∧ a = 18442240474082181120)) : opp a.toNat b.toNat := by
  rcases h with ⟨rfl, rfl⟩ | ⟨rfl, rfl⟩
  · exact ⟨by decide, by decide, by decide⟩
  · exact ⟨by decide, by decide, by decide⟩
theorem not_opp {a b : Int} (ha : bnd a) (hb : bnd b) (h1 : ¬ (a = 9218868437227405312 ∧ b = 18442240474082181120)) (h2 : ¬ (b = 9218868437227405312 ∧ a = 18442240474082181120)) : ¬ opp a.toNat b.toNat := by
  obtain ⟨m, rfl⟩ := Int.eq_ofNat_of_zero_le ha.1
  obtain ⟨n, rfl⟩ := Int.eq_ofNat_of_zero_le hb.1
  have hm : m < 18446744073709551616 := by have := ha.2; omega
  have hn : n < 18446744073709551616 := by have := hb.2; omega
  rintro ⟨q1, q2, q3⟩
  simp only [Int.toNat_natCast] at q1 q2 q3
  have two : ∀ x : Nat, x < 18446744073709551616 → magN x = 9218868437227405312 → (x = 9218868437227405312 ∧ negB x = false) ∨ (x = 18442240474082181120 ∧ negB x = true) := by
    intro x hx h
    unfold magN at h
    have : x = 9218868437227405312 ∨ x = 18442240474082181120 := by omega
    rcases this with rfl | rfl
    · exact .inl ⟨rfl, by decide⟩
    · exact .inr ⟨rfl, by decide⟩
  rcases two m hm q1 with ⟨z1, z2⟩ | ⟨z1, z2⟩ <;> rcases two n hn q2 with ⟨y1, y2⟩ | ⟨y1, y2⟩
  · rw [z2, y2] at q3; exact q3 rfl
  · exact h1 ⟨by omega, by omega⟩
  · exact h2 ⟨by omega, by omega⟩
  · rw [z2, y2] at q3; exact q3 rfl

theorem mno {a b : Int} (h : isN a.toNat = true ∨ isN b.toNat = true ∨ (isN a.toNat = false ∧ isN b.toNat = false ∧ big a.toNat ∧ big b.toNat ∧ ((a = 9218868437227405312 ∧ b = 18442240474082181120) ∨ (b = 9218868437227405312 ∧ a = 18442240474082181120)))) : meanV a.toNat b.toNat = 9221120237041090561 := by
  unfold meanV
  rcases h with h | h | ⟨ea, eb, ga, gb, h⟩
  · rw [h]; rfl
  · rw [h]; simp
  · rcases middle ea eb ga gb with ⟨_, e⟩ | ⟨no, _⟩
    · rw [e, ea, eb]; rfl
    · exact absurd (opp_of h) no
theorem mid {a b : Int} (ha : bnd a) (hb : bnd b) (ea : isN a.toNat = false) (eb : isN b.toNat = false) (ga : big a.toNat) (gb : big b.toNat) (no : ¬ opp a.toNat b.toNat) :
    isN (meanV a.toNat b.toNat).toNat = false ∧ (¬ 0 < cmpV a.toNat b.toNat → cmpV a.toNat (meanV a.toNat b.toNat).toNat ≤ 0 ∧ cmpV (meanV a.toNat b.toNat).toNat b.toNat ≤ 0) ∧
      (0 < cmpV a.toNat b.toNat → cmpV b.toNat (meanV a.toNat b.toNat).toNat ≤ 0 ∧ cmpV (meanV a.toNat b.toNat).toNat a.toNat ≤ 0) := by
  rcases middle ea eb ga gb with ⟨h, _⟩ | ⟨_, r, e, h⟩
  · exact absurd h no
  · have em : (meanV a.toNat b.toNat).toNat = r := by
      unfold meanV
      rw [e, ea, eb]; rfl
    have er := bits_isN (by simp) e
    rw [em]
    refine ⟨er, fun q => ?_, fun q => ?_⟩
    · rw [cmpV_val ea eb] at q
      rw [cmpV_val ea er, cmpV_val er eb]
      have q2 : sval a.toNat ≤ sval b.toNat := by
        rcases Int.lt_or_le (sval b.toNat) (sval a.toNat) with z | z
        · rw [if_neg (by omega), if_pos z] at q; exact absurd (by decide) q
        · exact z
      refine ⟨?_, ?_⟩ <;> (split; decide; split; omega; decide)
    · rw [cmpV_val ea eb] at q
      rw [cmpV_val eb er, cmpV_val er ea]
      have q2 : sval b.toNat < sval a.toNat := by
        rcases Int.lt_or_le (sval b.toNat) (sval a.toNat) with z | z
        · exact z
        · by_cases y : sval a.toNat < sval b.toNat
          · rw [if_pos y] at q; exact absurd q (by decide)
          · rw [if_neg y, if_neg (by omega)] at q; exact absurd q (by decide)
      refine ⟨?_, ?_⟩ <;> (split; decide; split; omega; decide)

def SPI : SpT := [(8, sAwake), (11, sCmp), (13, sMean), (15, sIsNaN)]
theorem spi : ∀ p ∈ SPI, SpecOK Try.prog p.1 p.2 := consSP sAwake_ok (consSP sCmp_ok (consSP sMean_ok (consSP sIsNaN_ok noSP)))
theorem sLaw7_ok : SpecOK Try.prog 7 sLaw5 := by
  refine specOK_pure (fn := Try.f7) rfl rfl rfl T_ok (SP := SPI) spi [] trivial 300 _ ?_
  intro args h nx K hs
  unfold sLaw5 at hs
  split at hs
  · rename_i a b
    obtain ⟨ha, hb, hk⟩ := hs
    refine ⟨trivial, by repeat constructor, by simp [Try.f7], fun o => o = .ret (.bool true), ?_, ?_⟩
    · rintro o rfl; exact ⟨trivial, hk⟩
    intro c hc
    clear hk
    refine br_ne (fun h1 => ?_) (fun h1 => ?_)
    · have h1 : T1 a := h1
      refine br_dec (fun h2 => ?_) (fun h2 => ?_)
      · exact outB rfl
      · have h2 : ¬ T2 a := h2
        have ga : big a.toNat := big_of ha (fun q => h2 q.2)
        refine br_ne (fun h3 => ?_) (fun h3 => ?_)
        · have h3 : T1 b := h3
          refine br_dec (fun h4 => ?_) (fun h4 => ?_)
          · exact outB rfl
          · have h4 : ¬ T2 b := h4
            have gb : big b.toNat := big_of hb (fun q => h4 q.2)
            refine ⟨ha, ?_⟩
            refine br_both (fun ea => ?_) (fun ea => ?_)
            · have ea : isN a.toNat = true := ea
              exact outB (show (meanV a.toNat b.toNat == 9221120237041090561) = true by rw [mno (.inl ea)]; rfl)
            · have ea : isN a.toNat = false := ea
              refine ⟨hb, ?_⟩
              refine br_both (fun eb => ?_) (fun eb => ?_)
              · have eb : isN b.toNat = true := eb
                exact outB (show (meanV a.toNat b.toNat == 9221120237041090561) = true by rw [mno (.inr (.inl eb))]; rfl)
              · have eb : isN b.toNat = false := eb
                refine br_eq (fun i1 => ?_) (fun i1 => ?_)
                · have i1 : a = 9218868437227405312 := i1
                  refine br_eq (fun i2 => ?_) (fun i2 => ?_)
                  · have i2 : b = 18442240474082181120 := Eq.trans i2 (by decide +kernel)
                    exact outB (show (meanV a.toNat b.toNat == 9221120237041090561) = true by rw [mno (.inr (.inr ⟨ea, eb, ga, gb, .inl ⟨i1, i2⟩⟩))]; rfl)
                  · have i2 : b ≠ 18442240474082181120 := fun q => i2 (Eq.trans q (by decide +kernel))
                    have no : ¬ opp a.toNat b.toNat := not_opp ha hb (fun q => i2 q.2) (fun q => by omega)
                    refine br_eq (fun i3 => ?_) (fun i3 => ?_)
                    · refine br_eqF (fun q => ?_) ?_
                      · have q : a = 18442240474082181120 := Eq.trans q (by decide +kernel)
                        omega
                      refine ⟨mean_bnd _ _, ?_⟩
                      obtain ⟨nn, k1, k2⟩ := mid ha hb ea eb ga gb no
                      refine br_f nn ?_
                      refine br_dec (fun q => ?_) (fun q => ?_)
                      · obtain ⟨z1, z2⟩ := k2 q
                        refine br_decT z1 ?_
                        exact outB (decide_eq_true z2)
                      · obtain ⟨z1, z2⟩ := k1 q
                        refine br_decT z1 ?_
                        exact outB (decide_eq_true z2)
                    · skip
                      refine ⟨mean_bnd _ _, ?_⟩
                      obtain ⟨nn, k1, k2⟩ := mid ha hb ea eb ga gb no
                      refine br_f nn ?_
                      refine br_dec (fun q => ?_) (fun q => ?_)
                      · obtain ⟨z1, z2⟩ := k2 q
                        refine br_decT z1 ?_
                        exact outB (decide_eq_true z2)
                      · obtain ⟨z1, z2⟩ := k1 q
                        refine br_decT z1 ?_
                        exact outB (decide_eq_true z2)
                · have i1 : a ≠ 9218868437227405312 := i1
                  refine br_eq (fun i3 => ?_) (fun i3 => ?_)
                  · have i3 : b = 9218868437227405312 := i3
                    refine br_eq (fun i4o => ?_) (fun i4 => ?_)
                    · have i4 : a = 18442240474082181120 := Eq.trans i4o (by decide +kernel)
                      refine br_eqT i4o ?_
                      exact outB (show (meanV a.toNat b.toNat == 9221120237041090561) = true by rw [mno (.inr (.inr ⟨ea, eb, ga, gb, .inr ⟨i3, i4⟩⟩))]; rfl)
                    · have i4 : a ≠ 18442240474082181120 := fun q => i4 (Eq.trans q (by decide +kernel))
                      have no : ¬ opp a.toNat b.toNat := not_opp ha hb (fun q => i1 q.1) (fun q => i4 q.2)
                      refine ⟨mean_bnd _ _, ?_⟩
                      obtain ⟨nn, k1, k2⟩ := mid ha hb ea eb ga gb no
                      refine br_f nn ?_
                      refine br_dec (fun q => ?_) (fun q => ?_)
                      · obtain ⟨z1, z2⟩ := k2 q
                        refine br_decT z1 ?_
                        exact outB (decide_eq_true z2)
                      · obtain ⟨z1, z2⟩ := k1 q
                        refine br_decT z1 ?_
                        exact outB (decide_eq_true z2)
                  · have i3 : b ≠ 9218868437227405312 := i3
                    have no : ¬ opp a.toNat b.toNat := not_opp ha hb (fun q => i1 q.1) (fun q => i3 q.1)
                    refine ⟨mean_bnd _ _, ?_⟩
                    obtain ⟨nn, k1, k2⟩ := mid ha hb ea eb ga gb no
                    refine br_f nn ?_
                    refine br_dec (fun q => ?_) (fun q => ?_)
                    · obtain ⟨z1, z2⟩ := k2 q
                      refine br_decT z1 ?_
                      exact outB (decide_eq_true z2)
                    · obtain ⟨z1, z2⟩ := k1 q
                      refine br_decT z1 ?_
                      exact outB (decide_eq_true z2)
        · have h3 : ¬ T1 b := fun q => q h3
          have gb : big b.toNat := big_of hb (fun q => h3 q.1)
          refine ⟨ha, ?_⟩
          refine br_both (fun ea => ?_) (fun ea => ?_)
          · have ea : isN a.toNat = true := ea
            exact outB (show (meanV a.toNat b.toNat == 9221120237041090561) = true by rw [mno (.inl ea)]; rfl)
          · have ea : isN a.toNat = false := ea
            refine ⟨hb, ?_⟩
            refine br_both (fun eb => ?_) (fun eb => ?_)
            · have eb : isN b.toNat = true := eb
              exact outB (show (meanV a.toNat b.toNat == 9221120237041090561) = true by rw [mno (.inr (.inl eb))]; rfl)
            · have eb : isN b.toNat = false := eb
              refine br_eq (fun i1 => ?_) (fun i1 => ?_)
              · have i1 : a = 9218868437227405312 := i1
                refine br_eq (fun i2 => ?_) (fun i2 => ?_)
                · have i2 : b = 18442240474082181120 := Eq.trans i2 (by decide +kernel)
                  exact outB (show (meanV a.toNat b.toNat == 9221120237041090561) = true by rw [mno (.inr (.inr ⟨ea, eb, ga, gb, .inl ⟨i1, i2⟩⟩))]; rfl)
                · have i2 : b ≠ 18442240474082181120 := fun q => i2 (Eq.trans q (by decide +kernel))
                  have no : ¬ opp a.toNat b.toNat := not_opp ha hb (fun q => i2 q.2) (fun q => by omega)
                  refine br_eq (fun i3 => ?_) (fun i3 => ?_)
                  · refine br_eqF (fun q => ?_) ?_
                    · have q : a = 18442240474082181120 := Eq.trans q (by decide +kernel)
                      omega
                    refine ⟨mean_bnd _ _, ?_⟩
                    obtain ⟨nn, k1, k2⟩ := mid ha hb ea eb ga gb no
                    refine br_f nn ?_
                    refine br_dec (fun q => ?_) (fun q => ?_)
                    · obtain ⟨z1, z2⟩ := k2 q
                      refine br_decT z1 ?_
                      exact outB (decide_eq_true z2)
                    · obtain ⟨z1, z2⟩ := k1 q
                      refine br_decT z1 ?_
                      exact outB (decide_eq_true z2)
                  · skip
                    refine ⟨mean_bnd _ _, ?_⟩
                    obtain ⟨nn, k1, k2⟩ := mid ha hb ea eb ga gb no
                    refine br_f nn ?_
                    refine br_dec (fun q => ?_) (fun q => ?_)
                    · obtain ⟨z1, z2⟩ := k2 q
                      refine br_decT z1 ?_
                      exact outB (decide_eq_true z2)
                    · obtain ⟨z1, z2⟩ := k1 q
                      refine br_decT z1 ?_
                      exact outB (decide_eq_true z2)
              · have i1 : a ≠ 9218868437227405312 := i1
                refine br_eq (fun i3 => ?_) (fun i3 => ?_)
                · have i3 : b = 9218868437227405312 := i3
                  refine br_eq (fun i4o => ?_) (fun i4 => ?_)
                  · have i4 : a = 18442240474082181120 := Eq.trans i4o (by decide +kernel)
                    refine br_eqT i4o ?_
                    exact outB (show (meanV a.toNat b.toNat == 9221120237041090561) = true by rw [mno (.inr (.inr ⟨ea, eb, ga, gb, .inr ⟨i3, i4⟩⟩))]; rfl)
                  · have i4 : a ≠ 18442240474082181120 := fun q => i4 (Eq.trans q (by decide +kernel))
                    have no : ¬ opp a.toNat b.toNat := not_opp ha hb (fun q => i1 q.1) (fun q => i4 q.2)
                    refine ⟨mean_bnd _ _, ?_⟩
                    obtain ⟨nn, k1, k2⟩ := mid ha hb ea eb ga gb no
                    refine br_f nn ?_
                    refine br_dec (fun q => ?_) (fun q => ?_)
                    · obtain ⟨z1, z2⟩ := k2 q
                      refine br_decT z1 ?_
                      exact outB (decide_eq_true z2)
                    · obtain ⟨z1, z2⟩ := k1 q
                      refine br_decT z1 ?_
                      exact outB (decide_eq_true z2)
                · have i3 : b ≠ 9218868437227405312 := i3
                  have no : ¬ opp a.toNat b.toNat := not_opp ha hb (fun q => i1 q.1) (fun q => i3 q.1)
                  refine ⟨mean_bnd _ _, ?_⟩
                  obtain ⟨nn, k1, k2⟩ := mid ha hb ea eb ga gb no
                  refine br_f nn ?_
                  refine br_dec (fun q => ?_) (fun q => ?_)
                  · obtain ⟨z1, z2⟩ := k2 q
                    refine br_decT z1 ?_
                    exact outB (decide_eq_true z2)
                  · obtain ⟨z1, z2⟩ := k1 q
                    refine br_decT z1 ?_
                    exact outB (decide_eq_true z2)
    · have h1 : ¬ T1 a := fun q => q h1
      have ga : big a.toNat := big_of ha (fun q => h1 q.1)
      refine br_ne (fun h3 => ?_) (fun h3 => ?_)
      · have h3 : T1 b := h3
        refine br_dec (fun h4 => ?_) (fun h4 => ?_)
        · exact outB rfl
        · have h4 : ¬ T2 b := h4
          have gb : big b.toNat := big_of hb (fun q => h4 q.2)
          refine ⟨ha, ?_⟩
          refine br_both (fun ea => ?_) (fun ea => ?_)
          · have ea : isN a.toNat = true := ea
            exact outB (show (meanV a.toNat b.toNat == 9221120237041090561) = true by rw [mno (.inl ea)]; rfl)
          · have ea : isN a.toNat = false := ea
            refine ⟨hb, ?_⟩
            refine br_both (fun eb => ?_) (fun eb => ?_)
            · have eb : isN b.toNat = true := eb
              exact outB (show (meanV a.toNat b.toNat == 9221120237041090561) = true by rw [mno (.inr (.inl eb))]; rfl)
            · have eb : isN b.toNat = false := eb
              refine br_eq (fun i1 => ?_) (fun i1 => ?_)
              · have i1 : a = 9218868437227405312 := i1
                refine br_eq (fun i2 => ?_) (fun i2 => ?_)
                · have i2 : b = 18442240474082181120 := Eq.trans i2 (by decide +kernel)
                  exact outB (show (meanV a.toNat b.toNat == 9221120237041090561) = true by rw [mno (.inr (.inr ⟨ea, eb, ga, gb, .inl ⟨i1, i2⟩⟩))]; rfl)
                · have i2 : b ≠ 18442240474082181120 := fun q => i2 (Eq.trans q (by decide +kernel))
                  have no : ¬ opp a.toNat b.toNat := not_opp ha hb (fun q => i2 q.2) (fun q => by omega)
                  refine br_eq (fun i3 => ?_) (fun i3 => ?_)
                  · refine br_eqF (fun q => ?_) ?_
                    · have q : a = 18442240474082181120 := Eq.trans q (by decide +kernel)
                      omega
                    refine ⟨mean_bnd _ _, ?_⟩
                    obtain ⟨nn, k1, k2⟩ := mid ha hb ea eb ga gb no
                    refine br_f nn ?_
                    refine br_dec (fun q => ?_) (fun q => ?_)
                    · obtain ⟨z1, z2⟩ := k2 q
                      refine br_decT z1 ?_
                      exact outB (decide_eq_true z2)
                    · obtain ⟨z1, z2⟩ := k1 q
                      refine br_decT z1 ?_
                      exact outB (decide_eq_true z2)
                  · skip
                    refine ⟨mean_bnd _ _, ?_⟩
                    obtain ⟨nn, k1, k2⟩ := mid ha hb ea eb ga gb no
                    refine br_f nn ?_
                    refine br_dec (fun q => ?_) (fun q => ?_)
                    · obtain ⟨z1, z2⟩ := k2 q
                      refine br_decT z1 ?_
                      exact outB (decide_eq_true z2)
                    · obtain ⟨z1, z2⟩ := k1 q
                      refine br_decT z1 ?_
                      exact outB (decide_eq_true z2)
              · have i1 : a ≠ 9218868437227405312 := i1
                refine br_eq (fun i3 => ?_) (fun i3 => ?_)
                · have i3 : b = 9218868437227405312 := i3
                  refine br_eq (fun i4o => ?_) (fun i4 => ?_)
                  · have i4 : a = 18442240474082181120 := Eq.trans i4o (by decide +kernel)
                    refine br_eqT i4o ?_
                    exact outB (show (meanV a.toNat b.toNat == 9221120237041090561) = true by rw [mno (.inr (.inr ⟨ea, eb, ga, gb, .inr ⟨i3, i4⟩⟩))]; rfl)
                  · have i4 : a ≠ 18442240474082181120 := fun q => i4 (Eq.trans q (by decide +kernel))
                    have no : ¬ opp a.toNat b.toNat := not_opp ha hb (fun q => i1 q.1) (fun q => i4 q.2)
                    refine ⟨mean_bnd _ _, ?_⟩
                    obtain ⟨nn, k1, k2⟩ := mid ha hb ea eb ga gb no
                    refine br_f nn ?_
                    refine br_dec (fun q => ?_) (fun q => ?_)
                    · obtain ⟨z1, z2⟩ := k2 q
                      refine br_decT z1 ?_
                      exact outB (decide_eq_true z2)
                    · obtain ⟨z1, z2⟩ := k1 q
                      refine br_decT z1 ?_
                      exact outB (decide_eq_true z2)
                · have i3 : b ≠ 9218868437227405312 := i3
                  have no : ¬ opp a.toNat b.toNat := not_opp ha hb (fun q => i1 q.1) (fun q => i3 q.1)
                  refine ⟨mean_bnd _ _, ?_⟩
                  obtain ⟨nn, k1, k2⟩ := mid ha hb ea eb ga gb no
                  refine br_f nn ?_
                  refine br_dec (fun q => ?_) (fun q => ?_)
                  · obtain ⟨z1, z2⟩ := k2 q
                    refine br_decT z1 ?_
                    exact outB (decide_eq_true z2)
                  · obtain ⟨z1, z2⟩ := k1 q
                    refine br_decT z1 ?_
                    exact outB (decide_eq_true z2)
      · have h3 : ¬ T1 b := fun q => q h3
        have gb : big b.toNat := big_of hb (fun q => h3 q.1)
        refine ⟨ha, ?_⟩
        refine br_both (fun ea => ?_) (fun ea => ?_)
        · have ea : isN a.toNat = true := ea
          exact outB (show (meanV a.toNat b.toNat == 9221120237041090561) = true by rw [mno (.inl ea)]; rfl)
        · have ea : isN a.toNat = false := ea
          refine ⟨hb, ?_⟩
          refine br_both (fun eb => ?_) (fun eb => ?_)
          · have eb : isN b.toNat = true := eb
            exact outB (show (meanV a.toNat b.toNat == 9221120237041090561) = true by rw [mno (.inr (.inl eb))]; rfl)
          · have eb : isN b.toNat = false := eb
            refine br_eq (fun i1 => ?_) (fun i1 => ?_)
            · have i1 : a = 9218868437227405312 := i1
              refine br_eq (fun i2 => ?_) (fun i2 => ?_)
              · have i2 : b = 18442240474082181120 := Eq.trans i2 (by decide +kernel)
                exact outB (show (meanV a.toNat b.toNat == 9221120237041090561) = true by rw [mno (.inr (.inr ⟨ea, eb, ga, gb, .inl ⟨i1, i2⟩⟩))]; rfl)
              · have i2 : b ≠ 18442240474082181120 := fun q => i2 (Eq.trans q (by decide +kernel))
                have no : ¬ opp a.toNat b.toNat := not_opp ha hb (fun q => i2 q.2) (fun q => by omega)
                refine br_eq (fun i3 => ?_) (fun i3 => ?_)
                · refine br_eqF (fun q => ?_) ?_
                  · have q : a = 18442240474082181120 := Eq.trans q (by decide +kernel)
                    omega
                  refine ⟨mean_bnd _ _, ?_⟩
                  obtain ⟨nn, k1, k2⟩ := mid ha hb ea eb ga gb no
                  refine br_f nn ?_
                  refine br_dec (fun q => ?_) (fun q => ?_)
                  · obtain ⟨z1, z2⟩ := k2 q
                    refine br_decT z1 ?_
                    exact outB (decide_eq_true z2)
                  · obtain ⟨z1, z2⟩ := k1 q
                    refine br_decT z1 ?_
                    exact outB (decide_eq_true z2)
                · skip
                  refine ⟨mean_bnd _ _, ?_⟩
                  obtain ⟨nn, k1, k2⟩ := mid ha hb ea eb ga gb no
                  refine br_f nn ?_
                  refine br_dec (fun q => ?_) (fun q => ?_)
                  · obtain ⟨z1, z2⟩ := k2 q
                    refine br_decT z1 ?_
                    exact outB (decide_eq_true z2)
                  · obtain ⟨z1, z2⟩ := k1 q
                    refine br_decT z1 ?_
                    exact outB (decide_eq_true z2)
            · have i1 : a ≠ 9218868437227405312 := i1
              refine br_eq (fun i3 => ?_) (fun i3 => ?_)
              · have i3 : b = 9218868437227405312 := i3
                refine br_eq (fun i4o => ?_) (fun i4 => ?_)
                · have i4 : a = 18442240474082181120 := Eq.trans i4o (by decide +kernel)
                  refine br_eqT i4o ?_
                  exact outB (show (meanV a.toNat b.toNat == 9221120237041090561) = true by rw [mno (.inr (.inr ⟨ea, eb, ga, gb, .inr ⟨i3, i4⟩⟩))]; rfl)
                · have i4 : a ≠ 18442240474082181120 := fun q => i4 (Eq.trans q (by decide +kernel))
                  have no : ¬ opp a.toNat b.toNat := not_opp ha hb (fun q => i1 q.1) (fun q => i4 q.2)
                  refine ⟨mean_bnd _ _, ?_⟩
                  obtain ⟨nn, k1, k2⟩ := mid ha hb ea eb ga gb no
                  refine br_f nn ?_
                  refine br_dec (fun q => ?_) (fun q => ?_)
                  · obtain ⟨z1, z2⟩ := k2 q
                    refine br_decT z1 ?_
                    exact outB (decide_eq_true z2)
                  · obtain ⟨z1, z2⟩ := k1 q
                    refine br_decT z1 ?_
                    exact outB (decide_eq_true z2)
              · have i3 : b ≠ 9218868437227405312 := i3
                have no : ¬ opp a.toNat b.toNat := not_opp ha hb (fun q => i1 q.1) (fun q => i3 q.1)
                refine ⟨mean_bnd _ _, ?_⟩
                obtain ⟨nn, k1, k2⟩ := mid ha hb ea eb ga gb no
                refine br_f nn ?_
                refine br_dec (fun q => ?_) (fun q => ?_)
                · obtain ⟨z1, z2⟩ := k2 q
                  refine br_decT z1 ?_
                  exact outB (decide_eq_true z2)
                · obtain ⟨z1, z2⟩ := k1 q
                  refine br_decT z1 ?_
                  exact outB (decide_eq_true z2)
  · exact hs.elim
end Go.Proofs.Ytgcppaohinfdmaa.Sx
