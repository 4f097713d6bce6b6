import Derived.Test.YtgcppaohinfdmaaSxW6
import Derived.Test.YtgcppaohinfdmaaSxF6
/-
  The walks of this seat's functions, seventh part: the law GaugeWhole.
-/
namespace Go.Proofs.Ytgcppaohinfdmaa.Sx
open Go Go.Proofs
set_option maxRecDepth 100000
set_option linter.unusedSimpArgs false
set_option linter.unusedVariables false

theorem rateV_N {a b : Int} (ha : 0 ≤ a) (hb : 0 ≤ b) : rateV a b = rateN a.toNat b.toNat := by
  unfold rateV rateN
  rw [near_eq ha, near_eq hb]
theorem rateV_self {a : Int} (h : 0 < a) (h64 : a ≤ 18446744073709551615) : rateV a a = 4607182418800017408 := by
  rw [rateV_N (by omega) (by omega), rate_self (by omega) (by omega)]
theorem rateV_zero {a : Int} (h : 0 < a) (h64 : a ≤ 18446744073709551615) : rateV 0 a = 0 := by
  rw [rateV_N (by omega) (by omega), show (0 : Int).toNat = 0 from rfl, rate_zero (by omega) (by omega)]
theorem rateV_two {a b : Int} (h : 0 ≤ a) (ha : a < 9223372036854775808) (k : 0 ≤ b) (hb : b < 9223372036854775808) : rateV (IntKind.u64.wrap (2 * a)) (IntKind.u64.wrap (2 * b)) = rateV a b := by
  have e1 : IntKind.u64.wrap (2 * a) = 2 * a := by simp [IntKind.wrap_u64]; omega
  have e2 : IntKind.u64.wrap (2 * b) = 2 * b := by simp [IntKind.wrap_u64]; omega
  rw [e1, e2, rateV_N (by omega) (by omega), rateV_N h k]
  rw [show (2 * a).toNat = 2 * a.toNat by omega, show (2 * b).toNat = 2 * b.toNat by omega]
  exact rate_double (by omega) (by omega)
theorem perc_one : percV (4607182418800017408 : Int).toNat = 100 := by decide +kernel
theorem perc_nought : percV (0 : Int).toNat = 0 := by decide +kernel

def sLaw5 : Spec := fun args h nx K => match args with
  | [.int .u64 a, .int .u64 b] => bnd a ∧ bnd b ∧ K (.ret (.bool true)) h nx
  | _ => False
theorem sLaw5_ok : SpecOK Try.prog 5 sLaw5 := by
  refine specOK_pure (fn := Try.f5) rfl rfl rfl T_ok (SP := SPL) splw [] trivial 300 _ ?_
  intro args h nx K hs
  unfold sLaw5 at hs
  split at hs
  · rename_i a b
    obtain ⟨ha, hb, hk⟩ := hs
    refine ⟨trivial, by repeat constructor, by simp [Try.f5], fun o => o = .ret (.bool true), ?_, ?_⟩
    · rintro o rfl; exact ⟨trivial, hk⟩
    intro c hc
    clear hk
    unfold bnd at ha hb
    have tail : ∀ {X Y : Prop}, (¬ 9223372036854775808 ≤ a → ¬ 9223372036854775808 ≤ b → (rateV (IntKind.u64.wrap (2 * a)) (IntKind.u64.wrap (2 * b)) == rateV a b) = true) := by
      intro X Y h1 h2
      rw [rateV_two ha.1 (by omega) hb.1 (by omega)]
      simp
    refine br_dec (fun e => ?_) (fun e => ?_)
    · have e : 0 < a := e
      refine br_f (show (percV (rateV a a).toNat != 100) = false by rw [rateV_self e ha.2, perc_one]; rfl) ?_
      refine br_f (show (percV (rateV 0 a).toNat != 0) = false by rw [rateV_zero e ha.2, perc_nought]; rfl) ?_
      refine br_dec (fun h1 => ?_) (fun h1 => ?_)
      · exact outB rfl
      · refine br_dec (fun h2 => ?_) (fun h2 => ?_)
        · exact outB rfl
        · exact outB (tail (X := True) (Y := True) h1 h2)
    · refine br_dec (fun h1 => ?_) (fun h1 => ?_)
      · exact outB rfl
      · refine br_dec (fun h2 => ?_) (fun h2 => ?_)
        · exact outB rfl
        · exact outB (tail (X := True) (Y := True) h1 h2)
  · exact hs.elim
end Go.Proofs.Ytgcppaohinfdmaa.Sx
