import Derived.Test.YtgcppaohinfdmaaSxW5
/-
  The walks of this seat's functions, sixth part: the laws GaugeNaNs, GaugeWhole.
-/
namespace Go.Proofs.Ytgcppaohinfdmaa.Sx
open Go Go.Proofs
set_option maxRecDepth 100000
set_option linter.unusedSimpArgs false
set_option linter.unusedVariables false

theorem cmp_rng (a b : Nat) : -1 ≤ cmpV a b ∧ cmpV a b ≤ 1 := by
  unfold cmpV
  split
  · split <;> omega
  · split
    · omega
    · split
      · omega
      · split <;> omega
theorem cmp_anti (a b : Nat) : cmpV a b = -cmpV b a := by
  unfold cmpV
  rw [ord_swap b a]
  cases isN a <;> cases isN b <;> simp
  cases fOrd b a with
  | none => simp
  | some o => cases o <;> simp
theorem cmp_self (a : Nat) : cmpV a a = 0 := by have := cmp_anti a a; omega
theorem cmp_nans {a b : Nat} (ha : isN a = true) (hb : isN b = true) : cmpV a b = 0 := by simp [cmpV, ha, hb]
theorem cmp_nan_lt {a b : Nat} (ha : isN a = true) (hb : isN b = false) : cmpV a b = -1 := by simp [cmpV, ha, hb]
theorem wrap_neg (a b : Nat) : IntKind.i64.wrap (0 - cmpV a b) = -cmpV a b := by
  have := cmp_rng a b
  simp [IntKind.wrap_i64]; omega
theorem nanC : isN (9221120237041090561 : Int).toNat = true := by decide
theorem zz : cmpV (0 : Int).toNat (9223372036854775808 : Int).toNat = 0 := by decide +kernel

def sLaw6 : Spec := fun args h nx K => match args with
  | [.int .u64 g] => bnd g ∧ K (.ret (.bool true)) h nx
  | _ => False
def SPL : SpT := [(8, sAwake), (11, sCmp), (15, sIsNaN), (16, sPerc), (18, sRate)]
theorem splw : ∀ p ∈ SPL, SpecOK Try.prog p.1 p.2 := consSP sAwake_ok (consSP sCmp_ok (consSP sIsNaN_ok (consSP sPerc_ok (consSP sRate_ok noSP))))
theorem sLaw6_ok : SpecOK Try.prog 6 sLaw6 := by
  refine specOK_pure (fn := Try.f6) rfl rfl rfl T_ok (SP := SPL) splw [] trivial 300 _ ?_
  intro args h nx K hs
  unfold sLaw6 at hs
  split at hs
  · rename_i g
    obtain ⟨hg, hk⟩ := hs
    refine ⟨trivial, by repeat constructor, by simp [Try.f6], fun o => o = .ret (.bool true), ?_, ?_⟩
    · rintro o rfl; exact ⟨trivial, hk⟩
    intro c hc
    clear hk
    refine ⟨hg, ?_⟩
    have e1 : (cmpV g.toNat g.toNat == 0) = true := by rw [cmp_self]; rfl
    refine br_both (fun e => ?_) (fun e => ?_)
    · have e : isN g.toNat = true := e
      refine br_t e1 ?_
      refine br_t (show (cmpV g.toNat (9221120237041090561 : Int).toNat == 0) = true by rw [cmp_nans e nanC]; rfl) ?_
      exact outB (show (percV g.toNat == 0) = true by simp [percV, e])
    · have e : isN g.toNat = false := e
      refine br_t e1 ?_
      refine br_t (show (cmpV (9221120237041090561 : Int).toNat g.toNat == -1) = true by rw [cmp_nan_lt nanC e]; rfl) ?_
      refine outB ?_
      generalize IntKind.u64.wrap _ = g'
      show (cmpV g.toNat g'.toNat == IntKind.i64.wrap (0 - cmpV g'.toNat g.toNat)) = true
      rw [wrap_neg, cmp_anti g.toNat]
      simp
  · exact hs.elim
end Go.Proofs.Ytgcppaohinfdmaa.Sx
