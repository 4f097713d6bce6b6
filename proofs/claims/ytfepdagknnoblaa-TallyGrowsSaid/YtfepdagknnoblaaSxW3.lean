import Derived.Test.YtfepdagknnoblaaSxW2
/-
  The walks of this seat's functions, third part: sums of tallies.
-/
namespace Go.Proofs.Ytfepdagknnoblaa.Sx
open Go Go.Proofs
set_option maxRecDepth 100000
set_option linter.unusedSimpArgs false
set_option linter.unusedVariables false

def sSum : Spec := fun args h nx K => match args with
  | [.agg [.int .u64 t0, .int .u64 t1, .int .u64 t2, .int .u64 t3, .int .u64 t4, .int .u64 t5, .int .u64 t6, .int .u64 t7, .int .u64 t8, .int .u64 t9], .agg [.int .u64 u0, .int .u64 u1, .int .u64 u2, .int .u64 u3, .int .u64 u4, .int .u64 u5, .int .u64 u6, .int .u64 u7, .int .u64 u8, .int .u64 u9]] => (bnd t0 ∧ bnd t1 ∧ bnd t2 ∧ bnd t3 ∧ bnd t4 ∧ bnd t5 ∧ bnd t6 ∧ bnd t7 ∧ bnd t8 ∧ bnd t9) ∧ (bnd u0 ∧ bnd u1 ∧ bnd u2 ∧ bnd u3 ∧ bnd u4 ∧ bnd u5 ∧ bnd u6 ∧ bnd u7 ∧ bnd u8 ∧ bnd u9) ∧ K (.ret (.agg [.int .u64 (satI t0 u0), .int .u64 (satI t1 u1), .int .u64 (satI t2 u2), .int .u64 (satI t3 u3), .int .u64 (satI t4 u4), .int .u64 (satI t5 u5), .int .u64 (satI t6 u6), .int .u64 (satI t7 u7), .int .u64 (satI t8 u8), .int .u64 (satI t9 u9)])) h nx
  | _ => False

def SP6 : SpT := [(10, sAdd), (12, sSame)]
theorem sp6 : ∀ p ∈ SP6, SpecOK Try.prog p.1 p.2 := consSP sRefAddT_ok (consSP sRefCounts_ok noSP)

theorem sRefSum_ok : SpecOK Try.prog 18 sSum := by
  refine specOK_pure (fn := Try.f18) rfl rfl rfl T_ok (SP := SP6) sp6 [] trivial 300 _ ?_
  intro args h nx K hs
  unfold sSum at hs
  split at hs
  · rename_i t0 t1 t2 t3 t4 t5 t6 t7 t8 t9 u0 u1 u2 u3 u4 u5 u6 u7 u8 u9
    obtain ⟨⟨h0, h1, h2, h3, h4, h5, h6, h7, h8, h9⟩, ⟨k0, k1, k2, k3, k4, k5, k6, k7, k8, k9⟩, hs⟩ := hs
    refine ⟨trivial, by repeat constructor, by simp [Try.f18], fun o => o = .ret (.agg [.int .u64 (satI t0 u0), .int .u64 (satI t1 u1), .int .u64 (satI t2 u2), .int .u64 (satI t3 u3), .int .u64 (satI t4 u4), .int .u64 (satI t5 u5), .int .u64 (satI t6 u6), .int .u64 (satI t7 u7), .int .u64 (satI t8 u8), .int .u64 (satI t9 u9)]), ?_, ?_⟩
    · rintro o rfl; exact ⟨by repeat constructor, hs⟩
    intro c hc
    clear hs
    intro b b2 b3 b4
    refine W_unroll 11 10 ?_
    refine vc_sound (mkE hc T_ok sp6) 100 _ _ _ 10 ?_
    refine W_plan (mkE hc T_ok sp6) 10 9 (lineP 0 9 (oneP 9 .done)) (by rw [hc]; exact mix) (by kernel_rfl) 100 ?_
    repeat' (first
      | refine ⟨_, ⟨rfl, rfl⟩, ?_⟩
      | refine ⟨_, ⟨by assumption, ⟨by first | assumption | (apply sat_bnd <;> assumption), by first | assumption | (apply sat_bnd <;> assumption), by first | assumption | (apply sat_bnd <;> assumption), by first | assumption | (apply sat_bnd <;> assumption), by first | assumption | (apply sat_bnd <;> assumption), by first | assumption | (apply sat_bnd <;> assumption), by first | assumption | (apply sat_bnd <;> assumption), by first | assumption | (apply sat_bnd <;> assumption), by first | assumption | (apply sat_bnd <;> assumption), by first | assumption | (apply sat_bnd <;> assumption)⟩, rfl, rfl⟩, ?_⟩
      | refine ⟨⟨trivial, ?_⟩, trivial⟩
      | fail)
    refine vc_sound (mkE hc T_ok sp6) 100 _ _ _ 10 ?_
    refine W_plan (mkE hc T_ok sp6) 10 9 (lineP 0 9 (oneP 9 .done)) (by rw [hc]; exact mix) (by kernel_rfl) 100 ?_
    repeat' (first
      | refine ⟨_, ⟨rfl, rfl⟩, ?_⟩
      | refine ⟨_, ⟨by assumption, ⟨by first | assumption | (apply sat_bnd <;> assumption), by first | assumption | (apply sat_bnd <;> assumption), by first | assumption | (apply sat_bnd <;> assumption), by first | assumption | (apply sat_bnd <;> assumption), by first | assumption | (apply sat_bnd <;> assumption), by first | assumption | (apply sat_bnd <;> assumption), by first | assumption | (apply sat_bnd <;> assumption), by first | assumption | (apply sat_bnd <;> assumption), by first | assumption | (apply sat_bnd <;> assumption), by first | assumption | (apply sat_bnd <;> assumption)⟩, rfl, rfl⟩, ?_⟩
      | refine ⟨⟨trivial, ?_⟩, trivial⟩
      | fail)
    refine vc_sound (mkE hc T_ok sp6) 100 _ _ _ 10 ?_
    refine W_plan (mkE hc T_ok sp6) 10 9 (lineP 0 9 (oneP 9 .done)) (by rw [hc]; exact mix) (by kernel_rfl) 100 ?_
    repeat' (first
      | refine ⟨_, ⟨rfl, rfl⟩, ?_⟩
      | refine ⟨_, ⟨by assumption, ⟨by first | assumption | (apply sat_bnd <;> assumption), by first | assumption | (apply sat_bnd <;> assumption), by first | assumption | (apply sat_bnd <;> assumption), by first | assumption | (apply sat_bnd <;> assumption), by first | assumption | (apply sat_bnd <;> assumption), by first | assumption | (apply sat_bnd <;> assumption), by first | assumption | (apply sat_bnd <;> assumption), by first | assumption | (apply sat_bnd <;> assumption), by first | assumption | (apply sat_bnd <;> assumption), by first | assumption | (apply sat_bnd <;> assumption)⟩, rfl, rfl⟩, ?_⟩
      | refine ⟨⟨trivial, ?_⟩, trivial⟩
      | fail)
    refine vc_sound (mkE hc T_ok sp6) 100 _ _ _ 10 ?_
    refine W_plan (mkE hc T_ok sp6) 10 9 (lineP 0 9 (oneP 9 .done)) (by rw [hc]; exact mix) (by kernel_rfl) 100 ?_
    repeat' (first
      | refine ⟨_, ⟨rfl, rfl⟩, ?_⟩
      | refine ⟨_, ⟨by assumption, ⟨by first | assumption | (apply sat_bnd <;> assumption), by first | assumption | (apply sat_bnd <;> assumption), by first | assumption | (apply sat_bnd <;> assumption), by first | assumption | (apply sat_bnd <;> assumption), by first | assumption | (apply sat_bnd <;> assumption), by first | assumption | (apply sat_bnd <;> assumption), by first | assumption | (apply sat_bnd <;> assumption), by first | assumption | (apply sat_bnd <;> assumption), by first | assumption | (apply sat_bnd <;> assumption), by first | assumption | (apply sat_bnd <;> assumption)⟩, rfl, rfl⟩, ?_⟩
      | refine ⟨⟨trivial, ?_⟩, trivial⟩
      | fail)
    refine vc_sound (mkE hc T_ok sp6) 100 _ _ _ 10 ?_
    refine W_plan (mkE hc T_ok sp6) 10 9 (lineP 0 9 (oneP 9 .done)) (by rw [hc]; exact mix) (by kernel_rfl) 100 ?_
    repeat' (first
      | refine ⟨_, ⟨rfl, rfl⟩, ?_⟩
      | refine ⟨_, ⟨by assumption, ⟨by first | assumption | (apply sat_bnd <;> assumption), by first | assumption | (apply sat_bnd <;> assumption), by first | assumption | (apply sat_bnd <;> assumption), by first | assumption | (apply sat_bnd <;> assumption), by first | assumption | (apply sat_bnd <;> assumption), by first | assumption | (apply sat_bnd <;> assumption), by first | assumption | (apply sat_bnd <;> assumption), by first | assumption | (apply sat_bnd <;> assumption), by first | assumption | (apply sat_bnd <;> assumption), by first | assumption | (apply sat_bnd <;> assumption)⟩, rfl, rfl⟩, ?_⟩
      | refine ⟨⟨trivial, ?_⟩, trivial⟩
      | fail)
    refine vc_sound (mkE hc T_ok sp6) 100 _ _ _ 10 ?_
    refine W_plan (mkE hc T_ok sp6) 10 9 (lineP 0 9 (oneP 9 .done)) (by rw [hc]; exact mix) (by kernel_rfl) 100 ?_
    repeat' (first
      | refine ⟨_, ⟨rfl, rfl⟩, ?_⟩
      | refine ⟨_, ⟨by assumption, ⟨by first | assumption | (apply sat_bnd <;> assumption), by first | assumption | (apply sat_bnd <;> assumption), by first | assumption | (apply sat_bnd <;> assumption), by first | assumption | (apply sat_bnd <;> assumption), by first | assumption | (apply sat_bnd <;> assumption), by first | assumption | (apply sat_bnd <;> assumption), by first | assumption | (apply sat_bnd <;> assumption), by first | assumption | (apply sat_bnd <;> assumption), by first | assumption | (apply sat_bnd <;> assumption), by first | assumption | (apply sat_bnd <;> assumption)⟩, rfl, rfl⟩, ?_⟩
      | refine ⟨⟨trivial, ?_⟩, trivial⟩
      | fail)
    refine vc_sound (mkE hc T_ok sp6) 100 _ _ _ 10 ?_
    refine W_plan (mkE hc T_ok sp6) 10 9 (lineP 0 9 (oneP 9 .done)) (by rw [hc]; exact mix) (by kernel_rfl) 100 ?_
    repeat' (first
      | refine ⟨_, ⟨rfl, rfl⟩, ?_⟩
      | refine ⟨_, ⟨by assumption, ⟨by first | assumption | (apply sat_bnd <;> assumption), by first | assumption | (apply sat_bnd <;> assumption), by first | assumption | (apply sat_bnd <;> assumption), by first | assumption | (apply sat_bnd <;> assumption), by first | assumption | (apply sat_bnd <;> assumption), by first | assumption | (apply sat_bnd <;> assumption), by first | assumption | (apply sat_bnd <;> assumption), by first | assumption | (apply sat_bnd <;> assumption), by first | assumption | (apply sat_bnd <;> assumption), by first | assumption | (apply sat_bnd <;> assumption)⟩, rfl, rfl⟩, ?_⟩
      | refine ⟨⟨trivial, ?_⟩, trivial⟩
      | fail)
    refine vc_sound (mkE hc T_ok sp6) 100 _ _ _ 10 ?_
    refine W_plan (mkE hc T_ok sp6) 10 9 (lineP 0 9 (oneP 9 .done)) (by rw [hc]; exact mix) (by kernel_rfl) 100 ?_
    repeat' (first
      | refine ⟨_, ⟨rfl, rfl⟩, ?_⟩
      | refine ⟨_, ⟨by assumption, ⟨by first | assumption | (apply sat_bnd <;> assumption), by first | assumption | (apply sat_bnd <;> assumption), by first | assumption | (apply sat_bnd <;> assumption), by first | assumption | (apply sat_bnd <;> assumption), by first | assumption | (apply sat_bnd <;> assumption), by first | assumption | (apply sat_bnd <;> assumption), by first | assumption | (apply sat_bnd <;> assumption), by first | assumption | (apply sat_bnd <;> assumption), by first | assumption | (apply sat_bnd <;> assumption), by first | assumption | (apply sat_bnd <;> assumption)⟩, rfl, rfl⟩, ?_⟩
      | refine ⟨⟨trivial, ?_⟩, trivial⟩
      | fail)
    refine vc_sound (mkE hc T_ok sp6) 100 _ _ _ 10 ?_
    refine W_plan (mkE hc T_ok sp6) 10 9 (lineP 0 9 (oneP 9 .done)) (by rw [hc]; exact mix) (by kernel_rfl) 100 ?_
    repeat' (first
      | refine ⟨_, ⟨rfl, rfl⟩, ?_⟩
      | refine ⟨_, ⟨by assumption, ⟨by first | assumption | (apply sat_bnd <;> assumption), by first | assumption | (apply sat_bnd <;> assumption), by first | assumption | (apply sat_bnd <;> assumption), by first | assumption | (apply sat_bnd <;> assumption), by first | assumption | (apply sat_bnd <;> assumption), by first | assumption | (apply sat_bnd <;> assumption), by first | assumption | (apply sat_bnd <;> assumption), by first | assumption | (apply sat_bnd <;> assumption), by first | assumption | (apply sat_bnd <;> assumption), by first | assumption | (apply sat_bnd <;> assumption)⟩, rfl, rfl⟩, ?_⟩
      | refine ⟨⟨trivial, ?_⟩, trivial⟩
      | fail)
    refine vc_sound (mkE hc T_ok sp6) 100 _ _ _ 10 ?_
    refine W_plan (mkE hc T_ok sp6) 10 9 (lineP 0 9 (oneP 9 .done)) (by rw [hc]; exact mix) (by kernel_rfl) 100 ?_
    repeat' (first
      | refine ⟨_, ⟨rfl, rfl⟩, ?_⟩
      | refine ⟨_, ⟨by assumption, ⟨by first | assumption | (apply sat_bnd <;> assumption), by first | assumption | (apply sat_bnd <;> assumption), by first | assumption | (apply sat_bnd <;> assumption), by first | assumption | (apply sat_bnd <;> assumption), by first | assumption | (apply sat_bnd <;> assumption), by first | assumption | (apply sat_bnd <;> assumption), by first | assumption | (apply sat_bnd <;> assumption), by first | assumption | (apply sat_bnd <;> assumption), by first | assumption | (apply sat_bnd <;> assumption), by first | assumption | (apply sat_bnd <;> assumption)⟩, rfl, rfl⟩, ?_⟩
      | refine ⟨⟨trivial, ?_⟩, trivial⟩
      | fail)
    refine vc_sound (mkE hc T_ok sp6) 100 _ _ _ 10 ?_
    rfl
  · exact hs.elim

end Go.Proofs.Ytfepdagknnoblaa.Sx
