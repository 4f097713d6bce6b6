import Derived.Test.YtfepdagknnoblaaSxW6
/-
  The walks of this seat's functions, seventh part: the law TallySums.
-/
namespace Go.Proofs.Ytfepdagknnoblaa.Sx
open Go Go.Proofs
set_option maxRecDepth 100000
set_option linter.unusedSimpArgs false
set_option linter.unusedVariables false
set_option linter.unnecessarySimpa false

theorem sat_comm (a b : Int) : satI a b = satI b a := by unfold satI; rw [Int.add_comm]

def sLaw4 : Spec := fun args h nx K => match args with
  | [.agg [.int .u64 t0, .int .u64 t1, .int .u64 t2, .int .u64 t3, .int .u64 t4, .int .u64 t5, .int .u64 t6, .int .u64 t7, .int .u64 t8, .int .u64 t9], .agg [.int .u64 u0, .int .u64 u1, .int .u64 u2, .int .u64 u3, .int .u64 u4, .int .u64 u5, .int .u64 u6, .int .u64 u7, .int .u64 u8, .int .u64 u9], .agg [.int .u64 r, .int .u64 f]] => (bnd t0 ∧ bnd t1 ∧ bnd t2 ∧ bnd t3 ∧ bnd t4 ∧ bnd t5 ∧ bnd t6 ∧ bnd t7 ∧ bnd t8 ∧ bnd t9) ∧ (bnd u0 ∧ bnd u1 ∧ bnd u2 ∧ bnd u3 ∧ bnd u4 ∧ bnd u5 ∧ bnd u6 ∧ bnd u7 ∧ bnd u8 ∧ bnd u9) ∧ bnd r ∧ bnd f ∧ K (.ret (.bool true)) h nx
  | _ => False

set_option maxHeartbeats 4000000 in
theorem sLaw4_ok : SpecOK Try.prog 4 sLaw4 := by
  refine specOK_pure (fn := Try.f4) rfl rfl rfl T_ok (SP := SPL) spl_ok [] trivial 400 _ ?_
  intro args h nx K hs
  unfold sLaw4 at hs
  split at hs
  · rename_i t0 t1 t2 t3 t4 t5 t6 t7 t8 t9 u0 u1 u2 u3 u4 u5 u6 u7 u8 u9 r f
    obtain ⟨⟨h0, h1, h2, h3, h4, h5, h6, h7, h8, h9⟩, ⟨k0, k1, k2, k3, k4, k5, k6, k7, k8, k9⟩, hr, hf, hk⟩ := hs
    refine ⟨trivial, by repeat constructor, by simp [Try.f4], fun o => o = .ret (.bool true), ?_, ?_⟩
    · rintro o rfl; exact ⟨trivial, hk⟩
    intro c hc
    clear hk
    have hw : True := trivial
    repeat' (first
      | (refine (?_ : br _ _ _); first
        | refine br_t (by simpa using hw) ?_ | refine br_f (by simpa using hw) ?_
        | refine br_decT (by omega) ?_ | refine br_decF (by omega) ?_ | refine br_dec (fun _ => ?_) (fun _ => ?_)
        | refine br_eqT (by omega) ?_ | refine br_eqF (by omega) ?_ | refine br_eq (fun _ => ?_) (fun _ => ?_)
        | refine br_neT (by omega) ?_ | refine br_neF (by omega) ?_ | refine br_ne (fun _ => ?_) (fun _ => ?_)
        | refine br_both (fun _ => ?_) (fun _ => ?_))
      | refine ⟨_, ⟨rfl, rfl⟩, ?_⟩
      | refine ⟨⟨by repeat' (first | assumption | exact ⟨by decide, by decide⟩ | apply sat_bnd), by repeat' (first | assumption | exact ⟨by decide, by decide⟩ | apply sat_bnd), by repeat' (first | assumption | exact ⟨by decide, by decide⟩ | apply sat_bnd), by repeat' (first | assumption | exact ⟨by decide, by decide⟩ | apply sat_bnd), by repeat' (first | assumption | exact ⟨by decide, by decide⟩ | apply sat_bnd), by repeat' (first | assumption | exact ⟨by decide, by decide⟩ | apply sat_bnd), by repeat' (first | assumption | exact ⟨by decide, by decide⟩ | apply sat_bnd), by repeat' (first | assumption | exact ⟨by decide, by decide⟩ | apply sat_bnd), by repeat' (first | assumption | exact ⟨by decide, by decide⟩ | apply sat_bnd), by repeat' (first | assumption | exact ⟨by decide, by decide⟩ | apply sat_bnd)⟩, by repeat' (first | assumption | exact ⟨by decide, by decide⟩ | apply sat_bnd), by repeat' (first | assumption | exact ⟨by decide, by decide⟩ | apply sat_bnd), ?_⟩
      | refine ⟨⟨by repeat' (first | assumption | exact ⟨by decide, by decide⟩ | apply sat_bnd), by repeat' (first | assumption | exact ⟨by decide, by decide⟩ | apply sat_bnd), by repeat' (first | assumption | exact ⟨by decide, by decide⟩ | apply sat_bnd), by repeat' (first | assumption | exact ⟨by decide, by decide⟩ | apply sat_bnd), by repeat' (first | assumption | exact ⟨by decide, by decide⟩ | apply sat_bnd), by repeat' (first | assumption | exact ⟨by decide, by decide⟩ | apply sat_bnd), by repeat' (first | assumption | exact ⟨by decide, by decide⟩ | apply sat_bnd), by repeat' (first | assumption | exact ⟨by decide, by decide⟩ | apply sat_bnd), by repeat' (first | assumption | exact ⟨by decide, by decide⟩ | apply sat_bnd), by repeat' (first | assumption | exact ⟨by decide, by decide⟩ | apply sat_bnd)⟩, ⟨by repeat' (first | assumption | exact ⟨by decide, by decide⟩ | apply sat_bnd), by repeat' (first | assumption | exact ⟨by decide, by decide⟩ | apply sat_bnd), by repeat' (first | assumption | exact ⟨by decide, by decide⟩ | apply sat_bnd), by repeat' (first | assumption | exact ⟨by decide, by decide⟩ | apply sat_bnd), by repeat' (first | assumption | exact ⟨by decide, by decide⟩ | apply sat_bnd), by repeat' (first | assumption | exact ⟨by decide, by decide⟩ | apply sat_bnd), by repeat' (first | assumption | exact ⟨by decide, by decide⟩ | apply sat_bnd), by repeat' (first | assumption | exact ⟨by decide, by decide⟩ | apply sat_bnd), by repeat' (first | assumption | exact ⟨by decide, by decide⟩ | apply sat_bnd), by repeat' (first | assumption | exact ⟨by decide, by decide⟩ | apply sat_bnd)⟩, ?_⟩
      | refine ⟨by repeat' (first | assumption | exact ⟨by decide, by decide⟩ | apply sat_bnd), ⟨by repeat' (first | assumption | exact ⟨by decide, by decide⟩ | apply sat_bnd), by repeat' (first | assumption | exact ⟨by decide, by decide⟩ | apply sat_bnd), by repeat' (first | assumption | exact ⟨by decide, by decide⟩ | apply sat_bnd), by repeat' (first | assumption | exact ⟨by decide, by decide⟩ | apply sat_bnd), by repeat' (first | assumption | exact ⟨by decide, by decide⟩ | apply sat_bnd), by repeat' (first | assumption | exact ⟨by decide, by decide⟩ | apply sat_bnd), by repeat' (first | assumption | exact ⟨by decide, by decide⟩ | apply sat_bnd), by repeat' (first | assumption | exact ⟨by decide, by decide⟩ | apply sat_bnd), by repeat' (first | assumption | exact ⟨by decide, by decide⟩ | apply sat_bnd), by repeat' (first | assumption | exact ⟨by decide, by decide⟩ | apply sat_bnd)⟩, ?_⟩
      | refine ⟨_, ⟨⟨by repeat' (first | assumption | exact ⟨by decide, by decide⟩ | apply sat_bnd), by repeat' (first | assumption | exact ⟨by decide, by decide⟩ | apply sat_bnd), by repeat' (first | assumption | exact ⟨by decide, by decide⟩ | apply sat_bnd), by repeat' (first | assumption | exact ⟨by decide, by decide⟩ | apply sat_bnd), by repeat' (first | assumption | exact ⟨by decide, by decide⟩ | apply sat_bnd), by repeat' (first | assumption | exact ⟨by decide, by decide⟩ | apply sat_bnd), by repeat' (first | assumption | exact ⟨by decide, by decide⟩ | apply sat_bnd), by repeat' (first | assumption | exact ⟨by decide, by decide⟩ | apply sat_bnd), by repeat' (first | assumption | exact ⟨by decide, by decide⟩ | apply sat_bnd), by repeat' (first | assumption | exact ⟨by decide, by decide⟩ | apply sat_bnd)⟩, ⟨by repeat' (first | assumption | exact ⟨by decide, by decide⟩ | apply sat_bnd), by repeat' (first | assumption | exact ⟨by decide, by decide⟩ | apply sat_bnd), by repeat' (first | assumption | exact ⟨by decide, by decide⟩ | apply sat_bnd), by repeat' (first | assumption | exact ⟨by decide, by decide⟩ | apply sat_bnd), by repeat' (first | assumption | exact ⟨by decide, by decide⟩ | apply sat_bnd), by repeat' (first | assumption | exact ⟨by decide, by decide⟩ | apply sat_bnd), by repeat' (first | assumption | exact ⟨by decide, by decide⟩ | apply sat_bnd), by repeat' (first | assumption | exact ⟨by decide, by decide⟩ | apply sat_bnd), by repeat' (first | assumption | exact ⟨by decide, by decide⟩ | apply sat_bnd), by repeat' (first | assumption | exact ⟨by decide, by decide⟩ | apply sat_bnd)⟩, rfl, rfl⟩, ?_⟩
      | refine ⟨_, ⟨by repeat' (first | assumption | exact ⟨by decide, by decide⟩ | apply sat_bnd), ⟨by repeat' (first | assumption | exact ⟨by decide, by decide⟩ | apply sat_bnd), by repeat' (first | assumption | exact ⟨by decide, by decide⟩ | apply sat_bnd), by repeat' (first | assumption | exact ⟨by decide, by decide⟩ | apply sat_bnd), by repeat' (first | assumption | exact ⟨by decide, by decide⟩ | apply sat_bnd), by repeat' (first | assumption | exact ⟨by decide, by decide⟩ | apply sat_bnd), by repeat' (first | assumption | exact ⟨by decide, by decide⟩ | apply sat_bnd), by repeat' (first | assumption | exact ⟨by decide, by decide⟩ | apply sat_bnd), by repeat' (first | assumption | exact ⟨by decide, by decide⟩ | apply sat_bnd), by repeat' (first | assumption | exact ⟨by decide, by decide⟩ | apply sat_bnd), by repeat' (first | assumption | exact ⟨by decide, by decide⟩ | apply sat_bnd)⟩, rfl, rfl⟩, ?_⟩
      | refine ⟨_, ⟨by repeat' (first | assumption | exact ⟨by decide, by decide⟩ | apply sat_bnd), by repeat' (first | assumption | exact ⟨by decide, by decide⟩ | apply sat_bnd), rfl, rfl⟩, ?_⟩
      | refine W_drawn (mkE hc T_ok spl_ok) 20 1000 (by rw [hc]; exact mix) (by kernel_rfl) (by kernel_rfl) 200 ?_
      | intro _
      | fail)
    all_goals refine outB ?_
    all_goals simp_all [sat_comm]
  · exact hs.elim

end Go.Proofs.Ytfepdagknnoblaa.Sx
