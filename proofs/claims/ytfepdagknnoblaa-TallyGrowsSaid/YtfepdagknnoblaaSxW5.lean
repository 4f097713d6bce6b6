import Derived.Test.YtfepdagknnoblaaSxW4
/-
  The walks of this seat's functions, fifth part: whether a tally adds up, by the program.
-/
namespace Go.Proofs.Ytfepdagknnoblaa.Sx
open Go Go.Proofs
set_option maxRecDepth 100000
set_option linter.unusedSimpArgs false
set_option linter.unusedVariables false

theorem bnd0 : bnd 0 := ⟨by decide, by decide⟩
def SPS : SpT := [(24, sSat)]
theorem spS : ∀ p ∈ SPS, SpecOK Try.prog p.1 p.2 := consSP sSat_ok noSP
def SP7 : SpT := [(23, inlq Try.prog Try.f23 (Try.f23.body.get rfl) T SPS 200), (11, sSame)]
theorem sp7 : ∀ p ∈ SP7, SpecOK Try.prog p.1 p.2 := consSP (inlq_ok Try.func23 rfl rfl T_ok spS 200) (consSP sCounts_ok noSP)
def planS : Plan := .take 0 (.take 1 (.take 2 (.take 6 (.take 7 (.take 8 (.take 10 (.take 11 (.all (.cons 3 (.take 4 (.take 5 (.all (.cons 9 (.all (.cons 12 (.take 13 (.take 14 (.take 15 (.take 16 (.done))))) (.nil))) (.cons 12 (.all (.cons 9 (.take 13 (.take 14 (.take 15 (.take 16 (.done))))) (.nil))) (.nil)))))) (.cons 9 (.all (.cons 3 (.take 4 (.take 5 (.all (.cons 12 (.take 13 (.take 14 (.take 15 (.take 16 (.done))))) (.nil))))) (.cons 12 (.all (.cons 3 (.take 4 (.take 5 (.take 13 (.take 14 (.take 15 (.take 16 (.done))))))) (.nil))) (.nil)))) (.cons 12 (.all (.cons 3 (.take 4 (.take 5 (.all (.cons 9 (.take 13 (.take 14 (.take 15 (.take 16 (.done))))) (.nil))))) (.cons 9 (.all (.cons 3 (.take 4 (.take 5 (.take 13 (.take 14 (.take 15 (.take 16 (.done))))))) (.nil))) (.nil)))) (.nil))))))))))))

set_option maxHeartbeats 2000000 in
theorem sSound_ok : SpecOK Try.prog 15 sSound := by
  refine specOK_pure (fn := Try.f15) rfl rfl rfl T_ok (SP := SP7) sp7 [] trivial 300 _ ?_
  intro args h nx K hs
  unfold sSound at hs
  split at hs
  · rename_i t0 t1 t2 t3 t4 t5 t6 t7 t8 t9 r f
    obtain ⟨⟨h0, h1, h2, h3, h4, h5, h6, h7, h8, h9⟩, kr, kf, hs⟩ := hs
    refine ⟨trivial, by repeat constructor, by simp [Try.f15], fun o => o = .ret (.tup [.bool (sndA t0 t1 t2 t3 t4 t5 t6 t7 t8 t9), .bool (sndB t0 t1 t2 t3 t4 t5 t6 t7 t8 t9 r f)]), ?_, ?_⟩
    · rintro o rfl; exact ⟨by repeat constructor, hs⟩
    intro c hc
    clear hs
    intro b b2
    refine W_plan (mkE hc T_ok sp7) 10 1000 planS (by rw [hc]; exact mix) (by kernel_rfl) 100 ?_
    refine ⟨_, ⟨rfl, rfl⟩, ?_⟩
    refine ⟨_, ⟨rfl, rfl⟩, ?_⟩
    refine ⟨_, ⟨rfl, rfl⟩, ?_⟩
    refine ⟨_, ⟨rfl, rfl⟩, ?_⟩
    refine ⟨_, ⟨rfl, rfl⟩, ?_⟩
    refine ⟨_, ⟨rfl, rfl⟩, ?_⟩
    refine ⟨_, ⟨rfl, rfl⟩, ?_⟩
    refine ⟨_, ⟨rfl, rfl⟩, ?_⟩
    refine ⟨⟨fun _ => trivial, fun _ => ?_⟩, ?_⟩
    · refine ⟨.int .u64 (satI (satI (satI (satI 0 t1) t2) t3) t4), ⟨rfl, .ret (.int .u64 (satI (satI (satI (satI 0 t1) t2) t3) t4)), trivial, ⟨rfl, rfl⟩, fun c1 hc1 => ?_⟩, ?_⟩
      · intro _
        repeat' (first
          | refine W_unroll 6 20 ?_
          | refine ⟨by repeat' (first | assumption | exact bnd0 | apply sat_bnd), by repeat' (first | assumption | exact bnd0 | apply sat_bnd), ?_⟩
          | refine vc_sound (mkE hc1 T_ok spS) 100 _ _ _ 20 ?_
          | fail)
        rfl
      refine ⟨_, ⟨rfl, rfl⟩, ?_⟩
      refine ⟨⟨fun _ => trivial, fun _ => ?_⟩, ?_⟩
      · refine ⟨⟨fun _ => trivial, fun _ => ?_⟩, ?_⟩
        · refine ⟨.int .u64 (satI (satI (satI (satI (satI (satI 0 t6) t7) t8) t9) r) f), ⟨rfl, .ret (.int .u64 (satI (satI (satI (satI (satI (satI 0 t6) t7) t8) t9) r) f)), trivial, ⟨rfl, rfl⟩, fun c1 hc1 => ?_⟩, ?_⟩
          · intro _
            repeat' (first
              | refine W_unroll 6 20 ?_
              | refine ⟨by repeat' (first | assumption | exact bnd0 | apply sat_bnd), by repeat' (first | assumption | exact bnd0 | apply sat_bnd), ?_⟩
              | refine vc_sound (mkE hc1 T_ok spS) 100 _ _ _ 20 ?_
              | fail)
            rfl
          refine ⟨_, ⟨rfl, rfl⟩, ?_⟩
          refine ⟨_, ⟨rfl, rfl⟩, ?_⟩
          refine ⟨_, ⟨rfl, rfl⟩, ?_⟩
          exact outBB rfl rfl
        exact trivial
      refine ⟨⟨fun _ => trivial, fun _ => ?_⟩, ?_⟩
      · refine ⟨⟨fun _ => trivial, fun _ => ?_⟩, ?_⟩
        · refine ⟨.int .u64 (satI (satI (satI (satI (satI (satI 0 t6) t7) t8) t9) r) f), ⟨rfl, .ret (.int .u64 (satI (satI (satI (satI (satI (satI 0 t6) t7) t8) t9) r) f)), trivial, ⟨rfl, rfl⟩, fun c1 hc1 => ?_⟩, ?_⟩
          · intro _
            repeat' (first
              | refine W_unroll 6 20 ?_
              | refine ⟨by repeat' (first | assumption | exact bnd0 | apply sat_bnd), by repeat' (first | assumption | exact bnd0 | apply sat_bnd), ?_⟩
              | refine vc_sound (mkE hc1 T_ok spS) 100 _ _ _ 20 ?_
              | fail)
            rfl
          refine ⟨_, ⟨rfl, rfl⟩, ?_⟩
          refine ⟨_, ⟨rfl, rfl⟩, ?_⟩
          refine ⟨_, ⟨rfl, rfl⟩, ?_⟩
          exact outBB rfl rfl
        exact trivial
      exact trivial
    refine ⟨⟨fun _ => trivial, fun _ => ?_⟩, ?_⟩
    · refine ⟨⟨fun _ => trivial, fun _ => ?_⟩, ?_⟩
      · refine ⟨.int .u64 (satI (satI (satI (satI 0 t1) t2) t3) t4), ⟨rfl, .ret (.int .u64 (satI (satI (satI (satI 0 t1) t2) t3) t4)), trivial, ⟨rfl, rfl⟩, fun c1 hc1 => ?_⟩, ?_⟩
        · intro _
          repeat' (first
            | refine W_unroll 6 20 ?_
            | refine ⟨by repeat' (first | assumption | exact bnd0 | apply sat_bnd), by repeat' (first | assumption | exact bnd0 | apply sat_bnd), ?_⟩
            | refine vc_sound (mkE hc1 T_ok spS) 100 _ _ _ 20 ?_
            | fail)
          rfl
        refine ⟨_, ⟨rfl, rfl⟩, ?_⟩
        refine ⟨⟨fun _ => trivial, fun _ => ?_⟩, ?_⟩
        · refine ⟨.int .u64 (satI (satI (satI (satI (satI (satI 0 t6) t7) t8) t9) r) f), ⟨rfl, .ret (.int .u64 (satI (satI (satI (satI (satI (satI 0 t6) t7) t8) t9) r) f)), trivial, ⟨rfl, rfl⟩, fun c1 hc1 => ?_⟩, ?_⟩
          · intro _
            repeat' (first
              | refine W_unroll 6 20 ?_
              | refine ⟨by repeat' (first | assumption | exact bnd0 | apply sat_bnd), by repeat' (first | assumption | exact bnd0 | apply sat_bnd), ?_⟩
              | refine vc_sound (mkE hc1 T_ok spS) 100 _ _ _ 20 ?_
              | fail)
            rfl
          refine ⟨_, ⟨rfl, rfl⟩, ?_⟩
          refine ⟨_, ⟨rfl, rfl⟩, ?_⟩
          refine ⟨_, ⟨rfl, rfl⟩, ?_⟩
          exact outBB rfl rfl
        exact trivial
      refine ⟨⟨fun _ => trivial, fun _ => ?_⟩, ?_⟩
      · refine ⟨⟨fun _ => trivial, fun _ => ?_⟩, ?_⟩
        · refine ⟨.int .u64 (satI (satI (satI (satI 0 t1) t2) t3) t4), ⟨rfl, .ret (.int .u64 (satI (satI (satI (satI 0 t1) t2) t3) t4)), trivial, ⟨rfl, rfl⟩, fun c1 hc1 => ?_⟩, ?_⟩
          · intro _
            repeat' (first
              | refine W_unroll 6 20 ?_
              | refine ⟨by repeat' (first | assumption | exact bnd0 | apply sat_bnd), by repeat' (first | assumption | exact bnd0 | apply sat_bnd), ?_⟩
              | refine vc_sound (mkE hc1 T_ok spS) 100 _ _ _ 20 ?_
              | fail)
            rfl
          refine ⟨_, ⟨rfl, rfl⟩, ?_⟩
          refine ⟨.int .u64 (satI (satI (satI (satI (satI (satI 0 t6) t7) t8) t9) r) f), ⟨rfl, .ret (.int .u64 (satI (satI (satI (satI (satI (satI 0 t6) t7) t8) t9) r) f)), trivial, ⟨rfl, rfl⟩, fun c1 hc1 => ?_⟩, ?_⟩
          · intro _
            repeat' (first
              | refine W_unroll 6 20 ?_
              | refine ⟨by repeat' (first | assumption | exact bnd0 | apply sat_bnd), by repeat' (first | assumption | exact bnd0 | apply sat_bnd), ?_⟩
              | refine vc_sound (mkE hc1 T_ok spS) 100 _ _ _ 20 ?_
              | fail)
            rfl
          refine ⟨_, ⟨rfl, rfl⟩, ?_⟩
          refine ⟨_, ⟨rfl, rfl⟩, ?_⟩
          refine ⟨_, ⟨rfl, rfl⟩, ?_⟩
          exact outBB rfl rfl
        exact trivial
      exact trivial
    refine ⟨⟨fun _ => trivial, fun _ => ?_⟩, ?_⟩
    · refine ⟨⟨fun _ => trivial, fun _ => ?_⟩, ?_⟩
      · refine ⟨.int .u64 (satI (satI (satI (satI 0 t1) t2) t3) t4), ⟨rfl, .ret (.int .u64 (satI (satI (satI (satI 0 t1) t2) t3) t4)), trivial, ⟨rfl, rfl⟩, fun c1 hc1 => ?_⟩, ?_⟩
        · intro _
          repeat' (first
            | refine W_unroll 6 20 ?_
            | refine ⟨by repeat' (first | assumption | exact bnd0 | apply sat_bnd), by repeat' (first | assumption | exact bnd0 | apply sat_bnd), ?_⟩
            | refine vc_sound (mkE hc1 T_ok spS) 100 _ _ _ 20 ?_
            | fail)
          rfl
        refine ⟨_, ⟨rfl, rfl⟩, ?_⟩
        refine ⟨⟨fun _ => trivial, fun _ => ?_⟩, ?_⟩
        · refine ⟨.int .u64 (satI (satI (satI (satI (satI (satI 0 t6) t7) t8) t9) r) f), ⟨rfl, .ret (.int .u64 (satI (satI (satI (satI (satI (satI 0 t6) t7) t8) t9) r) f)), trivial, ⟨rfl, rfl⟩, fun c1 hc1 => ?_⟩, ?_⟩
          · intro _
            repeat' (first
              | refine W_unroll 6 20 ?_
              | refine ⟨by repeat' (first | assumption | exact bnd0 | apply sat_bnd), by repeat' (first | assumption | exact bnd0 | apply sat_bnd), ?_⟩
              | refine vc_sound (mkE hc1 T_ok spS) 100 _ _ _ 20 ?_
              | fail)
            rfl
          refine ⟨_, ⟨rfl, rfl⟩, ?_⟩
          refine ⟨_, ⟨rfl, rfl⟩, ?_⟩
          refine ⟨_, ⟨rfl, rfl⟩, ?_⟩
          exact outBB rfl rfl
        exact trivial
      refine ⟨⟨fun _ => trivial, fun _ => ?_⟩, ?_⟩
      · refine ⟨⟨fun _ => trivial, fun _ => ?_⟩, ?_⟩
        · refine ⟨.int .u64 (satI (satI (satI (satI 0 t1) t2) t3) t4), ⟨rfl, .ret (.int .u64 (satI (satI (satI (satI 0 t1) t2) t3) t4)), trivial, ⟨rfl, rfl⟩, fun c1 hc1 => ?_⟩, ?_⟩
          · intro _
            repeat' (first
              | refine W_unroll 6 20 ?_
              | refine ⟨by repeat' (first | assumption | exact bnd0 | apply sat_bnd), by repeat' (first | assumption | exact bnd0 | apply sat_bnd), ?_⟩
              | refine vc_sound (mkE hc1 T_ok spS) 100 _ _ _ 20 ?_
              | fail)
            rfl
          refine ⟨_, ⟨rfl, rfl⟩, ?_⟩
          refine ⟨.int .u64 (satI (satI (satI (satI (satI (satI 0 t6) t7) t8) t9) r) f), ⟨rfl, .ret (.int .u64 (satI (satI (satI (satI (satI (satI 0 t6) t7) t8) t9) r) f)), trivial, ⟨rfl, rfl⟩, fun c1 hc1 => ?_⟩, ?_⟩
          · intro _
            repeat' (first
              | refine W_unroll 6 20 ?_
              | refine ⟨by repeat' (first | assumption | exact bnd0 | apply sat_bnd), by repeat' (first | assumption | exact bnd0 | apply sat_bnd), ?_⟩
              | refine vc_sound (mkE hc1 T_ok spS) 100 _ _ _ 20 ?_
              | fail)
            rfl
          refine ⟨_, ⟨rfl, rfl⟩, ?_⟩
          refine ⟨_, ⟨rfl, rfl⟩, ?_⟩
          refine ⟨_, ⟨rfl, rfl⟩, ?_⟩
          exact outBB rfl rfl
        exact trivial
      exact trivial
    exact trivial
  · exact hs.elim

end Go.Proofs.Ytfepdagknnoblaa.Sx
