import Derived.Test.YtmohokeeglnliaaDoorSxV8
/-
  ReportTells, walked.
-/
namespace Go.Proofs.YtmohokeeglnliaaDoor.Sx
open Go Go.Proofs Go.RowKit Go.Sort
set_option maxRecDepth 100000
set_option linter.unusedSimpArgs false
set_option linter.unusedVariables false

def SPT : SpT := [(8, sAwake), (9, sOf), (10, sOf), (11, sLine), (12, sRefLine)]
theorem spt : ∀ p ∈ SPT, SpecOK Tryd.prog p.1 p.2 := consSP sAwake_ok (consSP sOf_ok (consSP sRefOf_ok (consSP sLine_ok (consSP sRefLine_ok noSP))))
def sTells : Spec := fun args h nx K => match args with
  | [.agg [.int .u64 t0, .int .u64 t1, .int .u64 t2, .int .u64 t3, .int .u64 t4, .int .u64 t5, .int .u64 t6, .int .u64 t7, .int .u64 t8, .int .u64 t9], .agg [.int .u64 g0, .int .u64 g1, .int .u64 g2, .int .i64 n3, .int .i64 n4, .int .i64 n5]] => bnd t0 ∧ bnd t4 ∧ bnd g0 ∧ bnd g1 ∧ rng n3 ∧ rng n4 ∧ rng n5 ∧ K (.ret (.bool true)) h nx
  | _ => False
theorem rate_bd (a b : Int) : bnd (rateV a b) := rate_bnd a b
theorem sTells_ok : SpecOK Tryd.prog 3 sTells := by
  refine specOK_pure (fn := Tryd.f3) rfl rfl rfl T_ok (SP := SPT) spt [] trivial 300 _ ?_
  intro args h nx K hs
  unfold sTells at hs
  split at hs
  · rename_i t0 t1 t2 t3 t4 t5 t6 t7 t8 t9 g0 g1 g2 n3 n4 n5
    obtain ⟨h0, h4, k0, k1, m3, m4, m5, hk⟩ := hs
    refine ⟨trivial, by repeat constructor, by simp [Tryd.f3], fun o => o = .ret (.bool true), ?_, ?_⟩
    · rintro o rfl; exact ⟨trivial, hk⟩
    intro c hc
    clear hk
    intro b0 b1
    refine ⟨rfl, ?_⟩
    obtain ⟨a0, r0⟩ : ∃ a, a = rateV t1 (subV t0 t4) := ⟨_, rfl⟩
    obtain ⟨a1, r1⟩ : ∃ a, a = rateV t6 t5 := ⟨_, rfl⟩
    obtain ⟨a2, r2⟩ : ∃ a, a = rateV t2 (subV t0 t4) := ⟨_, rfl⟩
    obtain ⟨q3, p3⟩ : ∃ a, a = percV a0.toNat := ⟨_, rfl⟩
    obtain ⟨q4, p4⟩ : ∃ a, a = percV a1.toNat := ⟨_, rfl⟩
    obtain ⟨q5, p5⟩ : ∃ a, a = percV (rateV t9 t5).toNat := ⟨_, rfl⟩
    have eL : ofL t0 t1 t2 t4 t5 t6 t9 = [.int .u64 a0, .int .u64 a1, .int .u64 a2, .int .i64 q3, .int .i64 q4, .int .i64 q5] := by
      rw [p3, p4, p5, r0, r1, r2]; rfl
    have x3 : rng q3 := by rw [p3]; exact perc_rng _
    have x4 : rng q4 := by rw [p4]; exact perc_rng _
    have x5 : rng q5 := by rw [p5]; exact perc_rng _
    have y0 : bnd a0 := by rw [r0]; exact rate_bnd _ _
    have y1 : bnd a1 := by rw [r1]; exact rate_bnd _ _
    clear r0 r1 r2 p3 p4 p5
    obtain ⟨s1, e1⟩ : ∃ s, s = lineS g0 g1 n3 n4 n5 := ⟨_, rfl⟩
    obtain ⟨s2, e2⟩ : ∃ s, s = lineS a0 a1 q3 q4 q5 := ⟨_, rfl⟩
    refine W_plan (mkE hc T_ok spt) 2 21 (lineP 0 21 (oneP 21 .done)) (by rw [hc]; exact mix) (by kernel_rfl) 200 ?_
    refine ⟨_, ⟨rfl, rfl⟩, ?_⟩
    refine ⟨.agg [.int .u64 a0, .int .u64 a1, .int .u64 a2, .int .i64 q3, .int .i64 q4, .int .i64 q5], ⟨h0, h4, congrArg V.agg eL, rfl⟩, ?_⟩
    refine ⟨_, ⟨rfl, rfl⟩, ?_⟩
    refine ⟨.agg [.int .u64 a0, .int .u64 a1, .int .u64 a2, .int .i64 q3, .int .i64 q4, .int .i64 q5], ⟨h0, h4, congrArg V.agg eL, rfl⟩, ?_⟩
    refine ⟨.bool true, ⟨congrArg V.bool (show (a0 == a0 && (a1 == a1 && (a2 == a2 && (q3 == q3 && (q4 == q4 && (q5 == q5 && true)))))) = true by simp), rfl⟩, ?_⟩
    refine ⟨_, ⟨rfl, rfl⟩, ?_⟩
    refine ⟨_, ⟨rfl, rfl⟩, ?_⟩
    refine ⟨.str s1, ⟨m3, m4, m5, fun s hs => ⟨congrArg V.str (hs.trans e1.symm), rfl⟩⟩, ?_⟩
    refine ⟨_, ⟨rfl, rfl⟩, ?_⟩
    refine ⟨.str s1, ⟨k0, k1, m3, m4, m5, fun s hs => ⟨congrArg V.str (hs.trans e1.symm), rfl⟩⟩, ?_⟩
    refine ⟨.bool true, ⟨congrArg V.bool (show (s1.toList == s1.toList) = true by simp), rfl⟩, ?_⟩
    refine ⟨_, ⟨rfl, rfl⟩, ?_⟩
    refine ⟨_, ⟨rfl, rfl⟩, ?_⟩
    refine ⟨_, ⟨rfl, rfl⟩, ?_⟩
    refine ⟨.agg [.int .u64 a0, .int .u64 a1, .int .u64 a2, .int .i64 q3, .int .i64 q4, .int .i64 q5], ⟨h0, h4, congrArg V.agg eL, rfl⟩, ?_⟩
    refine ⟨.str s2, ⟨x3, x4, x5, fun s hs => ⟨congrArg V.str (hs.trans e2.symm), rfl⟩⟩, ?_⟩
    refine ⟨_, ⟨rfl, rfl⟩, ?_⟩
    refine ⟨.agg [.int .u64 a0, .int .u64 a1, .int .u64 a2, .int .i64 q3, .int .i64 q4, .int .i64 q5], ⟨h0, h4, congrArg V.agg eL, rfl⟩, ?_⟩
    refine ⟨.str s2, ⟨y0, y1, x3, x4, x5, fun s hs => ⟨congrArg V.str (hs.trans e2.symm), rfl⟩⟩, ?_⟩
    refine ⟨.bool true, ⟨congrArg V.bool (show (s2.toList == s2.toList) = true by simp), rfl⟩, ?_⟩
    refine ⟨_, ⟨rfl, rfl⟩, ?_⟩
    refine ⟨⟨trivial, ?_⟩, trivial⟩
    exact outB rfl
  · exact hs.elim
end Go.Proofs.YtmohokeeglnliaaDoor.Sx
