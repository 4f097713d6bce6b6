import Derived.Test.YtjkakcaljklkhaaDoorSxW3
/-
  The walks of this seat's functions, sixth part: both Usuals.
-/
namespace Go.Proofs.YtjkakcaljklkhaaDoor.Sx
open Go Go.Proofs
set_option maxRecDepth 100000
set_option linter.unusedSimpArgs false
set_option linter.unusedVariables false

def sUsualRef : Spec := fun args h nx K => match args with
  | [.int .i64 b] => K (.ret (.agg [.int .i64 b, .int .i64 8, .int .i64 2, .int .i64 16, .int .i64 8, .int .i64 4, .int .i64 4, .int .i64 3, .int .i64 8, .int .i64 32, .int .i64 4, .int .i64 8, .int .i64 16, .int .i64 4])) h nx
  | _ => False

theorem sUsualRef_ok : SpecOK Tryd.prog 12 sUsualRef := by
  refine specOK_pure (fn := Tryd.f12) rfl rfl rfl T_ok (SP := []) noSP [] trivial 200 _ ?_
  intro args h nx K hs
  unfold sUsualRef at hs
  split at hs
  · rename_i b
    refine ⟨trivial, by repeat constructor, by simp [Tryd.f12], fun o => o = .ret (.agg [.int .i64 b, .int .i64 8, .int .i64 2, .int .i64 16, .int .i64 8, .int .i64 4, .int .i64 4, .int .i64 3, .int .i64 8, .int .i64 32, .int .i64 4, .int .i64 8, .int .i64 16, .int .i64 4]), ?_, ?_⟩
    · rintro o rfl; exact ⟨by repeat constructor, hs⟩
    intro c hc
    clear hs
    intro bb
    rfl
  · exact hs.elim

theorem sp4 : ∀ p ∈ ([(11, sOptions)] : SpT), SpecOK Tryd.prog p.1 p.2 := by
  intro p hp
  rcases List.mem_cons.1 hp with rfl | hp
  · exact sOptions_ok
  · cases hp

theorem may_usual (b : Int) : mayB b 8 2 16 8 4 4 3 8 32 4 8 16 4 = inB 1 256 b := by simp [mayB, inB]

def sUsual : Spec := fun args h nx K => match args with
  | [.int .i64 b] => Has h G ∧ br (inB 1 256 b) (K (.ret (.tup [.agg [.int .i64 b, .int .i64 8, .int .i64 2, .int .i64 16, .int .i64 8, .int .i64 4, .int .i64 4, .int .i64 3, .int .i64 8, .int .i64 32, .int .i64 4, .int .i64 8, .int .i64 16, .int .i64 4], .int .i64 0])) h nx) (K (.ret (.tup [.agg [.int .i64 0, .int .i64 0, .int .i64 0, .int .i64 0, .int .i64 0, .int .i64 0, .int .i64 0, .int .i64 0, .int .i64 0, .int .i64 0, .int .i64 0, .int .i64 0, .int .i64 0, .int .i64 0], .int .i64 1])) h nx)
  | _ => False

theorem sUsual_ok : SpecOK Tryd.prog 10 sUsual := by
  refine specOK_pure (fn := Tryd.f10) rfl rfl rfl T_ok (SP := [(11, sOptions)]) sp4 G G_ok 200 _ ?_
  intro args h nx K hs
  unfold sUsual at hs
  split at hs
  · rename_i b
    obtain ⟨hG, hs⟩ := hs
    rcases br_spec hs with ⟨hb, hs⟩ | ⟨hb, hs⟩
    · refine ⟨hG, by repeat constructor, by simp [Tryd.f10], fun o => o = .ret (.tup [.agg [.int .i64 b, .int .i64 8, .int .i64 2, .int .i64 16, .int .i64 8, .int .i64 4, .int .i64 4, .int .i64 3, .int .i64 8, .int .i64 32, .int .i64 4, .int .i64 8, .int .i64 16, .int .i64 4], .int .i64 0]), ?_, ?_⟩
      · rintro o rfl; exact ⟨by repeat constructor, hs⟩
      intro c hc
      intro b1 b2
      refine ⟨G_has, ?_⟩
      refine br_neF (by rw [may_usual, hb]; rfl) ?_
      rfl
    · refine ⟨hG, by repeat constructor, by simp [Tryd.f10], fun o => o = .ret (.tup [.agg [.int .i64 0, .int .i64 0, .int .i64 0, .int .i64 0, .int .i64 0, .int .i64 0, .int .i64 0, .int .i64 0, .int .i64 0, .int .i64 0, .int .i64 0, .int .i64 0, .int .i64 0, .int .i64 0], .int .i64 1]), ?_, ?_⟩
      · rintro o rfl; exact ⟨by repeat constructor, hs⟩
      intro c hc
      intro b1 b2
      refine ⟨G_has, ?_⟩
      refine br_neT (by rw [may_usual, hb]; decide) ?_
      refine congrArg (fun n => Out.ret (.tup [.agg [.int .i64 0, .int .i64 0, .int .i64 0, .int .i64 0, .int .i64 0, .int .i64 0, .int .i64 0, .int .i64 0, .int .i64 0, .int .i64 0, .int .i64 0, .int .i64 0, .int .i64 0, .int .i64 0], .int .i64 n])) ?_
      rw [may_usual, hb]
      rfl
  · exact hs.elim

end Go.Proofs.YtjkakcaljklkhaaDoor.Sx
