import Derived.Test.YtjkakcaljklkhaaDoorSxW5
import Derived.Test.YtjkakcaljklkhaaDoorSxW6
/-
  The walks of this seat's functions, seventh part: awake.
-/
namespace Go.Proofs.YtjkakcaljklkhaaDoor.Sx
open Go Go.Proofs
set_option maxRecDepth 100000
set_option linter.unusedSimpArgs false
set_option linter.unusedVariables false

def SPA : SpT := [(10, sUsual), (11, sOptions), (12, sUsualRef), (13, sOp), (14, sOpRef), (15, sRun), (16, sRunRef), (9, sMay)]
theorem spa : ∀ p ∈ SPA, SpecOK Tryd.prog p.1 p.2 := by
  intro p hp
  rcases List.mem_cons.1 hp with rfl | hp
  · exact sUsual_ok
  rcases List.mem_cons.1 hp with rfl | hp
  · exact sOptions_ok
  rcases List.mem_cons.1 hp with rfl | hp
  · exact sUsualRef_ok
  rcases List.mem_cons.1 hp with rfl | hp
  · exact sOp_ok
  rcases List.mem_cons.1 hp with rfl | hp
  · exact sOpRef_ok
  rcases List.mem_cons.1 hp with rfl | hp
  · exact sRun_ok
  rcases List.mem_cons.1 hp with rfl | hp
  · exact sRunRef_ok
  rcases List.mem_cons.1 hp with rfl | hp
  · exact sMay_ok
  · cases hp

def sAwake : Spec := fun args h nx K => match args with
  | [] => Has h G ∧ K (.ret (.bool true)) h nx
  | _ => False

theorem sAwake_ok : SpecOK Tryd.prog 8 sAwake := by
  refine specOK_pure (fn := Tryd.f8) rfl rfl rfl T_ok (SP := SPA) spa G G_ok 200 _ ?_
  intro args h nx K hs
  unfold sAwake at hs
  split at hs
  · refine ⟨hs.1, trivial, by simp [Tryd.f8], fun o => o = .ret (.bool true), ?_, ?_⟩
    · rintro o rfl; exact ⟨trivial, hs.2⟩
    intro c hc
    clear hs
    refine ⟨⟨⟨rfl, _, _, _, _, rfl⟩, trivial⟩, ?_⟩
    intro b1
    refine ⟨⟨⟨rfl, _, _, _, _, rfl⟩, trivial⟩, ?_⟩
    intro b2 b3 b4 b5
    refine W_drawn (mkE hc T_ok spa) 10 1000 (by rw [hc]; exact mix) (by kernel_rfl) (by kernel_rfl) 100 ?_
    repeat' (first
      | refine ⟨_, ⟨rfl, rfl⟩, ?_⟩
      | refine ⟨_, ⟨⟨⟨rfl, _, _, _, _, rfl⟩, trivial⟩, rfl, rfl⟩, ?_⟩
      | refine ⟨_, ⟨by decide, ⟨⟨rfl, _, _, _, _, rfl⟩, trivial⟩, rfl, rfl⟩, ?_⟩ | fail)
    exact outB (by decide)
  · exact hs.elim

end Go.Proofs.YtjkakcaljklkhaaDoor.Sx
