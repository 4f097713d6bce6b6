import Derived.Test.YtjkakcaljklkhaaDoorSxW2
/-
  The walks of this seat's functions, third part: May, Op, Count, Run, Usual.
-/
namespace Go.Proofs.YtjkakcaljklkhaaDoor.Sx
open Go Go.Proofs
set_option maxRecDepth 100000
set_option linter.unusedSimpArgs false
set_option linter.unusedVariables false

def sMay : Spec := fun args h nx K => match args with
  | [.agg [.int .i64 a0, .int .i64 a1, .int .i64 a2, .int .i64 a3, .int .i64 a4, .int .i64 a5, .int .i64 a6, .int .i64 a7, .int .i64 a8, .int .i64 a9, .int .i64 a10, .int .i64 a11, .int .i64 a12, .int .i64 a13]] =>
    K (.ret (.bool (mayB a0 a1 a2 a3 a4 a5 a6 a7 a8 a9 a10 a11 a12 a13))) h nx
  | _ => False

theorem sMay_ok : SpecOK Tryd.prog 9 sMay := by
  refine specOK_pure (fn := Tryd.f9) rfl rfl rfl T_ok (SP := []) noSP [] trivial 300 _ ?_
  intro args h nx K hs
  unfold sMay at hs
  split at hs
  · rename_i a0 a1 a2 a3 a4 a5 a6 a7 a8 a9 a10 a11 a12 a13
    refine ⟨trivial, by repeat constructor, by simp [Tryd.f9], fun o => o = .ret (.bool (mayB a0 a1 a2 a3 a4 a5 a6 a7 a8 a9 a10 a11 a12 a13)), ?_, ?_⟩
    · rintro o rfl; exact ⟨trivial, hs⟩
    intro c hc
    clear hs
    intro b
    repeat' (first
      | refine br_both (fun _ => ?_) (fun _ => ?_))
    all_goals refine outB ?_
    all_goals simp_all [mayB, inB]
    all_goals (first | (intros; omega) | grind)
  · exact hs.elim

def countN (k co : Int) (n : Nat) : Int := if k = 2 then (n : Int) else if k = 1 ∨ k = 3 then co else 0
def sCount : Spec := fun args h nx K => match args with
  | [.agg [.int .i64 k, .int .i64 id, .int .i64 fi, .int .i64 co, vs, .bool we]] => (match lenV vs with
    | some n => K (.ret (.int .i64 (countN k co n))) h nx
    | none => False)
  | _ => False

theorem sCount_ok : SpecOK Tryd.prog 19 sCount := by
  refine specOK_pure' (fn := Tryd.f19) rfl rfl rfl T_ok (SP := []) noSP [] trivial 200 _ ?_
  intro args h nx K hs
  unfold sCount at hs
  split at hs
  · rename_i k id fi co vs we
    split at hs
    · rename_i n e
      refine ⟨trivial, fun xs hv => ?_⟩
      obtain ⟨x, xs', rfl, r, rfl⟩ := hv
      obtain ⟨b, cp, r⟩ := opRaw (h' := []) e r
      refine ⟨[.agg [.int .i64 k, .int .i64 id, .int .i64 fi, .int .i64 co, .raw (.slice b n cp), .bool we]], ⟨_, _, rfl, r, rfl⟩, by simp [Tryd.f19], fun o => o = .ret (.int .i64 (countN k co n)), ?_, ?_⟩
      · rintro o rfl; exact ⟨trivial, hs⟩
      intro c hc
      clear hs r
      intro bb
      repeat' (first
        | refine br_both (fun _ => ?_) (fun _ => ?_))
      all_goals refine outI ?_
      all_goals simp_all [countN]
    · exact hs.elim
  · exact hs.elim

/-- What Op says. -/
def opC (bl k id fi co : Int) (n : Nat) (we : Bool) : Int :=
  if inB 1 256 bl = false ∨ sizeB k id fi co n we = false ∨ (k ≠ 4 ∧ k ≠ 5 ∧ inB 1 8 (sizeN k co n) = false) then 1
  else if k ≠ 4 ∧ k ≠ 5 ∧ (fi < 0 ∨ fi > bl - sizeN k co n) then 6 else 0
def sOp : Spec := fun args h nx K => match args with
  | [.int .i64 bl, .agg [.int .i64 k, .int .i64 id, .int .i64 fi, .int .i64 co, vs, .bool we]] => (match lenV vs with
    | some n => Has h G ∧ K (.ret (.int .i64 (opC bl k id fi co n we))) h nx
    | none => False)
  | _ => False

theorem sp2 : ∀ p ∈ ([(17, sIn), (18, sSize), (19, sCount)] : SpT), SpecOK Tryd.prog p.1 p.2 := by
  intro p hp
  rcases List.mem_cons.1 hp with rfl | hp
  · exact sIn_ok
  rcases List.mem_cons.1 hp with rfl | hp
  · exact sSize_ok
  rcases List.mem_cons.1 hp with rfl | hp
  · exact sCount_ok
  · cases hp

theorem sOp_ok : SpecOK Tryd.prog 13 sOp := by
  refine specOK_pure' (fn := Tryd.f13) rfl rfl rfl T_ok (SP := [(17, sIn), (18, sSize), (19, sCount)]) sp2 G G_ok 200 _ ?_
  intro args h nx K hs
  unfold sOp at hs
  split at hs
  · rename_i bl k id fi co vs we
    split at hs
    · rename_i n e
      refine ⟨hs.1, fun xs hv => ?_⟩
      obtain ⟨x0, xs0, rfl, r0, x, xs', rfl, r, rfl⟩ := hv
      obtain ⟨b, cp, r⟩ := opRaw (h' := G) e r
      refine ⟨[.int .i64 bl, .agg [.int .i64 k, .int .i64 id, .int .i64 fi, .int .i64 co, .raw (.slice b n cp), .bool we]], ⟨_, _, rfl, r0, _, _, rfl, r, rfl⟩, by simp [Tryd.f13], fun o => o = .ret (.int .i64 (opC bl k id fi co n we)), ?_, ?_⟩
      · rintro o rfl; exact ⟨trivial, hs.2⟩
      intro c hc
      clear hs r r0 e
      intro bb
      repeat' (first
        | refine br_both (fun _ => ?_) (fun _ => ?_))
      all_goals refine outI ?_
      all_goals unfold opC
      all_goals generalize sizeN k co n = s at *
      all_goals generalize sizeB k id fi co n we = z at *
      all_goals simp only [inB, IntKind.wrap_i64] at *
      all_goals simp_all
      all_goals (first | omega | grind)
    · exact hs.elim
  · exact hs.elim

end Go.Proofs.YtjkakcaljklkhaaDoor.Sx
