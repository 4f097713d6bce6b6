import Derived.Test.YtjkakcaljklkhaaDoorSxW4
/-
  The walks of this seat's functions, fifth part: both Runs, both Usuals.
-/
namespace Go.Proofs.YtjkakcaljklkhaaDoor.Sx
open Go Go.Proofs
set_option maxRecDepth 100000
set_option linter.unusedSimpArgs false
set_option linter.unusedVariables false

def runF (k id fi co : Int) (n : Nat) (we : Bool) : Int := if opC 256 k id fi co n we = 0 ∧ sizeN k co n ≠ 0 then fi else 0
def runC (k id fi co : Int) (n : Nat) (we : Bool) : Int := if opC 256 k id fi co n we = 0 ∧ sizeN k co n ≠ 0 then sizeN k co n else 0

theorem run_kinds {k id fi co : Int} {n : Nat} {we : Bool} (h : opC 256 k id fi co n we = 0) : (k ≤ 3 ↔ sizeN k co n ≠ 0) ∧ (k ≤ 3 → countN k co n = sizeN k co n) := by
  rw [← opR_eq] at h
  unfold opR at h
  unfold sizeN countN at *
  repeat' split at h
  all_goals (first | omega | skip)
  all_goals constructor
  all_goals (repeat' split)
  all_goals (try omega)
  all_goals (repeat' split at *)
  all_goals omega

def sRun : Spec := fun args h nx K => match args with
  | [.agg [.int .i64 k, .int .i64 id, .int .i64 fi, .int .i64 co, vs, .bool we]] => (match lenV vs with
    | some n => n ≤ 9223372036854775807 ∧ Has h G ∧ K (.ret (.agg [.int .i64 (runF k id fi co n we), .int .i64 (runC k id fi co n we)])) h nx
    | none => False)
  | _ => False

theorem sp3 : ∀ p ∈ ([(17, sIn), (18, sSize), (19, sCount), (13, sOp), (14, sOpRef)] : SpT), SpecOK Tryd.prog p.1 p.2 := by
  intro p hp
  rcases List.mem_cons.1 hp with rfl | hp
  · exact sIn_ok
  rcases List.mem_cons.1 hp with rfl | hp
  · exact sSize_ok
  rcases List.mem_cons.1 hp with rfl | hp
  · exact sCount_ok
  rcases List.mem_cons.1 hp with rfl | hp
  · exact sOp_ok
  rcases List.mem_cons.1 hp with rfl | hp
  · exact sOpRef_ok
  · cases hp

theorem sRun_ok : SpecOK Tryd.prog 15 sRun := by
  refine specOK_pure' (fn := Tryd.f15) rfl rfl rfl T_ok (SP := [(17, sIn), (18, sSize), (19, sCount), (13, sOp), (14, sOpRef)]) sp3 G G_ok 200 _ ?_
  intro args h nx K hs
  unfold sRun at hs
  split at hs
  · rename_i k id fi co vs we
    split at hs
    · rename_i n e
      refine ⟨hs.2.1, fun xs hv => ?_⟩
      obtain ⟨x, xs', rfl, r, rfl⟩ := hv
      obtain ⟨b, cp, r⟩ := opRaw (h' := G) e r
      refine ⟨[.agg [.int .i64 k, .int .i64 id, .int .i64 fi, .int .i64 co, .raw (.slice b n cp), .bool we]], ⟨_, _, rfl, r, rfl⟩, by simp [Tryd.f15], fun o => o = .ret (.agg [.int .i64 (runF k id fi co n we), .int .i64 (runC k id fi co n we)]), ?_, ?_⟩
      · rintro o rfl; exact ⟨⟨trivial, trivial, trivial⟩, hs.2.2⟩
      intro c hc
      clear hs r e
      intro bb b2
      refine br_eq (fun h1 => ?_) (fun h1 => ?_)
      · refine outAII ?_ ?_
        · rw [runF, if_neg (fun q => q.2 h1)]
        · rw [runC, if_neg (fun q => q.2 h1)]
      · refine ⟨G_has, ?_⟩
        refine br_ne (fun h2 => ?_) (fun h2 => ?_)
        · refine outAII ?_ ?_
          · rw [runF, if_neg (fun q => h2 q.1)]
          · rw [runC, if_neg (fun q => h2 q.1)]
        · refine outAII ?_ ?_
          · rw [runF, if_pos ⟨h2, h1⟩]
          · rw [runC, if_pos ⟨h2, h1⟩]
    · exact hs.elim
  · exact hs.elim

def sRunRef : Spec := fun args h nx K => match args with
  | [.agg [.int .i64 k, .int .i64 id, .int .i64 fi, .int .i64 co, vs, .bool we]] => (match lenV vs with
    | some n => n ≤ 9223372036854775807 ∧ K (.ret (.agg [.int .i64 (runF k id fi co n we), .int .i64 (runC k id fi co n we)])) h nx
    | none => False)
  | _ => False

theorem sRunRef_ok : SpecOK Tryd.prog 16 sRunRef := by
  refine specOK_pure' (fn := Tryd.f16) rfl rfl rfl T_ok (SP := [(17, sIn), (18, sSize), (19, sCount), (13, sOp), (14, sOpRef)]) sp3 [] trivial 200 _ ?_
  intro args h nx K hs
  unfold sRunRef at hs
  split at hs
  · rename_i k id fi co vs we
    split at hs
    · rename_i n e
      refine ⟨trivial, fun xs hv => ?_⟩
      obtain ⟨x, xs', rfl, r, rfl⟩ := hv
      obtain ⟨b, cp, r⟩ := opRaw (h' := []) e r
      refine ⟨[.agg [.int .i64 k, .int .i64 id, .int .i64 fi, .int .i64 co, .raw (.slice b n cp), .bool we]], ⟨_, _, rfl, r, rfl⟩, by simp [Tryd.f16], fun o => o = .ret (.agg [.int .i64 (runF k id fi co n we), .int .i64 (runC k id fi co n we)]), ?_, ?_⟩
      · rintro o rfl; exact ⟨⟨trivial, trivial, trivial⟩, hs.2⟩
      intro c hc
      have hn := hs.1
      clear hs r e
      intro bb b2
      refine ⟨hn, ?_⟩
      refine br_ne (fun h2 => ?_) (fun h2 => ?_)
      · refine outAII ?_ ?_
        · rw [runF, if_neg (fun q => h2 q.1)]
        · rw [runC, if_neg (fun q => h2 q.1)]
      · obtain ⟨q1, q2⟩ := run_kinds h2
        refine br_dec (fun h1 => ?_) (fun h1 => ?_)
        · have q3 : sizeN k co n = 0 := by
            rcases Int.lt_or_le 3 k with q | q
            · exact Classical.byContradiction fun r => absurd (q1.2 r) (by omega)
            · omega
          refine outAII ?_ ?_
          · rw [runF, if_neg (fun q => q.2 q3)]
          · rw [runC, if_neg (fun q => q.2 q3)]
        · have hk : k ≤ 3 := by omega
          refine W_drawn (mkE hc T_ok sp3) 10 5 (by rw [hc]; exact mix) (by kernel_rfl) (by kernel_rfl) 100 ?_
          repeat' (first
            | refine ⟨_, ⟨rfl, rfl⟩, ?_⟩ | fail)
          refine outAII ?_ ?_
          · rw [runF, if_pos ⟨h2, q1.1 hk⟩]
          · rw [runC, if_pos ⟨h2, q1.1 hk⟩, q2 hk]
    · exact hs.elim
  · exact hs.elim

end Go.Proofs.YtjkakcaljklkhaaDoor.Sx
