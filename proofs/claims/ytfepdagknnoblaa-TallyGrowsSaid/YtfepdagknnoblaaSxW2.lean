import Derived.Test.YtfepdagknnoblaaSxW1
/-
  The walks of this seat's functions, second part: the document's sums of a count, whether one is held, sums of tallies.
-/
namespace Go.Proofs.Ytfepdagknnoblaa.Sx
open Go Go.Proofs
set_option maxRecDepth 100000
set_option linter.unusedSimpArgs false
set_option linter.unusedVariables false

def SP3 : SpT := [(19, sSat), (12, sSame), (11, sSame)]
theorem sp3 : ∀ p ∈ SP3, SpecOK Try.prog p.1 p.2 := consSP sRefAdd_ok (consSP sRefCounts_ok (consSP sCounts_ok noSP))

theorem sRefAddT_ok : SpecOK Try.prog 10 sAdd := by
  refine specOK_pure (fn := Try.f10) rfl rfl rfl T_ok (SP := SP3) sp3 [] trivial 300 _ ?_
  intro args h nx K hs
  unfold sAdd at hs
  split at hs
  · rename_i t0 t1 t2 t3 t4 t5 t6 t7 t8 t9 w n
    obtain ⟨hn, ⟨h0, h1, h2, h3, h4, h5, h6, h7, h8, h9⟩, hs⟩ := hs
    rcases br_spec hs with ⟨e, hs⟩ | ⟨e, hs⟩
    · simp only [Bool.and_eq_true, decide_eq_true_eq] at e
      have hw : w = 0 ∨ w = 1 ∨ w = 2 ∨ w = 3 ∨ w = 4 ∨ w = 5 ∨ w = 6 ∨ w = 7 ∨ w = 8 ∨ w = 9 := by omega
      rcases hw with rfl | rfl | rfl | rfl | rfl | rfl | rfl | rfl | rfl | rfl
      · refine ⟨trivial, by repeat constructor, by simp [Try.f10], fun o => o = .ret (.tup [.agg [.int .u64 (satI t0 n), .int .u64 t1, .int .u64 t2, .int .u64 t3, .int .u64 t4, .int .u64 t5, .int .u64 t6, .int .u64 t7, .int .u64 t8, .int .u64 t9], .int .i64 0]), ?_, ?_⟩
        · rintro o rfl; exact ⟨by repeat constructor, hs⟩
        intro c hc
        clear hs
        intro b b2
        refine ⟨by assumption, by assumption, ?_⟩
        rfl
      · refine ⟨trivial, by repeat constructor, by simp [Try.f10], fun o => o = .ret (.tup [.agg [.int .u64 t0, .int .u64 (satI t1 n), .int .u64 t2, .int .u64 t3, .int .u64 t4, .int .u64 t5, .int .u64 t6, .int .u64 t7, .int .u64 t8, .int .u64 t9], .int .i64 0]), ?_, ?_⟩
        · rintro o rfl; exact ⟨by repeat constructor, hs⟩
        intro c hc
        clear hs
        intro b b2
        refine ⟨by assumption, by assumption, ?_⟩
        rfl
      · refine ⟨trivial, by repeat constructor, by simp [Try.f10], fun o => o = .ret (.tup [.agg [.int .u64 t0, .int .u64 t1, .int .u64 (satI t2 n), .int .u64 t3, .int .u64 t4, .int .u64 t5, .int .u64 t6, .int .u64 t7, .int .u64 t8, .int .u64 t9], .int .i64 0]), ?_, ?_⟩
        · rintro o rfl; exact ⟨by repeat constructor, hs⟩
        intro c hc
        clear hs
        intro b b2
        refine ⟨by assumption, by assumption, ?_⟩
        rfl
      · refine ⟨trivial, by repeat constructor, by simp [Try.f10], fun o => o = .ret (.tup [.agg [.int .u64 t0, .int .u64 t1, .int .u64 t2, .int .u64 (satI t3 n), .int .u64 t4, .int .u64 t5, .int .u64 t6, .int .u64 t7, .int .u64 t8, .int .u64 t9], .int .i64 0]), ?_, ?_⟩
        · rintro o rfl; exact ⟨by repeat constructor, hs⟩
        intro c hc
        clear hs
        intro b b2
        refine ⟨by assumption, by assumption, ?_⟩
        rfl
      · refine ⟨trivial, by repeat constructor, by simp [Try.f10], fun o => o = .ret (.tup [.agg [.int .u64 t0, .int .u64 t1, .int .u64 t2, .int .u64 t3, .int .u64 (satI t4 n), .int .u64 t5, .int .u64 t6, .int .u64 t7, .int .u64 t8, .int .u64 t9], .int .i64 0]), ?_, ?_⟩
        · rintro o rfl; exact ⟨by repeat constructor, hs⟩
        intro c hc
        clear hs
        intro b b2
        refine ⟨by assumption, by assumption, ?_⟩
        rfl
      · refine ⟨trivial, by repeat constructor, by simp [Try.f10], fun o => o = .ret (.tup [.agg [.int .u64 t0, .int .u64 t1, .int .u64 t2, .int .u64 t3, .int .u64 t4, .int .u64 (satI t5 n), .int .u64 t6, .int .u64 t7, .int .u64 t8, .int .u64 t9], .int .i64 0]), ?_, ?_⟩
        · rintro o rfl; exact ⟨by repeat constructor, hs⟩
        intro c hc
        clear hs
        intro b b2
        refine ⟨by assumption, by assumption, ?_⟩
        rfl
      · refine ⟨trivial, by repeat constructor, by simp [Try.f10], fun o => o = .ret (.tup [.agg [.int .u64 t0, .int .u64 t1, .int .u64 t2, .int .u64 t3, .int .u64 t4, .int .u64 t5, .int .u64 (satI t6 n), .int .u64 t7, .int .u64 t8, .int .u64 t9], .int .i64 0]), ?_, ?_⟩
        · rintro o rfl; exact ⟨by repeat constructor, hs⟩
        intro c hc
        clear hs
        intro b b2
        refine ⟨by assumption, by assumption, ?_⟩
        rfl
      · refine ⟨trivial, by repeat constructor, by simp [Try.f10], fun o => o = .ret (.tup [.agg [.int .u64 t0, .int .u64 t1, .int .u64 t2, .int .u64 t3, .int .u64 t4, .int .u64 t5, .int .u64 t6, .int .u64 (satI t7 n), .int .u64 t8, .int .u64 t9], .int .i64 0]), ?_, ?_⟩
        · rintro o rfl; exact ⟨by repeat constructor, hs⟩
        intro c hc
        clear hs
        intro b b2
        refine ⟨by assumption, by assumption, ?_⟩
        rfl
      · refine ⟨trivial, by repeat constructor, by simp [Try.f10], fun o => o = .ret (.tup [.agg [.int .u64 t0, .int .u64 t1, .int .u64 t2, .int .u64 t3, .int .u64 t4, .int .u64 t5, .int .u64 t6, .int .u64 t7, .int .u64 (satI t8 n), .int .u64 t9], .int .i64 0]), ?_, ?_⟩
        · rintro o rfl; exact ⟨by repeat constructor, hs⟩
        intro c hc
        clear hs
        intro b b2
        refine ⟨by assumption, by assumption, ?_⟩
        rfl
      · refine ⟨trivial, by repeat constructor, by simp [Try.f10], fun o => o = .ret (.tup [.agg [.int .u64 t0, .int .u64 t1, .int .u64 t2, .int .u64 t3, .int .u64 t4, .int .u64 t5, .int .u64 t6, .int .u64 t7, .int .u64 t8, .int .u64 (satI t9 n)], .int .i64 0]), ?_, ?_⟩
        · rintro o rfl; exact ⟨by repeat constructor, hs⟩
        intro c hc
        clear hs
        intro b b2
        refine ⟨by assumption, by assumption, ?_⟩
        rfl
    · have e : ¬ (0 ≤ w ∧ w < 10) := by simpa using e
      refine ⟨trivial, by repeat constructor, by simp [Try.f10], fun o => o = .ret (.tup [.agg [.int .u64 t0, .int .u64 t1, .int .u64 t2, .int .u64 t3, .int .u64 t4, .int .u64 t5, .int .u64 t6, .int .u64 t7, .int .u64 t8, .int .u64 t9], .int .i64 1]), ?_, ?_⟩
      · rintro o rfl; exact ⟨by repeat constructor, hs⟩
      intro c hc
      clear hs
      intro b b2
      repeat' (refine br_eqF (by omega) ?_)
      rfl
  · exact hs.elim

def M : Int := 18446744073709551615
/-- Is a count the greatest? -/
def heldB (t0 t1 t2 t3 t4 t5 t6 t7 t8 t9 : Int) : Bool := decide (t0 = 18446744073709551615) || decide (t1 = 18446744073709551615) || decide (t2 = 18446744073709551615) || decide (t3 = 18446744073709551615) || decide (t4 = 18446744073709551615) || decide (t5 = 18446744073709551615) || decide (t6 = 18446744073709551615) || decide (t7 = 18446744073709551615) || decide (t8 = 18446744073709551615) || decide (t9 = 18446744073709551615)
def sHeld : Spec := fun args h nx K => match args with
  | [.agg [.int .u64 t0, .int .u64 t1, .int .u64 t2, .int .u64 t3, .int .u64 t4, .int .u64 t5, .int .u64 t6, .int .u64 t7, .int .u64 t8, .int .u64 t9]] => K (.ret (.bool (heldB t0 t1 t2 t3 t4 t5 t6 t7 t8 t9))) h nx
  | _ => False

theorem sRefHeld_ok : SpecOK Try.prog 14 sHeld := by
  refine specOK_pure (fn := Try.f14) rfl rfl rfl T_ok (SP := SP3) sp3 [] trivial 300 _ ?_
  intro args h nx K hs
  unfold sHeld at hs
  split at hs
  · rename_i t0 t1 t2 t3 t4 t5 t6 t7 t8 t9
    refine ⟨trivial, by repeat constructor, by simp [Try.f14], fun o => o = (.ret (.bool (heldB t0 t1 t2 t3 t4 t5 t6 t7 t8 t9))), ?_, ?_⟩
    · rintro o rfl; exact ⟨by repeat constructor, hs⟩
    intro c hc
    clear hs
    intro b b2
    refine W_unroll 11 10 ?_
    repeat' (first
      | (refine (?_ : br _ _ _); first
        | refine br_eqT (by omega) ?_ | refine br_eqF (by omega) ?_ | refine br_eq (fun _ => ?_) (fun _ => ?_)
        | refine br_both (fun _ => ?_) (fun _ => ?_))
      | refine vc_sound (mkE hc T_ok sp3) 100 _ _ _ 10 ?_
      | fail)
    all_goals refine outB ?_
    all_goals simp_all [heldB]
  · exact hs.elim

def SP4 : SpT := [(25, inl Try.prog Try.f25 (Try.f25.body.get rfl) T [] 100)]
theorem sp4 : ∀ p ∈ SP4, SpecOK Try.prog p.1 p.2 := consSP (inl_ok Try.func25 rfl rfl T_ok noSP 100) noSP
def SP5 : SpT := (22, inl Try.prog Try.f22 (Try.f22.body.get rfl) T SP4 100) :: SP3
theorem sp5 : ∀ p ∈ SP5, SpecOK Try.prog p.1 p.2 := consSP (inl_ok Try.func22 rfl rfl T_ok sp4 100) sp3

theorem sHeld_ok : SpecOK Try.prog 13 sHeld := by
  refine specOK_pure (fn := Try.f13) rfl rfl rfl T_ok (SP := SP5) sp5 [] trivial 300 _ ?_
  intro args h nx K hs
  unfold sHeld at hs
  split at hs
  · rename_i t0 t1 t2 t3 t4 t5 t6 t7 t8 t9
    refine ⟨trivial, by repeat constructor, by simp [Try.f13], fun o => o = (.ret (.bool (heldB t0 t1 t2 t3 t4 t5 t6 t7 t8 t9))), ?_, ?_⟩
    · rintro o rfl; exact ⟨by repeat constructor, hs⟩
    intro c hc
    clear hs
    intro b b2
    refine ⟨rfl, fun c1 hc1 => ?_⟩
    refine ⟨rfl, fun c2 hc2 => ?_⟩
    refine W_unroll 11 10 ?_
    repeat' (first
      | (refine (?_ : br _ _ _); first
        | refine br_eqT (by omega) ?_ | refine br_eqF (by omega) ?_ | refine br_eq (fun _ => ?_) (fun _ => ?_)
        | refine br_both (fun _ => ?_) (fun _ => ?_))
      | refine vc_sound (mkE hc2 T_ok noSP) 100 _ _ _ 10 ?_
      | refine ⟨Ext.refl _, ?_⟩
      | fail)
    all_goals refine outB ?_
    all_goals simp_all [heldB]
    all_goals (first | (simp only [IntKind.wrap_i64]; omega) | omega | grind)
  · exact hs.elim

end Go.Proofs.Ytfepdagknnoblaa.Sx
