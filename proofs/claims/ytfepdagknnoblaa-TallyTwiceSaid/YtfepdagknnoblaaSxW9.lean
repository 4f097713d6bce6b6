import Derived.Test.YtfepdagknnoblaaSxW8
/-
  The walks of this seat's functions, ninth part: the law TallyTwice.
-/
namespace Go.Proofs.Ytfepdagknnoblaa.Sx
open Go Go.Proofs
set_option maxRecDepth 100000
set_option linter.unusedSimpArgs false
set_option linter.unusedVariables false
set_option linter.unnecessarySimpa false

theorem sat_assoc {a b c : Int} (ha : bnd a) (hb : bnd b) (hc : bnd c) : satI (satI a b) c = satI a (satI b c) := by unfold satI bnd at *; split <;> split <;> split <;> (try split) <;> omega
theorem up_comm {w v i t n m : Int} (ht : bnd t) (hn : bnd n) (hm : bnd m) : up v i (up w i t n) m = up w i (up v i t m) n := by
  unfold up
  split <;> split <;> first | rfl | skip
  rw [sat_assoc ht hn hm, sat_assoc ht hm hn, sat_comm n m]
theorem up_same {w i t n m : Int} (ht : bnd t) (hn : bnd n) (hm : bnd m) : up w i (up w i t n) m = up w i t (satI n m) := by
  unfold up
  split <;> first | rfl | skip
  exact sat_assoc ht hn hm

def sLaw7 : Spec := fun args h nx K => match args with
  | [.agg [.int .u64 t0, .int .u64 t1, .int .u64 t2, .int .u64 t3, .int .u64 t4, .int .u64 t5, .int .u64 t6, .int .u64 t7, .int .u64 t8, .int .u64 t9], .agg [.int .i64 wx, .int .u64 nn], .agg [.int .i64 wy, .int .u64 m]] => (bnd t0 ∧ bnd t1 ∧ bnd t2 ∧ bnd t3 ∧ bnd t4 ∧ bnd t5 ∧ bnd t6 ∧ bnd t7 ∧ bnd t8 ∧ bnd t9) ∧ bnd nn ∧ bnd m ∧ K (.ret (.bool true)) h nx
  | _ => False

set_option maxHeartbeats 4000000 in
theorem sLaw7_ok : SpecOK Try.prog 7 sLaw7 := by
  refine specOK_pure (fn := Try.f7) rfl rfl rfl T_ok (SP := SPF) spf_ok [] trivial 400 _ ?_
  intro args h nx K hs
  unfold sLaw7 at hs
  split at hs
  · rename_i t0 t1 t2 t3 t4 t5 t6 t7 t8 t9 wx n wy m
    obtain ⟨⟨h0, h1, h2, h3, h4, h5, h6, h7, h8, h9⟩, hn, hm, hk⟩ := hs
    refine ⟨trivial, by repeat constructor, by simp [Try.f7], fun o => o = .ret (.bool true), ?_, ?_⟩
    · rintro o rfl; exact ⟨trivial, hk⟩
    intro c hc
    clear hk
    intro b0 b1 b2
    refine ⟨by repeat' (first | assumption | exact bnd0 | exact bndM | apply up_bnd | apply sat_bnd), ⟨by repeat' (first | assumption | exact bnd0 | exact bndM | apply up_bnd | apply sat_bnd), by repeat' (first | assumption | exact bnd0 | exact bndM | apply up_bnd | apply sat_bnd), by repeat' (first | assumption | exact bnd0 | exact bndM | apply up_bnd | apply sat_bnd), by repeat' (first | assumption | exact bnd0 | exact bndM | apply up_bnd | apply sat_bnd), by repeat' (first | assumption | exact bnd0 | exact bndM | apply up_bnd | apply sat_bnd), by repeat' (first | assumption | exact bnd0 | exact bndM | apply up_bnd | apply sat_bnd), by repeat' (first | assumption | exact bnd0 | exact bndM | apply up_bnd | apply sat_bnd), by repeat' (first | assumption | exact bnd0 | exact bndM | apply up_bnd | apply sat_bnd), by repeat' (first | assumption | exact bnd0 | exact bndM | apply up_bnd | apply sat_bnd), by repeat' (first | assumption | exact bnd0 | exact bndM | apply up_bnd | apply sat_bnd)⟩, ?_⟩
    intro b3
    refine ⟨by repeat' (first | assumption | exact bnd0 | exact bndM | apply up_bnd | apply sat_bnd), ⟨by repeat' (first | assumption | exact bnd0 | exact bndM | apply up_bnd | apply sat_bnd), by repeat' (first | assumption | exact bnd0 | exact bndM | apply up_bnd | apply sat_bnd), by repeat' (first | assumption | exact bnd0 | exact bndM | apply up_bnd | apply sat_bnd), by repeat' (first | assumption | exact bnd0 | exact bndM | apply up_bnd | apply sat_bnd), by repeat' (first | assumption | exact bnd0 | exact bndM | apply up_bnd | apply sat_bnd), by repeat' (first | assumption | exact bnd0 | exact bndM | apply up_bnd | apply sat_bnd), by repeat' (first | assumption | exact bnd0 | exact bndM | apply up_bnd | apply sat_bnd), by repeat' (first | assumption | exact bnd0 | exact bndM | apply up_bnd | apply sat_bnd), by repeat' (first | assumption | exact bnd0 | exact bndM | apply up_bnd | apply sat_bnd), by repeat' (first | assumption | exact bnd0 | exact bndM | apply up_bnd | apply sat_bnd)⟩, ?_⟩
    refine ⟨by repeat' (first | assumption | exact bnd0 | exact bndM | apply up_bnd | apply sat_bnd), ⟨by repeat' (first | assumption | exact bnd0 | exact bndM | apply up_bnd | apply sat_bnd), by repeat' (first | assumption | exact bnd0 | exact bndM | apply up_bnd | apply sat_bnd), by repeat' (first | assumption | exact bnd0 | exact bndM | apply up_bnd | apply sat_bnd), by repeat' (first | assumption | exact bnd0 | exact bndM | apply up_bnd | apply sat_bnd), by repeat' (first | assumption | exact bnd0 | exact bndM | apply up_bnd | apply sat_bnd), by repeat' (first | assumption | exact bnd0 | exact bndM | apply up_bnd | apply sat_bnd), by repeat' (first | assumption | exact bnd0 | exact bndM | apply up_bnd | apply sat_bnd), by repeat' (first | assumption | exact bnd0 | exact bndM | apply up_bnd | apply sat_bnd), by repeat' (first | assumption | exact bnd0 | exact bndM | apply up_bnd | apply sat_bnd), by repeat' (first | assumption | exact bnd0 | exact bndM | apply up_bnd | apply sat_bnd)⟩, ?_⟩
    intro b4
    refine ⟨by repeat' (first | assumption | exact bnd0 | exact bndM | apply up_bnd | apply sat_bnd), ⟨by repeat' (first | assumption | exact bnd0 | exact bndM | apply up_bnd | apply sat_bnd), by repeat' (first | assumption | exact bnd0 | exact bndM | apply up_bnd | apply sat_bnd), by repeat' (first | assumption | exact bnd0 | exact bndM | apply up_bnd | apply sat_bnd), by repeat' (first | assumption | exact bnd0 | exact bndM | apply up_bnd | apply sat_bnd), by repeat' (first | assumption | exact bnd0 | exact bndM | apply up_bnd | apply sat_bnd), by repeat' (first | assumption | exact bnd0 | exact bndM | apply up_bnd | apply sat_bnd), by repeat' (first | assumption | exact bnd0 | exact bndM | apply up_bnd | apply sat_bnd), by repeat' (first | assumption | exact bnd0 | exact bndM | apply up_bnd | apply sat_bnd), by repeat' (first | assumption | exact bnd0 | exact bndM | apply up_bnd | apply sat_bnd), by repeat' (first | assumption | exact bnd0 | exact bndM | apply up_bnd | apply sat_bnd)⟩, ?_⟩
    refine W_drawn (id := 7) (mkE hc T_ok spf_ok) 20 1000 (by rw [hc]; exact mix) (by kernel_rfl) (by kernel_rfl) 200 ?_
    refine ⟨_, ⟨rfl, rfl⟩, ?_⟩
    refine ⟨_, ⟨rfl, rfl⟩, ?_⟩
    refine ⟨_, ⟨rfl, rfl⟩, ?_⟩
    refine ⟨_, ⟨rfl, rfl⟩, ?_⟩
    (refine (?_ : br _ _ _); refine br_f ?_ ?_)
    · have c0 := fun i t (h : bnd t) => up_comm (w := wx) (v := wy) (i := i) h hn hm
      simp [c0, *]
    refine ⟨_, ⟨rfl, rfl⟩, ?_⟩
    refine ⟨_, ⟨rfl, rfl⟩, ?_⟩
    refine ⟨_, ⟨⟨by repeat' (first | assumption | exact bnd0 | exact bndM | apply up_bnd | apply sat_bnd), by repeat' (first | assumption | exact bnd0 | exact bndM | apply up_bnd | apply sat_bnd), by repeat' (first | assumption | exact bnd0 | exact bndM | apply up_bnd | apply sat_bnd), by repeat' (first | assumption | exact bnd0 | exact bndM | apply up_bnd | apply sat_bnd), by repeat' (first | assumption | exact bnd0 | exact bndM | apply up_bnd | apply sat_bnd), by repeat' (first | assumption | exact bnd0 | exact bndM | apply up_bnd | apply sat_bnd), by repeat' (first | assumption | exact bnd0 | exact bndM | apply up_bnd | apply sat_bnd), by repeat' (first | assumption | exact bnd0 | exact bndM | apply up_bnd | apply sat_bnd), by repeat' (first | assumption | exact bnd0 | exact bndM | apply up_bnd | apply sat_bnd), by repeat' (first | assumption | exact bnd0 | exact bndM | apply up_bnd | apply sat_bnd)⟩, ⟨by repeat' (first | assumption | exact bnd0 | exact bndM | apply up_bnd | apply sat_bnd), by repeat' (first | assumption | exact bnd0 | exact bndM | apply up_bnd | apply sat_bnd), by repeat' (first | assumption | exact bnd0 | exact bndM | apply up_bnd | apply sat_bnd), by repeat' (first | assumption | exact bnd0 | exact bndM | apply up_bnd | apply sat_bnd), by repeat' (first | assumption | exact bnd0 | exact bndM | apply up_bnd | apply sat_bnd), by repeat' (first | assumption | exact bnd0 | exact bndM | apply up_bnd | apply sat_bnd), by repeat' (first | assumption | exact bnd0 | exact bndM | apply up_bnd | apply sat_bnd), by repeat' (first | assumption | exact bnd0 | exact bndM | apply up_bnd | apply sat_bnd), by repeat' (first | assumption | exact bnd0 | exact bndM | apply up_bnd | apply sat_bnd), by repeat' (first | assumption | exact bnd0 | exact bndM | apply up_bnd | apply sat_bnd)⟩, rfl, rfl⟩, ?_⟩
    refine ⟨_, ⟨rfl, rfl⟩, ?_⟩
    refine ⟨_, ⟨⟨by repeat' (first | assumption | exact bnd0 | exact bndM | apply up_bnd | apply sat_bnd), by repeat' (first | assumption | exact bnd0 | exact bndM | apply up_bnd | apply sat_bnd), by repeat' (first | assumption | exact bnd0 | exact bndM | apply up_bnd | apply sat_bnd), by repeat' (first | assumption | exact bnd0 | exact bndM | apply up_bnd | apply sat_bnd), by repeat' (first | assumption | exact bnd0 | exact bndM | apply up_bnd | apply sat_bnd), by repeat' (first | assumption | exact bnd0 | exact bndM | apply up_bnd | apply sat_bnd), by repeat' (first | assumption | exact bnd0 | exact bndM | apply up_bnd | apply sat_bnd), by repeat' (first | assumption | exact bnd0 | exact bndM | apply up_bnd | apply sat_bnd), by repeat' (first | assumption | exact bnd0 | exact bndM | apply up_bnd | apply sat_bnd), by repeat' (first | assumption | exact bnd0 | exact bndM | apply up_bnd | apply sat_bnd)⟩, ⟨by repeat' (first | assumption | exact bnd0 | exact bndM | apply up_bnd | apply sat_bnd), by repeat' (first | assumption | exact bnd0 | exact bndM | apply up_bnd | apply sat_bnd), by repeat' (first | assumption | exact bnd0 | exact bndM | apply up_bnd | apply sat_bnd), by repeat' (first | assumption | exact bnd0 | exact bndM | apply up_bnd | apply sat_bnd), by repeat' (first | assumption | exact bnd0 | exact bndM | apply up_bnd | apply sat_bnd), by repeat' (first | assumption | exact bnd0 | exact bndM | apply up_bnd | apply sat_bnd), by repeat' (first | assumption | exact bnd0 | exact bndM | apply up_bnd | apply sat_bnd), by repeat' (first | assumption | exact bnd0 | exact bndM | apply up_bnd | apply sat_bnd), by repeat' (first | assumption | exact bnd0 | exact bndM | apply up_bnd | apply sat_bnd), by repeat' (first | assumption | exact bnd0 | exact bndM | apply up_bnd | apply sat_bnd)⟩, rfl, rfl⟩, ?_⟩
    refine ⟨_, ⟨rfl, rfl⟩, ?_⟩
    refine ⟨_, ⟨rfl, rfl⟩, ?_⟩
    refine ⟨_, ⟨rfl, rfl⟩, ?_⟩
    refine ⟨_, ⟨⟨by repeat' (first | assumption | exact bnd0 | exact bndM | apply up_bnd | apply sat_bnd), by repeat' (first | assumption | exact bnd0 | exact bndM | apply up_bnd | apply sat_bnd), by repeat' (first | assumption | exact bnd0 | exact bndM | apply up_bnd | apply sat_bnd), by repeat' (first | assumption | exact bnd0 | exact bndM | apply up_bnd | apply sat_bnd), by repeat' (first | assumption | exact bnd0 | exact bndM | apply up_bnd | apply sat_bnd), by repeat' (first | assumption | exact bnd0 | exact bndM | apply up_bnd | apply sat_bnd), by repeat' (first | assumption | exact bnd0 | exact bndM | apply up_bnd | apply sat_bnd), by repeat' (first | assumption | exact bnd0 | exact bndM | apply up_bnd | apply sat_bnd), by repeat' (first | assumption | exact bnd0 | exact bndM | apply up_bnd | apply sat_bnd), by repeat' (first | assumption | exact bnd0 | exact bndM | apply up_bnd | apply sat_bnd)⟩, ⟨by repeat' (first | assumption | exact bnd0 | exact bndM | apply up_bnd | apply sat_bnd), by repeat' (first | assumption | exact bnd0 | exact bndM | apply up_bnd | apply sat_bnd), by repeat' (first | assumption | exact bnd0 | exact bndM | apply up_bnd | apply sat_bnd), by repeat' (first | assumption | exact bnd0 | exact bndM | apply up_bnd | apply sat_bnd), by repeat' (first | assumption | exact bnd0 | exact bndM | apply up_bnd | apply sat_bnd), by repeat' (first | assumption | exact bnd0 | exact bndM | apply up_bnd | apply sat_bnd), by repeat' (first | assumption | exact bnd0 | exact bndM | apply up_bnd | apply sat_bnd), by repeat' (first | assumption | exact bnd0 | exact bndM | apply up_bnd | apply sat_bnd), by repeat' (first | assumption | exact bnd0 | exact bndM | apply up_bnd | apply sat_bnd), by repeat' (first | assumption | exact bnd0 | exact bndM | apply up_bnd | apply sat_bnd)⟩, rfl, rfl⟩, ?_⟩
    refine ⟨_, ⟨⟨by repeat' (first | assumption | exact bnd0 | exact bndM | apply up_bnd | apply sat_bnd), by repeat' (first | assumption | exact bnd0 | exact bndM | apply up_bnd | apply sat_bnd), by repeat' (first | assumption | exact bnd0 | exact bndM | apply up_bnd | apply sat_bnd), by repeat' (first | assumption | exact bnd0 | exact bndM | apply up_bnd | apply sat_bnd), by repeat' (first | assumption | exact bnd0 | exact bndM | apply up_bnd | apply sat_bnd), by repeat' (first | assumption | exact bnd0 | exact bndM | apply up_bnd | apply sat_bnd), by repeat' (first | assumption | exact bnd0 | exact bndM | apply up_bnd | apply sat_bnd), by repeat' (first | assumption | exact bnd0 | exact bndM | apply up_bnd | apply sat_bnd), by repeat' (first | assumption | exact bnd0 | exact bndM | apply up_bnd | apply sat_bnd), by repeat' (first | assumption | exact bnd0 | exact bndM | apply up_bnd | apply sat_bnd)⟩, ⟨by repeat' (first | assumption | exact bnd0 | exact bndM | apply up_bnd | apply sat_bnd), by repeat' (first | assumption | exact bnd0 | exact bndM | apply up_bnd | apply sat_bnd), by repeat' (first | assumption | exact bnd0 | exact bndM | apply up_bnd | apply sat_bnd), by repeat' (first | assumption | exact bnd0 | exact bndM | apply up_bnd | apply sat_bnd), by repeat' (first | assumption | exact bnd0 | exact bndM | apply up_bnd | apply sat_bnd), by repeat' (first | assumption | exact bnd0 | exact bndM | apply up_bnd | apply sat_bnd), by repeat' (first | assumption | exact bnd0 | exact bndM | apply up_bnd | apply sat_bnd), by repeat' (first | assumption | exact bnd0 | exact bndM | apply up_bnd | apply sat_bnd), by repeat' (first | assumption | exact bnd0 | exact bndM | apply up_bnd | apply sat_bnd), by repeat' (first | assumption | exact bnd0 | exact bndM | apply up_bnd | apply sat_bnd)⟩, rfl, rfl⟩, ?_⟩
    refine ⟨_, ⟨rfl, rfl⟩, ?_⟩
    refine ⟨_, ⟨rfl, rfl⟩, ?_⟩
    (refine (?_ : br _ _ _); refine br_f ?_ ?_)
    · simp only [Bool.not_eq_false', Bool.and_eq_true, beq_iff_eq, and_true]
      refine ⟨?_, ?_, ?_, ?_, ?_, ?_, ?_, ?_, ?_, ?_⟩
      all_goals exact sat_assoc (by repeat' (first | assumption | exact bnd0 | exact bndM | apply up_bnd | apply sat_bnd)) (by repeat' (first | assumption | exact bnd0 | exact bndM | apply up_bnd | apply sat_bnd)) (by repeat' (first | assumption | exact bnd0 | exact bndM | apply up_bnd | apply sat_bnd))
    refine W_plan (id := 9) (mkE hc T_ok spf_ok) 40 13 (lineP 0 12 (oneP 12 (oneP 13 (oneP 14 .done)))) (by rw [hc]; exact mix) (by kernel_rfl) 200 ?_
    refine ⟨_, ⟨rfl, rfl⟩, ?_⟩
    refine ⟨_, ⟨rfl, rfl⟩, ?_⟩
    refine ⟨_, ⟨rfl, rfl⟩, ?_⟩
    refine ⟨_, ⟨rfl, rfl⟩, ?_⟩
    refine ⟨_, ⟨rfl, rfl⟩, ?_⟩
    refine ⟨_, ⟨rfl, rfl⟩, ?_⟩
    refine ⟨_, ⟨rfl, rfl⟩, ?_⟩
    refine ⟨_, ⟨by repeat' (first | assumption | exact bnd0 | exact bndM | apply up_bnd | apply sat_bnd), by repeat' (first | assumption | exact bnd0 | exact bndM | apply up_bnd | apply sat_bnd), rfl, rfl⟩, ?_⟩
    refine ⟨_, ⟨by repeat' (first | assumption | exact bnd0 | exact bndM | apply up_bnd | apply sat_bnd), ⟨by repeat' (first | assumption | exact bnd0 | exact bndM | apply up_bnd | apply sat_bnd), by repeat' (first | assumption | exact bnd0 | exact bndM | apply up_bnd | apply sat_bnd), by repeat' (first | assumption | exact bnd0 | exact bndM | apply up_bnd | apply sat_bnd), by repeat' (first | assumption | exact bnd0 | exact bndM | apply up_bnd | apply sat_bnd), by repeat' (first | assumption | exact bnd0 | exact bndM | apply up_bnd | apply sat_bnd), by repeat' (first | assumption | exact bnd0 | exact bndM | apply up_bnd | apply sat_bnd), by repeat' (first | assumption | exact bnd0 | exact bndM | apply up_bnd | apply sat_bnd), by repeat' (first | assumption | exact bnd0 | exact bndM | apply up_bnd | apply sat_bnd), by repeat' (first | assumption | exact bnd0 | exact bndM | apply up_bnd | apply sat_bnd), by repeat' (first | assumption | exact bnd0 | exact bndM | apply up_bnd | apply sat_bnd)⟩, rfl, rfl⟩, ?_⟩
    refine ⟨_, ⟨rfl, rfl⟩, ?_⟩
    refine ⟨_, ⟨rfl, rfl⟩, ?_⟩
    refine ⟨_, ⟨rfl, rfl⟩, ?_⟩
    refine ⟨⟨fun _ => trivial, fun _ => ?_⟩, trivial⟩
    refine ⟨⟨trivial, ?_⟩, trivial⟩
    refine ⟨⟨trivial, ?_⟩, trivial⟩
    by_cases e : wx = wy
    · subst e
      (refine (?_ : br _ _ _); refine br_f ?_ ?_)
      · simp
      refine outB ?_
      have c3 := fun i t (h : bnd t) => up_same (w := wx) (i := i) h hn hm
      simp [c3, *]
    · (refine (?_ : br _ _ _); refine br_t ?_ ?_)
      · simpa using e
      rfl
  · exact hs.elim

end Go.Proofs.Ytfepdagknnoblaa.Sx