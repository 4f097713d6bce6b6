import Derived.Test.YtfepdagknnoblaaSxW7
/-
  The walks of this seat's functions, eighth part: the sum's answer told in one shape for every place; the law TallyNothing.
-/
namespace Go.Proofs.Ytfepdagknnoblaa.Sx
open Go Go.Proofs
set_option maxRecDepth 100000
set_option linter.unusedSimpArgs false
set_option linter.unusedVariables false
set_option linter.unnecessarySimpa false

theorem SpecOK.mono {P : Program} {f : Nat} {s s' : Spec} (h : SpecOK P f s) (k : ∀ args h nx K, s' args h nx K → s args h nx K) : SpecOK P f s' :=
  fun c hc args hp nx K hs => h c hc args hp nx K (k args hp nx K hs)
theorem sat0' {a : Int} (h : bnd a) : satI a 0 = a := by rw [sat_comm]; exact sat0 h
theorem bndM : bnd 18446744073709551615 := ⟨by decide, by decide⟩
/-- The count at place i when n more is noted at place w. -/
def up (w i t n : Int) : Int := if w = i then satI t n else t
def inW (w : Int) : Int := if 0 ≤ w ∧ w < 10 then 0 else 1
theorem up0 {w i t : Int} (h : bnd t) : up w i t 0 = t := by unfold up; split <;> simp [sat0' h]
theorem up_bnd {w i t n : Int} (h : bnd t) (k : bnd n) : bnd (up w i t n) := by unfold up; split; exact sat_bnd h k; exact h

def sAddF : Spec := fun args h nx K => match args with
  | [.agg [.int .u64 t0, .int .u64 t1, .int .u64 t2, .int .u64 t3, .int .u64 t4, .int .u64 t5, .int .u64 t6, .int .u64 t7, .int .u64 t8, .int .u64 t9], .int .i64 w, .int .u64 n] => bnd n ∧ (bnd t0 ∧ bnd t1 ∧ bnd t2 ∧ bnd t3 ∧ bnd t4 ∧ bnd t5 ∧ bnd t6 ∧ bnd t7 ∧ bnd t8 ∧ bnd t9) ∧ K (.ret (.tup [.agg [.int .u64 (up w 0 t0 n), .int .u64 (up w 1 t1 n), .int .u64 (up w 2 t2 n), .int .u64 (up w 3 t3 n), .int .u64 (up w 4 t4 n), .int .u64 (up w 5 t5 n), .int .u64 (up w 6 t6 n), .int .u64 (up w 7 t7 n), .int .u64 (up w 8 t8 n), .int .u64 (up w 9 t9 n)], .int .i64 (inW w)])) h nx
  | _ => False
theorem sAddF_of {args : List V} {h : Hp} {nx : Nat} {K : Out → Hp → Nat → Prop} (hs : sAddF args h nx K) : sAdd args h nx K := by
  unfold sAddF at hs
  split at hs
  · rename_i t0 t1 t2 t3 t4 t5 t6 t7 t8 t9 w n
    obtain ⟨hn, hb, hk⟩ := hs
    refine ⟨hn, hb, ?_⟩
    by_cases hw : 0 ≤ w ∧ w < 10
    · have hww : w = 0 ∨ w = 1 ∨ w = 2 ∨ w = 3 ∨ w = 4 ∨ w = 5 ∨ w = 6 ∨ w = 7 ∨ w = 8 ∨ w = 9 := by omega
      rcases hww with rfl | rfl | rfl | rfl | rfl | rfl | rfl | rfl | rfl | rfl
      all_goals
        refine br_t (by simp) ?_
        simpa [up, inW] using hk
    · refine br_f (by simp; omega) ?_
      have e : inW w = 1 := by simp [inW, hw]
      have u : ∀ i t : Int, 0 ≤ i → i < 10 → up w i t n = t := fun i t a b => by unfold up; rw [if_neg]; omega
      simpa [u, e] using hk
  · exact hs.elim
theorem sAddF_ok : SpecOK Try.prog 9 sAddF := sAdd_ok.mono fun _ _ _ _ => sAddF_of
theorem sRefAddF_ok : SpecOK Try.prog 10 sAddF := sRefAddT_ok.mono fun _ _ _ _ => sAddF_of
def SPF : SpT := [(8, sAwake), (9, sAddF), (10, sAddF), (11, sSame), (13, sHeld), (15, sSound), (17, sSum), (19, sSat)]
theorem spf_ok : ∀ p ∈ SPF, SpecOK Try.prog p.1 p.2 := consSP sAwake_ok (consSP sAddF_ok (consSP sRefAddF_ok (consSP sCounts_ok (consSP sHeld_ok (consSP sSound_ok (consSP sSum_ok (consSP sRefAdd_ok noSP)))))))

def sLaw6 : Spec := fun args h nx K => match args with
  | [.agg [.int .u64 t0, .int .u64 t1, .int .u64 t2, .int .u64 t3, .int .u64 t4, .int .u64 t5, .int .u64 t6, .int .u64 t7, .int .u64 t8, .int .u64 t9], .int .i64 w] => (bnd t0 ∧ bnd t1 ∧ bnd t2 ∧ bnd t3 ∧ bnd t4 ∧ bnd t5 ∧ bnd t6 ∧ bnd t7 ∧ bnd t8 ∧ bnd t9) ∧ K (.ret (.bool true)) h nx
  | _ => False

set_option maxHeartbeats 4000000 in
theorem sLaw6_ok : SpecOK Try.prog 6 sLaw6 := by
  refine specOK_pure (fn := Try.f6) rfl rfl rfl T_ok (SP := SPF) spf_ok [] trivial 400 _ ?_
  intro args h nx K hs
  unfold sLaw6 at hs
  split at hs
  · rename_i t0 t1 t2 t3 t4 t5 t6 t7 t8 t9 w
    obtain ⟨⟨h0, h1, h2, h3, h4, h5, h6, h7, h8, h9⟩, hk⟩ := hs
    refine ⟨trivial, by repeat constructor, by simp [Try.f6], fun o => o = .ret (.bool true), ?_, ?_⟩
    · rintro o rfl; exact ⟨trivial, hk⟩
    intro c hc
    clear hk
    intro b0
    refine ⟨bnd0, ⟨by repeat' (first | assumption | exact bnd0 | exact bndM | apply up_bnd | apply sat_bnd), by repeat' (first | assumption | exact bnd0 | exact bndM | apply up_bnd | apply sat_bnd), by repeat' (first | assumption | exact bnd0 | exact bndM | apply up_bnd | apply sat_bnd), by repeat' (first | assumption | exact bnd0 | exact bndM | apply up_bnd | apply sat_bnd), by repeat' (first | assumption | exact bnd0 | exact bndM | apply up_bnd | apply sat_bnd), by repeat' (first | assumption | exact bnd0 | exact bndM | apply up_bnd | apply sat_bnd), by repeat' (first | assumption | exact bnd0 | exact bndM | apply up_bnd | apply sat_bnd), by repeat' (first | assumption | exact bnd0 | exact bndM | apply up_bnd | apply sat_bnd), by repeat' (first | assumption | exact bnd0 | exact bndM | apply up_bnd | apply sat_bnd), by repeat' (first | assumption | exact bnd0 | exact bndM | apply up_bnd | apply sat_bnd)⟩, ?_⟩
    intro b1
    refine W_drawn (id := 4) (mkE hc T_ok spf_ok) 20 1000 (by rw [hc]; exact mix) (by kernel_rfl) (by kernel_rfl) 200 ?_
    refine ⟨_, ⟨rfl, rfl⟩, ?_⟩
    refine ⟨_, ⟨rfl, rfl⟩, ?_⟩
    refine ⟨_, ⟨rfl, rfl⟩, ?_⟩
    refine ⟨_, ⟨rfl, rfl⟩, ?_⟩
    (refine (?_ : br _ _ _); refine br_f ?_ ?_)
    · simp [up0, *]
    refine ⟨_, ⟨rfl, rfl⟩, ?_⟩
    refine ⟨_, ⟨rfl, rfl⟩, ?_⟩
    refine ⟨_, ⟨rfl, rfl⟩, ?_⟩
    refine ⟨_, ⟨rfl, rfl⟩, ?_⟩
    refine ⟨_, ⟨rfl, rfl⟩, ?_⟩
    (refine (?_ : br _ _ _); refine br_dec (fun hw0 => ?_) (fun hw0 => ?_))
    · refine ⟨_, ⟨rfl, rfl⟩, ?_⟩
      refine ⟨_, ⟨rfl, rfl⟩, ?_⟩
      refine ⟨_, ⟨rfl, rfl⟩, ?_⟩
      refine ⟨_, ⟨rfl, rfl⟩, ?_⟩
      refine ⟨_, ⟨rfl, rfl⟩, ?_⟩
      refine ⟨_, ⟨rfl, rfl⟩, ?_⟩
      (refine (?_ : br _ _ _); refine br_f ?_ ?_)
      · by_cases hw1 : w < 10 <;> simp [inW, *]
      refine ⟨_, ⟨rfl, rfl⟩, ?_⟩
      refine ⟨_, ⟨rfl, rfl⟩, ?_⟩
      refine ⟨_, ⟨⟨by repeat' (first | assumption | exact bnd0 | exact bndM | apply up_bnd | apply sat_bnd), by repeat' (first | assumption | exact bnd0 | exact bndM | apply up_bnd | apply sat_bnd), by repeat' (first | assumption | exact bnd0 | exact bndM | apply up_bnd | apply sat_bnd), by repeat' (first | assumption | exact bnd0 | exact bndM | apply up_bnd | apply sat_bnd), by repeat' (first | assumption | exact bnd0 | exact bndM | apply up_bnd | apply sat_bnd), by repeat' (first | assumption | exact bnd0 | exact bndM | apply up_bnd | apply sat_bnd), by repeat' (first | assumption | exact bnd0 | exact bndM | apply up_bnd | apply sat_bnd), by repeat' (first | assumption | exact bnd0 | exact bndM | apply up_bnd | apply sat_bnd), by repeat' (first | assumption | exact bnd0 | exact bndM | apply up_bnd | apply sat_bnd), by repeat' (first | assumption | exact bnd0 | exact bndM | apply up_bnd | apply sat_bnd)⟩, ⟨by repeat' (first | assumption | exact bnd0 | exact bndM | apply up_bnd | apply sat_bnd), by repeat' (first | assumption | exact bnd0 | exact bndM | apply up_bnd | apply sat_bnd), by repeat' (first | assumption | exact bnd0 | exact bndM | apply up_bnd | apply sat_bnd), by repeat' (first | assumption | exact bnd0 | exact bndM | apply up_bnd | apply sat_bnd), by repeat' (first | assumption | exact bnd0 | exact bndM | apply up_bnd | apply sat_bnd), by repeat' (first | assumption | exact bnd0 | exact bndM | apply up_bnd | apply sat_bnd), by repeat' (first | assumption | exact bnd0 | exact bndM | apply up_bnd | apply sat_bnd), by repeat' (first | assumption | exact bnd0 | exact bndM | apply up_bnd | apply sat_bnd), by repeat' (first | assumption | exact bnd0 | exact bndM | apply up_bnd | apply sat_bnd), by repeat' (first | assumption | exact bnd0 | exact bndM | apply up_bnd | apply sat_bnd)⟩, rfl, rfl⟩, ?_⟩
      refine ⟨_, ⟨rfl, rfl⟩, ?_⟩
      refine ⟨_, ⟨rfl, rfl⟩, ?_⟩
      refine ⟨_, ⟨rfl, rfl⟩, ?_⟩
      (refine (?_ : br _ _ _); refine br_f ?_ ?_)
      · simp [sat0', *]
      intro b2 b3
      refine W_unroll 11 30 ?_
      refine vc_sound (mkE hc T_ok spf_ok) 200 _ _ _ 30 ?_
      refine W_plan (id := 11) (mkE hc T_ok spf_ok) 30 9 (lineP 0 9 (oneP 9 .done)) (by rw [hc]; exact mix) (by kernel_rfl) 200 ?_
      refine ⟨_, ⟨rfl, rfl⟩, ?_⟩
      refine ⟨_, ⟨rfl, rfl⟩, ?_⟩
      refine ⟨_, ⟨rfl, rfl⟩, ?_⟩
      refine ⟨_, ⟨rfl, rfl⟩, ?_⟩
      refine ⟨_, ⟨rfl, rfl⟩, ?_⟩
      refine ⟨_, ⟨by repeat' (first | assumption | exact bnd0 | exact bndM | apply up_bnd | apply sat_bnd), ⟨by repeat' (first | assumption | exact bnd0 | exact bndM | apply up_bnd | apply sat_bnd), by repeat' (first | assumption | exact bnd0 | exact bndM | apply up_bnd | apply sat_bnd), by repeat' (first | assumption | exact bnd0 | exact bndM | apply up_bnd | apply sat_bnd), by repeat' (first | assumption | exact bnd0 | exact bndM | apply up_bnd | apply sat_bnd), by repeat' (first | assumption | exact bnd0 | exact bndM | apply up_bnd | apply sat_bnd), by repeat' (first | assumption | exact bnd0 | exact bndM | apply up_bnd | apply sat_bnd), by repeat' (first | assumption | exact bnd0 | exact bndM | apply up_bnd | apply sat_bnd), by repeat' (first | assumption | exact bnd0 | exact bndM | apply up_bnd | apply sat_bnd), by repeat' (first | assumption | exact bnd0 | exact bndM | apply up_bnd | apply sat_bnd), by repeat' (first | assumption | exact bnd0 | exact bndM | apply up_bnd | apply sat_bnd)⟩, rfl, rfl⟩, ?_⟩
      refine ⟨_, ⟨rfl, rfl⟩, ?_⟩
      refine ⟨_, ⟨rfl, rfl⟩, ?_⟩
      refine ⟨_, ⟨rfl, rfl⟩, ?_⟩
      refine ⟨⟨trivial, ?_⟩, trivial⟩
      refine vc_sound (mkE hc T_ok spf_ok) 200 _ _ _ 30 ?_
      refine W_plan (id := 11) (mkE hc T_ok spf_ok) 30 9 (lineP 0 9 (oneP 9 .done)) (by rw [hc]; exact mix) (by kernel_rfl) 200 ?_
      refine ⟨_, ⟨rfl, rfl⟩, ?_⟩
      refine ⟨_, ⟨rfl, rfl⟩, ?_⟩
      refine ⟨_, ⟨rfl, rfl⟩, ?_⟩
      refine ⟨_, ⟨rfl, rfl⟩, ?_⟩
      refine ⟨_, ⟨rfl, rfl⟩, ?_⟩
      refine ⟨_, ⟨by repeat' (first | assumption | exact bnd0 | exact bndM | apply up_bnd | apply sat_bnd), ⟨by repeat' (first | assumption | exact bnd0 | exact bndM | apply up_bnd | apply sat_bnd), by repeat' (first | assumption | exact bnd0 | exact bndM | apply up_bnd | apply sat_bnd), by repeat' (first | assumption | exact bnd0 | exact bndM | apply up_bnd | apply sat_bnd), by repeat' (first | assumption | exact bnd0 | exact bndM | apply up_bnd | apply sat_bnd), by repeat' (first | assumption | exact bnd0 | exact bndM | apply up_bnd | apply sat_bnd), by repeat' (first | assumption | exact bnd0 | exact bndM | apply up_bnd | apply sat_bnd), by repeat' (first | assumption | exact bnd0 | exact bndM | apply up_bnd | apply sat_bnd), by repeat' (first | assumption | exact bnd0 | exact bndM | apply up_bnd | apply sat_bnd), by repeat' (first | assumption | exact bnd0 | exact bndM | apply up_bnd | apply sat_bnd), by repeat' (first | assumption | exact bnd0 | exact bndM | apply up_bnd | apply sat_bnd)⟩, rfl, rfl⟩, ?_⟩
      refine ⟨_, ⟨rfl, rfl⟩, ?_⟩
      refine ⟨_, ⟨rfl, rfl⟩, ?_⟩
      refine ⟨_, ⟨rfl, rfl⟩, ?_⟩
      refine ⟨⟨trivial, ?_⟩, trivial⟩
      refine vc_sound (mkE hc T_ok spf_ok) 200 _ _ _ 30 ?_
      refine W_plan (id := 11) (mkE hc T_ok spf_ok) 30 9 (lineP 0 9 (oneP 9 .done)) (by rw [hc]; exact mix) (by kernel_rfl) 200 ?_
      refine ⟨_, ⟨rfl, rfl⟩, ?_⟩
      refine ⟨_, ⟨rfl, rfl⟩, ?_⟩
      refine ⟨_, ⟨rfl, rfl⟩, ?_⟩
      refine ⟨_, ⟨rfl, rfl⟩, ?_⟩
      refine ⟨_, ⟨rfl, rfl⟩, ?_⟩
      refine ⟨_, ⟨by repeat' (first | assumption | exact bnd0 | exact bndM | apply up_bnd | apply sat_bnd), ⟨by repeat' (first | assumption | exact bnd0 | exact bndM | apply up_bnd | apply sat_bnd), by repeat' (first | assumption | exact bnd0 | exact bndM | apply up_bnd | apply sat_bnd), by repeat' (first | assumption | exact bnd0 | exact bndM | apply up_bnd | apply sat_bnd), by repeat' (first | assumption | exact bnd0 | exact bndM | apply up_bnd | apply sat_bnd), by repeat' (first | assumption | exact bnd0 | exact bndM | apply up_bnd | apply sat_bnd), by repeat' (first | assumption | exact bnd0 | exact bndM | apply up_bnd | apply sat_bnd), by repeat' (first | assumption | exact bnd0 | exact bndM | apply up_bnd | apply sat_bnd), by repeat' (first | assumption | exact bnd0 | exact bndM | apply up_bnd | apply sat_bnd), by repeat' (first | assumption | exact bnd0 | exact bndM | apply up_bnd | apply sat_bnd), by repeat' (first | assumption | exact bnd0 | exact bndM | apply up_bnd | apply sat_bnd)⟩, rfl, rfl⟩, ?_⟩
      refine ⟨_, ⟨rfl, rfl⟩, ?_⟩
      refine ⟨_, ⟨rfl, rfl⟩, ?_⟩
      refine ⟨_, ⟨rfl, rfl⟩, ?_⟩
      refine ⟨⟨trivial, ?_⟩, trivial⟩
      refine vc_sound (mkE hc T_ok spf_ok) 200 _ _ _ 30 ?_
      refine W_plan (id := 11) (mkE hc T_ok spf_ok) 30 9 (lineP 0 9 (oneP 9 .done)) (by rw [hc]; exact mix) (by kernel_rfl) 200 ?_
      refine ⟨_, ⟨rfl, rfl⟩, ?_⟩
      refine ⟨_, ⟨rfl, rfl⟩, ?_⟩
      refine ⟨_, ⟨rfl, rfl⟩, ?_⟩
      refine ⟨_, ⟨rfl, rfl⟩, ?_⟩
      refine ⟨_, ⟨rfl, rfl⟩, ?_⟩
      refine ⟨_, ⟨by repeat' (first | assumption | exact bnd0 | exact bndM | apply up_bnd | apply sat_bnd), ⟨by repeat' (first | assumption | exact bnd0 | exact bndM | apply up_bnd | apply sat_bnd), by repeat' (first | assumption | exact bnd0 | exact bndM | apply up_bnd | apply sat_bnd), by repeat' (first | assumption | exact bnd0 | exact bndM | apply up_bnd | apply sat_bnd), by repeat' (first | assumption | exact bnd0 | exact bndM | apply up_bnd | apply sat_bnd), by repeat' (first | assumption | exact bnd0 | exact bndM | apply up_bnd | apply sat_bnd), by repeat' (first | assumption | exact bnd0 | exact bndM | apply up_bnd | apply sat_bnd), by repeat' (first | assumption | exact bnd0 | exact bndM | apply up_bnd | apply sat_bnd), by repeat' (first | assumption | exact bnd0 | exact bndM | apply up_bnd | apply sat_bnd), by repeat' (first | assumption | exact bnd0 | exact bndM | apply up_bnd | apply sat_bnd), by repeat' (first | assumption | exact bnd0 | exact bndM | apply up_bnd | apply sat_bnd)⟩, rfl, rfl⟩, ?_⟩
      refine ⟨_, ⟨rfl, rfl⟩, ?_⟩
      refine ⟨_, ⟨rfl, rfl⟩, ?_⟩
      refine ⟨_, ⟨rfl, rfl⟩, ?_⟩
      refine ⟨⟨trivial, ?_⟩, trivial⟩
      refine vc_sound (mkE hc T_ok spf_ok) 200 _ _ _ 30 ?_
      refine W_plan (id := 11) (mkE hc T_ok spf_ok) 30 9 (lineP 0 9 (oneP 9 .done)) (by rw [hc]; exact mix) (by kernel_rfl) 200 ?_
      refine ⟨_, ⟨rfl, rfl⟩, ?_⟩
      refine ⟨_, ⟨rfl, rfl⟩, ?_⟩
      refine ⟨_, ⟨rfl, rfl⟩, ?_⟩
      refine ⟨_, ⟨rfl, rfl⟩, ?_⟩
      refine ⟨_, ⟨rfl, rfl⟩, ?_⟩
      refine ⟨_, ⟨by repeat' (first | assumption | exact bnd0 | exact bndM | apply up_bnd | apply sat_bnd), ⟨by repeat' (first | assumption | exact bnd0 | exact bndM | apply up_bnd | apply sat_bnd), by repeat' (first | assumption | exact bnd0 | exact bndM | apply up_bnd | apply sat_bnd), by repeat' (first | assumption | exact bnd0 | exact bndM | apply up_bnd | apply sat_bnd), by repeat' (first | assumption | exact bnd0 | exact bndM | apply up_bnd | apply sat_bnd), by repeat' (first | assumption | exact bnd0 | exact bndM | apply up_bnd | apply sat_bnd), by repeat' (first | assumption | exact bnd0 | exact bndM | apply up_bnd | apply sat_bnd), by repeat' (first | assumption | exact bnd0 | exact bndM | apply up_bnd | apply sat_bnd), by repeat' (first | assumption | exact bnd0 | exact bndM | apply up_bnd | apply sat_bnd), by repeat' (first | assumption | exact bnd0 | exact bndM | apply up_bnd | apply sat_bnd), by repeat' (first | assumption | exact bnd0 | exact bndM | apply up_bnd | apply sat_bnd)⟩, rfl, rfl⟩, ?_⟩
      refine ⟨_, ⟨rfl, rfl⟩, ?_⟩
      refine ⟨_, ⟨rfl, rfl⟩, ?_⟩
      refine ⟨_, ⟨rfl, rfl⟩, ?_⟩
      refine ⟨⟨trivial, ?_⟩, trivial⟩
      refine vc_sound (mkE hc T_ok spf_ok) 200 _ _ _ 30 ?_
      refine W_plan (id := 11) (mkE hc T_ok spf_ok) 30 9 (lineP 0 9 (oneP 9 .done)) (by rw [hc]; exact mix) (by kernel_rfl) 200 ?_
      refine ⟨_, ⟨rfl, rfl⟩, ?_⟩
      refine ⟨_, ⟨rfl, rfl⟩, ?_⟩
      refine ⟨_, ⟨rfl, rfl⟩, ?_⟩
      refine ⟨_, ⟨rfl, rfl⟩, ?_⟩
      refine ⟨_, ⟨rfl, rfl⟩, ?_⟩
      refine ⟨_, ⟨by repeat' (first | assumption | exact bnd0 | exact bndM | apply up_bnd | apply sat_bnd), ⟨by repeat' (first | assumption | exact bnd0 | exact bndM | apply up_bnd | apply sat_bnd), by repeat' (first | assumption | exact bnd0 | exact bndM | apply up_bnd | apply sat_bnd), by repeat' (first | assumption | exact bnd0 | exact bndM | apply up_bnd | apply sat_bnd), by repeat' (first | assumption | exact bnd0 | exact bndM | apply up_bnd | apply sat_bnd), by repeat' (first | assumption | exact bnd0 | exact bndM | apply up_bnd | apply sat_bnd), by repeat' (first | assumption | exact bnd0 | exact bndM | apply up_bnd | apply sat_bnd), by repeat' (first | assumption | exact bnd0 | exact bndM | apply up_bnd | apply sat_bnd), by repeat' (first | assumption | exact bnd0 | exact bndM | apply up_bnd | apply sat_bnd), by repeat' (first | assumption | exact bnd0 | exact bndM | apply up_bnd | apply sat_bnd), by repeat' (first | assumption | exact bnd0 | exact bndM | apply up_bnd | apply sat_bnd)⟩, rfl, rfl⟩, ?_⟩
      refine ⟨_, ⟨rfl, rfl⟩, ?_⟩
      refine ⟨_, ⟨rfl, rfl⟩, ?_⟩
      refine ⟨_, ⟨rfl, rfl⟩, ?_⟩
      refine ⟨⟨trivial, ?_⟩, trivial⟩
      refine vc_sound (mkE hc T_ok spf_ok) 200 _ _ _ 30 ?_
      refine W_plan (id := 11) (mkE hc T_ok spf_ok) 30 9 (lineP 0 9 (oneP 9 .done)) (by rw [hc]; exact mix) (by kernel_rfl) 200 ?_
      refine ⟨_, ⟨rfl, rfl⟩, ?_⟩
      refine ⟨_, ⟨rfl, rfl⟩, ?_⟩
      refine ⟨_, ⟨rfl, rfl⟩, ?_⟩
      refine ⟨_, ⟨rfl, rfl⟩, ?_⟩
      refine ⟨_, ⟨rfl, rfl⟩, ?_⟩
      refine ⟨_, ⟨by repeat' (first | assumption | exact bnd0 | exact bndM | apply up_bnd | apply sat_bnd), ⟨by repeat' (first | assumption | exact bnd0 | exact bndM | apply up_bnd | apply sat_bnd), by repeat' (first | assumption | exact bnd0 | exact bndM | apply up_bnd | apply sat_bnd), by repeat' (first | assumption | exact bnd0 | exact bndM | apply up_bnd | apply sat_bnd), by repeat' (first | assumption | exact bnd0 | exact bndM | apply up_bnd | apply sat_bnd), by repeat' (first | assumption | exact bnd0 | exact bndM | apply up_bnd | apply sat_bnd), by repeat' (first | assumption | exact bnd0 | exact bndM | apply up_bnd | apply sat_bnd), by repeat' (first | assumption | exact bnd0 | exact bndM | apply up_bnd | apply sat_bnd), by repeat' (first | assumption | exact bnd0 | exact bndM | apply up_bnd | apply sat_bnd), by repeat' (first | assumption | exact bnd0 | exact bndM | apply up_bnd | apply sat_bnd), by repeat' (first | assumption | exact bnd0 | exact bndM | apply up_bnd | apply sat_bnd)⟩, rfl, rfl⟩, ?_⟩
      refine ⟨_, ⟨rfl, rfl⟩, ?_⟩
      refine ⟨_, ⟨rfl, rfl⟩, ?_⟩
      refine ⟨_, ⟨rfl, rfl⟩, ?_⟩
      refine ⟨⟨trivial, ?_⟩, trivial⟩
      refine vc_sound (mkE hc T_ok spf_ok) 200 _ _ _ 30 ?_
      refine W_plan (id := 11) (mkE hc T_ok spf_ok) 30 9 (lineP 0 9 (oneP 9 .done)) (by rw [hc]; exact mix) (by kernel_rfl) 200 ?_
      refine ⟨_, ⟨rfl, rfl⟩, ?_⟩
      refine ⟨_, ⟨rfl, rfl⟩, ?_⟩
      refine ⟨_, ⟨rfl, rfl⟩, ?_⟩
      refine ⟨_, ⟨rfl, rfl⟩, ?_⟩
      refine ⟨_, ⟨rfl, rfl⟩, ?_⟩
      refine ⟨_, ⟨by repeat' (first | assumption | exact bnd0 | exact bndM | apply up_bnd | apply sat_bnd), ⟨by repeat' (first | assumption | exact bnd0 | exact bndM | apply up_bnd | apply sat_bnd), by repeat' (first | assumption | exact bnd0 | exact bndM | apply up_bnd | apply sat_bnd), by repeat' (first | assumption | exact bnd0 | exact bndM | apply up_bnd | apply sat_bnd), by repeat' (first | assumption | exact bnd0 | exact bndM | apply up_bnd | apply sat_bnd), by repeat' (first | assumption | exact bnd0 | exact bndM | apply up_bnd | apply sat_bnd), by repeat' (first | assumption | exact bnd0 | exact bndM | apply up_bnd | apply sat_bnd), by repeat' (first | assumption | exact bnd0 | exact bndM | apply up_bnd | apply sat_bnd), by repeat' (first | assumption | exact bnd0 | exact bndM | apply up_bnd | apply sat_bnd), by repeat' (first | assumption | exact bnd0 | exact bndM | apply up_bnd | apply sat_bnd), by repeat' (first | assumption | exact bnd0 | exact bndM | apply up_bnd | apply sat_bnd)⟩, rfl, rfl⟩, ?_⟩
      refine ⟨_, ⟨rfl, rfl⟩, ?_⟩
      refine ⟨_, ⟨rfl, rfl⟩, ?_⟩
      refine ⟨_, ⟨rfl, rfl⟩, ?_⟩
      refine ⟨⟨trivial, ?_⟩, trivial⟩
      refine vc_sound (mkE hc T_ok spf_ok) 200 _ _ _ 30 ?_
      refine W_plan (id := 11) (mkE hc T_ok spf_ok) 30 9 (lineP 0 9 (oneP 9 .done)) (by rw [hc]; exact mix) (by kernel_rfl) 200 ?_
      refine ⟨_, ⟨rfl, rfl⟩, ?_⟩
      refine ⟨_, ⟨rfl, rfl⟩, ?_⟩
      refine ⟨_, ⟨rfl, rfl⟩, ?_⟩
      refine ⟨_, ⟨rfl, rfl⟩, ?_⟩
      refine ⟨_, ⟨rfl, rfl⟩, ?_⟩
      refine ⟨_, ⟨by repeat' (first | assumption | exact bnd0 | exact bndM | apply up_bnd | apply sat_bnd), ⟨by repeat' (first | assumption | exact bnd0 | exact bndM | apply up_bnd | apply sat_bnd), by repeat' (first | assumption | exact bnd0 | exact bndM | apply up_bnd | apply sat_bnd), by repeat' (first | assumption | exact bnd0 | exact bndM | apply up_bnd | apply sat_bnd), by repeat' (first | assumption | exact bnd0 | exact bndM | apply up_bnd | apply sat_bnd), by repeat' (first | assumption | exact bnd0 | exact bndM | apply up_bnd | apply sat_bnd), by repeat' (first | assumption | exact bnd0 | exact bndM | apply up_bnd | apply sat_bnd), by repeat' (first | assumption | exact bnd0 | exact bndM | apply up_bnd | apply sat_bnd), by repeat' (first | assumption | exact bnd0 | exact bndM | apply up_bnd | apply sat_bnd), by repeat' (first | assumption | exact bnd0 | exact bndM | apply up_bnd | apply sat_bnd), by repeat' (first | assumption | exact bnd0 | exact bndM | apply up_bnd | apply sat_bnd)⟩, rfl, rfl⟩, ?_⟩
      refine ⟨_, ⟨rfl, rfl⟩, ?_⟩
      refine ⟨_, ⟨rfl, rfl⟩, ?_⟩
      refine ⟨_, ⟨rfl, rfl⟩, ?_⟩
      refine ⟨⟨trivial, ?_⟩, trivial⟩
      refine vc_sound (mkE hc T_ok spf_ok) 200 _ _ _ 30 ?_
      refine W_plan (id := 11) (mkE hc T_ok spf_ok) 30 9 (lineP 0 9 (oneP 9 .done)) (by rw [hc]; exact mix) (by kernel_rfl) 200 ?_
      refine ⟨_, ⟨rfl, rfl⟩, ?_⟩
      refine ⟨_, ⟨rfl, rfl⟩, ?_⟩
      refine ⟨_, ⟨rfl, rfl⟩, ?_⟩
      refine ⟨_, ⟨rfl, rfl⟩, ?_⟩
      refine ⟨_, ⟨rfl, rfl⟩, ?_⟩
      refine ⟨_, ⟨by repeat' (first | assumption | exact bnd0 | exact bndM | apply up_bnd | apply sat_bnd), ⟨by repeat' (first | assumption | exact bnd0 | exact bndM | apply up_bnd | apply sat_bnd), by repeat' (first | assumption | exact bnd0 | exact bndM | apply up_bnd | apply sat_bnd), by repeat' (first | assumption | exact bnd0 | exact bndM | apply up_bnd | apply sat_bnd), by repeat' (first | assumption | exact bnd0 | exact bndM | apply up_bnd | apply sat_bnd), by repeat' (first | assumption | exact bnd0 | exact bndM | apply up_bnd | apply sat_bnd), by repeat' (first | assumption | exact bnd0 | exact bndM | apply up_bnd | apply sat_bnd), by repeat' (first | assumption | exact bnd0 | exact bndM | apply up_bnd | apply sat_bnd), by repeat' (first | assumption | exact bnd0 | exact bndM | apply up_bnd | apply sat_bnd), by repeat' (first | assumption | exact bnd0 | exact bndM | apply up_bnd | apply sat_bnd), by repeat' (first | assumption | exact bnd0 | exact bndM | apply up_bnd | apply sat_bnd)⟩, rfl, rfl⟩, ?_⟩
      refine ⟨_, ⟨rfl, rfl⟩, ?_⟩
      refine ⟨_, ⟨rfl, rfl⟩, ?_⟩
      refine ⟨_, ⟨rfl, rfl⟩, ?_⟩
      refine ⟨⟨trivial, ?_⟩, trivial⟩
      refine vc_sound (mkE hc T_ok spf_ok) 200 _ _ _ 30 ?_
      refine outB ?_
      simp [up, sat0, sat0', IntKind.wrap_i64, *]
    · refine ⟨_, ⟨rfl, rfl⟩, ?_⟩
      refine ⟨_, ⟨rfl, rfl⟩, ?_⟩
      refine ⟨_, ⟨rfl, rfl⟩, ?_⟩
      refine ⟨_, ⟨rfl, rfl⟩, ?_⟩
      (refine (?_ : br _ _ _); refine br_f ?_ ?_)
      · simp [inW, *]
      refine ⟨_, ⟨rfl, rfl⟩, ?_⟩
      refine ⟨_, ⟨rfl, rfl⟩, ?_⟩
      refine ⟨_, ⟨⟨by repeat' (first | assumption | exact bnd0 | exact bndM | apply up_bnd | apply sat_bnd), by repeat' (first | assumption | exact bnd0 | exact bndM | apply up_bnd | apply sat_bnd), by repeat' (first | assumption | exact bnd0 | exact bndM | apply up_bnd | apply sat_bnd), by repeat' (first | assumption | exact bnd0 | exact bndM | apply up_bnd | apply sat_bnd), by repeat' (first | assumption | exact bnd0 | exact bndM | apply up_bnd | apply sat_bnd), by repeat' (first | assumption | exact bnd0 | exact bndM | apply up_bnd | apply sat_bnd), by repeat' (first | assumption | exact bnd0 | exact bndM | apply up_bnd | apply sat_bnd), by repeat' (first | assumption | exact bnd0 | exact bndM | apply up_bnd | apply sat_bnd), by repeat' (first | assumption | exact bnd0 | exact bndM | apply up_bnd | apply sat_bnd), by repeat' (first | assumption | exact bnd0 | exact bndM | apply up_bnd | apply sat_bnd)⟩, ⟨by repeat' (first | assumption | exact bnd0 | exact bndM | apply up_bnd | apply sat_bnd), by repeat' (first | assumption | exact bnd0 | exact bndM | apply up_bnd | apply sat_bnd), by repeat' (first | assumption | exact bnd0 | exact bndM | apply up_bnd | apply sat_bnd), by repeat' (first | assumption | exact bnd0 | exact bndM | apply up_bnd | apply sat_bnd), by repeat' (first | assumption | exact bnd0 | exact bndM | apply up_bnd | apply sat_bnd), by repeat' (first | assumption | exact bnd0 | exact bndM | apply up_bnd | apply sat_bnd), by repeat' (first | assumption | exact bnd0 | exact bndM | apply up_bnd | apply sat_bnd), by repeat' (first | assumption | exact bnd0 | exact bndM | apply up_bnd | apply sat_bnd), by repeat' (first | assumption | exact bnd0 | exact bndM | apply up_bnd | apply sat_bnd), by repeat' (first | assumption | exact bnd0 | exact bndM | apply up_bnd | apply sat_bnd)⟩, rfl, rfl⟩, ?_⟩
      refine ⟨_, ⟨rfl, rfl⟩, ?_⟩
      refine ⟨_, ⟨rfl, rfl⟩, ?_⟩
      refine ⟨_, ⟨rfl, rfl⟩, ?_⟩
      (refine (?_ : br _ _ _); refine br_f ?_ ?_)
      · simp [sat0', *]
      intro b2 b3
      refine W_unroll 11 30 ?_
      refine vc_sound (mkE hc T_ok spf_ok) 200 _ _ _ 30 ?_
      refine W_plan (id := 11) (mkE hc T_ok spf_ok) 30 9 (lineP 0 9 (oneP 9 .done)) (by rw [hc]; exact mix) (by kernel_rfl) 200 ?_
      refine ⟨_, ⟨rfl, rfl⟩, ?_⟩
      refine ⟨_, ⟨rfl, rfl⟩, ?_⟩
      refine ⟨_, ⟨rfl, rfl⟩, ?_⟩
      refine ⟨_, ⟨rfl, rfl⟩, ?_⟩
      refine ⟨_, ⟨rfl, rfl⟩, ?_⟩
      refine ⟨_, ⟨by repeat' (first | assumption | exact bnd0 | exact bndM | apply up_bnd | apply sat_bnd), ⟨by repeat' (first | assumption | exact bnd0 | exact bndM | apply up_bnd | apply sat_bnd), by repeat' (first | assumption | exact bnd0 | exact bndM | apply up_bnd | apply sat_bnd), by repeat' (first | assumption | exact bnd0 | exact bndM | apply up_bnd | apply sat_bnd), by repeat' (first | assumption | exact bnd0 | exact bndM | apply up_bnd | apply sat_bnd), by repeat' (first | assumption | exact bnd0 | exact bndM | apply up_bnd | apply sat_bnd), by repeat' (first | assumption | exact bnd0 | exact bndM | apply up_bnd | apply sat_bnd), by repeat' (first | assumption | exact bnd0 | exact bndM | apply up_bnd | apply sat_bnd), by repeat' (first | assumption | exact bnd0 | exact bndM | apply up_bnd | apply sat_bnd), by repeat' (first | assumption | exact bnd0 | exact bndM | apply up_bnd | apply sat_bnd), by repeat' (first | assumption | exact bnd0 | exact bndM | apply up_bnd | apply sat_bnd)⟩, rfl, rfl⟩, ?_⟩
      refine ⟨_, ⟨rfl, rfl⟩, ?_⟩
      refine ⟨_, ⟨rfl, rfl⟩, ?_⟩
      refine ⟨_, ⟨rfl, rfl⟩, ?_⟩
      refine ⟨⟨trivial, ?_⟩, trivial⟩
      refine vc_sound (mkE hc T_ok spf_ok) 200 _ _ _ 30 ?_
      refine W_plan (id := 11) (mkE hc T_ok spf_ok) 30 9 (lineP 0 9 (oneP 9 .done)) (by rw [hc]; exact mix) (by kernel_rfl) 200 ?_
      refine ⟨_, ⟨rfl, rfl⟩, ?_⟩
      refine ⟨_, ⟨rfl, rfl⟩, ?_⟩
      refine ⟨_, ⟨rfl, rfl⟩, ?_⟩
      refine ⟨_, ⟨rfl, rfl⟩, ?_⟩
      refine ⟨_, ⟨rfl, rfl⟩, ?_⟩
      refine ⟨_, ⟨by repeat' (first | assumption | exact bnd0 | exact bndM | apply up_bnd | apply sat_bnd), ⟨by repeat' (first | assumption | exact bnd0 | exact bndM | apply up_bnd | apply sat_bnd), by repeat' (first | assumption | exact bnd0 | exact bndM | apply up_bnd | apply sat_bnd), by repeat' (first | assumption | exact bnd0 | exact bndM | apply up_bnd | apply sat_bnd), by repeat' (first | assumption | exact bnd0 | exact bndM | apply up_bnd | apply sat_bnd), by repeat' (first | assumption | exact bnd0 | exact bndM | apply up_bnd | apply sat_bnd), by repeat' (first | assumption | exact bnd0 | exact bndM | apply up_bnd | apply sat_bnd), by repeat' (first | assumption | exact bnd0 | exact bndM | apply up_bnd | apply sat_bnd), by repeat' (first | assumption | exact bnd0 | exact bndM | apply up_bnd | apply sat_bnd), by repeat' (first | assumption | exact bnd0 | exact bndM | apply up_bnd | apply sat_bnd), by repeat' (first | assumption | exact bnd0 | exact bndM | apply up_bnd | apply sat_bnd)⟩, rfl, rfl⟩, ?_⟩
      refine ⟨_, ⟨rfl, rfl⟩, ?_⟩
      refine ⟨_, ⟨rfl, rfl⟩, ?_⟩
      refine ⟨_, ⟨rfl, rfl⟩, ?_⟩
      refine ⟨⟨trivial, ?_⟩, trivial⟩
      refine vc_sound (mkE hc T_ok spf_ok) 200 _ _ _ 30 ?_
      refine W_plan (id := 11) (mkE hc T_ok spf_ok) 30 9 (lineP 0 9 (oneP 9 .done)) (by rw [hc]; exact mix) (by kernel_rfl) 200 ?_
      refine ⟨_, ⟨rfl, rfl⟩, ?_⟩
      refine ⟨_, ⟨rfl, rfl⟩, ?_⟩
      refine ⟨_, ⟨rfl, rfl⟩, ?_⟩
      refine ⟨_, ⟨rfl, rfl⟩, ?_⟩
      refine ⟨_, ⟨rfl, rfl⟩, ?_⟩
      refine ⟨_, ⟨by repeat' (first | assumption | exact bnd0 | exact bndM | apply up_bnd | apply sat_bnd), ⟨by repeat' (first | assumption | exact bnd0 | exact bndM | apply up_bnd | apply sat_bnd), by repeat' (first | assumption | exact bnd0 | exact bndM | apply up_bnd | apply sat_bnd), by repeat' (first | assumption | exact bnd0 | exact bndM | apply up_bnd | apply sat_bnd), by repeat' (first | assumption | exact bnd0 | exact bndM | apply up_bnd | apply sat_bnd), by repeat' (first | assumption | exact bnd0 | exact bndM | apply up_bnd | apply sat_bnd), by repeat' (first | assumption | exact bnd0 | exact bndM | apply up_bnd | apply sat_bnd), by repeat' (first | assumption | exact bnd0 | exact bndM | apply up_bnd | apply sat_bnd), by repeat' (first | assumption | exact bnd0 | exact bndM | apply up_bnd | apply sat_bnd), by repeat' (first | assumption | exact bnd0 | exact bndM | apply up_bnd | apply sat_bnd), by repeat' (first | assumption | exact bnd0 | exact bndM | apply up_bnd | apply sat_bnd)⟩, rfl, rfl⟩, ?_⟩
      refine ⟨_, ⟨rfl, rfl⟩, ?_⟩
      refine ⟨_, ⟨rfl, rfl⟩, ?_⟩
      refine ⟨_, ⟨rfl, rfl⟩, ?_⟩
      refine ⟨⟨trivial, ?_⟩, trivial⟩
      refine vc_sound (mkE hc T_ok spf_ok) 200 _ _ _ 30 ?_
      refine W_plan (id := 11) (mkE hc T_ok spf_ok) 30 9 (lineP 0 9 (oneP 9 .done)) (by rw [hc]; exact mix) (by kernel_rfl) 200 ?_
      refine ⟨_, ⟨rfl, rfl⟩, ?_⟩
      refine ⟨_, ⟨rfl, rfl⟩, ?_⟩
      refine ⟨_, ⟨rfl, rfl⟩, ?_⟩
      refine ⟨_, ⟨rfl, rfl⟩, ?_⟩
      refine ⟨_, ⟨rfl, rfl⟩, ?_⟩
      refine ⟨_, ⟨by repeat' (first | assumption | exact bnd0 | exact bndM | apply up_bnd | apply sat_bnd), ⟨by repeat' (first | assumption | exact bnd0 | exact bndM | apply up_bnd | apply sat_bnd), by repeat' (first | assumption | exact bnd0 | exact bndM | apply up_bnd | apply sat_bnd), by repeat' (first | assumption | exact bnd0 | exact bndM | apply up_bnd | apply sat_bnd), by repeat' (first | assumption | exact bnd0 | exact bndM | apply up_bnd | apply sat_bnd), by repeat' (first | assumption | exact bnd0 | exact bndM | apply up_bnd | apply sat_bnd), by repeat' (first | assumption | exact bnd0 | exact bndM | apply up_bnd | apply sat_bnd), by repeat' (first | assumption | exact bnd0 | exact bndM | apply up_bnd | apply sat_bnd), by repeat' (first | assumption | exact bnd0 | exact bndM | apply up_bnd | apply sat_bnd), by repeat' (first | assumption | exact bnd0 | exact bndM | apply up_bnd | apply sat_bnd), by repeat' (first | assumption | exact bnd0 | exact bndM | apply up_bnd | apply sat_bnd)⟩, rfl, rfl⟩, ?_⟩
      refine ⟨_, ⟨rfl, rfl⟩, ?_⟩
      refine ⟨_, ⟨rfl, rfl⟩, ?_⟩
      refine ⟨_, ⟨rfl, rfl⟩, ?_⟩
      refine ⟨⟨trivial, ?_⟩, trivial⟩
      refine vc_sound (mkE hc T_ok spf_ok) 200 _ _ _ 30 ?_
      refine W_plan (id := 11) (mkE hc T_ok spf_ok) 30 9 (lineP 0 9 (oneP 9 .done)) (by rw [hc]; exact mix) (by kernel_rfl) 200 ?_
      refine ⟨_, ⟨rfl, rfl⟩, ?_⟩
      refine ⟨_, ⟨rfl, rfl⟩, ?_⟩
      refine ⟨_, ⟨rfl, rfl⟩, ?_⟩
      refine ⟨_, ⟨rfl, rfl⟩, ?_⟩
      refine ⟨_, ⟨rfl, rfl⟩, ?_⟩
      refine ⟨_, ⟨by repeat' (first | assumption | exact bnd0 | exact bndM | apply up_bnd | apply sat_bnd), ⟨by repeat' (first | assumption | exact bnd0 | exact bndM | apply up_bnd | apply sat_bnd), by repeat' (first | assumption | exact bnd0 | exact bndM | apply up_bnd | apply sat_bnd), by repeat' (first | assumption | exact bnd0 | exact bndM | apply up_bnd | apply sat_bnd), by repeat' (first | assumption | exact bnd0 | exact bndM | apply up_bnd | apply sat_bnd), by repeat' (first | assumption | exact bnd0 | exact bndM | apply up_bnd | apply sat_bnd), by repeat' (first | assumption | exact bnd0 | exact bndM | apply up_bnd | apply sat_bnd), by repeat' (first | assumption | exact bnd0 | exact bndM | apply up_bnd | apply sat_bnd), by repeat' (first | assumption | exact bnd0 | exact bndM | apply up_bnd | apply sat_bnd), by repeat' (first | assumption | exact bnd0 | exact bndM | apply up_bnd | apply sat_bnd), by repeat' (first | assumption | exact bnd0 | exact bndM | apply up_bnd | apply sat_bnd)⟩, rfl, rfl⟩, ?_⟩
      refine ⟨_, ⟨rfl, rfl⟩, ?_⟩
      refine ⟨_, ⟨rfl, rfl⟩, ?_⟩
      refine ⟨_, ⟨rfl, rfl⟩, ?_⟩
      refine ⟨⟨trivial, ?_⟩, trivial⟩
      refine vc_sound (mkE hc T_ok spf_ok) 200 _ _ _ 30 ?_
      refine W_plan (id := 11) (mkE hc T_ok spf_ok) 30 9 (lineP 0 9 (oneP 9 .done)) (by rw [hc]; exact mix) (by kernel_rfl) 200 ?_
      refine ⟨_, ⟨rfl, rfl⟩, ?_⟩
      refine ⟨_, ⟨rfl, rfl⟩, ?_⟩
      refine ⟨_, ⟨rfl, rfl⟩, ?_⟩
      refine ⟨_, ⟨rfl, rfl⟩, ?_⟩
      refine ⟨_, ⟨rfl, rfl⟩, ?_⟩
      refine ⟨_, ⟨by repeat' (first | assumption | exact bnd0 | exact bndM | apply up_bnd | apply sat_bnd), ⟨by repeat' (first | assumption | exact bnd0 | exact bndM | apply up_bnd | apply sat_bnd), by repeat' (first | assumption | exact bnd0 | exact bndM | apply up_bnd | apply sat_bnd), by repeat' (first | assumption | exact bnd0 | exact bndM | apply up_bnd | apply sat_bnd), by repeat' (first | assumption | exact bnd0 | exact bndM | apply up_bnd | apply sat_bnd), by repeat' (first | assumption | exact bnd0 | exact bndM | apply up_bnd | apply sat_bnd), by repeat' (first | assumption | exact bnd0 | exact bndM | apply up_bnd | apply sat_bnd), by repeat' (first | assumption | exact bnd0 | exact bndM | apply up_bnd | apply sat_bnd), by repeat' (first | assumption | exact bnd0 | exact bndM | apply up_bnd | apply sat_bnd), by repeat' (first | assumption | exact bnd0 | exact bndM | apply up_bnd | apply sat_bnd), by repeat' (first | assumption | exact bnd0 | exact bndM | apply up_bnd | apply sat_bnd)⟩, rfl, rfl⟩, ?_⟩
      refine ⟨_, ⟨rfl, rfl⟩, ?_⟩
      refine ⟨_, ⟨rfl, rfl⟩, ?_⟩
      refine ⟨_, ⟨rfl, rfl⟩, ?_⟩
      refine ⟨⟨trivial, ?_⟩, trivial⟩
      refine vc_sound (mkE hc T_ok spf_ok) 200 _ _ _ 30 ?_
      refine W_plan (id := 11) (mkE hc T_ok spf_ok) 30 9 (lineP 0 9 (oneP 9 .done)) (by rw [hc]; exact mix) (by kernel_rfl) 200 ?_
      refine ⟨_, ⟨rfl, rfl⟩, ?_⟩
      refine ⟨_, ⟨rfl, rfl⟩, ?_⟩
      refine ⟨_, ⟨rfl, rfl⟩, ?_⟩
      refine ⟨_, ⟨rfl, rfl⟩, ?_⟩
      refine ⟨_, ⟨rfl, rfl⟩, ?_⟩
      refine ⟨_, ⟨by repeat' (first | assumption | exact bnd0 | exact bndM | apply up_bnd | apply sat_bnd), ⟨by repeat' (first | assumption | exact bnd0 | exact bndM | apply up_bnd | apply sat_bnd), by repeat' (first | assumption | exact bnd0 | exact bndM | apply up_bnd | apply sat_bnd), by repeat' (first | assumption | exact bnd0 | exact bndM | apply up_bnd | apply sat_bnd), by repeat' (first | assumption | exact bnd0 | exact bndM | apply up_bnd | apply sat_bnd), by repeat' (first | assumption | exact bnd0 | exact bndM | apply up_bnd | apply sat_bnd), by repeat' (first | assumption | exact bnd0 | exact bndM | apply up_bnd | apply sat_bnd), by repeat' (first | assumption | exact bnd0 | exact bndM | apply up_bnd | apply sat_bnd), by repeat' (first | assumption | exact bnd0 | exact bndM | apply up_bnd | apply sat_bnd), by repeat' (first | assumption | exact bnd0 | exact bndM | apply up_bnd | apply sat_bnd), by repeat' (first | assumption | exact bnd0 | exact bndM | apply up_bnd | apply sat_bnd)⟩, rfl, rfl⟩, ?_⟩
      refine ⟨_, ⟨rfl, rfl⟩, ?_⟩
      refine ⟨_, ⟨rfl, rfl⟩, ?_⟩
      refine ⟨_, ⟨rfl, rfl⟩, ?_⟩
      refine ⟨⟨trivial, ?_⟩, trivial⟩
      refine vc_sound (mkE hc T_ok spf_ok) 200 _ _ _ 30 ?_
      refine W_plan (id := 11) (mkE hc T_ok spf_ok) 30 9 (lineP 0 9 (oneP 9 .done)) (by rw [hc]; exact mix) (by kernel_rfl) 200 ?_
      refine ⟨_, ⟨rfl, rfl⟩, ?_⟩
      refine ⟨_, ⟨rfl, rfl⟩, ?_⟩
      refine ⟨_, ⟨rfl, rfl⟩, ?_⟩
      refine ⟨_, ⟨rfl, rfl⟩, ?_⟩
      refine ⟨_, ⟨rfl, rfl⟩, ?_⟩
      refine ⟨_, ⟨by repeat' (first | assumption | exact bnd0 | exact bndM | apply up_bnd | apply sat_bnd), ⟨by repeat' (first | assumption | exact bnd0 | exact bndM | apply up_bnd | apply sat_bnd), by repeat' (first | assumption | exact bnd0 | exact bndM | apply up_bnd | apply sat_bnd), by repeat' (first | assumption | exact bnd0 | exact bndM | apply up_bnd | apply sat_bnd), by repeat' (first | assumption | exact bnd0 | exact bndM | apply up_bnd | apply sat_bnd), by repeat' (first | assumption | exact bnd0 | exact bndM | apply up_bnd | apply sat_bnd), by repeat' (first | assumption | exact bnd0 | exact bndM | apply up_bnd | apply sat_bnd), by repeat' (first | assumption | exact bnd0 | exact bndM | apply up_bnd | apply sat_bnd), by repeat' (first | assumption | exact bnd0 | exact bndM | apply up_bnd | apply sat_bnd), by repeat' (first | assumption | exact bnd0 | exact bndM | apply up_bnd | apply sat_bnd), by repeat' (first | assumption | exact bnd0 | exact bndM | apply up_bnd | apply sat_bnd)⟩, rfl, rfl⟩, ?_⟩
      refine ⟨_, ⟨rfl, rfl⟩, ?_⟩
      refine ⟨_, ⟨rfl, rfl⟩, ?_⟩
      refine ⟨_, ⟨rfl, rfl⟩, ?_⟩
      refine ⟨⟨trivial, ?_⟩, trivial⟩
      refine vc_sound (mkE hc T_ok spf_ok) 200 _ _ _ 30 ?_
      refine W_plan (id := 11) (mkE hc T_ok spf_ok) 30 9 (lineP 0 9 (oneP 9 .done)) (by rw [hc]; exact mix) (by kernel_rfl) 200 ?_
      refine ⟨_, ⟨rfl, rfl⟩, ?_⟩
      refine ⟨_, ⟨rfl, rfl⟩, ?_⟩
      refine ⟨_, ⟨rfl, rfl⟩, ?_⟩
      refine ⟨_, ⟨rfl, rfl⟩, ?_⟩
      refine ⟨_, ⟨rfl, rfl⟩, ?_⟩
      refine ⟨_, ⟨by repeat' (first | assumption | exact bnd0 | exact bndM | apply up_bnd | apply sat_bnd), ⟨by repeat' (first | assumption | exact bnd0 | exact bndM | apply up_bnd | apply sat_bnd), by repeat' (first | assumption | exact bnd0 | exact bndM | apply up_bnd | apply sat_bnd), by repeat' (first | assumption | exact bnd0 | exact bndM | apply up_bnd | apply sat_bnd), by repeat' (first | assumption | exact bnd0 | exact bndM | apply up_bnd | apply sat_bnd), by repeat' (first | assumption | exact bnd0 | exact bndM | apply up_bnd | apply sat_bnd), by repeat' (first | assumption | exact bnd0 | exact bndM | apply up_bnd | apply sat_bnd), by repeat' (first | assumption | exact bnd0 | exact bndM | apply up_bnd | apply sat_bnd), by repeat' (first | assumption | exact bnd0 | exact bndM | apply up_bnd | apply sat_bnd), by repeat' (first | assumption | exact bnd0 | exact bndM | apply up_bnd | apply sat_bnd), by repeat' (first | assumption | exact bnd0 | exact bndM | apply up_bnd | apply sat_bnd)⟩, rfl, rfl⟩, ?_⟩
      refine ⟨_, ⟨rfl, rfl⟩, ?_⟩
      refine ⟨_, ⟨rfl, rfl⟩, ?_⟩
      refine ⟨_, ⟨rfl, rfl⟩, ?_⟩
      refine ⟨⟨trivial, ?_⟩, trivial⟩
      refine vc_sound (mkE hc T_ok spf_ok) 200 _ _ _ 30 ?_
      refine W_plan (id := 11) (mkE hc T_ok spf_ok) 30 9 (lineP 0 9 (oneP 9 .done)) (by rw [hc]; exact mix) (by kernel_rfl) 200 ?_
      refine ⟨_, ⟨rfl, rfl⟩, ?_⟩
      refine ⟨_, ⟨rfl, rfl⟩, ?_⟩
      refine ⟨_, ⟨rfl, rfl⟩, ?_⟩
      refine ⟨_, ⟨rfl, rfl⟩, ?_⟩
      refine ⟨_, ⟨rfl, rfl⟩, ?_⟩
      refine ⟨_, ⟨by repeat' (first | assumption | exact bnd0 | exact bndM | apply up_bnd | apply sat_bnd), ⟨by repeat' (first | assumption | exact bnd0 | exact bndM | apply up_bnd | apply sat_bnd), by repeat' (first | assumption | exact bnd0 | exact bndM | apply up_bnd | apply sat_bnd), by repeat' (first | assumption | exact bnd0 | exact bndM | apply up_bnd | apply sat_bnd), by repeat' (first | assumption | exact bnd0 | exact bndM | apply up_bnd | apply sat_bnd), by repeat' (first | assumption | exact bnd0 | exact bndM | apply up_bnd | apply sat_bnd), by repeat' (first | assumption | exact bnd0 | exact bndM | apply up_bnd | apply sat_bnd), by repeat' (first | assumption | exact bnd0 | exact bndM | apply up_bnd | apply sat_bnd), by repeat' (first | assumption | exact bnd0 | exact bndM | apply up_bnd | apply sat_bnd), by repeat' (first | assumption | exact bnd0 | exact bndM | apply up_bnd | apply sat_bnd), by repeat' (first | assumption | exact bnd0 | exact bndM | apply up_bnd | apply sat_bnd)⟩, rfl, rfl⟩, ?_⟩
      refine ⟨_, ⟨rfl, rfl⟩, ?_⟩
      refine ⟨_, ⟨rfl, rfl⟩, ?_⟩
      refine ⟨_, ⟨rfl, rfl⟩, ?_⟩
      refine ⟨⟨trivial, ?_⟩, trivial⟩
      refine vc_sound (mkE hc T_ok spf_ok) 200 _ _ _ 30 ?_
      refine outB ?_
      simp [up, sat0, sat0', IntKind.wrap_i64, *]
  · exact hs.elim

end Go.Proofs.Ytfepdagknnoblaa.Sx