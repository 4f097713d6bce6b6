import Derived.Test.YtmohokeeglnliaaDoorSxV8
import Derived.Test.YtmohokeeglnliaaDoorSxF6
/-
  ReportDoubles: its plain law, and its walk.
-/
namespace Go.Proofs.YtmohokeeglnliaaDoor.Sx
open Go Go.Proofs Go.RowKit Go.Sort
set_option maxRecDepth 100000
set_option linter.unusedSimpArgs false
set_option linter.unusedVariables false

def small (x : Int) : Prop := 0 ≤ x ∧ x < 4611686018427387904
theorem wrap_two {x : Int} (h : small x) : IntKind.u64.wrap (2 * x) = 2 * x := by unfold small at h; rw [IntKind.wrap_u64]; omega
theorem rate_two {a b : Int} (ha : 0 ≤ a) (ha' : a < 4611686018427387904) (hb : 0 ≤ b) (hb' : b < 4611686018427387904) : rateV (2 * a) (2 * b) = rateV a b := by
  unfold rateV
  rw [near_eq (n := 2 * a) (by omega), near_eq (n := 2 * b) (by omega), near_eq ha, near_eq hb]
  have := rate_double (a := a.toNat) (b := b.toNat) (by omega) (by omega)
  unfold rateN at this
  rw [show (2 * a).toNat = 2 * a.toNat by omega, show (2 * b).toNat = 2 * b.toNat by omega]
  exact this
theorem sub_two {a b : Int} : subV (2 * a) (2 * b) = 2 * subV a b := by
  unfold subV
  by_cases h : a < b
  · rw [if_pos h, if_pos (by omega)]; rfl
  · rw [if_neg h, if_neg (by omega)]; omega
theorem sub_small {a b : Int} (ha : small a) (hb : small b) : 0 ≤ subV a b ∧ subV a b < 4611686018427387904 := by unfold subV small at *; split <;> omega
theorem ofL_two {t0 t1 t2 t4 t5 t6 t9 : Int} (h0 : small t0) (h1 : small t1) (h2 : small t2) (h4 : small t4) (h5 : small t5) (h6 : small t6) (h9 : small t9) :
    ofL (IntKind.u64.wrap (2 * t0)) (IntKind.u64.wrap (2 * t1)) (IntKind.u64.wrap (2 * t2)) (IntKind.u64.wrap (2 * t4)) (IntKind.u64.wrap (2 * t5)) (IntKind.u64.wrap (2 * t6)) (IntKind.u64.wrap (2 * t9)) = ofL t0 t1 t2 t4 t5 t6 t9 := by
  have hs := sub_small h0 h4
  unfold ofL
  rw [wrap_two h0, wrap_two h1, wrap_two h2, wrap_two h4, wrap_two h5, wrap_two h6, wrap_two h9, sub_two]
  rw [rate_two h1.1 h1.2 hs.1 hs.2, rate_two h6.1 h6.2 h5.1 h5.2, rate_two h2.1 h2.2 hs.1 hs.2, rate_two h9.1 h9.2 h5.1 h5.2]
theorem btr_two {t0 t1 t4 t5 t6 : Int} (h0 : small t0) (h1 : small t1) (h4 : small t4) (h5 : small t5) (h6 : small t6) :
    btrV (IntKind.u64.wrap (2 * t0)) (IntKind.u64.wrap (2 * t1)) (IntKind.u64.wrap (2 * t4)) (IntKind.u64.wrap (2 * t5)) (IntKind.u64.wrap (2 * t6)) t0 t1 t4 t5 t6 = 0 := by
  have hs := sub_small h0 h4
  unfold btrV
  rw [wrap_two h0, wrap_two h1, wrap_two h4, wrap_two h5, wrap_two h6, sub_two, rate_two h1.1 h1.2 hs.1 hs.2, rate_two h6.1 h6.2 h5.1 h5.2, cmp_self, cmp_self]
  rfl
theorem wrap_bnd (x : Int) : bnd (IntKind.u64.wrap x) := by unfold bnd; rw [IntKind.wrap_u64]; omega
def SPD : SpT := [(8, sAwake), (9, sOf), (17, sBetter), (11, sLine)]
theorem spd : ∀ p ∈ SPD, SpecOK Tryd.prog p.1 p.2 := consSP sAwake_ok (consSP sOf_ok (consSP sBetter_ok (consSP sLine_ok noSP)))
def sDoubles : Spec := fun args h nx K => match args with
  | [.agg [.int .u64 t0, .int .u64 t1, .int .u64 t2, .int .u64 t3, .int .u64 t4, .int .u64 t5, .int .u64 t6, .int .u64 t7, .int .u64 t8, .int .u64 t9]] => (bnd t0 ∧ bnd t1 ∧ bnd t2 ∧ bnd t3 ∧ bnd t4 ∧ bnd t5 ∧ bnd t6 ∧ bnd t7 ∧ bnd t8 ∧ bnd t9) ∧ K (.ret (.bool true)) h nx
  | _ => False
theorem sDoubles_ok : SpecOK Tryd.prog 6 sDoubles := by
  refine specOK_pure (fn := Tryd.f6) rfl rfl rfl T_ok (SP := SPD) spd [] trivial 400 _ ?_
  intro args h nx K hs
  unfold sDoubles at hs
  split at hs
  · rename_i t0 t1 t2 t3 t4 t5 t6 t7 t8 t9
    obtain ⟨⟨h0, h1, h2, h3, h4, h5, h6, h7, h8, h9⟩, hk⟩ := hs
    refine ⟨trivial, by repeat constructor, by simp [Tryd.f6], fun o => o = .ret (.bool true), ?_, ?_⟩
    · rintro o rfl; exact ⟨trivial, hk⟩
    intro c hc
    clear hk
    intro b0
    refine ⟨rfl, ?_⟩
    intro b1 m hm
    (refine (?_ : br _ _ _); refine br_dec (fun e => ?_) (fun e => ?_))
    · exact outB rfl
    have e : ¬ (4611686018427387904 : Int) ≤ m := e
    have s0 : small t0 := by unfold bnd small at *; omega
    have s1 : small t1 := by unfold bnd small at *; omega
    have s2' : small t2 := by unfold bnd small at *; omega
    have s4 : small t4 := by unfold bnd small at *; omega
    have s5 : small t5 := by unfold bnd small at *; omega
    have s6 : small t6 := by unfold bnd small at *; omega
    have s9 : small t9 := by unfold bnd small at *; omega
    have eT := ofL_two s0 s1 s2' s4 s5 s6 s9
    have eB := btr_two s0 s1 s4 s5 s6
    obtain ⟨a0, r0⟩ : ∃ a, a = rateV t1 (subV t0 t4) := ⟨_, rfl⟩
    obtain ⟨a1, r1⟩ : ∃ a, a = rateV t6 t5 := ⟨_, rfl⟩
    obtain ⟨a2, r2⟩ : ∃ a, a = rateV t2 (subV t0 t4) := ⟨_, rfl⟩
    obtain ⟨q3, p3⟩ : ∃ a, a = percV a0.toNat := ⟨_, rfl⟩
    obtain ⟨q4, p4⟩ : ∃ a, a = percV a1.toNat := ⟨_, rfl⟩
    obtain ⟨q5, p5⟩ : ∃ a, a = percV (rateV t9 t5).toNat := ⟨_, rfl⟩
    have eL : ofL t0 t1 t2 t4 t5 t6 t9 = [.int .u64 a0, .int .u64 a1, .int .u64 a2, .int .i64 q3, .int .i64 q4, .int .i64 q5] := by
      rw [p3, p4, p5, r0, r1, r2]; rfl
    have eU := eT.trans eL
    have x3 : rng q3 := by rw [p3]; exact perc_rng _
    have x4 : rng q4 := by rw [p4]; exact perc_rng _
    have x5 : rng q5 := by rw [p5]; exact perc_rng _
    clear r0 r1 r2 p3 p4 p5
    obtain ⟨s2, e2⟩ : ∃ s, s = lineS a0 a1 q3 q4 q5 := ⟨_, rfl⟩
    refine W_plan (mkE hc T_ok spd) 2 20 (lineP 0 20 (oneP 20 .done)) (by rw [hc]; exact mix) (by kernel_rfl) 300 ?_
    refine ⟨_, ⟨rfl, rfl⟩, ?_⟩
    refine ⟨.agg [.int .u64 a0, .int .u64 a1, .int .u64 a2, .int .i64 q3, .int .i64 q4, .int .i64 q5], ⟨wrap_bnd _, wrap_bnd _, congrArg V.agg eU, rfl⟩, ?_⟩
    refine ⟨_, ⟨rfl, rfl⟩, ?_⟩
    refine ⟨.agg [.int .u64 a0, .int .u64 a1, .int .u64 a2, .int .i64 q3, .int .i64 q4, .int .i64 q5], ⟨h0, h4, congrArg V.agg eL, rfl⟩, ?_⟩
    refine ⟨.bool true, ⟨congrArg V.bool (show (a0 == a0 && (a1 == a1 && (a2 == a2 && (q3 == q3 && (q4 == q4 && (q5 == q5 && true)))))) = true by simp), rfl⟩, ?_⟩
    refine ⟨_, ⟨rfl, rfl⟩, ?_⟩
    refine ⟨_, ⟨rfl, rfl⟩, ?_⟩
    refine ⟨_, ⟨rfl, rfl⟩, ?_⟩
    refine ⟨.int .i64 0, ⟨wrap_bnd _, wrap_bnd _, h0, h4, congrArg (V.int .i64) eB, rfl⟩, ?_⟩
    refine ⟨_, ⟨rfl, rfl⟩, ?_⟩
    refine ⟨_, ⟨rfl, rfl⟩, ?_⟩
    refine ⟨_, ⟨rfl, rfl⟩, ?_⟩
    refine ⟨_, ⟨rfl, rfl⟩, ?_⟩
    refine ⟨.agg [.int .u64 a0, .int .u64 a1, .int .u64 a2, .int .i64 q3, .int .i64 q4, .int .i64 q5], ⟨wrap_bnd _, wrap_bnd _, congrArg V.agg eU, rfl⟩, ?_⟩
    refine ⟨.str s2, ⟨x3, x4, x5, fun s hs => ⟨congrArg V.str (hs.trans e2.symm), rfl⟩⟩, ?_⟩
    refine ⟨_, ⟨rfl, rfl⟩, ?_⟩
    refine ⟨.agg [.int .u64 a0, .int .u64 a1, .int .u64 a2, .int .i64 q3, .int .i64 q4, .int .i64 q5], ⟨h0, h4, congrArg V.agg eL, rfl⟩, ?_⟩
    refine ⟨.str s2, ⟨x3, x4, x5, fun s hs => ⟨congrArg V.str (hs.trans e2.symm), rfl⟩⟩, ?_⟩
    refine ⟨.bool true, ⟨congrArg V.bool (show (s2.toList == s2.toList) = true by simp), rfl⟩, ?_⟩
    refine ⟨_, ⟨rfl, rfl⟩, ?_⟩
    refine ⟨⟨trivial, ?_⟩, trivial⟩
    exact outB rfl
  · exact hs.elim
end Go.Proofs.YtmohokeeglnliaaDoor.Sx
