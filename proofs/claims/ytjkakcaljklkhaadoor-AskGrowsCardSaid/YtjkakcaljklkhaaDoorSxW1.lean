import Derived.Test.YtjkakcaljklkhaaDoorSxT
import Derived.Test.YtjkakcaljklkhaaDoorSxO
/-
  The walks of this seat's functions, first part: a number within its bounds, and whether options may be.
-/
namespace Go.Proofs.YtjkakcaljklkhaaDoor.Sx
open Go Go.Proofs
set_option maxRecDepth 100000
set_option linter.unusedSimpArgs false

theorem noSP {P : Program} : ∀ p ∈ ([] : SpT), SpecOK P p.1 p.2 := by intro p hp; cases hp

def inB (lo hi v : Int) : Bool := decide (lo ≤ v) && decide (v ≤ hi)

def sIn : Spec := fun args h nx K => match args with
  | [.agg [.int .i64 lo, .int .i64 hi], .int .i64 v] => K (.ret (.bool (inB lo hi v))) h nx
  | _ => False

theorem sIn_ok : SpecOK Tryd.prog 17 sIn := by
  refine specOK_pure (fn := Tryd.f17) rfl rfl rfl T_ok (SP := []) noSP [] trivial 100 _ ?_
  intro args h nx K hs
  unfold sIn at hs
  split at hs
  · rename_i lo hi v
    refine ⟨trivial, by repeat constructor, by simp [Tryd.f17], fun o => o = .ret (.bool (inB lo hi v)), ?_, ?_⟩
    · rintro o rfl; exact ⟨trivial, hs⟩
    intro c hc
    intro b
    refine br_both (fun e1 => ?_) (fun e1 => ?_)
    · refine congrArg (fun b => Out.ret (.bool b)) ?_
      simp only [inB, e1, Bool.true_and]
    · refine congrArg (fun b => Out.ret (.bool b)) ?_
      simp only [inB, e1, Bool.false_and]
  · exact hs.elim

/-- The bounds, as they are laid. -/
def mayL : List Int := [1, 256, 1, 64, 1, 64, 1, 64, 0, 64, 1, 16, 1, 8, 1, 8, 1, 16, 1, 64, 1, 16, 1, 32, 1, 64, 1, 16]
def gmay (i c : Nat) : V := match mayL[i * 2 + c]? with | some n => .int .i64 n | none => und
def G : Hp := [(1000, .ro (some ⟨0, 0, none⟩) 14 2 gmay)]
theorem G_ok : okG G G := by
  refine ⟨fun i c hi hc => ?_, trivial⟩
  have : gmay i c = (match mayL[i * 2 + c]? with | some n => .int .i64 n | none => und) := rfl
  rw [this]
  split
  · trivial
  · trivial

theorem G_has : Has G G := ⟨⟨rfl, _, _, _, _, rfl⟩, trivial⟩

def mayB (a0 a1 a2 a3 a4 a5 a6 a7 a8 a9 a10 a11 a12 a13 : Int) : Bool :=
  inB 1 256 a0 && (inB 1 64 a1 && (inB 1 64 a2 && (inB 1 64 a3 && (inB 0 64 a4 && (inB 1 16 a5 && (inB 1 8 a6 && (inB 1 8 a7 && (inB 1 16 a8 && (inB 1 64 a9 && (inB 1 16 a10 && (inB 1 32 a11 && (inB 1 64 a12 && (inB 1 16 a13 && !decide (a2 > a1))))))))))))))

def okI (b : Bool) : Int := match b with | true => 0 | false => 1

def sOptions : Spec := fun args h nx K => match args with
  | [.agg [.int .i64 a0, .int .i64 a1, .int .i64 a2, .int .i64 a3, .int .i64 a4, .int .i64 a5, .int .i64 a6, .int .i64 a7, .int .i64 a8, .int .i64 a9, .int .i64 a10, .int .i64 a11, .int .i64 a12, .int .i64 a13]] =>
    Has h G ∧ K (.ret (.int .i64 (okI (mayB a0 a1 a2 a3 a4 a5 a6 a7 a8 a9 a10 a11 a12 a13)))) h nx
  | _ => False

theorem sp1 : ∀ p ∈ ([(17, sIn)] : SpT), SpecOK Tryd.prog p.1 p.2 := by
  intro p hp
  rcases List.mem_cons.1 hp with rfl | hp
  · exact sIn_ok
  · cases hp

theorem sOptions_ok : SpecOK Tryd.prog 11 sOptions := by
  refine specOK_pure (fn := Tryd.f11) rfl rfl rfl T_ok (SP := [(17, sIn)]) sp1 G G_ok 200 _ ?_
  intro args h nx K hs
  unfold sOptions at hs
  split at hs
  · rename_i a0 a1 a2 a3 a4 a5 a6 a7 a8 a9 a10 a11 a12 a13
    refine ⟨hs.1, by repeat constructor, by simp [Tryd.f11], fun o => o = .ret (.int .i64 (okI (mayB a0 a1 a2 a3 a4 a5 a6 a7 a8 a9 a10 a11 a12 a13))), ?_, ?_⟩
    · rintro o rfl; exact ⟨trivial, hs.2⟩
    intro c hc
    intro b b2
    refine W_unroll 15 10 ?_
    refine vc_sound (mkE hc T_ok sp1) 100 _ _ _ 10 ?_
    refine br_both (fun e0 => ?_) (fun e0 => ?_)
    · refine congrArg (fun n => Out.ret (.int .i64 n)) ?_
      simp only [Bool.not_eq_true', Bool.not_eq_false'] at e0
      simp only [mayB, e0, Bool.true_and, Bool.false_and, okI]
    refine vc_sound (mkE hc T_ok sp1) 100 _ _ _ 10 ?_
    refine br_both (fun e1 => ?_) (fun e1 => ?_)
    · refine congrArg (fun n => Out.ret (.int .i64 n)) ?_
      simp only [Bool.not_eq_true', Bool.not_eq_false'] at e0 e1
      simp only [mayB, e0, e1, Bool.true_and, Bool.false_and, okI]
    refine vc_sound (mkE hc T_ok sp1) 100 _ _ _ 10 ?_
    refine br_both (fun e2 => ?_) (fun e2 => ?_)
    · refine congrArg (fun n => Out.ret (.int .i64 n)) ?_
      simp only [Bool.not_eq_true', Bool.not_eq_false'] at e0 e1 e2
      simp only [mayB, e0, e1, e2, Bool.true_and, Bool.false_and, okI]
    refine vc_sound (mkE hc T_ok sp1) 100 _ _ _ 10 ?_
    refine br_both (fun e3 => ?_) (fun e3 => ?_)
    · refine congrArg (fun n => Out.ret (.int .i64 n)) ?_
      simp only [Bool.not_eq_true', Bool.not_eq_false'] at e0 e1 e2 e3
      simp only [mayB, e0, e1, e2, e3, Bool.true_and, Bool.false_and, okI]
    refine vc_sound (mkE hc T_ok sp1) 100 _ _ _ 10 ?_
    refine br_both (fun e4 => ?_) (fun e4 => ?_)
    · refine congrArg (fun n => Out.ret (.int .i64 n)) ?_
      simp only [Bool.not_eq_true', Bool.not_eq_false'] at e0 e1 e2 e3 e4
      simp only [mayB, e0, e1, e2, e3, e4, Bool.true_and, Bool.false_and, okI]
    refine vc_sound (mkE hc T_ok sp1) 100 _ _ _ 10 ?_
    refine br_both (fun e5 => ?_) (fun e5 => ?_)
    · refine congrArg (fun n => Out.ret (.int .i64 n)) ?_
      simp only [Bool.not_eq_true', Bool.not_eq_false'] at e0 e1 e2 e3 e4 e5
      simp only [mayB, e0, e1, e2, e3, e4, e5, Bool.true_and, Bool.false_and, okI]
    refine vc_sound (mkE hc T_ok sp1) 100 _ _ _ 10 ?_
    refine br_both (fun e6 => ?_) (fun e6 => ?_)
    · refine congrArg (fun n => Out.ret (.int .i64 n)) ?_
      simp only [Bool.not_eq_true', Bool.not_eq_false'] at e0 e1 e2 e3 e4 e5 e6
      simp only [mayB, e0, e1, e2, e3, e4, e5, e6, Bool.true_and, Bool.false_and, okI]
    refine vc_sound (mkE hc T_ok sp1) 100 _ _ _ 10 ?_
    refine br_both (fun e7 => ?_) (fun e7 => ?_)
    · refine congrArg (fun n => Out.ret (.int .i64 n)) ?_
      simp only [Bool.not_eq_true', Bool.not_eq_false'] at e0 e1 e2 e3 e4 e5 e6 e7
      simp only [mayB, e0, e1, e2, e3, e4, e5, e6, e7, Bool.true_and, Bool.false_and, okI]
    refine vc_sound (mkE hc T_ok sp1) 100 _ _ _ 10 ?_
    refine br_both (fun e8 => ?_) (fun e8 => ?_)
    · refine congrArg (fun n => Out.ret (.int .i64 n)) ?_
      simp only [Bool.not_eq_true', Bool.not_eq_false'] at e0 e1 e2 e3 e4 e5 e6 e7 e8
      simp only [mayB, e0, e1, e2, e3, e4, e5, e6, e7, e8, Bool.true_and, Bool.false_and, okI]
    refine vc_sound (mkE hc T_ok sp1) 100 _ _ _ 10 ?_
    refine br_both (fun e9 => ?_) (fun e9 => ?_)
    · refine congrArg (fun n => Out.ret (.int .i64 n)) ?_
      simp only [Bool.not_eq_true', Bool.not_eq_false'] at e0 e1 e2 e3 e4 e5 e6 e7 e8 e9
      simp only [mayB, e0, e1, e2, e3, e4, e5, e6, e7, e8, e9, Bool.true_and, Bool.false_and, okI]
    refine vc_sound (mkE hc T_ok sp1) 100 _ _ _ 10 ?_
    refine br_both (fun e10 => ?_) (fun e10 => ?_)
    · refine congrArg (fun n => Out.ret (.int .i64 n)) ?_
      simp only [Bool.not_eq_true', Bool.not_eq_false'] at e0 e1 e2 e3 e4 e5 e6 e7 e8 e9 e10
      simp only [mayB, e0, e1, e2, e3, e4, e5, e6, e7, e8, e9, e10, Bool.true_and, Bool.false_and, okI]
    refine vc_sound (mkE hc T_ok sp1) 100 _ _ _ 10 ?_
    refine br_both (fun e11 => ?_) (fun e11 => ?_)
    · refine congrArg (fun n => Out.ret (.int .i64 n)) ?_
      simp only [Bool.not_eq_true', Bool.not_eq_false'] at e0 e1 e2 e3 e4 e5 e6 e7 e8 e9 e10 e11
      simp only [mayB, e0, e1, e2, e3, e4, e5, e6, e7, e8, e9, e10, e11, Bool.true_and, Bool.false_and, okI]
    refine vc_sound (mkE hc T_ok sp1) 100 _ _ _ 10 ?_
    refine br_both (fun e12 => ?_) (fun e12 => ?_)
    · refine congrArg (fun n => Out.ret (.int .i64 n)) ?_
      simp only [Bool.not_eq_true', Bool.not_eq_false'] at e0 e1 e2 e3 e4 e5 e6 e7 e8 e9 e10 e11 e12
      simp only [mayB, e0, e1, e2, e3, e4, e5, e6, e7, e8, e9, e10, e11, e12, Bool.true_and, Bool.false_and, okI]
    refine vc_sound (mkE hc T_ok sp1) 100 _ _ _ 10 ?_
    refine br_both (fun e13 => ?_) (fun e13 => ?_)
    · refine congrArg (fun n => Out.ret (.int .i64 n)) ?_
      simp only [Bool.not_eq_true', Bool.not_eq_false'] at e0 e1 e2 e3 e4 e5 e6 e7 e8 e9 e10 e11 e12 e13
      simp only [mayB, e0, e1, e2, e3, e4, e5, e6, e7, e8, e9, e10, e11, e12, e13, Bool.true_and, Bool.false_and, okI]
    refine vc_sound (mkE hc T_ok sp1) 100 _ _ _ 10 ?_
    refine br_both (fun e14 => ?_) (fun e14 => ?_)
    · refine congrArg (fun n => Out.ret (.int .i64 n)) ?_
      simp only [Bool.not_eq_true', Bool.not_eq_false'] at e0 e1 e2 e3 e4 e5 e6 e7 e8 e9 e10 e11 e12 e13
      simp only [mayB, e0, e1, e2, e3, e4, e5, e6, e7, e8, e9, e10, e11, e12, e13, e14, Bool.true_and, Bool.false_and, Bool.not_true, Bool.not_false, okI]
    · refine congrArg (fun n => Out.ret (.int .i64 n)) ?_
      simp only [Bool.not_eq_true', Bool.not_eq_false'] at e0 e1 e2 e3 e4 e5 e6 e7 e8 e9 e10 e11 e12 e13
      simp only [mayB, e0, e1, e2, e3, e4, e5, e6, e7, e8, e9, e10, e11, e12, e13, e14, Bool.true_and, Bool.false_and, Bool.not_true, Bool.not_false, okI]
  · exact hs.elim
end Go.Proofs.YtjkakcaljklkhaaDoor.Sx
