import Derived.Test.YtfepdagknnoblaaSxW3
/-
  The walks of this seat's functions, fourth part: the program's sum of tallies; whether one adds up.
-/
namespace Go.Proofs.Ytfepdagknnoblaa.Sx
open Go Go.Proofs
set_option maxRecDepth 100000
set_option linter.unusedSimpArgs false
set_option linter.unusedVariables false

theorem sSum_ok : SpecOK Try.prog 17 sSum := by
  refine specOK_pure (fn := Try.f17) rfl rfl rfl T_ok (SP := SP2) sp2 [] trivial 300 _ ?_
  intro args h nx K hs
  unfold sSum at hs
  split at hs
  · rename_i t0 t1 t2 t3 t4 t5 t6 t7 t8 t9 u0 u1 u2 u3 u4 u5 u6 u7 u8 u9
    obtain ⟨⟨h0, h1, h2, h3, h4, h5, h6, h7, h8, h9⟩, ⟨k0, k1, k2, k3, k4, k5, k6, k7, k8, k9⟩, hs⟩ := hs
    refine ⟨trivial, by repeat constructor, by simp [Try.f17], fun o => o = .ret (.agg [.int .u64 (satI t0 u0), .int .u64 (satI t1 u1), .int .u64 (satI t2 u2), .int .u64 (satI t3 u3), .int .u64 (satI t4 u4), .int .u64 (satI t5 u5), .int .u64 (satI t6 u6), .int .u64 (satI t7 u7), .int .u64 (satI t8 u8), .int .u64 (satI t9 u9)]), ?_, ?_⟩
    · rintro o rfl; exact ⟨by repeat constructor, hs⟩
    intro c hc
    clear hs
    intro b b2 b3 b4
    refine W_unroll 11 10 ?_
    refine vc_sound (mkE hc T_ok sp2) 100 _ _ _ 10 ?_
    refine ⟨rfl, fun c0 hc0 => ?_⟩
    refine W_drawn (mkE hc0 T_ok sp1) 10 11 (by rw [hc0]; exact mix) (by kernel_rfl) (by kernel_rfl) 100 ?_
    repeat' (first
      | refine ⟨_, ⟨rfl, rfl⟩, ?_⟩
      | refine ⟨_, ⟨by assumption, by assumption, rfl, rfl⟩, ?_⟩
      | fail)
    refine ⟨Ext.same rfl, ?_⟩
    refine vc_sound (mkE hc T_ok sp2) 100 _ _ _ 10 ?_
    refine ⟨rfl, fun c1 hc1 => ?_⟩
    refine W_drawn (mkE hc1 T_ok sp1) 10 11 (by rw [hc1]; exact mix) (by kernel_rfl) (by kernel_rfl) 100 ?_
    repeat' (first
      | refine ⟨_, ⟨rfl, rfl⟩, ?_⟩
      | refine ⟨_, ⟨by assumption, by assumption, rfl, rfl⟩, ?_⟩
      | fail)
    refine ⟨Ext.same rfl, ?_⟩
    refine vc_sound (mkE hc T_ok sp2) 100 _ _ _ 10 ?_
    refine ⟨rfl, fun c2 hc2 => ?_⟩
    refine W_drawn (mkE hc2 T_ok sp1) 10 11 (by rw [hc2]; exact mix) (by kernel_rfl) (by kernel_rfl) 100 ?_
    repeat' (first
      | refine ⟨_, ⟨rfl, rfl⟩, ?_⟩
      | refine ⟨_, ⟨by assumption, by assumption, rfl, rfl⟩, ?_⟩
      | fail)
    refine ⟨Ext.same rfl, ?_⟩
    refine vc_sound (mkE hc T_ok sp2) 100 _ _ _ 10 ?_
    refine ⟨rfl, fun c3 hc3 => ?_⟩
    refine W_drawn (mkE hc3 T_ok sp1) 10 11 (by rw [hc3]; exact mix) (by kernel_rfl) (by kernel_rfl) 100 ?_
    repeat' (first
      | refine ⟨_, ⟨rfl, rfl⟩, ?_⟩
      | refine ⟨_, ⟨by assumption, by assumption, rfl, rfl⟩, ?_⟩
      | fail)
    refine ⟨Ext.same rfl, ?_⟩
    refine vc_sound (mkE hc T_ok sp2) 100 _ _ _ 10 ?_
    refine ⟨rfl, fun c4 hc4 => ?_⟩
    refine W_drawn (mkE hc4 T_ok sp1) 10 11 (by rw [hc4]; exact mix) (by kernel_rfl) (by kernel_rfl) 100 ?_
    repeat' (first
      | refine ⟨_, ⟨rfl, rfl⟩, ?_⟩
      | refine ⟨_, ⟨by assumption, by assumption, rfl, rfl⟩, ?_⟩
      | fail)
    refine ⟨Ext.same rfl, ?_⟩
    refine vc_sound (mkE hc T_ok sp2) 100 _ _ _ 10 ?_
    refine ⟨rfl, fun c5 hc5 => ?_⟩
    refine W_drawn (mkE hc5 T_ok sp1) 10 11 (by rw [hc5]; exact mix) (by kernel_rfl) (by kernel_rfl) 100 ?_
    repeat' (first
      | refine ⟨_, ⟨rfl, rfl⟩, ?_⟩
      | refine ⟨_, ⟨by assumption, by assumption, rfl, rfl⟩, ?_⟩
      | fail)
    refine ⟨Ext.same rfl, ?_⟩
    refine vc_sound (mkE hc T_ok sp2) 100 _ _ _ 10 ?_
    refine ⟨rfl, fun c6 hc6 => ?_⟩
    refine W_drawn (mkE hc6 T_ok sp1) 10 11 (by rw [hc6]; exact mix) (by kernel_rfl) (by kernel_rfl) 100 ?_
    repeat' (first
      | refine ⟨_, ⟨rfl, rfl⟩, ?_⟩
      | refine ⟨_, ⟨by assumption, by assumption, rfl, rfl⟩, ?_⟩
      | fail)
    refine ⟨Ext.same rfl, ?_⟩
    refine vc_sound (mkE hc T_ok sp2) 100 _ _ _ 10 ?_
    refine ⟨rfl, fun c7 hc7 => ?_⟩
    refine W_drawn (mkE hc7 T_ok sp1) 10 11 (by rw [hc7]; exact mix) (by kernel_rfl) (by kernel_rfl) 100 ?_
    repeat' (first
      | refine ⟨_, ⟨rfl, rfl⟩, ?_⟩
      | refine ⟨_, ⟨by assumption, by assumption, rfl, rfl⟩, ?_⟩
      | fail)
    refine ⟨Ext.same rfl, ?_⟩
    refine vc_sound (mkE hc T_ok sp2) 100 _ _ _ 10 ?_
    refine ⟨rfl, fun c8 hc8 => ?_⟩
    refine W_drawn (mkE hc8 T_ok sp1) 10 11 (by rw [hc8]; exact mix) (by kernel_rfl) (by kernel_rfl) 100 ?_
    repeat' (first
      | refine ⟨_, ⟨rfl, rfl⟩, ?_⟩
      | refine ⟨_, ⟨by assumption, by assumption, rfl, rfl⟩, ?_⟩
      | fail)
    refine ⟨Ext.same rfl, ?_⟩
    refine vc_sound (mkE hc T_ok sp2) 100 _ _ _ 10 ?_
    refine ⟨rfl, fun c9 hc9 => ?_⟩
    refine W_drawn (mkE hc9 T_ok sp1) 10 11 (by rw [hc9]; exact mix) (by kernel_rfl) (by kernel_rfl) 100 ?_
    repeat' (first
      | refine ⟨_, ⟨rfl, rfl⟩, ?_⟩
      | refine ⟨_, ⟨by assumption, by assumption, rfl, rfl⟩, ?_⟩
      | fail)
    refine ⟨Ext.same rfl, ?_⟩
    refine vc_sound (mkE hc T_ok sp2) 100 _ _ _ 10 ?_
    rfl
  · exact hs.elim

def sndA (t0 t1 t2 t3 t4 t5 t6 t7 t8 t9 : Int) : Bool := t0 == satI (satI (satI (satI 0 t1) t2) t3) t4
def sndB (t0 t1 t2 t3 t4 t5 t6 t7 t8 t9 r f : Int) : Bool := t5 == satI (satI (satI (satI (satI (satI 0 t6) t7) t8) t9) r) f
def sSound : Spec := fun args h nx K => match args with
  | [.agg [.int .u64 t0, .int .u64 t1, .int .u64 t2, .int .u64 t3, .int .u64 t4, .int .u64 t5, .int .u64 t6, .int .u64 t7, .int .u64 t8, .int .u64 t9], .int .u64 r, .int .u64 f] => (bnd t0 ∧ bnd t1 ∧ bnd t2 ∧ bnd t3 ∧ bnd t4 ∧ bnd t5 ∧ bnd t6 ∧ bnd t7 ∧ bnd t8 ∧ bnd t9) ∧ bnd r ∧ bnd f ∧ K (.ret (.tup [.bool (sndA t0 t1 t2 t3 t4 t5 t6 t7 t8 t9), .bool (sndB t0 t1 t2 t3 t4 t5 t6 t7 t8 t9 r f)])) h nx
  | _ => False
theorem sat0 {a : Int} (h : bnd a) : satI 0 a = a := by unfold satI bnd at *; split <;> omega

theorem outBB {a b p q : Bool} (h : a = b) (h' : p = q) : Out.ret (.tup [.bool a, .bool p]) = Out.ret (.tup [.bool b, .bool q]) := by rw [h, h']

theorem sRefSound_ok : SpecOK Try.prog 16 sSound := by
  refine specOK_pure (fn := Try.f16) rfl rfl rfl T_ok (SP := SP3) sp3 [] trivial 300 _ ?_
  intro args h nx K hs
  unfold sSound at hs
  split at hs
  · rename_i t0 t1 t2 t3 t4 t5 t6 t7 t8 t9 r f
    obtain ⟨⟨h0, h1, h2, h3, h4, h5, h6, h7, h8, h9⟩, kr, kf, hs⟩ := hs
    refine ⟨trivial, by repeat constructor, by simp [Try.f16], fun o => o = .ret (.tup [.bool (sndA t0 t1 t2 t3 t4 t5 t6 t7 t8 t9), .bool (sndB t0 t1 t2 t3 t4 t5 t6 t7 t8 t9 r f)]), ?_, ?_⟩
    · rintro o rfl; exact ⟨by repeat constructor, hs⟩
    intro c hc
    clear hs
    intro b
    repeat' (first
      | refine ⟨_, ⟨rfl, rfl⟩, ?_⟩
      | refine ⟨_, ⟨by repeat' (first | assumption | apply sat_bnd), by repeat' (first | assumption | apply sat_bnd), rfl, rfl⟩, ?_⟩
      | refine W_drawn (mkE hc T_ok sp3) 10 1000 (by rw [hc]; exact mix) (by kernel_rfl) (by kernel_rfl) 100 ?_
      | fail)
    refine outBB ?_ ?_
    · rw [sndA, sat0 (by assumption)]
    · rw [sndB, sat0 (by assumption)]
  · exact hs.elim

end Go.Proofs.Ytfepdagknnoblaa.Sx
