import Derived.Test.YtmohokeeglnliaaDoorSxW9
/-
  The walks of this seat's functions: reports, by the program and by the document.
-/
namespace Go.Proofs.YtmohokeeglnliaaDoor.Sx
open Go Go.Proofs
set_option maxRecDepth 100000
set_option linter.unusedSimpArgs false
set_option linter.unusedVariables false

/-- The difference, held. -/
def subV (a b : Int) : Int := if a < b then 0 else a - b
def sSub : Spec := fun args h nx K => match args with
  | [.int .u64 a, .int .u64 b] => bnd a ∧ bnd b ∧ K (.ret (.int .u64 (subV a b))) h nx
  | _ => False
theorem sub_bnd {a b : Int} (ha : bnd a) (hb : bnd b) : bnd (subV a b) := by unfold subV bnd at *; split <;> omega
theorem sub_wrap {a b : Int} (ha : bnd a) (hb : bnd b) (h : ¬ a < b) : IntKind.u64.wrap (a - b) = subV a b := by
  unfold subV bnd at *
  rw [if_neg h]
  simp [IntKind.wrap_u64]; omega
theorem sSub_ok : SpecOK Tryd.prog 24 sSub := by
  refine specOK_pure (fn := Tryd.f24) rfl rfl rfl T_ok (SP := []) noSP [] trivial 100 _ ?_
  intro args h nx K hs
  unfold sSub at hs
  split at hs
  · rename_i a b
    obtain ⟨ha, hb, hk⟩ := hs
    refine ⟨trivial, by repeat constructor, by simp [Tryd.f24], fun o => o = .ret (.int .u64 (subV a b)), ?_, ?_⟩
    · rintro o rfl; exact ⟨trivial, hk⟩
    intro c hc
    clear hk
    refine br_dec (fun e => ?_) (fun e => ?_)
    · have e : a < b := e
      exact outI (by rw [subV, if_pos e])
    · have e : ¬ a < b := e
      exact outI (sub_wrap ha hb e)
  · exact hs.elim
theorem sRefSub_ok : SpecOK Tryd.prog 27 sSub := by
  refine specOK_pure (fn := Tryd.f27) rfl rfl rfl T_ok (SP := []) noSP [] trivial 100 _ ?_
  intro args h nx K hs
  unfold sSub at hs
  split at hs
  · rename_i a b
    obtain ⟨ha, hb, hk⟩ := hs
    refine ⟨trivial, by repeat constructor, by simp [Tryd.f27], fun o => o = .ret (.int .u64 (subV a b)), ?_, ?_⟩
    · rintro o rfl; exact ⟨trivial, hk⟩
    intro c hc
    clear hk
    refine br_dec (fun e => ?_) (fun e => ?_)
    · have e : a < b := e
      exact outI (by rw [subV, if_pos e])
    · have e : ¬ a < b := e
      exact outI (sub_wrap ha hb e)
  · exact hs.elim
theorem sRefRate_ok : SpecOK Tryd.prog 21 sRate := by
  refine specOK_pure (fn := Tryd.f21) rfl rfl rfl T_ok (SP := [(44, sPlain)]) (consSP sPlain_ok noSP) [] trivial 100 _ ?_
  intro args h nx K hs
  unfold sRate at hs
  split at hs
  · rename_i a b
    refine ⟨trivial, by repeat constructor, by simp [Tryd.f21], fun o => o = .ret (.int .u64 (rateV a b)), ?_, ?_⟩
    · rintro o rfl; exact ⟨trivial, hs⟩
    intro c hc
    intro r hr
    refine ⟨FRes_lt hr, ?_⟩
    exact outI (FRes_canon (by simp) hr)
  · exact hs.elim
theorem rate_bnd (a b : Int) : bnd (rateV a b) := canon_bnd

/-- A report's cells. -/
def ofL (t0 t1 t2 t4 t5 t6 t9 : Int) : List V := [.int .u64 (rateV t1 (subV t0 t4)), .int .u64 (rateV t6 t5), .int .u64 (rateV t2 (subV t0 t4)), .int .i64 (percV (rateV t1 (subV t0 t4)).toNat), .int .i64 (percV (rateV t6 t5).toNat), .int .i64 (percV (rateV t9 t5).toNat)]
def sOf : Spec := fun args h nx K => match args with
  | [.agg [.int .u64 t0, .int .u64 t1, .int .u64 t2, .int .u64 t3, .int .u64 t4, .int .u64 t5, .int .u64 t6, .int .u64 t7, .int .u64 t8, .int .u64 t9]] => bnd t0 ∧ bnd t4 ∧ K (.ret (.agg (ofL t0 t1 t2 t4 t5 t6 t9))) h nx
  | _ => False
theorem outA {l m : List V} (h : l = m) : Out.ret (.agg l) = Out.ret (.agg m) := by rw [h]
def SPF : SpT := [(24, sSub), (25, sRate), (26, sPerc)]
theorem spf : ∀ p ∈ SPF, SpecOK Tryd.prog p.1 p.2 := consSP sSub_ok (consSP sRate_ok (consSP sPerc_ok noSP))
theorem sOf_ok : SpecOK Tryd.prog 9 sOf := by
  refine specOK_pure (fn := Tryd.f9) rfl rfl rfl T_ok (SP := SPF) spf [] trivial 300 _ ?_
  intro args h nx K hs
  unfold sOf at hs
  split at hs
  · rename_i t0 t1 t2 t3 t4 t5 t6 t7 t8 t9
    obtain ⟨h0, h4, hk⟩ := hs
    refine ⟨trivial, by repeat constructor, by simp [Tryd.f9], fun o => o = .ret (.agg (ofL t0 t1 t2 t4 t5 t6 t9)), ?_, ?_⟩
    · rintro o rfl; exact ⟨⟨trivial, trivial, trivial, trivial, trivial, trivial, trivial⟩, hk⟩
    intro c hc
    clear hk
    intro b0 b1
    refine ⟨h0, h4, ?_⟩
    refine W_plan (mkE hc T_ok spf) 2 15 (lineP 0 14 (oneP 14 (oneP 15 .done))) (by rw [hc]; exact mix) (by kernel_rfl) 200 ?_
    repeat' (first | refine ⟨_, ⟨rfl, rfl⟩, ?_⟩ | fail)
    refine ⟨⟨fun _ => trivial, fun b2 => ?_⟩, trivial⟩
    refine ⟨⟨trivial, ?_⟩, trivial⟩
    refine W_plan (mkE hc T_ok spf) 3 7 (lineP 0 7 (oneP 7 (oneP 8 (oneP 9 .done)))) (by rw [hc]; exact mix) (by kernel_rfl) 200 ?_
    repeat' (first | refine ⟨_, ⟨rfl, rfl⟩, ?_⟩ | fail)
    refine ⟨⟨trivial, ?_⟩, trivial⟩
    refine ⟨⟨trivial, ?_⟩, trivial⟩
    refine ⟨⟨trivial, ?_⟩, trivial⟩
    exact outA rfl
  · exact hs.elim

def SPG : SpT := [(27, sSub), (21, sRate), (28, sRefPerc)]
theorem spg : ∀ p ∈ SPG, SpecOK Tryd.prog p.1 p.2 := consSP sRefSub_ok (consSP sRefRate_ok (consSP sRefPerc_ok noSP))
theorem sRefOf_ok : SpecOK Tryd.prog 10 sOf := by
  refine specOK_pure (fn := Tryd.f10) rfl rfl rfl T_ok (SP := SPG) spg [] trivial 300 _ ?_
  intro args h nx K hs
  unfold sOf at hs
  split at hs
  · rename_i t0 t1 t2 t3 t4 t5 t6 t7 t8 t9
    obtain ⟨h0, h4, hk⟩ := hs
    refine ⟨trivial, by repeat constructor, by simp [Tryd.f10], fun o => o = .ret (.agg (ofL t0 t1 t2 t4 t5 t6 t9)), ?_, ?_⟩
    · rintro o rfl; exact ⟨⟨trivial, trivial, trivial, trivial, trivial, trivial, trivial⟩, hk⟩
    intro c hc
    clear hk
    intro b0 b1
    refine ⟨h0, h4, ?_⟩
    intro b2
    refine ⟨rate_bnd _ _, ?_⟩
    refine ⟨rate_bnd _ _, ?_⟩
    refine ⟨rate_bnd _ _, ?_⟩
    exact outA rfl
  · exact hs.elim
end Go.Proofs.YtmohokeeglnliaaDoor.Sx
