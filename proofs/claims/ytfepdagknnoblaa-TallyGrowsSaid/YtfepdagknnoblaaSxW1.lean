import Derived.Test.YtfepdagknnoblaaSxT
import Derived.Test.YtfepdagknnoblaaSxU
import Derived.Laws.Externs
/-
  The walks of this seat's functions, first part: held sums, counts, a count that is more.
-/
namespace Go.Proofs.Ytfepdagknnoblaa.Sx
open Go Go.Proofs
set_option maxRecDepth 100000
set_option linter.unusedSimpArgs false
set_option linter.unusedVariables false

theorem mix : Try.prog.follows .mixedOrders = true := by kernel_rfl
theorem noSP {P : Program} : ∀ p ∈ ([] : SpT), SpecOK P p.1 p.2 := by intro p hp; cases hp
theorem consSP {P : Program} {f : Nat} {s : Spec} {l : SpT} (h : SpecOK P f s) (k : ∀ p ∈ l, SpecOK P p.1 p.2) : ∀ p ∈ (f, s) :: l, SpecOK P p.1 p.2 := by
  intro p hp
  rcases List.mem_cons.1 hp with rfl | hp
  · exact h
  · exact k p hp

def bnd (a : Int) : Prop := 0 ≤ a ∧ a ≤ 18446744073709551615
/-- The sum, held. -/
def satI (a b : Int) : Int := if a + b > 18446744073709551615 then 18446744073709551615 else a + b
theorem sat_bnd {a b : Int} (ha : bnd a) (hb : bnd b) : bnd (satI a b) := by unfold satI bnd at *; split <;> omega

def sAdd64 : Spec := fun args h nx K => match args with
  | [.int .u64 x, .int .u64 y, .int .u64 (.ofNat 0)] => bnd x ∧ bnd y ∧ K (.ret (.tup [.int .u64 ((x + y + 0) % 18446744073709551616), .int .u64 ((x + y + 0) / 18446744073709551616)])) h nx
  | _ => False
theorem sAdd64_ok : SpecOK Try.prog 26 sAdd64 := by
  intro c hc args h nx K hs w xs hr hv
  unfold sAdd64 at hs
  split at hs
  · rename_i x y
    obtain ⟨hx, hy, hk⟩ := hs
    obtain ⟨v0, vs, rfl, rfl, v1, vs, rfl, rfl, v2, vs, rfl, rfl, rfl⟩ := hv
    refine .inr ⟨_, w, ?_, _, h, nx, hk, hr, Ext.refl h, _, rfl, ⟨_, rfl, _, _, rfl, rfl, _, _, rfl, rfl, rfl⟩⟩
    rw [run_callFunc_extern Try.func26 (by kernel_rfl) (by kernel_rfl) (by kernel_rfl) (e := add64Entry) (by kernel_rfl)]
    have := run_add64 (P := Try.prog) x y 0 hx.1 hy.1 (by omega) (by omega) w
    have e : (.ofNat 0 : Int) = 0 := rfl
    rw [e, this]
    rfl
  · exact hs.elim

def sSat : Spec := fun args h nx K => match args with
  | [.int .u64 a, .int .u64 b] => bnd a ∧ bnd b ∧ K (.ret (.int .u64 (satI a b))) h nx
  | _ => False
theorem sSat_ok : SpecOK Try.prog 24 sSat := by
  refine specOK_pure (fn := Try.f24) rfl rfl rfl T_ok (SP := [(26, sAdd64)]) (consSP sAdd64_ok noSP) [] trivial 100 _ ?_
  intro args h nx K hs
  unfold sSat at hs
  split at hs
  · rename_i a b
    obtain ⟨ha, hb, hk⟩ := hs
    refine ⟨trivial, by repeat constructor, by simp [Try.f24], fun o => o = .ret (.int .u64 (satI a b)), ?_, ?_⟩
    · rintro o rfl; exact ⟨trivial, hk⟩
    intro c hc
    refine ⟨ha, hb, ?_⟩
    unfold bnd at ha hb
    refine br_dec (fun e => ?_) (fun e => ?_)
    · refine outI ?_
      rw [satI, if_pos (by omega)]
    · refine outI ?_
      rw [satI, if_neg (by omega)]
      omega
  · exact hs.elim
theorem sRefAdd_ok : SpecOK Try.prog 19 sSat := by
  refine specOK_pure (fn := Try.f19) rfl rfl rfl T_ok (SP := []) noSP [] trivial 100 _ ?_
  intro args h nx K hs
  unfold sSat at hs
  split at hs
  · rename_i a b
    obtain ⟨ha, hb, hk⟩ := hs
    refine ⟨trivial, by repeat constructor, by simp [Try.f19], fun o => o = .ret (.int .u64 (satI a b)), ?_, ?_⟩
    · rintro o rfl; exact ⟨trivial, hk⟩
    intro c hc
    unfold bnd at ha hb
    refine br_dec (fun e => ?_) (fun e => ?_)
    · refine outI ?_
      simp only [IntKind.wrap_u64] at e
      rw [satI, if_pos (by omega)]
    · refine outI ?_
      simp only [IntKind.wrap_u64] at e ⊢
      rw [satI, if_neg (by omega)]
      omega
  · exact hs.elim

/-- The same ten counts. -/
def sSame : Spec := fun args h nx K => match args with
  | [.agg [.int .u64 t0, .int .u64 t1, .int .u64 t2, .int .u64 t3, .int .u64 t4, .int .u64 t5, .int .u64 t6, .int .u64 t7, .int .u64 t8, .int .u64 t9]] => K (.ret (.agg [.int .u64 t0, .int .u64 t1, .int .u64 t2, .int .u64 t3, .int .u64 t4, .int .u64 t5, .int .u64 t6, .int .u64 t7, .int .u64 t8, .int .u64 t9])) h nx
  | _ => False
theorem sCounts_ok : SpecOK Try.prog 11 sSame := by
  refine specOK_pure (fn := Try.f11) rfl rfl rfl T_ok (SP := []) noSP [] trivial 200 _ ?_
  intro args h nx K hs
  unfold sSame at hs
  split at hs
  · rename_i t0 t1 t2 t3 t4 t5 t6 t7 t8 t9
    refine ⟨trivial, by repeat constructor, by simp [Try.f11], fun o => o = .ret (.agg [.int .u64 t0, .int .u64 t1, .int .u64 t2, .int .u64 t3, .int .u64 t4, .int .u64 t5, .int .u64 t6, .int .u64 t7, .int .u64 t8, .int .u64 t9]), ?_, ?_⟩
    · rintro o rfl; exact ⟨by repeat constructor, hs⟩
    intro c hc
    clear hs
    intro b b2
    rfl
  · exact hs.elim
theorem sRefCounts_ok : SpecOK Try.prog 12 sSame := by
  refine specOK_pure (fn := Try.f12) rfl rfl rfl T_ok (SP := []) noSP [] trivial 200 _ ?_
  intro args h nx K hs
  unfold sSame at hs
  split at hs
  · rename_i t0 t1 t2 t3 t4 t5 t6 t7 t8 t9
    refine ⟨trivial, by repeat constructor, by simp [Try.f12], fun o => o = .ret (.agg [.int .u64 t0, .int .u64 t1, .int .u64 t2, .int .u64 t3, .int .u64 t4, .int .u64 t5, .int .u64 t6, .int .u64 t7, .int .u64 t8, .int .u64 t9]), ?_, ?_⟩
    · rintro o rfl; exact ⟨by repeat constructor, hs⟩
    intro c hc
    clear hs
    intro b b2 b3
    rfl
  · exact hs.elim
theorem sTally_ok : SpecOK Try.prog 21 sSame := by
  refine specOK_pure (fn := Try.f21) rfl rfl rfl T_ok (SP := []) noSP [] trivial 200 _ ?_
  intro args h nx K hs
  unfold sSame at hs
  split at hs
  · rename_i t0 t1 t2 t3 t4 t5 t6 t7 t8 t9
    refine ⟨trivial, by repeat constructor, by simp [Try.f21], fun o => o = .ret (.agg [.int .u64 t0, .int .u64 t1, .int .u64 t2, .int .u64 t3, .int .u64 t4, .int .u64 t5, .int .u64 t6, .int .u64 t7, .int .u64 t8, .int .u64 t9]), ?_, ?_⟩
    · rintro o rfl; exact ⟨by repeat constructor, hs⟩
    intro c hc
    clear hs
    intro b b2
    rfl
  · exact hs.elim

/-- A count is more. -/
def sAdd : Spec := fun args h nx K => match args with
  | [.agg [.int .u64 t0, .int .u64 t1, .int .u64 t2, .int .u64 t3, .int .u64 t4, .int .u64 t5, .int .u64 t6, .int .u64 t7, .int .u64 t8, .int .u64 t9], .int .i64 w, .int .u64 n] => bnd n ∧ (bnd t0 ∧ bnd t1 ∧ bnd t2 ∧ bnd t3 ∧ bnd t4 ∧ bnd t5 ∧ bnd t6 ∧ bnd t7 ∧ bnd t8 ∧ bnd t9) ∧ br (decide (0 ≤ w) && decide (w < 10)) (match w.toNat with
    | 0 => K (.ret (.tup [.agg [.int .u64 (satI t0 n), .int .u64 t1, .int .u64 t2, .int .u64 t3, .int .u64 t4, .int .u64 t5, .int .u64 t6, .int .u64 t7, .int .u64 t8, .int .u64 t9], .int .i64 0])) h nx
    | 1 => K (.ret (.tup [.agg [.int .u64 t0, .int .u64 (satI t1 n), .int .u64 t2, .int .u64 t3, .int .u64 t4, .int .u64 t5, .int .u64 t6, .int .u64 t7, .int .u64 t8, .int .u64 t9], .int .i64 0])) h nx
    | 2 => K (.ret (.tup [.agg [.int .u64 t0, .int .u64 t1, .int .u64 (satI t2 n), .int .u64 t3, .int .u64 t4, .int .u64 t5, .int .u64 t6, .int .u64 t7, .int .u64 t8, .int .u64 t9], .int .i64 0])) h nx
    | 3 => K (.ret (.tup [.agg [.int .u64 t0, .int .u64 t1, .int .u64 t2, .int .u64 (satI t3 n), .int .u64 t4, .int .u64 t5, .int .u64 t6, .int .u64 t7, .int .u64 t8, .int .u64 t9], .int .i64 0])) h nx
    | 4 => K (.ret (.tup [.agg [.int .u64 t0, .int .u64 t1, .int .u64 t2, .int .u64 t3, .int .u64 (satI t4 n), .int .u64 t5, .int .u64 t6, .int .u64 t7, .int .u64 t8, .int .u64 t9], .int .i64 0])) h nx
    | 5 => K (.ret (.tup [.agg [.int .u64 t0, .int .u64 t1, .int .u64 t2, .int .u64 t3, .int .u64 t4, .int .u64 (satI t5 n), .int .u64 t6, .int .u64 t7, .int .u64 t8, .int .u64 t9], .int .i64 0])) h nx
    | 6 => K (.ret (.tup [.agg [.int .u64 t0, .int .u64 t1, .int .u64 t2, .int .u64 t3, .int .u64 t4, .int .u64 t5, .int .u64 (satI t6 n), .int .u64 t7, .int .u64 t8, .int .u64 t9], .int .i64 0])) h nx
    | 7 => K (.ret (.tup [.agg [.int .u64 t0, .int .u64 t1, .int .u64 t2, .int .u64 t3, .int .u64 t4, .int .u64 t5, .int .u64 t6, .int .u64 (satI t7 n), .int .u64 t8, .int .u64 t9], .int .i64 0])) h nx
    | 8 => K (.ret (.tup [.agg [.int .u64 t0, .int .u64 t1, .int .u64 t2, .int .u64 t3, .int .u64 t4, .int .u64 t5, .int .u64 t6, .int .u64 t7, .int .u64 (satI t8 n), .int .u64 t9], .int .i64 0])) h nx
    | 9 => K (.ret (.tup [.agg [.int .u64 t0, .int .u64 t1, .int .u64 t2, .int .u64 t3, .int .u64 t4, .int .u64 t5, .int .u64 t6, .int .u64 t7, .int .u64 t8, .int .u64 (satI t9 n)], .int .i64 0])) h nx
    | _ => False) (K (.ret (.tup [.agg [.int .u64 t0, .int .u64 t1, .int .u64 t2, .int .u64 t3, .int .u64 t4, .int .u64 t5, .int .u64 t6, .int .u64 t7, .int .u64 t8, .int .u64 t9], .int .i64 1])) h nx)
  | _ => False

def SP1 : SpT := [(11, sSame), (21, sSame), (24, sSat)]
theorem sp1 : ∀ p ∈ SP1, SpecOK Try.prog p.1 p.2 := consSP sCounts_ok (consSP sTally_ok (consSP sSat_ok noSP))
def SP2 : SpT := (20, inl Try.prog Try.f20 (Try.f20.body.get rfl) T SP1 100) :: SP1
theorem sp2 : ∀ p ∈ SP2, SpecOK Try.prog p.1 p.2 := consSP (inl_ok Try.func20 rfl rfl T_ok sp1 100) sp1

theorem sAdd_ok : SpecOK Try.prog 9 sAdd := by
  refine specOK_pure (fn := Try.f9) rfl rfl rfl T_ok (SP := SP2) sp2 [] trivial 200 _ ?_
  intro args h nx K hs
  unfold sAdd at hs
  split at hs
  · rename_i t0 t1 t2 t3 t4 t5 t6 t7 t8 t9 w n
    obtain ⟨hn, ⟨h0, h1, h2, h3, h4, h5, h6, h7, h8, h9⟩, hs⟩ := hs
    rcases br_spec hs with ⟨e, hs⟩ | ⟨e, hs⟩
    · simp only [Bool.and_eq_true, decide_eq_true_eq] at e
      have hw : w = 0 ∨ w = 1 ∨ w = 2 ∨ w = 3 ∨ w = 4 ∨ w = 5 ∨ w = 6 ∨ w = 7 ∨ w = 8 ∨ w = 9 := by omega
      rcases hw with rfl | rfl | rfl | rfl | rfl | rfl | rfl | rfl | rfl | rfl
      · refine ⟨trivial, by repeat constructor, by simp [Try.f9], fun o => o = .ret (.tup [.agg [.int .u64 (satI t0 n), .int .u64 t1, .int .u64 t2, .int .u64 t3, .int .u64 t4, .int .u64 t5, .int .u64 t6, .int .u64 t7, .int .u64 t8, .int .u64 t9], .int .i64 0]), ?_, ?_⟩
        · rintro o rfl; exact ⟨by repeat constructor, hs⟩
        intro c hc
        clear hs
        intro b b2 b3
        refine ⟨rfl, fun c' hc' => ?_⟩
        refine W_drawn (mkE hc' T_ok sp1) 10 11 (by rw [hc']; exact mix) (by kernel_rfl) (by kernel_rfl) 100 ?_
        repeat' (first
          | refine ⟨_, ⟨rfl, rfl⟩, ?_⟩
          | refine ⟨_, ⟨by assumption, by assumption, rfl, rfl⟩, ?_⟩
          | fail)
        refine ⟨Ext.same rfl, ?_⟩
        rfl
      · refine ⟨trivial, by repeat constructor, by simp [Try.f9], fun o => o = .ret (.tup [.agg [.int .u64 t0, .int .u64 (satI t1 n), .int .u64 t2, .int .u64 t3, .int .u64 t4, .int .u64 t5, .int .u64 t6, .int .u64 t7, .int .u64 t8, .int .u64 t9], .int .i64 0]), ?_, ?_⟩
        · rintro o rfl; exact ⟨by repeat constructor, hs⟩
        intro c hc
        clear hs
        intro b b2 b3
        refine ⟨rfl, fun c' hc' => ?_⟩
        refine W_drawn (mkE hc' T_ok sp1) 10 11 (by rw [hc']; exact mix) (by kernel_rfl) (by kernel_rfl) 100 ?_
        repeat' (first
          | refine ⟨_, ⟨rfl, rfl⟩, ?_⟩
          | refine ⟨_, ⟨by assumption, by assumption, rfl, rfl⟩, ?_⟩
          | fail)
        refine ⟨Ext.same rfl, ?_⟩
        rfl
      · refine ⟨trivial, by repeat constructor, by simp [Try.f9], fun o => o = .ret (.tup [.agg [.int .u64 t0, .int .u64 t1, .int .u64 (satI t2 n), .int .u64 t3, .int .u64 t4, .int .u64 t5, .int .u64 t6, .int .u64 t7, .int .u64 t8, .int .u64 t9], .int .i64 0]), ?_, ?_⟩
        · rintro o rfl; exact ⟨by repeat constructor, hs⟩
        intro c hc
        clear hs
        intro b b2 b3
        refine ⟨rfl, fun c' hc' => ?_⟩
        refine W_drawn (mkE hc' T_ok sp1) 10 11 (by rw [hc']; exact mix) (by kernel_rfl) (by kernel_rfl) 100 ?_
        repeat' (first
          | refine ⟨_, ⟨rfl, rfl⟩, ?_⟩
          | refine ⟨_, ⟨by assumption, by assumption, rfl, rfl⟩, ?_⟩
          | fail)
        refine ⟨Ext.same rfl, ?_⟩
        rfl
      · refine ⟨trivial, by repeat constructor, by simp [Try.f9], fun o => o = .ret (.tup [.agg [.int .u64 t0, .int .u64 t1, .int .u64 t2, .int .u64 (satI t3 n), .int .u64 t4, .int .u64 t5, .int .u64 t6, .int .u64 t7, .int .u64 t8, .int .u64 t9], .int .i64 0]), ?_, ?_⟩
        · rintro o rfl; exact ⟨by repeat constructor, hs⟩
        intro c hc
        clear hs
        intro b b2 b3
        refine ⟨rfl, fun c' hc' => ?_⟩
        refine W_drawn (mkE hc' T_ok sp1) 10 11 (by rw [hc']; exact mix) (by kernel_rfl) (by kernel_rfl) 100 ?_
        repeat' (first
          | refine ⟨_, ⟨rfl, rfl⟩, ?_⟩
          | refine ⟨_, ⟨by assumption, by assumption, rfl, rfl⟩, ?_⟩
          | fail)
        refine ⟨Ext.same rfl, ?_⟩
        rfl
      · refine ⟨trivial, by repeat constructor, by simp [Try.f9], fun o => o = .ret (.tup [.agg [.int .u64 t0, .int .u64 t1, .int .u64 t2, .int .u64 t3, .int .u64 (satI t4 n), .int .u64 t5, .int .u64 t6, .int .u64 t7, .int .u64 t8, .int .u64 t9], .int .i64 0]), ?_, ?_⟩
        · rintro o rfl; exact ⟨by repeat constructor, hs⟩
        intro c hc
        clear hs
        intro b b2 b3
        refine ⟨rfl, fun c' hc' => ?_⟩
        refine W_drawn (mkE hc' T_ok sp1) 10 11 (by rw [hc']; exact mix) (by kernel_rfl) (by kernel_rfl) 100 ?_
        repeat' (first
          | refine ⟨_, ⟨rfl, rfl⟩, ?_⟩
          | refine ⟨_, ⟨by assumption, by assumption, rfl, rfl⟩, ?_⟩
          | fail)
        refine ⟨Ext.same rfl, ?_⟩
        rfl
      · refine ⟨trivial, by repeat constructor, by simp [Try.f9], fun o => o = .ret (.tup [.agg [.int .u64 t0, .int .u64 t1, .int .u64 t2, .int .u64 t3, .int .u64 t4, .int .u64 (satI t5 n), .int .u64 t6, .int .u64 t7, .int .u64 t8, .int .u64 t9], .int .i64 0]), ?_, ?_⟩
        · rintro o rfl; exact ⟨by repeat constructor, hs⟩
        intro c hc
        clear hs
        intro b b2 b3
        refine ⟨rfl, fun c' hc' => ?_⟩
        refine W_drawn (mkE hc' T_ok sp1) 10 11 (by rw [hc']; exact mix) (by kernel_rfl) (by kernel_rfl) 100 ?_
        repeat' (first
          | refine ⟨_, ⟨rfl, rfl⟩, ?_⟩
          | refine ⟨_, ⟨by assumption, by assumption, rfl, rfl⟩, ?_⟩
          | fail)
        refine ⟨Ext.same rfl, ?_⟩
        rfl
      · refine ⟨trivial, by repeat constructor, by simp [Try.f9], fun o => o = .ret (.tup [.agg [.int .u64 t0, .int .u64 t1, .int .u64 t2, .int .u64 t3, .int .u64 t4, .int .u64 t5, .int .u64 (satI t6 n), .int .u64 t7, .int .u64 t8, .int .u64 t9], .int .i64 0]), ?_, ?_⟩
        · rintro o rfl; exact ⟨by repeat constructor, hs⟩
        intro c hc
        clear hs
        intro b b2 b3
        refine ⟨rfl, fun c' hc' => ?_⟩
        refine W_drawn (mkE hc' T_ok sp1) 10 11 (by rw [hc']; exact mix) (by kernel_rfl) (by kernel_rfl) 100 ?_
        repeat' (first
          | refine ⟨_, ⟨rfl, rfl⟩, ?_⟩
          | refine ⟨_, ⟨by assumption, by assumption, rfl, rfl⟩, ?_⟩
          | fail)
        refine ⟨Ext.same rfl, ?_⟩
        rfl
      · refine ⟨trivial, by repeat constructor, by simp [Try.f9], fun o => o = .ret (.tup [.agg [.int .u64 t0, .int .u64 t1, .int .u64 t2, .int .u64 t3, .int .u64 t4, .int .u64 t5, .int .u64 t6, .int .u64 (satI t7 n), .int .u64 t8, .int .u64 t9], .int .i64 0]), ?_, ?_⟩
        · rintro o rfl; exact ⟨by repeat constructor, hs⟩
        intro c hc
        clear hs
        intro b b2 b3
        refine ⟨rfl, fun c' hc' => ?_⟩
        refine W_drawn (mkE hc' T_ok sp1) 10 11 (by rw [hc']; exact mix) (by kernel_rfl) (by kernel_rfl) 100 ?_
        repeat' (first
          | refine ⟨_, ⟨rfl, rfl⟩, ?_⟩
          | refine ⟨_, ⟨by assumption, by assumption, rfl, rfl⟩, ?_⟩
          | fail)
        refine ⟨Ext.same rfl, ?_⟩
        rfl
      · refine ⟨trivial, by repeat constructor, by simp [Try.f9], fun o => o = .ret (.tup [.agg [.int .u64 t0, .int .u64 t1, .int .u64 t2, .int .u64 t3, .int .u64 t4, .int .u64 t5, .int .u64 t6, .int .u64 t7, .int .u64 (satI t8 n), .int .u64 t9], .int .i64 0]), ?_, ?_⟩
        · rintro o rfl; exact ⟨by repeat constructor, hs⟩
        intro c hc
        clear hs
        intro b b2 b3
        refine ⟨rfl, fun c' hc' => ?_⟩
        refine W_drawn (mkE hc' T_ok sp1) 10 11 (by rw [hc']; exact mix) (by kernel_rfl) (by kernel_rfl) 100 ?_
        repeat' (first
          | refine ⟨_, ⟨rfl, rfl⟩, ?_⟩
          | refine ⟨_, ⟨by assumption, by assumption, rfl, rfl⟩, ?_⟩
          | fail)
        refine ⟨Ext.same rfl, ?_⟩
        rfl
      · refine ⟨trivial, by repeat constructor, by simp [Try.f9], fun o => o = .ret (.tup [.agg [.int .u64 t0, .int .u64 t1, .int .u64 t2, .int .u64 t3, .int .u64 t4, .int .u64 t5, .int .u64 t6, .int .u64 t7, .int .u64 t8, .int .u64 (satI t9 n)], .int .i64 0]), ?_, ?_⟩
        · rintro o rfl; exact ⟨by repeat constructor, hs⟩
        intro c hc
        clear hs
        intro b b2 b3
        refine ⟨rfl, fun c' hc' => ?_⟩
        refine W_drawn (mkE hc' T_ok sp1) 10 11 (by rw [hc']; exact mix) (by kernel_rfl) (by kernel_rfl) 100 ?_
        repeat' (first
          | refine ⟨_, ⟨rfl, rfl⟩, ?_⟩
          | refine ⟨_, ⟨by assumption, by assumption, rfl, rfl⟩, ?_⟩
          | fail)
        refine ⟨Ext.same rfl, ?_⟩
        rfl
    · have e : ¬ (0 ≤ w ∧ w < 10) := by simpa using e
      refine ⟨trivial, by repeat constructor, by simp [Try.f9], fun o => o = .ret (.tup [.agg [.int .u64 t0, .int .u64 t1, .int .u64 t2, .int .u64 t3, .int .u64 t4, .int .u64 t5, .int .u64 t6, .int .u64 t7, .int .u64 t8, .int .u64 t9], .int .i64 1]), ?_, ?_⟩
      · rintro o rfl; exact ⟨by repeat constructor, hs⟩
      intro c hc
      clear hs
      intro b b2
      refine br_dec (fun e1 => ?_) (fun e1 => ?_)
      · rfl
      · refine br_decT (by omega) ?_
        rfl
  · exact hs.elim

end Go.Proofs.Ytfepdagknnoblaa.Sx
