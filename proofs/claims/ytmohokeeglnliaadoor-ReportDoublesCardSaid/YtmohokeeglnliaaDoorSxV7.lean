import Derived.Test.YtmohokeeglnliaaDoorSxV6
/-
  How one stands to another one.
-/
namespace Go.Proofs.YtmohokeeglnliaaDoor.Sx
open Go Go.Proofs Go.RowKit Go.Sort
set_option maxRecDepth 100000
set_option linter.unusedSimpArgs false
set_option linter.unusedVariables false

theorem toldI {h : Hp} {t n b : Nat} {g : Nat → Nat → V} {ty : TypeId} {f : Nat → Int} (e : fd t h = .blk b n 1 g ty) (hg : ∀ j, j < n → g j 0 = .int .i64 (f j)) : Told h [.slice t 0 n n] [(2000, .ro (some ⟨b, 0, none⟩) n 1 (g1 .i64 f))] [.slice 2000 0 n n] := by
  have e' : fd t (roH h) = .ro (some ⟨b, 0, none⟩) n 1 g := by rw [fd_roH, e]; rfl
  refine ⟨fun {c w xs} hr hvv => ?_⟩
  obtain ⟨y, ys, rfl, ry, rfl⟩ := hvv
  have k1 : roOK w [(2000, .ro (some ⟨b, 0, none⟩) n 1 (g1 .i64 f))] := by
    refine ⟨fun j k hj hk => ?_, trivial⟩
    have H := hr.ro.holds t
    rw [e'] at H
    obtain ⟨ad, y, e1, e2, e3, _⟩ := H j k hj hk
    obtain rfl : k = 0 := by omega
    rw [hg j hj] at e3
    exact ⟨ad, y, e1, e2, e3⟩
  refine ⟨rel_ros k1 hr.qtabs, y, [], rfl, ?_, rfl⟩
  obtain ⟨base, sz, e1, e2, e3⟩ := ry
  rw [e] at e1
  injection e1 with e1
  injection e1 with e4 e5
  subst e4 e5
  exact ⟨_, _, rfl, e2, e3⟩

/-- The first that is not 0. -/
def orV (x y : Int) : Int := if x = 0 then y else x
def two (x y : Int) : Nat → Int := fun j => match j with | 0 => x | _ => y
def sOr : Spec := fun args h nx K => ∃ (t n b : Nat) (g : Nat → Nat → V) (ty : TypeId) (x y : Int), n = 2 ∧ args = [.slice t 0 n n] ∧ fd t h = .blk b n 1 g ty ∧ g 0 0 = .int .i64 x ∧ g 1 0 = .int .i64 y ∧ K (.ret (.int .i64 (orV x y))) h nx
theorem sOr_ok : SpecOK Tryd.prog 41 sOr := by
  refine specOK_read2 (fn := Tryd.f41) rfl rfl rfl T_ok (SP := []) noSP 200 _ ?_
  rintro args h nx K ⟨t, n, b, g, ty, x, y, hn2, rfl, e, g0, g1', hk⟩
  refine ⟨_, _, toldI (f := two x y) e (fun j hj => ?_), by simp [Tryd.f41], fun o => o = .ret (.int .i64 (orV x y)), ?_, ?_⟩
  · rw [hn2] at hj
    match j, hj with
    | 0, _ => exact g0
    | 1, _ => exact g1'
  · rintro o rfl; exact ⟨trivial, hk⟩
  intro cx hc
  clear hk e g0 g1'
  refine W_loop (fun r σ h => ∃ j : Nat, r = n - j ∧ j ≤ n ∧ (0 < j → x = 0) ∧ (1 < j → y = 0) ∧
    σ = [(0, .slice 2000 0 n n), (2, .int .i64 0), (3, .int .i64 0), (6, .slice 2000 0 n n), (7, .int .i64 n), (8, .int .i64 j)] ∧ h = [(2000, .ro (some ⟨b, 0, none⟩) n 1 (g1 .i64 (two x y)))]) n ⟨0, rfl, by omega, by omega, by omega, rfl, rfl⟩ (tau []) ⟨rfl, ?_, ?_⟩ 30 ?_
  · repeat' (first | exact rfl | exact trivial | refine ⟨?_, ?_⟩)
  · exact ⟨⟨rfl, rfl, rfl, fun i c hi hc => ⟨rfl, rfl⟩⟩, trivial⟩
  rintro r σ h1 ⟨j, rfl, hj, hx, hy, rfl, rfl⟩
  refine vc_sound (mkE hc T_ok noSP) 200 _ _ _ 30 ?_
  (refine (?_ : br _ _ _); refine br_dec (fun hlt => ?_) (fun hlt => ?_))
  · have hlt : (j : Int) < (n : Int) := hlt
    have hjn : j < n := by omega
    have hw : IntKind.i64.wrap ((j : Int) + 1) = ((j + 1 : Nat) : Int) := by simp [IntKind.wrap_i64]; omega
    refine vc_skip ?_
    refine vc_seq ?_
    refine vc_block ?_
    refine vc_seq ?_
    refine vc_reg ?_
    refine vc_op (st_idx (g := g1 .i64 (two x y)) (base := some ⟨b, 0, none⟩) (n := n) (j := j) rfl rfl rfl rfl rfl rfl hjn (pt rfl ?_))
    refine vc_op (st_ld (g := g1 .i64 (two x y)) (base := some ⟨b, 0, none⟩) (n := n) (sz := 1) rfl rfl rfl rfl rfl (by decide) (by omega) (pt rfl ?_))
    refine vc_op (st_asg rfl (pt rfl ?_))
    refine vc_nil ?_
    have e0 : two x y (0 + j) = two x y j := by rw [Nat.zero_add]
    (refine (?_ : br _ _ _); refine br_ne (fun e => ?_) (fun e => ?_))
    · have e : two x y (0 + j) ≠ 0 := e
      rw [e0] at e
      refine outI ?_
      rw [e0]
      have hj01 : j = 0 ∨ j = 1 := by omega
      rcases hj01 with rfl | rfl
      · have e : x ≠ 0 := e
        rw [orV, if_neg e]; rfl
      · rw [orV, if_pos (hx (by omega))]; rfl
    · have e : two x y (0 + j) = 0 := e
      rw [e0] at e
      refine ⟨n - (j + 1), _, _, by omega, ⟨j + 1, rfl, by omega, fun _ => ?_, fun hj1 => ?_, rfl, rfl⟩, tau [], rfl, ?_, ?_⟩
      · rcases Nat.eq_zero_or_pos j with rfl | h
        · exact e
        · exact hx h
      · obtain rfl : j = 1 := by omega
        exact e
      · repeat' (first | exact rfl | exact trivial | exact hw | refine ⟨?_, ?_⟩)
      · exact ⟨⟨rfl, rfl, rfl, fun i c hi hc => ⟨rfl, rfl⟩⟩, trivial⟩
  · have hlt : ¬ (j : Int) < (n : Int) := hlt
    obtain rfl : j = n := by omega
    refine outI ?_
    rw [orV, if_pos (hx (by omega)), hy (by omega)]

/-- How counts stand to others. -/
def btrV (t0 t1 t4 t5 t6 s0 s1 s4 s5 s6 : Int) : Int := orV (cmpV (rateV t1 (subV t0 t4)).toNat (rateV s1 (subV s0 s4)).toNat) (cmpV (rateV t6 t5).toNat (rateV s6 s5).toNat)
def sBetter : Spec := fun args h nx K => match args with
  | [.agg [.int .u64 t0, .int .u64 t1, .int .u64 t2, .int .u64 t3, .int .u64 t4, .int .u64 t5, .int .u64 t6, .int .u64 t7, .int .u64 t8, .int .u64 t9], .agg [.int .u64 s0, .int .u64 s1, .int .u64 s2, .int .u64 s3, .int .u64 s4, .int .u64 s5, .int .u64 s6, .int .u64 s7, .int .u64 s8, .int .u64 s9]] => bnd t0 ∧ bnd t4 ∧ bnd s0 ∧ bnd s4 ∧ K (.ret (.int .i64 (btrV t0 t1 t4 t5 t6 s0 s1 s4 s5 s6))) h nx
  | _ => False
def SPE : SpT := [(9, sOf), (42, sCmp), (41, sOr)]
theorem spe : ∀ p ∈ SPE, SpecOK Tryd.prog p.1 p.2 := consSP sOf_ok (consSP sCmp_ok (consSP sOr_ok noSP))
theorem sBetter_ok : SpecOK Tryd.prog 17 sBetter := by
  refine specOK_pure (fn := Tryd.f17) rfl rfl rfl T_ok (SP := SPE) spe [] trivial 300 _ ?_
  intro args h nx K hs
  unfold sBetter at hs
  split at hs
  · rename_i t0 t1 t2 t3 t4 t5 t6 t7 t8 t9 s0 s1 s2 s3 s4 s5 s6 s7 s8 s9
    obtain ⟨h0, h4, k0, k4, hk⟩ := hs
    refine ⟨trivial, by repeat constructor, by simp [Tryd.f17], fun o => o = .ret (.int .i64 (btrV t0 t1 t4 t5 t6 s0 s1 s4 s5 s6)), ?_, ?_⟩
    · rintro o rfl; exact ⟨trivial, hk⟩
    intro c hc
    clear hk
    intro b0 b1
    refine W_plan (mkE hc T_ok spe) 2 6 (lineP 0 4 (.all (.cons 4 (oneP 5 (oneP 6 (oneP 7 .done))) (.cons 5 (oneP 4 (oneP 6 (oneP 7 .done))) .nil)))) (by rw [hc]; exact mix) (by kernel_rfl) 200 ?_
    repeat' (first | refine ⟨_, ⟨rfl, rfl⟩, ?_⟩ | refine ⟨_, ⟨h0, h4, rfl, rfl⟩, ?_⟩ | refine ⟨_, ⟨k0, k4, rfl, rfl⟩, ?_⟩ | fail)
    refine ⟨⟨fun _ => trivial, fun b2 => ?_⟩, ⟨fun _ => trivial, fun b2 => ?_⟩, trivial⟩
    all_goals
      refine ⟨⟨fun _ => trivial, fun b3 => ?_⟩, trivial⟩
      refine ⟨⟨trivial, ?_⟩, trivial⟩
      refine ⟨⟨trivial, ?_⟩, trivial⟩
      refine W_plan (mkE hc T_ok spe) 4 10 (lineP 0 10 (oneP 10 (oneP 11 (oneP 12 .done)))) (by rw [hc]; exact mix) (by kernel_rfl) 200 ?_
      repeat' (first | refine ⟨_, ⟨rfl, rfl⟩, ?_⟩ | fail)
      refine ⟨⟨trivial, fun b4 => ?_⟩, trivial⟩
      refine ⟨⟨trivial, _, 2, b4, _, _, _, _, rfl, rfl, rfl, rfl, rfl, ?_⟩, trivial⟩
      refine ⟨⟨trivial, ?_⟩, trivial⟩
      exact outI rfl
  · exact hs.elim

def SPE2 : SpT := [(10, sOf), (23, sRefCmp)]
theorem spe2 : ∀ p ∈ SPE2, SpecOK Tryd.prog p.1 p.2 := consSP sRefOf_ok (consSP sRefCmp_ok noSP)
theorem sRefBetter_ok : SpecOK Tryd.prog 18 sBetter := by
  refine specOK_pure (fn := Tryd.f18) rfl rfl rfl T_ok (SP := SPE2) spe2 [] trivial 300 _ ?_
  intro args h nx K hs
  unfold sBetter at hs
  split at hs
  · rename_i t0 t1 t2 t3 t4 t5 t6 t7 t8 t9 s0 s1 s2 s3 s4 s5 s6 s7 s8 s9
    obtain ⟨h0, h4, k0, k4, hk⟩ := hs
    refine ⟨trivial, by repeat constructor, by simp [Tryd.f18], fun o => o = .ret (.int .i64 (btrV t0 t1 t4 t5 t6 s0 s1 s4 s5 s6)), ?_, ?_⟩
    · rintro o rfl; exact ⟨trivial, hk⟩
    intro c hc
    clear hk
    intro b0 b1
    refine W_plan (mkE hc T_ok spe2) 1 7 (lineP 0 7 (oneP 7 .done)) (by rw [hc]; exact mix) (by kernel_rfl) 200 ?_
    repeat' (first | refine ⟨_, ⟨rfl, rfl⟩, ?_⟩ | refine ⟨_, ⟨h0, h4, rfl, rfl⟩, ?_⟩ | refine ⟨_, ⟨k0, k4, rfl, rfl⟩, ?_⟩ | refine ⟨_, ⟨rate_bnd _ _, rate_bnd _ _, rfl, rfl⟩, ?_⟩ | fail)
    refine ⟨⟨trivial, ?_⟩, trivial⟩
    (refine (?_ : br _ _ _); refine br_eq (fun e => ?_) (fun e => ?_))
    · refine W_plan (mkE hc T_ok spe2) 3 7 (lineP 0 7 (oneP 7 .done)) (by rw [hc]; exact mix) (by kernel_rfl) 200 ?_
      repeat' (first | refine ⟨_, ⟨rfl, rfl⟩, ?_⟩ | refine ⟨_, ⟨h0, h4, rfl, rfl⟩, ?_⟩ | refine ⟨_, ⟨k0, k4, rfl, rfl⟩, ?_⟩ | refine ⟨_, ⟨rate_bnd _ _, rate_bnd _ _, rfl, rfl⟩, ?_⟩ | fail)
      refine ⟨⟨trivial, ?_⟩, trivial⟩
      have e : cmpV (rateV t1 (subV t0 t4)).toNat (rateV s1 (subV s0 s4)).toNat = 0 := e
      exact outI (by rw [btrV, orV, if_pos e])
    · have e : cmpV (rateV t1 (subV t0 t4)).toNat (rateV s1 (subV s0 s4)).toNat ≠ 0 := e
      exact outI (by rw [btrV, orV, if_neg e])
  · exact hs.elim
end Go.Proofs.YtmohokeeglnliaaDoor.Sx
