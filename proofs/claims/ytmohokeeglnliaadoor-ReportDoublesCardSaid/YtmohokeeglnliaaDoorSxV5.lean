import Derived.Test.YtmohokeeglnliaaDoorSxV4
/-
  The best of some counts; the mean of some gauges.
-/
namespace Go.Proofs.YtmohokeeglnliaaDoor.Sx
open Go Go.Proofs Go.RowKit Go.Sort
set_option maxRecDepth 100000
set_option linter.unusedSimpArgs false
set_option linter.unusedVariables false

theorem bestN_congr {f g : Nat → Int} : ∀ {n : Nat}, (∀ j, j < n → f j = g j) → bestN f n = bestN g n
  | 0, _ => rfl
  | n + 1, h => by
    have ih := bestN_congr (n := n) (fun j hj => h j (by omega))
    have hb := bestN_le g n
    unfold bestN
    rw [ih, h n (by omega), h (bestN g n) (by omega)]

def sBestR : Spec := fun args h nx K => ∃ (v : V) (n : Nat) (f : Nat → Nat → Int), args = [v] ∧ rdK 10 kT h v n f ∧ (∀ j k, j < n → k < 10 → bnd (f j k)) ∧ n ≤ 1048576 ∧ K (.ret (.tup [.int .i64 (bestN (fun j => hitV (f j)) n : Nat), .bool (decide (0 < n))])) h nx
def SPB : SpT := [(34, sEachT), (33, sBest)]
theorem spb : ∀ p ∈ SPB, SpecOK Tryd.prog p.1 p.2 := consSP sEachT_ok (consSP sBest_ok noSP)
theorem outT {a b : Nat} {p q : Bool} (h : a = b) (k : p = q) : Out.ret (.tup [.int .i64 (a : Nat), .bool p]) = Out.ret (.tup [.int .i64 (b : Nat), .bool q]) := by rw [h, k]
theorem sBestR_ok : SpecOK Tryd.prog 13 sBestR := by
  refine specOK_read2 (fn := Tryd.f13) rfl rfl rfl T_ok (SP := SPB) spb 200 _ ?_
  rintro args h nx K ⟨v, n, f, rfl, hv, hb, hn, hk⟩
  obtain ⟨b, N, i, c, F, hN, hF, told⟩ := toldK_one (rest := []) hv trivial
  refine ⟨_, _, told, by simp [Tryd.f13], fun o => o = .ret (.tup [.int .i64 (bestN (fun j => hitV (f j)) n : Nat), .bool (decide (0 < n))]), ?_, ?_⟩
  · rintro o rfl; exact ⟨⟨trivial, trivial, trivial⟩, hk⟩
  intro cx hc
  clear hk told hv
  have hb' : ∀ j k, j < n → k < 10 → bnd (F (i + j) k) := fun j k hj hk => by rw [← hF j k hj hk]; exact hb j k hj hk
  refine ⟨_, n, fun j k => F (i + j) k, rfl, .inr ⟨2000, i, c, b, N, _, rfl, rfl, hN, F, fun j k _ _ => rfl, fun j k _ _ => rfl⟩, hb', hn, rfl, fun bb g hg _ => ?_⟩
  refine ⟨_, n, fun j => hitV (F (i + j)), rfl, .inr ⟨0, 0, n, _, n, g, rfl, rfl, by omega, fun j => hitV (F (i + j)), fun j hj => hg j hj, fun j hj => by simp⟩, by omega, ?_⟩
  refine outT (bestN_congr fun j hj => ?_) rfl
  unfold hitV
  rw [hF j 0 hj (by omega), hF j 1 hj (by omega), hF j 4 hj (by omega)]

def SPB2 : SpT := [(10, sOf), (23, sRefCmp)]
theorem spb2 : ∀ p ∈ SPB2, SpecOK Tryd.prog p.1 p.2 := consSP sRefOf_ok (consSP sRefCmp_ok noSP)
theorem sRefBestR_ok : SpecOK Tryd.prog 14 sBestR := by
  refine specOK_read2 (fn := Tryd.f14) rfl rfl rfl T_ok (SP := SPB2) spb2 200 _ ?_
  rintro args h nx K ⟨v, n, f, rfl, hv, hb, hn, hk⟩
  obtain ⟨b, N, i, c, F, hN, hF, told⟩ := toldK_one (rest := []) hv trivial
  refine ⟨_, _, told, by simp [Tryd.f14], fun o => o = .ret (.tup [.int .i64 (bestN (fun j => hitV (f j)) n : Nat), .bool (decide (0 < n))]), ?_, ?_⟩
  · rintro o rfl; exact ⟨⟨trivial, trivial, trivial⟩, hk⟩
  intro cx hc
  clear hk told hv
  obtain ⟨H, hH⟩ : ∃ H : Nat → Int, ∀ j, H j = hitV (f j) := ⟨_, fun _ => rfl⟩
  have hHf : (fun j => hitV (f j)) = H := funext fun j => (hH j).symm
  rw [hHf]
  have h1 : bestN H 1 = 0 := by unfold bestN; split <;> rfl
  refine W_loop (fun r σ h => ∃ j : Nat, r = n - j ∧ 1 ≤ j ∧ (j ≤ n ∨ (j = 1 ∧ n = 0)) ∧
    σ = [(0, .slice 2000 i n c), (2, .int .i64 0), (3, .bool false), (4, .int .i64 (bestN H j : Nat)), (5, .int .i64 j)] ∧ h = [(2000, .ro b N 10 (gK kT F))]) (n - 1) ⟨1, rfl, by omega, by omega, rfl, rfl⟩ (tau []) ⟨rfl, ?_, ?_⟩ 30 ?_
  · repeat' (first | exact rfl | exact trivial | exact congrArg Int.ofNat h1.symm | refine ⟨?_, ?_⟩)
  · exact ⟨⟨rfl, rfl, rfl, fun i c hi hc => ⟨rfl, rfl⟩⟩, trivial⟩
  rintro r σ h1 ⟨j, rfl, hj1, hj, rfl, rfl⟩
  refine vc_sound (mkE hc T_ok spb2) 200 _ _ _ 30 ?_
  (refine (?_ : br _ _ _); refine br_dec (fun hlt => ?_) (fun hlt => ?_))
  · have hlt : (j : Int) < (n : Int) := hlt
    have hjn : j < n := by omega
    have hw : IntKind.i64.wrap ((j : Int) + 1) = ((j + 1 : Nat) : Int) := by simp [IntKind.wrap_i64]; omega
    have hbl := bestN_le H j
    have e1 : hitV (F (addI i j)) = H j := by rw [hH]; unfold hitV; rw [addI_eq, hF j 0 hjn (by omega), hF j 1 hjn (by omega), hF j 4 hjn (by omega)]
    have e2 : hitV (F (addI i (bestN H j))) = H (bestN H j) := by rw [hH]; unfold hitV; rw [addI_eq, hF _ 0 (by omega) (by omega), hF _ 1 (by omega) (by omega), hF _ 4 (by omega) (by omega)]
    have b0 : bnd (F (addI i j) 0) := by rw [addI_eq, ← hF j 0 hjn (by omega)]; exact hb _ _ hjn (by omega)
    have b4 : bnd (F (addI i j) 4) := by rw [addI_eq, ← hF j 4 hjn (by omega)]; exact hb _ _ hjn (by omega)
    have c0 : bnd (F (addI i (bestN H j)) 0) := by rw [addI_eq, ← hF _ 0 (by omega) (by omega)]; exact hb _ _ (by omega) (by omega)
    have c4 : bnd (F (addI i (bestN H j)) 4) := by rw [addI_eq, ← hF _ 4 (by omega) (by omega)]; exact hb _ _ (by omega) (by omega)
    refine W_plan (mkE hc T_ok spb2) 5 14 (lineP 0 14 .done) (by rw [hc]; exact mix) (by kernel_rfl) 200 ?_
    repeat' (first
      | refine ⟨_, ⟨rfl, rfl⟩, ?_⟩
      | refine ⟨_, chk_ok (by simp only [Bool.and_eq_true, decide_eq_true_eq]; omega) ⟨rfl, rfl⟩, ?_⟩
      | refine ⟨_, chk_ok (Nat.ble_eq_true_of_le (show addI i j * 10 + 0 + 10 ≤ N * 10 by rw [addI_eq]; omega)) ⟨rfl, rfl⟩, ?_⟩
      | refine ⟨_, chk_ok (Nat.ble_eq_true_of_le (show addI i (bestN H j) * 10 + 0 + 10 ≤ N * 10 by rw [addI_eq]; omega)) ⟨rfl, rfl⟩, ?_⟩
      | refine ⟨_, chk_ok (by simp only [Bool.and_eq_true, decide_eq_true_eq]; omega) (chk_ok rfl ⟨rfl, rfl⟩), ?_⟩
      | refine ⟨_, ⟨b0, b4, rfl, rfl⟩, ?_⟩
      | refine ⟨_, ⟨c0, c4, rfl, rfl⟩, ?_⟩
      | refine ⟨_, ⟨rate_bnd _ _, rate_bnd _ _, rfl, rfl⟩, ?_⟩
      | fail)
    (refine (?_ : br _ _ _); refine br_dec (fun e => ?_) (fun e => ?_))
    · have e : 0 < cmpV (hitV (F (addI i j))).toNat (hitV (F (addI i (bestN H j)))).toNat := e
      rw [e1, e2] at e
      have hb2 : bestN H (j + 1) = j := by unfold bestN; rw [if_pos e]
      refine ⟨n - (j + 1), _, _, by omega, ⟨j + 1, rfl, by omega, by omega, rfl, rfl⟩, tau [], rfl, ?_, ?_⟩
      · repeat' (first | exact rfl | exact trivial | exact hw | exact congrArg Int.ofNat hb2.symm | refine ⟨?_, ?_⟩)
      · exact ⟨⟨rfl, rfl, rfl, fun i c hi hc => ⟨rfl, rfl⟩⟩, trivial⟩
    · have e : ¬ 0 < cmpV (hitV (F (addI i j))).toNat (hitV (F (addI i (bestN H j)))).toNat := e
      rw [e1, e2] at e
      have hb2 : bestN H (j + 1) = bestN H j := by rw [bestN, if_neg e]
      refine ⟨n - (j + 1), _, _, by omega, ⟨j + 1, rfl, by omega, by omega, rfl, rfl⟩, tau [], rfl, ?_, ?_⟩
      · repeat' (first | exact rfl | exact trivial | exact hw | exact congrArg Int.ofNat hb2.symm | refine ⟨?_, ?_⟩)
      · exact ⟨⟨rfl, rfl, rfl, fun i c hi hc => ⟨rfl, rfl⟩⟩, trivial⟩
  · have hlt : ¬ (j : Int) < (n : Int) := hlt
    refine outT ?_ ?_
    · rcases hj with hj | ⟨rfl, rfl⟩
      · obtain rfl : j = n := by omega
        rfl
      · exact h1
    · show decide ((n : Int) > 0) = _
      simp

/-! ### The mean of some gauges -/
def chainN (f : Nat → Int) : Nat → Int
  | 0 => f 0
  | n + 1 => meanV (chainN f n).toNat (f (n + 1)).toNat
theorem chainN_congr {f g : Nat → Int} : ∀ {n : Nat}, (∀ j, j ≤ n → f j = g j) → chainN f n = chainN g n
  | 0, h => h 0 (Nat.le_refl _)
  | n + 1, h => by
    unfold chainN
    rw [chainN_congr (n := n) (fun j hj => h j (by omega)), h (n + 1) (Nat.le_refl _)]

theorem toldB {h : Hp} {t n b : Nat} {g : Nat → Nat → V} {ty : TypeId} {f : Nat → Int} (e : fd t h = .blk b n 1 g ty) (hg : ∀ j, j < n → g j 0 = .int .u64 (f j)) : Told h [.slice t 0 n n] [(2000, .ro (some ⟨b, 0, none⟩) n 1 (g1 .u64 f))] [.slice 2000 0 n n] := by
  have e' : fd t (roH h) = .ro (some ⟨b, 0, none⟩) n 1 g := by rw [fd_roH, e]; rfl
  refine ⟨fun {c w xs} hr hvv => ?_⟩
  obtain ⟨y, ys, rfl, ry, rfl⟩ := hvv
  have k1 : roOK w [(2000, .ro (some ⟨b, 0, none⟩) n 1 (g1 .u64 f))] := by
    refine ⟨fun j k hj hk => ?_, trivial⟩
    have H := hr.ro.holds t
    rw [e'] at H
    obtain ⟨ad, y, e1, e2, e3, _⟩ := H j k hj hk
    obtain rfl : k = 0 := by omega
    rw [hg j hj] at e3
    exact ⟨ad, y, e1, e2, e3⟩
  refine ⟨rel_ros k1 hr.qtabs, y, [], rfl, ?_, rfl⟩
  obtain ⟨base, sz, e1, e2, e3⟩ := ry
  rw [e] at e1
  injection e1 with e1
  injection e1 with e4 e5
  subst e4 e5
  exact ⟨_, _, rfl, e2, e3⟩

def ixN (n : Nat) : Nat := match Nat.beq n 1 with | true => 0 | false => addI 0 1
theorem ixN_one {n : Nat} (h : 1 < n) : ixN n = 1 := by
  unfold ixN
  have : Nat.beq n 1 = false := by cases q : Nat.beq n 1 with | true => have := Nat.eq_of_beq_eq_true q; omega | false => rfl
  rw [this]
  rfl
def sMeans : Spec := fun args h nx K => ∃ (t n b : Nat) (g : Nat → Nat → V) (ty : TypeId) (f : Nat → Int), args = [.slice t 0 n n] ∧ 1 ≤ n ∧ fd t h = .blk b n 1 g ty ∧ (∀ j, j < n → g j 0 = .int .u64 (f j)) ∧ n ≤ 1048576 ∧ K (.ret (.int .u64 (chainN f (n - 1)))) h nx
theorem sMeans_ok : SpecOK Tryd.prog 36 sMeans := by
  refine specOK_read2 (fn := Tryd.f36) rfl rfl rfl T_ok (SP := [(55, sMean)]) (consSP sMean_ok noSP) 200 _ ?_
  rintro args h nx K ⟨t, n, b, g, ty, f, rfl, h1, e, hg, hn, hk⟩
  refine ⟨_, _, toldB e hg, by simp [Tryd.f36], fun o => o = .ret (.int .u64 (chainN f (n - 1))), ?_, ?_⟩
  · rintro o rfl; exact ⟨trivial, hk⟩
  intro cx hc
  clear hk e hg
  have hn0 : (0 : Int) < (n : Int) := by omega
  refine (?_ : chk (Nat.beq 7 7) (chk (decide ((0 : Int) ≤ 0) && decide ((0 : Int) < (n : Int))) _))
  refine chk_ok rfl (chk_ok (Bool.and_eq_true_iff.2 ⟨decide_eq_true (Int.le_refl 0), decide_eq_true hn0⟩) ?_)
  (refine (?_ : chk _ _); refine chk_ok rfl ?_)
  (refine (?_ : chk _ _); refine chk_ok (Nat.ble_eq_true_of_le (show 0 * 1 + 0 + 1 ≤ n * 1 by omega)) ?_)
  (refine (?_ : chk _ _); refine chk_ok rfl ?_)
  (refine (?_ : chk _ _); refine chk_ok (show (decide (0 ≤ (some (1 : Int)).getD 0) && decide ((some (1 : Int)).getD 0 ≤ (n : Int))) = true by simp only [Bool.and_eq_true, decide_eq_true_eq, Option.getD_some]; omega) ?_)
  refine W_loop (fun r σ h => ∃ j : Nat, r = n - 1 - j ∧ j ≤ n - 1 ∧
    σ = [(0, .slice 2000 0 n n), (2, .int .u64 0), (3, .int .u64 (chainN f j)), (10, .slice 2000 (ixN n) (n - 1) (n - 1)), (11, .int .i64 ((n - 1 : Nat) : Int)), (12, .int .i64 j)] ∧ h = [(2000, .ro (some ⟨b, 0, none⟩) n 1 (g1 .u64 f))]) (n - 1) ⟨0, rfl, by omega, rfl, rfl⟩ (tau []) ⟨rfl, ?_, ?_⟩ 30 ?_
  · repeat' (first | exact rfl | exact trivial | refine ⟨?_, ?_⟩)
  · exact ⟨⟨rfl, rfl, rfl, fun i c hi hc => ⟨rfl, rfl⟩⟩, trivial⟩
  rintro r σ h1 ⟨j, rfl, hj, rfl, rfl⟩
  refine vc_sound (mkE hc T_ok (consSP sMean_ok noSP)) 200 _ _ _ 30 ?_
  (refine (?_ : br _ _ _); refine br_dec (fun hlt => ?_) (fun hlt => ?_))
  · have hlt : (j : Int) < ((n - 1 : Nat) : Int) := hlt
    have hjn : j < n - 1 := by omega
    have hw : IntKind.i64.wrap ((j : Int) + 1) = ((j + 1 : Nat) : Int) := by simp [IntKind.wrap_i64]; omega
    have hix := ixN_one (n := n) (by omega)
    (refine (?_ : chk _ _); refine chk_ok (by simp only [Bool.and_eq_true, decide_eq_true_eq]; omega) ?_)
    (refine (?_ : chk _ _); refine chk_ok rfl ?_)
    (refine (?_ : chk _ _); refine chk_ok (Nat.ble_eq_true_of_le (show addI (ixN n) j * 1 + 0 + 1 ≤ n * 1 by rw [addI_eq]; omega)) ?_)
    have e1 : chainN f (j + 1) = meanV (chainN f j).toNat (f (addI (ixN n) j)).toNat := by rw [addI_eq, hix, Nat.add_comm 1 j]; rfl
    refine ⟨n - 1 - (j + 1), _, _, by omega, ⟨j + 1, rfl, by omega, rfl, rfl⟩, tau [], rfl, ?_, ?_⟩
    · repeat' (first | exact rfl | exact trivial | exact hw | exact e1.symm | refine ⟨?_, ?_⟩)
    · exact ⟨⟨rfl, rfl, rfl, fun i c hi hc => ⟨rfl, rfl⟩⟩, trivial⟩
  · have hlt : ¬ (j : Int) < ((n - 1 : Nat) : Int) := hlt
    obtain rfl : j = n - 1 := by omega
    exact outI rfl
end Go.Proofs.YtmohokeeglnliaaDoor.Sx
