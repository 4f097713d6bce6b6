import Derived.Test.YtfmnebdfanaafaaSxW13
import Derived.Test.YtfmnebdfanaafaaSxW14
/-
  The walks of this seat's functions, fifteenth part: the law RunCovers.
-/
namespace Go.Proofs.Ytfmnebdfanaafaa.Sx
open Go Go.Proofs
set_option maxRecDepth 100000
set_option linter.unusedSimpArgs false
set_option linter.unusedVariables false
set_option linter.unnecessarySimpa false

def SP4 : SpT := [(7, sAwake), (10, sCover), (11, sCover), (12, sSame), (13, sMeet), (14, sMeet), (15, sInts), (16, sBlocks), (17, sBlocks)]
theorem sp4 : ∀ p ∈ SP4, SpecOK Try.prog p.1 p.2 := consSP sAwake_ok (consSP sCover_ok (consSP sRefCover_ok (consSP sSame_ok (consSP sMeet_ok (consSP sRefMeet_ok (consSP sInts_ok (consSP sBlocks_ok (consSP sRefBlocks_ok noSP))))))))
def planC : Plan := lineP 0 24 (.take 25 (.take 26 (.all (.cons 24 (.all (.cons 27 (lineP 28 3 .done) .nil)) .nil))))
theorem rowsL_ne {p : Nat} {F F' : Nat → Int} (e : rowsL (p + 1) F F' = []) : False := by
  have := congrArg List.length e
  simp [rowsL] at this
theorem rowsL_inj {p p' : Nat} {F F' G G' : Nat → Int} (e : rowsL (p + 1) F F' = rowsL (p' + 1) G G') : p = p' ∧ ∀ j, j < p + 1 → F j = G j ∧ F' j = G' j := by
  have h := congrArg List.length e
  simp [rowsL] at h
  subst h
  refine ⟨rfl, fun j hj => ?_⟩
  have h2 := congrArg (fun l => l[j]?) e
  simp [rowsL, hj] at h2
  exact h2

def sLaw4 : Spec := fun args h nx K => ∃ v n f most a b c d, args = [v, .int .i64 most, .agg [.int .i64 a, .int .i64 b, .int .i64 c, .int .i64 d]] ∧ rdI h v n f ∧ n ≤ 9223372036854775807 ∧ i64 most ∧ (i64 a ∧ i64 b) ∧ (i64 c ∧ i64 d) ∧ K (.ret (.bool true)) h nx

set_option maxHeartbeats 4000000 in
theorem sLaw4_ok : SpecOK Try.prog 4 sLaw4 := by
  refine specOK_read2 (fn := Try.f4) rfl rfl rfl T_ok (SP := SP4) sp4 400 _ ?_
  rintro args h nx K ⟨v, n, f, most, a, b, c, d, rfl, hv, hn, im, ia, ic, hk⟩
  obtain ⟨bs, N, i, c0, F, hN, hF, told⟩ := told_one (rest := [.int .i64 most, .agg [.int .i64 a, .int .i64 b, .int .i64 c, .int .i64 d]]) hv ⟨trivial, by repeat constructor, trivial⟩
  refine ⟨_, _, told, by simp [Try.f4], fun o => o = .ret (.bool true), ?_, ?_⟩
  · rintro o rfl; exact ⟨trivial, hk⟩
  intro cx hcx
  clear hk told hv
  intro b0
  (refine (?_ : br _ _ _); refine br_dec (fun a1 => ?_) (fun a1 => ?_))
  · rfl
  have a1 : ¬ (300 : Int) < (n : Int) := a1
  cases hb : covBad most n f with
  | true =>
    refine ⟨_, n, f, most, rfl, .inr ⟨2000, i, c0, bs, N, _, rfl, rfl, hN, F, fun _ _ => rfl, hF⟩, by omega, im, fun _ => ?_, fun e => by rw [hb] at e; cases e⟩
    refine ⟨_, n, f, most, rfl, .inr ⟨2000, i, c0, bs, N, _, rfl, rfl, hN, F, fun _ _ => rfl, hF⟩, by omega, im, fun _ => ?_, fun e => by rw [hb] at e; cases e⟩
    cases e1 : mayB a b with
    | false =>
      refine W_plan (id := 7) (mkE hcx T_ok sp4) 80 31 (lineP 0 31 .done) (by rw [hcx]; exact mix) (by kernel_rfl) 200 ?_
      refine ⟨_, ⟨rfl, rfl⟩, ?_⟩
      refine ⟨_, ⟨rfl, rfl⟩, ?_⟩
      refine ⟨_, ⟨_, _, 0, 0, fun _ => 0, fun _ => 0, fun _ => 0, fun _ => 0, rfl, .inl ⟨rfl, rfl⟩, .inl ⟨rfl, rfl⟩, by omega, by omega, rfl, rfl⟩, ?_⟩
      refine ⟨_, ⟨rfl, rfl⟩, ?_⟩
      refine ⟨_, ⟨rfl, rfl⟩, ?_⟩
      refine ⟨_, ⟨rfl, rfl⟩, ?_⟩
      refine ⟨_, ⟨rfl, rfl⟩, ?_⟩
      refine ⟨_, ⟨rfl, rfl⟩, ?_⟩
      refine ⟨_, ⟨rfl, rfl⟩, ?_⟩
      refine ⟨_, ⟨rfl, rfl⟩, ?_⟩
      refine ⟨_, ⟨rfl, rfl⟩, ?_⟩
      refine ⟨_, ⟨rfl, rfl⟩, ?_⟩
      refine ⟨_, ⟨rfl, rfl⟩, ?_⟩
      refine ⟨_, ⟨ia.1, ia.2, ic.1, ic.2, rfl, rfl⟩, ?_⟩
      refine ⟨_, ⟨rfl, rfl⟩, ?_⟩
      refine ⟨_, ⟨rfl, rfl⟩, ?_⟩
      refine ⟨_, ⟨rfl, rfl⟩, ?_⟩
      refine ⟨_, ⟨rfl, rfl⟩, ?_⟩
      refine ⟨_, ⟨ia.1, ia.2, ic.1, ic.2, rfl, rfl⟩, ?_⟩
      refine ⟨_, ⟨rfl, rfl⟩, ?_⟩
      refine ⟨_, ⟨rfl, rfl⟩, ?_⟩
      refine ⟨_, ⟨rfl, rfl⟩, ?_⟩
      (refine (?_ : br _ _ _); refine br_t (by simp) ?_)
      refine ⟨_, ⟨rfl, rfl⟩, ?_⟩
      refine ⟨_, ⟨rfl, rfl⟩, ?_⟩
      refine ⟨_, ⟨ia.1, ia.2, br_f e1 ⟨rfl, rfl⟩⟩, ?_⟩
      refine ⟨_, ⟨rfl, rfl⟩, ?_⟩
      refine ⟨_, ⟨rfl, rfl⟩, ?_⟩
      refine ⟨_, ⟨ia.1, ia.2, br_f e1 ⟨rfl, rfl⟩⟩, ?_⟩
      refine ⟨_, ⟨_, _, 0, 0, fun _ => 0, fun _ => 0, rfl, rdI_nil, rdI_nil, by omega, by omega, rfl, rfl⟩, ?_⟩
      refine ⟨_, ⟨rfl, rfl⟩, ?_⟩
      refine ⟨_, ⟨rfl, rfl⟩, ?_⟩
      rfl
    | true =>
      have m1 := may_iff.1 e1
      refine W_plan (id := 7) (mkE hcx T_ok sp4) 80 31 planC (by rw [hcx]; exact mix) (by kernel_rfl) 200 ?_
      refine ⟨_, ⟨rfl, rfl⟩, ?_⟩
      refine ⟨_, ⟨rfl, rfl⟩, ?_⟩
      refine ⟨_, ⟨_, _, 0, 0, fun _ => 0, fun _ => 0, fun _ => 0, fun _ => 0, rfl, .inl ⟨rfl, rfl⟩, .inl ⟨rfl, rfl⟩, by omega, by omega, rfl, rfl⟩, ?_⟩
      refine ⟨_, ⟨rfl, rfl⟩, ?_⟩
      refine ⟨_, ⟨rfl, rfl⟩, ?_⟩
      refine ⟨_, ⟨rfl, rfl⟩, ?_⟩
      refine ⟨_, ⟨rfl, rfl⟩, ?_⟩
      refine ⟨_, ⟨rfl, rfl⟩, ?_⟩
      refine ⟨_, ⟨rfl, rfl⟩, ?_⟩
      refine ⟨_, ⟨rfl, rfl⟩, ?_⟩
      refine ⟨_, ⟨rfl, rfl⟩, ?_⟩
      refine ⟨_, ⟨rfl, rfl⟩, ?_⟩
      refine ⟨_, ⟨rfl, rfl⟩, ?_⟩
      refine ⟨_, ⟨ia.1, ia.2, ic.1, ic.2, rfl, rfl⟩, ?_⟩
      refine ⟨_, ⟨rfl, rfl⟩, ?_⟩
      refine ⟨_, ⟨rfl, rfl⟩, ?_⟩
      refine ⟨_, ⟨rfl, rfl⟩, ?_⟩
      refine ⟨_, ⟨rfl, rfl⟩, ?_⟩
      refine ⟨_, ⟨ia.1, ia.2, ic.1, ic.2, rfl, rfl⟩, ?_⟩
      refine ⟨_, ⟨rfl, rfl⟩, ?_⟩
      refine ⟨_, ⟨rfl, rfl⟩, ?_⟩
      refine ⟨_, ⟨rfl, rfl⟩, ?_⟩
      (refine (?_ : br _ _ _); refine br_t (by simp) ?_)
      refine ⟨_, ⟨rfl, rfl⟩, ?_⟩
      refine ⟨_, ⟨rfl, rfl⟩, ?_⟩
      refine ⟨_, ⟨rfl, rfl⟩, ?_⟩
      refine ⟨_, ⟨rfl, rfl⟩, ?_⟩
      refine ⟨?_, trivial⟩
      refine ⟨ia.1, ia.2, ?_⟩
      refine br_t e1 ?_
      refine ⟨rfl, fun bb1 cap1 G1 g1 hG1 => ⟨rfl, rfl, fun _ _ _ _ => trivial, ?_⟩⟩
      refine ⟨?_, trivial⟩
      refine ⟨ia.1, ia.2, ?_⟩
      refine br_t e1 ?_
      refine ⟨rfl, fun bb2 cap2 G2 g2 hG2 => ⟨rfl, rfl, fun _ _ _ _ => trivial, ?_⟩⟩
      refine ⟨_, ⟨_, _, b.toNat, b.toNat, G1, G2, rfl, .inr ⟨_, 0, cap1, _, cap1, _, rfl, rfl, by omega, G1, fun _ _ => rfl, fun j hj => by rw [Nat.zero_add]⟩, .inr ⟨_, 0, cap2, _, cap2, _, rfl, rfl, by omega, G2, fun _ _ => rfl, fun j hj => by rw [Nat.zero_add]⟩, by omega, by omega, rfl, rfl⟩, ?_⟩
      refine ⟨_, ⟨rfl, rfl⟩, ?_⟩
      refine ⟨_, ⟨rfl, rfl⟩, ?_⟩
      refine outB ?_
      show (decide (b.toNat = b.toNat) && sameB b.toNat G1 G2) = true
      rw [sameB_iff.2 fun j hj => (hG1 j hj).trans (hG2 j hj).symm]
      simp
  | false =>
    refine ⟨_, n, f, most, rfl, .inr ⟨2000, i, c0, bs, N, _, rfl, rfl, hN, F, fun _ _ => rfl, hF⟩, by omega, im, (fun e => by rw [hb] at e; cases e), fun _ => ⟨fun e => ?_, fun p bb cap F0 F1 e hcap => ⟨rfl, ?_⟩⟩⟩
    · refine ⟨_, n, f, most, rfl, .inr ⟨2000, i, c0, bs, N, _, rfl, rfl, hN, F, fun _ _ => rfl, hF⟩, by omega, im, (fun e => by rw [hb] at e; cases e), fun _ => ⟨fun _ => ?_, fun p bb cap F0 F1 e2 hcap => (rowsL_ne (e2.symm.trans e)).elim⟩⟩
      cases e1 : mayB a b with
      | false =>
        refine W_plan (id := 7) (mkE hcx T_ok sp4) 80 31 (lineP 0 31 .done) (by rw [hcx]; exact mix) (by kernel_rfl) 200 ?_
        refine ⟨_, ⟨rfl, rfl⟩, ?_⟩
        refine ⟨_, ⟨rfl, rfl⟩, ?_⟩
        refine ⟨_, ⟨_, _, 0, 0, fun _ => 0, fun _ => 0, fun _ => 0, fun _ => 0, rfl, .inl ⟨rfl, rfl⟩, .inl ⟨rfl, rfl⟩, by omega, by omega, rfl, rfl⟩, ?_⟩
        refine ⟨_, ⟨rfl, rfl⟩, ?_⟩
        refine ⟨_, ⟨rfl, rfl⟩, ?_⟩
        refine ⟨_, ⟨rfl, rfl⟩, ?_⟩
        refine ⟨_, ⟨rfl, rfl⟩, ?_⟩
        refine ⟨_, ⟨rfl, rfl⟩, ?_⟩
        refine ⟨_, ⟨rfl, rfl⟩, ?_⟩
        refine ⟨_, ⟨rfl, rfl⟩, ?_⟩
        refine ⟨_, ⟨rfl, rfl⟩, ?_⟩
        refine ⟨_, ⟨rfl, rfl⟩, ?_⟩
        refine ⟨_, ⟨rfl, rfl⟩, ?_⟩
        refine ⟨_, ⟨ia.1, ia.2, ic.1, ic.2, rfl, rfl⟩, ?_⟩
        refine ⟨_, ⟨rfl, rfl⟩, ?_⟩
        refine ⟨_, ⟨rfl, rfl⟩, ?_⟩
        refine ⟨_, ⟨rfl, rfl⟩, ?_⟩
        refine ⟨_, ⟨rfl, rfl⟩, ?_⟩
        refine ⟨_, ⟨ia.1, ia.2, ic.1, ic.2, rfl, rfl⟩, ?_⟩
        refine ⟨_, ⟨rfl, rfl⟩, ?_⟩
        refine ⟨_, ⟨rfl, rfl⟩, ?_⟩
        refine ⟨_, ⟨rfl, rfl⟩, ?_⟩
        (refine (?_ : br _ _ _); refine br_t (by simp) ?_)
        refine ⟨_, ⟨rfl, rfl⟩, ?_⟩
        refine ⟨_, ⟨rfl, rfl⟩, ?_⟩
        refine ⟨_, ⟨ia.1, ia.2, br_f e1 ⟨rfl, rfl⟩⟩, ?_⟩
        refine ⟨_, ⟨rfl, rfl⟩, ?_⟩
        refine ⟨_, ⟨rfl, rfl⟩, ?_⟩
        refine ⟨_, ⟨ia.1, ia.2, br_f e1 ⟨rfl, rfl⟩⟩, ?_⟩
        refine ⟨_, ⟨_, _, 0, 0, fun _ => 0, fun _ => 0, rfl, rdI_nil, rdI_nil, by omega, by omega, rfl, rfl⟩, ?_⟩
        refine ⟨_, ⟨rfl, rfl⟩, ?_⟩
        refine ⟨_, ⟨rfl, rfl⟩, ?_⟩
        rfl
      | true =>
        have m1 := may_iff.1 e1
        refine W_plan (id := 7) (mkE hcx T_ok sp4) 80 31 planC (by rw [hcx]; exact mix) (by kernel_rfl) 200 ?_
        refine ⟨_, ⟨rfl, rfl⟩, ?_⟩
        refine ⟨_, ⟨rfl, rfl⟩, ?_⟩
        refine ⟨_, ⟨_, _, 0, 0, fun _ => 0, fun _ => 0, fun _ => 0, fun _ => 0, rfl, .inl ⟨rfl, rfl⟩, .inl ⟨rfl, rfl⟩, by omega, by omega, rfl, rfl⟩, ?_⟩
        refine ⟨_, ⟨rfl, rfl⟩, ?_⟩
        refine ⟨_, ⟨rfl, rfl⟩, ?_⟩
        refine ⟨_, ⟨rfl, rfl⟩, ?_⟩
        refine ⟨_, ⟨rfl, rfl⟩, ?_⟩
        refine ⟨_, ⟨rfl, rfl⟩, ?_⟩
        refine ⟨_, ⟨rfl, rfl⟩, ?_⟩
        refine ⟨_, ⟨rfl, rfl⟩, ?_⟩
        refine ⟨_, ⟨rfl, rfl⟩, ?_⟩
        refine ⟨_, ⟨rfl, rfl⟩, ?_⟩
        refine ⟨_, ⟨rfl, rfl⟩, ?_⟩
        refine ⟨_, ⟨ia.1, ia.2, ic.1, ic.2, rfl, rfl⟩, ?_⟩
        refine ⟨_, ⟨rfl, rfl⟩, ?_⟩
        refine ⟨_, ⟨rfl, rfl⟩, ?_⟩
        refine ⟨_, ⟨rfl, rfl⟩, ?_⟩
        refine ⟨_, ⟨rfl, rfl⟩, ?_⟩
        refine ⟨_, ⟨ia.1, ia.2, ic.1, ic.2, rfl, rfl⟩, ?_⟩
        refine ⟨_, ⟨rfl, rfl⟩, ?_⟩
        refine ⟨_, ⟨rfl, rfl⟩, ?_⟩
        refine ⟨_, ⟨rfl, rfl⟩, ?_⟩
        (refine (?_ : br _ _ _); refine br_t (by simp) ?_)
        refine ⟨_, ⟨rfl, rfl⟩, ?_⟩
        refine ⟨_, ⟨rfl, rfl⟩, ?_⟩
        refine ⟨_, ⟨rfl, rfl⟩, ?_⟩
        refine ⟨_, ⟨rfl, rfl⟩, ?_⟩
        refine ⟨?_, trivial⟩
        refine ⟨ia.1, ia.2, ?_⟩
        refine br_t e1 ?_
        refine ⟨rfl, fun bb1 cap1 G1 g1 hG1 => ⟨rfl, rfl, fun _ _ _ _ => trivial, ?_⟩⟩
        refine ⟨?_, trivial⟩
        refine ⟨ia.1, ia.2, ?_⟩
        refine br_t e1 ?_
        refine ⟨rfl, fun bb2 cap2 G2 g2 hG2 => ⟨rfl, rfl, fun _ _ _ _ => trivial, ?_⟩⟩
        refine ⟨_, ⟨_, _, b.toNat, b.toNat, G1, G2, rfl, .inr ⟨_, 0, cap1, _, cap1, _, rfl, rfl, by omega, G1, fun _ _ => rfl, fun j hj => by rw [Nat.zero_add]⟩, .inr ⟨_, 0, cap2, _, cap2, _, rfl, rfl, by omega, G2, fun _ _ => rfl, fun j hj => by rw [Nat.zero_add]⟩, by omega, by omega, rfl, rfl⟩, ?_⟩
        refine ⟨_, ⟨rfl, rfl⟩, ?_⟩
        refine ⟨_, ⟨rfl, rfl⟩, ?_⟩
        refine outB ?_
        show (decide (b.toNat = b.toNat) && sameB b.toNat G1 G2) = true
        rw [sameB_iff.2 fun j hj => (hG1 j hj).trans (hG2 j hj).symm]
        simp
    · refine ⟨_, n, f, most, rfl, .inr ⟨2000, i, c0, bs, N, _, rfl, rfl, hN, F, fun _ _ => rfl, hF⟩, by omega, im, (fun e => by rw [hb] at e; cases e), fun _ => ⟨fun e2 => (rowsL_ne (e.symm.trans e2)).elim, fun p' bb' cap' F2 F3 e2 hcap' => ⟨rfl, ?_⟩⟩⟩
      obtain ⟨hp, heq⟩ := rowsL_inj (e.symm.trans e2)
      subst hp
      have hlen := (cov_ok (most := most) (H := hasB n f) 256).2
      rw [e] at hlen
      have hp256 : p + 1 ≤ 256 := by simp [rowsL] at hlen; omega
      cases e1 : mayB a b with
      | false =>
        refine W_plan (id := 7) (mkE hcx T_ok sp4) 80 31 (lineP 0 31 .done) (by rw [hcx]; exact mix) (by kernel_rfl) 200 ?_
        refine ⟨_, ⟨rfl, rfl⟩, ?_⟩
        refine ⟨_, ⟨rfl, rfl⟩, ?_⟩
        refine ⟨_, ⟨_, _, p + 1, p + 1, F0, F1, F2, F3, rfl, .inr ⟨_, 0, cap, _, cap, _, rfl, rfl, by omega, F0, F1, fun _ _ => ⟨rfl, rfl⟩, fun j hj => by rw [Nat.zero_add]; exact ⟨rfl, rfl⟩⟩, .inr ⟨_, 0, cap', _, cap', _, rfl, rfl, by omega, F2, F3, fun _ _ => ⟨rfl, rfl⟩, fun j hj => by rw [Nat.zero_add]; exact ⟨rfl, rfl⟩⟩, by omega, by omega, rfl, rfl⟩, ?_⟩
        refine ⟨_, ⟨rfl, rfl⟩, ?_⟩
        (refine (?_ : br _ _ _); refine br_t (show (decide (p + 1 = p + 1) && (sameB (p + 1) F0 F2 && sameB (p + 1) F1 F3)) = true by rw [sameB_iff.2 fun j hj => (heq j hj).1, sameB_iff.2 fun j hj => (heq j hj).2]; simp) ?_)
        refine ⟨_, ⟨rfl, rfl⟩, ?_⟩
        refine ⟨_, ⟨rfl, rfl⟩, ?_⟩
        refine ⟨_, ⟨rfl, rfl⟩, ?_⟩
        refine ⟨_, ⟨rfl, rfl⟩, ?_⟩
        refine ⟨_, ⟨rfl, rfl⟩, ?_⟩
        refine ⟨_, ⟨rfl, rfl⟩, ?_⟩
        refine ⟨_, ⟨rfl, rfl⟩, ?_⟩
        refine ⟨_, ⟨rfl, rfl⟩, ?_⟩
        refine ⟨_, ⟨rfl, rfl⟩, ?_⟩
        refine ⟨_, ⟨ia.1, ia.2, ic.1, ic.2, rfl, rfl⟩, ?_⟩
        refine ⟨_, ⟨rfl, rfl⟩, ?_⟩
        refine ⟨_, ⟨rfl, rfl⟩, ?_⟩
        refine ⟨_, ⟨rfl, rfl⟩, ?_⟩
        refine ⟨_, ⟨rfl, rfl⟩, ?_⟩
        refine ⟨_, ⟨ia.1, ia.2, ic.1, ic.2, rfl, rfl⟩, ?_⟩
        refine ⟨_, ⟨rfl, rfl⟩, ?_⟩
        refine ⟨_, ⟨rfl, rfl⟩, ?_⟩
        refine ⟨_, ⟨rfl, rfl⟩, ?_⟩
        (refine (?_ : br _ _ _); refine br_t (by simp) ?_)
        refine ⟨_, ⟨rfl, rfl⟩, ?_⟩
        refine ⟨_, ⟨rfl, rfl⟩, ?_⟩
        refine ⟨_, ⟨ia.1, ia.2, br_f e1 ⟨rfl, rfl⟩⟩, ?_⟩
        refine ⟨_, ⟨rfl, rfl⟩, ?_⟩
        refine ⟨_, ⟨rfl, rfl⟩, ?_⟩
        refine ⟨_, ⟨ia.1, ia.2, br_f e1 ⟨rfl, rfl⟩⟩, ?_⟩
        refine ⟨_, ⟨_, _, 0, 0, fun _ => 0, fun _ => 0, rfl, rdI_nil, rdI_nil, by omega, by omega, rfl, rfl⟩, ?_⟩
        refine ⟨_, ⟨rfl, rfl⟩, ?_⟩
        refine ⟨_, ⟨rfl, rfl⟩, ?_⟩
        rfl
      | true =>
        have m1 := may_iff.1 e1
        refine W_plan (id := 7) (mkE hcx T_ok sp4) 80 31 planC (by rw [hcx]; exact mix) (by kernel_rfl) 200 ?_
        refine ⟨_, ⟨rfl, rfl⟩, ?_⟩
        refine ⟨_, ⟨rfl, rfl⟩, ?_⟩
        refine ⟨_, ⟨_, _, p + 1, p + 1, F0, F1, F2, F3, rfl, .inr ⟨_, 0, cap, _, cap, _, rfl, rfl, by omega, F0, F1, fun _ _ => ⟨rfl, rfl⟩, fun j hj => by rw [Nat.zero_add]; exact ⟨rfl, rfl⟩⟩, .inr ⟨_, 0, cap', _, cap', _, rfl, rfl, by omega, F2, F3, fun _ _ => ⟨rfl, rfl⟩, fun j hj => by rw [Nat.zero_add]; exact ⟨rfl, rfl⟩⟩, by omega, by omega, rfl, rfl⟩, ?_⟩
        refine ⟨_, ⟨rfl, rfl⟩, ?_⟩
        (refine (?_ : br _ _ _); refine br_t (show (decide (p + 1 = p + 1) && (sameB (p + 1) F0 F2 && sameB (p + 1) F1 F3)) = true by rw [sameB_iff.2 fun j hj => (heq j hj).1, sameB_iff.2 fun j hj => (heq j hj).2]; simp) ?_)
        refine ⟨_, ⟨rfl, rfl⟩, ?_⟩
        refine ⟨_, ⟨rfl, rfl⟩, ?_⟩
        refine ⟨_, ⟨rfl, rfl⟩, ?_⟩
        refine ⟨_, ⟨rfl, rfl⟩, ?_⟩
        refine ⟨_, ⟨rfl, rfl⟩, ?_⟩
        refine ⟨_, ⟨rfl, rfl⟩, ?_⟩
        refine ⟨_, ⟨rfl, rfl⟩, ?_⟩
        refine ⟨_, ⟨rfl, rfl⟩, ?_⟩
        refine ⟨_, ⟨rfl, rfl⟩, ?_⟩
        refine ⟨_, ⟨ia.1, ia.2, ic.1, ic.2, rfl, rfl⟩, ?_⟩
        refine ⟨_, ⟨rfl, rfl⟩, ?_⟩
        refine ⟨_, ⟨rfl, rfl⟩, ?_⟩
        refine ⟨_, ⟨rfl, rfl⟩, ?_⟩
        refine ⟨_, ⟨rfl, rfl⟩, ?_⟩
        refine ⟨_, ⟨ia.1, ia.2, ic.1, ic.2, rfl, rfl⟩, ?_⟩
        refine ⟨_, ⟨rfl, rfl⟩, ?_⟩
        refine ⟨_, ⟨rfl, rfl⟩, ?_⟩
        refine ⟨_, ⟨rfl, rfl⟩, ?_⟩
        (refine (?_ : br _ _ _); refine br_t (by simp) ?_)
        refine ⟨_, ⟨rfl, rfl⟩, ?_⟩
        refine ⟨_, ⟨rfl, rfl⟩, ?_⟩
        refine ⟨_, ⟨rfl, rfl⟩, ?_⟩
        refine ⟨_, ⟨rfl, rfl⟩, ?_⟩
        refine ⟨?_, trivial⟩
        refine ⟨ia.1, ia.2, ?_⟩
        refine br_t e1 ?_
        refine ⟨rfl, fun bb1 cap1 G1 g1 hG1 => ⟨rfl, rfl, fun _ _ _ _ => trivial, ?_⟩⟩
        refine ⟨?_, trivial⟩
        refine ⟨ia.1, ia.2, ?_⟩
        refine br_t e1 ?_
        refine ⟨rfl, fun bb2 cap2 G2 g2 hG2 => ⟨rfl, rfl, fun _ _ _ _ => trivial, ?_⟩⟩
        refine ⟨_, ⟨_, _, b.toNat, b.toNat, G1, G2, rfl, .inr ⟨_, 0, cap1, _, cap1, _, rfl, rfl, by omega, G1, fun _ _ => rfl, fun j hj => by rw [Nat.zero_add]⟩, .inr ⟨_, 0, cap2, _, cap2, _, rfl, rfl, by omega, G2, fun _ _ => rfl, fun j hj => by rw [Nat.zero_add]⟩, by omega, by omega, rfl, rfl⟩, ?_⟩
        refine ⟨_, ⟨rfl, rfl⟩, ?_⟩
        refine ⟨_, ⟨rfl, rfl⟩, ?_⟩
        refine outB ?_
        show (decide (b.toNat = b.toNat) && sameB b.toNat G1 G2) = true
        rw [sameB_iff.2 fun j hj => (hG1 j hj).trans (hG2 j hj).symm]
        simp

end Go.Proofs.Ytfmnebdfanaafaa.Sx
