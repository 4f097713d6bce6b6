import Derived.Test.YtdjekplkejkgdaaSxG8
/-
  The document's shelf: what may be made; where a node lies.
-/
namespace Go.Proofs.Ytdjekplkejkgdaa.Sx
open Go Go.Proofs
set_option maxRecDepth 100000
set_option linter.unusedSimpArgs false
set_option linter.unusedVariables false

def sMay : Spec := fun args h nx K => ∃ (n b : Int), args = [.int .i64 n, .int .i64 b] ∧ K (.ret (.bool (mayB n b))) h nx
theorem sMay_ok : SpecOK Try.prog 10 sMay := by
  refine specOK_pure (fn := Try.f10) rfl rfl rfl T_ok (SP := []) noSP [] trivial 100 _ ?_
  rintro args h nx K ⟨n, b, rfl, hs⟩
  refine ⟨trivial, by repeat constructor, by simp [Try.f10], fun o => o = .ret (.bool (mayB n b)), ?_, ?_⟩
  · rintro o rfl; exact ⟨trivial, hs⟩
  intro c hc
  (refine (?_ : br _ _ _); refine br_dec (fun q => ?_) (fun q => ?_))
  · have q1 : 1 ≤ n := q
    (refine (?_ : br _ _ _); refine br_dec (fun q => ?_) (fun q => ?_))
    · have q2 : n ≤ 64 := q
      (refine (?_ : br _ _ _); refine br_dec (fun q => ?_) (fun q => ?_))
      · have q3 : 1 ≤ b := q
        exact outB (by unfold mayB; rw [decide_eq_true q1, decide_eq_true q2, decide_eq_true q3]; rfl)
      · have q3 : ¬ 1 ≤ b := q
        exact outB (by unfold mayB; rw [decide_eq_false q3]; simp)
    · have q2 : ¬ n ≤ 64 := q
      exact outB (by unfold mayB; rw [decide_eq_false q2]; simp)
  · have q1 : ¬ 1 ≤ n := q
    exact outB (by unfold mayB; rw [decide_eq_false q1]; simp)

theorem HF.wk {bR bH : Nat} {e0 e1 : Ent} {c0 c1 : Nat} {m : Md} (l0 : lstE e0 (cI (m.L 0)) c0) (l1 : lstE e1 (cI (m.L 1)) c1) : wkH (tau []) (HF bR bH e0 e1 c0 c1 m) (HF bR bH e0 e1 c0 c1 m) (HF bR bH e0 e1 c0 c1 m) := by
  have v0 : live (HF bR bH e0 e1 c0 c1 m) 2001 := l0.ro_live
  have v1 : live (HF bR bH e0 e1 c0 c1 m) 2002 := l1.ro_live
  exact ⟨⟨rfl, rfl, rfl, fun i c hi hc => (by obtain rfl : i = 0 := (by omega); exact gF_rn ⟨rfl, v0⟩ ⟨rfl, v1⟩ ⟨rfl, trivial⟩ hc)⟩, l0.ro_wk _ _, l1.ro_wk _ _, ⟨rfl, rfl, rfl, fun i c hi hc => rfl⟩, trivial⟩

theorem Md.wh_neg {m : Md} {k : Int} (hok : Ok m) (h : m.atZ k < 0) : m.whI k = (0, false, false) := by
  unfold Md.whI
  rw [if_neg]
  by_cases q : k < 0 ∨ (m.n : Int) ≤ k
  · rw [Md.lies_1 q]; decide
  · rw [Md.lies_Z (by omega) (by omega), if_pos h]; decide
theorem Md.wh_pos {m : Md} {k : Int} (hok : Ok m) (h : ¬ m.atZ k < 0) : ∃ q j : Nat, q < 2 ∧ k = (j : Int) ∧ j ∈ m.L q ∧ m.atZ k = (q : Int) ∧ m.whI k = ((q : Int), m.low q j, true) := by
  have hm : ∃ q : Nat, q < 2 ∧ k ∈ cI (m.L q) := by
    unfold Md.atZ at h
    by_cases h0 : k ∈ cI (m.L 0)
    · exact ⟨0, by omega, h0⟩
    · by_cases h1 : k ∈ cI (m.L 1)
      · exact ⟨1, by omega, h1⟩
      · rw [if_neg h0, if_neg h1] at h; exact absurd (by decide) h
  obtain ⟨q0, hq0, hk0⟩ := hm
  obtain ⟨j, hj, rfl⟩ : ∃ j : Nat, j ∈ m.L q0 ∧ (j : Int) = k := by
    unfold cI at hk0
    exact List.mem_map.1 hk0
  have hjn := hok.lt hq0 hj
  have hz := Md.at_Z (m := m) (j := j)
  cases e : m.at j with
  | none => rw [e] at hz; rw [hz] at h; exact absurd (by decide) h
  | some q =>
    obtain ⟨hq, hjq⟩ := Md.at_some e
    rw [e] at hz
    refine ⟨q, j, hq, rfl, hjq, hz, ?_⟩
    unfold Md.whI
    rw [if_pos (by rw [Md.lies_Z (by omega) (by omega), if_neg h]), Int.toNat_natCast, e]

def SPW : SpT := [(16, sFind), (41, sAt)]
theorem spw : ∀ p ∈ SPW, SpecOK Try.prog p.1 p.2 := consSP sFind_ok (consSP sAt_ok noSP)
def sRWhere : Spec := fun args h nx K => ∃ (p : V) (m : Md) (k : Int), args = [p, .int .i64 k] ∧ refR h p m ∧ Ok m ∧ K (.ret (.tup [.int .i64 (m.whI k).1, .bool (m.whI k).2.1, .bool (m.whI k).2.2])) h nx
theorem sRWhere_ok : SpecOK Try.prog 30 sRWhere := by
  refine specOK_read2 (fn := Try.f30) rfl rfl rfl T_ok (SP := SPW) spw 0 _ ?_
  rintro args h nx K ⟨p, m, k, rfl, hr, hok, hk⟩
  obtain ⟨bR, bH, e0, e1, c0, c1, l0, l1, told⟩ := told_ref (rest := [.int .i64 k]) hr ⟨trivial, trivial⟩
  refine ⟨_, _, told, by simp [Try.f30], fun o => o = .ret (.tup [.int .i64 (m.whI k).1, .bool (m.whI k).2.1, .bool (m.whI k).2.2]), ?_, ?_⟩
  · rintro o rfl; exact ⟨⟨trivial, trivial, trivial, trivial⟩, hk⟩
  intro cx hcx
  clear hk told hr
  have hE := mkE' (fn := Try.f30) (R := fun o _ _ => o = .ret (.tup [.int .i64 (m.whI k).1, .bool (m.whI k).2.1, .bool (m.whI k).2.2])) hcx spw
  have hwk := HF.wk (bR := bR) (bH := bH) l0 l1
  show W _ _ _ _ 0
  obtain ⟨Z, hZ⟩ : ∃ Z, Z = m.atZ k := ⟨_, rfl⟩
  refine W_seq (nx := 0) ?_
  refine W_to (nx := 0) [(0, .ptr 2000 0 0), (1, .int .i64 k)] (HF bR bH e0 e1 c0 c1 m) 30 ?_ ?_
  · refine vc_sound hE 20 _ _ _ 30 ?_
    exact ⟨tau [], rfl, (by repeat' (first | exact rfl | exact trivial | assumption | refine ⟨?_, ?_⟩)), hwk⟩
  refine W_seq (nx := 30) ?_
  refine W_to (nx := 30) [(0, .ptr 2000 0 0), (1, .int .i64 k), (7, .int .i64 Z)] (HF bR bH e0 e1 c0 c1 m) 30 ?_ ?_
  · refine vc_sound hE 20 _ _ _ 30 ?_
    refine ⟨_, m, k, rfl, HF.ref l0 l1, hok, ?_⟩
    rw [← hZ]
    exact ⟨tau [], rfl, (by repeat' (first | exact rfl | exact trivial | assumption | refine ⟨?_, ?_⟩)), hwk⟩
  by_cases hneg : Z < 0
  · rw [Md.wh_neg hok (by rw [← hZ]; exact hneg)]
    have hE := mkE' (fn := Try.f30) (R := fun o _ _ => o = .ret (.tup [.int .i64 0, .bool false, .bool false])) hcx spw
    refine vc_sound hE 60 _ _ _ 30 ?_
    (refine (?_ : br _ _ _); refine br_decT hneg ?_)
    rfl
  · obtain ⟨q, j, hq, rfl, hj, hz, hw⟩ := Md.wh_pos hok (k := k) (by rw [← hZ]; exact hneg)
    rw [hw]
    rw [hz] at hZ
    subst hZ
    have hlen := hok.len hq
    have hb : (m.b : Int) ≤ 64 := by have h1 := hok.choose_spec.b2; have h2 := hok.choose_spec.n2; omega
    have hfd : findI (j : Int) (cI (m.L q)) = ((ix j (m.L q) : Nat) : Int) := by unfold findI; rw [if_pos (mem_c.2 hj), ixZ_c]
    have hwr : IntKind.i64.wrap (((m.L q).length : Int) - (m.b : Int)) = ((m.L q).length : Int) - m.b := by simp only [IntKind.wrap_i64]; omega
    have hlow : decide (IntKind.i64.wrap (((m.L q).length : Int) - (m.b : Int)) ≤ ((ix j (m.L q) : Nat) : Int)) = m.low q j := by
      rw [hwr]; exact decide_eq_decide.2 (by omega)
    obtain ⟨F, hF⟩ : ∃ F : Int, F = ((ix j (m.L q) : Nat) : Int) := ⟨_, rfl⟩
    rw [← hF] at hfd hlow
    obtain rfl | rfl : q = 0 ∨ q = 1 := by omega
    · have hE := mkE' (fn := Try.f30) (R := fun o _ _ => o = .ret (.tup [.int .i64 ((0 : Nat) : Int), .bool (m.low 0 j), .bool true])) hcx spw
      refine W_seq (nx := 30) ?_
      refine W_to (nx := 30) [(0, .ptr 2000 0 0), (1, .int .i64 j), (7, .int .i64 ((0 : Nat) : Int))] (HF bR bH e0 e1 c0 c1 m) 30 ?_ ?_
      · refine vc_sound hE 20 _ _ _ 30 ?_
        exact ⟨tau [], rfl, (by repeat' (first | exact rfl | exact trivial | assumption | refine ⟨?_, ?_⟩)), hwk⟩
      refine W_seq (nx := 30) ?_
      refine W_plan hE 31 25 (lineP 0 25 .done) (by rw [hcx]; exact mix) (by kernel_rfl) 30 ?_
      repeat' (first | refine ⟨_, ⟨rfl, rfl⟩, ?_⟩ | fail)
      refine ⟨.int .i64 F, ⟨_, cI (m.L 0), j, rfl, (show rdL _ (.slice 2001 0 (m.L 0).length c0) _ by rw [← cI_len]; exact l0.rd2 (by show ((e0.toRo).toRo) = e0.toRo; cases e0 <;> rfl)), by rw [cI_len]; omega, (by rw [hfd]; exact ⟨rfl, rfl⟩)⟩, ?_⟩
      repeat' (first | refine ⟨_, ⟨rfl, rfl⟩, ?_⟩ | fail)
      show Out.ret (.tup [.int .i64 ((0 : Nat) : Int), .bool (decide (IntKind.i64.wrap (((m.L 0).length : Int) - (m.b : Int)) ≤ F)), .bool true]) = _
      rw [hlow]
    · have hE := mkE' (fn := Try.f30) (R := fun o _ _ => o = .ret (.tup [.int .i64 ((1 : Nat) : Int), .bool (m.low 1 j), .bool true])) hcx spw
      refine W_seq (nx := 30) ?_
      refine W_to (nx := 30) [(0, .ptr 2000 0 0), (1, .int .i64 j), (7, .int .i64 ((1 : Nat) : Int))] (HF bR bH e0 e1 c0 c1 m) 30 ?_ ?_
      · refine vc_sound hE 20 _ _ _ 30 ?_
        exact ⟨tau [], rfl, (by repeat' (first | exact rfl | exact trivial | assumption | refine ⟨?_, ?_⟩)), hwk⟩
      refine W_seq (nx := 30) ?_
      refine W_plan hE 31 25 (lineP 0 25 .done) (by rw [hcx]; exact mix) (by kernel_rfl) 30 ?_
      repeat' (first | refine ⟨_, ⟨rfl, rfl⟩, ?_⟩ | fail)
      refine ⟨.int .i64 F, ⟨_, cI (m.L 1), j, rfl, (show rdL _ (.slice 2002 0 (m.L 1).length c1) _ by rw [← cI_len]; exact l1.rd2 (by show ((e1.toRo).toRo) = e1.toRo; cases e1 <;> rfl)), by rw [cI_len]; omega, (by rw [hfd]; exact ⟨rfl, rfl⟩)⟩, ?_⟩
      repeat' (first | refine ⟨_, ⟨rfl, rfl⟩, ?_⟩ | fail)
      show Out.ret (.tup [.int .i64 ((1 : Nat) : Int), .bool (decide (IntKind.i64.wrap (((m.L 1).length : Int) - (m.b : Int)) ≤ F)), .bool true]) = _
      rw [hlow]
end Go.Proofs.Ytdjekplkejkgdaa.Sx

/-
  The document's shelf: all that are held.
-/
namespace Go.Proofs.Ytdjekplkejkgdaa.Sx
open Go Go.Proofs
set_option maxRecDepth 100000
set_option linter.unusedSimpArgs false
set_option linter.unusedVariables false

theorem W_tell {E : Env} {k : List It} {σ σ' : Sl} {h : Hp} {nx nx' : Nat} (hs : wkT h h σ σ') (hv : W E k σ' h nx') : W E k σ h nx := fun a w hm =>
  hv a w ⟨hm.size, fun t u e => let ⟨v, e1, r⟩ := wkT_at hs t u e; r _ (hm.slots t v e1), hm.calm, hm.rel⟩
theorem tell_unnil {h1 h2 : Hp} {t n sz : Nat} {g : Nat → Nat → V} (e : fd t h1 = .ro none n sz g) : tell h1 h2 (.slice t 0 0 0) .nils := by
  rintro x ⟨base, sz', e1, rfl, e3⟩
  rw [e] at e1
  cases e1
  rfl

def heldN (m : Md) (j : Nat) : List Nat := (List.range j).filter fun i => m.H i
theorem heldN_yes {m : Md} {j : Nat} (h : m.H j = true) : heldN m (j + 1) = heldN m j ++ [j] := by simp [heldN, List.range_succ, h]
theorem heldN_no {m : Md} {j : Nat} (h : m.H j = false) : heldN m (j + 1) = heldN m j := by simp [heldN, List.range_succ, h]
theorem heldN_len {m : Md} {j : Nat} : (heldN m j).length ≤ j := by have := List.length_filter_le (fun i => m.H i) (List.range j); simpa [heldN] using this
abbrev HG (bR bH : Nat) (e0 e1 : Ent) (c0 c1 : Nat) (m : Md) (e : Ent) : Hp := [(2000, .ro (some ⟨bR, 0, none⟩) 1 5 (gF m.n m.b 2001 (m.L 0).length c0 2002 (m.L 1).length c1 2003)), (2001, e0.toRo), (2002, e1.toRo), (2003, .ro (some ⟨bH, 0, none⟩) m.n 1 (gb m.H)), (3, e)]
theorem HG.wk {bR bH : Nat} {e0 e1 : Ent} {c0 c1 : Nat} {m : Md} (l0 : lstE e0 (cI (m.L 0)) c0) (l1 : lstE e1 (cI (m.L 1)) c1) {e : Ent} {l : List Int} {cp : Nat} (hl : lstE e l cp) : wkH (tau []) (HG bR bH e0 e1 c0 c1 m e) (HG bR bH e0 e1 c0 c1 m e) (HG bR bH e0 e1 c0 c1 m e) := by
  have v0 : live (HG bR bH e0 e1 c0 c1 m e) 2001 := l0.ro_live
  have v1 : live (HG bR bH e0 e1 c0 c1 m e) 2002 := l1.ro_live
  exact ⟨⟨rfl, rfl, rfl, fun i c hi hc => (by obtain rfl : i = 0 := (by omega); exact gF_rn ⟨rfl, v0⟩ ⟨rfl, v1⟩ ⟨rfl, trivial⟩ hc)⟩, l0.ro_wk _ _, l1.ro_wk _ _, ⟨rfl, rfl, rfl, fun i c hi hc => rfl⟩, lst_wk hl _ _, trivial⟩

def sRHeld : Spec := fun args h nx K => ∃ (p : V) (m : Md), args = [p] ∧ refR h p m ∧ Ok m ∧ fd nx h = .gone ∧ newL (cI m.held) h nx K
theorem sRHeld_ok : SpecOK Try.prog 31 sRHeld := by
  refine specOK_newL (fn := Try.f31) rfl rfl rfl T_ok (SP := []) noSP _ ?_
  rintro args h nx K ⟨p, m, rfl, hr, hok, hgone, hk⟩
  obtain ⟨bR, bH, e0, e1, c0, c1, l0, l1, told⟩ := told_ref (rest := []) hr trivial
  refine ⟨hgone, _, _, _, told, by simp [Try.f31], hk, fun cx hcx => ?_⟩
  clear hk told hr hgone
  have hE := mkE' (fn := Try.f31) (R := fun o h _ => retL (cI m.held) o h) hcx noSP
  have hwk := HF.wk (bR := bR) (bH := bH) l0 l1
  have hn := hok.n
  refine W_seq (nx := 0) ?_
  refine W_to (nx := 0) [(0, .ptr 2000 0 0)] (HF bR bH e0 e1 c0 c1 m) 30 ?_ ?_
  · refine vc_sound hE 20 _ _ _ 30 ?_
    exact ⟨tau [], rfl, (by repeat' (first | exact rfl | exact trivial | assumption | refine ⟨?_, ?_⟩)), hwk⟩
  refine W_seq (nx := 30) ?_
  refine W_to (nx := 30) [(0, .ptr 2000 0 0), (3, .nils)] (HF bR bH e0 e1 c0 c1 m) 30 ?_ ?_
  · refine vc_sound hE 20 _ _ _ 30 ?_
    exact ⟨tau [], rfl, (by repeat' (first | exact rfl | exact trivial | assumption | refine ⟨?_, ?_⟩)), hwk⟩
  refine W_nil (σ' := [(0, .ptr 2000 0 0), (3, .slice 3 0 0 0)]) 3 rfl ⟨tell_ptr rfl, tell_nil rfl, trivial⟩ (nx' := 30) ?_
  refine W_seq (nx := 30) ?_
  refine W_ex (nx := 30) (fun (a : Ent × Nat) => lstE a.1 (cI m.held) a.2) (fun a => [(3, .slice 3 0 (cI m.held).length a.2)]) (fun a => [(3, a.1)]) 30 ?_ ?_
  · refine vc_sound hE 8 _ _ _ 30 ?_
    have w0 : lstE (.ro none 0 1 (gl [])) (cI (heldN m 0)) 0 := .inl ⟨rfl, rfl, rfl⟩
    have v0 : live (HG bR bH e0 e1 c0 c1 m (.ro none 0 1 (gl []))) 3 := trivial
    refine W_loop (fun r σ h => ∃ (j : Nat) (e : Ent) (cp : Nat), r = m.n - j ∧ j ≤ m.n ∧ lstE e (cI (heldN m j)) cp ∧ σ = [(0, .ptr 2000 0 0), (3, .slice 3 0 (cI (heldN m j)).length cp), (4, .int .i64 j)] ∧ h = HG bR bH e0 e1 c0 c1 m e)
      m.n ⟨0, _, 0, rfl, by omega, w0, rfl, rfl⟩ (tau []) ⟨rfl, (by repeat' (first | exact rfl | exact trivial | assumption | refine ⟨?_, ?_⟩)), ?_⟩ 30 ?_
    · have v0 := l0.ro_live
      have v1 := l1.ro_live
      exact ⟨⟨rfl, rfl, rfl, fun i c hi hc => (by obtain rfl : i = 0 := (by omega); exact gF_rn ⟨rfl, v0⟩ ⟨rfl, v1⟩ ⟨rfl, trivial⟩ hc)⟩, l0.ro_wk _ _, l1.ro_wk _ _, ⟨rfl, rfl, rfl, fun i c hi hc => rfl⟩, ⟨rfl, rfl, rfl, fun i c hi hc => by omega⟩, trivial⟩
    rintro r σ h ⟨j, e, cp, rfl, hj, hl, rfl, rfl⟩
    have hll := heldN_len (m := m) (j := j)
    have hlv : live (HG bR bH e0 e1 c0 c1 m e) 3 := lst_live hl
    have hg := HG.wk (bR := bR) (bH := bH) l0 l1 hl
    refine vc_sound hE 1 _ _ _ 30 ?_
    refine W_piece (nx := 30) (fun σ1 h1 _ => j < m.n ∧ ∃ τ, wk τ σ1 h1 [(0, .ptr 2000 0 0), (3, .slice 3 0 (cI (heldN m j)).length cp), (4, .int .i64 j)] (HG bR bH e0 e1 c0 c1 m e)) ?_ ?_
    · refine vc_sound hE 60 _ _ _ 30 ?_
      (refine (?_ : br _ _ _); refine br_dec (fun q => ?_) (fun q => ?_))
      · have q : (j : Int) < m.n := q
        exact ⟨by omega, tau [], rfl, (by repeat' (first | exact rfl | exact trivial | assumption | refine ⟨?_, ?_⟩)), hg⟩
      · have q : ¬ (j : Int) < m.n := q
        obtain rfl : j = m.n := by omega
        have hlv2 : live [(3, e)] 3 := lst_live hl
        exact ⟨(e, cp), hl, tau [], rfl, (by repeat' (first | exact rfl | exact trivial | assumption | refine ⟨?_, ?_⟩)), lst_wk hl _ _, trivial⟩
    rintro σ1 h1 _ ⟨hjn, τ1, hw1⟩
    refine W_weak (nx' := 30) τ1 hw1 ?_
    clear hw1 σ1 h1 τ1
    have hw : IntKind.i64.wrap ((j : Int) + 1) = ((j + 1 : Nat) : Int) := by simp [IntKind.wrap_i64]; omega
    have hz : addI 0 ((j : Int)).toNat = j := by rw [Int.toNat_natCast, addI_eq, Nat.zero_add]
    refine vc_sound hE 60 _ _ _ 30 ?_
    (refine (?_ : chk _ _); refine chk_ok (show (decide ((0 : Int) ≤ (j : Int)) && decide ((j : Int) < (m.n : Int))) = true by simp only [Bool.and_eq_true, decide_eq_true_eq]; omega) ?_)
    (refine (?_ : chk _ _); refine chk_ok rfl ?_)
    (refine (?_ : chk _ _); refine chk_ok (Nat.ble_eq_true_of_le (show addI 0 ((j : Int)).toNat * 1 + 0 + 1 ≤ m.n * 1 by rw [hz]; omega)) ?_)
    (refine (?_ : br _ _ _); refine br_both (fun q => ?_) (fun q => ?_))
    · have q2 : m.H (addI 0 ((j : Int)).toNat) = true := q
      rw [hz] at q2
      have hy := heldN_yes q2
      have hyI : cI (heldN m j) ++ [(j : Int)] = cI (heldN m (j + 1)) := by rw [hy]; simp [cI]
      intro b1
      refine putS_some rfl ?_
      refine vc_app (v := .slice 3 0 (cI (heldN m j)).length cp) (u := .slice 30 0 1 1) rfl rfl ?_
      refine app_one intT hl rfl (x := (j : Int)) (.inr ⟨30, 0, 1, _, 1, _, rfl, rfl, Nat.le_refl _, fun i hi => (by obtain rfl : i = 0 := (by simpa using hi); rfl)⟩) rfl (by rw [cI_len]; omega) (fun e' hl' => ?_) (fun e' cp' hl' => ?_)
      · rw [hyI] at hl' ⊢
        have hl5 : live (HG bR bH e0 e1 c0 c1 m e') 3 := lst_live hl'
        exact ⟨m.n - (j + 1), _, _, by omega, ⟨j + 1, e', cp, rfl, by omega, hl', rfl, rfl⟩, tau [], rfl, (by repeat' (first | exact rfl | exact trivial | assumption | refine ⟨?_, ?_⟩)), HG.wk l0 l1 hl'⟩
      · rw [hyI] at hl' ⊢
        have hl5 : live (HG bR bH e0 e1 c0 c1 m e') 3 := lst_live hl'
        exact ⟨m.n - (j + 1), _, _, by omega, ⟨j + 1, e', cp', rfl, by omega, hl', rfl, rfl⟩, tau [(3, 31)], rfl, (by repeat' (first | exact rfl | exact trivial | assumption | refine ⟨?_, ?_⟩)), ⟨rfl, rfl, rfl, fun i c hi hc => (by obtain rfl : i = 0 := (by omega); exact gF_rn ⟨rfl, l0.ro_live⟩ ⟨rfl, l1.ro_live⟩ ⟨rfl, trivial⟩ hc)⟩, l0.ro_wk _ _, l1.ro_wk _ _, ⟨rfl, rfl, rfl, fun i c hi hc => rfl⟩, lst_wk hl' _ _, trivial⟩
    · have q2 : m.H (addI 0 ((j : Int)).toNat) = false := q
      rw [hz] at q2
      have hy := heldN_no q2
      have hl' : lstE e (cI (heldN m (j + 1))) cp := by rw [hy]; exact hl
      have hle : (cI (heldN m j)).length = (cI (heldN m (j + 1))).length := by rw [hy]
      exact ⟨m.n - (j + 1), _, _, by omega, ⟨j + 1, e, cp, rfl, by omega, hl', rfl, rfl⟩, tau [], rfl, (by repeat' (first | exact rfl | exact trivial | assumption | refine ⟨?_, ?_⟩)), HG.wk l0 l1 hl'⟩
  rintro ⟨e, cp⟩ hl
  have hl : lstE e (cI m.held) cp := hl
  rcases hl with ⟨hnil, hcp, he⟩ | ⟨b, g, ty, he, q1, q2, q3, q4⟩
  · have hcp : cp = 0 := hcp
    have he : e = .ro none 0 1 (gl []) := he
    subst hcp he
    have hlen : (cI m.held).length = 0 := by rw [hnil]; rfl
    refine W_tell (σ' := [(3, .nils)]) ⟨by rw [hlen]; exact tell_unnil rfl, trivial⟩ (nx' := 30) ?_
    refine vc_sound hE 60 _ _ _ 30 ?_
    exact .inl ⟨hnil, rfl⟩
  · have he : e = .blk b cp 1 g ty := he
    subst he
    refine vc_sound hE 60 _ _ _ 30 ?_
    exact .inr ⟨3, cp, b, g, ty, rfl, rfl, q1, q2, q3, q4⟩
end Go.Proofs.Ytdjekplkejkgdaa.Sx

/-
  The document's shelf: the last one that isn't held.
-/
namespace Go.Proofs.Ytdjekplkejkgdaa.Sx
open Go Go.Proofs
set_option maxRecDepth 100000
set_option linter.unusedSimpArgs false
set_option linter.unusedVariables false

theorem take_rev {l : List Nat} {j : Nat} (hj : j < l.length) : (l.take (j + 1)).reverse = l[j] :: (l.take j).reverse := by
  rw [List.take_succ_eq_append_getElem hj, List.reverse_append]; rfl
def sRLast : Spec := fun args h nx K => ∃ (p : V) (m : Md) (L : Int), args = [p, .int .i64 L] ∧ refR h p m ∧ Ok m ∧ K (.ret (.tup [.int .i64 (m.lastI L).1, .bool (m.lastI L).2])) h nx
theorem sRLast_ok : SpecOK Try.prog 29 sRLast := by
  refine specOK_read2 (fn := Try.f29) rfl rfl rfl T_ok (SP := []) noSP 0 _ ?_
  rintro args h nx K ⟨p, m, L, rfl, hr, hok, hk⟩
  obtain ⟨bR, bH, e0, e1, c0, c1, l0, l1, told⟩ := told_ref (rest := [.int .i64 L]) hr ⟨trivial, trivial⟩
  refine ⟨_, _, told, by simp [Try.f29], fun o => o = .ret (.tup [.int .i64 (m.lastI L).1, .bool (m.lastI L).2]), ?_, ?_⟩
  · rintro o rfl; exact ⟨⟨trivial, trivial, trivial⟩, hk⟩
  intro cx hcx
  clear hk told hr
  have hwk := HF.wk (bR := bR) (bH := bH) l0 l1
  show W _ _ _ _ 0
  have hE := mkE' (fn := Try.f29) (R := fun o _ _ => o = .ret (.tup [.int .i64 (m.lastI L).1, .bool (m.lastI L).2])) hcx noSP
  refine W_seq (nx := 0) ?_
  refine W_to (nx := 0) [(0, .ptr 2000 0 0), (1, .int .i64 L)] (HF bR bH e0 e1 c0 c1 m) 30 ?_ ?_
  · refine vc_sound hE 20 _ _ _ 30 ?_
    exact ⟨tau [], rfl, (by repeat' (first | exact rfl | exact trivial | assumption | refine ⟨?_, ?_⟩)), hwk⟩
  refine W_seq (nx := 30) ?_
  refine W_piece (nx := 30) (fun σ1 h1 _ => (0 ≤ L ∧ L ≤ 1) ∧ ∃ τ, wk τ σ1 h1 [(0, .ptr 2000 0 0), (1, .int .i64 L)] (HF bR bH e0 e1 c0 c1 m)) ?_ ?_
  · have hno : ¬ (0 ≤ L ∧ L ≤ 1) → m.lastI L = (0, false) := fun q => by
      unfold Md.lastI
      rw [if_neg]
      unfold rightB
      simp; omega
    refine vc_sound hE 30 _ _ _ 30 ?_
    (refine (?_ : br _ _ _); refine br_dec (fun q => ?_) (fun q => ?_))
    · have q1 : L < 0 := q
      rw [hno (by omega)]
      exact outIB rfl rfl
    · have q1 : ¬ L < 0 := q
      (refine (?_ : br _ _ _); refine br_dec (fun q => ?_) (fun q => ?_))
      · have q2 : 1 < L := q
        rw [hno (by omega)]
        exact outIB rfl rfl
      · have q2 : ¬ 1 < L := q
        exact ⟨by omega, tau [], rfl, (by repeat' (first | exact rfl | exact trivial | assumption | refine ⟨?_, ?_⟩)), hwk⟩
  rintro σ1 h1 _ ⟨hL, τ1, hw1⟩
  refine W_weak (nx' := 30) τ1 hw1 ?_
  clear hw1 σ1 h1 τ1
  obtain rfl | rfl : L = 0 ∨ L = 1 := by omega
  · obtain ⟨l, hl⟩ : ∃ l, l = m.L 0 := ⟨_, rfl⟩
    have hlen := hok.len (q := 0) (by omega)
    have hlast : m.lastI 0 = lastN m.H l.reverse := by rw [hl]; rfl
    rw [← hl] at hlen
    have hlt : ∀ i, i ∈ l → i < m.n := fun i hi => hok.lt (q := 0) (by omega) (by rw [← hl]; exact hi)
    have l0' := l0
    rw [← hl] at l0'
    have hcap : l.length ≤ c0 := by have := lst_cap l0'; rwa [cI_len] at this
    refine W_seq (nx := 30) ?_
    refine W_piece (nx := 30) (fun σ1 h1 _ => lastN m.H l.reverse = (0, false) ∧ ∃ τ, wk τ σ1 h1 [] []) ?_ ?_
    · skip
      refine W_seq (nx := 30) ?_
      refine W_to (nx := 30) [(0, .ptr 2000 0 0), (1, .int .i64 0), (6, .int .i64 ((l.length : Int) - 1))] (HF bR bH e0 e1 c0 c1 m) 30 ?_ ?_
      · refine vc_sound hE 60 _ _ _ 30 ?_
        have hw : IntKind.i64.wrap (((m.L 0).length : Int) - 1) = (l.length : Int) - 1 := by rw [← hl]; simp only [IntKind.wrap_i64]; omega
        exact ⟨tau [], rfl, (by repeat' (first | exact rfl | exact trivial | assumption | refine ⟨?_, ?_⟩)), hwk⟩
      refine vc_sound hE 1 _ _ _ 30 ?_
      refine W_loop (fun r σ h => ∃ (j : Nat) (I : Int), r = 0 + j ∧ j ≤ l.length ∧ I = (j : Int) - 1 ∧ lastN m.H l.reverse = lastN m.H (l.take j).reverse ∧ σ = [(0, .ptr 2000 0 0), (1, .int .i64 0), (6, .int .i64 I)] ∧ h = HF bR bH e0 e1 c0 c1 m)
        l.length ⟨l.length, _, by omega, by omega, rfl, by rw [List.take_length], rfl, rfl⟩ (tau []) ⟨rfl, (by repeat' (first | exact rfl | exact trivial | assumption | refine ⟨?_, ?_⟩)), hwk⟩ 30 ?_
      rintro r σ h ⟨j, I, rfl, hj, hI, heq, rfl, rfl⟩
      refine vc_sound hE 1 _ _ _ 30 ?_
      refine W_piece (nx := 30) (fun σ1 h1 _ => 1 ≤ j ∧ ∃ τ, wk τ σ1 h1 [(0, .ptr 2000 0 0), (1, .int .i64 0), (6, .int .i64 I)] (HF bR bH e0 e1 c0 c1 m)) ?_ ?_
      · refine vc_sound hE 60 _ _ _ 30 ?_
        (refine (?_ : br _ _ _); refine br_dec (fun q => ?_) (fun q => ?_))
        · have q1 : 0 ≤ I := q
          exact ⟨by omega, tau [], rfl, (by repeat' (first | exact rfl | exact trivial | assumption | refine ⟨?_, ?_⟩)), hwk⟩
        · have q1 : ¬ 0 ≤ I := q
          obtain rfl : j = 0 := by omega
          exact ⟨heq, tau [], rfl, trivial, trivial⟩
      rintro σ1 h1 _ ⟨hj1, τ1, hw1⟩
      refine W_weak (nx' := 30) τ1 hw1 ?_
      clear hw1 σ1 h1 τ1
      obtain ⟨i, rfl⟩ : ∃ i, j = i + 1 := ⟨j - 1, by omega⟩
      obtain rfl : I = (i : Int) := by omega
      have hil : i < l.length := by omega
      rw [take_rev hil] at heq
      obtain ⟨K, hK⟩ : ∃ K : Int, K = (l[i] : Nat) := ⟨_, rfl⟩
      have hKn := hlt _ (List.getElem_mem hil)
      have hKg : (cI l).getD i 0 = K := by rw [hK]; simp [cI, List.getD_eq_getElem?_getD, hil]
      have hzi : addI 0 ((i : Int)).toNat = i := by rw [Int.toNat_natCast, addI_eq, Nat.zero_add]
      have hzk : addI 0 K.toNat = l[i] := by rw [hK, Int.toNat_natCast, addI_eq, Nat.zero_add]
      obtain ⟨be, g, ty, he, hg⟩ : ∃ be g ty, e0 = .blk be c0 1 g ty ∧ g (addI 0 ((i : Int)).toNat) 0 = .int .i64 K := by
        rcases l0' with ⟨w1, _⟩ | ⟨be, g, ty, he, _, _, hg, _⟩
        · have : l.length = 0 := by rw [← cI_len l, w1]; rfl
          omega
        · refine ⟨be, g, ty, he, ?_⟩
          rw [hzi, hg i (by rw [cI_len]; exact hil), hKg]
      have hxx : lastN m.H (l[i] :: (l.take i).reverse) = if m.H (addI 0 K.toNat) = false then (K, true) else lastN m.H (l.take i).reverse := by rw [hzk, hK]; rfl
      subst he
      have hlm : (m.L 0).length = l.length := by rw [hl]
      refine vc_sound hE 2 _ _ _ 30 ?_
      refine W_seq (nx := 30) ?_
      refine W_to (nx := 30) [(0, .ptr 2000 0 0), (1, .int .i64 0), (6, .int .i64 i), (40, .bool (!(m.H (addI 0 K.toNat))))] (HF bR bH (.blk be c0 1 g ty) e1 c0 c1 m) 30 ?_ ?_
      · refine W_plan (id := 6) hE 30 16 (lineP 0 16 .done) (by rw [hcx]; exact mix) (by kernel_rfl) 30 ?_
        repeat' (first | refine ⟨_, ⟨rfl, rfl⟩, ?_⟩ | fail)
        refine ⟨.ptr 2001 (addI 0 ((i : Int)).toNat) 0, ?_, ?_⟩
        · (refine (?_ : chk _ _); refine chk_ok (show (decide ((0 : Int) ≤ (i : Int)) && decide ((i : Int) < (((m.L 0).length : Nat) : Int))) = true by simp only [Bool.and_eq_true, decide_eq_true_eq]; omega) ?_)
          (refine (?_ : chk _ _); refine chk_ok rfl ?_)
          exact ⟨rfl, rfl⟩
        refine ⟨.int .i64 K, ?_, ?_⟩
        · (refine (?_ : chk _ _); refine chk_ok (Nat.ble_eq_true_of_le (show addI 0 ((i : Int)).toNat * 1 + 0 + 1 ≤ c0 * 1 by rw [hzi]; omega)) ?_)
          (refine (?_ : chk _ _); refine chk_ok rfl ?_)
          refine (?_ : force (g (addI 0 ((i : Int)).toNat) 0) _)
          rw [hg]
          exact ⟨rfl, rfl⟩
        refine ⟨.ptr 2003 (addI 0 K.toNat) 0, ?_, ?_⟩
        · (refine (?_ : chk _ _); refine chk_ok (show (decide ((0 : Int) ≤ K) && decide (K < (m.n : Int))) = true by simp only [Bool.and_eq_true, decide_eq_true_eq]; omega) ?_)
          (refine (?_ : chk _ _); refine chk_ok rfl ?_)
          exact ⟨rfl, rfl⟩
        refine ⟨.bool (m.H (addI 0 K.toNat)), ?_, ?_⟩
        · (refine (?_ : chk _ _); refine chk_ok (Nat.ble_eq_true_of_le (show addI 0 K.toNat * 1 + 0 + 1 ≤ m.n * 1 by rw [hzk]; omega)) ?_)
          exact ⟨rfl, rfl⟩
        repeat' (first | refine ⟨_, ⟨rfl, rfl⟩, ?_⟩ | fail)
        exact ⟨tau [], rfl, (by repeat' (first | exact rfl | exact trivial | assumption | refine ⟨?_, ?_⟩)), hwk⟩
      refine vc_sound hE 60 _ _ _ 30 ?_
      (refine (?_ : br _ _ _); refine br_both (fun q => ?_) (fun q => ?_))
      · have q1 : m.H (addI 0 K.toNat) = false := by simpa using q
        (refine (?_ : chk _ _); refine chk_ok (show (decide ((0 : Int) ≤ (i : Int)) && decide ((i : Int) < (((m.L 0).length : Nat) : Int))) = true by simp only [Bool.and_eq_true, decide_eq_true_eq]; omega) ?_)
        (refine (?_ : chk _ _); refine chk_ok rfl ?_)
        (refine (?_ : chk _ _); refine chk_ok (Nat.ble_eq_true_of_le (show addI 0 ((i : Int)).toNat * 1 + 0 + 1 ≤ c0 * 1 by rw [hzi]; omega)) ?_)
        (refine (?_ : chk _ _); refine chk_ok rfl ?_)
        refine (?_ : force (g (addI 0 ((i : Int)).toNat) 0) _)
        rw [hg]
        show Out.ret (.tup [.int .i64 K, .bool true]) = _
        rw [hlast, heq, hxx, if_pos q1]
      · have q1 : m.H (addI 0 K.toNat) = true := by simpa using q
        rw [hxx, if_neg (by rw [q1]; decide)] at heq
        have hw : IntKind.i64.wrap ((i : Int) - 1) = (i : Int) - 1 := by simp only [IntKind.wrap_i64]; omega
        exact ⟨0 + i, _, _, by omega, ⟨i, _, rfl, by omega, rfl, heq, rfl, rfl⟩, tau [], rfl, (by repeat' (first | exact rfl | exact trivial | assumption | refine ⟨?_, ?_⟩)), hwk⟩
    rintro σ1 h1 _ ⟨hfin, τ1, hw1⟩
    refine W_weak (nx' := 30) τ1 hw1 ?_
    refine vc_sound hE 60 _ _ _ 30 ?_
    show Out.ret (.tup [.int .i64 0, .bool false]) = _
    rw [hlast, hfin]
  · obtain ⟨l, hl⟩ : ∃ l, l = m.L 1 := ⟨_, rfl⟩
    have hlen := hok.len (q := 1) (by omega)
    have hlast : m.lastI 1 = lastN m.H l.reverse := by rw [hl]; rfl
    rw [← hl] at hlen
    have hlt : ∀ i, i ∈ l → i < m.n := fun i hi => hok.lt (q := 1) (by omega) (by rw [← hl]; exact hi)
    have l1' := l1
    rw [← hl] at l1'
    have hcap : l.length ≤ c1 := by have := lst_cap l1'; rwa [cI_len] at this
    refine W_seq (nx := 30) ?_
    refine W_piece (nx := 30) (fun σ1 h1 _ => lastN m.H l.reverse = (0, false) ∧ ∃ τ, wk τ σ1 h1 [] []) ?_ ?_
    · skip
      refine W_seq (nx := 30) ?_
      refine W_to (nx := 30) [(0, .ptr 2000 0 0), (1, .int .i64 1), (6, .int .i64 ((l.length : Int) - 1))] (HF bR bH e0 e1 c0 c1 m) 30 ?_ ?_
      · refine vc_sound hE 60 _ _ _ 30 ?_
        have hw : IntKind.i64.wrap (((m.L 1).length : Int) - 1) = (l.length : Int) - 1 := by rw [← hl]; simp only [IntKind.wrap_i64]; omega
        exact ⟨tau [], rfl, (by repeat' (first | exact rfl | exact trivial | assumption | refine ⟨?_, ?_⟩)), hwk⟩
      refine vc_sound hE 1 _ _ _ 30 ?_
      refine W_loop (fun r σ h => ∃ (j : Nat) (I : Int), r = 0 + j ∧ j ≤ l.length ∧ I = (j : Int) - 1 ∧ lastN m.H l.reverse = lastN m.H (l.take j).reverse ∧ σ = [(0, .ptr 2000 0 0), (1, .int .i64 1), (6, .int .i64 I)] ∧ h = HF bR bH e0 e1 c0 c1 m)
        l.length ⟨l.length, _, by omega, by omega, rfl, by rw [List.take_length], rfl, rfl⟩ (tau []) ⟨rfl, (by repeat' (first | exact rfl | exact trivial | assumption | refine ⟨?_, ?_⟩)), hwk⟩ 30 ?_
      rintro r σ h ⟨j, I, rfl, hj, hI, heq, rfl, rfl⟩
      refine vc_sound hE 1 _ _ _ 30 ?_
      refine W_piece (nx := 30) (fun σ1 h1 _ => 1 ≤ j ∧ ∃ τ, wk τ σ1 h1 [(0, .ptr 2000 0 0), (1, .int .i64 1), (6, .int .i64 I)] (HF bR bH e0 e1 c0 c1 m)) ?_ ?_
      · refine vc_sound hE 60 _ _ _ 30 ?_
        (refine (?_ : br _ _ _); refine br_dec (fun q => ?_) (fun q => ?_))
        · have q1 : 0 ≤ I := q
          exact ⟨by omega, tau [], rfl, (by repeat' (first | exact rfl | exact trivial | assumption | refine ⟨?_, ?_⟩)), hwk⟩
        · have q1 : ¬ 0 ≤ I := q
          obtain rfl : j = 0 := by omega
          exact ⟨heq, tau [], rfl, trivial, trivial⟩
      rintro σ1 h1 _ ⟨hj1, τ1, hw1⟩
      refine W_weak (nx' := 30) τ1 hw1 ?_
      clear hw1 σ1 h1 τ1
      obtain ⟨i, rfl⟩ : ∃ i, j = i + 1 := ⟨j - 1, by omega⟩
      obtain rfl : I = (i : Int) := by omega
      have hil : i < l.length := by omega
      rw [take_rev hil] at heq
      obtain ⟨K, hK⟩ : ∃ K : Int, K = (l[i] : Nat) := ⟨_, rfl⟩
      have hKn := hlt _ (List.getElem_mem hil)
      have hKg : (cI l).getD i 0 = K := by rw [hK]; simp [cI, List.getD_eq_getElem?_getD, hil]
      have hzi : addI 0 ((i : Int)).toNat = i := by rw [Int.toNat_natCast, addI_eq, Nat.zero_add]
      have hzk : addI 0 K.toNat = l[i] := by rw [hK, Int.toNat_natCast, addI_eq, Nat.zero_add]
      obtain ⟨be, g, ty, he, hg⟩ : ∃ be g ty, e1 = .blk be c1 1 g ty ∧ g (addI 0 ((i : Int)).toNat) 0 = .int .i64 K := by
        rcases l1' with ⟨w1, _⟩ | ⟨be, g, ty, he, _, _, hg, _⟩
        · have : l.length = 0 := by rw [← cI_len l, w1]; rfl
          omega
        · refine ⟨be, g, ty, he, ?_⟩
          rw [hzi, hg i (by rw [cI_len]; exact hil), hKg]
      have hxx : lastN m.H (l[i] :: (l.take i).reverse) = if m.H (addI 0 K.toNat) = false then (K, true) else lastN m.H (l.take i).reverse := by rw [hzk, hK]; rfl
      subst he
      have hlm : (m.L 1).length = l.length := by rw [hl]
      refine vc_sound hE 2 _ _ _ 30 ?_
      refine W_seq (nx := 30) ?_
      refine W_to (nx := 30) [(0, .ptr 2000 0 0), (1, .int .i64 1), (6, .int .i64 i), (40, .bool (!(m.H (addI 0 K.toNat))))] (HF bR bH e0 (.blk be c1 1 g ty) c0 c1 m) 30 ?_ ?_
      · refine W_plan (id := 6) hE 30 16 (lineP 0 16 .done) (by rw [hcx]; exact mix) (by kernel_rfl) 30 ?_
        repeat' (first | refine ⟨_, ⟨rfl, rfl⟩, ?_⟩ | fail)
        refine ⟨.ptr 2002 (addI 0 ((i : Int)).toNat) 0, ?_, ?_⟩
        · (refine (?_ : chk _ _); refine chk_ok (show (decide ((0 : Int) ≤ (i : Int)) && decide ((i : Int) < (((m.L 1).length : Nat) : Int))) = true by simp only [Bool.and_eq_true, decide_eq_true_eq]; omega) ?_)
          (refine (?_ : chk _ _); refine chk_ok rfl ?_)
          exact ⟨rfl, rfl⟩
        refine ⟨.int .i64 K, ?_, ?_⟩
        · (refine (?_ : chk _ _); refine chk_ok (Nat.ble_eq_true_of_le (show addI 0 ((i : Int)).toNat * 1 + 0 + 1 ≤ c1 * 1 by rw [hzi]; omega)) ?_)
          (refine (?_ : chk _ _); refine chk_ok rfl ?_)
          refine (?_ : force (g (addI 0 ((i : Int)).toNat) 0) _)
          rw [hg]
          exact ⟨rfl, rfl⟩
        refine ⟨.ptr 2003 (addI 0 K.toNat) 0, ?_, ?_⟩
        · (refine (?_ : chk _ _); refine chk_ok (show (decide ((0 : Int) ≤ K) && decide (K < (m.n : Int))) = true by simp only [Bool.and_eq_true, decide_eq_true_eq]; omega) ?_)
          (refine (?_ : chk _ _); refine chk_ok rfl ?_)
          exact ⟨rfl, rfl⟩
        refine ⟨.bool (m.H (addI 0 K.toNat)), ?_, ?_⟩
        · (refine (?_ : chk _ _); refine chk_ok (Nat.ble_eq_true_of_le (show addI 0 K.toNat * 1 + 0 + 1 ≤ m.n * 1 by rw [hzk]; omega)) ?_)
          exact ⟨rfl, rfl⟩
        repeat' (first | refine ⟨_, ⟨rfl, rfl⟩, ?_⟩ | fail)
        exact ⟨tau [], rfl, (by repeat' (first | exact rfl | exact trivial | assumption | refine ⟨?_, ?_⟩)), hwk⟩
      refine vc_sound hE 60 _ _ _ 30 ?_
      (refine (?_ : br _ _ _); refine br_both (fun q => ?_) (fun q => ?_))
      · have q1 : m.H (addI 0 K.toNat) = false := by simpa using q
        (refine (?_ : chk _ _); refine chk_ok (show (decide ((0 : Int) ≤ (i : Int)) && decide ((i : Int) < (((m.L 1).length : Nat) : Int))) = true by simp only [Bool.and_eq_true, decide_eq_true_eq]; omega) ?_)
        (refine (?_ : chk _ _); refine chk_ok rfl ?_)
        (refine (?_ : chk _ _); refine chk_ok (Nat.ble_eq_true_of_le (show addI 0 ((i : Int)).toNat * 1 + 0 + 1 ≤ c1 * 1 by rw [hzi]; omega)) ?_)
        (refine (?_ : chk _ _); refine chk_ok rfl ?_)
        refine (?_ : force (g (addI 0 ((i : Int)).toNat) 0) _)
        rw [hg]
        show Out.ret (.tup [.int .i64 K, .bool true]) = _
        rw [hlast, heq, hxx, if_pos q1]
      · have q1 : m.H (addI 0 K.toNat) = true := by simpa using q
        rw [hxx, if_neg (by rw [q1]; decide)] at heq
        have hw : IntKind.i64.wrap ((i : Int) - 1) = (i : Int) - 1 := by simp only [IntKind.wrap_i64]; omega
        exact ⟨0 + i, _, _, by omega, ⟨i, _, rfl, by omega, rfl, heq, rfl, rfl⟩, tau [], rfl, (by repeat' (first | exact rfl | exact trivial | assumption | refine ⟨?_, ?_⟩)), hwk⟩
    rintro σ1 h1 _ ⟨hfin, τ1, hw1⟩
    refine W_weak (nx' := 30) τ1 hw1 ?_
    refine vc_sound hE 60 _ _ _ 30 ?_
    show Out.ret (.tup [.int .i64 0, .bool false]) = _
    rw [hlast, hfin]
end Go.Proofs.Ytdjekplkejkgdaa.Sx

/-
  Both shelves tell the same.
-/
namespace Go.Proofs.Ytdjekplkejkgdaa.Sx
open Go Go.Proofs
set_option maxRecDepth 100000
set_option linter.unusedSimpArgs false
set_option linter.unusedVariables false

abbrev HS4 (bS bA : Nat) (s : Sh) (bR bH : Nat) (e0 e1 : Ent) (c0 c1 : Nat) (m : Md) : Hp := [(1, .ro (some ⟨bS, 0, none⟩) 1 8 (gS 2 s.N s.bot s.E)), (2, .ro (some ⟨bA, 0, none⟩) s.N 5 (gA s.u s.d s.l s.lo s.he)), (2000, .ro (some ⟨bR, 0, none⟩) 1 5 (gF m.n m.b 2001 (m.L 0).length c0 2002 (m.L 1).length c1 2003)), (2001, e0.toRo), (2002, e1.toRo), (2003, .ro (some ⟨bH, 0, none⟩) m.n 1 (gb m.H))]
theorem roS {s : Sh} {m : Md} (hi : Inv s m m.n) {h : Hp} {bS bA : Nat} (e1 : fd 1 (roH h) = .ro (some ⟨bS, 0, none⟩) 1 8 (gS 2 s.N s.bot s.E)) (e2 : fd 2 (roH h) = .ro (some ⟨bA, 0, none⟩) s.N 5 (gA s.u s.d s.l s.lo s.he)) : mS h (.ptr 1 0 0) m :=
  ⟨s, hi, 1, 2, bS, bA, _, _, rfl, by decide, e1, e2, fun c hc => rfl, fun i c hi hc => rfl⟩
theorem roR {m : Md} {h : Hp} {bR bH : Nat} {e0 e1 : Ent} {c0 c1 : Nat} (l0 : lstE e0 (cI (m.L 0)) c0) (l1 : lstE e1 (cI (m.L 1)) c1) (eR : fd 2000 (roH h) = .ro (some ⟨bR, 0, none⟩) 1 5 (gF m.n m.b 2001 (m.L 0).length c0 2002 (m.L 1).length c1 2003)) (h0 : fd 2001 (roH h) = e0.toRo.toRo) (h1 : fd 2002 (roH h) = e1.toRo.toRo) (eH : fd 2003 (roH h) = .ro (some ⟨bH, 0, none⟩) m.n 1 (gb m.H)) : refR h (.ptr 2000 0 0) m :=
  ⟨2000, 2001, 2002, 2003, bR, bH, e0, e1, c0, c1, _, _, rfl, rfl, eR, fun c _ => rfl, h0.trans (toRo_toRo _), l0, h1.trans (toRo_toRo _), l1, eH, fun i _ => rfl⟩
theorem HS4.wk {bS bA : Nat} {s : Sh} {bR bH : Nat} {e0 e1 : Ent} {c0 c1 : Nat} {m : Md} (l0 : lstE e0 (cI (m.L 0)) c0) (l1 : lstE e1 (cI (m.L 1)) c1) : wkH (tau []) (HS4 bS bA s bR bH e0 e1 c0 c1 m) (HS4 bS bA s bR bH e0 e1 c0 c1 m) (HS4 bS bA s bR bH e0 e1 c0 c1 m) := by
  have v0 : live (HS4 bS bA s bR bH e0 e1 c0 c1 m) 2001 := l0.ro_live
  have v1 : live (HS4 bS bA s bR bH e0 e1 c0 c1 m) 2002 := l1.ro_live
  exact ⟨⟨rfl, rfl, rfl, fun i c hi hc => (by obtain rfl : i = 0 := (by omega); exact gS_rn ⟨rfl, trivial⟩)⟩, ⟨rfl, rfl, rfl, fun i c hi hc => gA_rn hc⟩, ⟨rfl, rfl, rfl, fun i c hi hc => (by obtain rfl : i = 0 := (by omega); exact gF_rn ⟨rfl, v0⟩ ⟨rfl, v1⟩ ⟨rfl, trivial⟩ hc)⟩, l0.ro_wk _ _, l1.ro_wk _ _, ⟨rfl, rfl, rfl, fun i c hi hc => rfl⟩, trivial⟩
/-- A new row in front. -/
theorem HS4.wk1 {bS bA : Nat} {s : Sh} {bR bH : Nat} {e0 e1 : Ent} {c0 c1 : Nat} {m : Md} (l0 : lstE e0 (cI (m.L 0)) c0) (l1 : lstE e1 (cI (m.L 1)) c1) (e : Ent) : wkH (tau []) ((30, e) :: HS4 bS bA s bR bH e0 e1 c0 c1 m) (HS4 bS bA s bR bH e0 e1 c0 c1 m) (HS4 bS bA s bR bH e0 e1 c0 c1 m) := by
  have v0 : live (HS4 bS bA s bR bH e0 e1 c0 c1 m) 2001 := l0.ro_live
  have v1 : live (HS4 bS bA s bR bH e0 e1 c0 c1 m) 2002 := l1.ro_live
  exact ⟨⟨rfl, rfl, rfl, fun i c hi hc => (by obtain rfl : i = 0 := (by omega); exact gS_rn ⟨rfl, trivial⟩)⟩, ⟨rfl, rfl, rfl, fun i c hi hc => gA_rn hc⟩, ⟨rfl, rfl, rfl, fun i c hi hc => (by obtain rfl : i = 0 := (by omega); exact gF_rn ⟨rfl, v0⟩ ⟨rfl, v1⟩ ⟨rfl, trivial⟩ hc)⟩, l0.ro_wk _ _, l1.ro_wk _ _, ⟨rfl, rfl, rfl, fun i c hi hc => rfl⟩, trivial⟩

def SPE : SpT := [(14, mList), (15, mWhere), (17, mLast), (18, mHeld), (19, mLen), (22, sInts), (29, sRLast), (30, sRWhere), (31, sRHeld)]
theorem spe : ∀ p ∈ SPE, SpecOK Try.prog p.1 p.2 := consSP mList_ok (consSP mWhere_ok (consSP mLast_ok (consSP mHeld_ok (consSP mLen_ok (consSP sInts_ok (consSP sRLast_ok (consSP sRWhere_ok (consSP sRHeld_ok noSP))))))))

set_option maxHeartbeats 4000000 in
theorem same_walk {c : Cx} (hc : c.P = Try.prog) {s : Sh} {m : Md} (hi : Inv s m m.n) {bS bA bR bH : Nat} {e0 e1 : Ent} {c0 c1 : Nat} (l0 : lstE e0 (cI (m.L 0)) c0) (l1 : lstE e1 (cI (m.L 1)) c1) :
    ∃ cd, Try.f13.body = some cd ∧ W ⟨c, Try.f13, T, SPE, fun o _ _ => o = .ret (.bool true)⟩ [.code cd] (argsS [.ptr 1 0 0, .ptr 2000 0 0] 0) (HS4 bS bA s bR bH e0 e1 c0 c1 m) 0 := by
  refine ⟨_, rfl, ?_⟩
  have hE := mkE' (fn := Try.f13) (R := fun o x x_1 => o = .ret (.bool true)) hc spe
  have hok : Ok m := ⟨s, hi⟩
  have hn := hok.n
  have hl0 := hok.len (q := 0) (by omega)
  have hl1 := hok.len (q := 1) (by omega)
  have hwk := HS4.wk (bS := bS) (bA := bA) (s := s) (bR := bR) (bH := bH) l0 l1
  have v0 : live (HS4 bS bA s bR bH e0 e1 c0 c1 m) 2001 := l0.ro_live
  have v1 : live (HS4 bS bA s bR bH e0 e1 c0 c1 m) 2002 := l1.ro_live
  refine W_seq (nx := 0) ?_
  refine W_to (nx := 0) [(0, .ptr 1 0 0), (1, .ptr 2000 0 0)] (HS4 bS bA s bR bH e0 e1 c0 c1 m) 30 ?_ ?_
  · refine vc_sound hE 20 _ _ _ 30 ?_
    exact ⟨tau [], rfl, (by repeat' (first | exact rfl | exact trivial | assumption | refine ⟨?_, ?_⟩)), hwk⟩
  -- the lists
  refine W_seq (nx := 30) ?_
  refine W_to (nx := 30) [(0, .ptr 1 0 0), (1, .ptr 2000 0 0)] (HS4 bS bA s bR bH e0 e1 c0 c1 m) 30 ?_ ?_
  · refine vc_sound hE 8 _ _ _ 30 ?_
    refine W_loop (fun r σ h => ∃ (j : Nat) (L : Int), r = 4 - j ∧ j ≤ 4 ∧ L = (j : Int) - 1 ∧ σ = [(0, .ptr 1 0 0), (1, .ptr 2000 0 0), (5, .int .i64 L)] ∧ h = HS4 bS bA s bR bH e0 e1 c0 c1 m)
      4 ⟨0, _, rfl, by omega, rfl, rfl, rfl⟩ (tau []) ⟨rfl, (by repeat' (first | exact rfl | exact trivial | assumption | refine ⟨?_, ?_⟩)), hwk⟩ 30 ?_
    rintro r σ h ⟨j, L, rfl, hj, hL, rfl, rfl⟩
    refine vc_sound hE 1 _ _ _ 30 ?_
    refine W_piece (nx := 30) (fun σ1 h1 _ => j < 4 ∧ ∃ τ, wk τ σ1 h1 [(0, .ptr 1 0 0), (1, .ptr 2000 0 0), (5, .int .i64 L)] (HS4 bS bA s bR bH e0 e1 c0 c1 m)) ?_ ?_
    · refine vc_sound hE 60 _ _ _ 30 ?_
      (refine (?_ : br _ _ _); refine br_dec (fun q => ?_) (fun q => ?_))
      · have q1 : L < 3 := q
        exact ⟨by omega, tau [], rfl, (by repeat' (first | exact rfl | exact trivial | assumption | refine ⟨?_, ?_⟩)), hwk⟩
      · have q1 : ¬ L < 3 := q
        exact ⟨tau [], rfl, (by repeat' (first | exact rfl | exact trivial | assumption | refine ⟨?_, ?_⟩)), hwk⟩
    rintro σ1 h1 _ ⟨hj4, τ1, hw1⟩
    refine W_weak (nx' := 30) τ1 hw1 ?_
    clear hw1 σ1 h1 τ1
    refine vc_sound hE 2 _ _ _ 30 ?_
    obtain ⟨X, hX⟩ : ∃ X, X = m.lastI L := ⟨_, rfl⟩
    refine W_seq (nx := 30) ?_
    refine W_to (nx := 30) [(0, .ptr 1 0 0), (1, .ptr 2000 0 0), (5, .int .i64 L), (6, .int .i64 X.1), (7, .bool X.2)] (HS4 bS bA s bR bH e0 e1 c0 c1 m) 30 ?_ ?_
    · refine vc_sound hE 60 _ _ _ 30 ?_
      refine ⟨_, m, L, rfl, roS hi rfl rfl, ?_⟩
      rw [← hX]
      exact ⟨tau [], rfl, (by repeat' (first | exact rfl | exact trivial | assumption | refine ⟨?_, ?_⟩)), hwk⟩
    refine W_seq (nx := 30) ?_
    refine W_to (nx := 30) [(0, .ptr 1 0 0), (1, .ptr 2000 0 0), (5, .int .i64 L), (6, .int .i64 X.1), (7, .bool X.2), (8, .int .i64 X.1), (9, .bool X.2)] (HS4 bS bA s bR bH e0 e1 c0 c1 m) 30 ?_ ?_
    · refine vc_sound hE 60 _ _ _ 30 ?_
      refine ⟨_, m, L, rfl, roR l0 l1 rfl rfl rfl rfl, hok, ?_⟩
      rw [← hX]
      exact ⟨tau [], rfl, (by repeat' (first | exact rfl | exact trivial | assumption | refine ⟨?_, ?_⟩)), hwk⟩
    clear hX
    obtain ⟨x1, x2⟩ := X
    have hw : IntKind.i64.wrap (L + 1) = ((j + 1 : Nat) : Int) - 1 := by rw [hL]; simp only [IntKind.wrap_i64]; omega
    obtain rfl | rfl | rfl | rfl : j = 0 ∨ j = 1 ∨ j = 2 ∨ j = 3 := by omega
    · obtain rfl : L = (-1) := by omega
      have hli : m.listI (-1) = [] := rfl
      have hle : m.lenI (-1) = (0 : Int) := rfl
      refine W_seq (nx := 30) ?_
      refine W_to (nx := 30) [(0, .ptr 1 0 0), (1, .ptr 2000 0 0), (5, .int .i64 (-1)), (6, .int .i64 x1), (7, .bool x2), (8, .int .i64 x1), (9, .bool x2), (10, .nils)] (HS4 bS bA s bR bH e0 e1 c0 c1 m) 30 ?_ ?_
      · refine vc_sound hE 60 _ _ _ 30 ?_
        exact ⟨tau [], rfl, (by repeat' (first | exact rfl | exact trivial | assumption | refine ⟨?_, ?_⟩)), hwk⟩
      refine W_seq (nx := 30) ?_
      refine W_to (nx := 30) [(0, .ptr 1 0 0), (1, .ptr 2000 0 0), (5, .int .i64 (-1)), (6, .int .i64 x1), (7, .bool x2), (8, .int .i64 x1), (9, .bool x2), (10, .nils)] (HS4 bS bA s bR bH e0 e1 c0 c1 m) 30 ?_ ?_
      · refine vc_sound hE 60 _ _ _ 30 ?_
        exact ⟨tau [], rfl, (by repeat' (first | exact rfl | exact trivial | assumption | refine ⟨?_, ?_⟩)), hwk⟩
      refine vc_sound hE 100 _ _ _ 30 ?_
      have b1 : (x1 != x1) = false := by simp
      have b2 : (x2 != x2) = false := by simp
      (refine (?_ : br _ _ _); refine br_f b1 ?_)
      (refine (?_ : br _ _ _); refine br_f b2 ?_)
      refine ⟨_, m, (-1), rfl, roS hi rfl rfl, rfl, fun e3 c3 k3 => ?_⟩
      rw [hli] at k3 ⊢
      refine ⟨_, _, cI ([]), cI ([]), rfl, k3.rd rfl, rdL_nil, by rw [cI_len]; decide, by rw [cI_len]; decide, ?_⟩
      rw [decide_eq_true rfl]
      refine ⟨_, m, (-1), rfl, roS hi rfl rfl, ?_⟩
      rw [hle]
      exact ⟨4 - (0 + 1), _, _, by omega, ⟨0 + 1, _, rfl, by omega, rfl, rfl, rfl⟩, tau [], rfl, (by repeat' (first | exact rfl | exact trivial | assumption | refine ⟨?_, ?_⟩)), HS4.wk1 l0 l1 e3⟩
    · obtain rfl : L = 0 := by omega
      have hli : m.listI 0 = m.L 0 := rfl
      have hle : m.lenI 0 = ((m.L 0).length : Int) := rfl
      refine W_seq (nx := 30) ?_
      refine W_to (nx := 30) [(0, .ptr 1 0 0), (1, .ptr 2000 0 0), (5, .int .i64 0), (6, .int .i64 x1), (7, .bool x2), (8, .int .i64 x1), (9, .bool x2), (10, .nils)] (HS4 bS bA s bR bH e0 e1 c0 c1 m) 30 ?_ ?_
      · refine vc_sound hE 60 _ _ _ 30 ?_
        exact ⟨tau [], rfl, (by repeat' (first | exact rfl | exact trivial | assumption | refine ⟨?_, ?_⟩)), hwk⟩
      refine W_seq (nx := 30) ?_
      refine W_to (nx := 30) [(0, .ptr 1 0 0), (1, .ptr 2000 0 0), (5, .int .i64 0), (6, .int .i64 x1), (7, .bool x2), (8, .int .i64 x1), (9, .bool x2), (10, .slice 2001 0 (m.L 0).length c0)] (HS4 bS bA s bR bH e0 e1 c0 c1 m) 30 ?_ ?_
      · refine vc_sound hE 60 _ _ _ 30 ?_
        exact ⟨tau [], rfl, (by repeat' (first | exact rfl | exact trivial | assumption | refine ⟨?_, ?_⟩)), hwk⟩
      refine vc_sound hE 100 _ _ _ 30 ?_
      have b1 : (x1 != x1) = false := by simp
      have b2 : (x2 != x2) = false := by simp
      (refine (?_ : br _ _ _); refine br_f b1 ?_)
      (refine (?_ : br _ _ _); refine br_f b2 ?_)
      refine ⟨_, m, 0, rfl, roS hi rfl rfl, rfl, fun e3 c3 k3 => ?_⟩
      rw [hli] at k3 ⊢
      refine ⟨_, _, cI (m.L 0), cI (m.L 0), rfl, k3.rd rfl, (show rdL _ (.slice 2001 0 (m.L 0).length c0) _ by rw [← cI_len]; exact l0.rd2 rfl), by rw [cI_len]; omega, by rw [cI_len]; omega, ?_⟩
      rw [decide_eq_true rfl]
      refine ⟨_, m, 0, rfl, roS hi rfl rfl, ?_⟩
      rw [hle]
      refine (?_ : br _ _ _)
      refine br_f (by simp) ?_
      exact ⟨4 - (1 + 1), _, _, by omega, ⟨1 + 1, _, rfl, by omega, rfl, rfl, rfl⟩, tau [], rfl, (by repeat' (first | exact rfl | exact trivial | assumption | refine ⟨?_, ?_⟩)), HS4.wk1 l0 l1 e3⟩
    · obtain rfl : L = 1 := by omega
      have hli : m.listI 1 = m.L 1 := rfl
      have hle : m.lenI 1 = ((m.L 1).length : Int) := rfl
      refine W_seq (nx := 30) ?_
      refine W_to (nx := 30) [(0, .ptr 1 0 0), (1, .ptr 2000 0 0), (5, .int .i64 1), (6, .int .i64 x1), (7, .bool x2), (8, .int .i64 x1), (9, .bool x2), (10, .nils)] (HS4 bS bA s bR bH e0 e1 c0 c1 m) 30 ?_ ?_
      · refine vc_sound hE 60 _ _ _ 30 ?_
        exact ⟨tau [], rfl, (by repeat' (first | exact rfl | exact trivial | assumption | refine ⟨?_, ?_⟩)), hwk⟩
      refine W_seq (nx := 30) ?_
      refine W_to (nx := 30) [(0, .ptr 1 0 0), (1, .ptr 2000 0 0), (5, .int .i64 1), (6, .int .i64 x1), (7, .bool x2), (8, .int .i64 x1), (9, .bool x2), (10, .slice 2002 0 (m.L 1).length c1)] (HS4 bS bA s bR bH e0 e1 c0 c1 m) 30 ?_ ?_
      · refine vc_sound hE 60 _ _ _ 30 ?_
        exact ⟨tau [], rfl, (by repeat' (first | exact rfl | exact trivial | assumption | refine ⟨?_, ?_⟩)), hwk⟩
      refine vc_sound hE 100 _ _ _ 30 ?_
      have b1 : (x1 != x1) = false := by simp
      have b2 : (x2 != x2) = false := by simp
      (refine (?_ : br _ _ _); refine br_f b1 ?_)
      (refine (?_ : br _ _ _); refine br_f b2 ?_)
      refine ⟨_, m, 1, rfl, roS hi rfl rfl, rfl, fun e3 c3 k3 => ?_⟩
      rw [hli] at k3 ⊢
      refine ⟨_, _, cI (m.L 1), cI (m.L 1), rfl, k3.rd rfl, (show rdL _ (.slice 2002 0 (m.L 1).length c1) _ by rw [← cI_len]; exact l1.rd2 rfl), by rw [cI_len]; omega, by rw [cI_len]; omega, ?_⟩
      rw [decide_eq_true rfl]
      refine ⟨_, m, 1, rfl, roS hi rfl rfl, ?_⟩
      rw [hle]
      refine (?_ : br _ _ _)
      refine br_f (by simp) ?_
      exact ⟨4 - (2 + 1), _, _, by omega, ⟨2 + 1, _, rfl, by omega, rfl, rfl, rfl⟩, tau [], rfl, (by repeat' (first | exact rfl | exact trivial | assumption | refine ⟨?_, ?_⟩)), HS4.wk1 l0 l1 e3⟩
    · obtain rfl : L = 2 := by omega
      have hli : m.listI 2 = [] := rfl
      have hle : m.lenI 2 = (0 : Int) := rfl
      refine W_seq (nx := 30) ?_
      refine W_to (nx := 30) [(0, .ptr 1 0 0), (1, .ptr 2000 0 0), (5, .int .i64 2), (6, .int .i64 x1), (7, .bool x2), (8, .int .i64 x1), (9, .bool x2), (10, .nils)] (HS4 bS bA s bR bH e0 e1 c0 c1 m) 30 ?_ ?_
      · refine vc_sound hE 60 _ _ _ 30 ?_
        exact ⟨tau [], rfl, (by repeat' (first | exact rfl | exact trivial | assumption | refine ⟨?_, ?_⟩)), hwk⟩
      refine W_seq (nx := 30) ?_
      refine W_to (nx := 30) [(0, .ptr 1 0 0), (1, .ptr 2000 0 0), (5, .int .i64 2), (6, .int .i64 x1), (7, .bool x2), (8, .int .i64 x1), (9, .bool x2), (10, .nils)] (HS4 bS bA s bR bH e0 e1 c0 c1 m) 30 ?_ ?_
      · refine vc_sound hE 60 _ _ _ 30 ?_
        exact ⟨tau [], rfl, (by repeat' (first | exact rfl | exact trivial | assumption | refine ⟨?_, ?_⟩)), hwk⟩
      refine vc_sound hE 100 _ _ _ 30 ?_
      have b1 : (x1 != x1) = false := by simp
      have b2 : (x2 != x2) = false := by simp
      (refine (?_ : br _ _ _); refine br_f b1 ?_)
      (refine (?_ : br _ _ _); refine br_f b2 ?_)
      refine ⟨_, m, 2, rfl, roS hi rfl rfl, rfl, fun e3 c3 k3 => ?_⟩
      rw [hli] at k3 ⊢
      refine ⟨_, _, cI ([]), cI ([]), rfl, k3.rd rfl, rdL_nil, by rw [cI_len]; decide, by rw [cI_len]; decide, ?_⟩
      rw [decide_eq_true rfl]
      refine ⟨_, m, 2, rfl, roS hi rfl rfl, ?_⟩
      rw [hle]
      exact ⟨4 - (3 + 1), _, _, by omega, ⟨3 + 1, _, rfl, by omega, rfl, rfl, rfl⟩, tau [], rfl, (by repeat' (first | exact rfl | exact trivial | assumption | refine ⟨?_, ?_⟩)), HS4.wk1 l0 l1 e3⟩
  -- each node
  refine W_seq (nx := 30) ?_
  refine W_to (nx := 30) [(0, .ptr 1 0 0), (1, .ptr 2000 0 0)] (HS4 bS bA s bR bH e0 e1 c0 c1 m) 30 ?_ ?_
  · refine vc_sound hE 8 _ _ _ 30 ?_
    refine W_loop (fun r σ h => ∃ (j : Nat) (I : Int), r = m.n + 2 - j ∧ j ≤ m.n + 2 ∧ I = (j : Int) - 1 ∧ σ = [(0, .ptr 1 0 0), (1, .ptr 2000 0 0), (11, .int .i64 I)] ∧ h = HS4 bS bA s bR bH e0 e1 c0 c1 m)
      (m.n + 2) ⟨0, _, rfl, by omega, rfl, rfl, rfl⟩ (tau []) ⟨rfl, (by repeat' (first | exact rfl | exact trivial | assumption | refine ⟨?_, ?_⟩)), hwk⟩ 30 ?_
    rintro r σ h ⟨j, I, rfl, hj, hI, rfl, rfl⟩
    refine vc_sound hE 1 _ _ _ 30 ?_
    refine W_piece (nx := 30) (fun σ1 h1 _ => j < m.n + 2 ∧ ∃ τ, wk τ σ1 h1 [(0, .ptr 1 0 0), (1, .ptr 2000 0 0), (11, .int .i64 I)] (HS4 bS bA s bR bH e0 e1 c0 c1 m)) ?_ ?_
    · refine vc_sound hE 60 _ _ _ 30 ?_
      (refine (?_ : br _ _ _); refine br_dec (fun q => ?_) (fun q => ?_))
      · have q1 : I ≤ (m.n : Int) := q
        exact ⟨by omega, tau [], rfl, (by repeat' (first | exact rfl | exact trivial | assumption | refine ⟨?_, ?_⟩)), hwk⟩
      · have q1 : ¬ I ≤ (m.n : Int) := q
        exact ⟨tau [], rfl, (by repeat' (first | exact rfl | exact trivial | assumption | refine ⟨?_, ?_⟩)), hwk⟩
    rintro σ1 h1 _ ⟨hj4, τ1, hw1⟩
    refine W_weak (nx' := 30) τ1 hw1 ?_
    clear hw1 σ1 h1 τ1
    refine vc_sound hE 2 _ _ _ 30 ?_
    obtain ⟨X, hX⟩ : ∃ X, X = m.whI I := ⟨_, rfl⟩
    refine W_seq (nx := 30) ?_
    refine W_to (nx := 30) [(0, .ptr 1 0 0), (1, .ptr 2000 0 0), (11, .int .i64 I), (12, .int .i64 X.1), (13, .bool X.2.1), (14, .bool X.2.2)] (HS4 bS bA s bR bH e0 e1 c0 c1 m) 30 ?_ ?_
    · refine vc_sound hE 60 _ _ _ 30 ?_
      refine ⟨_, m, I, rfl, roS hi rfl rfl, ?_⟩
      rw [← hX]
      exact ⟨tau [], rfl, (by repeat' (first | exact rfl | exact trivial | assumption | refine ⟨?_, ?_⟩)), hwk⟩
    refine W_seq (nx := 30) ?_
    refine W_to (nx := 30) [(0, .ptr 1 0 0), (1, .ptr 2000 0 0), (11, .int .i64 I), (12, .int .i64 X.1), (13, .bool X.2.1), (14, .bool X.2.2), (15, .int .i64 X.1), (16, .bool X.2.1), (17, .bool X.2.2)] (HS4 bS bA s bR bH e0 e1 c0 c1 m) 30 ?_ ?_
    · refine vc_sound hE 60 _ _ _ 30 ?_
      refine ⟨_, m, I, rfl, roR l0 l1 rfl rfl rfl rfl, hok, ?_⟩
      rw [← hX]
      exact ⟨tau [], rfl, (by repeat' (first | exact rfl | exact trivial | assumption | refine ⟨?_, ?_⟩)), hwk⟩
    clear hX
    obtain ⟨x1, x2, x3⟩ := X
    have hw : IntKind.i64.wrap (I + 1) = ((j + 1 : Nat) : Int) - 1 := by rw [hI]; simp only [IntKind.wrap_i64]; omega
    refine vc_sound hE 60 _ _ _ 30 ?_
    have b1 : (x1 != x1) = false := by simp
    have b2 : (x2 != x2) = false := by simp
    have b3 : (x3 != x3) = false := by simp
    (refine (?_ : br _ _ _); refine br_f b1 ?_)
    (refine (?_ : br _ _ _); refine br_f b2 ?_)
    (refine (?_ : br _ _ _); refine br_f b3 ?_)
    exact ⟨m.n + 2 - (j + 1), _, _, by omega, ⟨j + 1, _, rfl, by omega, rfl, rfl, rfl⟩, tau [], rfl, (by repeat' (first | exact rfl | exact trivial | assumption | refine ⟨?_, ?_⟩)), hwk⟩
  -- all that are held
  refine vc_sound hE 60 _ _ _ 30 ?_
  have hhl : (cI m.held).length ≤ 64 := by rw [cI_len]; unfold Md.held; have h := List.length_filter_le (fun i => m.H i) (List.range m.n); rw [List.length_range] at h; omega
  refine ⟨_, m, rfl, roS hi rfl rfl, rfl, fun e3 c3 k3 => ?_⟩
  refine ⟨_, m, rfl, roR l0 l1 rfl rfl rfl rfl, hok, rfl, fun e4 c4 k4 => ?_⟩
  refine ⟨_, _, cI m.held, cI m.held, rfl, k3.rd rfl, k4.rd rfl, by omega, by omega, ?_⟩
  rw [decide_eq_true rfl]
  rfl
end Go.Proofs.Ytdjekplkejkgdaa.Sx

/-
  The walks of this seat's laws: RingPlays.
-/
namespace Go.Proofs.Ytdjekplkejkgdaa.Sx
open Go Go.Proofs
set_option maxRecDepth 100000
set_option linter.unusedSimpArgs false
set_option linter.unusedVariables false

def sSame : Spec := fun args h nx K => ∃ (s : Sh) (m : Md) (tS tA bS bA : Nat) (gs ga : Nat → Nat → V) (tR t0 t1 tH bR bH : Nat) (e0 e1 : Ent) (c0 c1 : Nat) (g gh : Nat → Nat → V),
  args = [.ptr tS 0 0, .ptr tR 0 0] ∧ Inv s m m.n ∧ fd tS h = .blk bS 1 8 gs 61 ∧ fd tA h = .blk bA s.N 5 ga 63 ∧ cells tA s gs ga ∧ RefA h (.ptr tR 0 0) m tR t0 t1 tH bR bH e0 e1 c0 c1 g gh ∧ nodupB [tS, tA, tR, t0, t1, tH] = true ∧ K (.ret (.bool true)) h nx
theorem sSame_ok : SpecOK Try.prog 13 sSame := by
  refine specOK_read2 (fn := Try.f13) rfl rfl rfl T_ok (SP := SPE) spe 0 _ ?_
  rintro args h nx K ⟨s, m, tS, tA, bS, bA, gs, ga, tR, t0, t1, tH, bR, bH, e0, e1, c0, c1, g, gh, rfl, hi, eS', eA', ⟨hc1, hc2⟩, hA, hnd, hk⟩
  have l0 := hA.l0
  have l1 := hA.l1
  refine ⟨HS4 bS bA s bR bH e0 e1 c0 c1 m, [.ptr 1 0 0, .ptr 2000 0 0], told_wk (tau [(1, tS), (2, tA), (2000, tR), (2001, t0), (2002, t1), (2003, tH)]) hnd ?_ ⟨⟨⟨rfl, trivial⟩, rfl, rfl⟩, ⟨⟨rfl, trivial⟩, rfl, rfl⟩, trivial⟩, by simp [Try.f13], fun o => o = .ret (.bool true), ?_, ?_⟩
  · refine ⟨?_, ?_, ?_, ?_, ?_, ?_, trivial⟩
    · show wkE _ _ (fd tS (roH h)) _
      rw [fd_roH, eS']
      refine ⟨rfl, rfl, rfl, fun i c hi hc => ?_⟩
      obtain rfl : i = 0 := by omega
      rw [hc1 c hc]
      exact gS_rn ⟨rfl, trivial⟩
    · show wkE _ _ (fd tA (roH h)) _
      rw [fd_roH, eA']
      refine ⟨rfl, rfl, rfl, fun i c hi hc => ?_⟩
      rw [hc2 i c hi hc]
      exact gA_rn hc
    · show wkE _ _ (fd tR (roH h)) _
      rw [fd_roH, hA.R]
      refine ⟨rfl, rfl, rfl, fun i c hi hc => ?_⟩
      obtain rfl : i = 0 := by omega
      rw [hA.g c hc]
      exact gF_rn ⟨rfl, l0.ro_live⟩ ⟨rfl, l1.ro_live⟩ ⟨rfl, trivial⟩ hc
    · show wkE _ _ (fd t0 (roH h)) _
      rw [fd_roH, orRo hA.r0]
      exact l0.ro_wk _ _
    · show wkE _ _ (fd t1 (roH h)) _
      rw [fd_roH, orRo hA.r1]
      exact l1.ro_wk _ _
    · show wkE _ _ (fd tH (roH h)) _
      rw [fd_roH, hA.H]
      refine ⟨rfl, rfl, rfl, fun i c hi hc => ?_⟩
      obtain rfl : c = 0 := by omega
      rw [hA.gh i hi]
      exact rfl
  · rintro o rfl; exact ⟨trivial, hk⟩
  · intro c hc
    obtain ⟨cd, h1, h2⟩ := same_walk hc hi (bS := bS) (bA := bA) (bR := bR) (bH := bH) l0 l1
    cases h1
    exact h2

def SP3 : SpT := [(8, sAwake), (9, mNew), (10, sMay), (11, sRNew), (12, sStep), (13, sSame)]
theorem sp3s : ∀ p ∈ SP3, SpecOK Try.prog p.1 p.2 := consSP sAwake_ok (consSP mNew_ok (consSP sMay_ok (consSP sRNew_ok (consSP sStep_ok (consSP sSame_ok noSP)))))
abbrev H3 (bS bA : Nat) (s : Sh) (b : Option Addr) (len : Nat) (z : Nat → Nat → Int) (p : Nat → Nat → Bool) (bR bH : Nat) (e0 e1 : Ent) (c0 c1 : Nat) (m : Md) : Hp := [(1, eS bS s), (2, eA bA s), (2000, .ro b len 3 (gMix ckA z p)), (4, .blk bR 1 5 (gF m.n m.b 5 (m.L 0).length c0 6 (m.L 1).length c1 7) 66), (5, e0), (6, e1), (7, .blk bH m.n 1 (gb m.H) 4)]
set_option maxHeartbeats 4000000 in
theorem law3_walk {c : Cx} (hc : c.P = Try.prog) {a a2 : Int} {b : Option Addr} {len cap : Nat} {z : Nat → Nat → Int} {p : Nat → Nat → Bool} (hlen : len ≤ 9223372036854775807) :
    ∃ cd, Try.f3.body = some cd ∧ W ⟨c, Try.f3, T, SP3, fun o _ _ => o = .ret (.bool true)⟩ [.code cd] (argsS [.int .i64 a, .int .i64 a2, .slice 2000 0 len cap] 0) [(2000, .ro b len 3 (gMix ckA z p))] 0 := by
  refine ⟨_, rfl, ?_⟩
  have hE := mkE' (fn := Try.f3) (R := fun o x x_1 => o = .ret (.bool true)) hc sp3s
  have ew : ∀ {τ : Nat → Nat} {h' : Hp}, wkE τ h' (.ro b len 3 (gMix ckA z p)) (.ro b len 3 (gMix ckA z p)) := ⟨rfl, rfl, rfl, fun i c hi hc => ⟨rfl, rfl⟩⟩
  refine W_seq (nx := 0) ?_
  refine W_to (nx := 0) [(0, .int .i64 a), (1, .int .i64 a2), (2, .slice 2000 0 len cap)] [(2000, .ro b len 3 (gMix ckA z p))] 30 ?_ ?_
  · refine vc_sound hE 20 _ _ _ 30 ?_
    exact ⟨tau [], rfl, (by repeat' (first | exact rfl | exact trivial | assumption | refine ⟨?_, ?_⟩)), ew, trivial⟩
  refine W_seq (nx := 30) ?_
  refine W_to (nx := 30) [(0, .int .i64 a), (1, .int .i64 a2), (2, .slice 2000 0 len cap)] [(2000, .ro b len 3 (gMix ckA z p))] 30 ?_ ?_
  · refine vc_sound hE 20 _ _ _ 30 ?_
    refine ⟨rfl, ?_⟩
    exact ⟨tau [], rfl, (by repeat' (first | exact rfl | exact trivial | assumption | refine ⟨?_, ?_⟩)), ew, trivial⟩
  cases hmay : mayB a a2 with
  | false =>
    refine W_seq (nx := 30) ?_
    refine W_to (nx := 30) [(0, .int .i64 a), (1, .int .i64 a2), (7, .nilp), (8, .int .i64 1)] [] 30 ?_ ?_
    · refine vc_sound hE 40 _ _ _ 30 ?_
      refine ⟨a, a2, rfl, rfl, rfl, fun _ => ?_, fun e => (by rw [hmay] at e; cases e)⟩
      exact ⟨tau [], rfl, (by repeat' (first | exact rfl | exact trivial | assumption | refine ⟨?_, ?_⟩)), trivial⟩
    refine vc_sound hE 60 _ _ _ 30 ?_
    refine ⟨a, a2, rfl, ?_⟩
    rw [hmay]
    rfl
  | true =>
  obtain ⟨n, sz, rfl, rfl, hn1, hn2, hs1, hs2⟩ : ∃ n sz : Nat, a = (n : Int) ∧ a2 = (sz : Int) ∧ 1 ≤ n ∧ n ≤ 64 ∧ 1 ≤ sz ∧ sz ≤ n := by
    unfold mayB at hmay
    simp only [Bool.and_eq_true, decide_eq_true_eq] at hmay
    exact ⟨a.toNat, a2.toNat, by omega, by omega, by omega, by omega, by omega, by omega⟩
  refine W_seq (nx := 30) ?_
  refine W_ex (nx := 30) (fun (a : Nat × Nat × Sh) => Inv a.2.2 (Md.new n sz) n) (fun a => [(0, .int .i64 n), (1, .int .i64 sz), (2, .slice 2000 0 len cap), (7, .ptr 1 0 0), (8, .int .i64 0)]) (fun a => H7 a.1 a.2.1 a.2.2 b len z p) 30 ?_ ?_
  · refine vc_sound hE 40 _ _ _ 30 ?_
    refine ⟨n, sz, rfl, rfl, rfl, fun e => (by rw [hmay] at e; cases e), fun _ bS bA s hN hi => ?_⟩
    exact ⟨(bS, bA, s), hi, tau [(1, 30), (2, 31)], rfl, (by repeat' (first | exact rfl | exact trivial | assumption | refine ⟨?_, ?_⟩)), ⟨eS_wk ⟨rfl, trivial⟩, eA_wk rfl, ew, trivial⟩⟩
  rintro ⟨bS, bA, s⟩ hi
  refine W_seq (nx := 30) ?_
  refine W_to (nx := 30) [(0, .int .i64 n), (1, .int .i64 sz), (2, .slice 2000 0 len cap), (7, .ptr 1 0 0), (8, .int .i64 0)] (H7 bS bA s b len z p) 30 ?_ ?_
  · refine vc_sound hE 40 _ _ _ 30 ?_
    refine ⟨n, sz, rfl, ?_⟩
    rw [hmay]
    exact ⟨tau [], rfl, (by repeat' (first | exact rfl | exact trivial | assumption | refine ⟨?_, ?_⟩)), eS_wk ⟨rfl, trivial⟩, eA_wk rfl, ew, trivial⟩
  refine W_seq (nx := 30) ?_
  refine W_to (nx := 30) [(0, .int .i64 n), (1, .int .i64 sz), (2, .slice 2000 0 len cap), (7, .ptr 1 0 0)] (H7 bS bA s b len z p) 30 ?_ ?_
  · refine vc_sound hE 40 _ _ _ 30 ?_
    exact ⟨tau [], rfl, (by repeat' (first | exact rfl | exact trivial | assumption | refine ⟨?_, ?_⟩)), eS_wk ⟨rfl, trivial⟩, eA_wk rfl, ew, trivial⟩
  refine W_seq (nx := 30) ?_
  refine W_ex (nx := 30) (fun (a : Nat × Nat) => True) (fun a => [(2, .slice 2000 0 len cap), (7, .ptr 1 0 0), (9, .ptr 4 0 0)]) (fun a => H3 bS bA s b len z p a.1 a.2 (.ro none 0 1 (gl [])) (.ro none 0 1 (gl [])) 0 0 (Md.new n sz)) 30 ?_ ?_
  · refine vc_sound hE 40 _ _ _ 30 ?_
    refine ⟨n, sz, rfl, by omega, rfl, rfl, rfl, rfl, fun bR bH => ?_⟩
    exact ⟨(bR, bH), trivial, tau [(4, 30), (5, 31), (6, 32), (7, 33)], rfl, (by repeat' (first | exact rfl | exact trivial | assumption | refine ⟨?_, ?_⟩)), eS_wk ⟨rfl, trivial⟩, eA_wk rfl, ew, ⟨rfl, rfl, rfl, rfl, fun i c hi hc => (by obtain rfl : i = 0 := (by omega); exact gF_rn ⟨rfl, trivial⟩ ⟨rfl, trivial⟩ ⟨rfl, trivial⟩ hc)⟩, ⟨rfl, rfl, rfl, fun i c hi => by omega⟩, ⟨rfl, rfl, rfl, fun i c hi => by omega⟩, ⟨rfl, rfl, rfl, rfl, fun i c hi hc => rfl⟩, trivial⟩
  rintro ⟨bR, bH⟩ -
  have hok0 : Ok (Md.new n sz) := Ok.new hmay
  -- the script
  refine W_seq (nx := 30) ?_
  refine W_ex (nx := 30) (fun (a : Sh × Md × Ent × Ent × Nat × Nat) => Inv a.1 a.2.1 a.2.1.n ∧ lstE a.2.2.1 (cI (a.2.1.L 0)) a.2.2.2.2.1 ∧ lstE a.2.2.2.1 (cI (a.2.1.L 1)) a.2.2.2.2.2) (fun _ => [(2, .slice 2000 0 len cap), (7, .ptr 1 0 0), (9, .ptr 4 0 0)]) (fun a => H3 bS bA a.1 b len z p bR bH a.2.2.1 a.2.2.2.1 a.2.2.2.2.1 a.2.2.2.2.2 a.2.1) 30 ?_ ?_
  · refine vc_sound hE 8 _ _ _ 30 ?_
    refine W_loop (fun r σ h => ∃ (j : Nat) (s : Sh) (m : Md) (e0 e1 : Ent) (c0 c1 : Nat), r = len - j ∧ j ≤ len ∧ Inv s m m.n ∧ lstE e0 (cI (m.L 0)) c0 ∧ lstE e1 (cI (m.L 1)) c1 ∧ σ = [(2, .slice 2000 0 len cap), (7, .ptr 1 0 0), (9, .ptr 4 0 0), (10, .int .i64 j)] ∧ h = H3 bS bA s b len z p bR bH e0 e1 c0 c1 m)
      len ⟨0, s, Md.new n sz, _, _, 0, 0, rfl, by omega, hi, .inl ⟨rfl, rfl, rfl⟩, .inl ⟨rfl, rfl, rfl⟩, rfl, rfl⟩ (tau []) ⟨rfl, (by repeat' (first | exact rfl | exact trivial | assumption | refine ⟨?_, ?_⟩)), eS_wk ⟨rfl, trivial⟩, eA_wk rfl, ew, ⟨rfl, rfl, rfl, rfl, fun i c hi hc => (by obtain rfl : i = 0 := (by omega); exact gF_rn ⟨rfl, trivial⟩ ⟨rfl, trivial⟩ ⟨rfl, trivial⟩ hc)⟩, ⟨rfl, rfl, rfl, fun i c hi => by omega⟩, ⟨rfl, rfl, rfl, fun i c hi => by omega⟩, ⟨rfl, rfl, rfl, rfl, fun i c hi hc => rfl⟩, trivial⟩ 30 ?_
    clear hi s
    rintro r σ h ⟨j, s, m, e0, e1, c0, c1, rfl, hj, hi, l0, l1, rfl, rfl⟩
    have hok : Ok m := ⟨s, hi⟩
    have v0 : live (H3 bS bA s b len z p bR bH e0 e1 c0 c1 m) 5 := lst_live l0
    have v1 : live (H3 bS bA s b len z p bR bH e0 e1 c0 c1 m) 6 := lst_live l1
    have hwk : wkH (tau []) (H3 bS bA s b len z p bR bH e0 e1 c0 c1 m) (H3 bS bA s b len z p bR bH e0 e1 c0 c1 m) (H3 bS bA s b len z p bR bH e0 e1 c0 c1 m) :=
      ⟨eS_wk ⟨rfl, trivial⟩, eA_wk rfl, ew, ⟨rfl, rfl, rfl, rfl, fun i c hi hc => (by obtain rfl : i = 0 := (by omega); exact gF_rn ⟨rfl, v0⟩ ⟨rfl, v1⟩ ⟨rfl, trivial⟩ hc)⟩, lst_wk l0 _ _, lst_wk l1 _ _, ⟨rfl, rfl, rfl, rfl, fun i c hi hc => rfl⟩, trivial⟩
    refine vc_sound hE 1 _ _ _ 30 ?_
    refine W_piece (nx := 30) (fun σ1 h1 _ => j < len ∧ ∃ τ, wk τ σ1 h1 [(2, .slice 2000 0 len cap), (7, .ptr 1 0 0), (9, .ptr 4 0 0), (10, .int .i64 j)] (H3 bS bA s b len z p bR bH e0 e1 c0 c1 m)) ?_ ?_
    · refine vc_sound hE 60 _ _ _ 30 ?_
      have fin : ∀ σ1 h1, (wk (tau []) σ1 h1 [(2, .slice 2000 0 len cap), (7, .ptr 1 0 0), (9, .ptr 4 0 0)] (H3 bS bA s b len z p bR bH e0 e1 c0 c1 m)) → ∃ a : Sh × Md × Ent × Ent × Nat × Nat, (Inv a.1 a.2.1 a.2.1.n ∧ lstE a.2.2.1 (cI (a.2.1.L 0)) a.2.2.2.2.1 ∧ lstE a.2.2.2.1 (cI (a.2.1.L 1)) a.2.2.2.2.2) ∧ ∃ τ, wk τ σ1 h1 [(2, .slice 2000 0 len cap), (7, .ptr 1 0 0), (9, .ptr 4 0 0)] (H3 bS bA a.1 b len z p bR bH a.2.2.1 a.2.2.2.1 a.2.2.2.2.1 a.2.2.2.2.2 a.2.1) := fun σ1 h1 hw => ⟨(s, m, e0, e1, c0, c1), ⟨hi, l0, l1⟩, _, hw⟩
      (refine (?_ : br _ _ _); refine br_dec (fun q => ?_) (fun q => ?_))
      · have q : (j : Int) < len := q
        (refine (?_ : br _ _ _); refine br_dec (fun q => ?_) (fun q => ?_))
        · exact ⟨by omega, tau [], rfl, (by repeat' (first | exact rfl | exact trivial | assumption | refine ⟨?_, ?_⟩)), hwk⟩
        · exact fin _ _ ⟨rfl, (by repeat' (first | exact rfl | exact trivial | assumption | refine ⟨?_, ?_⟩)), hwk⟩
      · exact fin _ _ ⟨rfl, (by repeat' (first | exact rfl | exact trivial | assumption | refine ⟨?_, ?_⟩)), hwk⟩
    rintro σ1 h1 _ ⟨hjl, τ1, hw1⟩
    refine W_weak (nx' := 30) τ1 hw1 ?_
    clear hw1 σ1 h1 τ1
    refine vc_sound hE 2 _ _ _ 30 ?_
    have hw : IntKind.i64.wrap ((j : Int) + 1) = ((j + 1 : Nat) : Int) := by simp [IntKind.wrap_i64]; omega
    have hT : addI 0 ((j : Int)).toNat = j := by rw [Int.toNat_natCast, addI_eq, Nat.zero_add]
    refine vc_sound hE 100 _ _ _ 30 ?_
    (refine (?_ : chk _ _); refine chk_ok (show (decide ((0 : Int) ≤ (j : Int)) && decide ((j : Int) < (len : Int))) = true by simp only [Bool.and_eq_true, decide_eq_true_eq]; omega) ?_)
    (refine (?_ : chk _ _); refine chk_ok rfl ?_)
    (refine (?_ : chk _ _); refine chk_ok (Nat.ble_eq_true_of_le (show addI 0 ((j : Int)).toNat * 3 + 0 + 3 ≤ len * 3 by rw [hT]; omega)) ?_)
    refine ⟨s, 1, 2, bS, bA, _, _, m, 4, 5, 6, 7, bR, bH, e0, e1, c0, c1, _, _, m, z (addI 0 ((j : Int)).toNat) 0, z (addI 0 ((j : Int)).toNat) 1, z (addI 0 ((j : Int)).toNat) 2, rfl, hi, hok, rfl, rfl, ⟨fun c _ => rfl, fun i c _ _ => rfl⟩, ⟨rfl, rfl, rfl, fun c _ => rfl, .inl rfl, l0, .inl rfl, l1, rfl, fun i _ => rfl⟩, rfl, rfl, rfl, ?_⟩
    rw [show (m.stepC (z (addI 0 ((j : Int)).toNat) 0) (z (addI 0 ((j : Int)).toNat) 1) (z (addI 0 ((j : Int)).toNat) 2) == m.stepC (z (addI 0 ((j : Int)).toNat) 0) (z (addI 0 ((j : Int)).toNat) 1) (z (addI 0 ((j : Int)).toNat) 2)) = true by simp]
    obtain ⟨hnn, hbb⟩ := step_nb (m := m) (kd := z (addI 0 ((j : Int)).toNat) 0) (L := z (addI 0 ((j : Int)).toNat) 1) (k := z (addI 0 ((j : Int)).toNat) 2)
    generalize m.step (z (addI 0 ((j : Int)).toNat) 0) (z (addI 0 ((j : Int)).toNat) 1) (z (addI 0 ((j : Int)).toNat) 2) = m' at hnn hbb ⊢
    rintro s' t0' E0 c0' t1' E1 c1' hN hi' n0 n1
    have hAN : ∀ N, N = s.N → Ent.blk bA s.N 5 (gA s'.u s'.d s'.l s'.lo s'.he) 63 = eA bA s' := fun N _ => by rw [← hN]
    rcases n0 with ⟨rfl, rfl, k0⟩ | ⟨rfl, k0⟩ <;> rcases n1 with ⟨rfl, rfl, k1⟩ | ⟨rfl, k1⟩
    · have w0 : lstE e0 (cI (m'.L 0)) c0' := k0
      have w1 : lstE e1 (cI (m'.L 1)) c1' := k1
      have v0 : live (H3 bS bA s' b len z p bR bH e0 e1 c0' c1' m') 5 := lst_live w0
      have v1 : live (H3 bS bA s' b len z p bR bH e0 e1 c0' c1' m') 6 := lst_live w1
      refine ⟨s', m', 1, 2, bS, bA, _, _, 4, 5, 6, 7, bR, bH, e0, e1, c0', c1', _, _, rfl, hi', rfl, (by rw [hN]; rfl), ⟨fun c _ => rfl, fun i c _ _ => rfl⟩, ⟨rfl, rfl, rfl, fun c _ => rfl, .inl rfl, w0, .inl rfl, w1, rfl, fun i _ => rfl⟩, rfl, ?_⟩
      exact ⟨len - (j + 1), _, _, by omega, ⟨j + 1, s', m', e0, e1, c0', c1', rfl, by omega, hi', w0, w1, rfl, rfl⟩, tau [], rfl, (by repeat' (first | exact rfl | exact trivial | assumption | refine ⟨?_, ?_⟩)), eS_wk ⟨rfl, trivial⟩, eA_wk hN, ew, ⟨rfl, rfl, rfl, rfl, fun i c hi hc => (by obtain rfl : i = 0 := (by omega); exact gF_rn ⟨rfl, v0⟩ ⟨rfl, v1⟩ ⟨rfl, trivial⟩ hc)⟩, lst_wk w0 _ _, lst_wk w1 _ _, ⟨rfl, rfl, rfl, rfl, fun i c hi hc => rfl⟩, trivial⟩
    · have w0 : lstE e0 (cI (m'.L 0)) c0' := k0
      have w1 : lstE E1 (cI (m'.L 1)) c1' := k1.lst
      have v0 : live (H3 bS bA s' b len z p bR bH e0 E1 c0' c1' m') 5 := lst_live w0
      have v1 : live (H3 bS bA s' b len z p bR bH e0 E1 c0' c1' m') 6 := lst_live w1
      refine ⟨s', m', 1, 2, bS, bA, _, _, 4, 5, 31, 7, bR, bH, e0, E1, c0', c1', _, _, rfl, hi', rfl, (by rw [hN]; rfl), ⟨fun c _ => rfl, fun i c _ _ => rfl⟩, ⟨rfl, rfl, rfl, fun c _ => rfl, .inl rfl, w0, .inl rfl, w1, rfl, fun i _ => rfl⟩, rfl, ?_⟩
      exact ⟨len - (j + 1), _, _, by omega, ⟨j + 1, s', m', e0, E1, c0', c1', rfl, by omega, hi', w0, w1, rfl, rfl⟩, tau [(6, 31)], rfl, (by repeat' (first | exact rfl | exact trivial | assumption | refine ⟨?_, ?_⟩)), eS_wk ⟨rfl, trivial⟩, eA_wk hN, ew, ⟨rfl, rfl, rfl, rfl, fun i c hi hc => (by obtain rfl : i = 0 := (by omega); exact gF_rn ⟨rfl, v0⟩ ⟨rfl, v1⟩ ⟨rfl, trivial⟩ hc)⟩, lst_wk w0 _ _, lst_wk w1 _ _, ⟨rfl, rfl, rfl, rfl, fun i c hi hc => rfl⟩, trivial⟩
    · have w0 : lstE E0 (cI (m'.L 0)) c0' := k0.lst
      have w1 : lstE e1 (cI (m'.L 1)) c1' := k1
      have v0 : live (H3 bS bA s' b len z p bR bH E0 e1 c0' c1' m') 5 := lst_live w0
      have v1 : live (H3 bS bA s' b len z p bR bH E0 e1 c0' c1' m') 6 := lst_live w1
      refine ⟨s', m', 1, 2, bS, bA, _, _, 4, 30, 6, 7, bR, bH, E0, e1, c0', c1', _, _, rfl, hi', rfl, (by rw [hN]; rfl), ⟨fun c _ => rfl, fun i c _ _ => rfl⟩, ⟨rfl, rfl, rfl, fun c _ => rfl, .inl rfl, w0, .inl rfl, w1, rfl, fun i _ => rfl⟩, rfl, ?_⟩
      exact ⟨len - (j + 1), _, _, by omega, ⟨j + 1, s', m', E0, e1, c0', c1', rfl, by omega, hi', w0, w1, rfl, rfl⟩, tau [(5, 30)], rfl, (by repeat' (first | exact rfl | exact trivial | assumption | refine ⟨?_, ?_⟩)), eS_wk ⟨rfl, trivial⟩, eA_wk hN, ew, ⟨rfl, rfl, rfl, rfl, fun i c hi hc => (by obtain rfl : i = 0 := (by omega); exact gF_rn ⟨rfl, v0⟩ ⟨rfl, v1⟩ ⟨rfl, trivial⟩ hc)⟩, lst_wk w0 _ _, lst_wk w1 _ _, ⟨rfl, rfl, rfl, rfl, fun i c hi hc => rfl⟩, trivial⟩
    · have w0 : lstE E0 (cI (m'.L 0)) c0' := k0.lst
      have w1 : lstE E1 (cI (m'.L 1)) c1' := k1.lst
      have v0 : live (H3 bS bA s' b len z p bR bH E0 E1 c0' c1' m') 5 := lst_live w0
      have v1 : live (H3 bS bA s' b len z p bR bH E0 E1 c0' c1' m') 6 := lst_live w1
      refine ⟨s', m', 1, 2, bS, bA, _, _, 4, 30, 31, 7, bR, bH, E0, E1, c0', c1', _, _, rfl, hi', rfl, (by rw [hN]; rfl), ⟨fun c _ => rfl, fun i c _ _ => rfl⟩, ⟨rfl, rfl, rfl, fun c _ => rfl, .inl rfl, w0, .inl rfl, w1, rfl, fun i _ => rfl⟩, rfl, ?_⟩
      exact ⟨len - (j + 1), _, _, by omega, ⟨j + 1, s', m', E0, E1, c0', c1', rfl, by omega, hi', w0, w1, rfl, rfl⟩, tau [(5, 30), (6, 31)], rfl, (by repeat' (first | exact rfl | exact trivial | assumption | refine ⟨?_, ?_⟩)), eS_wk ⟨rfl, trivial⟩, eA_wk hN, ew, ⟨rfl, rfl, rfl, rfl, fun i c hi hc => (by obtain rfl : i = 0 := (by omega); exact gF_rn ⟨rfl, v0⟩ ⟨rfl, v1⟩ ⟨rfl, trivial⟩ hc)⟩, lst_wk w0 _ _, lst_wk w1 _ _, ⟨rfl, rfl, rfl, rfl, fun i c hi hc => rfl⟩, trivial⟩
  clear hi s
  rintro ⟨s, m, e0, e1, c0, c1⟩ ⟨hi, l0, l1⟩
  have hi : Inv s m m.n := hi
  refine vc_sound hE 60 _ _ _ 30 ?_
  refine ⟨s, m, 1, 2, bS, bA, _, _, 4, 5, 6, 7, bR, bH, e0, e1, c0, c1, _, _, rfl, hi, rfl, rfl, ⟨fun c _ => rfl, fun i c _ _ => rfl⟩, ⟨rfl, rfl, rfl, fun c _ => rfl, .inl rfl, l0, .inl rfl, l1, rfl, fun i _ => rfl⟩, rfl, ?_⟩
  rfl

def sLaw3 : Spec := fun args h nx K => ∃ (a a2 : Int) (b : Option Addr) (len cap : Nat) (z : Nat → Nat → Int) (p : Nat → Nat → Bool), args = [.int .i64 a, .int .i64 a2, .slice 2000 0 len cap] ∧ fd 2000 (roH h) = .ro b len 3 (gMix ckA z p) ∧ len ≤ 9223372036854775807 ∧ K (.ret (.bool true)) h nx
theorem sLaw3_ok : SpecOK Try.prog 3 sLaw3 := by
  refine specOK_read (fn := Try.f3) rfl rfl rfl T_ok (SP := SP3) sp3s 0 _ ?_
  rintro args h nx K ⟨a, a2, b, len, cap, z, p, rfl, e, hlen, hk⟩
  refine ⟨[(2000, .ro b len 3 (gMix ckA z p))], ⟨fun i c hi hc => trivial, trivial⟩, ⟨⟨e, _, _, _, _, rfl⟩, trivial⟩, ⟨trivial, trivial, rfl, trivial⟩, by simp [Try.f3], fun o => o = .ret (.bool true), ?_, ?_⟩
  · rintro o rfl
    exact ⟨trivial, hk⟩
  · intro c hc
    obtain ⟨cd, h1, h2⟩ := law3_walk hc (a := a) (a2 := a2) (b := b) (cap := cap) (z := z) (p := p) hlen
    cases h1
    exact h2
end Go.Proofs.Ytdjekplkejkgdaa.Sx

