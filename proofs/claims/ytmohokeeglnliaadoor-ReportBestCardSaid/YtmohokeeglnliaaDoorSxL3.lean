import Derived.Test.YtmohokeeglnliaaDoorSxV8
import Derived.Test.YtmohokeeglnliaaDoorSxF7
/-
  ReportOrder: its plain law, and its walk.
-/
namespace Go.Proofs.YtmohokeeglnliaaDoor.Sx
open Go Go.Proofs Go.RowKit Go.Sort
set_option maxRecDepth 100000
set_option linter.unusedSimpArgs false
set_option linter.unusedVariables false

theorem btr_rk (a0 a1 a4 a5 a6 b0 b1 b4 b5 b6 : Int) : btrV a0 a1 a4 a5 a6 b0 b1 b4 b5 b6 = (let x := rk (rateV a1 (subV a0 a4)).toNat; let y := rk (rateV b1 (subV b0 b4)).toNat; let u := rk (rateV a6 a5).toNat; let v := rk (rateV b6 b5).toNat;
    if x < y then -1 else if y < x then 1 else if u < v then -1 else if v < u then 1 else 0) := by
  unfold btrV orV
  rw [cmp_rk, cmp_rk]
  simp only
  by_cases h1 : rk (rateV a1 (subV a0 a4)).toNat < rk (rateV b1 (subV b0 b4)).toNat
  · rw [if_pos h1, if_neg (by decide), if_pos h1]
  · rw [if_neg h1, if_neg h1]
    by_cases h2 : rk (rateV b1 (subV b0 b4)).toNat < rk (rateV a1 (subV a0 a4)).toNat
    · rw [if_pos h2, if_neg (by decide), if_pos h2]
    · rw [if_neg h2, if_neg h2, if_pos rfl]
theorem best_first {H : Nat → Int} (h : ∀ k, k < 3 → rk (H k).toNat ≤ rk (H 0).toNat) : bestN H 3 = 0 := by
  obtain ⟨h1, h2⟩ := bestN_top H 3
  have hb := bestN_le H 3
  rcases Nat.eq_zero_or_pos (bestN H 3) with q | q
  · exact q
  · have h3 := h2 0 q
    have h4 := h (bestN H 3) (by omega)
    omega
theorem best_one (H : Nat → Int) : bestN H 1 = 0 := by unfold bestN; split <;> rfl
theorem getD_bnd {l : List Int} (h : ∀ x ∈ l, bnd x) (i : Nat) : bnd (l.getD i 0) := by
  rw [List.getD_eq_getElem?_getD]
  rcases Nat.lt_or_ge i l.length with q | q
  · rw [List.getElem?_eq_getElem q]
    exact h _ (List.getElem_mem q)
  · rw [List.getElem?_eq_none q]
    exact bd 0
theorem all_cons {p : Int → Prop} {a : Int} {l : List Int} (h : p a) (k : ∀ x ∈ l, p x) : ∀ x ∈ a :: l, p x := fun x hx => by
  rcases List.mem_cons.1 hx with rfl | hx
  · exact h
  · exact k x hx
theorem all_nil {p : Int → Prop} : ∀ x ∈ ([] : List Int), p x := fun x hx => by cases hx
def SPO : SpT := [(8, sAwake), (17, sBetter), (13, sBestR)]
theorem spo : ∀ p ∈ SPO, SpecOK Tryd.prog p.1 p.2 := consSP sAwake_ok (consSP sBetter_ok (consSP sBestR_ok noSP))
/-- Three counts that lie in a new row. -/
theorem rd3 {h : Hp} {t b c i n : Nat} {l : List Int} {g : Nat → Nat → V} (hl : l.length = 30) (e : fd t (roH h) = .ro (some ⟨b, 0, none⟩) 3 10 g) (hg : g = gOf 10 (l.map (V.int .u64))) (hi : i + n ≤ 3) : rdK 10 kT h (.slice t i n c) n (fun j k => l.getD ((i + j) * 10 + k) 0) := by
  refine .inr ⟨t, i, c, _, 3, g, rfl, e, hi, fun j k => l.getD (j * 10 + k) 0, fun j k hj hk => ?_, fun j k _ _ => rfl⟩
  rw [hg]
  exact gOf_map (by omega)
def sOrderL : Spec := fun args h nx K => match args with
  | [.agg [.int .u64 a0, .int .u64 a1, .int .u64 a2, .int .u64 a3, .int .u64 a4, .int .u64 a5, .int .u64 a6, .int .u64 a7, .int .u64 a8, .int .u64 a9], .agg [.int .u64 b0, .int .u64 b1, .int .u64 b2, .int .u64 b3, .int .u64 b4, .int .u64 b5, .int .u64 b6, .int .u64 b7, .int .u64 b8, .int .u64 b9], .agg [.int .u64 c0, .int .u64 c1, .int .u64 c2, .int .u64 c3, .int .u64 c4, .int .u64 c5, .int .u64 c6, .int .u64 c7, .int .u64 c8, .int .u64 c9]] => (bnd a0 ∧ bnd a1 ∧ bnd a2 ∧ bnd a3 ∧ bnd a4 ∧ bnd a5 ∧ bnd a6 ∧ bnd a7 ∧ bnd a8 ∧ bnd a9 ∧ bnd b0 ∧ bnd b1 ∧ bnd b2 ∧ bnd b3 ∧ bnd b4 ∧ bnd b5 ∧ bnd b6 ∧ bnd b7 ∧ bnd b8 ∧ bnd b9 ∧ bnd c0 ∧ bnd c1 ∧ bnd c2 ∧ bnd c3 ∧ bnd c4 ∧ bnd c5 ∧ bnd c6 ∧ bnd c7 ∧ bnd c8 ∧ bnd c9) ∧ K (.ret (.bool true)) h nx
  | _ => False
def planO : Plan := lineP 0 16 (oneP 16 (oneP 17 (oneP 18 (.all (.cons 19 (.all (.cons 20 (oneP 21 (oneP 22 .done)) (.cons 21 (oneP 20 (oneP 22 .done)) .nil))) (.cons 20 (oneP 19 (oneP 21 (oneP 22 .done))) .nil))))))
set_option maxHeartbeats 8000000 in
theorem sOrderL_ok : SpecOK Tryd.prog 7 sOrderL := by
  refine specOK_pure (fn := Tryd.f7) rfl rfl rfl T_ok (SP := SPO) spo [] trivial 400 _ ?_
  intro args h nx K hs
  unfold sOrderL at hs
  split at hs
  · rename_i a0 a1 a2 a3 a4 a5 a6 a7 a8 a9 b0 b1 b2 b3 b4 b5 b6 b7 b8 b9 c0 c1 c2 c3 c4 c5 c6 c7 c8 c9
    obtain ⟨hb, hk⟩ := hs
    obtain ⟨ha0, ha1, ha2, ha3, ha4, ha5, ha6, ha7, ha8, ha9, hb0, hb1, hb2, hb3, hb4, hb5, hb6, hb7, hb8, hb9, hc0, hc1, hc2, hc3, hc4, hc5, hc6, hc7, hc8, hc9⟩ := hb
    have hall0 : ∀ x ∈ [a0, a1, a2, a3, a4, a5, a6, a7, a8, a9, b0, b1, b2, b3, b4, b5, b6, b7, b8, b9, c0, c1, c2, c3, c4, c5, c6, c7, c8, c9], bnd x := all_cons ha0 (all_cons ha1 (all_cons ha2 (all_cons ha3 (all_cons ha4 (all_cons ha5 (all_cons ha6 (all_cons ha7 (all_cons ha8 (all_cons ha9 (all_cons hb0 (all_cons hb1 (all_cons hb2 (all_cons hb3 (all_cons hb4 (all_cons hb5 (all_cons hb6 (all_cons hb7 (all_cons hb8 (all_cons hb9 (all_cons hc0 (all_cons hc1 (all_cons hc2 (all_cons hc3 (all_cons hc4 (all_cons hc5 (all_cons hc6 (all_cons hc7 (all_cons hc8 (all_cons hc9 (all_nil))))))))))))))))))))))))))))))
    have hall1 : ∀ x ∈ [b0, b1, b2, b3, b4, b5, b6, b7, b8, b9, c0, c1, c2, c3, c4, c5, c6, c7, c8, c9, a0, a1, a2, a3, a4, a5, a6, a7, a8, a9], bnd x := all_cons hb0 (all_cons hb1 (all_cons hb2 (all_cons hb3 (all_cons hb4 (all_cons hb5 (all_cons hb6 (all_cons hb7 (all_cons hb8 (all_cons hb9 (all_cons hc0 (all_cons hc1 (all_cons hc2 (all_cons hc3 (all_cons hc4 (all_cons hc5 (all_cons hc6 (all_cons hc7 (all_cons hc8 (all_cons hc9 (all_cons ha0 (all_cons ha1 (all_cons ha2 (all_cons ha3 (all_cons ha4 (all_cons ha5 (all_cons ha6 (all_cons ha7 (all_cons ha8 (all_cons ha9 (all_nil))))))))))))))))))))))))))))))
    have hall2 : ∀ x ∈ [c0, c1, c2, c3, c4, c5, c6, c7, c8, c9, a0, a1, a2, a3, a4, a5, a6, a7, a8, a9, b0, b1, b2, b3, b4, b5, b6, b7, b8, b9], bnd x := all_cons hc0 (all_cons hc1 (all_cons hc2 (all_cons hc3 (all_cons hc4 (all_cons hc5 (all_cons hc6 (all_cons hc7 (all_cons hc8 (all_cons hc9 (all_cons ha0 (all_cons ha1 (all_cons ha2 (all_cons ha3 (all_cons ha4 (all_cons ha5 (all_cons ha6 (all_cons ha7 (all_cons ha8 (all_cons ha9 (all_cons hb0 (all_cons hb1 (all_cons hb2 (all_cons hb3 (all_cons hb4 (all_cons hb5 (all_cons hb6 (all_cons hb7 (all_cons hb8 (all_cons hb9 (all_nil))))))))))))))))))))))))))))))
    refine ⟨trivial, by repeat constructor, by simp [Tryd.f7], fun o => o = .ret (.bool true), ?_, ?_⟩
    · rintro o rfl; exact ⟨trivial, hk⟩
    intro c hc
    clear hk
    have r1 := btr_rk a0 a1 a4 a5 a6 b0 b1 b4 b5 b6
    have r2 := btr_rk b0 b1 b4 b5 b6 a0 a1 a4 a5 a6
    have r3 := btr_rk a0 a1 a4 a5 a6 a0 a1 a4 a5 a6
    have r4 := btr_rk b0 b1 b4 b5 b6 c0 c1 c4 c5 c6
    have r5 := btr_rk a0 a1 a4 a5 a6 c0 c1 c4 c5 c6
    simp only at r1 r2 r3 r4 r5
    have e1 : btrV b0 b1 b4 b5 b6 a0 a1 a4 a5 a6 = -btrV a0 a1 a4 a5 a6 b0 b1 b4 b5 b6 := by
      rw [r1, r2]; (repeat' split) <;> omega
    have e2 : btrV a0 a1 a4 a5 a6 a0 a1 a4 a5 a6 = 0 := by
      rw [r3]; (repeat' split) <;> omega
    have e3 : 0 ≤ btrV a0 a1 a4 a5 a6 b0 b1 b4 b5 b6 → 0 ≤ btrV b0 b1 b4 b5 b6 c0 c1 c4 c5 c6 → ¬ btrV a0 a1 a4 a5 a6 c0 c1 c4 c5 c6 < 0 := by
      rw [r1, r4, r5]; (repeat' split) <;> omega
    have e4 : -1 ≤ btrV a0 a1 a4 a5 a6 b0 b1 b4 b5 b6 ∧ btrV a0 a1 a4 a5 a6 b0 b1 b4 b5 b6 ≤ 1 := by
      rw [r1]; (repeat' split) <;> omega
    clear r1 r2 r3 r4 r5
    intro w0 w1 w2
    refine ⟨rfl, ?_⟩
    refine W_plan (mkE hc T_ok spo) 3 14 (lineP 0 14 .done) (by rw [hc]; exact mix) (by kernel_rfl) 300 ?_
    refine ⟨_, ⟨rfl, rfl⟩, ?_⟩
    refine ⟨_, ⟨rfl, rfl⟩, ?_⟩
    obtain ⟨x, hx⟩ : ∃ x, x = btrV a0 a1 a4 a5 a6 b0 b1 b4 b5 b6 := ⟨_, rfl⟩
    refine ⟨.int .i64 x, ⟨ha0, ha4, hb0, hb4, by rw [hx], rfl⟩, ?_⟩
    refine ⟨_, ⟨rfl, rfl⟩, ?_⟩
    refine ⟨_, ⟨rfl, rfl⟩, ?_⟩
    refine ⟨.int .i64 (-x), ⟨hb0, hb4, ha0, ha4, by rw [hx, e1], rfl⟩, ?_⟩
    refine ⟨.int .i64 x, ⟨congrArg (V.int .i64) (by rw [IntKind.wrap_i64]; omega), rfl⟩, ?_⟩
    refine ⟨.bool false, ⟨congrArg V.bool (show (x != x) = false by simp), rfl⟩, ?_⟩
    refine ⟨_, ⟨rfl, rfl⟩, ?_⟩
    refine ⟨_, ⟨rfl, rfl⟩, ?_⟩
    refine ⟨_, ⟨rfl, rfl⟩, ?_⟩
    refine ⟨.int .i64 0, ⟨ha0, ha4, ha0, ha4, by rw [e2], rfl⟩, ?_⟩
    refine ⟨_, ⟨rfl, rfl⟩, ?_⟩
    refine ⟨.bool false, ⟨rfl, rfl⟩, ?_⟩
    -- through three
    refine ⟨ha0, ha4, hb0, hb4, ?_⟩
    have join : ∀ {A B : Prop} {p : Bool}, A → B → br p A B := fun a b => br_both (fun _ => a) (fun _ => b)
    (refine (?_ : br _ _ _); refine br_dec (fun g1 => ?_) (fun g1 => ?_))
    · refine ⟨hb0, hb4, hc0, hc4, ?_⟩
      (refine (?_ : br _ _ _); refine br_dec (fun g2 => ?_) (fun g2 => ?_))
      · refine ⟨ha0, ha4, hc0, hc4, ?_⟩
        (refine (?_ : br _ _ _); refine br_decF (e3 g1 g2) ?_)
        intro w3
        refine ⟨_, 3, fun j k => ([a0, a1, a2, a3, a4, a5, a6, a7, a8, a9, b0, b1, b2, b3, b4, b5, b6, b7, b8, b9, c0, c1, c2, c3, c4, c5, c6, c7, c8, c9] : List Int).getD ((0 + j) * 10 + k) 0, rfl, rd3 (l := [a0, a1, a2, a3, a4, a5, a6, a7, a8, a9, b0, b1, b2, b3, b4, b5, b6, b7, b8, b9, c0, c1, c2, c3, c4, c5, c6, c7, c8, c9]) rfl rfl rfl (by omega), fun j k _ _ => getD_bnd hall0 _, by omega, ?_⟩
        generalize hB : bestN _ 3 = B
        have hB2 := bestN_le (fun j => hitV ((fun j k => ([a0, a1, a2, a3, a4, a5, a6, a7, a8, a9, b0, b1, b2, b3, b4, b5, b6, b7, b8, b9, c0, c1, c2, c3, c4, c5, c6, c7, c8, c9] : List Int).getD ((0 + j) * 10 + k) 0) j)) 3
        have htop := (bestN_top (fun j => hitV ((fun j k => ([a0, a1, a2, a3, a4, a5, a6, a7, a8, a9, b0, b1, b2, b3, b4, b5, b6, b7, b8, b9, c0, c1, c2, c3, c4, c5, c6, c7, c8, c9] : List Int).getD ((0 + j) * 10 + k) 0) j)) 3).1
        rw [hB] at hB2 htop
        have hB3 : B = 0 ∨ B = 1 ∨ B = 2 := by omega
        rcases hB3 with rfl | rfl | rfl
        · refine ⟨_, 1, fun j k => ([a0, a1, a2, a3, a4, a5, a6, a7, a8, a9, b0, b1, b2, b3, b4, b5, b6, b7, b8, b9, c0, c1, c2, c3, c4, c5, c6, c7, c8, c9] : List Int).getD ((0 + j) * 10 + k) 0, rfl, rd3 (l := [a0, a1, a2, a3, a4, a5, a6, a7, a8, a9, b0, b1, b2, b3, b4, b5, b6, b7, b8, b9, c0, c1, c2, c3, c4, c5, c6, c7, c8, c9]) (i := 0) (n := 1) rfl rfl rfl (by omega), fun j k _ _ => getD_bnd hall0 _, by omega, ?_⟩
          rw [best_one]
          refine W_plan (mkE hc T_ok spo) 4 16 planO (by rw [hc]; exact mix) (by kernel_rfl) 300 ?_
          repeat' (first | refine ⟨_, ⟨rfl, rfl⟩, ?_⟩ | fail)
          refine ⟨⟨trivial, fun w4 => ?_⟩, trivial⟩
          refine ⟨⟨trivial, _, 3, fun j k => ([a0, a1, a2, a3, a4, a5, a6, a7, a8, a9, b0, b1, b2, b3, b4, b5, b6, b7, b8, b9, c0, c1, c2, c3, c4, c5, c6, c7, c8, c9] : List Int).getD ((0 + j) * 10 + k) 0, rfl, rd3 (l := [a0, a1, a2, a3, a4, a5, a6, a7, a8, a9, b0, b1, b2, b3, b4, b5, b6, b7, b8, b9, c0, c1, c2, c3, c4, c5, c6, c7, c8, c9]) rfl rfl rfl (by omega), fun j k _ _ => getD_bnd hall0 _, by omega, ?_⟩, trivial⟩
          rw [best_first (fun k hk => by
            match k, hk with
            | 0, _ => exact htop 0 (by omega)
            | 1, _ => exact htop 1 (by omega)
            | 2, _ => exact htop 2 (by omega))]
          refine ⟨⟨trivial, ?_⟩, trivial⟩
          refine ⟨⟨trivial, ?_⟩, ⟨trivial, ?_⟩, trivial⟩
          · refine ⟨⟨trivial, ?_⟩, ⟨trivial, ?_⟩, trivial⟩
            · refine ⟨⟨trivial, ?_⟩, trivial⟩
              refine ⟨⟨trivial, ?_⟩, trivial⟩
              exact outB rfl
            · refine ⟨⟨trivial, ?_⟩, trivial⟩
              refine ⟨⟨trivial, ?_⟩, trivial⟩
              exact outB rfl
          · refine ⟨⟨trivial, ?_⟩, trivial⟩
            refine ⟨⟨trivial, ?_⟩, trivial⟩
            refine ⟨⟨trivial, ?_⟩, trivial⟩
            exact outB rfl
        · refine ⟨_, 1, fun j k => ([a0, a1, a2, a3, a4, a5, a6, a7, a8, a9, b0, b1, b2, b3, b4, b5, b6, b7, b8, b9, c0, c1, c2, c3, c4, c5, c6, c7, c8, c9] : List Int).getD ((1 + j) * 10 + k) 0, rfl, rd3 (l := [a0, a1, a2, a3, a4, a5, a6, a7, a8, a9, b0, b1, b2, b3, b4, b5, b6, b7, b8, b9, c0, c1, c2, c3, c4, c5, c6, c7, c8, c9]) (i := 1) (n := 1) rfl rfl rfl (by omega), fun j k _ _ => getD_bnd hall0 _, by omega, ?_⟩
          rw [best_one]
          refine W_plan (mkE hc T_ok spo) 4 16 planO (by rw [hc]; exact mix) (by kernel_rfl) 300 ?_
          repeat' (first | refine ⟨_, ⟨rfl, rfl⟩, ?_⟩ | fail)
          refine ⟨⟨trivial, fun w4 => ?_⟩, trivial⟩
          refine ⟨⟨trivial, _, 3, fun j k => ([b0, b1, b2, b3, b4, b5, b6, b7, b8, b9, c0, c1, c2, c3, c4, c5, c6, c7, c8, c9, a0, a1, a2, a3, a4, a5, a6, a7, a8, a9] : List Int).getD ((0 + j) * 10 + k) 0, rfl, rd3 (l := [b0, b1, b2, b3, b4, b5, b6, b7, b8, b9, c0, c1, c2, c3, c4, c5, c6, c7, c8, c9, a0, a1, a2, a3, a4, a5, a6, a7, a8, a9]) rfl rfl rfl (by omega), fun j k _ _ => getD_bnd hall1 _, by omega, ?_⟩, trivial⟩
          rw [best_first (fun k hk => by
            match k, hk with
            | 0, _ => exact htop 1 (by omega)
            | 1, _ => exact htop 2 (by omega)
            | 2, _ => exact htop 0 (by omega))]
          refine ⟨⟨trivial, ?_⟩, trivial⟩
          refine ⟨⟨trivial, ?_⟩, ⟨trivial, ?_⟩, trivial⟩
          · refine ⟨⟨trivial, ?_⟩, ⟨trivial, ?_⟩, trivial⟩
            · refine ⟨⟨trivial, ?_⟩, trivial⟩
              refine ⟨⟨trivial, ?_⟩, trivial⟩
              exact outB rfl
            · refine ⟨⟨trivial, ?_⟩, trivial⟩
              refine ⟨⟨trivial, ?_⟩, trivial⟩
              exact outB rfl
          · refine ⟨⟨trivial, ?_⟩, trivial⟩
            refine ⟨⟨trivial, ?_⟩, trivial⟩
            refine ⟨⟨trivial, ?_⟩, trivial⟩
            exact outB rfl
        · refine ⟨_, 1, fun j k => ([a0, a1, a2, a3, a4, a5, a6, a7, a8, a9, b0, b1, b2, b3, b4, b5, b6, b7, b8, b9, c0, c1, c2, c3, c4, c5, c6, c7, c8, c9] : List Int).getD ((2 + j) * 10 + k) 0, rfl, rd3 (l := [a0, a1, a2, a3, a4, a5, a6, a7, a8, a9, b0, b1, b2, b3, b4, b5, b6, b7, b8, b9, c0, c1, c2, c3, c4, c5, c6, c7, c8, c9]) (i := 2) (n := 1) rfl rfl rfl (by omega), fun j k _ _ => getD_bnd hall0 _, by omega, ?_⟩
          rw [best_one]
          refine W_plan (mkE hc T_ok spo) 4 16 planO (by rw [hc]; exact mix) (by kernel_rfl) 300 ?_
          repeat' (first | refine ⟨_, ⟨rfl, rfl⟩, ?_⟩ | fail)
          refine ⟨⟨trivial, fun w4 => ?_⟩, trivial⟩
          refine ⟨⟨trivial, _, 3, fun j k => ([c0, c1, c2, c3, c4, c5, c6, c7, c8, c9, a0, a1, a2, a3, a4, a5, a6, a7, a8, a9, b0, b1, b2, b3, b4, b5, b6, b7, b8, b9] : List Int).getD ((0 + j) * 10 + k) 0, rfl, rd3 (l := [c0, c1, c2, c3, c4, c5, c6, c7, c8, c9, a0, a1, a2, a3, a4, a5, a6, a7, a8, a9, b0, b1, b2, b3, b4, b5, b6, b7, b8, b9]) rfl rfl rfl (by omega), fun j k _ _ => getD_bnd hall2 _, by omega, ?_⟩, trivial⟩
          rw [best_first (fun k hk => by
            match k, hk with
            | 0, _ => exact htop 2 (by omega)
            | 1, _ => exact htop 0 (by omega)
            | 2, _ => exact htop 1 (by omega))]
          refine ⟨⟨trivial, ?_⟩, trivial⟩
          refine ⟨⟨trivial, ?_⟩, ⟨trivial, ?_⟩, trivial⟩
          · refine ⟨⟨trivial, ?_⟩, ⟨trivial, ?_⟩, trivial⟩
            · refine ⟨⟨trivial, ?_⟩, trivial⟩
              refine ⟨⟨trivial, ?_⟩, trivial⟩
              exact outB rfl
            · refine ⟨⟨trivial, ?_⟩, trivial⟩
              refine ⟨⟨trivial, ?_⟩, trivial⟩
              exact outB rfl
          · refine ⟨⟨trivial, ?_⟩, trivial⟩
            refine ⟨⟨trivial, ?_⟩, trivial⟩
            refine ⟨⟨trivial, ?_⟩, trivial⟩
            exact outB rfl
      ·
        intro w3
        refine ⟨_, 3, fun j k => ([a0, a1, a2, a3, a4, a5, a6, a7, a8, a9, b0, b1, b2, b3, b4, b5, b6, b7, b8, b9, c0, c1, c2, c3, c4, c5, c6, c7, c8, c9] : List Int).getD ((0 + j) * 10 + k) 0, rfl, rd3 (l := [a0, a1, a2, a3, a4, a5, a6, a7, a8, a9, b0, b1, b2, b3, b4, b5, b6, b7, b8, b9, c0, c1, c2, c3, c4, c5, c6, c7, c8, c9]) rfl rfl rfl (by omega), fun j k _ _ => getD_bnd hall0 _, by omega, ?_⟩
        generalize hB : bestN _ 3 = B
        have hB2 := bestN_le (fun j => hitV ((fun j k => ([a0, a1, a2, a3, a4, a5, a6, a7, a8, a9, b0, b1, b2, b3, b4, b5, b6, b7, b8, b9, c0, c1, c2, c3, c4, c5, c6, c7, c8, c9] : List Int).getD ((0 + j) * 10 + k) 0) j)) 3
        have htop := (bestN_top (fun j => hitV ((fun j k => ([a0, a1, a2, a3, a4, a5, a6, a7, a8, a9, b0, b1, b2, b3, b4, b5, b6, b7, b8, b9, c0, c1, c2, c3, c4, c5, c6, c7, c8, c9] : List Int).getD ((0 + j) * 10 + k) 0) j)) 3).1
        rw [hB] at hB2 htop
        have hB3 : B = 0 ∨ B = 1 ∨ B = 2 := by omega
        rcases hB3 with rfl | rfl | rfl
        · refine ⟨_, 1, fun j k => ([a0, a1, a2, a3, a4, a5, a6, a7, a8, a9, b0, b1, b2, b3, b4, b5, b6, b7, b8, b9, c0, c1, c2, c3, c4, c5, c6, c7, c8, c9] : List Int).getD ((0 + j) * 10 + k) 0, rfl, rd3 (l := [a0, a1, a2, a3, a4, a5, a6, a7, a8, a9, b0, b1, b2, b3, b4, b5, b6, b7, b8, b9, c0, c1, c2, c3, c4, c5, c6, c7, c8, c9]) (i := 0) (n := 1) rfl rfl rfl (by omega), fun j k _ _ => getD_bnd hall0 _, by omega, ?_⟩
          rw [best_one]
          refine W_plan (mkE hc T_ok spo) 4 16 planO (by rw [hc]; exact mix) (by kernel_rfl) 300 ?_
          repeat' (first | refine ⟨_, ⟨rfl, rfl⟩, ?_⟩ | fail)
          refine ⟨⟨trivial, fun w4 => ?_⟩, trivial⟩
          refine ⟨⟨trivial, _, 3, fun j k => ([a0, a1, a2, a3, a4, a5, a6, a7, a8, a9, b0, b1, b2, b3, b4, b5, b6, b7, b8, b9, c0, c1, c2, c3, c4, c5, c6, c7, c8, c9] : List Int).getD ((0 + j) * 10 + k) 0, rfl, rd3 (l := [a0, a1, a2, a3, a4, a5, a6, a7, a8, a9, b0, b1, b2, b3, b4, b5, b6, b7, b8, b9, c0, c1, c2, c3, c4, c5, c6, c7, c8, c9]) rfl rfl rfl (by omega), fun j k _ _ => getD_bnd hall0 _, by omega, ?_⟩, trivial⟩
          rw [best_first (fun k hk => by
            match k, hk with
            | 0, _ => exact htop 0 (by omega)
            | 1, _ => exact htop 1 (by omega)
            | 2, _ => exact htop 2 (by omega))]
          refine ⟨⟨trivial, ?_⟩, trivial⟩
          refine ⟨⟨trivial, ?_⟩, ⟨trivial, ?_⟩, trivial⟩
          · refine ⟨⟨trivial, ?_⟩, ⟨trivial, ?_⟩, trivial⟩
            · refine ⟨⟨trivial, ?_⟩, trivial⟩
              refine ⟨⟨trivial, ?_⟩, trivial⟩
              exact outB rfl
            · refine ⟨⟨trivial, ?_⟩, trivial⟩
              refine ⟨⟨trivial, ?_⟩, trivial⟩
              exact outB rfl
          · refine ⟨⟨trivial, ?_⟩, trivial⟩
            refine ⟨⟨trivial, ?_⟩, trivial⟩
            refine ⟨⟨trivial, ?_⟩, trivial⟩
            exact outB rfl
        · refine ⟨_, 1, fun j k => ([a0, a1, a2, a3, a4, a5, a6, a7, a8, a9, b0, b1, b2, b3, b4, b5, b6, b7, b8, b9, c0, c1, c2, c3, c4, c5, c6, c7, c8, c9] : List Int).getD ((1 + j) * 10 + k) 0, rfl, rd3 (l := [a0, a1, a2, a3, a4, a5, a6, a7, a8, a9, b0, b1, b2, b3, b4, b5, b6, b7, b8, b9, c0, c1, c2, c3, c4, c5, c6, c7, c8, c9]) (i := 1) (n := 1) rfl rfl rfl (by omega), fun j k _ _ => getD_bnd hall0 _, by omega, ?_⟩
          rw [best_one]
          refine W_plan (mkE hc T_ok spo) 4 16 planO (by rw [hc]; exact mix) (by kernel_rfl) 300 ?_
          repeat' (first | refine ⟨_, ⟨rfl, rfl⟩, ?_⟩ | fail)
          refine ⟨⟨trivial, fun w4 => ?_⟩, trivial⟩
          refine ⟨⟨trivial, _, 3, fun j k => ([b0, b1, b2, b3, b4, b5, b6, b7, b8, b9, c0, c1, c2, c3, c4, c5, c6, c7, c8, c9, a0, a1, a2, a3, a4, a5, a6, a7, a8, a9] : List Int).getD ((0 + j) * 10 + k) 0, rfl, rd3 (l := [b0, b1, b2, b3, b4, b5, b6, b7, b8, b9, c0, c1, c2, c3, c4, c5, c6, c7, c8, c9, a0, a1, a2, a3, a4, a5, a6, a7, a8, a9]) rfl rfl rfl (by omega), fun j k _ _ => getD_bnd hall1 _, by omega, ?_⟩, trivial⟩
          rw [best_first (fun k hk => by
            match k, hk with
            | 0, _ => exact htop 1 (by omega)
            | 1, _ => exact htop 2 (by omega)
            | 2, _ => exact htop 0 (by omega))]
          refine ⟨⟨trivial, ?_⟩, trivial⟩
          refine ⟨⟨trivial, ?_⟩, ⟨trivial, ?_⟩, trivial⟩
          · refine ⟨⟨trivial, ?_⟩, ⟨trivial, ?_⟩, trivial⟩
            · refine ⟨⟨trivial, ?_⟩, trivial⟩
              refine ⟨⟨trivial, ?_⟩, trivial⟩
              exact outB rfl
            · refine ⟨⟨trivial, ?_⟩, trivial⟩
              refine ⟨⟨trivial, ?_⟩, trivial⟩
              exact outB rfl
          · refine ⟨⟨trivial, ?_⟩, trivial⟩
            refine ⟨⟨trivial, ?_⟩, trivial⟩
            refine ⟨⟨trivial, ?_⟩, trivial⟩
            exact outB rfl
        · refine ⟨_, 1, fun j k => ([a0, a1, a2, a3, a4, a5, a6, a7, a8, a9, b0, b1, b2, b3, b4, b5, b6, b7, b8, b9, c0, c1, c2, c3, c4, c5, c6, c7, c8, c9] : List Int).getD ((2 + j) * 10 + k) 0, rfl, rd3 (l := [a0, a1, a2, a3, a4, a5, a6, a7, a8, a9, b0, b1, b2, b3, b4, b5, b6, b7, b8, b9, c0, c1, c2, c3, c4, c5, c6, c7, c8, c9]) (i := 2) (n := 1) rfl rfl rfl (by omega), fun j k _ _ => getD_bnd hall0 _, by omega, ?_⟩
          rw [best_one]
          refine W_plan (mkE hc T_ok spo) 4 16 planO (by rw [hc]; exact mix) (by kernel_rfl) 300 ?_
          repeat' (first | refine ⟨_, ⟨rfl, rfl⟩, ?_⟩ | fail)
          refine ⟨⟨trivial, fun w4 => ?_⟩, trivial⟩
          refine ⟨⟨trivial, _, 3, fun j k => ([c0, c1, c2, c3, c4, c5, c6, c7, c8, c9, a0, a1, a2, a3, a4, a5, a6, a7, a8, a9, b0, b1, b2, b3, b4, b5, b6, b7, b8, b9] : List Int).getD ((0 + j) * 10 + k) 0, rfl, rd3 (l := [c0, c1, c2, c3, c4, c5, c6, c7, c8, c9, a0, a1, a2, a3, a4, a5, a6, a7, a8, a9, b0, b1, b2, b3, b4, b5, b6, b7, b8, b9]) rfl rfl rfl (by omega), fun j k _ _ => getD_bnd hall2 _, by omega, ?_⟩, trivial⟩
          rw [best_first (fun k hk => by
            match k, hk with
            | 0, _ => exact htop 2 (by omega)
            | 1, _ => exact htop 0 (by omega)
            | 2, _ => exact htop 1 (by omega))]
          refine ⟨⟨trivial, ?_⟩, trivial⟩
          refine ⟨⟨trivial, ?_⟩, ⟨trivial, ?_⟩, trivial⟩
          · refine ⟨⟨trivial, ?_⟩, ⟨trivial, ?_⟩, trivial⟩
            · refine ⟨⟨trivial, ?_⟩, trivial⟩
              refine ⟨⟨trivial, ?_⟩, trivial⟩
              exact outB rfl
            · refine ⟨⟨trivial, ?_⟩, trivial⟩
              refine ⟨⟨trivial, ?_⟩, trivial⟩
              exact outB rfl
          · refine ⟨⟨trivial, ?_⟩, trivial⟩
            refine ⟨⟨trivial, ?_⟩, trivial⟩
            refine ⟨⟨trivial, ?_⟩, trivial⟩
            exact outB rfl
    ·
      intro w3
      refine ⟨_, 3, fun j k => ([a0, a1, a2, a3, a4, a5, a6, a7, a8, a9, b0, b1, b2, b3, b4, b5, b6, b7, b8, b9, c0, c1, c2, c3, c4, c5, c6, c7, c8, c9] : List Int).getD ((0 + j) * 10 + k) 0, rfl, rd3 (l := [a0, a1, a2, a3, a4, a5, a6, a7, a8, a9, b0, b1, b2, b3, b4, b5, b6, b7, b8, b9, c0, c1, c2, c3, c4, c5, c6, c7, c8, c9]) rfl rfl rfl (by omega), fun j k _ _ => getD_bnd hall0 _, by omega, ?_⟩
      generalize hB : bestN _ 3 = B
      have hB2 := bestN_le (fun j => hitV ((fun j k => ([a0, a1, a2, a3, a4, a5, a6, a7, a8, a9, b0, b1, b2, b3, b4, b5, b6, b7, b8, b9, c0, c1, c2, c3, c4, c5, c6, c7, c8, c9] : List Int).getD ((0 + j) * 10 + k) 0) j)) 3
      have htop := (bestN_top (fun j => hitV ((fun j k => ([a0, a1, a2, a3, a4, a5, a6, a7, a8, a9, b0, b1, b2, b3, b4, b5, b6, b7, b8, b9, c0, c1, c2, c3, c4, c5, c6, c7, c8, c9] : List Int).getD ((0 + j) * 10 + k) 0) j)) 3).1
      rw [hB] at hB2 htop
      have hB3 : B = 0 ∨ B = 1 ∨ B = 2 := by omega
      rcases hB3 with rfl | rfl | rfl
      · refine ⟨_, 1, fun j k => ([a0, a1, a2, a3, a4, a5, a6, a7, a8, a9, b0, b1, b2, b3, b4, b5, b6, b7, b8, b9, c0, c1, c2, c3, c4, c5, c6, c7, c8, c9] : List Int).getD ((0 + j) * 10 + k) 0, rfl, rd3 (l := [a0, a1, a2, a3, a4, a5, a6, a7, a8, a9, b0, b1, b2, b3, b4, b5, b6, b7, b8, b9, c0, c1, c2, c3, c4, c5, c6, c7, c8, c9]) (i := 0) (n := 1) rfl rfl rfl (by omega), fun j k _ _ => getD_bnd hall0 _, by omega, ?_⟩
        rw [best_one]
        refine W_plan (mkE hc T_ok spo) 4 16 planO (by rw [hc]; exact mix) (by kernel_rfl) 300 ?_
        repeat' (first | refine ⟨_, ⟨rfl, rfl⟩, ?_⟩ | fail)
        refine ⟨⟨trivial, fun w4 => ?_⟩, trivial⟩
        refine ⟨⟨trivial, _, 3, fun j k => ([a0, a1, a2, a3, a4, a5, a6, a7, a8, a9, b0, b1, b2, b3, b4, b5, b6, b7, b8, b9, c0, c1, c2, c3, c4, c5, c6, c7, c8, c9] : List Int).getD ((0 + j) * 10 + k) 0, rfl, rd3 (l := [a0, a1, a2, a3, a4, a5, a6, a7, a8, a9, b0, b1, b2, b3, b4, b5, b6, b7, b8, b9, c0, c1, c2, c3, c4, c5, c6, c7, c8, c9]) rfl rfl rfl (by omega), fun j k _ _ => getD_bnd hall0 _, by omega, ?_⟩, trivial⟩
        rw [best_first (fun k hk => by
          match k, hk with
          | 0, _ => exact htop 0 (by omega)
          | 1, _ => exact htop 1 (by omega)
          | 2, _ => exact htop 2 (by omega))]
        refine ⟨⟨trivial, ?_⟩, trivial⟩
        refine ⟨⟨trivial, ?_⟩, ⟨trivial, ?_⟩, trivial⟩
        · refine ⟨⟨trivial, ?_⟩, ⟨trivial, ?_⟩, trivial⟩
          · refine ⟨⟨trivial, ?_⟩, trivial⟩
            refine ⟨⟨trivial, ?_⟩, trivial⟩
            exact outB rfl
          · refine ⟨⟨trivial, ?_⟩, trivial⟩
            refine ⟨⟨trivial, ?_⟩, trivial⟩
            exact outB rfl
        · refine ⟨⟨trivial, ?_⟩, trivial⟩
          refine ⟨⟨trivial, ?_⟩, trivial⟩
          refine ⟨⟨trivial, ?_⟩, trivial⟩
          exact outB rfl
      · refine ⟨_, 1, fun j k => ([a0, a1, a2, a3, a4, a5, a6, a7, a8, a9, b0, b1, b2, b3, b4, b5, b6, b7, b8, b9, c0, c1, c2, c3, c4, c5, c6, c7, c8, c9] : List Int).getD ((1 + j) * 10 + k) 0, rfl, rd3 (l := [a0, a1, a2, a3, a4, a5, a6, a7, a8, a9, b0, b1, b2, b3, b4, b5, b6, b7, b8, b9, c0, c1, c2, c3, c4, c5, c6, c7, c8, c9]) (i := 1) (n := 1) rfl rfl rfl (by omega), fun j k _ _ => getD_bnd hall0 _, by omega, ?_⟩
        rw [best_one]
        refine W_plan (mkE hc T_ok spo) 4 16 planO (by rw [hc]; exact mix) (by kernel_rfl) 300 ?_
        repeat' (first | refine ⟨_, ⟨rfl, rfl⟩, ?_⟩ | fail)
        refine ⟨⟨trivial, fun w4 => ?_⟩, trivial⟩
        refine ⟨⟨trivial, _, 3, fun j k => ([b0, b1, b2, b3, b4, b5, b6, b7, b8, b9, c0, c1, c2, c3, c4, c5, c6, c7, c8, c9, a0, a1, a2, a3, a4, a5, a6, a7, a8, a9] : List Int).getD ((0 + j) * 10 + k) 0, rfl, rd3 (l := [b0, b1, b2, b3, b4, b5, b6, b7, b8, b9, c0, c1, c2, c3, c4, c5, c6, c7, c8, c9, a0, a1, a2, a3, a4, a5, a6, a7, a8, a9]) rfl rfl rfl (by omega), fun j k _ _ => getD_bnd hall1 _, by omega, ?_⟩, trivial⟩
        rw [best_first (fun k hk => by
          match k, hk with
          | 0, _ => exact htop 1 (by omega)
          | 1, _ => exact htop 2 (by omega)
          | 2, _ => exact htop 0 (by omega))]
        refine ⟨⟨trivial, ?_⟩, trivial⟩
        refine ⟨⟨trivial, ?_⟩, ⟨trivial, ?_⟩, trivial⟩
        · refine ⟨⟨trivial, ?_⟩, ⟨trivial, ?_⟩, trivial⟩
          · refine ⟨⟨trivial, ?_⟩, trivial⟩
            refine ⟨⟨trivial, ?_⟩, trivial⟩
            exact outB rfl
          · refine ⟨⟨trivial, ?_⟩, trivial⟩
            refine ⟨⟨trivial, ?_⟩, trivial⟩
            exact outB rfl
        · refine ⟨⟨trivial, ?_⟩, trivial⟩
          refine ⟨⟨trivial, ?_⟩, trivial⟩
          refine ⟨⟨trivial, ?_⟩, trivial⟩
          exact outB rfl
      · refine ⟨_, 1, fun j k => ([a0, a1, a2, a3, a4, a5, a6, a7, a8, a9, b0, b1, b2, b3, b4, b5, b6, b7, b8, b9, c0, c1, c2, c3, c4, c5, c6, c7, c8, c9] : List Int).getD ((2 + j) * 10 + k) 0, rfl, rd3 (l := [a0, a1, a2, a3, a4, a5, a6, a7, a8, a9, b0, b1, b2, b3, b4, b5, b6, b7, b8, b9, c0, c1, c2, c3, c4, c5, c6, c7, c8, c9]) (i := 2) (n := 1) rfl rfl rfl (by omega), fun j k _ _ => getD_bnd hall0 _, by omega, ?_⟩
        rw [best_one]
        refine W_plan (mkE hc T_ok spo) 4 16 planO (by rw [hc]; exact mix) (by kernel_rfl) 300 ?_
        repeat' (first | refine ⟨_, ⟨rfl, rfl⟩, ?_⟩ | fail)
        refine ⟨⟨trivial, fun w4 => ?_⟩, trivial⟩
        refine ⟨⟨trivial, _, 3, fun j k => ([c0, c1, c2, c3, c4, c5, c6, c7, c8, c9, a0, a1, a2, a3, a4, a5, a6, a7, a8, a9, b0, b1, b2, b3, b4, b5, b6, b7, b8, b9] : List Int).getD ((0 + j) * 10 + k) 0, rfl, rd3 (l := [c0, c1, c2, c3, c4, c5, c6, c7, c8, c9, a0, a1, a2, a3, a4, a5, a6, a7, a8, a9, b0, b1, b2, b3, b4, b5, b6, b7, b8, b9]) rfl rfl rfl (by omega), fun j k _ _ => getD_bnd hall2 _, by omega, ?_⟩, trivial⟩
        rw [best_first (fun k hk => by
          match k, hk with
          | 0, _ => exact htop 2 (by omega)
          | 1, _ => exact htop 0 (by omega)
          | 2, _ => exact htop 1 (by omega))]
        refine ⟨⟨trivial, ?_⟩, trivial⟩
        refine ⟨⟨trivial, ?_⟩, ⟨trivial, ?_⟩, trivial⟩
        · refine ⟨⟨trivial, ?_⟩, ⟨trivial, ?_⟩, trivial⟩
          · refine ⟨⟨trivial, ?_⟩, trivial⟩
            refine ⟨⟨trivial, ?_⟩, trivial⟩
            exact outB rfl
          · refine ⟨⟨trivial, ?_⟩, trivial⟩
            refine ⟨⟨trivial, ?_⟩, trivial⟩
            exact outB rfl
        · refine ⟨⟨trivial, ?_⟩, trivial⟩
          refine ⟨⟨trivial, ?_⟩, trivial⟩
          refine ⟨⟨trivial, ?_⟩, trivial⟩
          exact outB rfl
  · exact hs.elim
end Go.Proofs.YtmohokeeglnliaaDoor.Sx
