import Derived.Test.YtdjekplkejkgdaaSxPn
import Derived.Test.YtdjekplkejkgdaaSxG6
/-
  The document's shelf: Front.
-/
namespace Go.Proofs.Ytdjekplkejkgdaa.Sx
open Go Go.Proofs
set_option maxRecDepth 100000
set_option linter.unusedSimpArgs false
set_option linter.unusedVariables false

/-- A list's row behind a call: the one that there was, or a new one. -/
def XL (X e : Ent) (l : List Nat) (c : Nat) : Prop := (X = e.toRo ∧ lstE e (cI l) c) ∨ ∃ b g ty, X = .blk b c 1 g ty ∧ (cI l).length ≤ c ∧ c ≤ 9223372036854775807 ∧ cellsL g (cI l) c
theorem XL.wk {X e : Ent} {l : List Nat} {c : Nat} (h : XL X e l c) (τ : Nat → Nat) (h' : Hp) : wkE τ h' X X := by
  rcases h with ⟨rfl, h⟩ | ⟨b, g, ty, rfl, h1, h2, h3⟩
  · exact h.ro_wk _ _
  · exact lst_wk (lstE.of h3 h1 h2) _ _
theorem XL.live {X e : Ent} {l : List Nat} {c : Nat} (h : XL X e l c) : X.here := by
  rcases h with ⟨rfl, h⟩ | ⟨b, g, ty, rfl, h1, h2, h3⟩
  · exact h.ro_live
  · trivial
theorem XL.cap {X e : Ent} {l : List Nat} {c : Nat} (h : XL X e l c) : l.length ≤ c := by
  rw [← cI_len]
  rcases h with ⟨rfl, h⟩ | ⟨b, g, ty, rfl, h1, h2, h3⟩
  · exact lst_cap h
  · exact h1
theorem XL.rd {X e : Ent} {l : List Nat} {c : Nat} (h : XL X e l c) {hh : Hp} {t : Nat} (ht : fd t hh = X ∨ fd t hh = X.toRo) : rdL hh (.slice t 0 l.length c) (cI l) := by
  rw [← cI_len]
  rcases h with ⟨rfl, h⟩ | ⟨b, g, ty, rfl, h1, h2, h3⟩
  · exact h.rd2 (by rcases ht with q | q; exact q; rw [q, toRo_toRo])
  · rcases ht with q | q
    · exact (lstE.of h3 h1 h2).rd q
    · exact (lstE.of (b := b) (ty := ty) h3 h1 h2).rd2 q
theorem XL.out {X e : Ent} {l : List Nat} {c t : Nat} {h1 : Hp} (h : XL X e l c) (ht : t < 2000) (e1 : fd t h1 = X) : OutL h1 t e l c := by
  rcases h with ⟨rfl, h⟩ | ⟨b, g, ty, rfl, h1, h2, h3⟩
  · exact .inl ⟨e1, h⟩
  · exact .inr ⟨ht, b, g, ty, e1, h1, h2, h3⟩
theorem NewL.xl {nx t t' c : Nat} {E e : Ent} {l : List Nat} (h : NewL nx E t t' e (cI l) c) {hh : Hp} (h1 : fd t hh = e.toRo) (h2 : fd nx hh = E) : ∃ X, XL X e l c ∧ fd t' hh = X := by
  rcases h with ⟨rfl, _, h⟩ | ⟨rfl, h⟩
  · exact ⟨_, .inl ⟨rfl, h⟩, h1⟩
  · refine ⟨E, ?_, h2⟩
    exact .inr h

/-- What is known of a shelf of the document's behind a first call. -/
abbrev HX (bR bH : Nat) (X0 X1 : Ent) (c0 c1 : Nat) (m : Md) : Hp := [(2000, .blk bR 1 5 (gF m.n m.b 40 (m.L 0).length c0 41 (m.L 1).length c1 2003) 66), (40, X0), (41, X1), (2003, .blk bH m.n 1 (gb m.H) 4)]
theorem HX.wk {bR bH : Nat} {X0 X1 e0 e1 : Ent} {c0 c1 : Nat} {m : Md} (l0 : XL X0 e0 (m.L 0) c0) (l1 : XL X1 e1 (m.L 1) c1) : wkH (tau []) (HX bR bH X0 X1 c0 c1 m) (HX bR bH X0 X1 c0 c1 m) (HX bR bH X0 X1 c0 c1 m) := by
  have v0 : live (HX bR bH X0 X1 c0 c1 m) 40 := l0.live
  have v1 : live (HX bR bH X0 X1 c0 c1 m) 41 := l1.live
  exact ⟨⟨rfl, rfl, rfl, rfl, fun i c hi hc => (by obtain rfl : i = 0 := (by omega); exact gF_rn ⟨rfl, v0⟩ ⟨rfl, v1⟩ ⟨rfl, trivial⟩ hc)⟩, l0.wk _ _, l1.wk _ _, ⟨rfl, rfl, rfl, rfl, fun i c hi hc => rfl⟩, trivial⟩
/-- Behind a call that writes into the shelf: told anew. -/
theorem HX.of {bR bH : Nat} {e0 e1 E0 E1 : Ent} {c0 c1 t0' t1' c0' c1' : Nat} {m m' : Md} {h : Hp} (hn : m'.n = m.n) (n0 : NewL 30 E0 2001 t0' e0 (cI (m'.L 0)) c0') (n1 : NewL 31 E1 2002 t1' e1 (cI (m'.L 1)) c1')
    (hh : h = (2000, .blk bR 1 5 (gF m'.n m'.b t0' (m'.L 0).length c0' t1' (m'.L 1).length c1' 2003) 66) :: (2003, .blk bH m'.n 1 (gb m'.H) 4) :: (30, E0) :: (31, E1) :: HW bR bH e0 e1 c0 c1 m) :
    ∃ X0 X1, XL X0 e0 (m'.L 0) c0' ∧ XL X1 e1 (m'.L 1) c1' ∧ nodupB ([2000, 40, 41, 2003].map (tau [(40, t0'), (41, t1')])) = true ∧ wkH (tau [(40, t0'), (41, t1')]) h (HX bR bH X0 X1 c0' c1' m') (HX bR bH X0 X1 c0' c1' m') := by
  subst hh
  obtain ⟨X0, x0, f0⟩ := n0.xl (hh := (2000, .blk bR 1 5 (gF m'.n m'.b t0' (m'.L 0).length c0' t1' (m'.L 1).length c1' 2003) 66) :: (2003, .blk bH m'.n 1 (gb m'.H) 4) :: (30, E0) :: (31, E1) :: HW bR bH e0 e1 c0 c1 m) rfl rfl
  obtain ⟨X1, x1, f1⟩ := n1.xl (hh := (2000, .blk bR 1 5 (gF m'.n m'.b t0' (m'.L 0).length c0' t1' (m'.L 1).length c1' 2003) 66) :: (2003, .blk bH m'.n 1 (gb m'.H) 4) :: (30, E0) :: (31, E1) :: HW bR bH e0 e1 c0 c1 m) rfl rfl
  have v0 : live (HX bR bH X0 X1 c0' c1' m') 40 := x0.live
  have v1 : live (HX bR bH X0 X1 c0' c1' m') 41 := x1.live
  refine ⟨X0, X1, x0, x1, ?_, ⟨rfl, rfl, rfl, rfl, fun i c hi hc => ?_⟩, ?_, ?_, ⟨rfl, rfl, rfl, rfl, fun i c hi hc => rfl⟩, trivial⟩
  · rcases n0 with ⟨rfl, _, _⟩ | ⟨rfl, _⟩ <;> rcases n1 with ⟨rfl, _, _⟩ | ⟨rfl, _⟩ <;> rfl
  · obtain rfl : i = 0 := by omega
    exact gF_rn ⟨rfl, v0⟩ ⟨rfl, v1⟩ ⟨rfl, trivial⟩ hc
  · show wkE _ _ (fd t0' _) X0
    rw [f0]
    exact x0.wk _ _
  · show wkE _ _ (fd t1' _) X1
    rw [f1]
    exact x1.wk _ _
theorem HW.A {bR bH : Nat} {e0 e1 : Ent} {c0 c1 : Nat} {m : Md} (l0 : lstE e0 (cI (m.L 0)) c0) (l1 : lstE e1 (cI (m.L 1)) c1) : RefA (HW bR bH e0 e1 c0 c1 m) (.ptr 2000 0 0) m 2000 2001 2002 2003 bR bH e0 e1 c0 c1 (gF m.n m.b 2001 (m.L 0).length c0 2002 (m.L 1).length c1 2003) (gb m.H) :=
  ⟨rfl, rfl, rfl, fun c _ => rfl, .inr rfl, l0, .inr rfl, l1, rfl, fun i _ => rfl⟩
theorem HX.out {bR bH : Nat} {X0 X1 e0 e1 : Ent} {c0 c1 c0' c1' : Nat} {m m' : Md} (hn : m'.n = m.n) (hb : m'.b = m.b) (l0 : XL X0 e0 (m'.L 0) c0') (l1 : XL X1 e1 (m'.L 1) c1') : RefOut (HX bR bH X0 X1 c0' c1' m') bR bH e0 e1 c0 c1 m m' :=
  ⟨_, _, 40, c0', 41, c1', rfl, fun c _ => by rw [hn, hb], by rw [← hn]; rfl, fun i _ => rfl, l0.out (by decide) rfl, l1.out (by decide) rfl, by decide⟩

def preRFront : List V → Md → Md → V → Prop := fun rest m m' v => ∃ L k : Int, rest = [.int .i64 L, .int .i64 k] ∧ Ok m ∧ m' = m.frontI L k ∧ v = .int .i64 (m.frontC L k)
abbrev ROut : Spec := fun args h nx K => ∃ p rest m m' v, args = p :: rest ∧ preROut rest m m' v ∧ rMut h nx K p m m' v
def SPRF : SpT := [(39, ROut)]
theorem sprf : ∀ p ∈ SPRF, SpecOK Try.prog p.1 p.2 := consSP rout_ok noSP
theorem front_nb {m : Md} {L k : Int} : (m.frontI L k).n = m.n ∧ (m.frontI L k).b = m.b := by
  unfold Md.frontI Md.front Md.out Md.set
  split
  · split <;> exact ⟨rfl, rfl⟩
  · exact ⟨rfl, rfl⟩
theorem rfront_ok : SpecOK Try.prog 26 (fun args h nx K => ∃ p rest m m' v, args = p :: rest ∧ preRFront rest m m' v ∧ rMut h nx K p m m' v) := by
  refine specOK_ref (fn := Try.f26) rfl rfl rfl T_ok (SP := SPRF) sprf preRFront ?_ ?_
  · rintro rest m m' v ⟨L, k, rfl, _, rfl, rfl⟩
    exact ⟨⟨trivial, trivial, trivial⟩, trivial, front_nb.1, front_nb.2, by simp [Try.f26]⟩
  · rintro rest m m' v bR bH e0 e1 c0 c1 c ⟨L, k, rfl, hok, rfl, rfl⟩ l0 l1 hc
    have hE := mkE' (fn := Try.f26) (R := fun o h1 _ => o = .ret (.int .i64 (m.frontC L k)) ∧ RefOut h1 bR bH e0 e1 c0 c1 m (m.frontI L k)) hc sprf
    have hwk := HW.wk (bR := bR) (bH := bH) l0 l1
    refine W_seq (nx := 0) ?_
    refine W_to (nx := 0) [(0, .ptr 2000 0 0), (1, .int .i64 L), (2, .int .i64 k)] (HW bR bH e0 e1 c0 c1 m) 30 ?_ ?_
    · refine vc_sound hE 20 _ _ _ 30 ?_
      exact ⟨tau [], rfl, (by repeat' (first | exact rfl | exact trivial | assumption | refine ⟨?_, ?_⟩)), hwk⟩
    by_cases hm : rightB L = true ∧ m.isN k = true
    rotate_left
    · -- what may not be
      have hI : m.frontI L k = m := if_neg hm
      have hC : m.frontC L k = 1 := if_neg hm
      have fin : (fun o h1 (_ : Nat) => o = Out.ret (.int .i64 (m.frontC L k)) ∧ RefOut h1 bR bH e0 e1 c0 c1 m (m.frontI L k)) (.ret (.int .i64 1)) (HW bR bH e0 e1 c0 c1 m) 30 := ⟨by rw [hC], by rw [hI]; exact HW.same l0 l1⟩
      refine W_seq (nx := 30) ?_
      refine W_piece (nx := 30) (fun _ _ _ => False) ?_ fun _ _ _ q => q.elim
      refine vc_sound hE 60 _ _ _ 30 ?_
      (refine (?_ : br _ _ _); refine br_dec (fun q => ?_) (fun q => ?_))
      · exact fin
      have q1 : ¬ L < 0 := q
      clear q
      (refine (?_ : br _ _ _); refine br_dec (fun q => ?_) (fun q => ?_))
      · exact fin
      have q2 : ¬ 1 < L := q
      clear q
      (refine (?_ : br _ _ _); refine br_dec (fun q => ?_) (fun q => ?_))
      · exact fin
      have q3 : ¬ k < 0 := q
      clear q
      (refine (?_ : br _ _ _); refine br_dec (fun q => ?_) (fun q => ?_))
      · exact fin
      have q4 : ¬ (m.n : Int) ≤ k := q
      exact absurd ⟨by unfold rightB; simp only [Bool.and_eq_true, decide_eq_true_eq]; omega, by unfold Md.isN; simp only [Bool.and_eq_true, decide_eq_true_eq]; omega⟩ hm
    have hm0 := hm
    obtain ⟨hr, hN⟩ := hm
    obtain ⟨q, rfl, hq⟩ := right_nat hr
    obtain ⟨j, rfl, hj⟩ := isN_nat hN
    have hI : m.frontI q j = m.front q j := by unfold Md.frontI; rw [if_pos hm0]; rfl
    have hC : m.frontC q j = 0 := if_pos hm0
    refine W_seq (nx := 30) ?_
    refine W_to (nx := 30) [(0, .ptr 2000 0 0), (1, .int .i64 q), (2, .int .i64 j)] (HW bR bH e0 e1 c0 c1 m) 30 ?_ ?_
    · refine vc_sound hE 60 _ _ _ 30 ?_
      (refine (?_ : br _ _ _); refine br_decF (show ¬ (1 : Int) < (q : Int) by omega) ?_)
      (refine (?_ : br _ _ _); refine br_decF (show ¬ (m.n : Int) ≤ (j : Int) by omega) ?_)
      exact ⟨tau [], rfl, (by repeat' (first | exact rfl | exact trivial | assumption | refine ⟨?_, ?_⟩)), hwk⟩
    have hon : (m.out j).n = m.n := by unfold Md.out; split <;> rfl
    have hob : (m.out j).b = m.b := by unfold Md.out; split <;> rfl
    refine W_seq (nx := 30) ?_
    refine W_ex (nx := 30) (fun (a : Ent × Ent × Nat × Nat) => XL a.1 e0 ((m.out j).L 0) a.2.2.1 ∧ XL a.2.1 e1 ((m.out j).L 1) a.2.2.2) (fun _ => [(0, .ptr 2000 0 0), (1, .int .i64 q), (2, .int .i64 j)]) (fun a => HX bR bH a.1 a.2.1 a.2.2.1 a.2.2.2 (m.out j)) 30 ?_ ?_
    · refine vc_sound hE 60 _ _ _ 30 ?_
      refine ⟨_, _, m, m.out j, .tup [], rfl, ⟨j, rfl, hok, rfl, rfl⟩, 2000, 2001, 2002, 2003, bR, bH, e0, e1, c0, c1, _, _, HW.A l0 l1, rfl, rfl, fun t0' E0 c0' t1' E1 c1' n0 n1 => ?_⟩
      obtain ⟨X0, X1, x0, x1, hnd, hwk2⟩ := HX.of hon n0 n1 rfl
      exact ⟨(X0, X1, c0', c1'), ⟨x0, x1⟩, tau [(40, t0'), (41, t1')], hnd, ⟨⟨⟨rfl, trivial⟩, rfl, rfl⟩, ⟨rfl, rfl⟩, ⟨rfl, rfl⟩, trivial⟩, hwk2⟩
    rintro ⟨X0, X1, c0', c1'⟩ ⟨x0, x1⟩
    have x0 : XL X0 e0 ((m.out j).L 0) c0' := x0
    have x1 : XL X1 e1 ((m.out j).L 1) c1' := x1
    have hlen : ∀ p, p < 2 → ((m.out j).L p).length ≤ 64 := fun p hp => by
      have h1 := (hok.front q j).len hp
      rw [hI] at h1
      unfold Md.front at h1
      by_cases e : p = q
      · subst e; rw [Md.set_at] at h1; simp only [List.length_cons] at h1; omega
      · rw [Md.set_ne e] at h1; exact h1
    clear hm0
    have hwk2 := HX.wk (bR := bR) (bH := bH) x0 x1
    obtain rfl | rfl : q = 0 ∨ q = 1 := by omega
    · -- list 0
      have hf0 : (m.frontI (0 : Nat) j).L 0 = j :: (m.out j).L 0 := by rw [hI]; exact Md.set_at
      have hf1 : (m.frontI (0 : Nat) j).L 1 = (m.out j).L 1 := by rw [hI]; exact Md.set_ne (by decide)
      have hfH : (m.frontI (0 : Nat) j).H = (m.out j).H := by rw [hI]; rfl
      have hfn : m.n = (m.out j).n := hon.symm
      have hfb : m.b = (m.out j).b := hob.symm
      have hl := hlen 0 (by omega)
      refine W_seq (nx := 30) ?_
      refine W_plan hE 50 14 (.take 0 (.take 1 (.take 2 (.take 4 (.take 5 (.take 6 (.take 7 (.take 8 (.take 9 (.take 11 (.take 12 (.all (.cons 3 (.all (.cons 10 (.take 13 (.all (.cons 14 (.done) (.nil)))) (.nil))) (.nil)))))))))))))) (by rw [hc]; exact mix) (by kernel_rfl) 0 ?_
      repeat' (first | refine ⟨_, ⟨rfl, rfl⟩, ?_⟩ | fail)
      refine ⟨⟨fun _ => trivial, fun bN => ?_⟩, trivial⟩
      have hd0 : ∀ (hh : Hp) g, fd 50 (roH hh) = .ro (some ⟨bN, 0, none⟩) 1 1 g → g 0 0 = .int .i64 j → rdL hh (.slice 50 0 1 1) [(j : Int)] := fun hh g e e2 => .inr ⟨50, 0, 1, _, 1, g, rfl, e, Nat.le_refl _, fun i hi => (by obtain rfl : i = 0 := (by simpa using hi); exact e2)⟩
      have hcn : ∀ tv i n c, V.slice 50 0 1 1 = .slice tv i n c → n ≤ c := fun _ _ _ _ e => by cases e; exact Nat.le_refl _
      refine ⟨⟨?_, ?_⟩, trivial⟩
      · refine step_app (v := .slice 50 0 1 1) (u := .slice 40 0 ((m.out j).L 0).length c0') rfl rfl ?_
        exact app_L (l := [(j : Int)]) intT (hd0 _ _ rfl rfl) hcn (x0.rd (.inr rfl)) rfl (by rw [cI_len]; simp only [List.length_cons, List.length_nil]; omega) (fun _ => trivial) (fun tv i c e hm hle => by
          have hm' : (cI ((m.out j).L 0)).length ≠ 0 := fun q => hm (List.eq_nil_of_length_eq_zero q)
          cases e
          simp only [List.length_cons, List.length_nil] at hle
          omega) (fun _ _ _ _ _ _ _ _ => trivial)
      · refine stepC_app (v := .slice 50 0 1 1) (u := .slice 40 0 ((m.out j).L 0).length c0') rfl rfl ?_
        refine app_L (l := [(j : Int)]) intT (hd0 _ _ rfl rfl) hcn (x0.rd (.inl rfl)) rfl (by rw [cI_len]; simp only [List.length_cons, List.length_nil]; omega) (fun hm => ?_) (fun tv i c e hm hle => by
          have hm' : (cI ((m.out j).L 0)).length ≠ 0 := fun q => hm (List.eq_nil_of_length_eq_zero q)
          cases e
          simp only [List.length_cons, List.length_nil] at hle
          omega) (fun hm b1 cap1 g1 ty1 p1 p2 p3 => ?_)
        · have hnil : (m.out j).L 0 = [] := by simpa [cI] using hm
          refine ⟨_, ⟨rfl, rfl⟩, ?_⟩
          refine ⟨⟨trivial, ?_⟩, trivial⟩
          refine vc_sound hE 20 _ _ _ 30 ?_
          refine ⟨by rw [hC]; rfl, ?_⟩
          have hF : (m.frontI (0 : Nat) j).L 0 = [j] := by rw [hf0, hnil]
          exact ⟨_, _, 50, 1, 41, c1', rfl, fun c hc => (by rw [hF, hf1, hfn, hfb]; exact gF_put0 c hc), by rw [hfn]; rfl, fun i _ => (by rw [hfH]; rfl), .inr ⟨by decide, bN, _, _, rfl, by rw [hF]; exact Nat.le_refl 1, by omega, by rw [hF]; exact ⟨fun i hi => (by obtain rfl : i = 0 := (by simpa [cI] using hi); rfl), fun i hi => (by obtain rfl : i = 0 := (by omega); trivial)⟩⟩, (by rw [hf1]; exact x1.out (by decide) rfl), by decide⟩
        · refine ⟨_, ⟨rfl, rfl⟩, ?_⟩
          refine ⟨⟨trivial, ?_⟩, trivial⟩
          refine vc_sound hE 20 _ _ _ 30 ?_
          refine ⟨by rw [hC]; rfl, ?_⟩
          have hF : [(j : Int)] ++ cI ((m.out j).L 0) = cI ((m.frontI (0 : Nat) j).L 0) := by rw [hf0]; rfl
          rw [hF] at p1 p3
          exact ⟨_, _, 51, cap1, 41, c1', rfl, fun c hc => (by rw [hF, cI_len, hf1, hfn, hfb]; exact gF_put0 c hc), by rw [hfn]; rfl, fun i _ => (by rw [hfH]; rfl), .inr ⟨by decide, b1, g1, ty1, rfl, p1, p2, p3⟩, (by rw [hf1]; exact x1.out (by decide) rfl), by decide⟩
    · -- list 1
      have hf1 : (m.frontI (1 : Nat) j).L 1 = j :: (m.out j).L 1 := by rw [hI]; exact Md.set_at
      have hf0 : (m.frontI (1 : Nat) j).L 0 = (m.out j).L 0 := by rw [hI]; exact Md.set_ne (by decide)
      have hfH : (m.frontI (1 : Nat) j).H = (m.out j).H := by rw [hI]; rfl
      have hfn : m.n = (m.out j).n := hon.symm
      have hfb : m.b = (m.out j).b := hob.symm
      have hl := hlen 1 (by omega)
      refine W_seq (nx := 30) ?_
      refine W_plan hE 50 14 (.take 0 (.take 1 (.take 2 (.take 4 (.take 5 (.take 6 (.take 7 (.take 8 (.take 9 (.take 11 (.take 12 (.all (.cons 3 (.all (.cons 10 (.take 13 (.all (.cons 14 (.done) (.nil)))) (.nil))) (.nil)))))))))))))) (by rw [hc]; exact mix) (by kernel_rfl) 0 ?_
      repeat' (first | refine ⟨_, ⟨rfl, rfl⟩, ?_⟩ | fail)
      refine ⟨⟨fun _ => trivial, fun bN => ?_⟩, trivial⟩
      have hd0 : ∀ (hh : Hp) g, fd 50 (roH hh) = .ro (some ⟨bN, 0, none⟩) 1 1 g → g 0 0 = .int .i64 j → rdL hh (.slice 50 0 1 1) [(j : Int)] := fun hh g e e2 => .inr ⟨50, 0, 1, _, 1, g, rfl, e, Nat.le_refl _, fun i hi => (by obtain rfl : i = 0 := (by simpa using hi); exact e2)⟩
      have hcn : ∀ tv i n c, V.slice 50 0 1 1 = .slice tv i n c → n ≤ c := fun _ _ _ _ e => by cases e; exact Nat.le_refl _
      refine ⟨⟨?_, ?_⟩, trivial⟩
      · refine step_app (v := .slice 50 0 1 1) (u := .slice 41 0 ((m.out j).L 1).length c1') rfl rfl ?_
        exact app_L (l := [(j : Int)]) intT (hd0 _ _ rfl rfl) hcn (x1.rd (.inr rfl)) rfl (by rw [cI_len]; simp only [List.length_cons, List.length_nil]; omega) (fun _ => trivial) (fun tv i c e hm hle => by
          have hm' : (cI ((m.out j).L 1)).length ≠ 0 := fun q => hm (List.eq_nil_of_length_eq_zero q)
          cases e
          simp only [List.length_cons, List.length_nil] at hle
          omega) (fun _ _ _ _ _ _ _ _ => trivial)
      · refine stepC_app (v := .slice 50 0 1 1) (u := .slice 41 0 ((m.out j).L 1).length c1') rfl rfl ?_
        refine app_L (l := [(j : Int)]) intT (hd0 _ _ rfl rfl) hcn (x1.rd (.inl rfl)) rfl (by rw [cI_len]; simp only [List.length_cons, List.length_nil]; omega) (fun hm => ?_) (fun tv i c e hm hle => by
          have hm' : (cI ((m.out j).L 1)).length ≠ 0 := fun q => hm (List.eq_nil_of_length_eq_zero q)
          cases e
          simp only [List.length_cons, List.length_nil] at hle
          omega) (fun hm b1 cap1 g1 ty1 p1 p2 p3 => ?_)
        · have hnil : (m.out j).L 1 = [] := by simpa [cI] using hm
          refine ⟨_, ⟨rfl, rfl⟩, ?_⟩
          refine ⟨⟨trivial, ?_⟩, trivial⟩
          refine vc_sound hE 20 _ _ _ 30 ?_
          refine ⟨by rw [hC]; rfl, ?_⟩
          have hF : (m.frontI (1 : Nat) j).L 1 = [j] := by rw [hf1, hnil]
          exact ⟨_, _, 40, c0', 50, 1, rfl, fun c hc => (by rw [hF, hf0, hfn, hfb]; exact gF_put1 c hc), by rw [hfn]; rfl, fun i _ => (by rw [hfH]; rfl), (by rw [hf0]; exact x0.out (by decide) rfl), .inr ⟨by decide, bN, _, _, rfl, by rw [hF]; exact Nat.le_refl 1, by omega, by rw [hF]; exact ⟨fun i hi => (by obtain rfl : i = 0 := (by simpa [cI] using hi); rfl), fun i hi => (by obtain rfl : i = 0 := (by omega); trivial)⟩⟩, by decide⟩
        · refine ⟨_, ⟨rfl, rfl⟩, ?_⟩
          refine ⟨⟨trivial, ?_⟩, trivial⟩
          refine vc_sound hE 20 _ _ _ 30 ?_
          refine ⟨by rw [hC]; rfl, ?_⟩
          have hF : [(j : Int)] ++ cI ((m.out j).L 1) = cI ((m.frontI (1 : Nat) j).L 1) := by rw [hf1]; rfl
          rw [hF] at p1 p3
          exact ⟨_, _, 40, c0', 51, cap1, rfl, fun c hc => (by rw [hF, cI_len, hf0, hfn, hfb]; exact gF_put1 c hc), by rw [hfn]; rfl, fun i _ => (by rw [hfH]; rfl), (by rw [hf0]; exact x0.out (by decide) rfl), .inr ⟨by decide, b1, g1, ty1, rfl, p1, p2, p3⟩, by decide⟩
end Go.Proofs.Ytdjekplkejkgdaa.Sx

/-
  The document's shelf: Drop, Hold.
-/
namespace Go.Proofs.Ytdjekplkejkgdaa.Sx
open Go Go.Proofs
set_option maxRecDepth 100000
set_option linter.unusedSimpArgs false
set_option linter.unusedVariables false

theorem gb_put {H : Nat → Bool} {j : Nat} {b : Bool} {i : Nat} : putG 1 (gb H) j 0 [.bool b] i 0 = .bool (updB H j b i) := by
  rw [putG_one (by omega) (by omega)]
  unfold updB
  by_cases q : i = j
  · subst q; rw [if_pos ⟨rfl, rfl⟩, if_pos rfl]
  · rw [if_neg (fun z => q z.1), if_neg q]; rfl
theorem Md.lies_0 {m : Md} {k : Int} (h : m.lies k = 0) : ∃ j : Nat, k = j ∧ j < m.n := by
  have hN : m.isN k = true := by
    unfold Md.lies at h
    cases q : m.isN k with
    | true => rfl
    | false => rw [if_pos q] at h; cases h
  exact isN_nat hN

def preRDrop : List V → Md → Md → V → Prop := fun rest m m' v => ∃ k : Int, rest = [.int .i64 k] ∧ Ok m ∧ m' = m.dropI k ∧ v = .int .i64 (m.lies k)
def SPRD : SpT := [(39, ROut), (40, sRLies)]
theorem sprd : ∀ p ∈ SPRD, SpecOK Try.prog p.1 p.2 := consSP rout_ok (consSP sRLies_ok noSP)
theorem rdrop_ok : SpecOK Try.prog 27 (fun args h nx K => ∃ p rest m m' v, args = p :: rest ∧ preRDrop rest m m' v ∧ rMut h nx K p m m' v) := by
  refine specOK_ref (fn := Try.f27) rfl rfl rfl T_ok (SP := SPRD) sprd preRDrop ?_ ?_
  · rintro rest m m' v ⟨k, rfl, _, rfl, rfl⟩
    refine ⟨⟨trivial, trivial⟩, trivial, ?_, ?_, by simp [Try.f27]⟩
    · unfold Md.dropI Md.out; split
      · show (match m.at k.toNat with | some q => _ | none => m).n = _; split <;> rfl
      · rfl
    · unfold Md.dropI Md.out; split
      · show (match m.at k.toNat with | some q => _ | none => m).b = _; split <;> rfl
      · rfl
  · rintro rest m m' v bR bH e0 e1 c0 c1 c ⟨k, rfl, hok, rfl, rfl⟩ l0 l1 hc
    have hE := mkE' (fn := Try.f27) (R := fun o h1 _ => o = .ret (.int .i64 (m.lies k)) ∧ RefOut h1 bR bH e0 e1 c0 c1 m (m.dropI k)) hc sprd
    have hwk := HW.wk (bR := bR) (bH := bH) l0 l1
    refine W_seq (nx := 0) ?_
    refine W_to (nx := 0) [(0, .ptr 2000 0 0), (1, .int .i64 k)] (HW bR bH e0 e1 c0 c1 m) 30 ?_ ?_
    · refine vc_sound hE 20 _ _ _ 30 ?_
      exact ⟨tau [], rfl, (by repeat' (first | exact rfl | exact trivial | assumption | refine ⟨?_, ?_⟩)), hwk⟩
    refine W_seq (nx := 30) ?_
    refine W_to (nx := 30) [(0, .ptr 2000 0 0), (1, .int .i64 k), (5, .int .i64 (m.lies k))] (HW bR bH e0 e1 c0 c1 m) 30 ?_ ?_
    · refine vc_sound hE 20 _ _ _ 30 ?_
      refine ⟨_, m, k, rfl, HW.ref l0 l1, hok, ?_⟩
      exact ⟨tau [], rfl, (by repeat' (first | exact rfl | exact trivial | assumption | refine ⟨?_, ?_⟩)), hwk⟩
    by_cases hl : m.lies k = 0
    rotate_left
    · have hI : m.dropI k = m := if_neg hl
      refine vc_sound hE 40 _ _ _ 30 ?_
      (refine (?_ : br _ _ _); refine br_eqF hl ?_)
      exact ⟨rfl, by rw [hI]; exact HW.same l0 l1⟩
    obtain ⟨j, rfl, hj⟩ := Md.lies_0 hl
    have hI : m.dropI j = { m.out j with H := updB m.H j false } := by unfold Md.dropI; rw [if_pos hl]; rfl
    have hon : (m.out j).n = m.n := by unfold Md.out; split <;> rfl
    have hob : (m.out j).b = m.b := by unfold Md.out; split <;> rfl
    have hoH : (m.out j).H = m.H := by unfold Md.out; split <;> rfl
    refine W_seq (nx := 30) ?_
    refine W_ex (nx := 30) (fun (a : Ent × Ent × Nat × Nat) => XL a.1 e0 ((m.dropI j).L 0) a.2.2.1 ∧ XL a.2.1 e1 ((m.dropI j).L 1) a.2.2.2) (fun _ => [(5, .int .i64 (m.lies j))]) (fun a => HX bR bH a.1 a.2.1 a.2.2.1 a.2.2.2 (m.dropI j)) 30 ?_ ?_
    · refine vc_sound hE 6 _ _ _ 30 ?_
      (refine (?_ : br _ _ _); refine br_eqT hl ?_)
      refine W_seq (nx := 30) ?_
      refine W_ex (nx := 30) (fun (a : Ent × Ent × Nat × Nat) => XL a.1 e0 ((m.out j).L 0) a.2.2.1 ∧ XL a.2.1 e1 ((m.out j).L 1) a.2.2.2) (fun _ => [(0, .ptr 2000 0 0), (1, .int .i64 j), (5, .int .i64 (m.lies j))]) (fun a => HX bR bH a.1 a.2.1 a.2.2.1 a.2.2.2 (m.out j)) 30 ?_ ?_
      · refine vc_sound hE 60 _ _ _ 30 ?_
        refine ⟨_, _, m, m.out j, .tup [], rfl, ⟨j, rfl, hok, rfl, rfl⟩, 2000, 2001, 2002, 2003, bR, bH, e0, e1, c0, c1, _, _, HW.A l0 l1, rfl, rfl, fun t0' E0 c0' t1' E1 c1' n0 n1 => ?_⟩
        obtain ⟨X0, X1, x0, x1, hnd, hwk2⟩ := HX.of hon n0 n1 rfl
        exact ⟨(X0, X1, c0', c1'), ⟨x0, x1⟩, tau [(40, t0'), (41, t1')], hnd, ⟨⟨⟨rfl, trivial⟩, rfl, rfl⟩, ⟨rfl, rfl⟩, ⟨rfl, rfl⟩, trivial⟩, hwk2⟩
      rintro ⟨X0, X1, c0', c1'⟩ ⟨x0, x1⟩
      have x0 : XL X0 e0 ((m.out j).L 0) c0' := x0
      have x1 : XL X1 e1 ((m.out j).L 1) c1' := x1
      have v0 : live (HX bR bH X0 X1 c0' c1' (m.dropI j)) 40 := x0.live
      have v1 : live (HX bR bH X0 X1 c0' c1' (m.dropI j)) 41 := x1.live
      refine vc_sound hE 60 _ _ _ 30 ?_
      (refine (?_ : chk _ _); refine chk_ok (show (decide ((0 : Int) ≤ (j : Int)) && decide ((j : Int) < ((m.out j).n : Int))) = true by simp only [Bool.and_eq_true, decide_eq_true_eq]; omega) ?_)
      (refine (?_ : chk _ _); refine chk_ok rfl ?_)
      (refine (?_ : chk _ _); refine chk_ok (Nat.ble_eq_true_of_le (show j * 1 + 0 + 1 ≤ (m.out j).n * 1 by omega)) ?_)
      refine ⟨(X0, X1, c0', c1'), ⟨by rw [hI]; exact x0, by rw [hI]; exact x1⟩, tau [], rfl, ⟨⟨rfl, rfl⟩, trivial⟩, ⟨rfl, rfl, rfl, rfl, fun i c hi hc => ?_⟩, x0.wk _ _, x1.wk _ _, ⟨rfl, by rw [hI], rfl, rfl, fun i c hi hc => ?_⟩, trivial⟩
      · obtain rfl : i = 0 := by omega
        have : gF (m.dropI j).n (m.dropI j).b 40 ((m.dropI j).L 0).length c0' 41 ((m.dropI j).L 1).length c1' 2003 = gF (m.out j).n (m.out j).b 40 ((m.out j).L 0).length c0' 41 ((m.out j).L 1).length c1' 2003 := by rw [hI]
        show rn _ _ _ (gF (m.dropI j).n (m.dropI j).b 40 ((m.dropI j).L 0).length c0' 41 ((m.dropI j).L 1).length c1' 2003 0 c)
        rw [this]
        exact gF_rn ⟨rfl, v0⟩ ⟨rfl, v1⟩ ⟨rfl, trivial⟩ hc
      · obtain rfl : c = 0 := by omega
        show rn _ _ (putG 1 (gb (m.out j).H) j 0 [.bool false] i 0) (.bool ((m.dropI j).H i))
        rw [gb_put, hI, hoH]
        exact rfl
    rintro ⟨X0, X1, c0', c1'⟩ ⟨x0, x1⟩
    refine vc_sound hE 20 _ _ _ 30 ?_
    exact ⟨rfl, HX.out (by rw [hI]; exact hon) (by rw [hI]; exact hob) x0 x1⟩

def preRHold : List V → Md → Md → V → Prop := fun rest m m' v => ∃ (k : Int) (b : Bool), rest = [.int .i64 k, .bool b] ∧ Ok m ∧ m' = m.holdI k b ∧ v = .int .i64 (m.lies k)
theorem rhold_ok : SpecOK Try.prog 28 (fun args h nx K => ∃ p rest m m' v, args = p :: rest ∧ preRHold rest m m' v ∧ rMut h nx K p m m' v) := by
  refine specOK_ref (fn := Try.f28) rfl rfl rfl T_ok (SP := SPRD) sprd preRHold ?_ ?_
  · rintro rest m m' v ⟨k, b, rfl, _, rfl, rfl⟩
    refine ⟨⟨trivial, trivial, trivial⟩, trivial, ?_, ?_, by simp [Try.f28]⟩
    · unfold Md.holdI; split <;> rfl
    · unfold Md.holdI; split <;> rfl
  · rintro rest m m' v bR bH e0 e1 c0 c1 c ⟨k, b, rfl, hok, rfl, rfl⟩ l0 l1 hc
    have hE := mkE' (fn := Try.f28) (R := fun o h1 _ => o = .ret (.int .i64 (m.lies k)) ∧ RefOut h1 bR bH e0 e1 c0 c1 m (m.holdI k b)) hc sprd
    have hwk := HW.wk (bR := bR) (bH := bH) l0 l1
    refine W_seq (nx := 0) ?_
    refine W_to (nx := 0) [(0, .ptr 2000 0 0), (1, .int .i64 k), (2, .bool b)] (HW bR bH e0 e1 c0 c1 m) 30 ?_ ?_
    · refine vc_sound hE 20 _ _ _ 30 ?_
      exact ⟨tau [], rfl, (by repeat' (first | exact rfl | exact trivial | assumption | refine ⟨?_, ?_⟩)), hwk⟩
    refine W_seq (nx := 30) ?_
    refine W_to (nx := 30) [(0, .ptr 2000 0 0), (1, .int .i64 k), (2, .bool b), (7, .int .i64 (m.lies k))] (HW bR bH e0 e1 c0 c1 m) 30 ?_ ?_
    · refine vc_sound hE 20 _ _ _ 30 ?_
      refine ⟨_, m, k, rfl, HW.ref l0 l1, hok, ?_⟩
      exact ⟨tau [], rfl, (by repeat' (first | exact rfl | exact trivial | assumption | refine ⟨?_, ?_⟩)), hwk⟩
    by_cases hl : m.lies k = 0
    rotate_left
    · have hI : m.holdI k b = m := if_neg hl
      refine vc_sound hE 40 _ _ _ 30 ?_
      (refine (?_ : br _ _ _); refine br_eqF hl ?_)
      exact ⟨rfl, by rw [hI]; exact HW.same l0 l1⟩
    obtain ⟨j, rfl, hj⟩ := Md.lies_0 hl
    have hI : m.holdI j b = { m with H := updB m.H j b } := by unfold Md.holdI; rw [if_pos hl]; rfl
    refine vc_sound hE 60 _ _ _ 30 ?_
    (refine (?_ : br _ _ _); refine br_eqT hl ?_)
    (refine (?_ : chk _ _); refine chk_ok (show (decide ((0 : Int) ≤ (j : Int)) && decide ((j : Int) < (m.n : Int))) = true by simp only [Bool.and_eq_true, decide_eq_true_eq]; omega) ?_)
    (refine (?_ : chk _ _); refine chk_ok rfl ?_)
    (refine (?_ : chk _ _); refine chk_ok (Nat.ble_eq_true_of_le (show j * 1 + 0 + 1 ≤ m.n * 1 by omega)) ?_)
    refine ⟨rfl, _, _, 2001, c0, 2002, c1, rfl, fun c _ => by rw [hI], rfl, fun i hi => ?_, by rw [hI]; exact .inl ⟨rfl, l0⟩, by rw [hI]; exact .inl ⟨rfl, l1⟩, by decide⟩
    rw [hI]
    exact gb_put
end Go.Proofs.Ytdjekplkejkgdaa.Sx

/-
  One step on both shelves.
-/
namespace Go.Proofs.Ytdjekplkejkgdaa.Sx
open Go Go.Proofs
set_option maxRecDepth 100000
set_option linter.unusedSimpArgs false
set_option linter.unusedVariables false

/-- A step: what becomes of the shelf, and its code. -/
def Md.step (m : Md) (kd L k : Int) : Md := if kd = 0 then m.frontI L k else if kd = 1 then m.dropI k else if kd = 2 ∨ kd = 3 then m.holdI k (kd == 2) else m
def Md.stepC (m : Md) (kd L k : Int) : Int := if kd = 0 then m.frontC L k else if kd = 1 ∨ kd = 2 ∨ kd = 3 then m.lies k else 0

theorem refA_of {h : Hp} {bR bH : Nat} {e0 e1 : Ent} {c0 c1 : Nat} {m : Md} (f0 : fd 2000 h = .blk bR 1 5 (gF m.n m.b 2001 (m.L 0).length c0 2002 (m.L 1).length c1 2003) 66) (f1 : fd 2001 h = e0.toRo) (f2 : fd 2002 h = e1.toRo) (f3 : fd 2003 h = .blk bH m.n 1 (gb m.H) 4) (l0 : lstE e0 (cI (m.L 0)) c0) (l1 : lstE e1 (cI (m.L 1)) c1) :
    RefA h (.ptr 2000 0 0) m 2000 2001 2002 2003 bR bH e0 e1 c0 c1 (gF m.n m.b 2001 (m.L 0).length c0 2002 (m.L 1).length c1 2003) (gb m.H) :=
  ⟨rfl, rfl, f0, fun c _ => rfl, .inr f1, l0, .inr f2, l1, f3, fun i _ => rfl⟩
theorem refOut_of {h1 : Hp} {bR bH : Nat} {e0 e1 E0 E1 : Ent} {c0 c1 c0' c1' t0' t1' a : Nat} {m m' : Md} (hn : m'.n = m.n) (hb : m'.b = m.b) (n0 : NewL a E0 2001 t0' e0 (cI (m'.L 0)) c0') (n1 : NewL (a + 1) E1 2002 t1' e1 (cI (m'.L 1)) c1')
    (f0 : fd 2000 h1 = .blk bR 1 5 (gF m'.n m'.b t0' (m'.L 0).length c0' t1' (m'.L 1).length c1' 2003) 66) (f3 : fd 2003 h1 = .blk bH m'.n 1 (gb m'.H) 4) (g0 : fd a h1 = E0) (g1 : fd (a + 1) h1 = E1) (ha : a + 1 < 2000) (r0 : fd 2001 h1 = e0.toRo) (r1 : fd 2002 h1 = e1.toRo) : RefOut h1 bR bH e0 e1 c0 c1 m m' := by
  refine ⟨_, _, t0', c0', t1', c1', f0, fun c _ => by rw [hn, hb], by rw [f3, hn], fun i _ => rfl, ?_, ?_, ?_⟩
  · rcases n0 with ⟨rfl, _, h⟩ | ⟨rfl, b, g, ty, rfl, q1, q2, q3⟩
    · exact .inl ⟨r0, h⟩
    · exact .inr ⟨by omega, b, g, ty, g0, q1, q2, q3⟩
  · rcases n1 with ⟨rfl, _, h⟩ | ⟨rfl, b, g, ty, rfl, q1, q2, q3⟩
    · exact .inl ⟨r1, h⟩
    · exact .inr ⟨by omega, b, g, ty, g1, q1, q2, q3⟩
  · rcases n0 with ⟨rfl, _⟩ | ⟨rfl, _⟩ <;> rcases n1 with ⟨rfl, _⟩ | ⟨rfl, _⟩ <;> omega

theorem drop_nb {m : Md} {k : Int} : (m.dropI k).n = m.n ∧ (m.dropI k).b = m.b := by
  unfold Md.dropI
  split
  · unfold Md.out
    constructor
    · show (match m.at k.toNat with | some q => _ | none => m).n = _; split <;> rfl
    · show (match m.at k.toNat with | some q => _ | none => m).b = _; split <;> rfl
  · exact ⟨rfl, rfl⟩
theorem hold_nb {m : Md} {k : Int} {b : Bool} : (m.holdI k b).n = m.n ∧ (m.holdI k b).b = m.b := by unfold Md.holdI; split <;> exact ⟨rfl, rfl⟩
theorem step_nb {m : Md} {kd L k : Int} : (m.step kd L k).n = m.n ∧ (m.step kd L k).b = m.b := by
  unfold Md.step
  split
  · exact front_nb
  · split
    · exact drop_nb
    · split
      · exact hold_nb
      · exact ⟨rfl, rfl⟩
theorem step_c0 {m : Md} {L k : Int} : m.frontC L k = m.stepC 0 L k := rfl
theorem step_c1 {m : Md} {L k : Int} : m.lies k = m.stepC 1 L k := rfl
theorem step_c2 {m : Md} {kd L k : Int} (h : kd = 2 ∨ kd = 3) : m.lies k = m.stepC kd L k := by unfold Md.stepC; rw [if_neg (by omega), if_pos (by omega)]
theorem step_0 {m : Md} {L k : Int} : m.step 0 L k = m.frontI L k := rfl
theorem step_1 {m : Md} {L k : Int} : m.step 1 L k = m.dropI k := rfl
theorem step_2 {m : Md} {kd L k : Int} (h : kd = 2 ∨ kd = 3) : m.step kd L k = m.holdI k (kd == 2) := by unfold Md.step; rw [if_neg (by omega), if_neg (by omega), if_pos h]

def gBox (kd L k : Int) : Nat → Nat → V := fun _ c => match c with | 0 => .int .i64 kd | 1 => .int .i64 L | _ => .int .i64 k
abbrev RFront : Spec := fun args h nx K => ∃ p rest m m' v, args = p :: rest ∧ preRFront rest m m' v ∧ rMut h nx K p m m' v
abbrev RDrop : Spec := fun args h nx K => ∃ p rest m m' v, args = p :: rest ∧ preRDrop rest m m' v ∧ rMut h nx K p m m' v
abbrev RHold : Spec := fun args h nx K => ∃ p rest m m' v, args = p :: rest ∧ preRHold rest m m' v ∧ rMut h nx K p m m' v
def SPS : SpT := [(20, mFront), (23, mHold), (24, mDrop), (26, RFront), (27, RDrop), (28, RHold)]
theorem sps : ∀ p ∈ SPS, SpecOK Try.prog p.1 p.2 := consSP mFront_ok (consSP mHold_ok (consSP mDrop_ok (consSP rfront_ok (consSP rdrop_ok (consSP rhold_ok noSP)))))

abbrev HS2 (bS bA : Nat) (s : Sh) (bR bH : Nat) (e0 e1 : Ent) (c0 c1 : Nat) (m : Md) : Hp := [(1, eS bS s), (2, eA bA s), (2000, .blk bR 1 5 (gF m.n m.b 2001 (m.L 0).length c0 2002 (m.L 1).length c1 2003) 66), (2001, e0.toRo), (2002, e1.toRo), (2003, .blk bH m.n 1 (gb m.H) 4)]
/-- What a step's walk leaves. -/
def StepOut (h1 : Hp) (bS bA : Nat) (s : Sh) (ms' : Md) (bR bH : Nat) (e0 e1 : Ent) (c0 c1 : Nat) (mr mr' : Md) : Prop :=
  (∃ s', s'.N = s.N ∧ Inv s' ms' ms'.n ∧ fd 1 h1 = .blk bS 1 8 (gS 2 s'.N s'.bot s'.E) 61 ∧ fd 2 h1 = .blk bA s.N 5 (gA s'.u s'.d s'.l s'.lo s'.he) 63) ∧ RefOut h1 bR bH e0 e1 c0 c1 mr mr'

theorem step_walk {c : Cx} (hc : c.P = Try.prog) {bS bA : Nat} {s : Sh} {ms : Md} (hi : Inv s ms ms.n) {bR bH : Nat} {e0 e1 : Ent} {c0 c1 : Nat} {mr : Md} (hok : Ok mr) (l0 : lstE e0 (cI (mr.L 0)) c0) (l1 : lstE e1 (cI (mr.L 1)) c1) (kd L k : Int) :
    ∃ cd, Try.f12.body = some cd ∧ W ⟨c, Try.f12, T, SPS, fun o h1 _ => o = .ret (.bool (ms.stepC kd L k == mr.stepC kd L k)) ∧ StepOut h1 bS bA s (ms.step kd L k) bR bH e0 e1 c0 c1 mr (mr.step kd L k)⟩ [.code cd] (argsS [.ptr 1 0 0, .ptr 2000 0 0, .agg [.int .i64 kd, .int .i64 L, .int .i64 k]] 0) (HS2 bS bA s bR bH e0 e1 c0 c1 mr) 0 := by
  refine ⟨_, rfl, ?_⟩
  have hE := mkE' (fn := Try.f12) (R := fun o h1 _ => o = .ret (.bool (ms.stepC kd L k == mr.stepC kd L k)) ∧ StepOut h1 bS bA s (ms.step kd L k) bR bH e0 e1 c0 c1 mr (mr.step kd L k)) hc sps
  have v0 : e0.toRo.here := l0.ro_live
  have v1 : e1.toRo.here := l1.ro_live
  have same : ∀ h1, fd 1 h1 = eS bS s → fd 2 h1 = eA bA s → fd 2000 h1 = .blk bR 1 5 (gF mr.n mr.b 2001 (mr.L 0).length c0 2002 (mr.L 1).length c1 2003) 66 → fd 2001 h1 = e0.toRo → fd 2002 h1 = e1.toRo → fd 2003 h1 = .blk bH mr.n 1 (gb mr.H) 4 → StepOut h1 bS bA s ms bR bH e0 e1 c0 c1 mr mr := fun h1 a1 a2 a3 a4 a5 a6 => ⟨⟨s, rfl, hi, a1, a2⟩, _, _, 2001, c0, 2002, c1, a3, fun c _ => rfl, a6, fun i _ => rfl, .inl ⟨a4, l0⟩, .inl ⟨a5, l1⟩, by decide⟩
  -- the step is put into a box
  refine W_seq (nx := 0) ?_
  refine W_ex (nx := 0) (fun (_ : Nat) => True) (fun _ => [(0, .ptr 1 0 0), (1, .ptr 2000 0 0), (5, .ptr 3 0 0)]) (fun b => [(1, eS bS s), (2, eA bA s), (3, .blk b 1 3 (gBox kd L k) 33), (2000, .blk bR 1 5 (gF mr.n mr.b 2001 (mr.L 0).length c0 2002 (mr.L 1).length c1 2003) 66), (2001, e0.toRo), (2002, e1.toRo), (2003, .blk bH mr.n 1 (gb mr.H) 4)]) 30 ?_ ?_
  · refine vc_sound hE 20 _ _ _ 30 ?_
    intro b
    refine ⟨b, trivial, tau [(3, 30)], rfl, (by repeat' (first | exact rfl | exact trivial | assumption | refine ⟨?_, ?_⟩)), eS_wk ⟨rfl, trivial⟩, eA_wk rfl, ⟨rfl, rfl, rfl, rfl, fun i c hi hc => ?_⟩, ⟨rfl, rfl, rfl, rfl, fun i c hi hc => (by obtain rfl : i = 0 := (by omega); exact gF_rn ⟨rfl, v0⟩ ⟨rfl, v1⟩ ⟨rfl, trivial⟩ hc)⟩, l0.ro_wk _ _, l1.ro_wk _ _, ⟨rfl, rfl, rfl, rfl, fun i c hi hc => rfl⟩, trivial⟩
    have hi : i < 1 := hi
    have hc : c < 3 := hc
    obtain rfl : i = 0 := by omega
    match c, hc with
    | 0, _ | 1, _ | 2, _ => exact ⟨rfl, rfl⟩
  rintro b -
  have rn3 : (mr.frontI L k).n = mr.n := front_nb.1
  have rb3 : (mr.frontI L k).b = mr.b := front_nb.2
  have rn5 : (mr.dropI k).n = mr.n := drop_nb.1
  have rb5 : (mr.dropI k).b = mr.b := drop_nb.2
  have rn8 : (mr.holdI k (kd == 2)).n = mr.n := hold_nb.1
  have rb8 : (mr.holdI k (kd == 2)).b = mr.b := hold_nb.2
  refine W_seq (nx := 30) ?_
  by_cases h0 : kd = 0
  · subst h0
    refine W_piece (nx := 30) (fun _ _ _ => False) ?_ fun _ _ _ q => q.elim
    refine vc_sound hE 12 _ _ _ 30 ?_
    refine W_seq (nx := 30) ?_
    refine W_planw hE 31 [5, 11] (.take 0 (.take 1 (.take 2 (.take 3 (.take 4 (.take 6 (.take 7 (.take 9 (.all (.cons 5 (.all (.cons 8 (.all (.cons 10 (.all (.cons 11 (.take 12 (.take 13 (.done))) (.nil))) (.nil))) (.cons 10 (.all (.cons 8 (.all (.cons 11 (.take 12 (.take 13 (.done))) (.nil))) (.nil))) (.nil)))) (.cons 8 (.all (.cons 5 (.all (.cons 10 (.all (.cons 11 (.take 12 (.take 13 (.done))) (.nil))) (.nil))) (.cons 10 (.all (.cons 5 (.all (.cons 11 (.take 12 (.take 13 (.done))) (.nil))) (.nil))) (.nil)))) (.cons 10 (.all (.cons 5 (.all (.cons 8 (.all (.cons 11 (.take 12 (.take 13 (.done))) (.nil))) (.nil))) (.cons 8 (.all (.cons 5 (.all (.cons 11 (.take 12 (.take 13 (.done))) (.nil))) (.nil))) (.nil)))) (.nil))))))))))))) (by rw [hc]; exact mix) (by kernel_rfl) 0 ?_
    refine ⟨_, ⟨rfl, rfl⟩, ?_⟩
    refine ⟨_, ⟨rfl, rfl⟩, ?_⟩
    refine ⟨_, ⟨rfl, rfl⟩, ?_⟩
    refine ⟨_, ⟨rfl, rfl⟩, ?_⟩
    refine ⟨_, ⟨rfl, rfl⟩, ?_⟩
    refine ⟨_, ⟨rfl, rfl⟩, ?_⟩
    refine ⟨_, ⟨rfl, rfl⟩, ?_⟩
    refine ⟨_, ⟨rfl, rfl⟩, ?_⟩
    refine ⟨⟨trivial, ?_⟩, ⟨trivial, ?_⟩, ⟨trivial, ?_⟩, trivial⟩
    · skip
      refine ⟨_, ms, L, k, rfl, hi.mut rfl rfl fun s2 hN hi2 => ?_⟩
      refine ⟨⟨trivial, ?_⟩, ⟨trivial, ?_⟩, trivial⟩
      · skip
        skip
        refine ⟨⟨trivial, ?_⟩, trivial⟩
        skip
        refine ⟨⟨trivial, ?_⟩, trivial⟩
        refine ⟨_, _, mr, mr.frontI L k, .int .i64 (mr.frontC L k), rfl, ⟨L, k, rfl, hok, rfl, rfl⟩, 2000, 2001, 2002, 2003, bR, bH, e0, e1, c0, c1, _, _, refA_of rfl rfl rfl rfl l0 l1, rfl, rfl, fun t0' E0 c0' t1' E1 c1' n0 n1 => ?_⟩
        refine ⟨_, ⟨rfl, rfl⟩, ?_⟩
        refine ⟨_, ⟨rfl, rfl⟩, ?_⟩
        refine vc_sound hE 20 _ _ _ 30 ?_
        exact ⟨outB (by rw [step_c0, step_c0]), ⟨s2, hN, hi2, rfl, rfl⟩, refOut_of (rn3) (rb3) n0 n1 rfl rfl rfl rfl (by decide) rfl rfl⟩
      · skip
        skip
        refine ⟨⟨trivial, ?_⟩, trivial⟩
        skip
        refine ⟨⟨trivial, ?_⟩, trivial⟩
        refine ⟨_, _, mr, mr.frontI L k, .int .i64 (mr.frontC L k), rfl, ⟨L, k, rfl, hok, rfl, rfl⟩, 2000, 2001, 2002, 2003, bR, bH, e0, e1, c0, c1, _, _, refA_of rfl rfl rfl rfl l0 l1, rfl, rfl, fun t0' E0 c0' t1' E1 c1' n0 n1 => ?_⟩
        refine ⟨_, ⟨rfl, rfl⟩, ?_⟩
        refine ⟨_, ⟨rfl, rfl⟩, ?_⟩
        refine vc_sound hE 20 _ _ _ 30 ?_
        exact ⟨outB (by rw [step_c0, step_c0]), ⟨s2, hN, hi2, rfl, rfl⟩, refOut_of (rn3) (rb3) n0 n1 rfl rfl rfl rfl (by decide) rfl rfl⟩
    · skip
      skip
      refine ⟨⟨trivial, ?_⟩, ⟨trivial, ?_⟩, trivial⟩
      · skip
        refine ⟨_, ms, L, k, rfl, hi.mut rfl rfl fun s2 hN hi2 => ?_⟩
        refine ⟨⟨trivial, ?_⟩, trivial⟩
        skip
        refine ⟨⟨trivial, ?_⟩, trivial⟩
        refine ⟨_, _, mr, mr.frontI L k, .int .i64 (mr.frontC L k), rfl, ⟨L, k, rfl, hok, rfl, rfl⟩, 2000, 2001, 2002, 2003, bR, bH, e0, e1, c0, c1, _, _, refA_of rfl rfl rfl rfl l0 l1, rfl, rfl, fun t0' E0 c0' t1' E1 c1' n0 n1 => ?_⟩
        refine ⟨_, ⟨rfl, rfl⟩, ?_⟩
        refine ⟨_, ⟨rfl, rfl⟩, ?_⟩
        refine vc_sound hE 20 _ _ _ 30 ?_
        exact ⟨outB (by rw [step_c0, step_c0]), ⟨s2, hN, hi2, rfl, rfl⟩, refOut_of (rn3) (rb3) n0 n1 rfl rfl rfl rfl (by decide) rfl rfl⟩
      · skip
        skip
        refine ⟨⟨trivial, ?_⟩, trivial⟩
        refine ⟨_, ms, L, k, rfl, hi.mut rfl rfl fun s2 hN hi2 => ?_⟩
        refine ⟨⟨trivial, ?_⟩, trivial⟩
        refine ⟨_, _, mr, mr.frontI L k, .int .i64 (mr.frontC L k), rfl, ⟨L, k, rfl, hok, rfl, rfl⟩, 2000, 2001, 2002, 2003, bR, bH, e0, e1, c0, c1, _, _, refA_of rfl rfl rfl rfl l0 l1, rfl, rfl, fun t0' E0 c0' t1' E1 c1' n0 n1 => ?_⟩
        refine ⟨_, ⟨rfl, rfl⟩, ?_⟩
        refine ⟨_, ⟨rfl, rfl⟩, ?_⟩
        refine vc_sound hE 20 _ _ _ 30 ?_
        exact ⟨outB (by rw [step_c0, step_c0]), ⟨s2, hN, hi2, rfl, rfl⟩, refOut_of (rn3) (rb3) n0 n1 rfl rfl rfl rfl (by decide) rfl rfl⟩
    · skip
      skip
      refine ⟨⟨trivial, ?_⟩, ⟨trivial, ?_⟩, trivial⟩
      · skip
        refine ⟨_, ms, L, k, rfl, hi.mut rfl rfl fun s2 hN hi2 => ?_⟩
        refine ⟨⟨trivial, ?_⟩, trivial⟩
        skip
        refine ⟨⟨trivial, ?_⟩, trivial⟩
        refine ⟨_, _, mr, mr.frontI L k, .int .i64 (mr.frontC L k), rfl, ⟨L, k, rfl, hok, rfl, rfl⟩, 2000, 2001, 2002, 2003, bR, bH, e0, e1, c0, c1, _, _, refA_of rfl rfl rfl rfl l0 l1, rfl, rfl, fun t0' E0 c0' t1' E1 c1' n0 n1 => ?_⟩
        refine ⟨_, ⟨rfl, rfl⟩, ?_⟩
        refine ⟨_, ⟨rfl, rfl⟩, ?_⟩
        refine vc_sound hE 20 _ _ _ 30 ?_
        exact ⟨outB (by rw [step_c0, step_c0]), ⟨s2, hN, hi2, rfl, rfl⟩, refOut_of (rn3) (rb3) n0 n1 rfl rfl rfl rfl (by decide) rfl rfl⟩
      · skip
        skip
        refine ⟨⟨trivial, ?_⟩, trivial⟩
        refine ⟨_, ms, L, k, rfl, hi.mut rfl rfl fun s2 hN hi2 => ?_⟩
        refine ⟨⟨trivial, ?_⟩, trivial⟩
        refine ⟨_, _, mr, mr.frontI L k, .int .i64 (mr.frontC L k), rfl, ⟨L, k, rfl, hok, rfl, rfl⟩, 2000, 2001, 2002, 2003, bR, bH, e0, e1, c0, c1, _, _, refA_of rfl rfl rfl rfl l0 l1, rfl, rfl, fun t0' E0 c0' t1' E1 c1' n0 n1 => ?_⟩
        refine ⟨_, ⟨rfl, rfl⟩, ?_⟩
        refine ⟨_, ⟨rfl, rfl⟩, ?_⟩
        refine vc_sound hE 20 _ _ _ 30 ?_
        exact ⟨outB (by rw [step_c0, step_c0]), ⟨s2, hN, hi2, rfl, rfl⟩, refOut_of (rn3) (rb3) n0 n1 rfl rfl rfl rfl (by decide) rfl rfl⟩

  by_cases h1 : kd = 1
  · subst h1
    refine W_piece (nx := 30) (fun _ _ _ => False) ?_ fun _ _ _ q => q.elim
    refine vc_sound hE 18 _ _ _ 30 ?_
    refine W_seq (nx := 30) ?_
    refine W_planw hE 31 [3, 7] (.take 0 (.take 1 (.take 2 (.take 4 (.take 5 (.all (.cons 3 (.all (.cons 6 (.all (.cons 7 (.take 8 (.take 9 (.done))) (.nil))) (.nil))) (.cons 6 (.all (.cons 3 (.all (.cons 7 (.take 8 (.take 9 (.done))) (.nil))) (.nil))) (.nil))))))))) (by rw [hc]; exact mix) (by kernel_rfl) 0 ?_
    refine ⟨_, ⟨rfl, rfl⟩, ?_⟩
    refine ⟨_, ⟨rfl, rfl⟩, ?_⟩
    refine ⟨_, ⟨rfl, rfl⟩, ?_⟩
    refine ⟨_, ⟨rfl, rfl⟩, ?_⟩
    refine ⟨_, ⟨rfl, rfl⟩, ?_⟩
    refine ⟨⟨trivial, ?_⟩, ⟨trivial, ?_⟩, trivial⟩
    · skip
      refine ⟨_, ms, k, rfl, hi.mut rfl rfl fun s2 hN hi2 => ?_⟩
      refine ⟨⟨trivial, ?_⟩, trivial⟩
      skip
      refine ⟨⟨trivial, ?_⟩, trivial⟩
      refine ⟨_, _, mr, mr.dropI k, .int .i64 (mr.lies k), rfl, ⟨k, rfl, hok, rfl, rfl⟩, 2000, 2001, 2002, 2003, bR, bH, e0, e1, c0, c1, _, _, refA_of rfl rfl rfl rfl l0 l1, rfl, rfl, fun t0' E0 c0' t1' E1 c1' n0 n1 => ?_⟩
      refine ⟨_, ⟨rfl, rfl⟩, ?_⟩
      refine ⟨_, ⟨rfl, rfl⟩, ?_⟩
      refine vc_sound hE 20 _ _ _ 30 ?_
      exact ⟨outB (by rw [step_c1, step_c1]), ⟨s2, hN, hi2, rfl, rfl⟩, refOut_of (rn5) (rb5) n0 n1 rfl rfl rfl rfl (by decide) rfl rfl⟩
    · skip
      skip
      refine ⟨⟨trivial, ?_⟩, trivial⟩
      refine ⟨_, ms, k, rfl, hi.mut rfl rfl fun s2 hN hi2 => ?_⟩
      refine ⟨⟨trivial, ?_⟩, trivial⟩
      refine ⟨_, _, mr, mr.dropI k, .int .i64 (mr.lies k), rfl, ⟨k, rfl, hok, rfl, rfl⟩, 2000, 2001, 2002, 2003, bR, bH, e0, e1, c0, c1, _, _, refA_of rfl rfl rfl rfl l0 l1, rfl, rfl, fun t0' E0 c0' t1' E1 c1' n0 n1 => ?_⟩
      refine ⟨_, ⟨rfl, rfl⟩, ?_⟩
      refine ⟨_, ⟨rfl, rfl⟩, ?_⟩
      refine vc_sound hE 20 _ _ _ 30 ?_
      exact ⟨outB (by rw [step_c1, step_c1]), ⟨s2, hN, hi2, rfl, rfl⟩, refOut_of (rn5) (rb5) n0 n1 rfl rfl rfl rfl (by decide) rfl rfl⟩

  by_cases h2 : kd = 2
  · subst h2
    refine W_piece (nx := 30) (fun _ _ _ => False) ?_ fun _ _ _ q => q.elim
    refine vc_sound hE 27 _ _ _ 30 ?_
    refine W_seq (nx := 30) ?_
    refine W_planw hE 31 [6, 13] (.take 0 (.take 1 (.take 2 (.take 3 (.take 4 (.take 5 (.take 7 (.take 8 (.take 10 (.all (.cons 6 (.all (.cons 9 (.all (.cons 11 (.all (.cons 12 (.all (.cons 13 (.take 14 (.take 15 (.done))) (.nil))) (.nil))) (.nil))) (.cons 11 (.all (.cons 9 (.all (.cons 12 (.all (.cons 13 (.take 14 (.take 15 (.done))) (.nil))) (.nil))) (.cons 12 (.all (.cons 9 (.all (.cons 13 (.take 14 (.take 15 (.done))) (.nil))) (.nil))) (.nil)))) (.nil)))) (.cons 9 (.all (.cons 6 (.all (.cons 11 (.all (.cons 12 (.all (.cons 13 (.take 14 (.take 15 (.done))) (.nil))) (.nil))) (.nil))) (.cons 11 (.all (.cons 6 (.all (.cons 12 (.all (.cons 13 (.take 14 (.take 15 (.done))) (.nil))) (.nil))) (.cons 12 (.all (.cons 6 (.all (.cons 13 (.take 14 (.take 15 (.done))) (.nil))) (.nil))) (.nil)))) (.nil)))) (.cons 11 (.all (.cons 6 (.all (.cons 9 (.all (.cons 12 (.all (.cons 13 (.take 14 (.take 15 (.done))) (.nil))) (.nil))) (.cons 12 (.all (.cons 9 (.all (.cons 13 (.take 14 (.take 15 (.done))) (.nil))) (.nil))) (.nil)))) (.cons 9 (.all (.cons 6 (.all (.cons 12 (.all (.cons 13 (.take 14 (.take 15 (.done))) (.nil))) (.nil))) (.cons 12 (.all (.cons 6 (.all (.cons 13 (.take 14 (.take 15 (.done))) (.nil))) (.nil))) (.nil)))) (.cons 12 (.all (.cons 6 (.all (.cons 9 (.all (.cons 13 (.take 14 (.take 15 (.done))) (.nil))) (.nil))) (.cons 9 (.all (.cons 6 (.all (.cons 13 (.take 14 (.take 15 (.done))) (.nil))) (.nil))) (.nil)))) (.nil))))) (.nil)))))))))))))) (by rw [hc]; exact mix) (by kernel_rfl) 0 ?_
    refine ⟨_, ⟨rfl, rfl⟩, ?_⟩
    refine ⟨_, ⟨rfl, rfl⟩, ?_⟩
    refine ⟨_, ⟨rfl, rfl⟩, ?_⟩
    refine ⟨_, ⟨rfl, rfl⟩, ?_⟩
    refine ⟨_, ⟨rfl, rfl⟩, ?_⟩
    refine ⟨_, ⟨rfl, rfl⟩, ?_⟩
    refine ⟨_, ⟨rfl, rfl⟩, ?_⟩
    refine ⟨_, ⟨rfl, rfl⟩, ?_⟩
    refine ⟨_, ⟨rfl, rfl⟩, ?_⟩
    refine ⟨⟨trivial, ?_⟩, ⟨trivial, ?_⟩, ⟨trivial, ?_⟩, trivial⟩
    · skip
      refine ⟨_, ms, k, (2 : Int) == 2, rfl, hi.mut rfl rfl fun s2 hN hi2 => ?_⟩
      refine ⟨⟨trivial, ?_⟩, ⟨trivial, ?_⟩, trivial⟩
      · skip
        skip
        refine ⟨⟨trivial, ?_⟩, trivial⟩
        skip
        refine ⟨⟨trivial, ?_⟩, trivial⟩
        skip
        refine ⟨⟨trivial, ?_⟩, trivial⟩
        refine ⟨_, _, mr, mr.holdI k ((2 : Int) == 2), .int .i64 (mr.lies k), rfl, ⟨k, (2 : Int) == 2, rfl, hok, rfl, rfl⟩, 2000, 2001, 2002, 2003, bR, bH, e0, e1, c0, c1, _, _, refA_of rfl rfl rfl rfl l0 l1, rfl, rfl, fun t0' E0 c0' t1' E1 c1' n0 n1 => ?_⟩
        refine ⟨_, ⟨rfl, rfl⟩, ?_⟩
        refine ⟨_, ⟨rfl, rfl⟩, ?_⟩
        refine vc_sound hE 20 _ _ _ 30 ?_
        exact ⟨outB (by rfl), ⟨s2, hN, hi2, rfl, rfl⟩, refOut_of (rn8) (rb8) n0 n1 rfl rfl rfl rfl (by decide) rfl rfl⟩
      · skip
        skip
        refine ⟨⟨trivial, ?_⟩, ⟨trivial, ?_⟩, trivial⟩
        · skip
          skip
          refine ⟨⟨trivial, ?_⟩, trivial⟩
          skip
          refine ⟨⟨trivial, ?_⟩, trivial⟩
          refine ⟨_, _, mr, mr.holdI k ((2 : Int) == 2), .int .i64 (mr.lies k), rfl, ⟨k, (2 : Int) == 2, rfl, hok, rfl, rfl⟩, 2000, 2001, 2002, 2003, bR, bH, e0, e1, c0, c1, _, _, refA_of rfl rfl rfl rfl l0 l1, rfl, rfl, fun t0' E0 c0' t1' E1 c1' n0 n1 => ?_⟩
          refine ⟨_, ⟨rfl, rfl⟩, ?_⟩
          refine ⟨_, ⟨rfl, rfl⟩, ?_⟩
          refine vc_sound hE 20 _ _ _ 30 ?_
          exact ⟨outB (by rfl), ⟨s2, hN, hi2, rfl, rfl⟩, refOut_of (rn8) (rb8) n0 n1 rfl rfl rfl rfl (by decide) rfl rfl⟩
        · skip
          skip
          refine ⟨⟨trivial, ?_⟩, trivial⟩
          skip
          refine ⟨⟨trivial, ?_⟩, trivial⟩
          refine ⟨_, _, mr, mr.holdI k ((2 : Int) == 2), .int .i64 (mr.lies k), rfl, ⟨k, (2 : Int) == 2, rfl, hok, rfl, rfl⟩, 2000, 2001, 2002, 2003, bR, bH, e0, e1, c0, c1, _, _, refA_of rfl rfl rfl rfl l0 l1, rfl, rfl, fun t0' E0 c0' t1' E1 c1' n0 n1 => ?_⟩
          refine ⟨_, ⟨rfl, rfl⟩, ?_⟩
          refine ⟨_, ⟨rfl, rfl⟩, ?_⟩
          refine vc_sound hE 20 _ _ _ 30 ?_
          exact ⟨outB (by rfl), ⟨s2, hN, hi2, rfl, rfl⟩, refOut_of (rn8) (rb8) n0 n1 rfl rfl rfl rfl (by decide) rfl rfl⟩
    · skip
      skip
      refine ⟨⟨trivial, ?_⟩, ⟨trivial, ?_⟩, trivial⟩
      · skip
        refine ⟨_, ms, k, (2 : Int) == 2, rfl, hi.mut rfl rfl fun s2 hN hi2 => ?_⟩
        refine ⟨⟨trivial, ?_⟩, trivial⟩
        skip
        refine ⟨⟨trivial, ?_⟩, trivial⟩
        skip
        refine ⟨⟨trivial, ?_⟩, trivial⟩
        refine ⟨_, _, mr, mr.holdI k ((2 : Int) == 2), .int .i64 (mr.lies k), rfl, ⟨k, (2 : Int) == 2, rfl, hok, rfl, rfl⟩, 2000, 2001, 2002, 2003, bR, bH, e0, e1, c0, c1, _, _, refA_of rfl rfl rfl rfl l0 l1, rfl, rfl, fun t0' E0 c0' t1' E1 c1' n0 n1 => ?_⟩
        refine ⟨_, ⟨rfl, rfl⟩, ?_⟩
        refine ⟨_, ⟨rfl, rfl⟩, ?_⟩
        refine vc_sound hE 20 _ _ _ 30 ?_
        exact ⟨outB (by rfl), ⟨s2, hN, hi2, rfl, rfl⟩, refOut_of (rn8) (rb8) n0 n1 rfl rfl rfl rfl (by decide) rfl rfl⟩
      · skip
        skip
        refine ⟨⟨trivial, ?_⟩, ⟨trivial, ?_⟩, trivial⟩
        · skip
          refine ⟨_, ms, k, (2 : Int) == 2, rfl, hi.mut rfl rfl fun s2 hN hi2 => ?_⟩
          refine ⟨⟨trivial, ?_⟩, trivial⟩
          skip
          refine ⟨⟨trivial, ?_⟩, trivial⟩
          refine ⟨_, _, mr, mr.holdI k ((2 : Int) == 2), .int .i64 (mr.lies k), rfl, ⟨k, (2 : Int) == 2, rfl, hok, rfl, rfl⟩, 2000, 2001, 2002, 2003, bR, bH, e0, e1, c0, c1, _, _, refA_of rfl rfl rfl rfl l0 l1, rfl, rfl, fun t0' E0 c0' t1' E1 c1' n0 n1 => ?_⟩
          refine ⟨_, ⟨rfl, rfl⟩, ?_⟩
          refine ⟨_, ⟨rfl, rfl⟩, ?_⟩
          refine vc_sound hE 20 _ _ _ 30 ?_
          exact ⟨outB (by rfl), ⟨s2, hN, hi2, rfl, rfl⟩, refOut_of (rn8) (rb8) n0 n1 rfl rfl rfl rfl (by decide) rfl rfl⟩
        · skip
          skip
          refine ⟨⟨trivial, ?_⟩, trivial⟩
          refine ⟨_, ms, k, (2 : Int) == 2, rfl, hi.mut rfl rfl fun s2 hN hi2 => ?_⟩
          refine ⟨⟨trivial, ?_⟩, trivial⟩
          refine ⟨_, _, mr, mr.holdI k ((2 : Int) == 2), .int .i64 (mr.lies k), rfl, ⟨k, (2 : Int) == 2, rfl, hok, rfl, rfl⟩, 2000, 2001, 2002, 2003, bR, bH, e0, e1, c0, c1, _, _, refA_of rfl rfl rfl rfl l0 l1, rfl, rfl, fun t0' E0 c0' t1' E1 c1' n0 n1 => ?_⟩
          refine ⟨_, ⟨rfl, rfl⟩, ?_⟩
          refine ⟨_, ⟨rfl, rfl⟩, ?_⟩
          refine vc_sound hE 20 _ _ _ 30 ?_
          exact ⟨outB (by rfl), ⟨s2, hN, hi2, rfl, rfl⟩, refOut_of (rn8) (rb8) n0 n1 rfl rfl rfl rfl (by decide) rfl rfl⟩
    · skip
      skip
      refine ⟨⟨trivial, ?_⟩, ⟨trivial, ?_⟩, ⟨trivial, ?_⟩, trivial⟩
      · skip
        refine ⟨_, ms, k, (2 : Int) == 2, rfl, hi.mut rfl rfl fun s2 hN hi2 => ?_⟩
        refine ⟨⟨trivial, ?_⟩, ⟨trivial, ?_⟩, trivial⟩
        · skip
          skip
          refine ⟨⟨trivial, ?_⟩, trivial⟩
          skip
          refine ⟨⟨trivial, ?_⟩, trivial⟩
          refine ⟨_, _, mr, mr.holdI k ((2 : Int) == 2), .int .i64 (mr.lies k), rfl, ⟨k, (2 : Int) == 2, rfl, hok, rfl, rfl⟩, 2000, 2001, 2002, 2003, bR, bH, e0, e1, c0, c1, _, _, refA_of rfl rfl rfl rfl l0 l1, rfl, rfl, fun t0' E0 c0' t1' E1 c1' n0 n1 => ?_⟩
          refine ⟨_, ⟨rfl, rfl⟩, ?_⟩
          refine ⟨_, ⟨rfl, rfl⟩, ?_⟩
          refine vc_sound hE 20 _ _ _ 30 ?_
          exact ⟨outB (by rfl), ⟨s2, hN, hi2, rfl, rfl⟩, refOut_of (rn8) (rb8) n0 n1 rfl rfl rfl rfl (by decide) rfl rfl⟩
        · skip
          skip
          refine ⟨⟨trivial, ?_⟩, trivial⟩
          skip
          refine ⟨⟨trivial, ?_⟩, trivial⟩
          refine ⟨_, _, mr, mr.holdI k ((2 : Int) == 2), .int .i64 (mr.lies k), rfl, ⟨k, (2 : Int) == 2, rfl, hok, rfl, rfl⟩, 2000, 2001, 2002, 2003, bR, bH, e0, e1, c0, c1, _, _, refA_of rfl rfl rfl rfl l0 l1, rfl, rfl, fun t0' E0 c0' t1' E1 c1' n0 n1 => ?_⟩
          refine ⟨_, ⟨rfl, rfl⟩, ?_⟩
          refine ⟨_, ⟨rfl, rfl⟩, ?_⟩
          refine vc_sound hE 20 _ _ _ 30 ?_
          exact ⟨outB (by rfl), ⟨s2, hN, hi2, rfl, rfl⟩, refOut_of (rn8) (rb8) n0 n1 rfl rfl rfl rfl (by decide) rfl rfl⟩
      · skip
        skip
        refine ⟨⟨trivial, ?_⟩, ⟨trivial, ?_⟩, trivial⟩
        · skip
          refine ⟨_, ms, k, (2 : Int) == 2, rfl, hi.mut rfl rfl fun s2 hN hi2 => ?_⟩
          refine ⟨⟨trivial, ?_⟩, trivial⟩
          skip
          refine ⟨⟨trivial, ?_⟩, trivial⟩
          refine ⟨_, _, mr, mr.holdI k ((2 : Int) == 2), .int .i64 (mr.lies k), rfl, ⟨k, (2 : Int) == 2, rfl, hok, rfl, rfl⟩, 2000, 2001, 2002, 2003, bR, bH, e0, e1, c0, c1, _, _, refA_of rfl rfl rfl rfl l0 l1, rfl, rfl, fun t0' E0 c0' t1' E1 c1' n0 n1 => ?_⟩
          refine ⟨_, ⟨rfl, rfl⟩, ?_⟩
          refine ⟨_, ⟨rfl, rfl⟩, ?_⟩
          refine vc_sound hE 20 _ _ _ 30 ?_
          exact ⟨outB (by rfl), ⟨s2, hN, hi2, rfl, rfl⟩, refOut_of (rn8) (rb8) n0 n1 rfl rfl rfl rfl (by decide) rfl rfl⟩
        · skip
          skip
          refine ⟨⟨trivial, ?_⟩, trivial⟩
          refine ⟨_, ms, k, (2 : Int) == 2, rfl, hi.mut rfl rfl fun s2 hN hi2 => ?_⟩
          refine ⟨⟨trivial, ?_⟩, trivial⟩
          refine ⟨_, _, mr, mr.holdI k ((2 : Int) == 2), .int .i64 (mr.lies k), rfl, ⟨k, (2 : Int) == 2, rfl, hok, rfl, rfl⟩, 2000, 2001, 2002, 2003, bR, bH, e0, e1, c0, c1, _, _, refA_of rfl rfl rfl rfl l0 l1, rfl, rfl, fun t0' E0 c0' t1' E1 c1' n0 n1 => ?_⟩
          refine ⟨_, ⟨rfl, rfl⟩, ?_⟩
          refine ⟨_, ⟨rfl, rfl⟩, ?_⟩
          refine vc_sound hE 20 _ _ _ 30 ?_
          exact ⟨outB (by rfl), ⟨s2, hN, hi2, rfl, rfl⟩, refOut_of (rn8) (rb8) n0 n1 rfl rfl rfl rfl (by decide) rfl rfl⟩
      · skip
        skip
        refine ⟨⟨trivial, ?_⟩, ⟨trivial, ?_⟩, trivial⟩
        · skip
          refine ⟨_, ms, k, (2 : Int) == 2, rfl, hi.mut rfl rfl fun s2 hN hi2 => ?_⟩
          refine ⟨⟨trivial, ?_⟩, trivial⟩
          skip
          refine ⟨⟨trivial, ?_⟩, trivial⟩
          refine ⟨_, _, mr, mr.holdI k ((2 : Int) == 2), .int .i64 (mr.lies k), rfl, ⟨k, (2 : Int) == 2, rfl, hok, rfl, rfl⟩, 2000, 2001, 2002, 2003, bR, bH, e0, e1, c0, c1, _, _, refA_of rfl rfl rfl rfl l0 l1, rfl, rfl, fun t0' E0 c0' t1' E1 c1' n0 n1 => ?_⟩
          refine ⟨_, ⟨rfl, rfl⟩, ?_⟩
          refine ⟨_, ⟨rfl, rfl⟩, ?_⟩
          refine vc_sound hE 20 _ _ _ 30 ?_
          exact ⟨outB (by rfl), ⟨s2, hN, hi2, rfl, rfl⟩, refOut_of (rn8) (rb8) n0 n1 rfl rfl rfl rfl (by decide) rfl rfl⟩
        · skip
          skip
          refine ⟨⟨trivial, ?_⟩, trivial⟩
          refine ⟨_, ms, k, (2 : Int) == 2, rfl, hi.mut rfl rfl fun s2 hN hi2 => ?_⟩
          refine ⟨⟨trivial, ?_⟩, trivial⟩
          refine ⟨_, _, mr, mr.holdI k ((2 : Int) == 2), .int .i64 (mr.lies k), rfl, ⟨k, (2 : Int) == 2, rfl, hok, rfl, rfl⟩, 2000, 2001, 2002, 2003, bR, bH, e0, e1, c0, c1, _, _, refA_of rfl rfl rfl rfl l0 l1, rfl, rfl, fun t0' E0 c0' t1' E1 c1' n0 n1 => ?_⟩
          refine ⟨_, ⟨rfl, rfl⟩, ?_⟩
          refine ⟨_, ⟨rfl, rfl⟩, ?_⟩
          refine vc_sound hE 20 _ _ _ 30 ?_
          exact ⟨outB (by rfl), ⟨s2, hN, hi2, rfl, rfl⟩, refOut_of (rn8) (rb8) n0 n1 rfl rfl rfl rfl (by decide) rfl rfl⟩

  by_cases h3 : kd = 3
  · subst h3
    refine W_piece (nx := 30) (fun _ _ _ => False) ?_ fun _ _ _ q => q.elim
    refine vc_sound hE 30 _ _ _ 30 ?_
    refine W_seq (nx := 30) ?_
    refine W_planw hE 31 [6, 13] (.take 0 (.take 1 (.take 2 (.take 3 (.take 4 (.take 5 (.take 7 (.take 8 (.take 10 (.all (.cons 6 (.all (.cons 9 (.all (.cons 11 (.all (.cons 12 (.all (.cons 13 (.take 14 (.take 15 (.done))) (.nil))) (.nil))) (.nil))) (.cons 11 (.all (.cons 9 (.all (.cons 12 (.all (.cons 13 (.take 14 (.take 15 (.done))) (.nil))) (.nil))) (.cons 12 (.all (.cons 9 (.all (.cons 13 (.take 14 (.take 15 (.done))) (.nil))) (.nil))) (.nil)))) (.nil)))) (.cons 9 (.all (.cons 6 (.all (.cons 11 (.all (.cons 12 (.all (.cons 13 (.take 14 (.take 15 (.done))) (.nil))) (.nil))) (.nil))) (.cons 11 (.all (.cons 6 (.all (.cons 12 (.all (.cons 13 (.take 14 (.take 15 (.done))) (.nil))) (.nil))) (.cons 12 (.all (.cons 6 (.all (.cons 13 (.take 14 (.take 15 (.done))) (.nil))) (.nil))) (.nil)))) (.nil)))) (.cons 11 (.all (.cons 6 (.all (.cons 9 (.all (.cons 12 (.all (.cons 13 (.take 14 (.take 15 (.done))) (.nil))) (.nil))) (.cons 12 (.all (.cons 9 (.all (.cons 13 (.take 14 (.take 15 (.done))) (.nil))) (.nil))) (.nil)))) (.cons 9 (.all (.cons 6 (.all (.cons 12 (.all (.cons 13 (.take 14 (.take 15 (.done))) (.nil))) (.nil))) (.cons 12 (.all (.cons 6 (.all (.cons 13 (.take 14 (.take 15 (.done))) (.nil))) (.nil))) (.nil)))) (.cons 12 (.all (.cons 6 (.all (.cons 9 (.all (.cons 13 (.take 14 (.take 15 (.done))) (.nil))) (.nil))) (.cons 9 (.all (.cons 6 (.all (.cons 13 (.take 14 (.take 15 (.done))) (.nil))) (.nil))) (.nil)))) (.nil))))) (.nil)))))))))))))) (by rw [hc]; exact mix) (by kernel_rfl) 0 ?_
    refine ⟨_, ⟨rfl, rfl⟩, ?_⟩
    refine ⟨_, ⟨rfl, rfl⟩, ?_⟩
    refine ⟨_, ⟨rfl, rfl⟩, ?_⟩
    refine ⟨_, ⟨rfl, rfl⟩, ?_⟩
    refine ⟨_, ⟨rfl, rfl⟩, ?_⟩
    refine ⟨_, ⟨rfl, rfl⟩, ?_⟩
    refine ⟨_, ⟨rfl, rfl⟩, ?_⟩
    refine ⟨_, ⟨rfl, rfl⟩, ?_⟩
    refine ⟨_, ⟨rfl, rfl⟩, ?_⟩
    refine ⟨⟨trivial, ?_⟩, ⟨trivial, ?_⟩, ⟨trivial, ?_⟩, trivial⟩
    · skip
      refine ⟨_, ms, k, (3 : Int) == 2, rfl, hi.mut rfl rfl fun s2 hN hi2 => ?_⟩
      refine ⟨⟨trivial, ?_⟩, ⟨trivial, ?_⟩, trivial⟩
      · skip
        skip
        refine ⟨⟨trivial, ?_⟩, trivial⟩
        skip
        refine ⟨⟨trivial, ?_⟩, trivial⟩
        skip
        refine ⟨⟨trivial, ?_⟩, trivial⟩
        refine ⟨_, _, mr, mr.holdI k ((3 : Int) == 2), .int .i64 (mr.lies k), rfl, ⟨k, (3 : Int) == 2, rfl, hok, rfl, rfl⟩, 2000, 2001, 2002, 2003, bR, bH, e0, e1, c0, c1, _, _, refA_of rfl rfl rfl rfl l0 l1, rfl, rfl, fun t0' E0 c0' t1' E1 c1' n0 n1 => ?_⟩
        refine ⟨_, ⟨rfl, rfl⟩, ?_⟩
        refine ⟨_, ⟨rfl, rfl⟩, ?_⟩
        refine vc_sound hE 20 _ _ _ 30 ?_
        exact ⟨outB (by rfl), ⟨s2, hN, hi2, rfl, rfl⟩, refOut_of (rn8) (rb8) n0 n1 rfl rfl rfl rfl (by decide) rfl rfl⟩
      · skip
        skip
        refine ⟨⟨trivial, ?_⟩, ⟨trivial, ?_⟩, trivial⟩
        · skip
          skip
          refine ⟨⟨trivial, ?_⟩, trivial⟩
          skip
          refine ⟨⟨trivial, ?_⟩, trivial⟩
          refine ⟨_, _, mr, mr.holdI k ((3 : Int) == 2), .int .i64 (mr.lies k), rfl, ⟨k, (3 : Int) == 2, rfl, hok, rfl, rfl⟩, 2000, 2001, 2002, 2003, bR, bH, e0, e1, c0, c1, _, _, refA_of rfl rfl rfl rfl l0 l1, rfl, rfl, fun t0' E0 c0' t1' E1 c1' n0 n1 => ?_⟩
          refine ⟨_, ⟨rfl, rfl⟩, ?_⟩
          refine ⟨_, ⟨rfl, rfl⟩, ?_⟩
          refine vc_sound hE 20 _ _ _ 30 ?_
          exact ⟨outB (by rfl), ⟨s2, hN, hi2, rfl, rfl⟩, refOut_of (rn8) (rb8) n0 n1 rfl rfl rfl rfl (by decide) rfl rfl⟩
        · skip
          skip
          refine ⟨⟨trivial, ?_⟩, trivial⟩
          skip
          refine ⟨⟨trivial, ?_⟩, trivial⟩
          refine ⟨_, _, mr, mr.holdI k ((3 : Int) == 2), .int .i64 (mr.lies k), rfl, ⟨k, (3 : Int) == 2, rfl, hok, rfl, rfl⟩, 2000, 2001, 2002, 2003, bR, bH, e0, e1, c0, c1, _, _, refA_of rfl rfl rfl rfl l0 l1, rfl, rfl, fun t0' E0 c0' t1' E1 c1' n0 n1 => ?_⟩
          refine ⟨_, ⟨rfl, rfl⟩, ?_⟩
          refine ⟨_, ⟨rfl, rfl⟩, ?_⟩
          refine vc_sound hE 20 _ _ _ 30 ?_
          exact ⟨outB (by rfl), ⟨s2, hN, hi2, rfl, rfl⟩, refOut_of (rn8) (rb8) n0 n1 rfl rfl rfl rfl (by decide) rfl rfl⟩
    · skip
      skip
      refine ⟨⟨trivial, ?_⟩, ⟨trivial, ?_⟩, trivial⟩
      · skip
        refine ⟨_, ms, k, (3 : Int) == 2, rfl, hi.mut rfl rfl fun s2 hN hi2 => ?_⟩
        refine ⟨⟨trivial, ?_⟩, trivial⟩
        skip
        refine ⟨⟨trivial, ?_⟩, trivial⟩
        skip
        refine ⟨⟨trivial, ?_⟩, trivial⟩
        refine ⟨_, _, mr, mr.holdI k ((3 : Int) == 2), .int .i64 (mr.lies k), rfl, ⟨k, (3 : Int) == 2, rfl, hok, rfl, rfl⟩, 2000, 2001, 2002, 2003, bR, bH, e0, e1, c0, c1, _, _, refA_of rfl rfl rfl rfl l0 l1, rfl, rfl, fun t0' E0 c0' t1' E1 c1' n0 n1 => ?_⟩
        refine ⟨_, ⟨rfl, rfl⟩, ?_⟩
        refine ⟨_, ⟨rfl, rfl⟩, ?_⟩
        refine vc_sound hE 20 _ _ _ 30 ?_
        exact ⟨outB (by rfl), ⟨s2, hN, hi2, rfl, rfl⟩, refOut_of (rn8) (rb8) n0 n1 rfl rfl rfl rfl (by decide) rfl rfl⟩
      · skip
        skip
        refine ⟨⟨trivial, ?_⟩, ⟨trivial, ?_⟩, trivial⟩
        · skip
          refine ⟨_, ms, k, (3 : Int) == 2, rfl, hi.mut rfl rfl fun s2 hN hi2 => ?_⟩
          refine ⟨⟨trivial, ?_⟩, trivial⟩
          skip
          refine ⟨⟨trivial, ?_⟩, trivial⟩
          refine ⟨_, _, mr, mr.holdI k ((3 : Int) == 2), .int .i64 (mr.lies k), rfl, ⟨k, (3 : Int) == 2, rfl, hok, rfl, rfl⟩, 2000, 2001, 2002, 2003, bR, bH, e0, e1, c0, c1, _, _, refA_of rfl rfl rfl rfl l0 l1, rfl, rfl, fun t0' E0 c0' t1' E1 c1' n0 n1 => ?_⟩
          refine ⟨_, ⟨rfl, rfl⟩, ?_⟩
          refine ⟨_, ⟨rfl, rfl⟩, ?_⟩
          refine vc_sound hE 20 _ _ _ 30 ?_
          exact ⟨outB (by rfl), ⟨s2, hN, hi2, rfl, rfl⟩, refOut_of (rn8) (rb8) n0 n1 rfl rfl rfl rfl (by decide) rfl rfl⟩
        · skip
          skip
          refine ⟨⟨trivial, ?_⟩, trivial⟩
          refine ⟨_, ms, k, (3 : Int) == 2, rfl, hi.mut rfl rfl fun s2 hN hi2 => ?_⟩
          refine ⟨⟨trivial, ?_⟩, trivial⟩
          refine ⟨_, _, mr, mr.holdI k ((3 : Int) == 2), .int .i64 (mr.lies k), rfl, ⟨k, (3 : Int) == 2, rfl, hok, rfl, rfl⟩, 2000, 2001, 2002, 2003, bR, bH, e0, e1, c0, c1, _, _, refA_of rfl rfl rfl rfl l0 l1, rfl, rfl, fun t0' E0 c0' t1' E1 c1' n0 n1 => ?_⟩
          refine ⟨_, ⟨rfl, rfl⟩, ?_⟩
          refine ⟨_, ⟨rfl, rfl⟩, ?_⟩
          refine vc_sound hE 20 _ _ _ 30 ?_
          exact ⟨outB (by rfl), ⟨s2, hN, hi2, rfl, rfl⟩, refOut_of (rn8) (rb8) n0 n1 rfl rfl rfl rfl (by decide) rfl rfl⟩
    · skip
      skip
      refine ⟨⟨trivial, ?_⟩, ⟨trivial, ?_⟩, ⟨trivial, ?_⟩, trivial⟩
      · skip
        refine ⟨_, ms, k, (3 : Int) == 2, rfl, hi.mut rfl rfl fun s2 hN hi2 => ?_⟩
        refine ⟨⟨trivial, ?_⟩, ⟨trivial, ?_⟩, trivial⟩
        · skip
          skip
          refine ⟨⟨trivial, ?_⟩, trivial⟩
          skip
          refine ⟨⟨trivial, ?_⟩, trivial⟩
          refine ⟨_, _, mr, mr.holdI k ((3 : Int) == 2), .int .i64 (mr.lies k), rfl, ⟨k, (3 : Int) == 2, rfl, hok, rfl, rfl⟩, 2000, 2001, 2002, 2003, bR, bH, e0, e1, c0, c1, _, _, refA_of rfl rfl rfl rfl l0 l1, rfl, rfl, fun t0' E0 c0' t1' E1 c1' n0 n1 => ?_⟩
          refine ⟨_, ⟨rfl, rfl⟩, ?_⟩
          refine ⟨_, ⟨rfl, rfl⟩, ?_⟩
          refine vc_sound hE 20 _ _ _ 30 ?_
          exact ⟨outB (by rfl), ⟨s2, hN, hi2, rfl, rfl⟩, refOut_of (rn8) (rb8) n0 n1 rfl rfl rfl rfl (by decide) rfl rfl⟩
        · skip
          skip
          refine ⟨⟨trivial, ?_⟩, trivial⟩
          skip
          refine ⟨⟨trivial, ?_⟩, trivial⟩
          refine ⟨_, _, mr, mr.holdI k ((3 : Int) == 2), .int .i64 (mr.lies k), rfl, ⟨k, (3 : Int) == 2, rfl, hok, rfl, rfl⟩, 2000, 2001, 2002, 2003, bR, bH, e0, e1, c0, c1, _, _, refA_of rfl rfl rfl rfl l0 l1, rfl, rfl, fun t0' E0 c0' t1' E1 c1' n0 n1 => ?_⟩
          refine ⟨_, ⟨rfl, rfl⟩, ?_⟩
          refine ⟨_, ⟨rfl, rfl⟩, ?_⟩
          refine vc_sound hE 20 _ _ _ 30 ?_
          exact ⟨outB (by rfl), ⟨s2, hN, hi2, rfl, rfl⟩, refOut_of (rn8) (rb8) n0 n1 rfl rfl rfl rfl (by decide) rfl rfl⟩
      · skip
        skip
        refine ⟨⟨trivial, ?_⟩, ⟨trivial, ?_⟩, trivial⟩
        · skip
          refine ⟨_, ms, k, (3 : Int) == 2, rfl, hi.mut rfl rfl fun s2 hN hi2 => ?_⟩
          refine ⟨⟨trivial, ?_⟩, trivial⟩
          skip
          refine ⟨⟨trivial, ?_⟩, trivial⟩
          refine ⟨_, _, mr, mr.holdI k ((3 : Int) == 2), .int .i64 (mr.lies k), rfl, ⟨k, (3 : Int) == 2, rfl, hok, rfl, rfl⟩, 2000, 2001, 2002, 2003, bR, bH, e0, e1, c0, c1, _, _, refA_of rfl rfl rfl rfl l0 l1, rfl, rfl, fun t0' E0 c0' t1' E1 c1' n0 n1 => ?_⟩
          refine ⟨_, ⟨rfl, rfl⟩, ?_⟩
          refine ⟨_, ⟨rfl, rfl⟩, ?_⟩
          refine vc_sound hE 20 _ _ _ 30 ?_
          exact ⟨outB (by rfl), ⟨s2, hN, hi2, rfl, rfl⟩, refOut_of (rn8) (rb8) n0 n1 rfl rfl rfl rfl (by decide) rfl rfl⟩
        · skip
          skip
          refine ⟨⟨trivial, ?_⟩, trivial⟩
          refine ⟨_, ms, k, (3 : Int) == 2, rfl, hi.mut rfl rfl fun s2 hN hi2 => ?_⟩
          refine ⟨⟨trivial, ?_⟩, trivial⟩
          refine ⟨_, _, mr, mr.holdI k ((3 : Int) == 2), .int .i64 (mr.lies k), rfl, ⟨k, (3 : Int) == 2, rfl, hok, rfl, rfl⟩, 2000, 2001, 2002, 2003, bR, bH, e0, e1, c0, c1, _, _, refA_of rfl rfl rfl rfl l0 l1, rfl, rfl, fun t0' E0 c0' t1' E1 c1' n0 n1 => ?_⟩
          refine ⟨_, ⟨rfl, rfl⟩, ?_⟩
          refine ⟨_, ⟨rfl, rfl⟩, ?_⟩
          refine vc_sound hE 20 _ _ _ 30 ?_
          exact ⟨outB (by rfl), ⟨s2, hN, hi2, rfl, rfl⟩, refOut_of (rn8) (rb8) n0 n1 rfl rfl rfl rfl (by decide) rfl rfl⟩
      · skip
        skip
        refine ⟨⟨trivial, ?_⟩, ⟨trivial, ?_⟩, trivial⟩
        · skip
          refine ⟨_, ms, k, (3 : Int) == 2, rfl, hi.mut rfl rfl fun s2 hN hi2 => ?_⟩
          refine ⟨⟨trivial, ?_⟩, trivial⟩
          skip
          refine ⟨⟨trivial, ?_⟩, trivial⟩
          refine ⟨_, _, mr, mr.holdI k ((3 : Int) == 2), .int .i64 (mr.lies k), rfl, ⟨k, (3 : Int) == 2, rfl, hok, rfl, rfl⟩, 2000, 2001, 2002, 2003, bR, bH, e0, e1, c0, c1, _, _, refA_of rfl rfl rfl rfl l0 l1, rfl, rfl, fun t0' E0 c0' t1' E1 c1' n0 n1 => ?_⟩
          refine ⟨_, ⟨rfl, rfl⟩, ?_⟩
          refine ⟨_, ⟨rfl, rfl⟩, ?_⟩
          refine vc_sound hE 20 _ _ _ 30 ?_
          exact ⟨outB (by rfl), ⟨s2, hN, hi2, rfl, rfl⟩, refOut_of (rn8) (rb8) n0 n1 rfl rfl rfl rfl (by decide) rfl rfl⟩
        · skip
          skip
          refine ⟨⟨trivial, ?_⟩, trivial⟩
          refine ⟨_, ms, k, (3 : Int) == 2, rfl, hi.mut rfl rfl fun s2 hN hi2 => ?_⟩
          refine ⟨⟨trivial, ?_⟩, trivial⟩
          refine ⟨_, _, mr, mr.holdI k ((3 : Int) == 2), .int .i64 (mr.lies k), rfl, ⟨k, (3 : Int) == 2, rfl, hok, rfl, rfl⟩, 2000, 2001, 2002, 2003, bR, bH, e0, e1, c0, c1, _, _, refA_of rfl rfl rfl rfl l0 l1, rfl, rfl, fun t0' E0 c0' t1' E1 c1' n0 n1 => ?_⟩
          refine ⟨_, ⟨rfl, rfl⟩, ?_⟩
          refine ⟨_, ⟨rfl, rfl⟩, ?_⟩
          refine vc_sound hE 20 _ _ _ 30 ?_
          exact ⟨outB (by rfl), ⟨s2, hN, hi2, rfl, rfl⟩, refOut_of (rn8) (rb8) n0 n1 rfl rfl rfl rfl (by decide) rfl rfl⟩

  -- nothing
  have e1 : ∀ m : Md, m.step kd L k = m := fun m => by unfold Md.step; rw [if_neg h0, if_neg h1, if_neg (by omega)]
  have e2 : ∀ m : Md, m.stepC kd L k = 0 := fun m => by unfold Md.stepC; rw [if_neg h0, if_neg (by omega)]
  refine vc_sound hE 80 _ _ _ 30 ?_
  (refine (?_ : br _ _ _); refine br_eqF h0 ?_)
  (refine (?_ : br _ _ _); refine br_eqF h1 ?_)
  (refine (?_ : br _ _ _); refine br_eqF h2 ?_)
  (refine (?_ : br _ _ _); refine br_eqF h3 ?_)
  rw [e1, e1, e2, e2]
  exact ⟨rfl, same _ rfl rfl rfl rfl rfl rfl⟩
end Go.Proofs.Ytdjekplkejkgdaa.Sx

