import Derived.Test.YtiihiifcnkfjoaaDoorSxG6
/-
  The document's shelf: Front.
-/
namespace Go.Proofs.YtiihiifcnkfjoaaDoor.Sx
open Go Go.Proofs
set_option maxRecDepth 100000
set_option linter.unusedSimpArgs false
set_option linter.unusedVariables false

/-- A list's row behind a call: the one that there was, or a new one. -/
def XL (X e : Ent) (l : List Nat) (c : Nat) : Prop := (X = e.toRo ∧ lstE e (cI l) c) ∨ ∃ b g ty, X = .blk b c 1 g ty ∧ (cI l).length ≤ c ∧ c ≤ 9223372036854775807 ∧ cellsL g (cI l) c
theorem XL.wk {X e : Ent} {l : List Nat} {c : Nat} (h : XL X e l c) (τ : Nat → Nat) (h' : Hp) : wkE τ h' X X := by
  rcases h with ⟨rfl, h⟩ | ⟨b, g, ty, rfl, h1, h2, h3⟩
  · exact h.ro_wk _ _
  · exact lst_wk (lstE.of h3 h1 h2) _ _
theorem XL.live {X e : Ent} {l : List Nat} {c : Nat} (h : XL X e l c) : X.here := by
  rcases h with ⟨rfl, h⟩ | ⟨b, g, ty, rfl, h1, h2, h3⟩
  · exact h.ro_live
  · trivial
theorem XL.cap {X e : Ent} {l : List Nat} {c : Nat} (h : XL X e l c) : l.length ≤ c := by
  rw [← cI_len]
  rcases h with ⟨rfl, h⟩ | ⟨b, g, ty, rfl, h1, h2, h3⟩
  · exact lst_cap h
  · exact h1
theorem XL.rd {X e : Ent} {l : List Nat} {c : Nat} (h : XL X e l c) {hh : Hp} {t : Nat} (ht : fd t hh = X ∨ fd t hh = X.toRo) : rdL hh (.slice t 0 l.length c) (cI l) := by
  rw [← cI_len]
  rcases h with ⟨rfl, h⟩ | ⟨b, g, ty, rfl, h1, h2, h3⟩
  · exact h.rd2 (by rcases ht with q | q; exact q; rw [q, toRo_toRo])
  · rcases ht with q | q
    · exact (lstE.of h3 h1 h2).rd q
    · exact (lstE.of (b := b) (ty := ty) h3 h1 h2).rd2 q
theorem XL.out {X e : Ent} {l : List Nat} {c t : Nat} {h1 : Hp} (h : XL X e l c) (ht : t < 2000) (e1 : fd t h1 = X) : OutL h1 t e l c := by
  rcases h with ⟨rfl, h⟩ | ⟨b, g, ty, rfl, h1, h2, h3⟩
  · exact .inl ⟨e1, h⟩
  · exact .inr ⟨ht, b, g, ty, e1, h1, h2, h3⟩
theorem NewL.xl {nx t t' c : Nat} {E e : Ent} {l : List Nat} (h : NewL nx E t t' e (cI l) c) {hh : Hp} (h1 : fd t hh = e.toRo) (h2 : fd nx hh = E) : ∃ X, XL X e l c ∧ fd t' hh = X := by
  rcases h with ⟨rfl, _, h⟩ | ⟨rfl, h⟩
  · exact ⟨_, .inl ⟨rfl, h⟩, h1⟩
  · refine ⟨E, ?_, h2⟩
    exact .inr h

/-- What is known of a shelf of the document's behind a first call. -/
abbrev HX (bR bH : Nat) (X0 X1 : Ent) (c0 c1 : Nat) (m : Md) : Hp := [(2000, .blk bR 1 5 (gF m.n m.b 40 (m.L 0).length c0 41 (m.L 1).length c1 2003) 68), (40, X0), (41, X1), (2003, .blk bH m.n 1 (gb m.H) 4)]
theorem HX.wk {bR bH : Nat} {X0 X1 e0 e1 : Ent} {c0 c1 : Nat} {m : Md} (l0 : XL X0 e0 (m.L 0) c0) (l1 : XL X1 e1 (m.L 1) c1) : wkH (tau []) (HX bR bH X0 X1 c0 c1 m) (HX bR bH X0 X1 c0 c1 m) (HX bR bH X0 X1 c0 c1 m) := by
  have v0 : live (HX bR bH X0 X1 c0 c1 m) 40 := l0.live
  have v1 : live (HX bR bH X0 X1 c0 c1 m) 41 := l1.live
  exact ⟨⟨rfl, rfl, rfl, rfl, fun i c hi hc => (by obtain rfl : i = 0 := (by omega); exact gF_rn ⟨rfl, v0⟩ ⟨rfl, v1⟩ ⟨rfl, trivial⟩ hc)⟩, l0.wk _ _, l1.wk _ _, ⟨rfl, rfl, rfl, rfl, fun i c hi hc => rfl⟩, trivial⟩
/-- Behind a call that writes into the shelf: told anew. -/
theorem HX.of {bR bH : Nat} {e0 e1 E0 E1 : Ent} {c0 c1 t0' t1' c0' c1' : Nat} {m m' : Md} {h : Hp} (hn : m'.n = m.n) (n0 : NewL 30 E0 2001 t0' e0 (cI (m'.L 0)) c0') (n1 : NewL 31 E1 2002 t1' e1 (cI (m'.L 1)) c1')
    (hh : h = (2000, .blk bR 1 5 (gF m'.n m'.b t0' (m'.L 0).length c0' t1' (m'.L 1).length c1' 2003) 68) :: (2003, .blk bH m'.n 1 (gb m'.H) 4) :: (30, E0) :: (31, E1) :: HW bR bH e0 e1 c0 c1 m) :
    ∃ X0 X1, XL X0 e0 (m'.L 0) c0' ∧ XL X1 e1 (m'.L 1) c1' ∧ nodupB ([2000, 40, 41, 2003].map (tau [(40, t0'), (41, t1')])) = true ∧ wkH (tau [(40, t0'), (41, t1')]) h (HX bR bH X0 X1 c0' c1' m') (HX bR bH X0 X1 c0' c1' m') := by
  subst hh
  obtain ⟨X0, x0, f0⟩ := n0.xl (hh := (2000, .blk bR 1 5 (gF m'.n m'.b t0' (m'.L 0).length c0' t1' (m'.L 1).length c1' 2003) 68) :: (2003, .blk bH m'.n 1 (gb m'.H) 4) :: (30, E0) :: (31, E1) :: HW bR bH e0 e1 c0 c1 m) rfl rfl
  obtain ⟨X1, x1, f1⟩ := n1.xl (hh := (2000, .blk bR 1 5 (gF m'.n m'.b t0' (m'.L 0).length c0' t1' (m'.L 1).length c1' 2003) 68) :: (2003, .blk bH m'.n 1 (gb m'.H) 4) :: (30, E0) :: (31, E1) :: HW bR bH e0 e1 c0 c1 m) rfl rfl
  have v0 : live (HX bR bH X0 X1 c0' c1' m') 40 := x0.live
  have v1 : live (HX bR bH X0 X1 c0' c1' m') 41 := x1.live
  refine ⟨X0, X1, x0, x1, ?_, ⟨rfl, rfl, rfl, rfl, fun i c hi hc => ?_⟩, ?_, ?_, ⟨rfl, rfl, rfl, rfl, fun i c hi hc => rfl⟩, trivial⟩
  · rcases n0 with ⟨rfl, _, _⟩ | ⟨rfl, _⟩ <;> rcases n1 with ⟨rfl, _, _⟩ | ⟨rfl, _⟩ <;> rfl
  · obtain rfl : i = 0 := by omega
    exact gF_rn ⟨rfl, v0⟩ ⟨rfl, v1⟩ ⟨rfl, trivial⟩ hc
  · show wkE _ _ (fd t0' _) X0
    rw [f0]
    exact x0.wk _ _
  · show wkE _ _ (fd t1' _) X1
    rw [f1]
    exact x1.wk _ _
theorem HW.A {bR bH : Nat} {e0 e1 : Ent} {c0 c1 : Nat} {m : Md} (l0 : lstE e0 (cI (m.L 0)) c0) (l1 : lstE e1 (cI (m.L 1)) c1) : RefA (HW bR bH e0 e1 c0 c1 m) (.ptr 2000 0 0) m 2000 2001 2002 2003 bR bH e0 e1 c0 c1 (gF m.n m.b 2001 (m.L 0).length c0 2002 (m.L 1).length c1 2003) (gb m.H) :=
  ⟨rfl, rfl, rfl, fun c _ => rfl, .inr rfl, l0, .inr rfl, l1, rfl, fun i _ => rfl⟩
theorem HX.out {bR bH : Nat} {X0 X1 e0 e1 : Ent} {c0 c1 c0' c1' : Nat} {m m' : Md} (hn : m'.n = m.n) (hb : m'.b = m.b) (l0 : XL X0 e0 (m'.L 0) c0') (l1 : XL X1 e1 (m'.L 1) c1') : RefOut (HX bR bH X0 X1 c0' c1' m') bR bH e0 e1 c0 c1 m m' :=
  ⟨_, _, 40, c0', 41, c1', rfl, fun c _ => by rw [hn, hb], by rw [← hn]; rfl, fun i _ => rfl, l0.out (by decide) rfl, l1.out (by decide) rfl, by decide⟩

def preRFront : List V → Md → Md → V → Prop := fun rest m m' v => ∃ L k : Int, rest = [.int .i64 L, .int .i64 k] ∧ Ok m ∧ m' = m.frontI L k ∧ v = .int .i64 (m.frontC L k)
abbrev ROut : Spec := fun args h nx K => ∃ p rest m m' v, args = p :: rest ∧ preROut rest m m' v ∧ rMut h nx K p m m' v
def SPRF : SpT := [(68, ROut)]
theorem sprf : ∀ p ∈ SPRF, SpecOK Tryd.prog p.1 p.2 := consSP rout_ok noSP
theorem front_nb {m : Md} {L k : Int} : (m.frontI L k).n = m.n ∧ (m.frontI L k).b = m.b := by
  unfold Md.frontI Md.front Md.out Md.set
  split
  · split <;> exact ⟨rfl, rfl⟩
  · exact ⟨rfl, rfl⟩
theorem rfront_ok : SpecOK Tryd.prog 51 (fun args h nx K => ∃ p rest m m' v, args = p :: rest ∧ preRFront rest m m' v ∧ rMut h nx K p m m' v) := by
  refine specOK_ref (fn := Tryd.f51) rfl rfl rfl T_ok (SP := SPRF) sprf preRFront ?_ ?_
  · rintro rest m m' v ⟨L, k, rfl, _, rfl, rfl⟩
    exact ⟨⟨trivial, trivial, trivial⟩, trivial, front_nb.1, front_nb.2, by simp [Tryd.f51]⟩
  · rintro rest m m' v bR bH e0 e1 c0 c1 c ⟨L, k, rfl, hok, rfl, rfl⟩ l0 l1 hc
    have hE := mkE' (fn := Tryd.f51) (R := fun o h1 _ => o = .ret (.int .i64 (m.frontC L k)) ∧ RefOut h1 bR bH e0 e1 c0 c1 m (m.frontI L k)) hc sprf
    have hwk := HW.wk (bR := bR) (bH := bH) l0 l1
    refine W_seq (nx := 0) ?_
    refine W_to (nx := 0) [(0, .ptr 2000 0 0), (1, .int .i64 L), (2, .int .i64 k)] (HW bR bH e0 e1 c0 c1 m) 30 ?_ ?_
    · refine vc_sound hE 20 _ _ _ 30 ?_
      exact ⟨tau [], rfl, (by repeat' (first | exact rfl | exact trivial | assumption | refine ⟨?_, ?_⟩)), hwk⟩
    by_cases hm : rightB L = true ∧ m.isN k = true
    rotate_left
    · -- what may not be
      have hI : m.frontI L k = m := if_neg hm
      have hC : m.frontC L k = 1 := if_neg hm
      have fin : (fun o h1 (_ : Nat) => o = Out.ret (.int .i64 (m.frontC L k)) ∧ RefOut h1 bR bH e0 e1 c0 c1 m (m.frontI L k)) (.ret (.int .i64 1)) (HW bR bH e0 e1 c0 c1 m) 30 := ⟨by rw [hC], by rw [hI]; exact HW.same l0 l1⟩
      refine W_seq (nx := 30) ?_
      refine W_piece (nx := 30) (fun _ _ _ => False) ?_ fun _ _ _ q => q.elim
      refine vc_sound hE 60 _ _ _ 30 ?_
      (refine (?_ : br _ _ _); refine br_dec (fun q => ?_) (fun q => ?_))
      · exact fin
      have q1 : ¬ L < 0 := q
      clear q
      (refine (?_ : br _ _ _); refine br_dec (fun q => ?_) (fun q => ?_))
      · exact fin
      have q2 : ¬ 1 < L := q
      clear q
      (refine (?_ : br _ _ _); refine br_dec (fun q => ?_) (fun q => ?_))
      · exact fin
      have q3 : ¬ k < 0 := q
      clear q
      (refine (?_ : br _ _ _); refine br_dec (fun q => ?_) (fun q => ?_))
      · exact fin
      have q4 : ¬ (m.n : Int) ≤ k := q
      exact absurd ⟨by unfold rightB; simp only [Bool.and_eq_true, decide_eq_true_eq]; omega, by unfold Md.isN; simp only [Bool.and_eq_true, decide_eq_true_eq]; omega⟩ hm
    have hm0 := hm
    obtain ⟨hr, hN⟩ := hm
    obtain ⟨q, rfl, hq⟩ := right_nat hr
    obtain ⟨j, rfl, hj⟩ := isN_nat hN
    have hI : m.frontI q j = m.front q j := by unfold Md.frontI; rw [if_pos hm0]; rfl
    have hC : m.frontC q j = 0 := if_pos hm0
    refine W_seq (nx := 30) ?_
    refine W_to (nx := 30) [(0, .ptr 2000 0 0), (1, .int .i64 q), (2, .int .i64 j)] (HW bR bH e0 e1 c0 c1 m) 30 ?_ ?_
    · refine vc_sound hE 60 _ _ _ 30 ?_
      (refine (?_ : br _ _ _); refine br_decF (show ¬ (1 : Int) < (q : Int) by omega) ?_)
      (refine (?_ : br _ _ _); refine br_decF (show ¬ (m.n : Int) ≤ (j : Int) by omega) ?_)
      exact ⟨tau [], rfl, (by repeat' (first | exact rfl | exact trivial | assumption | refine ⟨?_, ?_⟩)), hwk⟩
    have hon : (m.out j).n = m.n := by unfold Md.out; split <;> rfl
    have hob : (m.out j).b = m.b := by unfold Md.out; split <;> rfl
    refine W_seq (nx := 30) ?_
    refine W_ex (nx := 30) (fun (a : Ent × Ent × Nat × Nat) => XL a.1 e0 ((m.out j).L 0) a.2.2.1 ∧ XL a.2.1 e1 ((m.out j).L 1) a.2.2.2) (fun _ => [(0, .ptr 2000 0 0), (1, .int .i64 q), (2, .int .i64 j)]) (fun a => HX bR bH a.1 a.2.1 a.2.2.1 a.2.2.2 (m.out j)) 30 ?_ ?_
    · refine vc_sound hE 60 _ _ _ 30 ?_
      refine ⟨_, _, m, m.out j, .tup [], rfl, ⟨j, rfl, hok, rfl, rfl⟩, 2000, 2001, 2002, 2003, bR, bH, e0, e1, c0, c1, _, _, HW.A l0 l1, rfl, rfl, fun t0' E0 c0' t1' E1 c1' n0 n1 => ?_⟩
      obtain ⟨X0, X1, x0, x1, hnd, hwk2⟩ := HX.of hon n0 n1 rfl
      exact ⟨(X0, X1, c0', c1'), ⟨x0, x1⟩, tau [(40, t0'), (41, t1')], hnd, ⟨⟨⟨rfl, trivial⟩, rfl, rfl⟩, ⟨rfl, rfl⟩, ⟨rfl, rfl⟩, trivial⟩, hwk2⟩
    rintro ⟨X0, X1, c0', c1'⟩ ⟨x0, x1⟩
    have x0 : XL X0 e0 ((m.out j).L 0) c0' := x0
    have x1 : XL X1 e1 ((m.out j).L 1) c1' := x1
    have hlen : ∀ p, p < 2 → ((m.out j).L p).length ≤ 64 := fun p hp => by
      have h1 := (hok.front q j).len hp
      rw [hI] at h1
      unfold Md.front at h1
      by_cases e : p = q
      · subst e; rw [Md.set_at] at h1; simp only [List.length_cons] at h1; omega
      · rw [Md.set_ne e] at h1; exact h1
    clear hm0
    have hwk2 := HX.wk (bR := bR) (bH := bH) x0 x1
    obtain rfl | rfl : q = 0 ∨ q = 1 := by omega
    · -- list 0
      have hf0 : (m.frontI (0 : Nat) j).L 0 = j :: (m.out j).L 0 := by rw [hI]; exact Md.set_at
      have hf1 : (m.frontI (0 : Nat) j).L 1 = (m.out j).L 1 := by rw [hI]; exact Md.set_ne (by decide)
      have hfH : (m.frontI (0 : Nat) j).H = (m.out j).H := by rw [hI]; rfl
      have hfn : m.n = (m.out j).n := hon.symm
      have hfb : m.b = (m.out j).b := hob.symm
      have hl := hlen 0 (by omega)
      refine W_seq (nx := 30) ?_
      refine W_plan hE 50 14 (.take 0 (.take 1 (.take 2 (.take 4 (.take 5 (.take 6 (.take 7 (.take 8 (.take 9 (.take 11 (.take 12 (.all (.cons 3 (.all (.cons 10 (.take 13 (.all (.cons 14 (.done) (.nil)))) (.nil))) (.nil)))))))))))))) (by rw [hc]; exact mix) (by kernel_rfl) 0 ?_
      repeat' (first | refine ⟨_, ⟨rfl, rfl⟩, ?_⟩ | fail)
      refine ⟨⟨fun _ => trivial, fun bN => ?_⟩, trivial⟩
      have hd0 : ∀ (hh : Hp) g, fd 50 (roH hh) = .ro (some ⟨bN, 0, none⟩) 1 1 g → g 0 0 = .int .i64 j → rdL hh (.slice 50 0 1 1) [(j : Int)] := fun hh g e e2 => .inr ⟨50, 0, 1, _, 1, g, rfl, e, Nat.le_refl _, fun i hi => (by obtain rfl : i = 0 := (by simpa using hi); exact e2)⟩
      have hcn : ∀ tv i n c, V.slice 50 0 1 1 = .slice tv i n c → n ≤ c := fun _ _ _ _ e => by cases e; exact Nat.le_refl _
      refine ⟨⟨?_, ?_⟩, trivial⟩
      · refine step_app (v := .slice 50 0 1 1) (u := .slice 40 0 ((m.out j).L 0).length c0') rfl rfl ?_
        exact app_L (l := [(j : Int)]) intT (hd0 _ _ rfl rfl) hcn (x0.rd (.inr rfl)) rfl (by rw [cI_len]; simp only [List.length_cons, List.length_nil]; omega) (fun _ => trivial) (fun tv i c e hm hle => by
          have hm' : (cI ((m.out j).L 0)).length ≠ 0 := fun q => hm (List.eq_nil_of_length_eq_zero q)
          cases e
          simp only [List.length_cons, List.length_nil] at hle
          omega) (fun _ _ _ _ _ _ _ _ => trivial)
      · refine stepC_app (v := .slice 50 0 1 1) (u := .slice 40 0 ((m.out j).L 0).length c0') rfl rfl ?_
        refine app_L (l := [(j : Int)]) intT (hd0 _ _ rfl rfl) hcn (x0.rd (.inl rfl)) rfl (by rw [cI_len]; simp only [List.length_cons, List.length_nil]; omega) (fun hm => ?_) (fun tv i c e hm hle => by
          have hm' : (cI ((m.out j).L 0)).length ≠ 0 := fun q => hm (List.eq_nil_of_length_eq_zero q)
          cases e
          simp only [List.length_cons, List.length_nil] at hle
          omega) (fun hm b1 cap1 g1 ty1 p1 p2 p3 => ?_)
        · have hnil : (m.out j).L 0 = [] := by simpa [cI] using hm
          refine ⟨_, ⟨rfl, rfl⟩, ?_⟩
          refine ⟨⟨trivial, ?_⟩, trivial⟩
          refine vc_sound hE 20 _ _ _ 30 ?_
          refine ⟨by rw [hC]; rfl, ?_⟩
          have hF : (m.frontI (0 : Nat) j).L 0 = [j] := by rw [hf0, hnil]
          exact ⟨_, _, 50, 1, 41, c1', rfl, fun c hc => (by rw [hF, hf1, hfn, hfb]; exact gF_put0 c hc), by rw [hfn]; rfl, fun i _ => (by rw [hfH]; rfl), .inr ⟨by decide, bN, _, _, rfl, by rw [hF]; exact Nat.le_refl 1, by omega, by rw [hF]; exact ⟨fun i hi => (by obtain rfl : i = 0 := (by simpa [cI] using hi); rfl), fun i hi => (by obtain rfl : i = 0 := (by omega); trivial)⟩⟩, (by rw [hf1]; exact x1.out (by decide) rfl), by decide⟩
        · refine ⟨_, ⟨rfl, rfl⟩, ?_⟩
          refine ⟨⟨trivial, ?_⟩, trivial⟩
          refine vc_sound hE 20 _ _ _ 30 ?_
          refine ⟨by rw [hC]; rfl, ?_⟩
          have hF : [(j : Int)] ++ cI ((m.out j).L 0) = cI ((m.frontI (0 : Nat) j).L 0) := by rw [hf0]; rfl
          rw [hF] at p1 p3
          exact ⟨_, _, 51, cap1, 41, c1', rfl, fun c hc => (by rw [hF, cI_len, hf1, hfn, hfb]; exact gF_put0 c hc), by rw [hfn]; rfl, fun i _ => (by rw [hfH]; rfl), .inr ⟨by decide, b1, g1, ty1, rfl, p1, p2, p3⟩, (by rw [hf1]; exact x1.out (by decide) rfl), by decide⟩
    · -- list 1
      have hf1 : (m.frontI (1 : Nat) j).L 1 = j :: (m.out j).L 1 := by rw [hI]; exact Md.set_at
      have hf0 : (m.frontI (1 : Nat) j).L 0 = (m.out j).L 0 := by rw [hI]; exact Md.set_ne (by decide)
      have hfH : (m.frontI (1 : Nat) j).H = (m.out j).H := by rw [hI]; rfl
      have hfn : m.n = (m.out j).n := hon.symm
      have hfb : m.b = (m.out j).b := hob.symm
      have hl := hlen 1 (by omega)
      refine W_seq (nx := 30) ?_
      refine W_plan hE 50 14 (.take 0 (.take 1 (.take 2 (.take 4 (.take 5 (.take 6 (.take 7 (.take 8 (.take 9 (.take 11 (.take 12 (.all (.cons 3 (.all (.cons 10 (.take 13 (.all (.cons 14 (.done) (.nil)))) (.nil))) (.nil)))))))))))))) (by rw [hc]; exact mix) (by kernel_rfl) 0 ?_
      repeat' (first | refine ⟨_, ⟨rfl, rfl⟩, ?_⟩ | fail)
      refine ⟨⟨fun _ => trivial, fun bN => ?_⟩, trivial⟩
      have hd0 : ∀ (hh : Hp) g, fd 50 (roH hh) = .ro (some ⟨bN, 0, none⟩) 1 1 g → g 0 0 = .int .i64 j → rdL hh (.slice 50 0 1 1) [(j : Int)] := fun hh g e e2 => .inr ⟨50, 0, 1, _, 1, g, rfl, e, Nat.le_refl _, fun i hi => (by obtain rfl : i = 0 := (by simpa using hi); exact e2)⟩
      have hcn : ∀ tv i n c, V.slice 50 0 1 1 = .slice tv i n c → n ≤ c := fun _ _ _ _ e => by cases e; exact Nat.le_refl _
      refine ⟨⟨?_, ?_⟩, trivial⟩
      · refine step_app (v := .slice 50 0 1 1) (u := .slice 41 0 ((m.out j).L 1).length c1') rfl rfl ?_
        exact app_L (l := [(j : Int)]) intT (hd0 _ _ rfl rfl) hcn (x1.rd (.inr rfl)) rfl (by rw [cI_len]; simp only [List.length_cons, List.length_nil]; omega) (fun _ => trivial) (fun tv i c e hm hle => by
          have hm' : (cI ((m.out j).L 1)).length ≠ 0 := fun q => hm (List.eq_nil_of_length_eq_zero q)
          cases e
          simp only [List.length_cons, List.length_nil] at hle
          omega) (fun _ _ _ _ _ _ _ _ => trivial)
      · refine stepC_app (v := .slice 50 0 1 1) (u := .slice 41 0 ((m.out j).L 1).length c1') rfl rfl ?_
        refine app_L (l := [(j : Int)]) intT (hd0 _ _ rfl rfl) hcn (x1.rd (.inl rfl)) rfl (by rw [cI_len]; simp only [List.length_cons, List.length_nil]; omega) (fun hm => ?_) (fun tv i c e hm hle => by
          have hm' : (cI ((m.out j).L 1)).length ≠ 0 := fun q => hm (List.eq_nil_of_length_eq_zero q)
          cases e
          simp only [List.length_cons, List.length_nil] at hle
          omega) (fun hm b1 cap1 g1 ty1 p1 p2 p3 => ?_)
        · have hnil : (m.out j).L 1 = [] := by simpa [cI] using hm
          refine ⟨_, ⟨rfl, rfl⟩, ?_⟩
          refine ⟨⟨trivial, ?_⟩, trivial⟩
          refine vc_sound hE 20 _ _ _ 30 ?_
          refine ⟨by rw [hC]; rfl, ?_⟩
          have hF : (m.frontI (1 : Nat) j).L 1 = [j] := by rw [hf1, hnil]
          exact ⟨_, _, 40, c0', 50, 1, rfl, fun c hc => (by rw [hF, hf0, hfn, hfb]; exact gF_put1 c hc), by rw [hfn]; rfl, fun i _ => (by rw [hfH]; rfl), (by rw [hf0]; exact x0.out (by decide) rfl), .inr ⟨by decide, bN, _, _, rfl, by rw [hF]; exact Nat.le_refl 1, by omega, by rw [hF]; exact ⟨fun i hi => (by obtain rfl : i = 0 := (by simpa [cI] using hi); rfl), fun i hi => (by obtain rfl : i = 0 := (by omega); trivial)⟩⟩, by decide⟩
        · refine ⟨_, ⟨rfl, rfl⟩, ?_⟩
          refine ⟨⟨trivial, ?_⟩, trivial⟩
          refine vc_sound hE 20 _ _ _ 30 ?_
          refine ⟨by rw [hC]; rfl, ?_⟩
          have hF : [(j : Int)] ++ cI ((m.out j).L 1) = cI ((m.frontI (1 : Nat) j).L 1) := by rw [hf1]; rfl
          rw [hF] at p1 p3
          exact ⟨_, _, 40, c0', 51, cap1, rfl, fun c hc => (by rw [hF, cI_len, hf0, hfn, hfb]; exact gF_put1 c hc), by rw [hfn]; rfl, fun i _ => (by rw [hfH]; rfl), (by rw [hf0]; exact x0.out (by decide) rfl), .inr ⟨by decide, b1, g1, ty1, rfl, p1, p2, p3⟩, by decide⟩
end Go.Proofs.YtiihiifcnkfjoaaDoor.Sx

/-
  The document's shelf: Drop, Hold.
-/
namespace Go.Proofs.YtiihiifcnkfjoaaDoor.Sx
open Go Go.Proofs
set_option maxRecDepth 100000
set_option linter.unusedSimpArgs false
set_option linter.unusedVariables false

theorem gb_put {H : Nat → Bool} {j : Nat} {b : Bool} {i : Nat} : putG 1 (gb H) j 0 [.bool b] i 0 = .bool (updB H j b i) := by
  rw [putG_one (by omega) (by omega)]
  unfold updB
  by_cases q : i = j
  · subst q; rw [if_pos ⟨rfl, rfl⟩, if_pos rfl]
  · rw [if_neg (fun z => q z.1), if_neg q]; rfl
theorem Md.lies_0 {m : Md} {k : Int} (h : m.lies k = 0) : ∃ j : Nat, k = j ∧ j < m.n := by
  have hN : m.isN k = true := by
    unfold Md.lies at h
    cases q : m.isN k with
    | true => rfl
    | false => rw [if_pos q] at h; cases h
  exact isN_nat hN

def preRDrop : List V → Md → Md → V → Prop := fun rest m m' v => ∃ k : Int, rest = [.int .i64 k] ∧ Ok m ∧ m' = m.dropI k ∧ v = .int .i64 (m.lies k)
def SPRD : SpT := [(68, ROut), (69, sRLies)]
theorem sprd : ∀ p ∈ SPRD, SpecOK Tryd.prog p.1 p.2 := consSP rout_ok (consSP sRLies_ok noSP)
theorem rdrop_ok : SpecOK Tryd.prog 55 (fun args h nx K => ∃ p rest m m' v, args = p :: rest ∧ preRDrop rest m m' v ∧ rMut h nx K p m m' v) := by
  refine specOK_ref (fn := Tryd.f55) rfl rfl rfl T_ok (SP := SPRD) sprd preRDrop ?_ ?_
  · rintro rest m m' v ⟨k, rfl, _, rfl, rfl⟩
    refine ⟨⟨trivial, trivial⟩, trivial, ?_, ?_, by simp [Tryd.f55]⟩
    · unfold Md.dropI Md.out; split
      · show (match m.at k.toNat with | some q => _ | none => m).n = _; split <;> rfl
      · rfl
    · unfold Md.dropI Md.out; split
      · show (match m.at k.toNat with | some q => _ | none => m).b = _; split <;> rfl
      · rfl
  · rintro rest m m' v bR bH e0 e1 c0 c1 c ⟨k, rfl, hok, rfl, rfl⟩ l0 l1 hc
    have hE := mkE' (fn := Tryd.f55) (R := fun o h1 _ => o = .ret (.int .i64 (m.lies k)) ∧ RefOut h1 bR bH e0 e1 c0 c1 m (m.dropI k)) hc sprd
    have hwk := HW.wk (bR := bR) (bH := bH) l0 l1
    refine W_seq (nx := 0) ?_
    refine W_to (nx := 0) [(0, .ptr 2000 0 0), (1, .int .i64 k)] (HW bR bH e0 e1 c0 c1 m) 30 ?_ ?_
    · refine vc_sound hE 20 _ _ _ 30 ?_
      exact ⟨tau [], rfl, (by repeat' (first | exact rfl | exact trivial | assumption | refine ⟨?_, ?_⟩)), hwk⟩
    refine W_seq (nx := 30) ?_
    refine W_to (nx := 30) [(0, .ptr 2000 0 0), (1, .int .i64 k), (5, .int .i64 (m.lies k))] (HW bR bH e0 e1 c0 c1 m) 30 ?_ ?_
    · refine vc_sound hE 20 _ _ _ 30 ?_
      refine ⟨_, m, k, rfl, HW.ref l0 l1, hok, ?_⟩
      exact ⟨tau [], rfl, (by repeat' (first | exact rfl | exact trivial | assumption | refine ⟨?_, ?_⟩)), hwk⟩
    by_cases hl : m.lies k = 0
    rotate_left
    · have hI : m.dropI k = m := if_neg hl
      refine vc_sound hE 40 _ _ _ 30 ?_
      (refine (?_ : br _ _ _); refine br_eqF hl ?_)
      exact ⟨rfl, by rw [hI]; exact HW.same l0 l1⟩
    obtain ⟨j, rfl, hj⟩ := Md.lies_0 hl
    have hI : m.dropI j = { m.out j with H := updB m.H j false } := by unfold Md.dropI; rw [if_pos hl]; rfl
    have hon : (m.out j).n = m.n := by unfold Md.out; split <;> rfl
    have hob : (m.out j).b = m.b := by unfold Md.out; split <;> rfl
    have hoH : (m.out j).H = m.H := by unfold Md.out; split <;> rfl
    refine W_seq (nx := 30) ?_
    refine W_ex (nx := 30) (fun (a : Ent × Ent × Nat × Nat) => XL a.1 e0 ((m.dropI j).L 0) a.2.2.1 ∧ XL a.2.1 e1 ((m.dropI j).L 1) a.2.2.2) (fun _ => [(5, .int .i64 (m.lies j))]) (fun a => HX bR bH a.1 a.2.1 a.2.2.1 a.2.2.2 (m.dropI j)) 30 ?_ ?_
    · refine vc_sound hE 6 _ _ _ 30 ?_
      (refine (?_ : br _ _ _); refine br_eqT hl ?_)
      refine W_seq (nx := 30) ?_
      refine W_ex (nx := 30) (fun (a : Ent × Ent × Nat × Nat) => XL a.1 e0 ((m.out j).L 0) a.2.2.1 ∧ XL a.2.1 e1 ((m.out j).L 1) a.2.2.2) (fun _ => [(0, .ptr 2000 0 0), (1, .int .i64 j), (5, .int .i64 (m.lies j))]) (fun a => HX bR bH a.1 a.2.1 a.2.2.1 a.2.2.2 (m.out j)) 30 ?_ ?_
      · refine vc_sound hE 60 _ _ _ 30 ?_
        refine ⟨_, _, m, m.out j, .tup [], rfl, ⟨j, rfl, hok, rfl, rfl⟩, 2000, 2001, 2002, 2003, bR, bH, e0, e1, c0, c1, _, _, HW.A l0 l1, rfl, rfl, fun t0' E0 c0' t1' E1 c1' n0 n1 => ?_⟩
        obtain ⟨X0, X1, x0, x1, hnd, hwk2⟩ := HX.of hon n0 n1 rfl
        exact ⟨(X0, X1, c0', c1'), ⟨x0, x1⟩, tau [(40, t0'), (41, t1')], hnd, ⟨⟨⟨rfl, trivial⟩, rfl, rfl⟩, ⟨rfl, rfl⟩, ⟨rfl, rfl⟩, trivial⟩, hwk2⟩
      rintro ⟨X0, X1, c0', c1'⟩ ⟨x0, x1⟩
      have x0 : XL X0 e0 ((m.out j).L 0) c0' := x0
      have x1 : XL X1 e1 ((m.out j).L 1) c1' := x1
      have v0 : live (HX bR bH X0 X1 c0' c1' (m.dropI j)) 40 := x0.live
      have v1 : live (HX bR bH X0 X1 c0' c1' (m.dropI j)) 41 := x1.live
      refine vc_sound hE 60 _ _ _ 30 ?_
      (refine (?_ : chk _ _); refine chk_ok (show (decide ((0 : Int) ≤ (j : Int)) && decide ((j : Int) < ((m.out j).n : Int))) = true by simp only [Bool.and_eq_true, decide_eq_true_eq]; omega) ?_)
      (refine (?_ : chk _ _); refine chk_ok rfl ?_)
      (refine (?_ : chk _ _); refine chk_ok (Nat.ble_eq_true_of_le (show j * 1 + 0 + 1 ≤ (m.out j).n * 1 by omega)) ?_)
      refine ⟨(X0, X1, c0', c1'), ⟨by rw [hI]; exact x0, by rw [hI]; exact x1⟩, tau [], rfl, ⟨⟨rfl, rfl⟩, trivial⟩, ⟨rfl, rfl, rfl, rfl, fun i c hi hc => ?_⟩, x0.wk _ _, x1.wk _ _, ⟨rfl, by rw [hI], rfl, rfl, fun i c hi hc => ?_⟩, trivial⟩
      · obtain rfl : i = 0 := by omega
        have : gF (m.dropI j).n (m.dropI j).b 40 ((m.dropI j).L 0).length c0' 41 ((m.dropI j).L 1).length c1' 2003 = gF (m.out j).n (m.out j).b 40 ((m.out j).L 0).length c0' 41 ((m.out j).L 1).length c1' 2003 := by rw [hI]
        show rn _ _ _ (gF (m.dropI j).n (m.dropI j).b 40 ((m.dropI j).L 0).length c0' 41 ((m.dropI j).L 1).length c1' 2003 0 c)
        rw [this]
        exact gF_rn ⟨rfl, v0⟩ ⟨rfl, v1⟩ ⟨rfl, trivial⟩ hc
      · obtain rfl : c = 0 := by omega
        show rn _ _ (putG 1 (gb (m.out j).H) j 0 [.bool false] i 0) (.bool ((m.dropI j).H i))
        rw [gb_put, hI, hoH]
        exact rfl
    rintro ⟨X0, X1, c0', c1'⟩ ⟨x0, x1⟩
    refine vc_sound hE 20 _ _ _ 30 ?_
    exact ⟨rfl, HX.out (by rw [hI]; exact hon) (by rw [hI]; exact hob) x0 x1⟩

def preRHold : List V → Md → Md → V → Prop := fun rest m m' v => ∃ (k : Int) (b : Bool), rest = [.int .i64 k, .bool b] ∧ Ok m ∧ m' = m.holdI k b ∧ v = .int .i64 (m.lies k)
theorem rhold_ok : SpecOK Tryd.prog 52 (fun args h nx K => ∃ p rest m m' v, args = p :: rest ∧ preRHold rest m m' v ∧ rMut h nx K p m m' v) := by
  refine specOK_ref (fn := Tryd.f52) rfl rfl rfl T_ok (SP := SPRD) sprd preRHold ?_ ?_
  · rintro rest m m' v ⟨k, b, rfl, _, rfl, rfl⟩
    refine ⟨⟨trivial, trivial, trivial⟩, trivial, ?_, ?_, by simp [Tryd.f52]⟩
    · unfold Md.holdI; split <;> rfl
    · unfold Md.holdI; split <;> rfl
  · rintro rest m m' v bR bH e0 e1 c0 c1 c ⟨k, b, rfl, hok, rfl, rfl⟩ l0 l1 hc
    have hE := mkE' (fn := Tryd.f52) (R := fun o h1 _ => o = .ret (.int .i64 (m.lies k)) ∧ RefOut h1 bR bH e0 e1 c0 c1 m (m.holdI k b)) hc sprd
    have hwk := HW.wk (bR := bR) (bH := bH) l0 l1
    refine W_seq (nx := 0) ?_
    refine W_to (nx := 0) [(0, .ptr 2000 0 0), (1, .int .i64 k), (2, .bool b)] (HW bR bH e0 e1 c0 c1 m) 30 ?_ ?_
    · refine vc_sound hE 20 _ _ _ 30 ?_
      exact ⟨tau [], rfl, (by repeat' (first | exact rfl | exact trivial | assumption | refine ⟨?_, ?_⟩)), hwk⟩
    refine W_seq (nx := 30) ?_
    refine W_to (nx := 30) [(0, .ptr 2000 0 0), (1, .int .i64 k), (2, .bool b), (7, .int .i64 (m.lies k))] (HW bR bH e0 e1 c0 c1 m) 30 ?_ ?_
    · refine vc_sound hE 20 _ _ _ 30 ?_
      refine ⟨_, m, k, rfl, HW.ref l0 l1, hok, ?_⟩
      exact ⟨tau [], rfl, (by repeat' (first | exact rfl | exact trivial | assumption | refine ⟨?_, ?_⟩)), hwk⟩
    by_cases hl : m.lies k = 0
    rotate_left
    · have hI : m.holdI k b = m := if_neg hl
      refine vc_sound hE 40 _ _ _ 30 ?_
      (refine (?_ : br _ _ _); refine br_eqF hl ?_)
      exact ⟨rfl, by rw [hI]; exact HW.same l0 l1⟩
    obtain ⟨j, rfl, hj⟩ := Md.lies_0 hl
    have hI : m.holdI j b = { m with H := updB m.H j b } := by unfold Md.holdI; rw [if_pos hl]; rfl
    refine vc_sound hE 60 _ _ _ 30 ?_
    (refine (?_ : br _ _ _); refine br_eqT hl ?_)
    (refine (?_ : chk _ _); refine chk_ok (show (decide ((0 : Int) ≤ (j : Int)) && decide ((j : Int) < (m.n : Int))) = true by simp only [Bool.and_eq_true, decide_eq_true_eq]; omega) ?_)
    (refine (?_ : chk _ _); refine chk_ok rfl ?_)
    (refine (?_ : chk _ _); refine chk_ok (Nat.ble_eq_true_of_le (show j * 1 + 0 + 1 ≤ m.n * 1 by omega)) ?_)
    refine ⟨rfl, _, _, 2001, c0, 2002, c1, rfl, fun c _ => by rw [hI], rfl, fun i hi => ?_, by rw [hI]; exact .inl ⟨rfl, l0⟩, by rw [hI]; exact .inl ⟨rfl, l1⟩, by decide⟩
    rw [hI]
    exact gb_put
end Go.Proofs.YtiihiifcnkfjoaaDoor.Sx

/-
  The document's shelf: what may be made; where a node lies.
-/
namespace Go.Proofs.YtiihiifcnkfjoaaDoor.Sx
open Go Go.Proofs
set_option maxRecDepth 100000
set_option linter.unusedSimpArgs false
set_option linter.unusedVariables false

def sMay : Spec := fun args h nx K => ∃ (n b : Int), args = [.int .i64 n, .int .i64 b] ∧ K (.ret (.bool (mayB n b))) h nx
theorem sMay_ok : SpecOK Tryd.prog 11 sMay := by
  refine specOK_pure (fn := Tryd.f11) rfl rfl rfl T_ok (SP := []) noSP [] trivial 100 _ ?_
  rintro args h nx K ⟨n, b, rfl, hs⟩
  refine ⟨trivial, by repeat constructor, by simp [Tryd.f11], fun o => o = .ret (.bool (mayB n b)), ?_, ?_⟩
  · rintro o rfl; exact ⟨trivial, hs⟩
  intro c hc
  (refine (?_ : br _ _ _); refine br_dec (fun q => ?_) (fun q => ?_))
  · have q1 : 1 ≤ n := q
    (refine (?_ : br _ _ _); refine br_dec (fun q => ?_) (fun q => ?_))
    · have q2 : n ≤ 64 := q
      (refine (?_ : br _ _ _); refine br_dec (fun q => ?_) (fun q => ?_))
      · have q3 : 1 ≤ b := q
        exact outB (by unfold mayB; rw [decide_eq_true q1, decide_eq_true q2, decide_eq_true q3]; rfl)
      · have q3 : ¬ 1 ≤ b := q
        exact outB (by unfold mayB; rw [decide_eq_false q3]; simp)
    · have q2 : ¬ n ≤ 64 := q
      exact outB (by unfold mayB; rw [decide_eq_false q2]; simp)
  · have q1 : ¬ 1 ≤ n := q
    exact outB (by unfold mayB; rw [decide_eq_false q1]; simp)

theorem HF.wk {bR bH : Nat} {e0 e1 : Ent} {c0 c1 : Nat} {m : Md} (l0 : lstE e0 (cI (m.L 0)) c0) (l1 : lstE e1 (cI (m.L 1)) c1) : wkH (tau []) (HF bR bH e0 e1 c0 c1 m) (HF bR bH e0 e1 c0 c1 m) (HF bR bH e0 e1 c0 c1 m) := by
  have v0 : live (HF bR bH e0 e1 c0 c1 m) 2001 := l0.ro_live
  have v1 : live (HF bR bH e0 e1 c0 c1 m) 2002 := l1.ro_live
  exact ⟨⟨rfl, rfl, rfl, fun i c hi hc => (by obtain rfl : i = 0 := (by omega); exact gF_rn ⟨rfl, v0⟩ ⟨rfl, v1⟩ ⟨rfl, trivial⟩ hc)⟩, l0.ro_wk _ _, l1.ro_wk _ _, ⟨rfl, rfl, rfl, fun i c hi hc => rfl⟩, trivial⟩

theorem Md.wh_neg {m : Md} {k : Int} (hok : Ok m) (h : m.atZ k < 0) : m.whI k = (0, false, false) := by
  unfold Md.whI
  rw [if_neg]
  by_cases q : k < 0 ∨ (m.n : Int) ≤ k
  · rw [Md.lies_1 q]; decide
  · rw [Md.lies_Z (by omega) (by omega), if_pos h]; decide
theorem Md.wh_pos {m : Md} {k : Int} (hok : Ok m) (h : ¬ m.atZ k < 0) : ∃ q j : Nat, q < 2 ∧ k = (j : Int) ∧ j ∈ m.L q ∧ m.atZ k = (q : Int) ∧ m.whI k = ((q : Int), m.low q j, true) := by
  have hm : ∃ q : Nat, q < 2 ∧ k ∈ cI (m.L q) := by
    unfold Md.atZ at h
    by_cases h0 : k ∈ cI (m.L 0)
    · exact ⟨0, by omega, h0⟩
    · by_cases h1 : k ∈ cI (m.L 1)
      · exact ⟨1, by omega, h1⟩
      · rw [if_neg h0, if_neg h1] at h; exact absurd (by decide) h
  obtain ⟨q0, hq0, hk0⟩ := hm
  obtain ⟨j, hj, rfl⟩ : ∃ j : Nat, j ∈ m.L q0 ∧ (j : Int) = k := by
    unfold cI at hk0
    exact List.mem_map.1 hk0
  have hjn := hok.lt hq0 hj
  have hz := Md.at_Z (m := m) (j := j)
  cases e : m.at j with
  | none => rw [e] at hz; rw [hz] at h; exact absurd (by decide) h
  | some q =>
    obtain ⟨hq, hjq⟩ := Md.at_some e
    rw [e] at hz
    refine ⟨q, j, hq, rfl, hjq, hz, ?_⟩
    unfold Md.whI
    rw [if_pos (by rw [Md.lies_Z (by omega) (by omega), if_neg h]), Int.toNat_natCast, e]

def SPW : SpT := [(19, sFind), (70, sAt)]
theorem spw : ∀ p ∈ SPW, SpecOK Tryd.prog p.1 p.2 := consSP sFind_ok (consSP sAt_ok noSP)
def sRWhere : Spec := fun args h nx K => ∃ (p : V) (m : Md) (k : Int), args = [p, .int .i64 k] ∧ refR h p m ∧ Ok m ∧ K (.ret (.tup [.int .i64 (m.whI k).1, .bool (m.whI k).2.1, .bool (m.whI k).2.2])) h nx
theorem sRWhere_ok : SpecOK Tryd.prog 53 sRWhere := by
  refine specOK_read2 (fn := Tryd.f53) rfl rfl rfl T_ok (SP := SPW) spw 0 _ ?_
  rintro args h nx K ⟨p, m, k, rfl, hr, hok, hk⟩
  obtain ⟨bR, bH, e0, e1, c0, c1, l0, l1, told⟩ := told_ref (rest := [.int .i64 k]) hr ⟨trivial, trivial⟩
  refine ⟨_, _, told, by simp [Tryd.f53], fun o => o = .ret (.tup [.int .i64 (m.whI k).1, .bool (m.whI k).2.1, .bool (m.whI k).2.2]), ?_, ?_⟩
  · rintro o rfl; exact ⟨⟨trivial, trivial, trivial, trivial⟩, hk⟩
  intro cx hcx
  clear hk told hr
  have hE := mkE' (fn := Tryd.f53) (R := fun o _ _ => o = .ret (.tup [.int .i64 (m.whI k).1, .bool (m.whI k).2.1, .bool (m.whI k).2.2])) hcx spw
  have hwk := HF.wk (bR := bR) (bH := bH) l0 l1
  show W _ _ _ _ 0
  obtain ⟨Z, hZ⟩ : ∃ Z, Z = m.atZ k := ⟨_, rfl⟩
  refine W_seq (nx := 0) ?_
  refine W_to (nx := 0) [(0, .ptr 2000 0 0), (1, .int .i64 k)] (HF bR bH e0 e1 c0 c1 m) 30 ?_ ?_
  · refine vc_sound hE 20 _ _ _ 30 ?_
    exact ⟨tau [], rfl, (by repeat' (first | exact rfl | exact trivial | assumption | refine ⟨?_, ?_⟩)), hwk⟩
  refine W_seq (nx := 30) ?_
  refine W_to (nx := 30) [(0, .ptr 2000 0 0), (1, .int .i64 k), (7, .int .i64 Z)] (HF bR bH e0 e1 c0 c1 m) 30 ?_ ?_
  · refine vc_sound hE 20 _ _ _ 30 ?_
    refine ⟨_, m, k, rfl, HF.ref l0 l1, hok, ?_⟩
    rw [← hZ]
    exact ⟨tau [], rfl, (by repeat' (first | exact rfl | exact trivial | assumption | refine ⟨?_, ?_⟩)), hwk⟩
  by_cases hneg : Z < 0
  · rw [Md.wh_neg hok (by rw [← hZ]; exact hneg)]
    have hE := mkE' (fn := Tryd.f53) (R := fun o _ _ => o = .ret (.tup [.int .i64 0, .bool false, .bool false])) hcx spw
    refine vc_sound hE 60 _ _ _ 30 ?_
    (refine (?_ : br _ _ _); refine br_decT hneg ?_)
    rfl
  · obtain ⟨q, j, hq, rfl, hj, hz, hw⟩ := Md.wh_pos hok (k := k) (by rw [← hZ]; exact hneg)
    rw [hw]
    rw [hz] at hZ
    subst hZ
    have hlen := hok.len hq
    have hb : (m.b : Int) ≤ 64 := by have h1 := hok.choose_spec.b2; have h2 := hok.choose_spec.n2; omega
    have hfd : findI (j : Int) (cI (m.L q)) = ((ix j (m.L q) : Nat) : Int) := by unfold findI; rw [if_pos (mem_c.2 hj), ixZ_c]
    have hwr : IntKind.i64.wrap (((m.L q).length : Int) - (m.b : Int)) = ((m.L q).length : Int) - m.b := by simp only [IntKind.wrap_i64]; omega
    have hlow : decide (IntKind.i64.wrap (((m.L q).length : Int) - (m.b : Int)) ≤ ((ix j (m.L q) : Nat) : Int)) = m.low q j := by
      rw [hwr]; exact decide_eq_decide.2 (by omega)
    obtain ⟨F, hF⟩ : ∃ F : Int, F = ((ix j (m.L q) : Nat) : Int) := ⟨_, rfl⟩
    rw [← hF] at hfd hlow
    obtain rfl | rfl : q = 0 ∨ q = 1 := by omega
    · have hE := mkE' (fn := Tryd.f53) (R := fun o _ _ => o = .ret (.tup [.int .i64 ((0 : Nat) : Int), .bool (m.low 0 j), .bool true])) hcx spw
      refine W_seq (nx := 30) ?_
      refine W_to (nx := 30) [(0, .ptr 2000 0 0), (1, .int .i64 j), (7, .int .i64 ((0 : Nat) : Int))] (HF bR bH e0 e1 c0 c1 m) 30 ?_ ?_
      · refine vc_sound hE 20 _ _ _ 30 ?_
        exact ⟨tau [], rfl, (by repeat' (first | exact rfl | exact trivial | assumption | refine ⟨?_, ?_⟩)), hwk⟩
      refine W_seq (nx := 30) ?_
      refine W_plan hE 31 25 (lineP 0 25 .done) (by rw [hcx]; exact mix) (by kernel_rfl) 30 ?_
      repeat' (first | refine ⟨_, ⟨rfl, rfl⟩, ?_⟩ | fail)
      refine ⟨.int .i64 F, ⟨_, cI (m.L 0), j, rfl, (show rdL _ (.slice 2001 0 (m.L 0).length c0) _ by rw [← cI_len]; exact l0.rd2 (by show ((e0.toRo).toRo) = e0.toRo; cases e0 <;> rfl)), by rw [cI_len]; omega, (by rw [hfd]; exact ⟨rfl, rfl⟩)⟩, ?_⟩
      repeat' (first | refine ⟨_, ⟨rfl, rfl⟩, ?_⟩ | fail)
      show Out.ret (.tup [.int .i64 ((0 : Nat) : Int), .bool (decide (IntKind.i64.wrap (((m.L 0).length : Int) - (m.b : Int)) ≤ F)), .bool true]) = _
      rw [hlow]
    · have hE := mkE' (fn := Tryd.f53) (R := fun o _ _ => o = .ret (.tup [.int .i64 ((1 : Nat) : Int), .bool (m.low 1 j), .bool true])) hcx spw
      refine W_seq (nx := 30) ?_
      refine W_to (nx := 30) [(0, .ptr 2000 0 0), (1, .int .i64 j), (7, .int .i64 ((1 : Nat) : Int))] (HF bR bH e0 e1 c0 c1 m) 30 ?_ ?_
      · refine vc_sound hE 20 _ _ _ 30 ?_
        exact ⟨tau [], rfl, (by repeat' (first | exact rfl | exact trivial | assumption | refine ⟨?_, ?_⟩)), hwk⟩
      refine W_seq (nx := 30) ?_
      refine W_plan hE 31 25 (lineP 0 25 .done) (by rw [hcx]; exact mix) (by kernel_rfl) 30 ?_
      repeat' (first | refine ⟨_, ⟨rfl, rfl⟩, ?_⟩ | fail)
      refine ⟨.int .i64 F, ⟨_, cI (m.L 1), j, rfl, (show rdL _ (.slice 2002 0 (m.L 1).length c1) _ by rw [← cI_len]; exact l1.rd2 (by show ((e1.toRo).toRo) = e1.toRo; cases e1 <;> rfl)), by rw [cI_len]; omega, (by rw [hfd]; exact ⟨rfl, rfl⟩)⟩, ?_⟩
      repeat' (first | refine ⟨_, ⟨rfl, rfl⟩, ?_⟩ | fail)
      show Out.ret (.tup [.int .i64 ((1 : Nat) : Int), .bool (decide (IntKind.i64.wrap (((m.L 1).length : Int) - (m.b : Int)) ≤ F)), .bool true]) = _
      rw [hlow]
end Go.Proofs.YtiihiifcnkfjoaaDoor.Sx

/-
  The document's shelf: all that are held.
-/
namespace Go.Proofs.YtiihiifcnkfjoaaDoor.Sx
open Go Go.Proofs
set_option maxRecDepth 100000
set_option linter.unusedSimpArgs false
set_option linter.unusedVariables false

theorem W_tell {E : Env} {k : List It} {σ σ' : Sl} {h : Hp} {nx nx' : Nat} (hs : wkT h h σ σ') (hv : W E k σ' h nx') : W E k σ h nx := fun a w hm =>
  hv a w ⟨hm.size, fun t u e => let ⟨v, e1, r⟩ := wkT_at hs t u e; r _ (hm.slots t v e1), hm.calm, hm.rel⟩
theorem tell_unnil {h1 h2 : Hp} {t n sz : Nat} {g : Nat → Nat → V} (e : fd t h1 = .ro none n sz g) : tell h1 h2 (.slice t 0 0 0) .nils := by
  rintro x ⟨base, sz', e1, rfl, e3⟩
  rw [e] at e1
  cases e1
  rfl

def heldN (m : Md) (j : Nat) : List Nat := (List.range j).filter fun i => m.H i
theorem heldN_yes {m : Md} {j : Nat} (h : m.H j = true) : heldN m (j + 1) = heldN m j ++ [j] := by simp [heldN, List.range_succ, h]
theorem heldN_no {m : Md} {j : Nat} (h : m.H j = false) : heldN m (j + 1) = heldN m j := by simp [heldN, List.range_succ, h]
theorem heldN_len {m : Md} {j : Nat} : (heldN m j).length ≤ j := by have := List.length_filter_le (fun i => m.H i) (List.range j); simpa [heldN] using this
abbrev HG (bR bH : Nat) (e0 e1 : Ent) (c0 c1 : Nat) (m : Md) (e : Ent) : Hp := [(2000, .ro (some ⟨bR, 0, none⟩) 1 5 (gF m.n m.b 2001 (m.L 0).length c0 2002 (m.L 1).length c1 2003)), (2001, e0.toRo), (2002, e1.toRo), (2003, .ro (some ⟨bH, 0, none⟩) m.n 1 (gb m.H)), (3, e)]
theorem HG.wk {bR bH : Nat} {e0 e1 : Ent} {c0 c1 : Nat} {m : Md} (l0 : lstE e0 (cI (m.L 0)) c0) (l1 : lstE e1 (cI (m.L 1)) c1) {e : Ent} {l : List Int} {cp : Nat} (hl : lstE e l cp) : wkH (tau []) (HG bR bH e0 e1 c0 c1 m e) (HG bR bH e0 e1 c0 c1 m e) (HG bR bH e0 e1 c0 c1 m e) := by
  have v0 : live (HG bR bH e0 e1 c0 c1 m e) 2001 := l0.ro_live
  have v1 : live (HG bR bH e0 e1 c0 c1 m e) 2002 := l1.ro_live
  exact ⟨⟨rfl, rfl, rfl, fun i c hi hc => (by obtain rfl : i = 0 := (by omega); exact gF_rn ⟨rfl, v0⟩ ⟨rfl, v1⟩ ⟨rfl, trivial⟩ hc)⟩, l0.ro_wk _ _, l1.ro_wk _ _, ⟨rfl, rfl, rfl, fun i c hi hc => rfl⟩, lst_wk hl _ _, trivial⟩

def sRHeld : Spec := fun args h nx K => ∃ (p : V) (m : Md), args = [p] ∧ refR h p m ∧ Ok m ∧ fd nx h = .gone ∧ newL (cI m.held) h nx K
theorem sRHeld_ok : SpecOK Tryd.prog 35 sRHeld := by
  refine specOK_newL (fn := Tryd.f35) rfl rfl rfl T_ok (SP := []) noSP _ ?_
  rintro args h nx K ⟨p, m, rfl, hr, hok, hgone, hk⟩
  obtain ⟨bR, bH, e0, e1, c0, c1, l0, l1, told⟩ := told_ref (rest := []) hr trivial
  refine ⟨hgone, _, _, _, told, by simp [Tryd.f35], hk, fun cx hcx => ?_⟩
  clear hk told hr hgone
  have hE := mkE' (fn := Tryd.f35) (R := fun o h _ => retL (cI m.held) o h) hcx noSP
  have hwk := HF.wk (bR := bR) (bH := bH) l0 l1
  have hn := hok.n
  refine W_seq (nx := 0) ?_
  refine W_to (nx := 0) [(0, .ptr 2000 0 0)] (HF bR bH e0 e1 c0 c1 m) 30 ?_ ?_
  · refine vc_sound hE 20 _ _ _ 30 ?_
    exact ⟨tau [], rfl, (by repeat' (first | exact rfl | exact trivial | assumption | refine ⟨?_, ?_⟩)), hwk⟩
  refine W_seq (nx := 30) ?_
  refine W_to (nx := 30) [(0, .ptr 2000 0 0), (3, .nils)] (HF bR bH e0 e1 c0 c1 m) 30 ?_ ?_
  · refine vc_sound hE 20 _ _ _ 30 ?_
    exact ⟨tau [], rfl, (by repeat' (first | exact rfl | exact trivial | assumption | refine ⟨?_, ?_⟩)), hwk⟩
  refine W_nil (σ' := [(0, .ptr 2000 0 0), (3, .slice 3 0 0 0)]) 3 rfl ⟨tell_ptr rfl, tell_nil rfl, trivial⟩ (nx' := 30) ?_
  refine W_seq (nx := 30) ?_
  refine W_ex (nx := 30) (fun (a : Ent × Nat) => lstE a.1 (cI m.held) a.2) (fun a => [(3, .slice 3 0 (cI m.held).length a.2)]) (fun a => [(3, a.1)]) 30 ?_ ?_
  · refine vc_sound hE 8 _ _ _ 30 ?_
    have w0 : lstE (.ro none 0 1 (gl [])) (cI (heldN m 0)) 0 := .inl ⟨rfl, rfl, rfl⟩
    have v0 : live (HG bR bH e0 e1 c0 c1 m (.ro none 0 1 (gl []))) 3 := trivial
    refine W_loop (fun r σ h => ∃ (j : Nat) (e : Ent) (cp : Nat), r = m.n - j ∧ j ≤ m.n ∧ lstE e (cI (heldN m j)) cp ∧ σ = [(0, .ptr 2000 0 0), (3, .slice 3 0 (cI (heldN m j)).length cp), (4, .int .i64 j)] ∧ h = HG bR bH e0 e1 c0 c1 m e)
      m.n ⟨0, _, 0, rfl, by omega, w0, rfl, rfl⟩ (tau []) ⟨rfl, (by repeat' (first | exact rfl | exact trivial | assumption | refine ⟨?_, ?_⟩)), ?_⟩ 30 ?_
    · have v0 := l0.ro_live
      have v1 := l1.ro_live
      exact ⟨⟨rfl, rfl, rfl, fun i c hi hc => (by obtain rfl : i = 0 := (by omega); exact gF_rn ⟨rfl, v0⟩ ⟨rfl, v1⟩ ⟨rfl, trivial⟩ hc)⟩, l0.ro_wk _ _, l1.ro_wk _ _, ⟨rfl, rfl, rfl, fun i c hi hc => rfl⟩, ⟨rfl, rfl, rfl, fun i c hi hc => by omega⟩, trivial⟩
    rintro r σ h ⟨j, e, cp, rfl, hj, hl, rfl, rfl⟩
    have hll := heldN_len (m := m) (j := j)
    have hlv : live (HG bR bH e0 e1 c0 c1 m e) 3 := lst_live hl
    have hg := HG.wk (bR := bR) (bH := bH) l0 l1 hl
    refine vc_sound hE 1 _ _ _ 30 ?_
    refine W_piece (nx := 30) (fun σ1 h1 _ => j < m.n ∧ ∃ τ, wk τ σ1 h1 [(0, .ptr 2000 0 0), (3, .slice 3 0 (cI (heldN m j)).length cp), (4, .int .i64 j)] (HG bR bH e0 e1 c0 c1 m e)) ?_ ?_
    · refine vc_sound hE 60 _ _ _ 30 ?_
      (refine (?_ : br _ _ _); refine br_dec (fun q => ?_) (fun q => ?_))
      · have q : (j : Int) < m.n := q
        exact ⟨by omega, tau [], rfl, (by repeat' (first | exact rfl | exact trivial | assumption | refine ⟨?_, ?_⟩)), hg⟩
      · have q : ¬ (j : Int) < m.n := q
        obtain rfl : j = m.n := by omega
        have hlv2 : live [(3, e)] 3 := lst_live hl
        exact ⟨(e, cp), hl, tau [], rfl, (by repeat' (first | exact rfl | exact trivial | assumption | refine ⟨?_, ?_⟩)), lst_wk hl _ _, trivial⟩
    rintro σ1 h1 _ ⟨hjn, τ1, hw1⟩
    refine W_weak (nx' := 30) τ1 hw1 ?_
    clear hw1 σ1 h1 τ1
    have hw : IntKind.i64.wrap ((j : Int) + 1) = ((j + 1 : Nat) : Int) := by simp [IntKind.wrap_i64]; omega
    have hz : addI 0 ((j : Int)).toNat = j := by rw [Int.toNat_natCast, addI_eq, Nat.zero_add]
    refine vc_sound hE 60 _ _ _ 30 ?_
    (refine (?_ : chk _ _); refine chk_ok (show (decide ((0 : Int) ≤ (j : Int)) && decide ((j : Int) < (m.n : Int))) = true by simp only [Bool.and_eq_true, decide_eq_true_eq]; omega) ?_)
    (refine (?_ : chk _ _); refine chk_ok rfl ?_)
    (refine (?_ : chk _ _); refine chk_ok (Nat.ble_eq_true_of_le (show addI 0 ((j : Int)).toNat * 1 + 0 + 1 ≤ m.n * 1 by rw [hz]; omega)) ?_)
    (refine (?_ : br _ _ _); refine br_both (fun q => ?_) (fun q => ?_))
    · have q2 : m.H (addI 0 ((j : Int)).toNat) = true := q
      rw [hz] at q2
      have hy := heldN_yes q2
      have hyI : cI (heldN m j) ++ [(j : Int)] = cI (heldN m (j + 1)) := by rw [hy]; simp [cI]
      intro b1
      refine putS_some rfl ?_
      refine vc_app (v := .slice 3 0 (cI (heldN m j)).length cp) (u := .slice 30 0 1 1) rfl rfl ?_
      refine app_one intT hl rfl (x := (j : Int)) (.inr ⟨30, 0, 1, _, 1, _, rfl, rfl, Nat.le_refl _, fun i hi => (by obtain rfl : i = 0 := (by simpa using hi); rfl)⟩) rfl (by rw [cI_len]; omega) (fun e' hl' => ?_) (fun e' cp' hl' => ?_)
      · rw [hyI] at hl' ⊢
        have hl5 : live (HG bR bH e0 e1 c0 c1 m e') 3 := lst_live hl'
        exact ⟨m.n - (j + 1), _, _, by omega, ⟨j + 1, e', cp, rfl, by omega, hl', rfl, rfl⟩, tau [], rfl, (by repeat' (first | exact rfl | exact trivial | assumption | refine ⟨?_, ?_⟩)), HG.wk l0 l1 hl'⟩
      · rw [hyI] at hl' ⊢
        have hl5 : live (HG bR bH e0 e1 c0 c1 m e') 3 := lst_live hl'
        exact ⟨m.n - (j + 1), _, _, by omega, ⟨j + 1, e', cp', rfl, by omega, hl', rfl, rfl⟩, tau [(3, 31)], rfl, (by repeat' (first | exact rfl | exact trivial | assumption | refine ⟨?_, ?_⟩)), ⟨rfl, rfl, rfl, fun i c hi hc => (by obtain rfl : i = 0 := (by omega); exact gF_rn ⟨rfl, l0.ro_live⟩ ⟨rfl, l1.ro_live⟩ ⟨rfl, trivial⟩ hc)⟩, l0.ro_wk _ _, l1.ro_wk _ _, ⟨rfl, rfl, rfl, fun i c hi hc => rfl⟩, lst_wk hl' _ _, trivial⟩
    · have q2 : m.H (addI 0 ((j : Int)).toNat) = false := q
      rw [hz] at q2
      have hy := heldN_no q2
      have hl' : lstE e (cI (heldN m (j + 1))) cp := by rw [hy]; exact hl
      have hle : (cI (heldN m j)).length = (cI (heldN m (j + 1))).length := by rw [hy]
      exact ⟨m.n - (j + 1), _, _, by omega, ⟨j + 1, e, cp, rfl, by omega, hl', rfl, rfl⟩, tau [], rfl, (by repeat' (first | exact rfl | exact trivial | assumption | refine ⟨?_, ?_⟩)), HG.wk l0 l1 hl'⟩
  rintro ⟨e, cp⟩ hl
  have hl : lstE e (cI m.held) cp := hl
  rcases hl with ⟨hnil, hcp, he⟩ | ⟨b, g, ty, he, q1, q2, q3, q4⟩
  · have hcp : cp = 0 := hcp
    have he : e = .ro none 0 1 (gl []) := he
    subst hcp he
    have hlen : (cI m.held).length = 0 := by rw [hnil]; rfl
    refine W_tell (σ' := [(3, .nils)]) ⟨by rw [hlen]; exact tell_unnil rfl, trivial⟩ (nx' := 30) ?_
    refine vc_sound hE 60 _ _ _ 30 ?_
    exact .inl ⟨hnil, rfl⟩
  · have he : e = .blk b cp 1 g ty := he
    subst he
    refine vc_sound hE 60 _ _ _ 30 ?_
    exact .inr ⟨3, cp, b, g, ty, rfl, rfl, q1, q2, q3, q4⟩
end Go.Proofs.YtiihiifcnkfjoaaDoor.Sx

/-
  The document's shelf: the last one that isn't held.
-/
namespace Go.Proofs.YtiihiifcnkfjoaaDoor.Sx
open Go Go.Proofs
set_option maxRecDepth 100000
set_option linter.unusedSimpArgs false
set_option linter.unusedVariables false

theorem take_rev {l : List Nat} {j : Nat} (hj : j < l.length) : (l.take (j + 1)).reverse = l[j] :: (l.take j).reverse := by
  rw [List.take_succ_eq_append_getElem hj, List.reverse_append]; rfl
def sRLast : Spec := fun args h nx K => ∃ (p : V) (m : Md) (L : Int), args = [p, .int .i64 L] ∧ refR h p m ∧ Ok m ∧ K (.ret (.tup [.int .i64 (m.lastI L).1, .bool (m.lastI L).2])) h nx
theorem sRLast_ok : SpecOK Tryd.prog 56 sRLast := by
  refine specOK_read2 (fn := Tryd.f56) rfl rfl rfl T_ok (SP := []) noSP 0 _ ?_
  rintro args h nx K ⟨p, m, L, rfl, hr, hok, hk⟩
  obtain ⟨bR, bH, e0, e1, c0, c1, l0, l1, told⟩ := told_ref (rest := [.int .i64 L]) hr ⟨trivial, trivial⟩
  refine ⟨_, _, told, by simp [Tryd.f56], fun o => o = .ret (.tup [.int .i64 (m.lastI L).1, .bool (m.lastI L).2]), ?_, ?_⟩
  · rintro o rfl; exact ⟨⟨trivial, trivial, trivial⟩, hk⟩
  intro cx hcx
  clear hk told hr
  have hwk := HF.wk (bR := bR) (bH := bH) l0 l1
  show W _ _ _ _ 0
  have hE := mkE' (fn := Tryd.f56) (R := fun o _ _ => o = .ret (.tup [.int .i64 (m.lastI L).1, .bool (m.lastI L).2])) hcx noSP
  refine W_seq (nx := 0) ?_
  refine W_to (nx := 0) [(0, .ptr 2000 0 0), (1, .int .i64 L)] (HF bR bH e0 e1 c0 c1 m) 30 ?_ ?_
  · refine vc_sound hE 20 _ _ _ 30 ?_
    exact ⟨tau [], rfl, (by repeat' (first | exact rfl | exact trivial | assumption | refine ⟨?_, ?_⟩)), hwk⟩
  refine W_seq (nx := 30) ?_
  refine W_piece (nx := 30) (fun σ1 h1 _ => (0 ≤ L ∧ L ≤ 1) ∧ ∃ τ, wk τ σ1 h1 [(0, .ptr 2000 0 0), (1, .int .i64 L)] (HF bR bH e0 e1 c0 c1 m)) ?_ ?_
  · have hno : ¬ (0 ≤ L ∧ L ≤ 1) → m.lastI L = (0, false) := fun q => by
      unfold Md.lastI
      rw [if_neg]
      unfold rightB
      simp; omega
    refine vc_sound hE 30 _ _ _ 30 ?_
    (refine (?_ : br _ _ _); refine br_dec (fun q => ?_) (fun q => ?_))
    · have q1 : L < 0 := q
      rw [hno (by omega)]
      exact outIB rfl rfl
    · have q1 : ¬ L < 0 := q
      (refine (?_ : br _ _ _); refine br_dec (fun q => ?_) (fun q => ?_))
      · have q2 : 1 < L := q
        rw [hno (by omega)]
        exact outIB rfl rfl
      · have q2 : ¬ 1 < L := q
        exact ⟨by omega, tau [], rfl, (by repeat' (first | exact rfl | exact trivial | assumption | refine ⟨?_, ?_⟩)), hwk⟩
  rintro σ1 h1 _ ⟨hL, τ1, hw1⟩
  refine W_weak (nx' := 30) τ1 hw1 ?_
  clear hw1 σ1 h1 τ1
  obtain rfl | rfl : L = 0 ∨ L = 1 := by omega
  · obtain ⟨l, hl⟩ : ∃ l, l = m.L 0 := ⟨_, rfl⟩
    have hlen := hok.len (q := 0) (by omega)
    have hlast : m.lastI 0 = lastN m.H l.reverse := by rw [hl]; rfl
    rw [← hl] at hlen
    have hlt : ∀ i, i ∈ l → i < m.n := fun i hi => hok.lt (q := 0) (by omega) (by rw [← hl]; exact hi)
    have l0' := l0
    rw [← hl] at l0'
    have hcap : l.length ≤ c0 := by have := lst_cap l0'; rwa [cI_len] at this
    refine W_seq (nx := 30) ?_
    refine W_piece (nx := 30) (fun σ1 h1 _ => lastN m.H l.reverse = (0, false) ∧ ∃ τ, wk τ σ1 h1 [] []) ?_ ?_
    · skip
      refine W_seq (nx := 30) ?_
      refine W_to (nx := 30) [(0, .ptr 2000 0 0), (1, .int .i64 0), (6, .int .i64 ((l.length : Int) - 1))] (HF bR bH e0 e1 c0 c1 m) 30 ?_ ?_
      · refine vc_sound hE 60 _ _ _ 30 ?_
        have hw : IntKind.i64.wrap (((m.L 0).length : Int) - 1) = (l.length : Int) - 1 := by rw [← hl]; simp only [IntKind.wrap_i64]; omega
        exact ⟨tau [], rfl, (by repeat' (first | exact rfl | exact trivial | assumption | refine ⟨?_, ?_⟩)), hwk⟩
      refine vc_sound hE 1 _ _ _ 30 ?_
      refine W_loop (fun r σ h => ∃ (j : Nat) (I : Int), r = 0 + j ∧ j ≤ l.length ∧ I = (j : Int) - 1 ∧ lastN m.H l.reverse = lastN m.H (l.take j).reverse ∧ σ = [(0, .ptr 2000 0 0), (1, .int .i64 0), (6, .int .i64 I)] ∧ h = HF bR bH e0 e1 c0 c1 m)
        l.length ⟨l.length, _, by omega, by omega, rfl, by rw [List.take_length], rfl, rfl⟩ (tau []) ⟨rfl, (by repeat' (first | exact rfl | exact trivial | assumption | refine ⟨?_, ?_⟩)), hwk⟩ 30 ?_
      rintro r σ h ⟨j, I, rfl, hj, hI, heq, rfl, rfl⟩
      refine vc_sound hE 1 _ _ _ 30 ?_
      refine W_piece (nx := 30) (fun σ1 h1 _ => 1 ≤ j ∧ ∃ τ, wk τ σ1 h1 [(0, .ptr 2000 0 0), (1, .int .i64 0), (6, .int .i64 I)] (HF bR bH e0 e1 c0 c1 m)) ?_ ?_
      · refine vc_sound hE 60 _ _ _ 30 ?_
        (refine (?_ : br _ _ _); refine br_dec (fun q => ?_) (fun q => ?_))
        · have q1 : 0 ≤ I := q
          exact ⟨by omega, tau [], rfl, (by repeat' (first | exact rfl | exact trivial | assumption | refine ⟨?_, ?_⟩)), hwk⟩
        · have q1 : ¬ 0 ≤ I := q
          obtain rfl : j = 0 := by omega
          exact ⟨heq, tau [], rfl, trivial, trivial⟩
      rintro σ1 h1 _ ⟨hj1, τ1, hw1⟩
      refine W_weak (nx' := 30) τ1 hw1 ?_
      clear hw1 σ1 h1 τ1
      obtain ⟨i, rfl⟩ : ∃ i, j = i + 1 := ⟨j - 1, by omega⟩
      obtain rfl : I = (i : Int) := by omega
      have hil : i < l.length := by omega
      rw [take_rev hil] at heq
      obtain ⟨K, hK⟩ : ∃ K : Int, K = (l[i] : Nat) := ⟨_, rfl⟩
      have hKn := hlt _ (List.getElem_mem hil)
      have hKg : (cI l).getD i 0 = K := by rw [hK]; simp [cI, List.getD_eq_getElem?_getD, hil]
      have hzi : addI 0 ((i : Int)).toNat = i := by rw [Int.toNat_natCast, addI_eq, Nat.zero_add]
      have hzk : addI 0 K.toNat = l[i] := by rw [hK, Int.toNat_natCast, addI_eq, Nat.zero_add]
      obtain ⟨be, g, ty, he, hg⟩ : ∃ be g ty, e0 = .blk be c0 1 g ty ∧ g (addI 0 ((i : Int)).toNat) 0 = .int .i64 K := by
        rcases l0' with ⟨w1, _⟩ | ⟨be, g, ty, he, _, _, hg, _⟩
        · have : l.length = 0 := by rw [← cI_len l, w1]; rfl
          omega
        · refine ⟨be, g, ty, he, ?_⟩
          rw [hzi, hg i (by rw [cI_len]; exact hil), hKg]
      have hxx : lastN m.H (l[i] :: (l.take i).reverse) = if m.H (addI 0 K.toNat) = false then (K, true) else lastN m.H (l.take i).reverse := by rw [hzk, hK]; rfl
      subst he
      have hlm : (m.L 0).length = l.length := by rw [hl]
      refine vc_sound hE 2 _ _ _ 30 ?_
      refine W_seq (nx := 30) ?_
      refine W_to (nx := 30) [(0, .ptr 2000 0 0), (1, .int .i64 0), (6, .int .i64 i), (40, .bool (!(m.H (addI 0 K.toNat))))] (HF bR bH (.blk be c0 1 g ty) e1 c0 c1 m) 30 ?_ ?_
      · refine W_plan (id := 6) hE 30 16 (lineP 0 16 .done) (by rw [hcx]; exact mix) (by kernel_rfl) 30 ?_
        repeat' (first | refine ⟨_, ⟨rfl, rfl⟩, ?_⟩ | fail)
        refine ⟨.ptr 2001 (addI 0 ((i : Int)).toNat) 0, ?_, ?_⟩
        · (refine (?_ : chk _ _); refine chk_ok (show (decide ((0 : Int) ≤ (i : Int)) && decide ((i : Int) < (((m.L 0).length : Nat) : Int))) = true by simp only [Bool.and_eq_true, decide_eq_true_eq]; omega) ?_)
          (refine (?_ : chk _ _); refine chk_ok rfl ?_)
          exact ⟨rfl, rfl⟩
        refine ⟨.int .i64 K, ?_, ?_⟩
        · (refine (?_ : chk _ _); refine chk_ok (Nat.ble_eq_true_of_le (show addI 0 ((i : Int)).toNat * 1 + 0 + 1 ≤ c0 * 1 by rw [hzi]; omega)) ?_)
          (refine (?_ : chk _ _); refine chk_ok rfl ?_)
          refine (?_ : force (g (addI 0 ((i : Int)).toNat) 0) _)
          rw [hg]
          exact ⟨rfl, rfl⟩
        refine ⟨.ptr 2003 (addI 0 K.toNat) 0, ?_, ?_⟩
        · (refine (?_ : chk _ _); refine chk_ok (show (decide ((0 : Int) ≤ K) && decide (K < (m.n : Int))) = true by simp only [Bool.and_eq_true, decide_eq_true_eq]; omega) ?_)
          (refine (?_ : chk _ _); refine chk_ok rfl ?_)
          exact ⟨rfl, rfl⟩
        refine ⟨.bool (m.H (addI 0 K.toNat)), ?_, ?_⟩
        · (refine (?_ : chk _ _); refine chk_ok (Nat.ble_eq_true_of_le (show addI 0 K.toNat * 1 + 0 + 1 ≤ m.n * 1 by rw [hzk]; omega)) ?_)
          exact ⟨rfl, rfl⟩
        repeat' (first | refine ⟨_, ⟨rfl, rfl⟩, ?_⟩ | fail)
        exact ⟨tau [], rfl, (by repeat' (first | exact rfl | exact trivial | assumption | refine ⟨?_, ?_⟩)), hwk⟩
      refine vc_sound hE 60 _ _ _ 30 ?_
      (refine (?_ : br _ _ _); refine br_both (fun q => ?_) (fun q => ?_))
      · have q1 : m.H (addI 0 K.toNat) = false := by simpa using q
        (refine (?_ : chk _ _); refine chk_ok (show (decide ((0 : Int) ≤ (i : Int)) && decide ((i : Int) < (((m.L 0).length : Nat) : Int))) = true by simp only [Bool.and_eq_true, decide_eq_true_eq]; omega) ?_)
        (refine (?_ : chk _ _); refine chk_ok rfl ?_)
        (refine (?_ : chk _ _); refine chk_ok (Nat.ble_eq_true_of_le (show addI 0 ((i : Int)).toNat * 1 + 0 + 1 ≤ c0 * 1 by rw [hzi]; omega)) ?_)
        (refine (?_ : chk _ _); refine chk_ok rfl ?_)
        refine (?_ : force (g (addI 0 ((i : Int)).toNat) 0) _)
        rw [hg]
        show Out.ret (.tup [.int .i64 K, .bool true]) = _
        rw [hlast, heq, hxx, if_pos q1]
      · have q1 : m.H (addI 0 K.toNat) = true := by simpa using q
        rw [hxx, if_neg (by rw [q1]; decide)] at heq
        have hw : IntKind.i64.wrap ((i : Int) - 1) = (i : Int) - 1 := by simp only [IntKind.wrap_i64]; omega
        exact ⟨0 + i, _, _, by omega, ⟨i, _, rfl, by omega, rfl, heq, rfl, rfl⟩, tau [], rfl, (by repeat' (first | exact rfl | exact trivial | assumption | refine ⟨?_, ?_⟩)), hwk⟩
    rintro σ1 h1 _ ⟨hfin, τ1, hw1⟩
    refine W_weak (nx' := 30) τ1 hw1 ?_
    refine vc_sound hE 60 _ _ _ 30 ?_
    show Out.ret (.tup [.int .i64 0, .bool false]) = _
    rw [hlast, hfin]
  · obtain ⟨l, hl⟩ : ∃ l, l = m.L 1 := ⟨_, rfl⟩
    have hlen := hok.len (q := 1) (by omega)
    have hlast : m.lastI 1 = lastN m.H l.reverse := by rw [hl]; rfl
    rw [← hl] at hlen
    have hlt : ∀ i, i ∈ l → i < m.n := fun i hi => hok.lt (q := 1) (by omega) (by rw [← hl]; exact hi)
    have l1' := l1
    rw [← hl] at l1'
    have hcap : l.length ≤ c1 := by have := lst_cap l1'; rwa [cI_len] at this
    refine W_seq (nx := 30) ?_
    refine W_piece (nx := 30) (fun σ1 h1 _ => lastN m.H l.reverse = (0, false) ∧ ∃ τ, wk τ σ1 h1 [] []) ?_ ?_
    · skip
      refine W_seq (nx := 30) ?_
      refine W_to (nx := 30) [(0, .ptr 2000 0 0), (1, .int .i64 1), (6, .int .i64 ((l.length : Int) - 1))] (HF bR bH e0 e1 c0 c1 m) 30 ?_ ?_
      · refine vc_sound hE 60 _ _ _ 30 ?_
        have hw : IntKind.i64.wrap (((m.L 1).length : Int) - 1) = (l.length : Int) - 1 := by rw [← hl]; simp only [IntKind.wrap_i64]; omega
        exact ⟨tau [], rfl, (by repeat' (first | exact rfl | exact trivial | assumption | refine ⟨?_, ?_⟩)), hwk⟩
      refine vc_sound hE 1 _ _ _ 30 ?_
      refine W_loop (fun r σ h => ∃ (j : Nat) (I : Int), r = 0 + j ∧ j ≤ l.length ∧ I = (j : Int) - 1 ∧ lastN m.H l.reverse = lastN m.H (l.take j).reverse ∧ σ = [(0, .ptr 2000 0 0), (1, .int .i64 1), (6, .int .i64 I)] ∧ h = HF bR bH e0 e1 c0 c1 m)
        l.length ⟨l.length, _, by omega, by omega, rfl, by rw [List.take_length], rfl, rfl⟩ (tau []) ⟨rfl, (by repeat' (first | exact rfl | exact trivial | assumption | refine ⟨?_, ?_⟩)), hwk⟩ 30 ?_
      rintro r σ h ⟨j, I, rfl, hj, hI, heq, rfl, rfl⟩
      refine vc_sound hE 1 _ _ _ 30 ?_
      refine W_piece (nx := 30) (fun σ1 h1 _ => 1 ≤ j ∧ ∃ τ, wk τ σ1 h1 [(0, .ptr 2000 0 0), (1, .int .i64 1), (6, .int .i64 I)] (HF bR bH e0 e1 c0 c1 m)) ?_ ?_
      · refine vc_sound hE 60 _ _ _ 30 ?_
        (refine (?_ : br _ _ _); refine br_dec (fun q => ?_) (fun q => ?_))
        · have q1 : 0 ≤ I := q
          exact ⟨by omega, tau [], rfl, (by repeat' (first | exact rfl | exact trivial | assumption | refine ⟨?_, ?_⟩)), hwk⟩
        · have q1 : ¬ 0 ≤ I := q
          obtain rfl : j = 0 := by omega
          exact ⟨heq, tau [], rfl, trivial, trivial⟩
      rintro σ1 h1 _ ⟨hj1, τ1, hw1⟩
      refine W_weak (nx' := 30) τ1 hw1 ?_
      clear hw1 σ1 h1 τ1
      obtain ⟨i, rfl⟩ : ∃ i, j = i + 1 := ⟨j - 1, by omega⟩
      obtain rfl : I = (i : Int) := by omega
      have hil : i < l.length := by omega
      rw [take_rev hil] at heq
      obtain ⟨K, hK⟩ : ∃ K : Int, K = (l[i] : Nat) := ⟨_, rfl⟩
      have hKn := hlt _ (List.getElem_mem hil)
      have hKg : (cI l).getD i 0 = K := by rw [hK]; simp [cI, List.getD_eq_getElem?_getD, hil]
      have hzi : addI 0 ((i : Int)).toNat = i := by rw [Int.toNat_natCast, addI_eq, Nat.zero_add]
      have hzk : addI 0 K.toNat = l[i] := by rw [hK, Int.toNat_natCast, addI_eq, Nat.zero_add]
      obtain ⟨be, g, ty, he, hg⟩ : ∃ be g ty, e1 = .blk be c1 1 g ty ∧ g (addI 0 ((i : Int)).toNat) 0 = .int .i64 K := by
        rcases l1' with ⟨w1, _⟩ | ⟨be, g, ty, he, _, _, hg, _⟩
        · have : l.length = 0 := by rw [← cI_len l, w1]; rfl
          omega
        · refine ⟨be, g, ty, he, ?_⟩
          rw [hzi, hg i (by rw [cI_len]; exact hil), hKg]
      have hxx : lastN m.H (l[i] :: (l.take i).reverse) = if m.H (addI 0 K.toNat) = false then (K, true) else lastN m.H (l.take i).reverse := by rw [hzk, hK]; rfl
      subst he
      have hlm : (m.L 1).length = l.length := by rw [hl]
      refine vc_sound hE 2 _ _ _ 30 ?_
      refine W_seq (nx := 30) ?_
      refine W_to (nx := 30) [(0, .ptr 2000 0 0), (1, .int .i64 1), (6, .int .i64 i), (40, .bool (!(m.H (addI 0 K.toNat))))] (HF bR bH e0 (.blk be c1 1 g ty) c0 c1 m) 30 ?_ ?_
      · refine W_plan (id := 6) hE 30 16 (lineP 0 16 .done) (by rw [hcx]; exact mix) (by kernel_rfl) 30 ?_
        repeat' (first | refine ⟨_, ⟨rfl, rfl⟩, ?_⟩ | fail)
        refine ⟨.ptr 2002 (addI 0 ((i : Int)).toNat) 0, ?_, ?_⟩
        · (refine (?_ : chk _ _); refine chk_ok (show (decide ((0 : Int) ≤ (i : Int)) && decide ((i : Int) < (((m.L 1).length : Nat) : Int))) = true by simp only [Bool.and_eq_true, decide_eq_true_eq]; omega) ?_)
          (refine (?_ : chk _ _); refine chk_ok rfl ?_)
          exact ⟨rfl, rfl⟩
        refine ⟨.int .i64 K, ?_, ?_⟩
        · (refine (?_ : chk _ _); refine chk_ok (Nat.ble_eq_true_of_le (show addI 0 ((i : Int)).toNat * 1 + 0 + 1 ≤ c1 * 1 by rw [hzi]; omega)) ?_)
          (refine (?_ : chk _ _); refine chk_ok rfl ?_)
          refine (?_ : force (g (addI 0 ((i : Int)).toNat) 0) _)
          rw [hg]
          exact ⟨rfl, rfl⟩
        refine ⟨.ptr 2003 (addI 0 K.toNat) 0, ?_, ?_⟩
        · (refine (?_ : chk _ _); refine chk_ok (show (decide ((0 : Int) ≤ K) && decide (K < (m.n : Int))) = true by simp only [Bool.and_eq_true, decide_eq_true_eq]; omega) ?_)
          (refine (?_ : chk _ _); refine chk_ok rfl ?_)
          exact ⟨rfl, rfl⟩
        refine ⟨.bool (m.H (addI 0 K.toNat)), ?_, ?_⟩
        · (refine (?_ : chk _ _); refine chk_ok (Nat.ble_eq_true_of_le (show addI 0 K.toNat * 1 + 0 + 1 ≤ m.n * 1 by rw [hzk]; omega)) ?_)
          exact ⟨rfl, rfl⟩
        repeat' (first | refine ⟨_, ⟨rfl, rfl⟩, ?_⟩ | fail)
        exact ⟨tau [], rfl, (by repeat' (first | exact rfl | exact trivial | assumption | refine ⟨?_, ?_⟩)), hwk⟩
      refine vc_sound hE 60 _ _ _ 30 ?_
      (refine (?_ : br _ _ _); refine br_both (fun q => ?_) (fun q => ?_))
      · have q1 : m.H (addI 0 K.toNat) = false := by simpa using q
        (refine (?_ : chk _ _); refine chk_ok (show (decide ((0 : Int) ≤ (i : Int)) && decide ((i : Int) < (((m.L 1).length : Nat) : Int))) = true by simp only [Bool.and_eq_true, decide_eq_true_eq]; omega) ?_)
        (refine (?_ : chk _ _); refine chk_ok rfl ?_)
        (refine (?_ : chk _ _); refine chk_ok (Nat.ble_eq_true_of_le (show addI 0 ((i : Int)).toNat * 1 + 0 + 1 ≤ c1 * 1 by rw [hzi]; omega)) ?_)
        (refine (?_ : chk _ _); refine chk_ok rfl ?_)
        refine (?_ : force (g (addI 0 ((i : Int)).toNat) 0) _)
        rw [hg]
        show Out.ret (.tup [.int .i64 K, .bool true]) = _
        rw [hlast, heq, hxx, if_pos q1]
      · have q1 : m.H (addI 0 K.toNat) = true := by simpa using q
        rw [hxx, if_neg (by rw [q1]; decide)] at heq
        have hw : IntKind.i64.wrap ((i : Int) - 1) = (i : Int) - 1 := by simp only [IntKind.wrap_i64]; omega
        exact ⟨0 + i, _, _, by omega, ⟨i, _, rfl, by omega, rfl, heq, rfl, rfl⟩, tau [], rfl, (by repeat' (first | exact rfl | exact trivial | assumption | refine ⟨?_, ?_⟩)), hwk⟩
    rintro σ1 h1 _ ⟨hfin, τ1, hw1⟩
    refine W_weak (nx' := 30) τ1 hw1 ?_
    refine vc_sound hE 60 _ _ _ 30 ?_
    show Out.ret (.tup [.int .i64 0, .bool false]) = _
    rw [hlast, hfin]
end Go.Proofs.YtiihiifcnkfjoaaDoor.Sx

