import Derived.Test.YtkncijljkfpdiaaSxWB
/-
  The lanes, read: Heads (18).
-/
namespace Go.Proofs.Ytkncijljkfpdiaa.Sx
open Go Go.Proofs
set_option maxRecDepth 100000
set_option linter.unusedSimpArgs false
set_option linter.unusedVariables false

def wkT (h h' : Hp) (σ : Sl) : Sl → Prop
  | [] => True
  | (t, u) :: r => (match lk t σ with | some v => tell h h' v u | none => False) ∧ wkT h h' σ r
theorem wkT_at {h h' : Hp} {σ : Sl} : ∀ {l : Sl}, wkT h h' σ l → ∀ t u, lk t l = some u → ∃ v, lk t σ = some v ∧ tell h h' v u
  | [], _, t, u, e => by simp [lk] at e
  | (s, x) :: r, ⟨h1, h2⟩, t, u, e => by
    rw [lk_cons] at e
    split at e
    · rename_i ht
      subst ht
      injection e with e
      subst e
      split at h1
      · rename_i v hv; exact ⟨v, hv, h1⟩
      · exact h1.elim
    · exact wkT_at h2 t u e
/-- A nil slice has a row of its own. -/
theorem W_nil {E : Env} {k : List It} {σ σ' : Sl} {h : Hp} {nx nx' : Nat} (t : Nat) (ht : fd t h = .gone) (hs : wkT h ((t, .ro none 0 1 (gl [])) :: h) σ σ') (hv : W E k σ' ((t, .ro none 0 1 (gl [])) :: h) nx') : W E k σ h nx := fun a w hm =>
  hv a w ⟨hm.size, fun t u e => let ⟨v, e1, r⟩ := wkT_at hs t u e; r _ (hm.slots t v e1), hm.calm, (hm.rel.ronil ht).1⟩
theorem tell_ext {h h' : Hp} (hx : Ext h h') (v : V) : tell h h' v v := fun x r => vrel_mono hx v x r

theorem W_ex {E : Env} {x : Code} {k : List It} {σ : Sl} {h : Hp} {nx : Nat} {α : Type} (Q : α → Prop) (σ' : α → Sl) (h' : α → Hp) (nx' : Nat) (h1 : W E (.code x :: .fin (fun σ1 h1 _ => ∃ a, Q a ∧ ∃ τ, wk τ σ1 h1 (σ' a) (h' a)) :: k) σ h nx) (h2 : ∀ a, Q a → W E k (σ' a) (h' a) nx') : W E (.code x :: k) σ h nx :=
  W_piece _ h1 fun _ _ _ ⟨a, hq, τ, hw⟩ => W_weak (nx' := nx') τ hw (h2 a hq)

abbrev nilE : Ent := .ro none 0 1 (gl [])
theorem nilL : lstE nilE [] 0 := .inl ⟨rfl, rfl, rfl⟩
theorem gone_at {rest : Hp} {t n : Nat} {e : Nat → Ent} (h1 : t < 3000) (h2 : t ≠ 2) (h3 : t ≠ 9) (h4 : t ≠ 8) (h5 : t ∉ rest.map (·.1)) {a b c : Ent} : fd t ((2, a) :: (9, b) :: (8, c) :: (rest ++ lanes 3000 n e)) = .gone := by
  rw [fd_cons, if_neg h2, fd_cons, if_neg h3, fd_cons, if_neg h4, fd_appR h5, fd_lanes_low h1]
theorem keysR {a b c : Ent} {rest : Hp} {n : Nat} {e : Nat → Ent} {τ : Nat → Nat} (hA : nodupB (((2 :: 9 :: 8 :: rest.map (·.1))).map τ) = true) (hτ : ∀ i, τ (i + 3000) = i + 3000) (hL : (((2 :: 9 :: 8 :: rest.map (·.1))).map τ).all (fun t => Nat.blt t 3000) = true) : nodupB (((((2, a) :: (9, b) :: (8, c) :: (rest ++ lanes 3000 n e)) : Hp).map (·.1)).map τ) = true := by
  refine keysH hA (fun i j _ _ q => by rw [hτ, hτ] at q; omega) fun t ht i hi => ?_
  have := Nat.le_of_ble_eq_true (List.all_eq_true.1 hL (τ t) (List.mem_map_of_mem ht) : Nat.ble (τ t + 1) 3000 = true)
  rw [hτ]; omega
theorem low_app {A : Hp} (hA : (A.map (·.1)).all (fun t => Nat.blt t 3000) = true) {i : Nat} {h : Hp} : fd (i + 3000) (A ++ h) = fd (i + 3000) h := by
  refine fd_appR fun q => ?_
  have := Nat.le_of_ble_eq_true (List.all_eq_true.1 hA _ q : Nat.ble (i + 3000 + 1) 3000 = true)
  omega
theorem HRo.wkA {bL bM bR n room : Nat} {S : Std} {e : Nat → Ent} {cp : Nat → Nat} (A : Hp) {rest rest' : Hp} {τ : Nat → Nat} (hA : (A.map (·.1)).all (fun t => Nat.blt t 3000) = true) (hm : Mid rest) (hm' : Mid rest') (he : ∀ i, i < n → rdE (e i) (lane S i) (cp i))
    (f2 : fd (τ 2) (A ++ HRo bL bM bR n room S e cp rest) = .ro (some ⟨bR, 0, none⟩) n 1 (gR S cp)) (f9 : fd (τ 9) (A ++ HRo bL bM bR n room S e cp rest) = .rmp bM (mpS S)) (f8 : fd (τ 8) (A ++ HRo bL bM bR n room S e cp rest) = .ro (some ⟨bL, 0, none⟩) 1 3 (gLn n room)) (hτ : ∀ i, τ (i + 3000) = i + 3000) (t2 : τ 2 = 2) (t9 : τ 9 = 9)
    (hr : wkH τ (A ++ HRo bL bM bR n room S e cp rest) (HRo bL bM bR n room S e cp rest') rest') : wkH τ (A ++ HRo bL bM bR n room S e cp rest) (HRo bL bM bR n room S e cp rest') (HRo bL bM bR n room S e cp rest') :=
  HRo.wk (g := gR S cp) f2 (fun i hi => by rw [hτ]; rfl) f9 f8 t2 t9 trivial trivial (fun i hi => live_lane hm' hi (he i hi).here) (fun i hi => ⟨by rw [hτ, low_app hA, hm.at hi], he i hi⟩) hr
theorem wk_gone {τ : Nat → Nat} {h' : Hp} {e : Ent} : wkE τ h' e .gone := by cases e <;> trivial
def headsN (S : Std) (j : Nat) : List Int := (List.range j).filterMap fun i => (lane S i).head?
theorem headsN_succ {S : Std} {j : Nat} : headsN S (j + 1) = headsN S j ++ (match lane S j with | [] => [] | x :: _ => [x]) := by
  unfold headsN
  rw [List.range_succ, List.filterMap_append]
  cases h : lane S j <;> simp [h]
theorem headsN_len {S : Std} {j : Nat} : (headsN S j).length ≤ j := by
  unfold headsN
  refine Nat.le_trans (List.length_filterMap_le _ _) ?_
  simp
def sHeads : Spec := fun args h nx K => ∃ (bL bM bR n room : Nat) (g : Nat → Nat → V) (S : Std) (q cp : Nat → Nat), args = [.ptr 8 0 0] ∧ LnRd h bL bM bR n room g S q cp ∧ Fit n room S ∧ fd nx h = .gone ∧ newL (headsN S n) h nx K
theorem sHeads_ok : SpecOK Try.prog 18 sHeads := by
  refine specOK_newM (fn := Try.f18) rfl rfl rfl T_ok (SP := [(14, sHd false)]) (consSP sHead_ok noSP) _ ?_
  rintro args h nx K ⟨bL, bM, bR, n, room, g, S, q, cp, rfl, H, hF, hg, hk⟩
  refine ⟨hg, _, _, _, told_full (rest := []) H trivial, by simp [Try.f18], hk, fun c hc => ?_⟩
  have hE := mkE' (fn := Try.f18) (R := fun o h _ => retM (headsN S n) o h) hc (consSP sHead_ok noSP)
  have he : ∀ i, i < n → rdE ((fun i => fd (q i) (roH h)) i) (lane S i) (cp i) := H.is
  clear hk hg
  generalize (fun i => fd (q i) (roH h)) = e at he ⊢
  clear H
  have hn := hF.blocks
  have m0 : Mid [] := fun t ht => by cases ht
  have m1 : ∀ x : Ent, Mid [(200, x), (30, .gone), (31, .gone)] := fun x => Mid.of rfl
  refine W_seq (nx := 0) ?_
  refine W_to (nx := 0) [(0, .ptr 8 0 0)] (HRo bL bM bR n room S e cp []) 30 ?_ ?_
  · refine vc_sound hE 20 _ _ _ 30 ?_
    exact ⟨tau [], keysR rfl (fun _ => rfl) rfl, (by repeat' (first | exact rfl | exact trivial | assumption | refine ⟨?_, ?_⟩)), HRo.wkA [] rfl m0 m0 he rfl rfl rfl (fun _ => rfl) rfl rfl trivial⟩
  refine W_seq (nx := 0) ?_
  refine W_piece (nx := 0) (fun σ1 h1 _ => h1 = HRo bL bM bR n room S e cp [] ∧ lk 0 σ1 = some (.ptr 8 0 0) ∧ lk 3 σ1 = some .nils) ?_ ?_
  · refine vc_sound hE 20 _ _ _ 30 ?_
    exact ⟨rfl, rfl, rfl⟩
  rintro σ1 h1 _ ⟨rfl, s0, s3⟩
  refine W_nil (σ' := [(0, .ptr 8 0 0), (3, .slice 200 0 (headsN S 0).length 0)]) 200 (gone_at (by decide) (by decide) (by decide) (by decide) (by simp)) ⟨?_, ?_, trivial⟩ (nx' := 30) ?_
  · rw [s0]; exact tell_ptr rfl
  · rw [s3]; exact tell_nil rfl
  refine W_weak (nx' := 30) (σ' := [(0, .ptr 8 0 0), (3, .slice 200 0 (headsN S 0).length 0)]) (h' := HRo bL bM bR n room S e cp [(200, nilE), (30, .gone), (31, .gone)]) (tau []) ⟨keysR rfl (fun _ => rfl) rfl, (by repeat' (first | exact rfl | exact trivial | assumption | refine ⟨?_, ?_⟩)), HRo.wkA [(200, nilE)] rfl m0 (m1 _) he rfl rfl rfl (fun _ => rfl) rfl rfl ⟨⟨rfl, rfl, rfl, fun i c hi => by omega⟩, wk_gone, wk_gone, trivial⟩⟩ ?_
  clear s0 s3
  refine W_seq (nx := 30) ?_
  refine W_ex (nx := 30) (fun (a : Ent × Nat) => lstE a.1 (headsN S n) a.2) (fun a => [(3, .slice 200 0 (headsN S n).length a.2)]) (fun a => HRo bL bM bR n room S e cp [(200, a.1), (30, .gone), (31, .gone)]) 30 ?_ ?_
  · refine vc_sound hE 50 _ _ _ 30 ?_
    refine W_loop (fun r σ h => ∃ (j : Nat) (e' : Ent) (c' : Nat), r = n - j ∧ j ≤ n ∧ lstE e' (headsN S j) c' ∧ σ = [(0, .ptr 8 0 0), (3, .slice 200 0 (headsN S j).length c'), (11, .int .i64 n), (12, .int .i64 j)] ∧ h = HRo bL bM bR n room S e cp [(200, e'), (30, .gone), (31, .gone)])
      n ⟨0, nilE, 0, rfl, by omega, nilL, rfl, rfl⟩ (tau []) ⟨keysR rfl (fun _ => rfl) rfl, (by repeat' (first | exact rfl | exact trivial | assumption | refine ⟨?_, ?_⟩)), HRo.wkA [] rfl (m1 _) (m1 _) he rfl rfl rfl (fun _ => rfl) rfl rfl ⟨⟨rfl, rfl, rfl, fun i c hi => by omega⟩, wk_gone, wk_gone, trivial⟩⟩ 30 ?_
    rintro r σ h1 ⟨j, e', c', rfl, hj, hl, rfl, rfl⟩
    have v0 : live (HRo bL bM bR n room S e cp [(200, e'), (30, .gone), (31, .gone)]) 200 := lst_live hl
    have hlen := headsN_len (S := S) (j := j)
    refine vc_sound hE 60 _ _ _ 30 ?_
    (refine (?_ : br _ _ _); refine br_dec (fun q => ?_) (fun q => ?_))
    rotate_left
    · have q : ¬ (j : Int) < n := q
      obtain rfl : j = n := by omega
      exact ⟨(e', c'), hl, tau [], keysR rfl (fun _ => rfl) rfl, (by repeat' (first | exact rfl | exact trivial | assumption | refine ⟨?_, ?_⟩)), HRo.wkA [] rfl (m1 _) (m1 _) he rfl rfl rfl (fun _ => rfl) rfl rfl ⟨lst_wk hl _ _, wk_gone, wk_gone, trivial⟩⟩
    have q : (j : Int) < n := q
    have hjn : j < n := by omega
    have hw : IntKind.i64.wrap ((j : Int) + 1) = ((j + 1 : Nat) : Int) := by simp only [IntKind.wrap_i64]; omega
    refine ⟨bL, bM, bR, n, room, gR S cp, S, (· + 3000), cp, (j : Int), rfl, HRo.rd (m1 _) he, hF, ?_⟩
    have hi : isI n (j : Int) = true := by unfold isI; simp only [decide_eq_true_eq]; omega
    have hE1 : endL n S (j : Int) false = endI (lane S j) false := by unfold endL; rw [if_pos hi, Int.toNat_natCast]
    rw [hE1]
    cases hlj : lane S j with
    | nil =>
      have hs : headsN S (j + 1) = headsN S j := by rw [headsN_succ, hlj, List.append_nil]
      refine ⟨n - (j + 1), _, _, by omega, ⟨j + 1, e', c', rfl, by omega, by rw [hs]; exact hl, rfl, rfl⟩, tau [], keysR rfl (fun _ => rfl) rfl, ?_, HRo.wkA [] rfl (m1 _) (m1 _) he rfl rfl rfl (fun _ => rfl) rfl rfl ⟨lst_wk hl _ _, wk_gone, wk_gone, trivial⟩⟩
      rw [hs]
      exact ⟨⟨⟨rfl, trivial⟩, rfl, rfl⟩, ⟨⟨rfl, v0⟩, rfl, rfl, rfl⟩, ⟨rfl, rfl⟩, ⟨rfl, hw⟩, trivial⟩
    | cons x xs =>
      have hs : headsN S (j + 1) = headsN S j ++ [x] := by rw [headsN_succ, hlj]
      have he2 : endI (x :: xs) false = (x, true) := by simp [endI]
      rw [he2]
      intro b1
      refine putS_some rfl ?_
      refine vc_app (v := .slice 200 0 (headsN S j).length c') (u := .slice 30 0 1 1) rfl rfl ?_
      refine app_one intT hl rfl (x := x) (.inr ⟨30, 0, 1, _, 1, _, rfl, rfl, Nat.le_refl _, fun i hi => (by obtain rfl : i = 0 := (by simpa using hi); rfl)⟩) rfl (by omega) (fun e'' hl' => ?_) (fun e'' c'' hl' => ?_)
      · rw [← hs] at hl' ⊢
        have v2 : live (HRo bL bM bR n room S e cp [(200, e''), (30, .gone), (31, .gone)]) 200 := lst_live hl'
        exact ⟨n - (j + 1), _, _, by omega, ⟨j + 1, e'', c', rfl, by omega, hl', rfl, rfl⟩, tau [], keysR rfl (fun _ => rfl) rfl, ⟨⟨⟨rfl, trivial⟩, rfl, rfl⟩, ⟨⟨rfl, v2⟩, rfl, rfl, rfl⟩, ⟨rfl, rfl⟩, ⟨rfl, hw⟩, trivial⟩, HRo.wkA [(200, e''), (30, _)] rfl (m1 _) (m1 _) he rfl rfl rfl (fun _ => rfl) rfl rfl ⟨lst_wk hl' _ _, wk_gone, wk_gone, trivial⟩⟩
      · rw [← hs] at hl' ⊢
        have v2 : live (HRo bL bM bR n room S e cp [(200, e''), (30, .gone), (31, .gone)]) 200 := lst_live hl'
        exact ⟨n - (j + 1), _, _, by omega, ⟨j + 1, e'', c'', rfl, by omega, hl', rfl, rfl⟩, tau [(200, 31), (31, 32)], keysR rfl (fun _ => rfl) rfl, ⟨⟨⟨rfl, trivial⟩, rfl, rfl⟩, ⟨⟨rfl, v2⟩, rfl, rfl, rfl⟩, ⟨rfl, rfl⟩, ⟨rfl, hw⟩, trivial⟩, HRo.wkA [(31, e''), (30, _)] rfl (m1 _) (m1 _) he rfl rfl rfl (fun _ => rfl) rfl rfl ⟨lst_wk hl' _ _, wk_gone, wk_gone, trivial⟩⟩
  rintro ⟨e', c'⟩ hl
  refine vc_sound hE 20 _ _ _ 30 ?_
  exact Or.inr ⟨200, c', e', rfl, rfl, hl⟩
end Go.Proofs.Ytkncijljkfpdiaa.Sx
