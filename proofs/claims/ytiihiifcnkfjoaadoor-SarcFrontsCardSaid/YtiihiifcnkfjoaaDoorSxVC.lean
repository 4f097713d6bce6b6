import Derived.Test.YtiihiifcnkfjoaaDoorSxGD
import Derived.Test.YtiihiifcnkfjoaaDoorSxGE
/-
  A step on both: what is known behind it, told anew; what every step keeps.
-/
namespace Go.Proofs.YtiihiifcnkfjoaaDoor.Sx
open Go Go.Proofs
set_option maxRecDepth 100000
set_option linter.unusedSimpArgs false
set_option linter.unusedVariables false

/-- Both policies, and what is read besides. -/
abbrev HB (bS bA bP bU bQ bR bH : Nat) (s : Sh) (p r : Pol) (X0 X1 eU : Ent) (c0 c1 cU : Nat) (eX eY : Ent) : Hp := HPW bS bA bP bU s p ++ (HQ bQ bR bH X0 X1 eU c0 c1 cU r ++ [(100, eX), (101, eY)])
theorem HQ.wkIn {bQ bR bH : Nat} {X0 X1 eU e0 e1 : Ent} {c0 c1 cU t0 t1 tU : Nat} {r : Pol} {h h' rest : Hp} (hl : LQ e0 e1 eU c0 c1 cU r) (hx0 : X0 = e0 ∨ X0 = e0.toRo) (hx1 : X1 = e1 ∨ X1 = e1.toRo)
    (q1 : fd 3000 h = .blk bQ 1 5 (gQ r tU cU) 66) (q2 : fd 2000 h = .blk bR 1 5 (gF r.m.n r.m.b t0 (r.m.L 0).length c0 t1 (r.m.L 1).length c1 2003) 68) (q3 : fd t0 h = X0) (q4 : fd t1 h = X1) (q5 : fd 2003 h = .blk bH r.m.n 1 (gb r.m.H) 4) (q6 : fd tU h = eU)
    (v0 : live h' 40) (v1 : live h' 41) (v2 : live h' 42) (v3 : live h' 2003) (v4 : live h' 2000) (hr : wkH (tau [(40, t0), (41, t1), (42, tU)]) h h' rest) : wkH (tau [(40, t0), (41, t1), (42, tU)]) h h' (HQ bQ bR bH X0 X1 eU c0 c1 cU r ++ rest) := by
  have wX : ∀ {X e : Ent} {l : List Int} {c : Nat}, lstE e l c → (X = e ∨ X = e.toRo) → ∀ τ h', wkE τ h' X X := fun hl hx τ h' => by rcases hx with rfl | rfl; exact lst_wk hl _ _; exact hl.ro_wk _ _
  refine ⟨?_, ?_, ?_, ?_, ?_, ?_, hr⟩
  · show wkE _ _ (fd 3000 h) _
    rw [q1]; exact ⟨rfl, rfl, rfl, rfl, fun i c hi hc => by obtain rfl : i = 0 := (by omega); exact gQ_rn ⟨rfl, v4⟩ ⟨rfl, v2⟩ hc⟩
  · show wkE _ _ (fd 2000 h) _
    rw [q2]; exact ⟨rfl, rfl, rfl, rfl, fun i c hi hc => by obtain rfl : i = 0 := (by omega); exact gF_rn ⟨rfl, v0⟩ ⟨rfl, v1⟩ ⟨rfl, v3⟩ hc⟩
  · show wkE _ _ (fd t0 h) _
    rw [q3]; exact wX hl.l0 hx0 _ _
  · show wkE _ _ (fd t1 h) _
    rw [q4]; exact wX hl.l1 hx1 _ _
  · show wkE _ _ (fd 2003 h) _
    rw [q5]; exact ⟨rfl, rfl, rfl, rfl, fun i c hi hc => rfl⟩
  · show wkE _ _ (fd tU h) _
    rw [q6]; exact lst_wk hl.lU _ _
theorem HPW.wkIn2 {bS bA bP bU t0 t1 tU : Nat} {s : Sh} {p : Pol} {h h' rest : Hp} (e1 : fd 1 h = eS bS s) (e2 : fd 2 h = eA bA s) (e8 : fd 8 h = eP bP p) (e9 : fd 9 h = eU bU p) (eb : fd 1000 h = eB) (v1 : live h' 1) (v2 : live h' 2) (v9 : live h' 9) (hr : wkH (tau [(40, t0), (41, t1), (42, tU)]) h h' rest) : wkH (tau [(40, t0), (41, t1), (42, tU)]) h h' (HPW bS bA bP bU s p ++ rest) := by
  refine ⟨?_, ?_, ?_, ?_, ?_, hr⟩
  · show wkE _ _ (fd 1 h) _
    rw [e1]; exact eS_wk ⟨rfl, v2⟩
  · show wkE _ _ (fd 2 h) _
    rw [e2]; exact eA_wk rfl
  · show wkE _ _ (fd 8 h) _
    rw [e8]; exact ⟨rfl, rfl, rfl, rfl, fun i c hi hc => by
      obtain rfl : i = 0 := (by omega)
      match c, hc with
      | 0, _ => exact ⟨⟨rfl, v1⟩, rfl, rfl⟩
      | 1, _ => exact ⟨rfl, rfl⟩
      | 2, _ => exact ⟨rfl, rfl⟩
      | 3, _ => exact ⟨⟨rfl, v9⟩, rfl, rfl, rfl⟩
      | 4, _ => exact ⟨rfl, rfl⟩
      | 5, _ => exact ⟨rfl, rfl⟩
      | 6, _ => exact ⟨rfl, rfl⟩
      | 7, _ => exact ⟨rfl, rfl⟩⟩
  · show wkE _ _ (fd 9 h) _
    rw [e9]; exact ⟨rfl, rfl, rfl, rfl, fun i c hi hc => ⟨rfl, rfl⟩⟩
  · show wkE _ _ (fd 1000 h) _
    rw [eb]; exact ⟨rfl, rfl, rfl, fun i c hi hc => ⟨rfl, rfl⟩⟩

theorem live_or {X e : Ent} {l : List Int} {c : Nat} (hl : lstE e l c) (hx : X = e ∨ X = e.toRo) : X.here := by rcases hx with rfl | rfl; exact lst_live hl; exact hl.ro_live
theorem HB.wk {bS bA bP bU bQ bR bH : Nat} {s : Sh} {p r : Pol} {X0 X1 eU e0 e1 : Ent} {c0 c1 cU : Nat} {eX eY : Ent} (hl : LQ e0 e1 eU c0 c1 cU r) (hx0 : X0 = e0 ∨ X0 = e0.toRo) (hx1 : X1 = e1 ∨ X1 = e1.toRo) (hX : ∀ τ h', wkE τ h' eX eX) (hY : ∀ τ h', wkE τ h' eY eY) :
    wkH (tau [(40, 40), (41, 41), (42, 42)]) (HB bS bA bP bU bQ bR bH s p r X0 X1 eU c0 c1 cU eX eY) (HB bS bA bP bU bQ bR bH s p r X0 X1 eU c0 c1 cU eX eY) (HB bS bA bP bU bQ bR bH s p r X0 X1 eU c0 c1 cU eX eY) :=
  HPW.wkIn2 rfl rfl rfl rfl rfl trivial trivial trivial (HQ.wkIn hl hx0 hx1 rfl rfl rfl rfl rfl rfl (show X0.here from live_or hl.l0 hx0) (show X1.here from live_or hl.l1 hx1) (show eU.here from lst_live hl.lU) trivial trivial ⟨hX _ _, hY _ _, trivial⟩)

/-- Behind a step: told anew. -/
theorem step_wk {bS bA bP bU bQ bR bH : Nat} {s s' : Sh} {p r p' r' : Pol} {X0 X1 e0 e1 eU : Ent} {c0 c1 cU : Nat} {eX eY EU E0 E1 EN bx : Ent} {t0 t1 tU d0 d1 dU : Nat} (hX : ∀ τ h', wkE τ h' eX eX) (hY : ∀ τ h', wkE τ h' eY eY)
    (hl : LQ e0 e1 eU c0 c1 cU r) (hx0 : X0 = e0 ∨ X0 = e0.toRo) (hx1 : X1 = e1 ∨ X1 = e1.toRo) (hN : s'.N = s.N) (hn : p'.m.n = p.m.n) (n0 : NewL 50 E0 40 t0 e0 (cI (r'.m.L 0)) d0) (n1 : NewL 51 E1 41 t1 e1 (cI (r'.m.L 1)) d1) (nU : QU tU EU EN eU r'.us dU) :
    ∃ X0' X1' eU' e0' e1', LQ e0' e1' eU' d0 d1 dU r' ∧ (X0' = e0' ∨ X0' = e0'.toRo) ∧ (X1' = e1' ∨ X1' = e1'.toRo) ∧ nodupB (([1, 2, 8, 9, 1000, 3000, 2000, 40, 41, 2003, 42, 100, 101] : List Nat).map (tau [(40, t0), (41, t1), (42, tU)])) = true ∧
      wkH (tau [(40, t0), (41, t1), (42, tU)]) (GQ bQ bR bH EU E0 E1 EN t0 t1 tU d0 d1 dU r' ++ (GP bS bA bP bU s.N p.m.n s' p' ++ ((90, bx) :: HB bS bA bP bU bQ bR bH s p r X0 X1 eU c0 c1 cU eX eY))) (HB bS bA bP bU bQ bR bH s' p' r' X0' X1' eU' d0 d1 dU eX eY) (HB bS bA bP bU bQ bR bH s' p' r' X0' X1' eU' d0 d1 dU eX eY) := by
  have key : ∀ X0' X1' eU' e0' e1', LQ e0' e1' eU' d0 d1 dU r' → (X0' = e0' ∨ X0' = e0'.toRo) → (X1' = e1' ∨ X1' = e1'.toRo) →
      fd t0 (GQ bQ bR bH EU E0 E1 EN t0 t1 tU d0 d1 dU r' ++ (GP bS bA bP bU s.N p.m.n s' p' ++ ((90, bx) :: HB bS bA bP bU bQ bR bH s p r X0 X1 eU c0 c1 cU eX eY))) = X0' →
      fd t1 (GQ bQ bR bH EU E0 E1 EN t0 t1 tU d0 d1 dU r' ++ (GP bS bA bP bU s.N p.m.n s' p' ++ ((90, bx) :: HB bS bA bP bU bQ bR bH s p r X0 X1 eU c0 c1 cU eX eY))) = X1' →
      fd tU (GQ bQ bR bH EU E0 E1 EN t0 t1 tU d0 d1 dU r' ++ (GP bS bA bP bU s.N p.m.n s' p' ++ ((90, bx) :: HB bS bA bP bU bQ bR bH s p r X0 X1 eU c0 c1 cU eX eY))) = eU' →
      wkH (tau [(40, t0), (41, t1), (42, tU)]) (GQ bQ bR bH EU E0 E1 EN t0 t1 tU d0 d1 dU r' ++ (GP bS bA bP bU s.N p.m.n s' p' ++ ((90, bx) :: HB bS bA bP bU bQ bR bH s p r X0 X1 eU c0 c1 cU eX eY))) (HB bS bA bP bU bQ bR bH s' p' r' X0' X1' eU' d0 d1 dU eX eY) (HB bS bA bP bU bQ bR bH s' p' r' X0' X1' eU' d0 d1 dU eX eY) :=
    fun X0' X1' eU' e0' e1' hl' y0 y1 f0 f1 fU => HPW.wkIn2 rfl (eA_N hN) rfl (eU_N hn) rfl trivial trivial trivial (HQ.wkIn hl' y0 y1 rfl rfl f0 f1 rfl fU (show X0'.here from live_or hl'.l0 y0) (show X1'.here from live_or hl'.l1 y1) (show eU'.here from lst_live hl'.lU) trivial trivial ⟨hX _ _, hY _ _, trivial⟩)
  rcases n0 with ⟨rfl, rfl, a0⟩ | ⟨rfl, a0⟩ <;> rcases n1 with ⟨rfl, rfl, a1⟩ | ⟨rfl, a1⟩ <;> rcases nU with ⟨rfl, rfl, _, aU⟩ | ⟨rfl, _, aU⟩
  · exact ⟨X0, X1, EU, e0, e1, ⟨a0, a1, aU⟩, hx0, hx1, rfl, key _ _ _ _ _ ⟨a0, a1, aU⟩ hx0 hx1 rfl rfl rfl⟩
  · exact ⟨X0, X1, EN, e0, e1, ⟨a0, a1, aU.lst⟩, hx0, hx1, rfl, key _ _ _ _ _ ⟨a0, a1, aU.lst⟩ hx0 hx1 rfl rfl rfl⟩
  · exact ⟨X0, E1, EU, e0, E1, ⟨a0, a1.lst, aU⟩, hx0, .inl rfl, rfl, key _ _ _ _ _ ⟨a0, a1.lst, aU⟩ hx0 (.inl rfl) rfl rfl rfl⟩
  · exact ⟨X0, E1, EN, e0, E1, ⟨a0, a1.lst, aU.lst⟩, hx0, .inl rfl, rfl, key _ _ _ _ _ ⟨a0, a1.lst, aU.lst⟩ hx0 (.inl rfl) rfl rfl rfl⟩
  · exact ⟨E0, X1, EU, E0, e1, ⟨a0.lst, a1, aU⟩, .inl rfl, hx1, rfl, key _ _ _ _ _ ⟨a0.lst, a1, aU⟩ (.inl rfl) hx1 rfl rfl rfl⟩
  · exact ⟨E0, X1, EN, E0, e1, ⟨a0.lst, a1, aU.lst⟩, .inl rfl, hx1, rfl, key _ _ _ _ _ ⟨a0.lst, a1, aU.lst⟩ (.inl rfl) hx1 rfl rfl rfl⟩
  · exact ⟨E0, E1, EU, E0, E1, ⟨a0.lst, a1.lst, aU⟩, .inl rfl, .inl rfl, rfl, key _ _ _ _ _ ⟨a0.lst, a1.lst, aU⟩ (.inl rfl) (.inl rfl) rfl rfl rfl⟩
  · exact ⟨E0, E1, EN, E0, E1, ⟨a0.lst, a1.lst, aU.lst⟩, .inl rfl, .inl rfl, rfl, key _ _ _ _ _ ⟨a0.lst, a1.lst, aU.lst⟩ (.inl rfl) (.inl rfl) rfl rfl rfl⟩

/-- What a law's walk knows besides: the policy, and what is read. -/
theorem HPW.wkR {bS bA bP bU : Nat} {s : Sh} {p : Pol} {rest : Hp} (hr : wkH (tau []) (HPW bS bA bP bU s p ++ rest) (HPW bS bA bP bU s p ++ rest) rest) : wkH (tau []) (HPW bS bA bP bU s p ++ rest) (HPW bS bA bP bU s p ++ rest) (HPW bS bA bP bU s p ++ rest) :=
  HPW.wkIn rfl rfl rfl rfl rfl trivial trivial trivial hr

/-! ### What every step keeps -/
structure Pol.Fit2 (p : Pol) (j : Nat) : Prop where
  want : p.want ≤ p.m.n
  miss : p.miss ≤ 63
  hits : p.hits ≤ 63
  few : p.R.length ≤ j
theorem Pol.Fit2.fit {p : Pol} {j : Nat} (h : p.Fit2 j) (hj : j ≤ 100000) : p.Fit := ⟨h.want, h.miss, h.hits, by have := h.few; omega⟩
theorem weigh_fit {p : Pol} {j : Nat} (hw : p.want ≤ p.m.n) (h1 : p.miss ≤ 64) (h2 : p.hits ≤ 64) (hr : p.R.length ≤ j) : p.weighP.Fit2 j := by
  refine ⟨?_, ?_, ?_, hr⟩
  · show p.want1 ≤ p.m.n
    unfold Pol.want1
    split
    · omega
    · split <;> omega
  · show (if 64 ≤ max p.miss p.hits then p.miss / 2 else p.miss) ≤ 63
    split <;> omega
  · show (if 64 ≤ max p.miss p.hits then p.hits / 2 else p.hits) ≤ 63
    split <;> omega
theorem Pol.Fit2.mono {p : Pol} {i j : Nat} (h : p.Fit2 i) (hij : i ≤ j) : p.Fit2 j := ⟨h.want, h.miss, h.hits, Nat.le_trans h.few hij⟩
theorem Pol.Fit2.withM {p : Pol} {j : Nat} {m' : Md} (h : p.Fit2 j) (hn : m'.n = p.m.n) : (p.withM m').Fit2 j := ⟨by show p.want ≤ m'.n; rw [hn]; exact h.want, h.miss, h.hits, h.few⟩
theorem Pol.Fit2.front {p : Pol} {j : Nat} {f l : Int} (h : p.Fit2 j) : (p.frontP f l).Fit2 (j + 1) := ⟨by show p.want ≤ (p.m.frontI l f).n; rw [front_nb.1]; exact h.want, h.miss, h.hits, by show (f.toNat :: p.R).length ≤ j + 1; have := h.few; simp; omega⟩
theorem actP_fit {p : Pol} {j : Nat} (h : p.Fit2 j) (k f l : Int) : (p.actP k f l).Fit2 (j + 1) := by
  have h0 := h.mono (Nat.le_succ j)
  unfold Pol.actP
  split
  · unfold Pol.enterP
    split
    · exact Pol.Fit2.withM h.front (hold_nb.1)
    · exact h0
  split
  · unfold Pol.readyP
    split
    · exact h0.withM hold_nb.1
    · exact h0
  split
  · unfold Pol.hitP
    split
    · have : (p.hitW f).Fit2 j := by
        unfold Pol.hitW
        split
        · exact weigh_fit h.want (Nat.le_trans h.miss (by omega)) (by show p.hits + 1 ≤ 64; have := h.hits; omega) h.few
        · exact h
      exact this.front
    · exact h0
  split
  · unfold Pol.missP
    split
    · exact (weigh_fit (p := p.oneMiss) (j := j) h.want (by show p.miss + 1 ≤ 64; have := h.miss; omega) (Nat.le_trans h.hits (by omega)) h.few).mono (Nat.le_succ j)
    · exact h0
  split
  · exact h0.withM drop_nb.1
  split
  · unfold Pol.vicP
    split
    · exact h0
    · exact h0.withM drop_nb.1
  · exact h0
theorem actP_n (p : Pol) (k f l : Int) : (p.actP k f l).m.n = p.m.n := by
  unfold Pol.actP
  split
  · exact (enterP_nb p f l).1
  split
  · exact (readyP_nb p f).1
  split
  · exact (hitP_nb p f l).1
  split
  · rw [(missP_m p l).1]
  split
  · exact drop_nb.1
  split
  · exact (vicP_nb p).1
  · rfl
theorem stepB_self (p : Pol) (k f l : Int) : stepB p p k f l = true := by
  unfold stepB
  split; simp
  split; simp
  split; simp
  split; simp
  split; simp
  split; simp
  rfl
end Go.Proofs.YtiihiifcnkfjoaaDoor.Sx
