import Derived.Test.YtiihiifcnkfjoaaDoorSxGA
/-
  The document's policy: what is known of it; functions that read it, and that write into it.
-/
namespace Go.Proofs.YtiihiifcnkfjoaaDoor.Sx
open Go Go.Proofs
set_option maxRecDepth 100000
set_option linter.unusedSimpArgs false
set_option linter.unusedVariables false

/-- The uses, the first one first. -/
def Pol.us (p : Pol) : List Int := cI p.R.reverse
theorem us_len (p : Pol) : p.us.length = p.R.length := by unfold Pol.us; rw [cI_len, List.length_reverse]

def gQ (p : Pol) (tU cU : Nat) : Nat → Nat → V := fun _ c => match c with
  | 0 => .ptr 2000 0 0
  | 1 => .int .i64 p.want
  | 2 => .int .u64 p.miss
  | 3 => .int .u64 p.hits
  | _ => .slice tU 0 p.us.length cU
theorem gQ_rn {τ : Nat → Nat} {h' : Hp} {p : Pol} {t t' cU c : Nat} (h1 : 2000 = τ 2000 ∧ live h' 2000) (h2 : t = τ t' ∧ live h' t') (hc : c < 5) : rn τ h' (gQ p t cU 0 c) (gQ p t' cU 0 c) := by
  match c, hc with
  | 0, _ => exact ⟨h1, rfl, rfl⟩
  | 1, _ => exact ⟨rfl, rfl⟩
  | 2, _ => exact ⟨rfl, rfl⟩
  | 3, _ => exact ⟨rfl, rfl⟩
  | 4, _ => exact ⟨h2, rfl, rfl, rfl⟩
/-- A policy of the document's, as its rows are told. -/
abbrev HQ (bQ bR bH : Nat) (X0 X1 XU : Ent) (c0 c1 cU : Nat) (p : Pol) : Hp := [(3000, .blk bQ 1 5 (gQ p 42 cU) 66), (2000, .blk bR 1 5 (gF p.m.n p.m.b 40 (p.m.L 0).length c0 41 (p.m.L 1).length c1 2003) 68), (40, X0), (41, X1), (2003, .blk bH p.m.n 1 (gb p.m.H) 4), (42, XU)]
/-- The same, to a reader. -/
abbrev HQR (bQ bR bH : Nat) (e0 e1 eU : Ent) (c0 c1 cU : Nat) (p : Pol) : Hp := [(3000, .ro (some ⟨bQ, 0, none⟩) 1 5 (gQ p 42 cU)), (2000, .ro (some ⟨bR, 0, none⟩) 1 5 (gF p.m.n p.m.b 40 (p.m.L 0).length c0 41 (p.m.L 1).length c1 2003)), (40, e0.toRo), (41, e1.toRo), (2003, .ro (some ⟨bH, 0, none⟩) p.m.n 1 (gb p.m.H)), (42, eU.toRo)]
/-- The three lists of such a policy. -/
structure LQ (e0 e1 eU : Ent) (c0 c1 cU : Nat) (p : Pol) : Prop where
  l0 : lstE e0 (cI (p.m.L 0)) c0
  l1 : lstE e1 (cI (p.m.L 1)) c1
  lU : lstE eU p.us cU
/-- Such a policy lies at the tag 3000, to a reader. -/
def rQ (h : Hp) (p : Pol) : Prop := ∃ (bQ bR bH : Nat) (e0 e1 eU : Ent) (c0 c1 cU : Nat), LQ e0 e1 eU c0 c1 cU p ∧ fd 3000 (roH h) = .ro (some ⟨bQ, 0, none⟩) 1 5 (gQ p 42 cU) ∧ fd 2000 (roH h) = .ro (some ⟨bR, 0, none⟩) 1 5 (gF p.m.n p.m.b 40 (p.m.L 0).length c0 41 (p.m.L 1).length c1 2003) ∧
  fd 40 (roH h) = e0.toRo ∧ fd 41 (roH h) = e1.toRo ∧ fd 2003 (roH h) = .ro (some ⟨bH, 0, none⟩) p.m.n 1 (gb p.m.H) ∧ fd 42 (roH h) = eU.toRo
theorem rQ.sh {h : Hp} {p : Pol} (hp : rQ h p) : refR h (.ptr 2000 0 0) p.m := by
  obtain ⟨bQ, bR, bH, e0, e1, eU, c0, c1, cU, hl, e1', e2, e3, e4, e5, e6⟩ := hp
  exact ⟨2000, 40, 41, 2003, bR, bH, e0, e1, c0, c1, _, _, rfl, rfl, e2, fun c hc => rfl, e3, hl.l0, e4, hl.l1, e5, fun i hi => rfl⟩
theorem rQ.ro {h : Hp} {p : Pol} (hp : rQ h p) : rQ (roH h) p := by
  obtain ⟨bQ, bR, bH, e0, e1, eU, c0, c1, cU, hl, e1', e2, e3, e4, e5, e6⟩ := hp
  refine ⟨bQ, bR, bH, e0, e1, eU, c0, c1, cU, hl, ?_, ?_, ?_, ?_, ?_, ?_⟩ <;> rw [fd_roH]
  · rw [e1']; rfl
  · rw [e2]; rfl
  · rw [e3, toRo_toRo]
  · rw [e4, toRo_toRo]
  · rw [e5]; rfl
  · rw [e6, toRo_toRo]
theorem HQR.r {bQ bR bH : Nat} {e0 e1 eU : Ent} {c0 c1 cU : Nat} {p : Pol} (hl : LQ e0 e1 eU c0 c1 cU p) : rQ (HQR bQ bR bH e0 e1 eU c0 c1 cU p) p :=
  ⟨bQ, bR, bH, e0, e1, eU, c0, c1, cU, hl, rfl, rfl, toRo_toRo _, toRo_toRo _, rfl, toRo_toRo _⟩
theorem HQ.r {bQ bR bH : Nat} {X0 X1 e0 e1 eU : Ent} {c0 c1 cU : Nat} {p : Pol} (hl : LQ e0 e1 eU c0 c1 cU p) (h0 : X0 = e0 ∨ X0 = e0.toRo) (h1 : X1 = e1 ∨ X1 = e1.toRo) : rQ (HQ bQ bR bH X0 X1 eU c0 c1 cU p) p :=
  ⟨bQ, bR, bH, e0, e1, eU, c0, c1, cU, hl, rfl, rfl, orRo h0, orRo h1, rfl, rfl⟩
theorem HQR.wk {bQ bR bH : Nat} {e0 e1 eU : Ent} {c0 c1 cU : Nat} {p : Pol} (hl : LQ e0 e1 eU c0 c1 cU p) : wkH (tau []) (HQR bQ bR bH e0 e1 eU c0 c1 cU p) (HQR bQ bR bH e0 e1 eU c0 c1 cU p) (HQR bQ bR bH e0 e1 eU c0 c1 cU p) := by
  have v0 : live (HQR bQ bR bH e0 e1 eU c0 c1 cU p) 40 := hl.l0.ro_live
  have v1 : live (HQR bQ bR bH e0 e1 eU c0 c1 cU p) 41 := hl.l1.ro_live
  have v2 : live (HQR bQ bR bH e0 e1 eU c0 c1 cU p) 42 := hl.lU.ro_live
  exact ⟨⟨rfl, rfl, rfl, fun i c hi hc => by obtain rfl : i = 0 := (by omega); exact gQ_rn ⟨rfl, trivial⟩ ⟨rfl, v2⟩ hc⟩, ⟨rfl, rfl, rfl, fun i c hi hc => by obtain rfl : i = 0 := (by omega); exact gF_rn ⟨rfl, v0⟩ ⟨rfl, v1⟩ ⟨rfl, trivial⟩ hc⟩, hl.l0.ro_wk _ _, hl.l1.ro_wk _ _, ⟨rfl, rfl, rfl, fun i c hi hc => rfl⟩, hl.lU.ro_wk _ _, trivial⟩
theorem told_q {h : Hp} {p : Pol} {rest : List V} (hp : rQ h p) (hf : flatL rest) : ∃ (bQ bR bH : Nat) (e0 e1 eU : Ent) (c0 c1 cU : Nat), LQ e0 e1 eU c0 c1 cU p ∧ Told h (.ptr 3000 0 0 :: rest) (HQR bQ bR bH e0 e1 eU c0 c1 cU p) (.ptr 3000 0 0 :: rest) := by
  obtain ⟨bQ, bR, bH, e0, e1, eU, c0, c1, cU, hl, q1, q2, q3, q4, q5, q6⟩ := hp
  have v0 : live (HQR bQ bR bH e0 e1 eU c0 c1 cU p) 40 := hl.l0.ro_live
  have v1 : live (HQR bQ bR bH e0 e1 eU c0 c1 cU p) 41 := hl.l1.ro_live
  have v2 : live (HQR bQ bR bH e0 e1 eU c0 c1 cU p) 42 := hl.lU.ro_live
  refine ⟨bQ, bR, bH, e0, e1, eU, c0, c1, cU, hl, told_wk (tau []) rfl ⟨?_, ?_, ?_, ?_, ?_, ?_, trivial⟩ ⟨⟨⟨rfl, trivial⟩, rfl, rfl⟩, flatL_rn _ hf⟩⟩
  · show wkE _ _ (fd 3000 (roH h)) _
    rw [q1]; exact ⟨rfl, rfl, rfl, fun i c hi hc => by obtain rfl : i = 0 := (by omega); exact gQ_rn ⟨rfl, trivial⟩ ⟨rfl, v2⟩ hc⟩
  · show wkE _ _ (fd 2000 (roH h)) _
    rw [q2]; exact ⟨rfl, rfl, rfl, fun i c hi hc => by obtain rfl : i = 0 := (by omega); exact gF_rn ⟨rfl, v0⟩ ⟨rfl, v1⟩ ⟨rfl, trivial⟩ hc⟩
  · show wkE _ _ (fd 40 (roH h)) _
    rw [q3]; exact hl.l0.ro_wk _ _
  · show wkE _ _ (fd 41 (roH h)) _
    rw [q4]; exact hl.l1.ro_wk _ _
  · show wkE _ _ (fd 2003 (roH h)) _
    rw [q5]; exact ⟨rfl, rfl, rfl, fun i c hi hc => rfl⟩
  · show wkE _ _ (fd 42 (roH h)) _
    rw [q6]; exact hl.lU.ro_wk _ _

/-! ### Functions that write -/
/-- The row of the uses: as it was, or another content in the same row. -/
def sameB (e e' : Ent) : Prop := e' = e ∨ ∃ b n g g' ty, e = .blk b n 1 g ty ∧ e' = .blk b n 1 g' ty
/-- The uses behind a call: in their row, or in a new one. -/
def QU (tU : Nat) (EU' EN eU : Ent) (l : List Int) (c : Nat) : Prop := (tU = 42 ∧ EN = .gone ∧ sameB eU EU' ∧ lstE EU' l c) ∨ (tU = 52 ∧ EU' = eU ∧ blkL EN l c)
abbrev GQ (bQ bR bH : Nat) (EU E0 E1 EN : Ent) (t0 t1 tU c0 c1 cU : Nat) (p : Pol) : Hp := [(3000, .blk bQ 1 5 (gQ p tU cU) 66), (2000, .blk bR 1 5 (gF p.m.n p.m.b t0 (p.m.L 0).length c0 t1 (p.m.L 1).length c1 2003) 68), (2003, .blk bH p.m.n 1 (gb p.m.H) 4), (42, EU), (50, E0), (51, E1), (52, EN)]
/-- The document's policy at the tag 3000 is p, and then p'; the answer is v. -/
def rsMut (h : Hp) (nx : Nat) (K : Out → Hp → Nat → Prop) (p p' : Pol) (v : V) : Prop :=
  ∃ (bQ bR bH : Nat) (e0 e1 eU : Ent) (c0 c1 cU : Nat), LQ e0 e1 eU c0 c1 cU p ∧ fd 3000 h = .blk bQ 1 5 (gQ p 42 cU) 66 ∧ fd 2000 h = .blk bR 1 5 (gF p.m.n p.m.b 40 (p.m.L 0).length c0 41 (p.m.L 1).length c1 2003) 68 ∧
    (fd 40 h = e0 ∨ fd 40 h = e0.toRo) ∧ (fd 41 h = e1 ∨ fd 41 h = e1.toRo) ∧ fd 2003 h = .blk bH p.m.n 1 (gb p.m.H) 4 ∧ fd 42 h = eU ∧ fd 50 h = .gone ∧ fd 51 h = .gone ∧ fd 52 h = .gone ∧
    ∀ EU E0 E1 EN t0 t1 tU c0' c1' cU', NewL 50 E0 40 t0 e0 (cI (p'.m.L 0)) c0' → NewL 51 E1 41 t1 e1 (cI (p'.m.L 1)) c1' → QU tU EU EN eU p'.us cU' → K (.ret v) (GQ bQ bR bH EU E0 E1 EN t0 t1 tU c0' c1' cU' p' ++ h) nx
def RsOut (h1 : Hp) (bQ bR bH : Nat) (e0 e1 eU : Ent) (p p' : Pol) : Prop :=
  ∃ (gq gr gh : Nat → Nat → V) (c0' c1' tU cU' : Nat), fd 3000 h1 = .blk bQ 1 5 gq 66 ∧ (∀ c, c < 5 → gq 0 c = gQ p' tU cU' 0 c) ∧ fd 2000 h1 = .blk bR 1 5 gr 68 ∧ (∀ c, c < 5 → gr 0 c = gF p.m.n p.m.b 40 (p'.m.L 0).length c0' 41 (p'.m.L 1).length c1' 2003 0 c) ∧
    fd 2003 h1 = .blk bH p.m.n 1 gh 4 ∧ (∀ i, i < p.m.n → gh i 0 = .bool (p'.m.H i)) ∧ XL (fd 40 h1) e0 (p'.m.L 0) c0' ∧ XL (fd 41 h1) e1 (p'.m.L 1) c1' ∧
    ((tU = 42 ∧ sameB eU (fd 42 h1) ∧ lstE (fd 42 h1) p'.us cU') ∨ (50 ≤ tU ∧ tU < 2000 ∧ fd 42 h1 = eU ∧ blkL (fd tU h1) p'.us cU'))

theorem lst_flat {b cap n : Nat} {g : Nat → Nat → V} {ty : TypeId} {l : List Int} {c : Nat} (hl : lstE (.blk b n 1 g ty) l c) : ∀ i, i < n → flat (g i 0) := by
  rcases hl with ⟨_, _, q⟩ | ⟨b', g', ty', q, _, _, _, h4⟩
  · cases q
  · cases q; exact h4
theorem specOK_rs {f : Nat} {fn : Func} {cd : Code} {SP : SpT} (hf : Tryd.prog.funcs[f]? = some fn) (hx : (fn.name == "runtime.NumGoroutine") = false) (hb : fn.body = some cd) (hS : ∀ p ∈ SP, SpecOK Tryd.prog p.1 p.2)
    (pre : List V → Pol → Pol → V → Prop) (hp : ∀ rest p p' v, pre rest p p' v → flatL rest ∧ flat v ∧ p'.m.n = p.m.n ∧ p'.m.b = p.m.b ∧ rest.length + 1 ≤ fn.ntmps)
    (hw : ∀ rest p p' v (bQ bR bH : Nat) (e0 e1 eU : Ent) (c0 c1 cU : Nat) c, pre rest p p' v → LQ e0 e1 eU c0 c1 cU p → c.P = Tryd.prog → W ⟨c, fn, T, SP, fun o h1 _ => o = .ret v ∧ RsOut h1 bQ bR bH e0 e1 eU p p'⟩ [.code cd] (argsS (.ptr 3000 0 0 :: rest) 0) (HQ bQ bR bH e0.toRo e1.toRo eU c0 c1 cU p) 0) :
    SpecOK Tryd.prog f (fun args h nx K => ∃ rest p p' v, args = .ptr 3000 0 0 :: rest ∧ pre rest p p' v ∧ rsMut h nx K p p' v) := by
  refine specOK_gen4 hf hx hb T_ok hS _ ?_
  rintro args h nx K ⟨rest, p, p', v, rfl, hpre, bQ, bR, bH, e0, e1, eU, c0, c1, cU, hl, q1, q2, q3, q4, q5, q6, n0, n1, n2, hk⟩
  obtain ⟨hfl, hfv, hn, hbb, hlen⟩ := hp _ _ _ _ hpre
  have v0 : live (HQ bQ bR bH e0.toRo e1.toRo eU c0 c1 cU p) 40 := hl.l0.ro_live
  have v1 : live (HQ bQ bR bH e0.toRo e1.toRo eU c0 c1 cU p) 41 := hl.l1.ro_live
  have v2 : live (HQ bQ bR bH e0.toRo e1.toRo eU c0 c1 cU p) 42 := lst_live hl.lU
  refine ⟨tau [], HQ bQ bR bH e0.toRo e1.toRo eU c0 c1 cU p, .ptr 3000 0 0 :: rest, rfl, ?_, ⟨⟨⟨rfl, trivial⟩, rfl, rfl⟩, flatL_rn _ hfl⟩, by simpa using hlen, _, ?_, fun c hc => hw rest p p' v bQ bR bH e0 e1 eU c0 c1 cU c hpre hl hc⟩
  · intro q hq
    simp only [List.mem_cons, List.not_mem_nil, or_false] at hq
    rcases hq with rfl | rfl | rfl | rfl | rfl | rfl
    · left
      show wkE _ _ (fd 3000 h) _
      rw [q1]; exact ⟨rfl, rfl, rfl, rfl, fun i c hi hc => by obtain rfl : i = 0 := (by omega); exact gQ_rn ⟨rfl, trivial⟩ ⟨rfl, v2⟩ hc⟩
    · left
      show wkE _ _ (fd 2000 h) _
      rw [q2]; exact ⟨rfl, rfl, rfl, rfl, fun i c hi hc => by obtain rfl : i = 0 := (by omega); exact gF_rn ⟨rfl, v0⟩ ⟨rfl, v1⟩ ⟨rfl, trivial⟩ hc⟩
    · right
      show wkE _ _ (fd 40 (roH h)) _
      rw [fd_roH, orRo q3]; exact hl.l0.ro_wk _ _
    · right
      show wkE _ _ (fd 41 (roH h)) _
      rw [fd_roH, orRo q4]; exact hl.l1.ro_wk _ _
    · left
      show wkE _ _ (fd 2003 h) _
      rw [q5]; exact ⟨rfl, rfl, rfl, rfl, fun i c hi hc => rfl⟩
    · left
      show wkE _ _ (fd 42 h) _
      rw [q6]; exact lst_wk hl.lU _ _
  · rintro o h1 ⟨rfl, gq, gr, gh, c0', c1', tU, cU', f1, f2, f3, f4, f5, f6, f7, f8, f9⟩
    -- the tags of what is new
    have pick : ∀ (u s nx' : Nat) (e : Ent) (l' : List Nat) (c' : Nat), XL (fd s h1) e l' c' → fd nx' h = .gone → ∃ E t' w, NewL nx' E s t' e (cI l') c' ∧ ((t' = s ∧ E = .gone ∧ fd s h1 = e.toRo ∧ w = u) ∨ (t' = nx' ∧ w = s ∧ E = fd s h1 ∧ ∃ b g ty, E = .blk b c' 1 g ty ∧ cellsL g (cI l') c')) := by
      intro u s nx' e l' c' q4 q5
      rcases q4 with ⟨z, q2⟩ | ⟨b, gg, ty, r1, r2, r3, r4⟩
      · exact ⟨.gone, s, u, .inl ⟨rfl, rfl, q2⟩, .inl ⟨rfl, rfl, z, rfl⟩⟩
      · exact ⟨fd s h1, nx', s, .inr ⟨rfl, b, gg, ty, r1, r2, r3, r4⟩, .inr ⟨rfl, rfl, rfl, b, gg, ty, r1, r4⟩⟩
    obtain ⟨E0, t0', w0, n0', p0⟩ := pick 5000 40 50 e0 _ c0' f7 n0
    obtain ⟨E1, t1', w1, n1', p1⟩ := pick 5001 41 51 e1 _ c1' f8 n1
    obtain ⟨EN, tU', wU, nU, pU⟩ : ∃ EN tU' wU, QU tU' (fd 42 h1) EN eU p'.us cU' ∧ sameB eU (fd 42 h1) ∧ ((tU' = 42 ∧ tU = 42 ∧ EN = .gone ∧ wU = 5002) ∨ (tU' = 52 ∧ wU = tU ∧ 50 ≤ tU ∧ tU < 2000 ∧ EN = fd tU h1 ∧ ∃ b g ty, EN = .blk b cU' 1 g ty ∧ cellsL g p'.us cU')) := by
      rcases f9 with ⟨rfl, a, b⟩ | ⟨a1, a2, a3, a4⟩
      · exact ⟨.gone, 42, 5002, .inl ⟨rfl, rfl, a, b⟩, a, .inl ⟨rfl, rfl, rfl, rfl⟩⟩
      · obtain ⟨b, g, ty, r1, r2, r3, r4⟩ := a4
        exact ⟨fd tU h1, 52, tU, .inr ⟨rfl, a3, b, g, ty, r1, r2, r3, r4⟩, .inl a3, .inr ⟨rfl, rfl, a1, a2, rfl, b, g, ty, r1, r4⟩⟩
    obtain ⟨hsB, pU⟩ := pU
    let G2 : Hp := GQ bQ bR bH (fd 42 h1) E0 E1 EN t0' t1' tU' c0' c1' cU' p'
    have hw0 : w0 = 5000 ∨ w0 = 40 := by rcases p0 with ⟨_, _, _, h⟩ | ⟨_, h, _⟩; exact .inl h; exact .inr h
    have hw1 : w1 = 5001 ∨ w1 = 41 := by rcases p1 with ⟨_, _, _, h⟩ | ⟨_, h, _⟩; exact .inl h; exact .inr h
    have hwU : wU = 5002 ∨ (50 ≤ wU ∧ wU < 2000) := by rcases pU with ⟨_, _, _, h⟩ | ⟨_, h, h2, h3, _⟩; exact .inl h; exact .inr ⟨by omega, by omega⟩
    have r0 : (fd t0' (G2 ++ h)).rf = (fd 40 h1).rf := by
      rcases p0 with ⟨rfl, _, z, _⟩ | ⟨rfl, _, z, _⟩
      · show (fd 40 h).rf = _
        rw [orRf q3, z, Ent.toRo_rf]
      · show E0.rf = _
        rw [z]
    have r1 : (fd t1' (G2 ++ h)).rf = (fd 41 h1).rf := by
      rcases p1 with ⟨rfl, _, z, _⟩ | ⟨rfl, _, z, _⟩
      · show (fd 41 h).rf = _
        rw [orRf q4, z, Ent.toRo_rf]
      · show E1.rf = _
        rw [z]
    have rU : (fd tU' (G2 ++ h)).rf = (fd tU h1).rf := by
      rcases pU with ⟨rfl, rfl, _⟩ | ⟨rfl, _, _, _, z, _⟩
      · rfl
      · show EN.rf = _
        rw [z]
    refine ⟨tau [(50, w0), (51, w1), (52, wU)], G2, .ret v, nx, ⟨fun t ht => ?_, fun t b n sz g' ty q => ?_, fun t t' ht ht' hne => ?_, fun e he => ?_⟩, hk _ E0 E1 EN t0' t1' tU' c0' c1' cU' n0' n1' nU⟩
    · have hkeys := memB_iff.1 ht
      simp only [G2, List.map_cons, List.map_nil, List.mem_cons, List.not_mem_nil, or_false] at hkeys
      rcases hkeys with rfl | rfl | rfl | rfl | rfl | rfl | rfl
      · refine .inr (.inl ⟨3000, bQ, 1, 5, _, gq, _, 66, rfl, rfl, rfl, f1, rfl, fun i k hi hk => ?_⟩)
        obtain rfl : i = 0 := by omega
        rw [f2 k hk]
        match k, hk with
        | 0, _ => exact tell_ptr (by rw [f3]; rfl)
        | 1, _ => exact tell_flat trivial
        | 2, _ => exact tell_flat trivial
        | 3, _ => exact tell_flat trivial
        | 4, _ => exact tell_slice rU
      · refine .inr (.inl ⟨2000, bR, 1, 5, _, gr, _, 68, rfl, rfl, rfl, f3, rfl, fun i k hi hk => ?_⟩)
        obtain rfl : i = 0 := by omega
        rw [f4 k hk]
        match k, hk with
        | 0, _ => show tell _ _ (.int .i64 p.m.n) (.int .i64 p'.m.n); rw [hn]; exact tell_flat trivial
        | 1, _ => show tell _ _ (.int .i64 p.m.b) (.int .i64 p'.m.b); rw [hbb]; exact tell_flat trivial
        | 2, _ => exact tell_slice r0
        | 3, _ => exact tell_slice r1
        | 4, _ => show tell _ _ (.slice 2003 0 p.m.n p.m.n) (.slice 2003 0 p'.m.n p'.m.n); rw [hn]; exact tell_slice (by rw [f5]; show (Ent.blk bH p'.m.n 1 (gb p'.m.H) 4).rf = _; rfl)
      · refine .inr (.inl ⟨2003, bH, p.m.n, 1, _, gh, _, 4, rfl, rfl, rfl, f5, by show Ent.blk bH p'.m.n 1 (gb p'.m.H) 4 = _; rw [hn], fun i k hi hk => ?_⟩)
        obtain rfl : k = 0 := by omega
        rw [f6 i hi]
        exact tell_flat trivial
      · -- the uses' old row
        rcases hl.lU with ⟨z1, z2, z3⟩ | ⟨b, g, ty, z3, z4, z5, z6, z7⟩
        · have ze : fd 42 h1 = eU := by
            rcases hsB with z | ⟨b, n, g, g', ty, z, _⟩
            · exact z
            · rw [z3] at z; cases z
          refine .inr (.inr (.inr ⟨?_, none, 0, 1, gl [], by rw [q6, z3]⟩))
          show fd 42 h1 = fd 42 h
          rw [ze, q6]
        · have : ∃ g', fd 42 h1 = .blk b cU 1 g' ty ∧ ∀ i, i < cU → flat (g' i 0) := by
            rcases hsB with z | ⟨b2, n2, g2, g2', ty2, y1, y2⟩
            · exact ⟨g, by rw [z, z3], z7⟩
            · rw [z3] at y1
              cases y1
              refine ⟨g2', y2, ?_⟩
              rcases pU with ⟨_, _, _, _⟩ | ⟨ht, _⟩
              · rcases nU with ⟨_, _, _, hlE⟩ | ⟨w, _⟩
                · rw [y2] at hlE; exact lst_flat (cap := 0) hlE
                · omega
              · rcases nU with ⟨w, _⟩ | ⟨_, w, _⟩
                · omega
                · rw [w, z3] at y2; cases y2; exact z7
          obtain ⟨g', y1, y2⟩ := this
          refine .inr (.inl ⟨42, b, cU, 1, g, g', g', ty, rfl, rfl, z3, y1, y1, fun i k hi hk => ?_⟩)
          obtain rfl : k = 0 := by omega
          exact tell_flat (y2 i hi)
      · rcases p0 with ⟨_, rfl, _, _⟩ | ⟨_, rfl, hE, b, gg, ty, hEb, hc1, hc2⟩
        · exact .inl ⟨n0, .inl rfl⟩
        · refine .inr (.inr (.inl ⟨b, c0', 1, gg, gg, ty, n0, by show fd 40 h1 = _; rw [← hE, hEb], hEb, fun t' b' n' sz' g' ty' q => ?_, fun i k hi hk => ?_⟩))
          · rintro rfl
            have q' : e0.toRo = .blk b' n' sz' g' ty' := q
            cases e0 <;> cases q'
          · obtain rfl : k = 0 := by omega
            exact tell_flat (hc2 i hi)
      · rcases p1 with ⟨_, rfl, _, _⟩ | ⟨_, rfl, hE, b, gg, ty, hEb, hc1, hc2⟩
        · exact .inl ⟨n1, .inl rfl⟩
        · refine .inr (.inr (.inl ⟨b, c1', 1, gg, gg, ty, n1, by show fd 41 h1 = _; rw [← hE, hEb], hEb, fun t' b' n' sz' g' ty' q => ?_, fun i k hi hk => ?_⟩))
          · rintro rfl
            have q' : e1.toRo = .blk b' n' sz' g' ty' := q
            cases e1 <;> cases q'
          · obtain rfl : k = 0 := by omega
            exact tell_flat (hc2 i hi)
      · rcases pU with ⟨_, _, rfl, _⟩ | ⟨_, rfl, h50, h2000, hE, b, gg, ty, hEb, hc1, hc2⟩
        · exact .inl ⟨n2, .inl rfl⟩
        · refine .inr (.inr (.inl ⟨b, cU', 1, gg, gg, ty, n2, by show fd wU h1 = _; rw [← hE, hEb], hEb, fun t' b' n' sz' g' ty' q => ?_, fun i k hi hk => ?_⟩))
          · show wU ≠ t'
            rintro rfl
            have q' : fd wU ((3000, _) :: (2000, _) :: (40, e0.toRo) :: (41, e1.toRo) :: (2003, _) :: (42, eU) :: []) = .blk b' n' sz' g' ty' := q
            rw [fd_cons, fd_cons, fd_cons, fd_cons, fd_cons, fd_cons, if_neg (by omega), if_neg (by omega), if_neg (by omega), if_neg (by omega), if_neg (by omega), if_neg (by omega)] at q'
            cases q'
          · obtain rfl : k = 0 := by omega
            exact tell_flat (hc2 i hi)
    · have q' : fd t ((3000, Ent.blk bQ 1 5 (gQ p 42 cU) 66) :: (2000, Ent.blk bR 1 5 (gF p.m.n p.m.b 40 (p.m.L 0).length c0 41 (p.m.L 1).length c1 2003) 68) :: (40, e0.toRo) :: (41, e1.toRo) :: (2003, Ent.blk bH p.m.n 1 (gb p.m.H) 4) :: (42, eU) :: []) = .blk b n sz g' ty := q
      simp only [fd_cons] at q'
      split at q'
      · rename_i z; subst z; cases q'; exact ⟨memB_iff.2 (by simp [G2, tau]), _, _, f1⟩
      split at q'
      · rename_i z; subst z; cases q'; exact ⟨memB_iff.2 (by simp [G2, tau]), _, _, f3⟩
      split at q'
      · cases e0 <;> cases q'
      split at q'
      · cases e1 <;> cases q'
      split at q'
      · rename_i z; subst z; cases q'; exact ⟨memB_iff.2 (by simp [G2, tau]), _, _, f5⟩
      split at q'
      · rename_i z
        subst z
        refine ⟨memB_iff.2 (by simp [G2, tau]), ?_⟩
        rcases hsB with z | ⟨b2, n2, g2, g2', ty2, y1, y2⟩
        · exact ⟨_, _, by rw [z]; exact q'⟩
        · rw [y1] at q'; cases q'; exact ⟨_, _, y2⟩
      · cases q'
    · have k1 := memB_iff.1 ht
      have k2 := memB_iff.1 ht'
      simp only [G2, List.map_cons, List.map_nil, List.mem_cons, List.not_mem_nil, or_false] at k1 k2
      have a1 : tau [(50, w0), (51, w1), (52, wU)] 3000 = 3000 := rfl
      have a2 : tau [(50, w0), (51, w1), (52, wU)] 2000 = 2000 := rfl
      have a3 : tau [(50, w0), (51, w1), (52, wU)] 2003 = 2003 := rfl
      have a4 : tau [(50, w0), (51, w1), (52, wU)] 42 = 42 := rfl
      have a5 : tau [(50, w0), (51, w1), (52, wU)] 50 = w0 := rfl
      have a6 : tau [(50, w0), (51, w1), (52, wU)] 51 = w1 := rfl
      have a7 : tau [(50, w0), (51, w1), (52, wU)] 52 = wU := rfl
      rcases k1 with rfl | rfl | rfl | rfl | rfl | rfl | rfl <;> rcases k2 with rfl | rfl | rfl | rfl | rfl | rfl | rfl <;> first | exact absurd rfl hne | (simp only [a1, a2, a3, a4, a5, a6, a7]; omega)
    · obtain ⟨x, rfl, rx⟩ := he
      exact ⟨x, rfl, flat_rel _ _ hfv rx⟩
end Go.Proofs.YtiihiifcnkfjoaaDoor.Sx

/-
  The document's policy: its readers.
-/
namespace Go.Proofs.YtiihiifcnkfjoaaDoor.Sx
open Go Go.Proofs
set_option maxRecDepth 100000
set_option linter.unusedSimpArgs false
set_option linter.unusedVariables false

theorem XL.pick {X e : Ent} {l : List Nat} {c : Nat} (h : XL X e l c) : ∃ e', lstE e' (cI l) c ∧ (X = e' ∨ X = e'.toRo) ∧ ∀ nx E t t' l' c', NewL nx E t t' e' (cI l') c' → (t' = t ∧ E = .gone ∧ XL X e l' c') ∨ (t' = nx ∧ XL E e l' c') := by
  rcases h with ⟨rfl, h⟩ | ⟨b, g, ty, rfl, h1, h2, h3⟩
  · refine ⟨e, h, .inr rfl, fun nx E t t' l' c' n => ?_⟩
    rcases n with ⟨rfl, rfl, q⟩ | ⟨rfl, q⟩
    · exact .inl ⟨rfl, rfl, .inl ⟨rfl, q⟩⟩
    · exact .inr ⟨rfl, .inr q⟩
  · refine ⟨_, lstE.of h3 h1 h2, .inl rfl, fun nx E t t' l' c' n => ?_⟩
    rcases n with ⟨rfl, rfl, q⟩ | ⟨rfl, q⟩
    · refine .inl ⟨rfl, rfl, .inr ?_⟩
      rcases q with ⟨_, _, q⟩ | ⟨b', g', ty', q, k1, k2, k3, k4⟩
      · cases q
      · cases q; exact ⟨_, _, _, rfl, k1, k2, k3, k4⟩
    · exact .inr ⟨rfl, .inr q⟩
theorem HQ.wk {bQ bR bH : Nat} {X0 X1 e0 e1 eU : Ent} {c0 c1 cU : Nat} {p : Pol} (x0 : XL X0 e0 (p.m.L 0) c0) (x1 : XL X1 e1 (p.m.L 1) c1) (lU : lstE eU p.us cU) : wkH (tau []) (HQ bQ bR bH X0 X1 eU c0 c1 cU p) (HQ bQ bR bH X0 X1 eU c0 c1 cU p) (HQ bQ bR bH X0 X1 eU c0 c1 cU p) := by
  have v0 : live (HQ bQ bR bH X0 X1 eU c0 c1 cU p) 40 := x0.live
  have v1 : live (HQ bQ bR bH X0 X1 eU c0 c1 cU p) 41 := x1.live
  have v2 : live (HQ bQ bR bH X0 X1 eU c0 c1 cU p) 42 := lst_live lU
  exact ⟨⟨rfl, rfl, rfl, rfl, fun i c hi hc => by obtain rfl : i = 0 := (by omega); exact gQ_rn ⟨rfl, trivial⟩ ⟨rfl, v2⟩ hc⟩, ⟨rfl, rfl, rfl, rfl, fun i c hi hc => by obtain rfl : i = 0 := (by omega); exact gF_rn ⟨rfl, v0⟩ ⟨rfl, v1⟩ ⟨rfl, trivial⟩ hc⟩, x0.wk _ _, x1.wk _ _, ⟨rfl, rfl, rfl, rfl, fun i c hi hc => rfl⟩, lst_wk lU _ _, trivial⟩
/-- A call that writes into the shelf: behind it all is told anew. -/
theorem HQ.mut {bQ bR bH : Nat} {X0 X1 e0 e1 eU : Ent} {c0 c1 cU nx : Nat} {p : Pol} {m' : Md} {v : V} {K : Out → Hp → Nat → Prop} (x0 : XL X0 e0 (p.m.L 0) c0) (x1 : XL X1 e1 (p.m.L 1) c1) (lU : lstE eU p.us cU) (hn : m'.n = p.m.n) (hnx : 50 ≤ nx ∧ nx < 1000)
    (hk : ∀ h2 X0' X1' c0' c1' t0' t1', XL X0' e0 (m'.L 0) c0' → XL X1' e1 (m'.L 1) c1' → nodupB ([3000, 2000, 40, 41, 2003, 42].map (tau [(40, t0'), (41, t1')])) = true → wkH (tau [(40, t0'), (41, t1')]) h2 (HQ bQ bR bH X0' X1' eU c0' c1' cU (p.withM m')) (HQ bQ bR bH X0' X1' eU c0' c1' cU (p.withM m')) → K (.ret v) h2 (nx + 2)) :
    rMut (HQ bQ bR bH X0 X1 eU c0 c1 cU p) nx K (.ptr 2000 0 0) p.m m' v := by
  obtain ⟨e0', le0, q0, k0⟩ := x0.pick
  obtain ⟨e1', le1, q1, k1⟩ := x1.pick
  have gone : ∀ t, 50 ≤ t → t < 1002 → fd t (HQ bQ bR bH X0 X1 eU c0 c1 cU p) = .gone := fun t h1 h2 => by
    show fd t ((3000, _) :: (2000, _) :: (40, _) :: (41, _) :: (2003, _) :: (42, _) :: []) = _
    rw [fd_cons, fd_cons, fd_cons, fd_cons, fd_cons, fd_cons, if_neg (by omega), if_neg (by omega), if_neg (by omega), if_neg (by omega), if_neg (by omega), if_neg (by omega)]
    rfl
  refine ⟨2000, 40, 41, 2003, bR, bH, e0', e1', c0, c1, _, _, ⟨rfl, rfl, rfl, fun c _ => rfl, q0, le0, q1, le1, rfl, fun i _ => rfl⟩, gone _ (by omega) (by omega), gone _ (by omega) (by omega), fun t0' E0 c0' t1' E1 c1' n0 n1 => ?_⟩
  have hfd : ∀ t, fd t ((2000, Ent.blk bR 1 5 (gF m'.n m'.b t0' (m'.L 0).length c0' t1' (m'.L 1).length c1' 2003) 68) :: (2003, .blk bH m'.n 1 (gb m'.H) 4) :: (nx, E0) :: (nx + 1, E1) :: HQ bQ bR bH X0 X1 eU c0 c1 cU p) =
      if t = 2000 then .blk bR 1 5 (gF m'.n m'.b t0' (m'.L 0).length c0' t1' (m'.L 1).length c1' 2003) 68 else if t = 2003 then .blk bH m'.n 1 (gb m'.H) 4 else if t = nx then E0 else if t = nx + 1 then E1 else fd t (HQ bQ bR bH X0 X1 eU c0 c1 cU p) := fun t => by
    rw [fd_cons, fd_cons, fd_cons, fd_cons]
  obtain ⟨X0', y0, f0, d0⟩ : ∃ X0', XL X0' e0 (m'.L 0) c0' ∧ fd t0' ((2000, Ent.blk bR 1 5 (gF m'.n m'.b t0' (m'.L 0).length c0' t1' (m'.L 1).length c1' 2003) 68) :: (2003, .blk bH m'.n 1 (gb m'.H) 4) :: (nx, E0) :: (nx + 1, E1) :: HQ bQ bR bH X0 X1 eU c0 c1 cU p) = X0' ∧ (t0' = 40 ∨ t0' = nx) := by
    rcases k0 _ _ _ _ _ _ n0 with ⟨rfl, rfl, q⟩ | ⟨rfl, q⟩
    · exact ⟨X0, q, by rw [hfd, if_neg (by omega), if_neg (by omega), if_neg (by omega), if_neg (by omega)]; rfl, .inl rfl⟩
    · exact ⟨E0, q, by rw [hfd, if_neg (by omega), if_neg (by omega), if_pos rfl], .inr rfl⟩
  obtain ⟨X1', y1, f1, d1⟩ : ∃ X1', XL X1' e1 (m'.L 1) c1' ∧ fd t1' ((2000, Ent.blk bR 1 5 (gF m'.n m'.b t0' (m'.L 0).length c0' t1' (m'.L 1).length c1' 2003) 68) :: (2003, .blk bH m'.n 1 (gb m'.H) 4) :: (nx, E0) :: (nx + 1, E1) :: HQ bQ bR bH X0 X1 eU c0 c1 cU p) = X1' ∧ (t1' = 41 ∨ t1' = nx + 1) := by
    rcases k1 _ _ _ _ _ _ n1 with ⟨rfl, rfl, q⟩ | ⟨rfl, q⟩
    · exact ⟨X1, q, by rw [hfd, if_neg (by omega), if_neg (by omega), if_neg (by omega), if_neg (by omega)]; rfl, .inl rfl⟩
    · exact ⟨E1, q, by rw [hfd, if_neg (by omega), if_neg (by omega), if_neg (by omega), if_pos rfl], .inr rfl⟩
  have v0 : live (HQ bQ bR bH X0' X1' eU c0' c1' cU (p.withM m')) 40 := y0.live
  have v1 : live (HQ bQ bR bH X0' X1' eU c0' c1' cU (p.withM m')) 41 := y1.live
  have v2 : live (HQ bQ bR bH X0' X1' eU c0' c1' cU (p.withM m')) 42 := lst_live lU
  have τ3 : ∀ t, t ≠ 40 → t ≠ 41 → tau [(40, t0'), (41, t1')] t = t := fun t h1 h2 => by unfold tau; rw [beq_ne h1]; unfold tau; rw [beq_ne h2]; rfl
  refine hk _ X0' X1' c0' c1' t0' t1' y0 y1 ?_ ⟨?_, ?_, ?_, ?_, ?_, ?_, trivial⟩
  · show nodupB [3000, 2000, t0', t1', 2003, 42] = true
    have b : ∀ {a b : Nat}, a ≠ b → a.beq b = false := fun h => beq_ne h
    unfold nodupB; unfold memB; rw [b (by omega)]; unfold memB; rw [b (by omega)]; unfold memB; rw [b (by omega)]; unfold memB; rw [b (by omega)]; unfold memB; rw [b (by omega)]
    show nodupB [2000, t0', t1', 2003, 42] = true
    unfold nodupB; unfold memB; rw [b (by omega)]; unfold memB; rw [b (by omega)]; unfold memB; rw [b (by omega)]; unfold memB; rw [b (by omega)]
    show nodupB [t0', t1', 2003, 42] = true
    unfold nodupB; unfold memB; rw [b (by omega)]; unfold memB; rw [b (by omega)]; unfold memB; rw [b (by omega)]
    show nodupB [t1', 2003, 42] = true
    unfold nodupB; unfold memB; rw [b (by omega)]; unfold memB; rw [b (by omega)]
    rfl
  · show wkE _ _ (fd 3000 _) _
    rw [hfd, if_neg (by omega), if_neg (by omega), if_neg (by omega), if_neg (by omega)]
    exact ⟨rfl, rfl, rfl, rfl, fun i c hi hc => by obtain rfl : i = 0 := (by omega); exact gQ_rn (p := p) ⟨rfl, trivial⟩ ⟨rfl, v2⟩ hc⟩
  · show wkE _ _ (fd 2000 _) _
    rw [hfd, if_pos rfl]
    exact ⟨rfl, rfl, rfl, rfl, fun i c hi hc => by obtain rfl : i = 0 := (by omega); exact gF_rn ⟨rfl, v0⟩ ⟨rfl, v1⟩ ⟨rfl, trivial⟩ hc⟩
  · show wkE _ _ (fd t0' _) _
    rw [f0]; exact y0.wk _ _
  · show wkE _ _ (fd t1' _) _
    rw [f1]; exact y1.wk _ _
  · show wkE _ _ (fd 2003 _) _
    rw [hfd, if_neg (by omega), if_pos rfl]
    exact ⟨rfl, rfl, rfl, rfl, fun i c hi hc => rfl⟩
  · show wkE _ _ (fd 42 _) _
    rw [hfd, if_neg (by omega), if_neg (by omega), if_neg (by omega), if_neg (by omega)]
    exact lst_wk lU _ _

/-! ### Readers -/
def sQMay : Spec := fun args h nx K => ∃ (p : Pol) (f l : Int), args = [.ptr 3000 0 0, .int .i64 f, .int .i64 l] ∧ rQ h p ∧ K (.ret (.bool (p.mayI f l))) h nx
theorem sQMay_ok : SpecOK Tryd.prog 50 sQMay := by
  refine specOK_read2 (fn := Tryd.f50) rfl rfl rfl T_ok (SP := []) noSP 0 _ ?_
  rintro args h nx K ⟨p, f, l, rfl, hp, hk⟩
  obtain ⟨bQ, bR, bH, e0, e1, eU, c0, c1, cU, hl, told⟩ := told_q (rest := [.int .i64 f, .int .i64 l]) hp ⟨trivial, trivial, trivial⟩
  refine ⟨_, _, told, by simp [Tryd.f50], fun o => o = .ret (.bool (p.mayI f l)), ?_, ?_⟩
  · rintro o rfl; exact ⟨trivial, hk⟩
  intro cx hcx
  clear hk told hp
  have hE := mkE' (fn := Tryd.f50) (R := fun o _ _ => o = .ret (.bool (p.mayI f l))) hcx noSP
  refine vc_sound hE 200 _ _ _ 30 ?_
  (refine (?_ : br _ _ _); refine br_dec (fun q => ?_) (fun q => ?_))
  · have q1 : 0 ≤ f := q
    (refine (?_ : br _ _ _); refine br_dec (fun q => ?_) (fun q => ?_))
    · have q2 : f < (p.m.n : Int) := q
      (refine (?_ : br _ _ _); refine br_dec (fun q => ?_) (fun q => ?_))
      · have q3 : 0 ≤ l := q
        exact outB (by unfold Pol.mayI Md.isN rightB; rw [decide_eq_true q1, decide_eq_true q2, decide_eq_true q3]; exact decide_eq_decide.2 (by omega))
      · have q3 : ¬ 0 ≤ l := q
        exact outB (by unfold Pol.mayI rightB; rw [decide_eq_false q3, Bool.false_and, Bool.and_false])
    · have q2 : ¬ f < (p.m.n : Int) := q
      exact outB (by unfold Pol.mayI Md.isN; rw [decide_eq_false q2, Bool.and_false]; rfl)
  · have q1 : ¬ 0 ≤ f := q
    exact outB (by unfold Pol.mayI Md.isN; rw [decide_eq_false q1]; rfl)

def sQIn : Spec := fun args h nx K => ∃ (p : Pol) (f : Int), args = [.ptr 3000 0 0, .int .i64 f] ∧ rQ h p ∧ Ok p.m ∧ K (.ret (.bool (p.inB f))) h nx
theorem sQIn_ok : SpecOK Tryd.prog 39 sQIn := by
  refine specOK_read2 (fn := Tryd.f39) rfl rfl rfl T_ok (SP := [(53, sRWhere)]) (consSP sRWhere_ok noSP) 0 _ ?_
  rintro args h nx K ⟨p, f, rfl, hp, hok, hk⟩
  obtain ⟨bQ, bR, bH, e0, e1, eU, c0, c1, cU, hl, told⟩ := told_q (rest := [.int .i64 f]) hp ⟨trivial, trivial⟩
  refine ⟨_, _, told, by simp [Tryd.f39], fun o => o = .ret (.bool (p.inB f)), ?_, ?_⟩
  · rintro o rfl; exact ⟨trivial, hk⟩
  intro cx hcx
  clear hk told hp
  have hE := mkE' (fn := Tryd.f39) (R := fun o _ _ => o = .ret (.bool (p.inB f))) hcx (SP := [(53, sRWhere)]) (consSP sRWhere_ok noSP)
  refine vc_sound hE 200 _ _ _ 30 ?_
  exact ⟨_, p.m, f, rfl, (HQR.r hl).sh, hok, rfl⟩

theorem force_to {v w : V} {K : V → Prop} (h : v = w) (hk : K w) : force v K := by subst h; exact force_of hk
theorem step_ld {T : Tab} {t a : Nat} {σ : Sl} {h : Hp} {nx tag i N : Nat} {v : V} {ti : TI} {b : Option Addr} {g : Nat → Nat → V} {K : V → Hp → Nat → Prop} (e1 : lk a σ = some (.ptr tag i 0)) (e2 : look t T = some ti) (e3 : ti.n = 1 ∧ ti.agg = false) (e4 : fd tag (roH h) = .ro b N 1 g) (hi : i < N) (hv : g i 0 = v)
    (hk : K v h nx) : step T (.load t (.tmp a)) σ h nx K := by
  show opnd σ h (.tmp a) (fun p => match p, look t T with | .ptr tag i c, some ti => doLoad h tag i c ti.n ti.agg fun v => K v h nx | _, _ => False)
  refine opnd_tmp e1 ?_
  simp only [e2]
  unfold doLoad
  refine getM_of e4 ?_
  rw [e3.1, e3.2]
  refine chk_ok (Nat.ble_eq_true_of_le (by omega)) (chk_ok rfl ?_)
  exact force_to (show g (i + 0 / 1) (0 % 1) = v by rw [show i + 0 / 1 = i by omega, show 0 % 1 = 0 from rfl, hv]) hk
theorem stepC_ld {E : Env} {t a : Nat} {σ : Sl} {h : Hp} {nx tag i N : Nat} {v : V} {ti : TI} {b : Option Addr} {g : Nat → Nat → V} {K KP : V → Hp → Nat → Prop} (e1 : lk a σ = some (.ptr tag i 0)) (e2 : look t E.T = some ti) (e3 : ti.n = 1 ∧ ti.agg = false) (e4 : fd tag (roH h) = .ro b N 1 g) (hi : i < N) (hv : g i 0 = v)
    (hk : K v h nx) : stepC E (.load t (.tmp a)) σ h nx K KP := step_ld (T := E.T) (K := K) e1 e2 e3 e4 hi hv hk
theorem vc_ld {E : Env} {n : Nat} {d : Option Nat} {t a ty : Nat} {pos : String} {aft : Array Edge} {all l : List Oper} {k : List It} {σ : Sl} {h : Hp} {nx tag i N : Nat} {v : V} {ti : TI} {b : Option Addr} {g : Nat → Nat → V} (e1 : lk a σ = some (.ptr tag i 0)) (e2 : look t E.T = some ti) (e3 : ti.n = 1 ∧ ti.agg = false) (e4 : fd tag (roH h) = .ro b N 1 g) (hi : i < N) (hv : g i 0 = v)
    (hk : putS E.fn.ntmps d v σ fun σ' => vc E n (.ops all l :: k) σ' h nx) : vc E (n + 1) (.ops all (⟨d, .load t (.tmp a), ty, pos, aft, none⟩ :: l) :: k) σ h nx :=
  show stepC E (.load t (.tmp a)) σ h nx (fun v h' nx' => putS E.fn.ntmps d v σ fun σ' => vc E n (.ops all l :: k) σ' h' nx') (fun v h' nx' => E.R (.pan v) h' nx') from stepC_ld (E := E) (K := fun v h' nx' => putS E.fn.ntmps d v σ fun σ' => vc E n (.ops all l :: k) σ' h' nx') e1 e2 e3 e4 hi hv hk
theorem useN_drop {j : Nat} {R : List Nat} {k : Nat} (hk : k < R.length) : useN j (R.drop k) = if R[k] = j then R.length - k else useN j (R.drop (k + 1)) := by
  rw [List.drop_eq_getElem_cons hk]
  show (if R[k] = j then (R.drop (k + 1)).length + 1 else useN j (R.drop (k + 1))) = _
  rw [List.length_drop]
  split <;> omega
theorem us_at {p : Pol} {i : Nat} (hi : i < p.R.length) : p.us.getD i 0 = ((p.R[p.R.length - 1 - i]'(by omega) : Nat) : Int) := by
  unfold Pol.us
  rw [cI_at (by simpa using hi), List.getElem_reverse]
def sQLast : Spec := fun args h nx K => ∃ (p : Pol) (j : Nat), args = [.ptr 3000 0 0, .int .i64 j] ∧ rQ h p ∧ p.R.length ≤ 1000000 ∧ K (.ret (.int .i64 ((useN j p.R : Nat) - 1))) h nx
theorem sQLast_ok : SpecOK Tryd.prog 57 sQLast := by
  refine specOK_read2 (fn := Tryd.f57) rfl rfl rfl T_ok (SP := []) noSP 0 _ ?_
  rintro args h nx K ⟨p, j, rfl, hp, hfew, hk⟩
  obtain ⟨bQ, bR, bH, e0, e1, eU, c0, c1, cU, hl, told⟩ := told_q (rest := [.int .i64 j]) hp ⟨trivial, trivial⟩
  refine ⟨_, _, told, by simp [Tryd.f57], fun o => o = .ret (.int .i64 ((useN j p.R : Nat) - 1)), ?_, ?_⟩
  · rintro o rfl; exact ⟨trivial, hk⟩
  intro cx hcx
  clear hk told hp
  have hE := mkE' (fn := Tryd.f57) (R := fun o _ _ => o = .ret (.int .i64 ((useN j p.R : Nat) - 1))) hcx noSP
  have hwk := HQR.wk (bQ := bQ) (bR := bR) (bH := bH) hl
  have v2 : live (HQR bQ bR bH e0 e1 eU c0 c1 cU p) 42 := hl.lU.ro_live
  refine W_seq (nx := 0) ?_
  refine W_to (nx := 0) [(0, .ptr 3000 0 0), (1, .int .i64 j)] (HQR bQ bR bH e0 e1 eU c0 c1 cU p) 30 ?_ ?_
  · refine vc_sound hE 20 _ _ _ 30 ?_
    exact ⟨tau [], rfl, (by repeat' (first | exact rfl | exact trivial | assumption | refine ⟨?_, ?_⟩)), hwk⟩
  refine W_seq (nx := 30) ?_
  refine W_seq (nx := 30) ?_
  have hw0 : IntKind.i64.wrap ((p.us.length : Int) - 1) = ((p.R.length : Nat) : Int) - 1 - ((0 : Nat) : Int) := by rw [us_len]; simp only [IntKind.wrap_i64]; omega
  refine W_to (nx := 30) [(0, .ptr 3000 0 0), (1, .int .i64 j), (5, .int .i64 (((p.R.length : Nat) : Int) - 1 - ((0 : Nat) : Int)))] (HQR bQ bR bH e0 e1 eU c0 c1 cU p) 30 ?_ ?_
  · refine vc_sound hE 40 _ _ _ 30 ?_
    exact ⟨tau [], rfl, ⟨⟨⟨rfl, trivial⟩, rfl, rfl⟩, ⟨rfl, rfl⟩, ⟨rfl, hw0⟩, trivial⟩, hwk⟩
  refine W_piece (nx := 30) (fun σ1 h1 _ => useN j p.R = 0 ∧ ∃ τ, wk τ σ1 h1 [] []) ?_ ?_
  · refine vc_sound hE 2 _ _ _ 30 ?_
    refine W_loop (fun r σ h => ∃ k : Nat, r = p.R.length - k ∧ k ≤ p.R.length ∧ useN j p.R = useN j (p.R.drop k) ∧ σ = [(0, .ptr 3000 0 0), (1, .int .i64 j), (5, .int .i64 (((p.R.length : Nat) : Int) - 1 - (k : Int)))] ∧ h = HQR bQ bR bH e0 e1 eU c0 c1 cU p) p.R.length ⟨0, rfl, by omega, rfl, rfl, rfl⟩ (tau []) ⟨rfl, (by repeat' (first | exact rfl | exact trivial | assumption | refine ⟨?_, ?_⟩)), hwk⟩ 30 ?_
    rintro r σ h1 ⟨k, rfl, hk, hall, rfl, rfl⟩
    refine vc_sound hE 80 _ _ _ 30 ?_
    (refine (?_ : br _ _ _); refine br_dec (fun q => ?_) (fun q => ?_))
    · have hlt : 0 ≤ ((p.R.length : Nat) : Int) - 1 - (k : Int) := q
      have hkn : k < p.R.length := by omega
      obtain ⟨i, hi⟩ : ∃ i : Nat, ((p.R.length : Nat) : Int) - 1 - (k : Int) = i := ⟨p.R.length - 1 - k, by omega⟩
      have hin : i < p.R.length := by omega
      have hw : IntKind.i64.wrap ((((p.R.length : Nat) : Int) - 1 - (k : Int)) - 1) = ((p.R.length : Nat) : Int) - 1 - ((k + 1 : Nat) : Int) := by simp only [IntKind.wrap_i64]; omega
      rw [useN_drop hkn] at hall
      have hz : addI 0 (((p.R.length : Nat) : Int) - 1 - (k : Int)).toNat = i := by rw [addI_eq]; omega
      rcases hl.lU with ⟨z1, z2, z3⟩ | ⟨b, g, ty, z3, z4, z5, z6, z7⟩
      · have : p.us.length = 0 := by rw [z1]; rfl
        rw [us_len] at this
        omega
      · subst z3
        rw [us_len] at z4 z6
        (refine (?_ : chk _ _); refine chk_ok (show (decide ((0 : Int) ≤ ((p.R.length : Nat) : Int) - 1 - (k : Int)) && decide (((p.R.length : Nat) : Int) - 1 - (k : Int) < (p.us.length : Int))) = true by rw [us_len]; simp only [Bool.and_eq_true, decide_eq_true_eq]; omega) ?_)
        (refine (?_ : chk _ _); refine chk_ok rfl ?_)
        have hv : g (addI 0 (((p.R.length : Nat) : Int) - 1 - (k : Int)).toNat) 0 = .int .i64 ((p.R[k] : Nat) : Int) := by
          rw [hz, z6 i hin, us_at hin]
          have hx : p.R.length - 1 - i = k := by omega
          simp only [hx]
        refine putS_some rfl ?_
        refine vc_ld (tag := 42) (v := .int .i64 ((p.R[k] : Nat) : Int)) rfl rfl ⟨rfl, rfl⟩ rfl (by rw [hz]; omega) hv ?_
        (refine (?_ : br _ _ _); refine br_eq (fun q => ?_) (fun q => ?_))
        · have q2 : ((p.R[k] : Nat) : Int) = (j : Int) := q
          rw [if_pos (by omega)] at hall
          exact outI (by rw [hall]; omega)
        · have q2 : ((p.R[k] : Nat) : Int) ≠ (j : Int) := q
          rw [if_neg (by omega)] at hall
          exact ⟨p.R.length - (k + 1), _, _, by omega, ⟨k + 1, rfl, by omega, hall, rfl, rfl⟩, tau [], rfl, ⟨⟨⟨rfl, trivial⟩, rfl, rfl⟩, ⟨rfl, rfl⟩, ⟨rfl, hw⟩, trivial⟩, hwk⟩
    · have hlt : ¬ 0 ≤ ((p.R.length : Nat) : Int) - 1 - (k : Int) := q
      refine ⟨?_, tau [], rfl, trivial, trivial⟩
      rw [hall, List.drop_eq_nil_of_le (by omega)]
      rfl
  rintro σ1 h1 _ ⟨hu, τ1, hw1⟩
  refine W_weak (nx' := 30) τ1 hw1 ?_
  refine vc_sound hE 60 _ _ _ 30 ?_
  exact outI (by rw [hu]; rfl)
end Go.Proofs.YtiihiifcnkfjoaaDoor.Sx

/-
  The document's policy: weigh, Enter, Ready, Gone.
-/
namespace Go.Proofs.YtiihiifcnkfjoaaDoor.Sx
open Go Go.Proofs
set_option maxRecDepth 100000
set_option linter.unusedSimpArgs false
set_option linter.unusedVariables false

/-- One more behind a list that has a row of its own; in the same row, or in a new one. -/
theorem app_oneB {T : Tab} {t : Nat} (hA : appT T t) {tv nx cp : Nat} {u : V} {l : List Int} {x : Int} {e : Ent} {h : Hp} {K : V → Hp → Nat → Prop} (hl : lstE e l cp) (e1 : fd tv h = e) (hu : rdL h u [x]) (hnx : fd nx h = .gone) (hsz : l.length + 1 ≤ 134217728)
    (k1 : ∀ e', sameB e e' → lstE e' (l ++ [x]) cp → K (.slice tv 0 (l ++ [x]).length cp) ((tv, e') :: h) nx)
    (k2 : ∀ e' cp', blkL e' (l ++ [x]) cp' → K (.slice nx 0 (l ++ [x]).length cp') ((nx, e') :: h) (nx + 1)) : appS T [t, t] (.slice tv 0 l.length cp) u h nx K := by
  have hcap : l.length ≤ cp := by
    rcases hl with ⟨rfl, rfl, rfl⟩ | ⟨b, g, ty, rfl, h1, h2, h3, h4⟩
    · simp
    · exact h1
  refine app_L (m := [x]) hA (hl.rd e1) (fun _ _ _ _ q => by cases q; exact hcap) hu hnx (by simpa using hsz) (fun q => by cases q) (fun tv' i c q _ hle => ?_) (fun _ b cap g' ty p1 p2 p3 => k2 _ cap ⟨b, g', ty, rfl, p1, p2, p3⟩)
  cases q
  rcases hl with ⟨rfl, rfl, rfl⟩ | ⟨b, g, ty, rfl, h1, h2, h3, h4⟩
  · simp at hle
  · refine ⟨b, cp, g, ty, e1, by simpa using hle, fun g' q1 q2 => k1 _ (.inr ⟨_, _, _, _, _, rfl, rfl⟩) (lstE.of ⟨fun j hj => ?_, fun j hj => ?_⟩ (by simpa using hle) h2)⟩
    · have := q1 j hj
      rw [Nat.zero_add] at this
      exact this
    · by_cases w : j < (l ++ [x]).length
      · have := q1 j w
        rw [Nat.zero_add] at this
        rw [this]; trivial
      · rw [q2 j (.inr (by simp only [List.length_append, List.length_cons, List.length_nil] at w ⊢; omega))]
        exact h4 j hj

theorem us_cons {p : Pol} {x : Nat} {m' : Md} {w a b : Nat} : (⟨m', w, a, b, x :: p.R⟩ : Pol).us = p.us ++ [(x : Int)] := by unfold Pol.us; simp [cI]
theorem us_eq {p q : Pol} (h : p.R = q.R) : p.us = q.us := by unfold Pol.us; rw [h]
theorem HQ.out {bQ bR bH : Nat} {X0 X1 e0 e1 eU : Ent} {c0 c1 cU : Nat} {p p' : Pol} (x0 : XL X0 e0 (p'.m.L 0) c0) (x1 : XL X1 e1 (p'.m.L 1) c1) (lU : lstE eU p.us cU) (hn : p'.m.n = p.m.n) (hb : p'.m.b = p.m.b) (hR : p'.R = p.R) : RsOut (HQ bQ bR bH X0 X1 eU c0 c1 cU p') bQ bR bH e0 e1 eU p p' :=
  ⟨_, _, _, c0, c1, 42, cU, rfl, fun c _ => rfl, rfl, fun c _ => by rw [hn, hb], by rw [← hn]; rfl, fun i _ => rfl, x0, x1, .inl ⟨rfl, .inl rfl, by rw [us_eq hR]; exact lU⟩⟩
/-- What lies in no list's row may be told anew. -/
theorem HQ.wkQ {bQ bR bH : Nat} {X0 X1 e0 e1 eU : Ent} {c0 c1 cU : Nat} {p p' : Pol} (x0 : XL X0 e0 (p.m.L 0) c0) (x1 : XL X1 e1 (p.m.L 1) c1) (lU : lstE eU p.us cU) (hm : p'.m = p.m) (hR : p'.R = p.R) (g : Nat → Nat → V) (hg : ∀ c, c < 5 → g 0 c = gQ p' 42 cU 0 c) :
    wkH (tau []) ((3000, .blk bQ 1 5 g 66) :: HQ bQ bR bH X0 X1 eU c0 c1 cU p) (HQ bQ bR bH X0 X1 eU c0 c1 cU p') (HQ bQ bR bH X0 X1 eU c0 c1 cU p') := by
  have v0 : live (HQ bQ bR bH X0 X1 eU c0 c1 cU p') 40 := x0.live
  have v1 : live (HQ bQ bR bH X0 X1 eU c0 c1 cU p') 41 := x1.live
  have v2 : live (HQ bQ bR bH X0 X1 eU c0 c1 cU p') 42 := lst_live lU
  refine ⟨⟨rfl, rfl, rfl, rfl, fun i c hi hc => by obtain rfl : i = 0 := (by omega); rw [hg c hc]; exact gQ_rn ⟨rfl, trivial⟩ ⟨rfl, v2⟩ hc⟩, ⟨rfl, rfl, rfl, rfl, fun i c hi hc => ?_⟩, x0.wk _ _, x1.wk _ _, ⟨rfl, by rw [hm], rfl, rfl, fun i c hi hc => by rw [hm]; exact rfl⟩, lst_wk lU _ _, trivial⟩
  obtain rfl : i = 0 := by omega
  rw [hm]
  exact gF_rn ⟨rfl, v0⟩ ⟨rfl, v1⟩ ⟨rfl, trivial⟩ hc

/-- What weigh is handed: its own cells, and the rest to be read. -/
abbrev HQS (bQ bR bH : Nat) (e0 e1 eU : Ent) (c0 c1 cU : Nat) (p : Pol) : Hp := [(3000, .blk bQ 1 5 (gQ p 42 cU) 66), (2000, .ro (some ⟨bR, 0, none⟩) 1 5 (gF p.m.n p.m.b 40 (p.m.L 0).length c0 41 (p.m.L 1).length c1 2003)), (40, e0.toRo), (41, e1.toRo), (2003, .ro (some ⟨bH, 0, none⟩) p.m.n 1 (gb p.m.H)), (42, eU.toRo)]
theorem HQS.wkQ {bQ bR bH : Nat} {e0 e1 eU : Ent} {c0 c1 cU : Nat} {p p' : Pol} (hl : LQ e0 e1 eU c0 c1 cU p) (hm : p'.m = p.m) (hR : p'.R = p.R) (g : Nat → Nat → V) (hg : ∀ c, c < 5 → g 0 c = gQ p' 42 cU 0 c) :
    wkH (tau []) ((3000, .blk bQ 1 5 g 66) :: HQS bQ bR bH e0 e1 eU c0 c1 cU p) (HQS bQ bR bH e0 e1 eU c0 c1 cU p') (HQS bQ bR bH e0 e1 eU c0 c1 cU p') := by
  have v0 : live (HQS bQ bR bH e0 e1 eU c0 c1 cU p') 40 := hl.l0.ro_live
  have v1 : live (HQS bQ bR bH e0 e1 eU c0 c1 cU p') 41 := hl.l1.ro_live
  have v2 : live (HQS bQ bR bH e0 e1 eU c0 c1 cU p') 42 := hl.lU.ro_live
  refine ⟨⟨rfl, rfl, rfl, rfl, fun i c hi hc => by obtain rfl : i = 0 := (by omega); rw [hg c hc]; exact gQ_rn ⟨rfl, trivial⟩ ⟨rfl, v2⟩ hc⟩, ⟨rfl, rfl, rfl, fun i c hi hc => ?_⟩, hl.l0.ro_wk _ _, hl.l1.ro_wk _ _, ⟨rfl, by rw [hm], rfl, fun i c hi hc => by rw [hm]; exact rfl⟩, hl.lU.ro_wk _ _, trivial⟩
  obtain rfl : i = 0 := by omega
  rw [hm]
  exact gF_rn ⟨rfl, v0⟩ ⟨rfl, v1⟩ ⟨rfl, trivial⟩ hc
theorem HQS.wk {bQ bR bH : Nat} {e0 e1 eU : Ent} {c0 c1 cU : Nat} {p : Pol} (hl : LQ e0 e1 eU c0 c1 cU p) : wkH (tau []) (HQS bQ bR bH e0 e1 eU c0 c1 cU p) (HQS bQ bR bH e0 e1 eU c0 c1 cU p) (HQS bQ bR bH e0 e1 eU c0 c1 cU p) := by
  have v0 : live (HQS bQ bR bH e0 e1 eU c0 c1 cU p) 40 := hl.l0.ro_live
  have v1 : live (HQS bQ bR bH e0 e1 eU c0 c1 cU p) 41 := hl.l1.ro_live
  have v2 : live (HQS bQ bR bH e0 e1 eU c0 c1 cU p) 42 := hl.lU.ro_live
  exact ⟨⟨rfl, rfl, rfl, rfl, fun i c hi hc => by obtain rfl : i = 0 := (by omega); exact gQ_rn ⟨rfl, trivial⟩ ⟨rfl, v2⟩ hc⟩, ⟨rfl, rfl, rfl, fun i c hi hc => by obtain rfl : i = 0 := (by omega); exact gF_rn ⟨rfl, v0⟩ ⟨rfl, v1⟩ ⟨rfl, trivial⟩ hc⟩, hl.l0.ro_wk _ _, hl.l1.ro_wk _ _, ⟨rfl, rfl, rfl, fun i c hi hc => rfl⟩, hl.lU.ro_wk _ _, trivial⟩

def QW : Spec := fun args h nx K => args = [.ptr 3000 0 0] ∧ ∃ (p : Pol) (bQ bR bH : Nat) (e0 e1 eU : Ent) (c0 c1 cU : Nat), LQ e0 e1 eU c0 c1 cU p ∧ Ok p.m ∧ p.miss ≤ 64 ∧ p.hits ≤ 64 ∧ p.want ≤ p.m.n ∧ fd 3000 h = .blk bQ 1 5 (gQ p 42 cU) 66 ∧
  fd 2000 (roH h) = .ro (some ⟨bR, 0, none⟩) 1 5 (gF p.m.n p.m.b 40 (p.m.L 0).length c0 41 (p.m.L 1).length c1 2003) ∧ fd 40 (roH h) = e0.toRo ∧ fd 41 (roH h) = e1.toRo ∧ fd 2003 (roH h) = .ro (some ⟨bH, 0, none⟩) p.m.n 1 (gb p.m.H) ∧ fd 42 (roH h) = eU.toRo ∧
  K (.ret (.tup [])) ((3000, .blk bQ 1 5 (gQ p.weighP 42 cU) 66) :: h) nx
theorem qweigh_ok : SpecOK Tryd.prog 54 QW := by
  refine specOK_gen4 (fn := Tryd.f54) rfl rfl rfl T_ok (SP := [(71, sRCross)]) (consSP sRCross_ok noSP) _ ?_
  rintro args h nx K ⟨rfl, p, bQ, bR, bH, e0, e1, eU, c0, c1, cU, hl, hok, hmi, hhi, hwa, q1, q2, q3, q4, q5, q6, hk⟩
  have v0 : live (HQS bQ bR bH e0 e1 eU c0 c1 cU p) 40 := hl.l0.ro_live
  have v1 : live (HQS bQ bR bH e0 e1 eU c0 c1 cU p) 41 := hl.l1.ro_live
  have v2 : live (HQS bQ bR bH e0 e1 eU c0 c1 cU p) 42 := hl.lU.ro_live
  refine ⟨tau [], HQS bQ bR bH e0 e1 eU c0 c1 cU p, [.ptr 3000 0 0], rfl, ?_, ⟨⟨⟨rfl, trivial⟩, rfl, rfl⟩, trivial⟩, by simp [Tryd.f54], fun o h1 => o = .ret (.tup []) ∧ ∃ gq, fd 3000 h1 = .blk bQ 1 5 gq 66 ∧ fd 2000 h1 = .ro (some ⟨bR, 0, none⟩) 1 5 (gF p.m.n p.m.b 40 (p.m.L 0).length c0 41 (p.m.L 1).length c1 2003) ∧ fd 42 h1 = eU.toRo ∧ ∀ c, c < 5 → gq 0 c = gQ p.weighP 42 cU 0 c, ?_, ?_⟩
  · intro q hq
    simp only [List.mem_cons, List.not_mem_nil, or_false] at hq
    rcases hq with rfl | rfl | rfl | rfl | rfl | rfl
    · left
      show wkE _ _ (fd 3000 h) _
      rw [q1]; exact ⟨rfl, rfl, rfl, rfl, fun i c hi hc => by obtain rfl : i = 0 := (by omega); exact gQ_rn ⟨rfl, trivial⟩ ⟨rfl, v2⟩ hc⟩
    · right
      show wkE _ _ (fd 2000 (roH h)) _
      rw [q2]; exact ⟨rfl, rfl, rfl, fun i c hi hc => by obtain rfl : i = 0 := (by omega); exact gF_rn ⟨rfl, v0⟩ ⟨rfl, v1⟩ ⟨rfl, trivial⟩ hc⟩
    · right
      show wkE _ _ (fd 40 (roH h)) _
      rw [q3]; exact hl.l0.ro_wk _ _
    · right
      show wkE _ _ (fd 41 (roH h)) _
      rw [q4]; exact hl.l1.ro_wk _ _
    · right
      show wkE _ _ (fd 2003 (roH h)) _
      rw [q5]; exact ⟨rfl, rfl, rfl, fun i c hi hc => rfl⟩
    · right
      show wkE _ _ (fd 42 (roH h)) _
      rw [q6]; exact hl.lU.ro_wk _ _
  · rintro o h1 ⟨rfl, gq, f1, f3, f4, f2⟩
    refine ⟨tau [], [(3000, .blk bQ 1 5 (gQ p.weighP 42 cU) 66)], .ret (.tup []), nx, ⟨fun t ht => ?_, fun t b n sz g ty q => ?_, fun t t' ht ht' hne => ?_, fun e he => ?_⟩, hk⟩
    · have hkeys := memB_iff.1 ht
      simp only [List.map_cons, List.map_nil, List.mem_cons, List.not_mem_nil, or_false] at hkeys
      subst hkeys
      refine .inr (.inl ⟨3000, bQ, 1, 5, _, gq, _, 66, rfl, rfl, rfl, f1, rfl, fun i k hi hk => ?_⟩)
      obtain rfl : i = 0 := by omega
      rw [f2 k hk]
      match k, hk with
      | 0, _ => exact tell_ptr (by rw [f3]; show (fd 2000 h).rf = _; rw [← rf_ro, q2])
      | 1, _ => exact tell_flat trivial
      | 2, _ => exact tell_flat trivial
      | 3, _ => exact tell_flat trivial
      | 4, _ => exact tell_slice (by rw [f4]; show (fd 42 h).rf = _; rw [← rf_ro, q6])
    · have q' : fd t ((3000, Ent.blk bQ 1 5 (gQ p 42 cU) 66) :: (2000, .ro (some ⟨bR, 0, none⟩) 1 5 (gF p.m.n p.m.b 40 (p.m.L 0).length c0 41 (p.m.L 1).length c1 2003)) :: (40, e0.toRo) :: (41, e1.toRo) :: (2003, .ro (some ⟨bH, 0, none⟩) p.m.n 1 (gb p.m.H)) :: (42, eU.toRo) :: []) = .blk b n sz g ty := q
      simp only [fd_cons] at q'
      split at q'
      · rename_i z; subst z; cases q'; exact ⟨rfl, _, _, f1⟩
      split at q'
      · cases q'
      split at q'
      · cases e0 <;> cases q'
      split at q'
      · cases e1 <;> cases q'
      split at q'
      · cases q'
      split at q'
      · cases eU <;> cases q'
      · cases q'
    · have k1 := memB_iff.1 ht
      have k2 := memB_iff.1 ht'
      simp only [List.map_cons, List.map_nil, List.mem_cons, List.not_mem_nil, or_false] at k1 k2
      omega
    · obtain ⟨x, rfl, rx⟩ := he
      exact ⟨x, rfl, flat_rel _ _ trivial rx⟩
  intro c hc
  have hE := mkE' (fn := Tryd.f54) (R := fun o h1 _ => o = .ret (.tup []) ∧ ∃ gq, fd 3000 h1 = .blk bQ 1 5 gq 66 ∧ fd 2000 h1 = .ro (some ⟨bR, 0, none⟩) 1 5 (gF p.m.n p.m.b 40 (p.m.L 0).length c0 41 (p.m.L 1).length c1 2003) ∧ fd 42 h1 = eU.toRo ∧ ∀ c, c < 5 → gq 0 c = gQ p.weighP 42 cU 0 c) hc (SP := [(71, sRCross)]) (consSP sRCross_ok noSP)
  have hl0 := hok.len (q := 0) (by omega)
  have hn := hok.n
  have hb := hok.choose_spec.b2
  obtain ⟨C, hC⟩ : ∃ C, C = p.wcmp := ⟨_, rfl⟩
  have hwk := HQS.wk (bQ := bQ) (bR := bR) (bH := bH) hl
  refine W_seq (nx := 0) ?_
  refine W_to (nx := 0) [(0, .ptr 3000 0 0), (2, .int .i64 C)] (HQS bQ bR bH e0 e1 eU c0 c1 cU p) 60 ?_ ?_
  · refine W_plan hE 60 99 (lineP 0 28 .done) (by rw [hc]; exact mix) (by kernel_rfl) 60 ?_
    iterate 11 (refine ⟨_, ⟨rfl, rfl⟩, ?_⟩)
    refine ⟨.int .u64 p.m.b, ⟨congrArg (V.int .u64) (show IntKind.u64.wrap (p.m.b : Int) = p.m.b by simp only [IntKind.wrap_u64]; omega), rfl⟩, ?_⟩
    iterate 13 (refine ⟨_, ⟨rfl, rfl⟩, ?_⟩)
    refine ⟨.int .u64 (p.m.L 0).length, ⟨congrArg (V.int .u64) (show IntKind.u64.wrap ((p.m.L 0).length : Int) = (p.m.L 0).length by simp only [IntKind.wrap_u64]; omega), rfl⟩, ?_⟩
    refine ⟨.int .i64 C, ⟨p.miss, p.m.b, p.hits, (p.m.L 0).length, rfl, by omega, by omega, by omega, by omega, ⟨by rw [hC]; rfl, rfl⟩⟩, ?_⟩
    refine ⟨_, ⟨rfl, rfl⟩, ?_⟩
    exact ⟨tau [], rfl, (by repeat' (first | exact rfl | exact trivial | assumption | refine ⟨?_, ?_⟩)), hwk⟩
  -- one more, or one less
  let p1 : Pol := { p with want := p.want1 }
  refine W_seq (nx := 60) ?_
  obtain ⟨u, hu⟩ : ∃ u : Nat, u = if C = 1 then p.want1 else p.want := ⟨_, rfl⟩
  let p0 : Pol := { p with want := u }
  refine W_to (nx := 60) [(0, .ptr 3000 0 0), (2, .int .i64 C)] (HQS bQ bR bH e0 e1 eU c0 c1 cU p0) 60 ?_ ?_
  · rcases (show C = 1 ∨ C = -1 ∨ C = 0 by rw [hC]; exact cmpI_3 _ _) with e | e | e
    · subst e
      have e5 : p.want1 = min (p.want + 1) p.m.n := by unfold Pol.want1; rw [← hC, if_pos rfl]
      rw [if_pos rfl, e5] at hu
      refine W_seq (nx := 60) ?_
      refine W_plan hE 60 99 (lineP 0 16 .done) (by rw [hc]; exact mix) (by kernel_rfl) 60 ?_
      repeat' (first | refine ⟨_, ⟨rfl, rfl⟩, ?_⟩ | fail)
      (refine (?_ : br _ _ _); refine br_dec (fun q => ?_) (fun q => ?_))
      · have q1 : (p.want : Int) < p.m.n := q
        refine ⟨tau [], rfl, (by repeat' (first | exact rfl | exact trivial | assumption | refine ⟨?_, ?_⟩)), HQS.wkQ (p := p) (p' := p0) hl rfl rfl _ fun c hc => ?_⟩
        match c, hc with
        | 0, _ => rfl
        | 1, _ => exact congrArg (V.int .i64) (show IntKind.i64.wrap ((p.want : Int) + 1) = (u : Int) by simp only [IntKind.wrap_i64]; omega)
        | 2, _ => rfl
        | 3, _ => rfl
        | 4, _ => rfl
      · have q1 : ¬ (p.want : Int) < p.m.n := q
        have e6 : p0 = p := gP_eq rfl rfl (show u = p.want by omega) rfl rfl
        rw [e6]
        exact ⟨tau [], rfl, (by repeat' (first | exact rfl | exact trivial | assumption | refine ⟨?_, ?_⟩)), hwk⟩
    · subst e
      rw [if_neg (by decide)] at hu
      have e6 : p0 = p := gP_eq rfl rfl (show u = p.want by omega) rfl rfl
      rw [e6]
      refine W_seq (nx := 60) ?_
      refine W_plan hE 60 99 (lineP 0 16 .done) (by rw [hc]; exact mix) (by kernel_rfl) 60 ?_
      repeat' (first | refine ⟨_, ⟨rfl, rfl⟩, ?_⟩ | fail)
      exact ⟨tau [], rfl, (by repeat' (first | exact rfl | exact trivial | assumption | refine ⟨?_, ?_⟩)), hwk⟩
    · subst e
      rw [if_neg (by decide)] at hu
      have e6 : p0 = p := gP_eq rfl rfl (show u = p.want by omega) rfl rfl
      rw [e6]
      refine W_seq (nx := 60) ?_
      refine W_plan hE 60 99 (lineP 0 16 .done) (by rw [hc]; exact mix) (by kernel_rfl) 60 ?_
      repeat' (first | refine ⟨_, ⟨rfl, rfl⟩, ?_⟩ | fail)
      exact ⟨tau [], rfl, (by repeat' (first | exact rfl | exact trivial | assumption | refine ⟨?_, ?_⟩)), hwk⟩
  have hwk0 := HQS.wk (bQ := bQ) (bR := bR) (bH := bH) (p := p0) ⟨hl.l0, hl.l1, hl.lU⟩
  refine W_seq (nx := 60) ?_
  refine W_to (nx := 60) [(0, .ptr 3000 0 0)] (HQS bQ bR bH e0 e1 eU c0 c1 cU p1) 60 ?_ ?_
  · rcases (show C = 1 ∨ C = -1 ∨ C = 0 by rw [hC]; exact cmpI_3 _ _) with e | e | e
    · subst e
      rw [if_pos rfl] at hu
      have e6 : p0 = p1 := gP_eq rfl rfl hu rfl rfl
      rw [e6] at hwk0 ⊢
      refine vc_sound hE 60 _ _ _ 60 ?_
      exact ⟨tau [], rfl, (by repeat' (first | exact rfl | exact trivial | assumption | refine ⟨?_, ?_⟩)), hwk0⟩
    · subst e
      have e5 : p.want1 = p.want - 1 := by unfold Pol.want1; rw [← hC, if_neg (by decide), if_pos rfl]
      rw [if_neg (by decide)] at hu
      refine vc_sound hE 60 _ _ _ 60 ?_
      (refine (?_ : br _ _ _); refine br_dec (fun q => ?_) (fun q => ?_))
      · have q1 : (0 : Int) < u := q
        refine ⟨tau [], rfl, (by repeat' (first | exact rfl | exact trivial | assumption | refine ⟨?_, ?_⟩)), HQS.wkQ (p := p0) (p' := p1) ⟨hl.l0, hl.l1, hl.lU⟩ rfl rfl _ fun c hc => ?_⟩
        match c, hc with
        | 0, _ => rfl
        | 1, _ => exact congrArg (V.int .i64) (show IntKind.i64.wrap ((u : Int) - 1) = (p.want1 : Int) by rw [e5]; simp only [IntKind.wrap_i64]; omega)
        | 2, _ => rfl
        | 3, _ => rfl
        | 4, _ => rfl
      · have q1 : ¬ (0 : Int) < u := q
        have e6 : p0 = p1 := gP_eq rfl rfl (show u = p.want1 by omega) rfl rfl
        rw [e6] at hwk0 ⊢
        exact ⟨tau [], rfl, (by repeat' (first | exact rfl | exact trivial | assumption | refine ⟨?_, ?_⟩)), hwk0⟩
    · subst e
      have e5 : p.want1 = p.want := by unfold Pol.want1; rw [← hC, if_neg (by decide), if_neg (by decide)]
      rw [if_neg (by decide)] at hu
      have e6 : p0 = p1 := gP_eq rfl rfl (show u = p.want1 by omega) rfl rfl
      rw [e6] at hwk0 ⊢
      refine vc_sound hE 60 _ _ _ 60 ?_
      exact ⟨tau [], rfl, (by repeat' (first | exact rfl | exact trivial | assumption | refine ⟨?_, ?_⟩)), hwk0⟩
  -- the counts
  have small : ¬ (64 ≤ max p.miss p.hits) → p.weighP = p1 := fun hd => gP_eq rfl rfl rfl (show (if 64 ≤ max p.miss p.hits then p.miss / 2 else p.miss) = p.miss by rw [if_neg hd]) (show (if 64 ≤ max p.miss p.hits then p.hits / 2 else p.hits) = p.hits by rw [if_neg hd])
  have wd : ∀ a : Nat, a ≤ 64 → IntKind.u64.wrap ((a : Int).tdiv 2) = ((a / 2 : Nat) : Int) := fun a ha => by
    rw [Int.tdiv_eq_ediv_of_nonneg (by omega)]
    simp only [IntKind.wrap_u64]
    omega
  have fin : ∀ (hd : 64 ≤ max p.miss p.hits) c, c < 5 → putG 5 (putG 5 (gQ p1 42 cU) 0 2 [.int .u64 (IntKind.u64.wrap ((p.miss : Int).tdiv 2))]) 0 3 [.int .u64 (IntKind.u64.wrap ((p.hits : Int).tdiv 2))] 0 c = gQ p.weighP 42 cU 0 c := fun hd c hc => by
    match c, hc with
    | 0, _ => rfl
    | 1, _ => rfl
    | 2, _ => exact congrArg (V.int .u64) (show IntKind.u64.wrap ((p.miss : Int).tdiv 2) = ((if 64 ≤ max p.miss p.hits then p.miss / 2 else p.miss : Nat) : Int) by rw [if_pos hd]; exact wd _ hmi)
    | 3, _ => exact congrArg (V.int .u64) (show IntKind.u64.wrap ((p.hits : Int).tdiv 2) = ((if 64 ≤ max p.miss p.hits then p.hits / 2 else p.hits : Nat) : Int) by rw [if_pos hd]; exact wd _ hhi)
    | 4, _ => rfl
  refine vc_sound hE 80 _ _ _ 60 ?_
  (refine (?_ : br _ _ _); refine br_dec (fun q => ?_) (fun q => ?_))
  · have q1 : (64 : Int) ≤ p.miss := q
    exact ⟨rfl, _, rfl, rfl, rfl, fin (by omega)⟩
  · have q1 : ¬ (64 : Int) ≤ p.miss := q
    (refine (?_ : br _ _ _); refine br_dec (fun q => ?_) (fun q => ?_))
    · have q2 : (64 : Int) ≤ p.hits := q
      exact ⟨rfl, _, rfl, rfl, rfl, fin (by omega)⟩
    · have q2 : ¬ (64 : Int) ≤ p.hits := q
      exact ⟨rfl, _, rfl, rfl, rfl, fun c hc => by rw [small (by omega)]⟩
end Go.Proofs.YtiihiifcnkfjoaaDoor.Sx

