import Derived.Test.YtiihiifcnkfjoaaDoorSxG5
/-
  The walks of this seat's laws: RingReverse.
-/
namespace Go.Proofs.YtiihiifcnkfjoaaDoor.Sx
open Go Go.Proofs
set_option maxRecDepth 100000
set_option linter.unusedSimpArgs false
set_option linter.unusedVariables false

theorem u8_has {n : Int} (h : IntKind.u8.has n) : 0 ≤ n ∧ n ≤ 255 := by simpa [IntKind.has, IntKind.min, IntKind.max, IntKind.signed, IntKind.bits] using h
def wkT (h h' : Hp) (σ : Sl) : Sl → Prop
  | [] => True
  | (t, u) :: r => (match lk t σ with | some v => tell h h' v u | none => False) ∧ wkT h h' σ r
theorem wkT_at {h h' : Hp} {σ : Sl} : ∀ {l : Sl}, wkT h h' σ l → ∀ t u, lk t l = some u → ∃ v, lk t σ = some v ∧ tell h h' v u
  | [], _, t, u, e => by simp [lk] at e
  | (s, x) :: r, ⟨h1, h2⟩, t, u, e => by
    rw [lk_cons] at e
    split at e
    · rename_i ht
      subst ht
      injection e with e
      subst e
      split at h1
      · rename_i v hv; exact ⟨v, hv, h1⟩
      · exact h1.elim
    · exact wkT_at h2 t u e
/-- A nil slice has a row of its own. -/
theorem W_nil {E : Env} {k : List It} {σ σ' : Sl} {h : Hp} {nx nx' : Nat} (t : Nat) (ht : fd t h = .gone) (hs : wkT h ((t, .ro none 0 1 (gl [])) :: h) σ σ') (hv : W E k σ' ((t, .ro none 0 1 (gl [])) :: h) nx') : W E k σ h nx := fun a w hm =>
  hv a w ⟨hm.size, fun t u e => let ⟨v, e1, r⟩ := wkT_at hs t u e; r _ (hm.slots t v e1), hm.calm, (hm.rel.ronil ht).1⟩
theorem tell_ext {h h' : Hp} (hx : Ext h h') (v : V) : tell h h' v v := fun x r => vrel_mono hx v x r

theorem ixZ_c {k : Nat} : ∀ {l : List Nat}, ixZ (k : Int) (cI l) = ix k l
  | [] => rfl
  | x :: l => by
    show (if (x : Int) = (k : Int) then 0 else ixZ k (cI l) + 1) = if x = k then 0 else ix k l + 1
    rw [ixZ_c (l := l)]
    by_cases h : x = k
    · rw [if_pos h, if_pos (by omega)]
    · rw [if_neg h, if_neg (by omega)]
theorem mem_c {k : Nat} {l : List Nat} : (k : Int) ∈ cI l ↔ k ∈ l := by
  simp only [cI, List.mem_map]
  constructor
  · rintro ⟨x, hx, e⟩
    obtain rfl : x = k := by omega
    exact hx
  · intro h
    exact ⟨k, h, rfl⟩
theorem eraseIdx_c {k : Nat} : ∀ {l : List Nat}, k ∈ l → (cI l).eraseIdx (ix k l) = cI (l.erase k)
  | [], h => by simp at h
  | x :: l, h => by
    by_cases e : x = k
    · subst e
      rw [List.erase_cons_head]
      show ((x : Int) :: cI l).eraseIdx (if x = x then 0 else ix x l + 1) = _
      rw [if_pos rfl]
      rfl
    · rw [List.erase_cons_tail (by simpa using e)]
      show ((x : Int) :: cI l).eraseIdx (if x = k then 0 else ix k l + 1) = (x : Int) :: cI (l.erase k)
      rw [if_neg e, List.eraseIdx_cons_succ, eraseIdx_c (by rcases List.mem_cons.1 h with q | q; exact absurd q.symm e; exact q)]
theorem cI_inj {l m : List Nat} (h : cI l = cI m) : l = m := by
  have := congrArg (List.map Int.toNat) h
  simpa [cI, List.map_map, Function.comp_def] using this

theorem lst_cap {e : Ent} {l : List Int} {cap : Nat} (hl : lstE e l cap) : l.length ≤ cap := by
  rcases hl with ⟨rfl, rfl, rfl⟩ | ⟨b, g, ty, rfl, h1, h2, h3, h4⟩
  · simp
  · exact h1
/-- What RingReverse is asked for, out of the document alone. -/
theorem front_one {m : Md} {k : Nat} (hk : k < m.n) (h0 : m.L 0 = []) : (m.frontI 1 k).L 1 = k :: (m.L 1).erase k ∧ (m.frontI 1 k).L 0 = [] ∧ (m.frontI 1 k).n = m.n := by
  have hr : rightB 1 = true ∧ m.isN k = true := ⟨rfl, by unfold Md.isN; simp only [Bool.and_eq_true, decide_eq_true_eq]; omega⟩
  have e : m.frontI 1 k = m.front 1 k := by unfold Md.frontI; rw [if_pos hr]; rfl
  rw [e]
  unfold Md.front
  rw [Md.set_at, Md.set_ne (by decide)]
  have h0' : k ∉ m.L 0 := by rw [h0]; simp
  by_cases hm : k ∈ m.L 1
  · have hat : m.at k = some 1 := by unfold Md.at; rw [if_neg h0', if_pos hm]
    have ho : m.out k = m.set 1 ((m.L 1).erase k) := by unfold Md.out; rw [hat]
    rw [ho, Md.set_at, Md.set_ne (by decide)]
    exact ⟨rfl, h0, rfl⟩
  · have hat : m.at k = none := by unfold Md.at; rw [if_neg h0', if_neg hm]
    rw [out_no hat, List.erase_of_not_mem hm]
    exact ⟨rfl, h0, rfl⟩

end Go.Proofs.YtiihiifcnkfjoaaDoor.Sx

/-
  The document's shelf: what is known of it; functions that read it, and that write into it.
-/
namespace Go.Proofs.YtiihiifcnkfjoaaDoor.Sx
open Go Go.Proofs
set_option maxRecDepth 100000
set_option linter.unusedSimpArgs false
set_option linter.unusedVariables false

/-- The cells of a shelf of the document's: its lists lie behind the tags t0 and t1, what is held behind tH. -/
def gF (n b t0 l0 c0 t1 l1 c1 tH : Nat) : Nat → Nat → V := fun _ c => match c with
  | 0 => .int .i64 n
  | 1 => .int .i64 b
  | 2 => .slice t0 0 l0 c0
  | 3 => .slice t1 0 l1 c1
  | _ => .slice tH 0 n n
def Ok (m : Md) : Prop := ∃ s, Inv s m m.n
theorem Ok.lt {m : Md} (h : Ok m) {q : Nat} (hq : q < 2) {i : Nat} (hi : i ∈ m.L q) : i < m.n := h.choose_spec.lt q hq i hi
theorem Ok.len {m : Md} (h : Ok m) {q : Nat} (hq : q < 2) : (m.L q).length ≤ 64 := by have := h.choose_spec.lenq hq; have := h.choose_spec.n2; omega
theorem Ok.n {m : Md} (h : Ok m) : 1 ≤ m.n ∧ m.n ≤ 64 := ⟨h.choose_spec.n1, h.choose_spec.n2⟩
theorem Ok.front {m : Md} (h : Ok m) (L k : Int) : Ok (m.frontI L k) := by obtain ⟨s, hi⟩ := h; obtain ⟨_, h1, h2⟩ := front_inv hi L k; exact ⟨_, by rw [h2]; exact h1⟩
theorem Ok.drop {m : Md} (h : Ok m) (k : Int) : Ok (m.dropI k) := by obtain ⟨s, hi⟩ := h; obtain ⟨_, h1, h2⟩ := drop_inv hi k; exact ⟨_, by rw [h2]; exact h1⟩
theorem Ok.hold {m : Md} (h : Ok m) (k : Int) (b : Bool) : Ok (m.holdI k b) := by obtain ⟨s, hi⟩ := h; obtain ⟨_, h1, h2⟩ := hold_inv hi k b; exact ⟨_, by rw [h2]; exact h1⟩

theorem toRo_toRo (e : Ent) : e.toRo.toRo = e.toRo := by cases e <;> rfl
theorem orRo {x e : Ent} (h : x = e ∨ x = e.toRo) : x.toRo = e.toRo := by rcases h with rfl | rfl; rfl; exact toRo_toRo _
theorem orRf {x e : Ent} (h : x = e ∨ x = e.toRo) : x.rf = e.rf := by rcases h with rfl | rfl; rfl; exact Ent.toRo_rf _
/-- The document's shelf that lies at p. -/
structure RefA (h : Hp) (p : V) (m : Md) (tR t0 t1 tH bR bH : Nat) (e0 e1 : Ent) (c0 c1 : Nat) (g gh : Nat → Nat → V) : Prop where
  p : p = .ptr tR 0 0
  nd : nodupB [tR, t0, t1, tH] = true
  R : fd tR h = .blk bR 1 5 g 68
  g : ∀ c, c < 5 → g 0 c = gF m.n m.b t0 (m.L 0).length c0 t1 (m.L 1).length c1 tH 0 c
  r0 : fd t0 h = e0 ∨ fd t0 h = e0.toRo
  l0 : lstE e0 (cI (m.L 0)) c0
  r1 : fd t1 h = e1 ∨ fd t1 h = e1.toRo
  l1 : lstE e1 (cI (m.L 1)) c1
  H : fd tH h = .blk bH m.n 1 gh 4
  gh : ∀ i, i < m.n → gh i 0 = .bool (m.H i)
/-- The same, to a reader. -/
def refR (h : Hp) (p : V) (m : Md) : Prop := ∃ tR t0 t1 tH bR bH e0 e1 c0 c1 g gh, p = .ptr tR 0 0 ∧ nodupB [tR, t0, t1, tH] = true ∧ fd tR (roH h) = .ro (some ⟨bR, 0, none⟩) 1 5 g ∧ (∀ c, c < 5 → g 0 c = gF m.n m.b t0 (m.L 0).length c0 t1 (m.L 1).length c1 tH 0 c) ∧
  fd t0 (roH h) = e0.toRo ∧ lstE e0 (cI (m.L 0)) c0 ∧ fd t1 (roH h) = e1.toRo ∧ lstE e1 (cI (m.L 1)) c1 ∧ fd tH (roH h) = .ro (some ⟨bH, 0, none⟩) m.n 1 gh ∧ ∀ i, i < m.n → gh i 0 = .bool (m.H i)
theorem RefA.r {h : Hp} {p : V} {m : Md} {tR t0 t1 tH bR bH : Nat} {e0 e1 : Ent} {c0 c1 : Nat} {g gh : Nat → Nat → V} (hA : RefA h p m tR t0 t1 tH bR bH e0 e1 c0 c1 g gh) : refR h p m :=
  ⟨tR, t0, t1, tH, bR, bH, e0, e1, c0, c1, g, gh, hA.p, hA.nd, by rw [fd_roH, hA.R]; rfl, hA.g, by rw [fd_roH]; exact orRo hA.r0, hA.l0, by rw [fd_roH]; exact orRo hA.r1, hA.l1, by rw [fd_roH, hA.H]; rfl, hA.gh⟩

theorem lstE.ro_wk {e : Ent} {l : List Int} {cap : Nat} (hl : lstE e l cap) (τ : Nat → Nat) (h' : Hp) : wkE τ h' e.toRo e.toRo := by
  rcases hl with ⟨rfl, rfl, rfl⟩ | ⟨b, g, ty, rfl, h1, h2, h3, h4⟩
  · exact ⟨rfl, rfl, rfl, fun i c hi => by omega⟩
  · refine ⟨rfl, rfl, rfl, fun i c hi hc => ?_⟩
    obtain rfl : c = 0 := by omega
    exact flat_rn _ (h4 i hi)
theorem lstE.ro_live {e : Ent} {l : List Int} {cap : Nat} (hl : lstE e l cap) : e.toRo.here := by
  rcases hl with ⟨rfl, rfl, rfl⟩ | ⟨b, g, ty, rfl, h1, h2, h3, h4⟩ <;> trivial
/-- A list that lies in a row that is read. -/
theorem lstE.rd2 {e : Ent} {l : List Int} {cap : Nat} (hl : lstE e l cap) {h : Hp} {t : Nat} (ht : fd t h = e.toRo) : rdL h (.slice t 0 l.length cap) l := by
  rcases hl with ⟨rfl, rfl, rfl⟩ | ⟨b, g, ty, rfl, h1, h2, h3, h4⟩
  · exact .inr ⟨t, 0, 0, none, 0, _, rfl, by rw [fd_roH, ht]; rfl, Nat.le_refl _, fun j hj => absurd hj (by simp)⟩
  · exact .inr ⟨t, 0, cap, _, cap, g, rfl, by rw [fd_roH, ht]; rfl, by omega, fun j hj => by rw [Nat.zero_add]; exact h3 j hj⟩

theorem gF_rn {τ : Nat → Nat} {h' : Hp} {n b t0 l0 c0 t1 l1 c1 tH t0' t1' tH' c : Nat} (h0 : t0 = τ t0' ∧ live h' t0') (h1 : t1 = τ t1' ∧ live h' t1') (hH : tH = τ tH' ∧ live h' tH') (hc : c < 5) :
    rn τ h' (gF n b t0 l0 c0 t1 l1 c1 tH 0 c) (gF n b t0' l0 c0 t1' l1 c1 tH' 0 c) := by
  match c, hc with
  | 0, _ => exact ⟨rfl, rfl⟩
  | 1, _ => exact ⟨rfl, rfl⟩
  | 2, _ => exact ⟨h0, rfl, rfl, rfl⟩
  | 3, _ => exact ⟨h1, rfl, rfl, rfl⟩
  | 4, _ => exact ⟨hH, rfl, rfl, rfl⟩

/-- What a function is handed that reads such a shelf. -/
abbrev HF (bR bH : Nat) (e0 e1 : Ent) (c0 c1 : Nat) (m : Md) : Hp := [(2000, .ro (some ⟨bR, 0, none⟩) 1 5 (gF m.n m.b 2001 (m.L 0).length c0 2002 (m.L 1).length c1 2003)), (2001, e0.toRo), (2002, e1.toRo), (2003, .ro (some ⟨bH, 0, none⟩) m.n 1 (gb m.H))]
theorem told_ref {h : Hp} {p : V} {m : Md} {rest : List V} (hr : refR h p m) (hf : flatL rest) : ∃ bR bH e0 e1 c0 c1, lstE e0 (cI (m.L 0)) c0 ∧ lstE e1 (cI (m.L 1)) c1 ∧ Told h (p :: rest) (HF bR bH e0 e1 c0 c1 m) (.ptr 2000 0 0 :: rest) := by
  obtain ⟨tR, t0, t1, tH, bR, bH, e0, e1, c0, c1, g, gh, rfl, hnd, eR, hg, er0, l0, er1, l1, eH, hgh⟩ := hr
  refine ⟨bR, bH, e0, e1, c0, c1, l0, l1, told_wk (tau [(2000, tR), (2001, t0), (2002, t1), (2003, tH)]) hnd ?_ ?_⟩
  · refine ⟨?_, ?_, ?_, ?_, trivial⟩
    · show wkE _ _ (fd tR (roH h)) _
      rw [eR]
      refine ⟨rfl, rfl, rfl, fun i c hi hc => ?_⟩
      obtain rfl : i = 0 := by omega
      rw [hg c hc]
      exact gF_rn ⟨rfl, l0.ro_live⟩ ⟨rfl, l1.ro_live⟩ ⟨rfl, trivial⟩ hc
    · show wkE _ _ (fd t0 (roH h)) _
      rw [er0]
      exact l0.ro_wk _ _
    · show wkE _ _ (fd t1 (roH h)) _
      rw [er1]
      exact l1.ro_wk _ _
    · show wkE _ _ (fd tH (roH h)) _
      rw [eH]
      refine ⟨rfl, rfl, rfl, fun i c hi hc => ?_⟩
      obtain rfl : c = 0 := by omega
      rw [hgh i hi]
      exact rfl
  · exact ⟨⟨⟨rfl, trivial⟩, rfl, rfl⟩, flatL_rn _ hf⟩

theorem HF.ref {bR bH : Nat} {e0 e1 : Ent} {c0 c1 : Nat} {m : Md} (l0 : lstE e0 (cI (m.L 0)) c0) (l1 : lstE e1 (cI (m.L 1)) c1) : refR (HF bR bH e0 e1 c0 c1 m) (.ptr 2000 0 0) m :=
  ⟨2000, 2001, 2002, 2003, bR, bH, e0, e1, c0, c1, _, _, rfl, rfl, rfl, fun c _ => rfl, by show e0.toRo.toRo = _; cases e0 <;> rfl, l0, by show e1.toRo.toRo = _; cases e1 <;> rfl, l1, rfl, fun i _ => rfl⟩
/-! ### Which list a node lies in -/
def Md.atZ (m : Md) (k : Int) : Int := if k ∈ cI (m.L 0) then 0 else if k ∈ cI (m.L 1) then 1 else -1
theorem findI_neg {k : Int} {l : List Int} : findI k l < 0 ↔ k ∉ l := by
  unfold findI
  by_cases h : k ∈ l
  · rw [if_pos h]; simp [h]
  · rw [if_neg h]; simp [h]
theorem findI_ge {k : Int} {l : List Int} : 0 ≤ findI k l ↔ k ∈ l := by
  unfold findI
  by_cases h : k ∈ l
  · rw [if_pos h]; simp [h]
  · rw [if_neg h]; simp [h]

def sAt : Spec := fun args h nx K => ∃ (p : V) (m : Md) (k : Int), args = [p, .int .i64 k] ∧ refR h p m ∧ Ok m ∧ K (.ret (.int .i64 (m.atZ k))) h nx
theorem sAt_ok : SpecOK Tryd.prog 70 sAt := by
  refine specOK_read2 (fn := Tryd.f70) rfl rfl rfl T_ok (SP := [(19, sFind)]) (consSP sFind_ok noSP) 0 _ ?_
  rintro args h nx K ⟨p, m, k, rfl, hr, hok, hk⟩
  obtain ⟨bR, bH, e0, e1, c0, c1, l0, l1, told⟩ := told_ref (rest := [.int .i64 k]) hr ⟨trivial, trivial⟩
  refine ⟨_, _, told, by simp [Tryd.f70], fun o => o = .ret (.int .i64 (m.atZ k)), ?_, ?_⟩
  · rintro o rfl; exact ⟨trivial, hk⟩
  intro cx hcx
  clear hk told hr
  have hE := mkE' (fn := Tryd.f70) (R := fun o _ _ => o = .ret (.int .i64 (m.atZ k))) hcx (SP := [(19, sFind)]) (consSP sFind_ok noSP)
  have hl0 := hok.len (q := 0) (by omega)
  have hl1 := hok.len (q := 1) (by omega)
  have v0 : live (HF bR bH e0 e1 c0 c1 m) 2001 := l0.ro_live
  have v1 : live (HF bR bH e0 e1 c0 c1 m) 2002 := l1.ro_live
  have hwk : wkH (tau []) (HF bR bH e0 e1 c0 c1 m) (HF bR bH e0 e1 c0 c1 m) (HF bR bH e0 e1 c0 c1 m) := ⟨⟨rfl, rfl, rfl, fun i c hi hc => (by obtain rfl : i = 0 := (by omega); exact gF_rn ⟨rfl, v0⟩ ⟨rfl, v1⟩ ⟨rfl, trivial⟩ hc)⟩, l0.ro_wk _ _, l1.ro_wk _ _, ⟨rfl, rfl, rfl, fun i c hi hc => rfl⟩, trivial⟩
  show W _ _ _ _ 0
  refine W_seq (nx := 0) ?_
  refine W_to (nx := 0) [(0, .ptr 2000 0 0), (1, .int .i64 k)] (HF bR bH e0 e1 c0 c1 m) 30 ?_ ?_
  · refine vc_sound hE 20 _ _ _ 30 ?_
    exact ⟨tau [], rfl, ⟨⟨⟨rfl, trivial⟩, rfl, rfl⟩, ⟨rfl, rfl⟩, trivial⟩, hwk⟩
  refine W_seq (nx := 30) ?_
  refine W_piece (nx := 30) (fun σ1 h1 _ => (k ∉ cI (m.L 0) ∧ k ∉ cI (m.L 1)) ∧ ∃ τ, wk τ σ1 h1 [] []) ?_ ?_
  · refine vc_sound hE 8 _ _ _ 30 ?_
    refine W_loop (fun r σ h => ∃ q : Nat, r = 2 - q ∧ q ≤ 2 ∧ (∀ j, j < q → k ∉ cI (m.L j)) ∧ σ = [(0, .ptr 2000 0 0), (1, .int .i64 k), (5, .int .i64 q)] ∧ h = HF bR bH e0 e1 c0 c1 m) 2 ⟨0, rfl, by omega, fun j hj => by omega, rfl, rfl⟩ (tau []) ⟨rfl, ⟨⟨⟨rfl, trivial⟩, rfl, rfl⟩, ⟨rfl, rfl⟩, ⟨rfl, rfl⟩, trivial⟩, hwk⟩ 30 ?_
    rintro r σ h ⟨q, rfl, hq, hno, rfl, rfl⟩
    obtain rfl | rfl | rfl : q = 0 ∨ q = 1 ∨ q = 2 := by omega
    · refine vc_sound hE 5 _ _ _ 30 ?_
      refine vc_sound hE 3 _ _ _ 30 ?_
      refine W_piece (nx := 30) (fun σ1 h1 _ => k ∉ cI (m.L 0) ∧ ∃ τ, wk τ σ1 h1 [(0, .ptr 2000 0 0), (1, .int .i64 k), (5, .int .i64 ((1 : Nat) : Int))] (HF bR bH e0 e1 c0 c1 m)) ?_ ?_
      · refine vc_sound hE 60 _ _ _ 30 ?_
        refine ⟨_, cI (m.L 0), k, rfl, (show rdL _ (.slice 2001 0 (m.L 0).length c0) _ by rw [← cI_len]; exact l0.rd2 rfl), by rw [cI_len]; omega, ?_⟩
        (refine (?_ : br _ _ _); refine br_dec (fun q => ?_) (fun q => ?_))
        · have q : 0 ≤ findI k (cI (m.L 0)) := q
          rw [findI_ge] at q
          exact outI (by unfold Md.atZ; rw [if_pos q]; rfl)
        · have q : ¬ 0 ≤ findI k (cI (m.L 0)) := q
          rw [findI_ge] at q
          exact ⟨q, tau [], rfl, ⟨⟨⟨rfl, trivial⟩, rfl, rfl⟩, ⟨rfl, rfl⟩, ⟨rfl, by decide⟩, trivial⟩, hwk⟩
      rintro σ1 h1 _ ⟨hn, τ1, hw1⟩
      refine W_weak (nx' := 30) τ1 hw1 ?_
      refine vc_sound hE 60 _ _ _ 30 ?_
      exact ⟨2 - 1, _, _, by omega, ⟨1, rfl, by omega, fun j hj => (by obtain rfl : j = 0 := (by omega); exact hn), rfl, rfl⟩, tau [], rfl, ⟨⟨⟨rfl, trivial⟩, rfl, rfl⟩, ⟨rfl, rfl⟩, ⟨rfl, rfl⟩, trivial⟩, hwk⟩
    · refine vc_sound hE 5 _ _ _ 30 ?_
      refine vc_sound hE 3 _ _ _ 30 ?_
      refine W_piece (nx := 30) (fun σ1 h1 _ => k ∉ cI (m.L 1) ∧ ∃ τ, wk τ σ1 h1 [(0, .ptr 2000 0 0), (1, .int .i64 k), (5, .int .i64 ((2 : Nat) : Int))] (HF bR bH e0 e1 c0 c1 m)) ?_ ?_
      · refine vc_sound hE 60 _ _ _ 30 ?_
        refine ⟨_, cI (m.L 1), k, rfl, (show rdL _ (.slice 2002 0 (m.L 1).length c1) _ by rw [← cI_len]; exact l1.rd2 rfl), by rw [cI_len]; omega, ?_⟩
        (refine (?_ : br _ _ _); refine br_dec (fun q => ?_) (fun q => ?_))
        · have q : 0 ≤ findI k (cI (m.L 1)) := q
          rw [findI_ge] at q
          exact outI (by unfold Md.atZ; rw [if_neg (hno 0 (by omega)), if_pos q]; rfl)
        · have q : ¬ 0 ≤ findI k (cI (m.L 1)) := q
          rw [findI_ge] at q
          exact ⟨q, tau [], rfl, ⟨⟨⟨rfl, trivial⟩, rfl, rfl⟩, ⟨rfl, rfl⟩, ⟨rfl, by decide⟩, trivial⟩, hwk⟩
      rintro σ1 h1 _ ⟨hn, τ1, hw1⟩
      refine W_weak (nx' := 30) τ1 hw1 ?_
      refine vc_sound hE 60 _ _ _ 30 ?_
      exact ⟨2 - 2, _, _, by omega, ⟨2, rfl, by omega, fun j hj => (by obtain rfl | rfl : j = 0 ∨ j = 1 := (by omega); exact hno 0 (by omega); exact hn), rfl, rfl⟩, tau [], rfl, ⟨⟨⟨rfl, trivial⟩, rfl, rfl⟩, ⟨rfl, rfl⟩, ⟨rfl, rfl⟩, trivial⟩, hwk⟩
    · refine vc_sound hE 60 _ _ _ 30 ?_
      exact ⟨⟨hno 0 (by omega), hno 1 (by omega)⟩, tau [], rfl, trivial, trivial⟩
  rintro σ1 h1 _ ⟨⟨hn0, hn1⟩, τ1, hw1⟩
  refine W_weak (nx' := 30) τ1 hw1 ?_
  refine vc_sound hE 60 _ _ _ 30 ?_
  exact outI (by unfold Md.atZ; rw [if_neg hn0, if_neg hn1])

theorem Md.at_Z {m : Md} {j : Nat} : m.atZ j = (match m.at j with | some q => (q : Int) | none => -1) := by
  unfold Md.atZ Md.at
  simp only [mem_c]
  by_cases h0 : j ∈ m.L 0
  · simp [h0]
  · by_cases h1 : j ∈ m.L 1
    · simp [h0, h1]
    · simp [h0, h1]
theorem Md.lies_Z {m : Md} {k : Int} (h0 : ¬ k < 0) (h1 : ¬ (m.n : Int) ≤ k) : m.lies k = if m.atZ k < 0 then 3 else 0 := by
  obtain ⟨j, rfl⟩ : ∃ j : Nat, k = j := ⟨k.toNat, by omega⟩
  unfold Md.lies
  rw [if_neg (by unfold Md.isN; simp; omega), Int.toNat_natCast, Md.at_Z]
  obtain e | ⟨q, e⟩ : m.at j = none ∨ ∃ q, m.at j = some q := by cases m.at j <;> simp
  · rw [e]; simp
  · rw [e]; simp
theorem Md.lies_1 {m : Md} {k : Int} (h : k < 0 ∨ (m.n : Int) ≤ k) : m.lies k = 1 := by
  unfold Md.lies
  rw [if_pos]
  unfold Md.isN
  rcases h with h | h
  · rw [decide_eq_false (by omega : ¬ 0 ≤ k), Bool.false_and]
  · rw [decide_eq_false (by omega : ¬ k < (m.n : Int)), Bool.and_false]

def sRLies : Spec := fun args h nx K => ∃ (p : V) (m : Md) (k : Int), args = [p, .int .i64 k] ∧ refR h p m ∧ Ok m ∧ K (.ret (.int .i64 (m.lies k))) h nx
theorem sRLies_ok : SpecOK Tryd.prog 69 sRLies := by
  refine specOK_read2 (fn := Tryd.f69) rfl rfl rfl T_ok (SP := [(70, sAt)]) (consSP sAt_ok noSP) 100 _ ?_
  rintro args h nx K ⟨p, m, k, rfl, hr, hok, hk⟩
  obtain ⟨bR, bH, e0, e1, c0, c1, l0, l1, told⟩ := told_ref (rest := [.int .i64 k]) hr ⟨trivial, trivial⟩
  refine ⟨_, _, told, by simp [Tryd.f69], fun o => o = .ret (.int .i64 (m.lies k)), ?_, ?_⟩
  · rintro o rfl; exact ⟨trivial, hk⟩
  intro cx hcx
  clear hk told hr
  (refine (?_ : br _ _ _); refine br_dec (fun q => ?_) (fun q => ?_))
  · have q : k < 0 := q
    exact outI (Md.lies_1 (.inl q)).symm
  · have q : ¬ k < 0 := q
    (refine (?_ : br _ _ _); refine br_dec (fun q => ?_) (fun q => ?_))
    · have q2 : (m.n : Int) ≤ k := q
      exact outI (Md.lies_1 (.inr q2)).symm
    · have q2 : ¬ (m.n : Int) ≤ k := by assumption
      refine ⟨_, m, k, rfl, HF.ref l0 l1, hok, ?_⟩
      rename_i q1 _
      (refine (?_ : br _ _ _); refine br_dec (fun q => ?_) (fun q => ?_))
      · have q : m.atZ k < 0 := q
        exact outI (by rw [Md.lies_Z q1 q2, if_pos q])
      · have q : ¬ m.atZ k < 0 := q
        exact outI (by rw [Md.lies_Z q1 q2, if_neg q])
end Go.Proofs.YtiihiifcnkfjoaaDoor.Sx

/-
  The document's shelf: functions that write into it.
-/
namespace Go.Proofs.YtiihiifcnkfjoaaDoor.Sx
open Go Go.Proofs
set_option maxRecDepth 100000
set_option linter.unusedSimpArgs false
set_option linter.unusedVariables false

/-- A new row that holds these. -/
def blkL (E : Ent) (l : List Int) (c : Nat) : Prop := ∃ b g ty, E = .blk b c 1 g ty ∧ l.length ≤ c ∧ c ≤ 9223372036854775807 ∧ cellsL g l c
theorem blkL.lst {E : Ent} {l : List Int} {c : Nat} (h : blkL E l c) : lstE E l c := by obtain ⟨b, g, ty, rfl, h1, h2, h3⟩ := h; exact lstE.of h3 h1 h2
/-- A list behind a call: as it was, or in a new row. -/
def NewL (nx : Nat) (E : Ent) (t t' : Nat) (e : Ent) (l : List Int) (c : Nat) : Prop := (t' = t ∧ E = .gone ∧ lstE e l c) ∨ (t' = nx ∧ blkL E l c)
/-- The document's shelf at p holds m, and then m'; the answer is v. -/
def rMut (h : Hp) (nx : Nat) (K : Out → Hp → Nat → Prop) (p : V) (m m' : Md) (v : V) : Prop :=
  ∃ tR t0 t1 tH bR bH e0 e1 c0 c1 g gh, RefA h p m tR t0 t1 tH bR bH e0 e1 c0 c1 g gh ∧ fd nx h = .gone ∧ fd (nx + 1) h = .gone ∧
    ∀ t0' E0 c0' t1' E1 c1', NewL nx E0 t0 t0' e0 (cI (m'.L 0)) c0' → NewL (nx + 1) E1 t1 t1' e1 (cI (m'.L 1)) c1' →
      K (.ret v) ((tR, .blk bR 1 5 (gF m'.n m'.b t0' (m'.L 0).length c0' t1' (m'.L 1).length c1' tH) 68) :: (tH, .blk bH m'.n 1 (gb m'.H) 4) :: (nx, E0) :: (nx + 1, E1) :: h) (nx + 2)

/-- What a function is handed that writes into such a shelf. -/
abbrev HW (bR bH : Nat) (e0 e1 : Ent) (c0 c1 : Nat) (m : Md) : Hp := [(2000, .blk bR 1 5 (gF m.n m.b 2001 (m.L 0).length c0 2002 (m.L 1).length c1 2003) 68), (2001, e0.toRo), (2002, e1.toRo), (2003, .blk bH m.n 1 (gb m.H) 4)]
def OutL (h1 : Hp) (t : Nat) (e : Ent) (l' : List Nat) (c' : Nat) : Prop := (fd t h1 = e.toRo ∧ lstE e (cI l') c') ∨ (t < 2000 ∧ ∃ b g ty, fd t h1 = .blk b c' 1 g ty ∧ (cI l').length ≤ c' ∧ c' ≤ 9223372036854775807 ∧ cellsL g (cI l') c')
/-- What such a walk leaves. -/
def RefOut (h1 : Hp) (bR bH : Nat) (e0 e1 : Ent) (c0 c1 : Nat) (m m' : Md) : Prop :=
  ∃ g gh t0 c0' t1 c1', fd 2000 h1 = .blk bR 1 5 g 68 ∧ (∀ c, c < 5 → g 0 c = gF m.n m.b t0 (m'.L 0).length c0' t1 (m'.L 1).length c1' 2003 0 c) ∧ fd 2003 h1 = .blk bH m.n 1 gh 4 ∧ (∀ i, i < m.n → gh i 0 = .bool (m'.H i)) ∧
    OutL h1 t0 e0 (m'.L 0) c0' ∧ OutL h1 t1 e1 (m'.L 1) c1' ∧ t0 ≠ t1

theorem nd4 {a b c d : Nat} (h : nodupB [a, b, c, d] = true) : a ≠ b ∧ a ≠ c ∧ a ≠ d ∧ b ≠ c ∧ b ≠ d ∧ c ≠ d := by
  have := nodupB_iff h
  simp only [List.nodup_cons, List.mem_cons, List.not_mem_nil, or_false, not_or] at this
  obtain ⟨⟨h1, h2, h3⟩, ⟨h4, h5⟩, h6, _⟩ := this
  exact ⟨h1, h2, h3, h4, h5, h6⟩

theorem specOK_ref {P : Program} {f : Nat} {fn : Func} {cd : Code} {T : Tab} {SP : SpT} (hf : P.funcs[f]? = some fn) (hx : (fn.name == "runtime.NumGoroutine") = false) (hb : fn.body = some cd) (hT : TabOK P T) (hS : ∀ p ∈ SP, SpecOK P p.1 p.2)
    (pre : List V → Md → Md → V → Prop) (hp : ∀ rest m m' v, pre rest m m' v → flatL rest ∧ flat v ∧ m'.n = m.n ∧ m'.b = m.b ∧ rest.length + 1 ≤ fn.ntmps)
    (hw : ∀ rest m m' v (bR bH : Nat) e0 e1 c0 c1 c, pre rest m m' v → lstE e0 (cI (m.L 0)) c0 → lstE e1 (cI (m.L 1)) c1 → c.P = P → W ⟨c, fn, T, SP, fun o h1 _ => o = .ret v ∧ RefOut h1 bR bH e0 e1 c0 c1 m m'⟩ [.code cd] (argsS (.ptr 2000 0 0 :: rest) 0) (HW bR bH e0 e1 c0 c1 m) 0) :
    SpecOK P f (fun args h nx K => ∃ p rest m m' v, args = p :: rest ∧ pre rest m m' v ∧ rMut h nx K p m m' v) := by
  refine specOK_gen hf hx hb hT hS _ ?_
  rintro args h nx K ⟨p, rest, m, m', v, rfl, hpre, tR, t0, t1, tH, bR, bH, e0, e1, c0, c1, g, gh, hA, g0, g1, hk⟩
  obtain ⟨hfl, hfv, hn, hbb, hlen⟩ := hp _ _ _ _ hpre
  obtain ⟨d1, d2, d3, d4, d5, d6⟩ := nd4 hA.nd
  obtain rfl := hA.p
  have hl0 := hA.l0
  have hl1 := hA.l1
  refine ⟨tau [(2000, tR), (2001, t0), (2002, t1), (2003, tH)], HW bR bH e0 e1 c0 c1 m, .ptr 2000 0 0 :: rest, hA.nd, ?_, ⟨⟨⟨rfl, trivial⟩, rfl, rfl⟩, flatL_rn _ hfl⟩, by simpa using hlen, _, ?_, fun c hc => hw rest m m' v bR bH e0 e1 c0 c1 c hpre hl0 hl1 hc⟩
  · intro q hq
    simp only [List.mem_cons, List.not_mem_nil, or_false] at hq
    rcases hq with rfl | rfl | rfl | rfl
    · left
      show wkE _ _ (fd tR h) _
      rw [hA.R]
      refine ⟨rfl, rfl, rfl, rfl, fun i c hi hc => ?_⟩
      obtain rfl : i = 0 := by omega
      rw [hA.g c hc]
      exact gF_rn ⟨rfl, hl0.ro_live⟩ ⟨rfl, hl1.ro_live⟩ ⟨rfl, trivial⟩ hc
    · right
      show wkE _ _ (fd t0 (roH h)) _
      rw [fd_roH, orRo hA.r0]
      exact hl0.ro_wk _ _
    · right
      show wkE _ _ (fd t1 (roH h)) _
      rw [fd_roH, orRo hA.r1]
      exact hl1.ro_wk _ _
    · left
      show wkE _ _ (fd tH h) _
      rw [hA.H]
      refine ⟨rfl, rfl, rfl, rfl, fun i c hi hc => ?_⟩
      obtain rfl : c = 0 := by omega
      rw [hA.gh i hi]
      exact rfl
  · rintro o h1 ⟨rfl, g2, gh2, s0, c0', s1, c1', f1, f2, f3, f4, o0, o1, hs⟩
    -- the tags of what is new
    have pick : ∀ (u : Nat) (t s nx' : Nat) (e : Ent) (l' : List Nat) (c' : Nat), OutL h1 s e l' c' → fd nx' h = .gone → ∃ E t' w, NewL nx' E t t' e (cI l') c' ∧ (w = s ∨ w = u) ∧ ((t' = t ∧ E = .gone ∧ fd s h1 = e.toRo ∧ w = u) ∨ (t' = nx' ∧ w = s ∧ s < 2000 ∧ E = fd s h1 ∧ lstE E (cI l') c' ∧ ∃ b g ty, E = .blk b c' 1 g ty ∧ cellsL g (cI l') c')) := by
      intro u t s nx' e l' c' q4 q5
      rcases q4 with ⟨z, q2⟩ | ⟨hlt, b, gg, ty, r1, r2, r3, r4⟩
      · exact ⟨.gone, t, u, .inl ⟨rfl, rfl, q2⟩, .inr rfl, .inl ⟨rfl, rfl, z, rfl⟩⟩
      · have hl : lstE (fd s h1) (cI l') c' := by rw [r1]; exact lstE.of r4 r2 r3
        exact ⟨fd s h1, nx', s, .inr ⟨rfl, b, gg, ty, r1, r2, r3, r4⟩, .inl rfl, .inr ⟨rfl, rfl, hlt, rfl, hl, b, gg, ty, r1, r4⟩⟩
    obtain ⟨E0, t0', w0, n0, v0, p0⟩ := pick 5000 t0 s0 nx e0 _ c0' o0 g0
    obtain ⟨E1, t1', w1, n1, v1, p1⟩ := pick 5001 t1 s1 (nx + 1) e1 _ c1' o1 g1
    have hne : ∀ {t e}, fd t h = e → e.here → t ≠ nx ∧ t ≠ nx + 1 := fun {t e} q1 q2 => ⟨by rintro rfl; rw [g0] at q1; subst q1; exact q2, by rintro rfl; rw [g1] at q1; subst q1; exact q2⟩
    have xR := hne hA.R trivial
    have xH := hne hA.H trivial
    have here2 : ∀ {x e : Ent} {l c}, (x = e ∨ x = e.toRo) → lstE e l c → x.here := fun q1 q2 => by rcases q1 with rfl | rfl; exact lst_live q2; exact q2.ro_live
    have x0 := hne rfl (here2 hA.r0 hl0)
    have x1 := hne rfl (here2 hA.r1 hl1)
    let G2 : Hp := [(tR, .blk bR 1 5 (gF m'.n m'.b t0' (m'.L 0).length c0' t1' (m'.L 1).length c1' tH) 68), (tH, .blk bH m'.n 1 (gb m'.H) 4), (nx, E0), (nx + 1, E1)]
    have hfd : ∀ t, fd t (G2 ++ h) = if t = tR then .blk bR 1 5 (gF m'.n m'.b t0' (m'.L 0).length c0' t1' (m'.L 1).length c1' tH) 68 else if t = tH then .blk bH m'.n 1 (gb m'.H) 4 else if t = nx then E0 else if t = nx + 1 then E1 else fd t h := fun t => by
      show fd t ((tR, _) :: (tH, _) :: (nx, _) :: (nx + 1, _) :: h) = _
      rw [fd_cons, fd_cons, fd_cons, fd_cons]
    have hfd2 : ∀ t, fd t G2 = if t = tR then .blk bR 1 5 (gF m'.n m'.b t0' (m'.L 0).length c0' t1' (m'.L 1).length c1' tH) 68 else if t = tH then .blk bH m'.n 1 (gb m'.H) 4 else if t = nx then E0 else if t = nx + 1 then E1 else .gone := fun t => by
      show fd t ((tR, _) :: (tH, _) :: (nx, _) :: (nx + 1, _) :: []) = _
      rw [fd_cons, fd_cons, fd_cons, fd_cons]
      rfl
    have hτ : ∀ t, tau [(tR, 2000), (tH, 2003), (nx, w0), (nx + 1, w1)] t = if t = tR then 2000 else if t = tH then 2003 else if t = nx then w0 else if t = nx + 1 then w1 else t := fun t => by
      have one : ∀ (a b : Nat) (r : List (Nat × Nat)), tau ((a, b) :: r) t = if t = a then b else tau r t := fun a b r => by
        by_cases q : t = a
        · subst q; simp [tau]
        · simp [tau, beq_ne q, q]
      rw [one, one, one, one]; rfl
    have r0 : (fd t0' (G2 ++ h)).rf = (fd s0 h1).rf := by
      rw [hfd]
      rcases p0 with ⟨rfl, _, f5, _⟩ | ⟨rfl, _, _, rfl, _⟩
      · rw [if_neg (Ne.symm d1), if_neg d5, if_neg x0.1, if_neg x0.2, orRf hA.r0, f5, Ent.toRo_rf]
      · rw [if_neg (Ne.symm xR.1), if_neg (Ne.symm xH.1), if_pos rfl]
    have r1 : (fd t1' (G2 ++ h)).rf = (fd s1 h1).rf := by
      rw [hfd]
      rcases p1 with ⟨rfl, _, f6, _⟩ | ⟨rfl, _, _, rfl, _⟩
      · rw [if_neg (Ne.symm d2), if_neg d6, if_neg x1.1, if_neg x1.2, orRf hA.r1, f6, Ent.toRo_rf]
      · rw [if_neg (Ne.symm xR.2), if_neg (Ne.symm xH.2), if_neg (by omega), if_pos rfl]
    have rH : (fd tH (G2 ++ h)).rf = (fd 2003 h1).rf := by
      rw [hfd, if_neg (Ne.symm d3), if_pos rfl, f3]; rfl
    refine ⟨tau [(tR, 2000), (tH, 2003), (nx, w0), (nx + 1, w1)], G2, .ret v, nx + 2, ⟨fun t ht => ?_, fun t b n sz g' ty q => ?_, fun t t' ht ht' hne => ?_, fun e he => ?_⟩, hk t0' E0 c0' t1' E1 c1' n0 n1⟩
    · have hkeys := memB_iff.1 ht
      simp only [G2, List.map_cons, List.map_nil, List.mem_cons, List.not_mem_nil, or_false] at hkeys
      rcases hkeys with rfl | rfl | rfl | rfl
      · refine .inr (.inl ⟨2000, bR, 1, 5, _, g2, _, 68, rfl, by rw [hτ, if_pos rfl], rfl, f1, by rw [hfd2, if_pos rfl], fun i k hi hk => ?_⟩)
        obtain rfl : i = 0 := by omega
        rw [f2 k hk]
        match k, hk with
        | 0, _ => show tell _ _ (.int .i64 m.n) (.int .i64 m'.n); rw [hn]; exact tell_flat trivial
        | 1, _ => show tell _ _ (.int .i64 m.b) (.int .i64 m'.b); rw [hbb]; exact tell_flat trivial
        | 2, _ => exact tell_slice r0
        | 3, _ => exact tell_slice r1
        | 4, _ => show tell _ _ (.slice 2003 0 m.n m.n) (.slice tH 0 m'.n m'.n); rw [hn]; exact tell_slice rH
      · refine .inr (.inl ⟨2003, bH, m.n, 1, _, gh2, _, 4, rfl, by rw [hτ, if_neg (Ne.symm d3), if_pos rfl], rfl, f3, by rw [hfd2, if_neg (Ne.symm d3), if_pos rfl, hn], fun i k hi hk => ?_⟩)
        obtain rfl : k = 0 := by omega
        rw [f4 i hi]
        exact tell_flat trivial
      · rcases p0 with ⟨_, rfl, _, _⟩ | ⟨_, hw0, _, hE, _, b, gg, ty, hEb, hc1, hc2⟩
        · exact .inl ⟨g0, .inl (by rw [hfd2, if_neg (Ne.symm xR.1), if_neg (Ne.symm xH.1), if_pos rfl])⟩
        · refine .inr (.inr ⟨b, c0', 1, gg, gg, ty, g0, by rw [hτ, if_neg (Ne.symm xR.1), if_neg (Ne.symm xH.1), if_pos rfl, hw0, ← hE, hEb], by rw [hfd2, if_neg (Ne.symm xR.1), if_neg (Ne.symm xH.1), if_pos rfl, hEb], fun t' b' n' sz' g' ty' q => ?_, fun i k hi hk => ?_⟩)
          · rw [hτ, if_neg (Ne.symm xR.1), if_neg (Ne.symm xH.1), if_pos rfl, hw0]
            rintro rfl
            rw [show fd s0 (HW bR bH e0 e1 c0 c1 m) = .gone by
              show fd s0 ((2000, _) :: (2001, _) :: (2002, _) :: (2003, _) :: []) = _
              rw [fd_cons, fd_cons, fd_cons, fd_cons, if_neg (by omega), if_neg (by omega), if_neg (by omega), if_neg (by omega)]; rfl] at q
            cases q
          · obtain rfl : k = 0 := by omega
            exact tell_flat (hc2 i hi)
      · rcases p1 with ⟨_, rfl, _, _⟩ | ⟨_, hw1, _, hE, _, b, gg, ty, hEb, hc1, hc2⟩
        · exact .inl ⟨g1, .inl (by rw [hfd2, if_neg (Ne.symm xR.2), if_neg (Ne.symm xH.2), if_neg (by omega), if_pos rfl])⟩
        · refine .inr (.inr ⟨b, c1', 1, gg, gg, ty, g1, by rw [hτ, if_neg (Ne.symm xR.2), if_neg (Ne.symm xH.2), if_neg (by omega), if_pos rfl, hw1, ← hE, hEb], by rw [hfd2, if_neg (Ne.symm xR.2), if_neg (Ne.symm xH.2), if_neg (by omega), if_pos rfl, hEb], fun t' b' n' sz' g' ty' q => ?_, fun i k hi hk => ?_⟩)
          · rw [hτ, if_neg (Ne.symm xR.2), if_neg (Ne.symm xH.2), if_neg (by omega), if_pos rfl, hw1]
            rintro rfl
            rw [show fd s1 (HW bR bH e0 e1 c0 c1 m) = .gone by
              show fd s1 ((2000, _) :: (2001, _) :: (2002, _) :: (2003, _) :: []) = _
              rw [fd_cons, fd_cons, fd_cons, fd_cons, if_neg (by omega), if_neg (by omega), if_neg (by omega), if_neg (by omega)]; rfl] at q
            cases q
          · obtain rfl : k = 0 := by omega
            exact tell_flat (hc2 i hi)
    · have cases4 : (t = 2000 ∧ b = bR) ∨ (t = 2003 ∧ b = bH) := by
        have q' : fd t ((2000, Ent.blk bR 1 5 (gF m.n m.b 2001 (m.L 0).length c0 2002 (m.L 1).length c1 2003) 68) :: (2001, e0.toRo) :: (2002, e1.toRo) :: (2003, Ent.blk bH m.n 1 (gb m.H) 4) :: []) = .blk b n sz g' ty := q
        rw [fd_cons, fd_cons, fd_cons, fd_cons] at q'
        split at q'
        · rename_i z; cases q'; exact .inl ⟨z, rfl⟩
        · split at q'
          · cases e0 <;> cases q'
          · split at q'
            · cases e1 <;> cases q'
            · split at q'
              · rename_i z; cases q'; exact .inr ⟨z, rfl⟩
              · cases q'
      rcases cases4 with ⟨rfl, rfl⟩ | ⟨rfl, rfl⟩
      · cases (show Ent.blk b 1 5 _ 68 = Ent.blk b n sz g' ty from q)
        exact ⟨memB_iff.2 (by simp [G2, tau]), _, _, f1⟩
      · cases (show Ent.blk b m.n 1 _ 4 = Ent.blk b n sz g' ty from q)
        exact ⟨memB_iff.2 (by simp [G2, tau]), _, _, f3⟩
    · have k1 := memB_iff.1 ht
      have k2 := memB_iff.1 ht'
      simp only [G2, List.map_cons, List.map_nil, List.mem_cons, List.not_mem_nil, or_false] at k1 k2
      have b0 : (w0 = 5000 ∨ (w0 = s0 ∧ s0 < 2000)) := by rcases p0 with ⟨_, _, _, h⟩ | ⟨_, h, h', _⟩; exact .inl h; exact .inr ⟨h, h'⟩
      have b1 : (w1 = 5001 ∨ (w1 = s1 ∧ s1 < 2000)) := by rcases p1 with ⟨_, _, _, h⟩ | ⟨_, h, h', _⟩; exact .inl h; exact .inr ⟨h, h'⟩
      have tR' : tau [(tR, 2000), (tH, 2003), (nx, w0), (nx + 1, w1)] tR = 2000 := by rw [hτ, if_pos rfl]
      have tH' : tau [(tR, 2000), (tH, 2003), (nx, w0), (nx + 1, w1)] tH = 2003 := by rw [hτ, if_neg (Ne.symm d3), if_pos rfl]
      have t0'' : tau [(tR, 2000), (tH, 2003), (nx, w0), (nx + 1, w1)] nx = w0 := by rw [hτ, if_neg (Ne.symm xR.1), if_neg (Ne.symm xH.1), if_pos rfl]
      have t1'' : tau [(tR, 2000), (tH, 2003), (nx, w0), (nx + 1, w1)] (nx + 1) = w1 := by rw [hτ, if_neg (Ne.symm xR.2), if_neg (Ne.symm xH.2), if_neg (by omega), if_pos rfl]
      rcases k1 with rfl | rfl | rfl | rfl <;> rcases k2 with rfl | rfl | rfl | rfl <;> first | exact absurd rfl hne | (simp only [tR', tH', t0'', t1'']; omega)
    · obtain ⟨x, rfl, rx⟩ := he
      exact ⟨x, rfl, flat_rel _ _ hfv rx⟩
end Go.Proofs.YtiihiifcnkfjoaaDoor.Sx

/-
  The document's shelf: a node is taken out of its list.
-/
namespace Go.Proofs.YtiihiifcnkfjoaaDoor.Sx
open Go Go.Proofs
set_option maxRecDepth 100000
set_option linter.unusedSimpArgs false
set_option linter.unusedVariables false

theorem HW.ref {bR bH : Nat} {e0 e1 : Ent} {c0 c1 : Nat} {m : Md} (l0 : lstE e0 (cI (m.L 0)) c0) (l1 : lstE e1 (cI (m.L 1)) c1) : refR (HW bR bH e0 e1 c0 c1 m) (.ptr 2000 0 0) m :=
  ⟨2000, 2001, 2002, 2003, bR, bH, e0, e1, c0, c1, _, _, rfl, rfl, rfl, fun c _ => rfl, by show e0.toRo.toRo = _; cases e0 <;> rfl, l0, by show e1.toRo.toRo = _; cases e1 <;> rfl, l1, rfl, fun i _ => rfl⟩
theorem HW.wk {bR bH : Nat} {e0 e1 : Ent} {c0 c1 : Nat} {m : Md} (l0 : lstE e0 (cI (m.L 0)) c0) (l1 : lstE e1 (cI (m.L 1)) c1) : wkH (tau []) (HW bR bH e0 e1 c0 c1 m) (HW bR bH e0 e1 c0 c1 m) (HW bR bH e0 e1 c0 c1 m) := by
  have v0 : live (HW bR bH e0 e1 c0 c1 m) 2001 := l0.ro_live
  have v1 : live (HW bR bH e0 e1 c0 c1 m) 2002 := l1.ro_live
  exact ⟨⟨rfl, rfl, rfl, rfl, fun i c hi hc => (by obtain rfl : i = 0 := (by omega); exact gF_rn ⟨rfl, v0⟩ ⟨rfl, v1⟩ ⟨rfl, trivial⟩ hc)⟩, l0.ro_wk _ _, l1.ro_wk _ _, ⟨rfl, rfl, rfl, rfl, fun i c hi hc => rfl⟩, trivial⟩
/-- As it was. -/
theorem HW.same {bR bH : Nat} {e0 e1 : Ent} {c0 c1 : Nat} {m : Md} (l0 : lstE e0 (cI (m.L 0)) c0) (l1 : lstE e1 (cI (m.L 1)) c1) : RefOut (HW bR bH e0 e1 c0 c1 m) bR bH e0 e1 c0 c1 m m :=
  ⟨_, _, 2001, c0, 2002, c1, rfl, fun c _ => rfl, rfl, fun i _ => rfl, .inl ⟨rfl, l0⟩, .inl ⟨rfl, l1⟩, by decide⟩
theorem gF_put0 {n b t0 l0 c0 t1 l1 c1 tH t0' l0' c0' : Nat} : ∀ c, c < 5 → putG 5 (gF n b t0 l0 c0 t1 l1 c1 tH) 0 2 [.slice t0' 0 l0' c0'] 0 c = gF n b t0' l0' c0' t1 l1 c1 tH 0 c := by
  intro c hc
  rw [putG_one (by omega) hc]
  match c, hc with
  | 0, _ | 1, _ | 2, _ | 3, _ | 4, _ => simp [gF]
theorem gF_put1 {n b t0 l0 c0 t1 l1 c1 tH t1' l1' c1' : Nat} : ∀ c, c < 5 → putG 5 (gF n b t0 l0 c0 t1 l1 c1 tH) 0 3 [.slice t1' 0 l1' c1'] 0 c = gF n b t0 l0 c0 t1' l1' c1' tH 0 c := by
  intro c hc
  rw [putG_one (by omega) hc]
  match c, hc with
  | 0, _ | 1, _ | 2, _ | 3, _ | 4, _ => simp [gF]

def preROut : List V → Md → Md → V → Prop := fun rest m m' v => ∃ j : Nat, rest = [.int .i64 j] ∧ Ok m ∧ m' = m.out j ∧ v = .tup []
def SPO : SpT := [(19, sFind), (24, sWithoutB), (70, sAt)]
theorem spo : ∀ p ∈ SPO, SpecOK Tryd.prog p.1 p.2 := consSP sFind_ok (consSP sWithoutB_ok (consSP sAt_ok noSP))
theorem rout_ok : SpecOK Tryd.prog 68 (fun args h nx K => ∃ p rest m m' v, args = p :: rest ∧ preROut rest m m' v ∧ rMut h nx K p m m' v) := by
  refine specOK_ref (fn := Tryd.f68) rfl rfl rfl T_ok (SP := SPO) spo preROut ?_ ?_
  · rintro rest m m' v ⟨j, rfl, _, rfl, rfl⟩
    refine ⟨⟨trivial, trivial⟩, trivial, ?_, ?_, by simp [Tryd.f68]⟩
    · unfold Md.out; split <;> rfl
    · unfold Md.out; split <;> rfl
  · rintro rest m m' v bR bH e0 e1 c0 c1 c ⟨j, rfl, hok, rfl, rfl⟩ l0 l1 hc
    have hE := mkE' (fn := Tryd.f68) (R := fun o h1 _ => o = .ret (.tup []) ∧ RefOut h1 bR bH e0 e1 c0 c1 m (m.out j)) hc spo
    have hwk := HW.wk (bR := bR) (bH := bH) l0 l1
    have hl0 := hok.len (q := 0) (by omega)
    have hl1 := hok.len (q := 1) (by omega)
    refine W_seq (nx := 0) ?_
    refine W_to (nx := 0) [(0, .ptr 2000 0 0), (1, .int .i64 j), (4, .int .i64 (m.atZ j))] (HW bR bH e0 e1 c0 c1 m) 30 ?_ ?_
    · refine vc_sound hE 20 _ _ _ 30 ?_
      refine ⟨_, m, j, rfl, HW.ref l0 l1, hok, ?_⟩
      exact ⟨tau [], rfl, ⟨⟨⟨rfl, trivial⟩, rfl, rfl⟩, ⟨rfl, rfl⟩, ⟨rfl, rfl⟩, trivial⟩, hwk⟩
    obtain e | ⟨q, e⟩ : m.at j = none ∨ ∃ q, m.at j = some q := by cases m.at j <;> simp
    · have hz : m.atZ j = -1 := by rw [Md.at_Z, e]
      rw [hz]
      refine vc_sound hE 20 _ _ _ 30 ?_
      rw [out_no e]
      exact ⟨rfl, HW.same l0 l1⟩
    · have hz : m.atZ j = (q : Int) := by rw [Md.at_Z, e]
      obtain ⟨hq, hm⟩ := Md.at_some e
      have ho : m.out j = m.set q ((m.L q).erase j) := by unfold Md.out; rw [e]
      rw [hz]
      have hfd : findI (j : Int) (cI (m.L q)) = ((ix j (m.L q) : Nat) : Int) := by unfold findI; rw [if_pos (mem_c.2 hm), ixZ_c]
      obtain rfl | rfl : q = 0 ∨ q = 1 := by omega
      · -- list 0
        refine vc_sound hE 7 _ _ _ 30 ?_
        refine W_plan hE 31 20 (.take 0 (.take 1 (.take 2 (.take 3 (.take 4 (.take 5 (.take 6 (.take 7 (.take 8 (.take 9 (.take 10 (.take 11 (.take 12 (.take 13 (.take 14 (.take 15 (.take 17 (.take 18 (.all (.cons 16 (.take 19 (.all (.cons 20 (.done) (.nil)))) (.nil))))))))))))))))))))) (by rw [hc]; exact mix) (by kernel_rfl) 30 ?_
        repeat' (first | refine ⟨_, ⟨rfl, rfl⟩, ?_⟩ | fail)
        refine ⟨.int .i64 ((ix j (m.L 0) : Nat) : Int), ⟨_, cI (m.L 0), j, rfl, (show rdL _ (.slice 2001 0 (m.L 0).length c0) _ by rw [← cI_len]; exact l0.rd2 (by show ((e0.toRo).toRo) = e0.toRo; cases e0 <;> rfl)), by rw [cI_len]; omega, (by rw [hfd]; exact ⟨rfl, rfl⟩)⟩, ?_⟩
        refine ⟨_, ⟨rfl, rfl⟩, ?_⟩
        refine ⟨_, ⟨rfl, rfl⟩, ?_⟩
        refine ⟨?_, trivial⟩
        refine ⟨_, cI (m.L 0), ix j (m.L 0), rfl, (show rdL _ (.slice 2001 0 (m.L 0).length c0) _ by rw [← cI_len]; exact l0.rd2 (by show ((e0.toRo)).toRo = e0.toRo; cases e0 <;> rfl)), fun _ _ _ _ q => (by cases q; rw [← cI_len]; exact lst_cap l0), by rw [cI_len]; exact ix_lt hm, by rw [cI_len]; omega, rfl, fun b1 cap1 g1 ty1 p1 p2 p3 => ⟨rfl, rfl, fun i c hi hc => (by obtain rfl : c = 0 := (by omega); exact p3.2 i hi), ?_⟩⟩
        rw [eraseIdx_c hm] at p1 p3 ⊢
        refine ⟨_, ⟨rfl, rfl⟩, ?_⟩
        refine ⟨⟨trivial, ?_⟩, trivial⟩
        rw [ho]
        refine ⟨rfl, ?_⟩
        rw [cI_len] at p1
        exact ⟨_, _, 31, _, 2002, c1, rfl, fun c hc => (by rw [cI_len]; exact gF_put0 c hc), rfl, fun i _ => rfl, .inr ⟨by decide, b1, g1, ty1, rfl, by rw [Md.set_at, cI_len]; exact p1, p2, by rw [Md.set_at]; exact p3⟩, .inl ⟨rfl, l1⟩, by decide⟩
      · -- list 1
        refine vc_sound hE 7 _ _ _ 30 ?_
        refine W_plan hE 31 20 (.take 0 (.take 1 (.take 2 (.take 3 (.take 4 (.take 5 (.take 6 (.take 7 (.take 8 (.take 9 (.take 10 (.take 11 (.take 12 (.take 13 (.take 14 (.take 15 (.take 17 (.take 18 (.all (.cons 16 (.take 19 (.all (.cons 20 (.done) (.nil)))) (.nil))))))))))))))))))))) (by rw [hc]; exact mix) (by kernel_rfl) 30 ?_
        repeat' (first | refine ⟨_, ⟨rfl, rfl⟩, ?_⟩ | fail)
        refine ⟨.int .i64 ((ix j (m.L 1) : Nat) : Int), ⟨_, cI (m.L 1), j, rfl, (show rdL _ (.slice 2002 0 (m.L 1).length c1) _ by rw [← cI_len]; exact l1.rd2 (by show ((e1.toRo).toRo) = e1.toRo; cases e1 <;> rfl)), by rw [cI_len]; omega, (by rw [hfd]; exact ⟨rfl, rfl⟩)⟩, ?_⟩
        refine ⟨_, ⟨rfl, rfl⟩, ?_⟩
        refine ⟨_, ⟨rfl, rfl⟩, ?_⟩
        refine ⟨?_, trivial⟩
        refine ⟨_, cI (m.L 1), ix j (m.L 1), rfl, (show rdL _ (.slice 2002 0 (m.L 1).length c1) _ by rw [← cI_len]; exact l1.rd2 (by show ((e1.toRo)).toRo = e1.toRo; cases e1 <;> rfl)), fun _ _ _ _ q => (by cases q; rw [← cI_len]; exact lst_cap l1), by rw [cI_len]; exact ix_lt hm, by rw [cI_len]; omega, rfl, fun b1 cap1 g1 ty1 p1 p2 p3 => ⟨rfl, rfl, fun i c hi hc => (by obtain rfl : c = 0 := (by omega); exact p3.2 i hi), ?_⟩⟩
        rw [eraseIdx_c hm] at p1 p3 ⊢
        refine ⟨_, ⟨rfl, rfl⟩, ?_⟩
        refine ⟨⟨trivial, ?_⟩, trivial⟩
        rw [ho]
        refine ⟨rfl, ?_⟩
        rw [cI_len] at p1
        exact ⟨_, _, 2001, c0, 31, _, rfl, fun c hc => (by rw [cI_len]; exact gF_put1 c hc), rfl, fun i _ => rfl, .inl ⟨rfl, l0⟩, .inr ⟨by decide, b1, g1, ty1, rfl, by rw [Md.set_at, cI_len]; exact p1, p2, by rw [Md.set_at]; exact p3⟩, by decide⟩
end Go.Proofs.YtiihiifcnkfjoaaDoor.Sx

