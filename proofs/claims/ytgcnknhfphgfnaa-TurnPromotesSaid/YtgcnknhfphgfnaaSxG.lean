import Derived.Test.YtgcnknhfphgfnaaSxF
set_option linter.unusedVariables false
set_option linter.unusedSimpArgs false
/-
  The engine, seventh part: slices of slices, built-ins; every operation that calls no Go function.
-/
namespace Go.Proofs.Ytgcnknhfphgfnaa.Sx
open Go

def optI (σ : Sl) (h : Hp) (x : Option Operand) (K : Option Int → Prop) : Prop :=
  match x with
  | none => K none
  | some x => opnd σ h x fun v => match v with | .int _ n => K (some n) | _ => False

def relI : Option Int → Option Value → Prop
  | none, y => y = none
  | some n, y => ∃ k, y = some (.int k n)
theorem optI_ok {c : Cx} {N : Nat} {σ : Sl} {h : Hp} {a : Act} {w : World} (hm : Match c N σ h a w) {x : Option Operand} {K : Option Int → Prop} (hs : optI σ h x K) : ∃ n, K n ∧ relI n (x.map a.eval) := by
  cases x with
  | none => exact ⟨none, hs, rfl⟩
  | some x =>
    obtain ⟨v, hv, r⟩ := opnd_ok hm (x := x) hs
    split at hv
    · rename_i k n
      exact ⟨some n, hv, k, congrArg some r⟩
    · exact hv.elim

/-- The bounds of a slice expression. -/
def bnds (len cap : Nat) (lo hi mx : Option Int) (K : Nat → Nat → Nat → Prop) : Prop :=
  match mx, hi with
  | none, none => chk (decide (0 ≤ lo.getD 0) && decide (lo.getD 0 ≤ (len : Int))) (K (lo.getD 0).toNat len cap)
  | none, some h => chk (decide (0 ≤ lo.getD 0) && decide (lo.getD 0 ≤ h) && decide (h ≤ (cap : Int))) (K (lo.getD 0).toNat h.toNat cap)
  | some m, some h => chk (decide (0 ≤ lo.getD 0) && decide (lo.getD 0 ≤ h) && decide (h ≤ m) && decide (m ≤ (cap : Int))) (K (lo.getD 0).toNat h.toNat m.toNat)
  | some _, none => False

theorem run_bound {P : Program} {k : IntKind} {n : Int} {y : Nat} {code : BoundsCode} (h0 : 0 ≤ n) (h1 : n ≤ y) (w : World) : (Instr.sliceBound (.int k n) y code).run P w = .ok n.toNat w := by
  simp [Instr.sliceBound, asIntOf, h0, h1]

theorem bnds_ok {P : Program} {isSlice : Bool} {len cap : Nat} {lo hi mx : Option Int} {K : Nat → Nat → Nat → Prop} (hs : bnds len cap lo hi mx K) {x y z : Option Value} (hx : relI lo x) (hy : relI hi y) (hz : relI mx z) (w : World) :
    ∃ l h m, K l h m ∧ l ≤ h ∧ ((hi = none ∧ mx = none ∧ h = len ∧ m = cap) ∨ (h ≤ m ∧ m ≤ cap)) ∧ (Instr.sliceBounds isSlice len cap x y z).run P w = .ok (l, h, m) w := by
  unfold bnds at hs
  have lower : ∀ (h m : Nat) (code : BoundsCode), 0 ≤ lo.getD 0 → lo.getD 0 ≤ (h : Int) → (match x with | some v => (do let l ← Instr.sliceBound v h code; pure (l, h, m) : Sem (Nat × Nat × Nat)) | none => (do let l ← pure 0; pure (l, h, m))).run P w = .ok ((lo.getD 0).toNat, h, m) w := by
    intro h m code h0 h1
    cases lo with
    | none => obtain rfl := hx; rfl
    | some n =>
      obtain ⟨k, rfl⟩ := hx
      simp only [Sem.run_bind, run_bound (P := P) (show 0 ≤ n from h0) (show n ≤ (h : Int) from h1), Result.andThen_ok, Sem.run_pure]
      rfl
  split at hs
  · obtain rfl := hz; obtain rfl := hy
    obtain ⟨h1, hs⟩ := chk_spec hs
    simp only [Bool.and_eq_true, decide_eq_true_eq] at h1
    refine ⟨_, _, _, hs, by omega, .inl ⟨rfl, rfl, rfl, rfl⟩, ?_⟩
    simp only [Instr.sliceBounds, Sem.run_bind, Sem.run_pure, Result.andThen_ok, Option.isSome_none]
    exact lower len cap _ h1.1 h1.2
  · rename_i h
    obtain rfl := hz; obtain ⟨k, rfl⟩ := hy
    obtain ⟨h1, hs⟩ := chk_spec hs
    simp only [Bool.and_eq_true, decide_eq_true_eq] at h1
    obtain ⟨⟨a1, a2⟩, a3⟩ := h1
    refine ⟨_, _, _, hs, by omega, .inr ⟨by omega, Nat.le_refl _⟩, ?_⟩
    simp only [Instr.sliceBounds, Sem.run_bind, Sem.run_pure, Result.andThen_ok, Option.isSome_none, run_bound (show 0 ≤ h by omega) a3]
    exact lower h.toNat cap _ a1 (by omega)
  · rename_i m h
    obtain ⟨k', rfl⟩ := hz; obtain ⟨k, rfl⟩ := hy
    obtain ⟨h1, hs⟩ := chk_spec hs
    simp only [Bool.and_eq_true, decide_eq_true_eq] at h1
    obtain ⟨⟨⟨a1, a2⟩, a3⟩, a4⟩ := h1
    refine ⟨_, _, _, hs, by omega, .inr ⟨by omega, by omega⟩, ?_⟩
    simp only [Instr.sliceBounds, Sem.run_bind, Sem.run_pure, Result.andThen_ok, Option.isSome_some, run_bound (show 0 ≤ m by omega) a4, run_bound (show 0 ≤ h by omega) (show h ≤ (m.toNat : Int) by omega)]
    exact lower h.toNat m.toNat _ a1 (by omega)
  · exact hs.elim

def sliceV (T : Tab) (hp : Hp) (t : Nat) (v : V) (lo hi mx : Option Int) (K : V → Prop) : Prop :=
  match look t T with
  | some ti => (match v with
    | .slice tag i len cap => chk (Nat.beq ti.kd 7) (match look ti.el T with
      | some te => szOf hp tag fun sz => chk (Nat.beq te.n sz) (bnds len cap lo hi mx fun l h m => K (.slice tag (match Nat.beq m l with | true => i | false => addI i l) (h - l) (m - l)))
      | none => False)
    | .nils => chk (Nat.beq ti.kd 7) (match look ti.el T with
      | some te => bnds 0 0 lo hi mx fun l h m => K .nils
      | none => False)
    | .ptr tag i c => chk (Nat.beq ti.kd 5 || Nat.beq ti.kd 6) (match look ti.el T with
      | some te => szOf hp tag fun sz => chk (Nat.beq te.n sz && Nat.beq c 0) (bnds ti.len ti.len lo hi mx fun l h m => K (.slice tag (match Nat.beq m l with | true => i | false => addI i l) (h - l) (m - l)))
      | none => False)
    | _ => False)
  | none => False

theorem beq_cases (m l i j : Nat) : (match Nat.beq m l with | true => i | false => j) = if m = l then i else j := by
  by_cases h : m = l
  · subst h; simp
  · rw [beq_ne h, if_neg h]

theorem slice_place {base : Option Addr} {i sz l m : Nat} : (base.map fun a => a.add ((if m = l then i else i + l) * sz)) = (if m = l then (base.map fun a => a.add (i * sz)) else (base.map fun a => a.add (i * sz)).map (·.add (l * sz))) := by
  split
  · rfl
  · cases base with
    | none => rfl
    | some a => simp [add_add, Nat.add_mul]

theorem sliceV_ok {P : Program} {T : Tab} (hT : TabOK P T) {t : Nat} {v : V} {lo hi mx : Option Int} {hp : Hp} {K : V → Prop} (hs : sliceV T hp t v lo hi mx K) {x : Value} (rx : vrel hp v x) {xl xh xm : Option Value} (hl : relI lo xl) (hh : relI hi xh) (hm : relI mx xm) (w : World) :
    ∃ r z, K r ∧ vrel hp r z ∧ (Instr.sliceAt t x xl xh xm).run P w = .ok z w := by
  unfold sliceV at hs
  split at hs
  · rename_i ti ht
    obtain ⟨d, hd, _, _, _, _, k5, k7⟩ := ty_kd hT ht
    split at hs
    · rename_i tag i len cap
      obtain ⟨h1, hs1⟩ := chk_spec hs
      clear hs
      obtain ⟨e, rfl⟩ := k7 (Nat.eq_of_beq_eq_true h1)
      have e2 := ty_slice hT ht hd
      subst e2
      split at hs1
      · rename_i te hte
        obtain ⟨base, sz, hrf, hs2⟩ := szOf_ok hs1
        obtain ⟨h2, hs3⟩ := chk_spec hs2
        clear hs1 hs2
        have h2 : te.n = sz := Nat.eq_of_beq_eq_true h2
        subst h2
        obtain ⟨base', sz', hrf', rfl, hsome⟩ := rx
        rw [hrf] at hrf'
        injection hrf' with hrf'
        injection hrf' with hb hsz
        subst hb
        obtain ⟨l, h, m, hk, hle, hbd, hrun⟩ := bnds_ok (P := P) (isSlice := true) hs3 hl hh hm w
        rw [beq_cases, addI_eq] at hk
        refine ⟨_, .slice (if m = l then (base.map fun a => a.add (i * te.n)) else (base.map fun a => a.add (i * te.n)).map (·.add (l * te.n))) (h - l) (m - l), hk, ⟨base, te.n, hrf, by rw [slice_place], ?_⟩, ?_⟩
        · rcases hsome with hb | ⟨h0, h0'⟩
          · exact .inl hb
          · right
            rcases hbd with ⟨_, _, rfl, rfl⟩ | ⟨b1, b2⟩ <;> omega
        · simp only [Instr.sliceAt, Instr.slice, Sem.run_bind, run_underlying hd, Result.andThen_ok, ← hsz, hrun, run_size hT hte, Sem.run_pure]
      · exact hs1.elim
    · obtain ⟨h1, hs1⟩ := chk_spec hs
      clear hs
      obtain ⟨e, rfl⟩ := k7 (Nat.eq_of_beq_eq_true h1)
      have e2 := ty_slice hT ht hd
      subst e2
      split at hs1
      · rename_i te hte
        obtain rfl := rx
        obtain ⟨l, h, m, hk, hle, hbd, hrun⟩ := bnds_ok (P := P) (isSlice := true) hs1 hl hh hm w
        have : l = 0 ∧ h = 0 ∧ m = 0 := by rcases hbd with ⟨_, _, rfl, rfl⟩ | ⟨b1, b2⟩ <;> omega
        obtain ⟨rfl, rfl, rfl⟩ := this
        refine ⟨_, .slice none 0 0, hk, rfl, ?_⟩
        simp [Instr.sliceAt, Instr.slice, Sem.run_bind, run_underlying hd, Result.andThen_ok, hrun, run_size hT hte, Sem.run_pure]
      · exact hs1.elim
    · rename_i tag i c
      obtain ⟨h1, hs1⟩ := chk_spec hs
      clear hs
      obtain ⟨n, e, rfl⟩ := k5 (or_beq h1)
      obtain ⟨e1, e2, _⟩ := ty_array hT ht hd
      subst e1 e2
      split at hs1
      · rename_i te hte
        obtain ⟨base, sz, hrf, hs2⟩ := szOf_ok hs1
        obtain ⟨h2, hs3⟩ := chk_spec hs2
        clear hs1 hs2
        simp only [Bool.and_eq_true] at h2
        have b1 : te.n = sz := Nat.eq_of_beq_eq_true h2.1
        have b2 : c = 0 := Nat.eq_of_beq_eq_true h2.2
        subst b1 b2
        obtain ⟨ad, sz', hrf', rfl⟩ := rx
        rw [hrf] at hrf'
        injection hrf' with hrf'
        injection hrf' with hb hsz
        subst hb
        obtain ⟨l, h, m, hk, hle, hbd, hrun⟩ := bnds_ok (P := P) (isSlice := false) hs3 hl hh hm w
        rw [beq_cases, addI_eq] at hk
        refine ⟨_, .slice (some (if m = l then ad.add (i * te.n + 0) else (ad.add (i * te.n + 0)).add (l * te.n))) (h - l) (m - l), hk, ⟨some ad, te.n, hrf, ?_, .inl rfl⟩, ?_⟩
        · rw [slice_place]
          split <;> simp
        · have hsur : ∀ w, (Instr.sureAddr (.pointer (some (ad.add (i * te.n + 0))))).run P w = .ok (ad.add (i * te.n + 0)) w := fun _ => rfl
          simp only [Instr.sliceAt, Sem.run_bind, run_underlying hd, Result.andThen_ok, ← hsz, hsur, hrun, run_size hT hte, Sem.run_pure]
      · exact hs1.elim
    · exact hs.elim
  · exact hs.elim

end Go.Proofs.Ytgcnknhfphgfnaa.Sx
