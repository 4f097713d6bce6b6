import Derived.Test.YtgcnknhfphgfnaaSxA
set_option linter.unusedVariables false
set_option linter.unusedSimpArgs false
/-
  The engine, second part: what each operation does to what is known.
-/
namespace Go.Proofs.Ytgcnknhfphgfnaa.Sx
open Go

/-! ### Types -/
structure TI where
  n : Nat
  agg : Bool
  flds : List (Nat × Nat × Bool)
  vn : Nat
  vsz : Nat
  el : Nat
  len : Nat
  zero : List V
  ik : IntKind
  cks : List Nat   -- of a struct or an array of plain cells: each cell's kind (1: bool, 2: int, 3: string)
  kd : Nat   -- 1: bool, 2: int, 3: string, 4: struct of plain cells, 5: array of plain cells, 0: other

def isAggB : TypeDesc → Bool
  | .struct _ => true
  | .array _ _ => true
  | _ => false

/-- A type of one cell that is compared as it stands. -/
def kindT (P : Program) (t : Nat) : Nat := match P.underlying t with | some .bool => 1 | some (.int _) => 2 | some .string => 3 | _ => 0
def kdB (ti : TI) (d : TypeDesc) : Bool :=
  match ti.kd, d with
  | 1, .bool => true
  | 2, .int k => ti.ik == k
  | 3, .string => true
  | 4, .struct _ => true
  | 5, .array _ _ => true
  | 6, .array _ _ => true
  | 7, .slice _ => true
  | 8, .struct _ => true
  | 9, .float k => k == .f64
  | 10, .pointer _ => true
  | 11, .map _ _ => true
  | 0, _ => true
  | _, _ => false
/-- A type of whole numbers, which are 0 at first. -/
def i64B (P : Program) (t : Nat) : Bool := (match P.underlying t with | some (.int .i64) => true | _ => false) && (match (P.info? t).bind (·.zero) with | some (.int .i64 n) => n == 0 | _ => false)
theorem i64B_ok {P : Program} {t : Nat} (h : i64B P t = true) : P.underlying t = some (.int .i64) ∧ ∃ i, P.info? t = some i ∧ i.zero = some (.int .i64 0) := by
  unfold i64B at h
  simp only [Bool.and_eq_true] at h
  obtain ⟨h1, h2⟩ := h
  refine ⟨?_, ?_⟩
  · split at h1
    · rename_i q; exact q
    · cases h1
  · split at h2
    · rename_i n q
      cases e : P.info? t with
      | none => rw [e] at q; cases q
      | some i =>
        rw [e] at q
        refine ⟨i, rfl, ?_⟩
        have q : i.zero = some (.int .i64 n) := q
        rw [q, eq_of_beq h2]
    · cases h2
/-- A type of plain cells, or of a struct or array of such: what it is at first. -/
def zflB (P : Program) (t : Nat) : Bool := match P.underlying t, (P.info? t).bind (·.zero) with
  | some d, some (.agg cs) => isAggB d && cs.toList.all fun c => match c with | .bool _ => true | .int _ _ => true | _ => false
  | some d, some (.int _ _) => !(isAggB d)
  | some d, some (.bool _) => !(isAggB d)
  | _, _ => false
def tyB (P : Program) (t : Nat) (ti : TI) : Bool :=
  match P.info? t, P.underlying t with
  | some i, some d => i.size == ti.n && (isAggB d == ti.agg) && (ti.vn * ti.vsz == ti.n) && (match d with
      | .struct fs => (fs.toList.map (fun f => (f.offset, P.cellsOf f.type, ((P.underlying f.type).map isAggB).getD false)) == ti.flds) && fs.toList.all (fun f => P.cellsOf f.type != 0 && (P.info? f.type).isSome && (P.underlying f.type).isSome) && (ti.kd != 4 || (!P.stoodInHeld t && !P.eqGuardType P.depth t && fs.toList.all (fun f => f.name != "_" && P.cellsOf f.type == 1) && (fs.toList.map (·.offset) == List.range fs.toList.length) && (fs.toList.map (fun f => kindT P f.type) == ti.cks) && !ti.cks.contains 0))
      | .array n e => n == ti.len && e == ti.el && (ti.kd != 5 || (!P.eqGuardType P.depth t && (P.info? e).isSome && P.cellsOf e == 1 && (List.replicate n (kindT P e) == ti.cks) && !ti.cks.contains 0))
      | .map k e => ti.kd != 11 || (i64B P k && e == ti.el && zflB P e)
      | .slice e => e == ti.el && ((P.info? e).map fun i => decide (i.bytes ≤ 1048576)).getD false
      | _ => true) && kdB ti d
  | _, _ => false

def ZeroOK (P : Program) (t : Nat) (z : List V) : Prop := ∃ i v, P.info? t = some i ∧ i.zero = some v ∧ vrelL [] z v.cells.toList
abbrev Tab := List (Nat × TI)
def look (t : Nat) : Tab → Option TI
  | [] => none
  | (u, x) :: r => match t.beq u with | true => some x | false => look t r
def TabOK (P : Program) (T : Tab) : Prop := (∀ p ∈ T, tyB P p.1 p.2 = true) ∧ ∀ p ∈ T, p.2.zero.length = p.2.n → ZeroOK P p.1 p.2.zero

theorem look_mem : ∀ {T : Tab} {t : Nat} {ti : TI}, look t T = some ti → (t, ti) ∈ T
  | [], _, _, h => by simp [look] at h
  | (u, x) :: r, t, ti, h => by
    unfold look at h
    by_cases e : t = u
    · subst e
      simp at h
      subst h
      exact List.mem_cons_self ..
    · rw [beq_ne e] at h
      exact List.mem_cons_of_mem _ (look_mem h)

/-! ### Small words -/
def chk (b : Bool) (K : Prop) : Prop := match b with | true => K | false => False
theorem chk_spec {b : Bool} {K : Prop} (h : chk b K) : b = true ∧ K := by cases b with | true => exact ⟨rfl, h⟩ | false => exact h.elim
theorem chk_ok {b : Bool} {K : Prop} (h : b = true) (k : K) : chk b K := by subst h; exact k
def br (b : Bool) (A B : Prop) : Prop := match b with | true => A | false => B
theorem br_t {b : Bool} {A B : Prop} (h : b = true) (k : A) : br b A B := by subst h; exact k
theorem br_f {b : Bool} {A B : Prop} (h : b = false) (k : B) : br b A B := by subst h; exact k
theorem br_both {b : Bool} {A B : Prop} (h : b = true → A) (k : b = false → B) : br b A B := by cases b with | true => exact h rfl | false => exact k rfl
def addI (i j : Nat) : Nat := match i with | 0 => j | n + 1 => n + 1 + j
theorem addI_eq (i j : Nat) : addI i j = i + j := by cases i <;> simp [addI]

def opnd (σ : Sl) (h : Hp) (x : Operand) (K : V → Prop) : Prop :=
  match x with
  | .tmp t => (match lk t σ with | some v => force v K | none => False)
  | .const v => K (ofConst v)
  | .global g => (match fd (1000 + g) h with | .ro (some ⟨g', 0, none⟩) _ _ _ => chk (g.beq g') (K (.ptr (1000 + g) 0 0)) | _ => False)
  | .func f => K (.fn (.func f) [] [])

def opnds (σ : Sl) (h : Hp) : List Operand → (List V → Prop) → Prop
  | [], K => K []
  | x :: xs, K => opnd σ h x fun v => opnds σ h xs fun vs => K (v :: vs)

theorem opnd_ok {c : Cx} {N : Nat} {σ : Sl} {h : Hp} {a : Act} {w : World} (hm : Match c N σ h a w) {x : Operand} {K : V → Prop} (hs : opnd σ h x K) : ∃ v, K v ∧ vrel h v (a.eval x) := by
  cases x with
  | tmp t =>
    unfold opnd at hs
    simp only at hs
    cases e : lk t σ with
    | none => rw [e] at hs; exact hs.elim
    | some v => rw [e] at hs; simp only at hs; rw [force_eq] at hs; exact ⟨v, hs, hm.slots t v e⟩
  | const v => exact ⟨_, hs, vrel_const h v⟩
  | global g =>
    unfold opnd at hs
    simp only at hs
    split at hs
    · rename_i g' n sz gg he
      obtain ⟨h1, h2⟩ := chk_spec hs
      have : g = g' := Nat.eq_of_beq_eq_true h1
      subst this
      exact ⟨_, h2, ⟨g, 0, none⟩, sz, by rw [he]; rfl, by simp [Act.eval, add_plain]⟩
    · exact hs.elim
  | func f => exact ⟨_, hs, [], [], rfl, rfl, rfl⟩

theorem opnds_ok {c : Cx} {N : Nat} {σ : Sl} {h : Hp} {a : Act} {w : World} (hm : Match c N σ h a w) : ∀ {xs : List Operand} {K : List V → Prop}, opnds σ h xs K → ∃ vs, K vs ∧ vrelL h vs (xs.map a.eval)
  | [], K, hs => ⟨[], hs, rfl⟩
  | x :: xs, K, hs => by
    obtain ⟨v, h1, r⟩ := opnd_ok hm (x := x) hs
    obtain ⟨vs, h2, rs⟩ := opnds_ok hm h1
    exact ⟨v :: vs, h2, vrelL_cons r rs⟩

def cellsV : V → Option (List V)
  | .agg l => some l
  | .raw _ => none
  | v => some [v]
theorem cellsV_ok {h : Hp} {v : V} {l : List V} (e : cellsV v = some l) {x : Value} (r : vrel h v x) : vrelL h l x.cells.toList := by
  cases v with
  | agg l' => simp [cellsV] at e; subst e; obtain ⟨xs, rfl, hx⟩ := r; simpa [Value.cells] using hx
  | raw v => simp [cellsV] at e
  | ptr t i c => simp [cellsV] at e; subst e; obtain ⟨b, s, e1, rfl⟩ := r; exact vrelL_cons ⟨b, s, e1, rfl⟩ rfl
  | slice t i l c => simp [cellsV] at e; subst e; obtain ⟨b, s, e1, rfl, e3⟩ := r; exact vrelL_cons ⟨b, s, e1, rfl, e3⟩ rfl
  | map t => simp [cellsV] at e; subst e; obtain ⟨b, e1, rfl⟩ := r; exact vrelL_cons ⟨b, e1, rfl⟩ rfl
  | fn f a b => simp [cellsV] at e; subst e; obtain ⟨xs, ys, rfl, h1, h2⟩ := r; exact vrelL_cons ⟨xs, ys, rfl, h1, h2⟩ rfl
  | iface t v => simp [cellsV] at e; subst e; obtain ⟨y, rfl, h1⟩ := r; exact vrelL_cons ⟨y, rfl, h1⟩ rfl
  | tup l => simp [cellsV] at e; subst e; obtain ⟨xs, rfl, h1⟩ := r; exact vrelL_cons ⟨xs, rfl, h1⟩ rfl
  | _ => simp [cellsV] at e; subst e; obtain rfl := r; exact vrelL_cons rfl rfl

/-- The element i, its cell c, of some values that lie one behind the other. -/
def gOf (sz : Nat) (l : List V) : Nat → Nat → V := fun i c => match l[i * sz + c]? with | some v => v | none => und

theorem gOf_cells {h : Hp} {n sz : Nat} {l : List V} {xs : List Value} (hl : l.length = n * sz) (r : vrelL h l xs) : ∀ i k, i < n → k < sz → ∃ x, xs[i * sz + k]? = some x ∧ vrel h (gOf sz l i k) x := by
  intro i k hi hk
  have h1 : i * sz + k < l.length := by
    have : (i + 1) * sz ≤ n * sz := Nat.mul_le_mul_right _ hi
    rw [Nat.add_mul] at this; omega
  obtain ⟨x, e, rx⟩ := vrelL_at r (i * sz + k) l[i * sz + k] (List.getElem?_eq_getElem h1)
  refine ⟨x, e, ?_⟩
  unfold gOf
  rw [List.getElem?_eq_getElem h1]
  exact rx

/-- m cells from element i, cell c on. -/
def cellsFrom (sz : Nat) (g : Nat → Nat → V) (i : Nat) : Nat → Nat → List V
  | c, 0 => []
  | c, m + 1 => g (i + c / sz) (c % sz) :: cellsFrom sz g i (c + 1) m
theorem cellsFrom_length (sz : Nat) (g : Nat → Nat → V) (i : Nat) : ∀ m c, (cellsFrom sz g i c m).length = m
  | 0, _ => rfl
  | m + 1, c => by simp [cellsFrom, cellsFrom_length sz g i m (c + 1)]
theorem cellsFrom_at (sz : Nat) (g : Nat → Nat → V) (i : Nat) : ∀ m c j, j < m → (cellsFrom sz g i c m)[j]? = some (g (i + (c + j) / sz) ((c + j) % sz))
  | 0, _, j, h => by omega
  | m + 1, c, 0, _ => by simp [cellsFrom]
  | m + 1, c, j + 1, h => by
    simp only [cellsFrom, List.getElem?_cons_succ]
    rw [cellsFrom_at sz g i m (c + 1) j (by omega), show c + 1 + j = c + (j + 1) from by omega]

/-- Where a part goes. -/
def splice (o : Nat) (new cs : List V) : List V := cs.take o ++ new ++ cs.drop (o + new.length)

def getM (h : Hp) (tag : Nat) (K : Nat → Nat → (Nat → Nat → V) → Prop) : Prop :=
  match fd tag h with
  | .blk _ n sz g _ => K n sz g
  | .ro _ n sz g => K n sz g
  | .mp _ _ | .rmp _ _ | .it _ _ _ _ _ | .gone => False

/-- What the memory behind a tag tells of its cells. -/
theorem getM_ok {c : Cx} {h : Hp} {w : World} (hr : Rel c h w) {tag : Nat} {K : Nat → Nat → (Nat → Nat → V) → Prop} (hs : getM h tag K) :
    ∃ n sz g base, K n sz g ∧ (fd tag h).rf = some (.mem base sz) ∧ ∀ k, k < n * sz → ∃ ad x, base = some ad ∧ w.cell? (ad.add k) = some x ∧ vrel h (g (k / sz) (k % sz)) x := by
  have H := hr.holds tag
  unfold getM at hs
  cases e : fd tag h with
  | blk b n sz g t =>
    rw [e] at hs H
    obtain ⟨⟨cs, h1, h2, h3⟩, _⟩ := H
    refine ⟨n, sz, g, some ⟨b, 0, none⟩, hs, rfl, fun k hk => ?_⟩
    have hs0 : 0 < sz := by rcases Nat.eq_zero_or_pos sz with h0 | h0; (subst h0; simp at hk); exact h0
    obtain ⟨x, ex, rx⟩ := h3 (k / sz) (k % sz) (Nat.div_lt_of_lt_mul (by rw [Nat.mul_comm]; exact hk)) (Nat.mod_lt _ hs0)
    rw [show k / sz * sz + k % sz = k from by rw [Nat.mul_comm]; exact Nat.div_add_mod k sz] at ex
    refine ⟨_, x, rfl, ?_, rx⟩
    rw [add_plain]
    simp only [World.cell?, h1]
    simpa using ex
  | ro base n sz g =>
    rw [e] at hs H
    refine ⟨n, sz, g, base, hs, rfl, fun k hk => ?_⟩
    have hs0 : 0 < sz := by rcases Nat.eq_zero_or_pos sz with h0 | h0; (subst h0; simp at hk); exact h0
    obtain ⟨ad, x, eb, hc, rx⟩ := Ent.ro_cell hr.fr H (Nat.div_lt_of_lt_mul (by rw [Nat.mul_comm]; exact hk)) (Nat.mod_lt k hs0)
    rw [show k / sz * sz + k % sz = k from by rw [Nat.mul_comm]; exact Nat.div_add_mod k sz] at hc
    exact ⟨ad, x, eb, hc, rx⟩
  | mp => rw [e] at hs; exact hs.elim
  | rmp => rw [e] at hs; exact hs.elim
  | it => rw [e] at hs; exact hs.elim
  | gone => rw [e] at hs; exact hs.elim

/-! ### Types: what the table says -/
section types
variable {P : Program} {T : Tab} (hT : TabOK P T) {t : Nat} {ti : TI} (ht : look t T = some ti) (w : World)
include hT ht
theorem ty_info : ∃ i d, P.info? t = some i ∧ P.underlying t = some d ∧ i.size = ti.n ∧ isAggB d = ti.agg ∧ ti.vn * ti.vsz = ti.n := by
  have h := hT.1 _ (look_mem ht)
  unfold tyB at h
  simp only at h
  split at h
  · rename_i i d hi hd
    simp only [Bool.and_eq_true, beq_iff_eq] at h
    exact ⟨i, d, hi, hd, h.1.1.1.1, h.1.1.1.2, h.1.1.2⟩
  · cases h
theorem ty_struct {fs : Array Field} (hd : P.underlying t = some (.struct fs)) : fs.toList.map (fun f => (f.offset, P.cellsOf f.type, ((P.underlying f.type).map isAggB).getD false)) = ti.flds ∧
    (∀ f ∈ fs.toList, P.cellsOf f.type ≠ 0 ∧ (P.info? f.type).isSome ∧ (P.underlying f.type).isSome) ∧ (ti.kd = 4 → P.stoodInHeld t = false ∧ P.eqGuardType P.depth t = false ∧ (∀ f ∈ fs.toList, f.name ≠ "_" ∧ P.cellsOf f.type = 1) ∧ fs.toList.map (·.offset) = List.range fs.toList.length ∧ fs.toList.map (fun f => kindT P f.type) = ti.cks ∧ ¬ 0 ∈ ti.cks) := by
  have h := hT.1 _ (look_mem ht)
  unfold tyB at h
  simp only at h
  split at h
  · rename_i i d hi hd'
    rw [hd] at hd'
    injection hd' with hd'
    subst hd'
    simp only [Bool.and_eq_true, beq_iff_eq, List.all_eq_true, bne_iff_ne, Bool.or_eq_true, Bool.not_eq_true'] at h
    obtain ⟨⟨_, h⟩, _⟩ := h
    obtain ⟨⟨h1, h2⟩, h3⟩ := h
    refine ⟨h1, fun f hf => ⟨(h2 f hf).1.1, (h2 f hf).1.2, (h2 f hf).2⟩, fun hk => ?_⟩
    obtain ⟨⟨⟨⟨⟨a1, a2⟩, a3⟩, a4⟩, a5⟩, a6⟩ := h3.resolve_left (fun e => e hk)
    exact ⟨a1, a2, a3, a4, a5, by simpa using a6⟩
  · cases h
theorem ty_array {n : Nat} {e : TypeId} (hd : P.underlying t = some (.array n e)) : n = ti.len ∧ e = ti.el ∧ (ti.kd = 5 → P.eqGuardType P.depth t = false ∧ (P.info? e).isSome ∧ P.cellsOf e = 1 ∧ List.replicate n (kindT P e) = ti.cks ∧ ¬ 0 ∈ ti.cks) := by
  have h := hT.1 _ (look_mem ht)
  unfold tyB at h
  simp only at h
  split at h
  · rename_i i d hi hd'
    rw [hd] at hd'
    injection hd' with hd'
    subst hd'
    simp only [Bool.and_eq_true, beq_iff_eq, Bool.or_eq_true, bne_iff_ne, Bool.not_eq_true'] at h
    obtain ⟨⟨_, h⟩, _⟩ := h
    refine ⟨h.1.1, h.1.2, fun hk => ?_⟩
    obtain ⟨⟨⟨⟨a1, a2⟩, a3⟩, a4⟩, a5⟩ := h.2.resolve_left (fun e => e hk)
    exact ⟨a1, a2, a3, a4, by simpa using a5⟩
  · cases h
theorem ty_slice {e : TypeId} (hd : P.underlying t = some (.slice e)) : e = ti.el := by
  have h := hT.1 _ (look_mem ht)
  unfold tyB at h
  simp only at h
  split at h
  · rename_i i d hi hd'
    rw [hd] at hd'
    injection hd' with hd'
    subst hd'
    simp only [Bool.and_eq_true, beq_iff_eq] at h
    exact h.1.2.1
  · cases h
theorem ty_bytes {e : TypeId} (hd : P.underlying t = some (.slice e)) : ∃ i, P.info? e = some i ∧ i.bytes ≤ 1048576 := by
  have h := hT.1 _ (look_mem ht)
  unfold tyB at h
  simp only at h
  split at h
  · rename_i i d hi hd'
    rw [hd] at hd'
    injection hd' with hd'
    subst hd'
    simp only [Bool.and_eq_true, beq_iff_eq] at h
    have h := h.1.2.2
    cases e : P.info? e with
    | none => rw [e] at h; cases h
    | some i => rw [e] at h; exact ⟨i, rfl, by simpa using h⟩
  · cases h
theorem ty_kd : ∃ d, P.underlying t = some d ∧ (ti.kd = 1 → d = .bool) ∧ (ti.kd = 2 → d = .int ti.ik) ∧ (ti.kd = 3 → d = .string) ∧ (ti.kd = 4 ∨ ti.kd = 8 → ∃ fs, d = .struct fs) ∧ (ti.kd = 5 ∨ ti.kd = 6 → ∃ n e, d = .array n e) ∧ (ti.kd = 7 → ∃ e, d = .slice e) := by
  have h := hT.1 _ (look_mem ht)
  unfold tyB at h
  simp only at h
  split at h
  · rename_i i d hi hd'
    simp only [Bool.and_eq_true] at h
    have h5 := h.2
    unfold kdB at h5
    refine ⟨d, hd', fun hk => ?_, fun hk => ?_, fun hk => ?_, fun hk => ?_, fun hk => ?_, fun hk => ?_⟩
    all_goals (try rcases hk with hk | hk)
    all_goals (rw [hk] at h5; cases d <;> simp_all)
  · cases h
theorem ty_map (hk : ti.kd = 11) : ∃ k, P.underlying t = some (.map k ti.el) ∧ P.underlying k = some (.int .i64) ∧ zflB P ti.el = true := by
  have h := hT.1 _ (look_mem ht)
  unfold tyB at h
  simp only at h
  split at h
  · rename_i i d hi hd'
    simp only [Bool.and_eq_true] at h
    have h5 := h.2
    unfold kdB at h5
    rw [hk] at h5
    cases d with
    | map k e =>
      have h6 := h.1.2
      simp only [hk, Bool.and_eq_true, Bool.or_eq_true, bne_self_eq_false, beq_iff_eq] at h6
      have h6 := h6.resolve_left (by simp)
      obtain ⟨⟨h7, rfl⟩, h8⟩ := h6
      exact ⟨k, hd', (i64B_ok h7).1, h8⟩
    | _ => simp at h5
  · cases h
theorem ty_flt (hk : ti.kd = 9) : P.underlying t = some (.float .f64) := by
  have h := hT.1 _ (look_mem ht)
  unfold tyB at h
  simp only at h
  split at h
  · rename_i i d hi hd'
    simp only [Bool.and_eq_true] at h
    have h5 := h.2
    unfold kdB at h5
    rw [hk] at h5
    cases d <;> simp_all
  · cases h
theorem ty_ptr (hk : ti.kd = 10) : P.underlying t = some (.pointer (P.pointee t)) := by
  have h := hT.1 _ (look_mem ht)
  unfold tyB at h
  simp only at h
  split at h
  · rename_i i d hi hd'
    simp only [Bool.and_eq_true] at h
    have h5 := h.2
    unfold kdB at h5
    rw [hk] at h5
    cases d <;> simp_all [Program.pointee]
  · cases h
theorem run_size : (sizeOf t).run P w = .ok ti.n w := by
  obtain ⟨i, d, hi, hd, h1, _, _⟩ := ty_info hT ht
  simp [sizeOf, typeInfo, hi, h1]
theorem run_agg : (isAgg t).run P w = .ok ti.agg w := by
  obtain ⟨i, d, hi, hd, h1, h2, _⟩ := ty_info hT ht
  rw [← h2]
  simp only [isAgg, underlying, Sem.run_bind, run_program, Result.andThen_ok, hd, Sem.run_pure]
  cases d <;> rfl
theorem cells_of : P.cellsOf t = ti.n := by
  obtain ⟨i, d, hi, hd, h1, _⟩ := ty_info hT ht
  simp [Program.cellsOf, hi, h1]
omit hT ht in
theorem run_under {d : TypeDesc} (hd : P.underlying t = some d) : (underlying t).run P w = .ok d w := by
  simp [underlying, hd]
theorem run_zero (hz : ti.zero.length = ti.n) : ∃ v, (zeroValue t).run P w = .ok v w ∧ vrelL [] ti.zero v.cells.toList := by
  obtain ⟨i, v, hi, hv, hr⟩ := hT.2 _ (look_mem ht) hz
  exact ⟨v, by simp [zeroValue, typeInfo, hi, hv], hr⟩
end types

/-- What a key that is not there gives. -/
def zeroV (te : TI) : V := match te.agg with | true => .agg te.zero | false => (match te.zero with | [v] => v | _ => und)
theorem run_zeroV {P : Program} {T : Tab} (hT : TabOK P T) {t : Nat} {te : TI} (ht : look t T = some te) (hz : te.zero.length = te.n) (hf : zflB P t = true) (w : World) : ∃ v, (zeroValue t).run P w = .ok v w ∧ ∀ h, vrel h (zeroV te) v := by
  obtain ⟨i, d, hi, hd, h1, h2, _⟩ := ty_info hT ht
  obtain ⟨i', v, hi', hv, hr⟩ := hT.2 _ (look_mem ht) hz
  have hi' : P.info? t = some i' := hi'
  rw [hi] at hi'
  cases hi'
  have hr : vrelL [] te.zero v.cells.toList := hr
  refine ⟨v, by simp [zeroValue, typeInfo, hi, hv], fun h => ?_⟩
  have hr2 : vrelL h te.zero v.cells.toList := vrelL_mono (fun t r e => by simp [fd, Ent.rf] at e) _ _ hr
  unfold zflB at hf
  rw [hd, hi] at hf
  simp only [Option.bind_some, hv] at hf
  unfold zeroV
  have one : ∀ x : Value, v = x → x.cells = #[x] → te.agg = false → vrel h (match te.agg with | true => .agg te.zero | false => (match te.zero with | [v] => v | _ => und)) v := by
    rintro x rfl hc ha
    rw [ha]
    rw [hc] at hr2
    cases hz : te.zero with
    | nil => rw [hz] at hr2; cases hr2
    | cons a l =>
      rw [hz] at hr2
      obtain ⟨y, ys, e, r1, r2⟩ := hr2
      cases l with
      | nil =>
        obtain rfl := r2
        simp at e
        subst e
        exact r1
      | cons b l =>
        obtain ⟨y', ys', e', r3, r4⟩ := r2
        subst e'
        simp at e
  split at hf
  · rename_i d' cs q1 q2
    cases q1; cases q2
    simp only [Bool.and_eq_true] at hf
    rw [show te.agg = true from h2 ▸ hf.1]
    exact ⟨cs.toList, by simp, by simpa [Value.cells] using hr2⟩
  · rename_i d' k n q1 q2
    cases q1; cases q2
    exact one _ rfl rfl (by rw [← h2]; simpa using hf)
  · rename_i d' b q1 q2
    cases q1; cases q2
    exact one _ rfl rfl (by rw [← h2]; simpa using hf)
  · cases hf
theorem vrel_nil {h : Hp} {v : V} {x : Value} (r : vrel [] v x) : vrel h v x := vrel_mono (fun t r e => by simp [fd, Ent.rf] at e) v x r
theorem vrelL_nil {h : Hp} {l : List V} {x : List Value} (r : vrelL [] l x) : vrelL h l x := vrelL_mono (fun t r e => by simp [fd, Ent.rf] at e) l x r

/-! ### Memory: load, store, new -/
/-- What an operation comes to: a value (a store: nothing). -/
def Gives (P : Program) (c : Cx) (o : Oper) (a : Act) (w : World) (h : Hp) (K : V → Hp → Nat → Prop) : Prop :=
  ∃ v h' nx' w', ((∃ x, (execOp a.eval o).run P w = .ok (.value x) w' ∧ vrel h' v x) ∨ ((execOp a.eval o).run P w = .ok .skip w' ∧ v = und)) ∧ Rel c h' w' ∧ Ext h h' ∧ K v h' nx'

def doLoad (h : Hp) (tag i c m : Nat) (agg : Bool) (K : V → Prop) : Prop :=
  getM h tag fun n sz g => chk (Nat.ble (i * sz + c + m) (n * sz)) (match agg with
    | true => chk (Nat.ble 1 m) (forceL (cellsFrom sz g i c m) fun l => K (.agg l))
    | false => chk (Nat.beq m 1) (force (g (i + c / sz) (c % sz)) K))

theorem place_div {sz i c : Nat} (hs : 0 < sz) : (i * sz + c) / sz = i + c / sz := by
  rw [Nat.mul_comm, Nat.mul_add_div hs]
theorem place_mod {sz i c : Nat} : (i * sz + c) % sz = c % sz := by
  rw [Nat.mul_comm, Nat.mul_add_mod]

theorem doLoad_ok {P : Program} {T : Tab} (hT : TabOK P T) {c : Cx} {h : Hp} {w : World} (hr : Rel c h w) {t : Nat} {ti : TI} (ht : look t T = some ti) {tag i k : Nat} {K : V → Prop} (hs : doLoad h tag i k ti.n ti.agg K)
    {x : Value} (hx : vrel h (.ptr tag i k) x) : ∃ v y, K v ∧ vrel h v y ∧ (Instr.loadAt t x).run P w = .ok y w := by
  obtain ⟨n, sz, g, base, hK, hrf, hc⟩ := getM_ok hr hs
  obtain ⟨hle, hK⟩ := chk_spec hK
  have hle : i * sz + k + ti.n ≤ n * sz := Nat.le_of_ble_eq_true hle
  obtain ⟨ad', sz', hrf', rfl⟩ := hx
  rw [hrf] at hrf'
  injection hrf' with hrf'
  injection hrf' with hb hsz
  subst hb hsz
  cases hagg : ti.agg with
  | true =>
    rw [hagg] at hK
    simp only at hK
    obtain ⟨h0, hK⟩ := chk_spec hK
    rw [forceL_eq] at hK
    have h0 : 1 ≤ ti.n := Nat.le_of_ble_eq_true h0
    have hs0 : 0 < sz := by rcases Nat.eq_zero_or_pos sz with h0 | h0; (subst h0; simp at hle; omega); exact h0
    have : ∀ j, j < ti.n → ∃ x, w.cell? ((ad'.add (i * sz + k)).add j) = some x ∧ vrel h (g (i + (k + j) / sz) ((k + j) % sz)) x := by
      intro j hj
      obtain ⟨ad2, x, e, hx, rx⟩ := hc (i * sz + k + j) (by omega)
      injection e with e
      subst e
      rw [add_add]
      refine ⟨x, hx, ?_⟩
      rw [Nat.add_assoc, place_div hs0, place_mod] at rx
      exact rx
    let f : Nat → Value := fun j => if hj : j < ti.n then Classical.choose (this j hj) else undef
    have hf : ∀ j, j < ti.n → w.cell? ((ad'.add (i * sz + k)).add j) = some (f j) := fun j hj => by
      have := (Classical.choose_spec (this j hj)).1
      simp only [f, hj, dif_pos]
      exact this
    have hf2 : ∀ j, j < ti.n → vrel h (g (i + (k + j) / sz) ((k + j) % sz)) (f j) := fun j hj => by
      have := (Classical.choose_spec (this j hj)).2
      simp only [f, hj, dif_pos]
      exact this
    refine ⟨_, .agg ((List.range ti.n).map f).toArray, hK, ⟨_, rfl, vrelL_of (by simp [cellsFrom_length]) (fun j v hv => ?_)⟩, ?_⟩
    · have hj : j < ti.n := by
        have := (List.getElem?_eq_some_iff.1 hv).1
        simpa [cellsFrom_length] using this
      rw [cellsFrom_at _ _ _ _ _ _ hj] at hv
      injection hv with hv
      subst hv
      exact ⟨f j, by simp [hj], hf2 j hj⟩
    · simp only [Instr.loadAt, Instr.sureAddr, Option.map_some, loadVar, Sem.run_bind, Sem.run_pure, Result.andThen_ok, run_agg hT ht, hagg, run_size hT ht, if_true]
      rw [run_loadCells (P := P) w _ _ f (fun j hj => hf j hj)]
      rfl
  | false =>
    rw [hagg] at hK
    simp only at hK
    obtain ⟨h1, hK⟩ := chk_spec hK
    have h1 : ti.n = 1 := Nat.eq_of_beq_eq_true h1
    rw [force_eq] at hK
    have hs0 : 0 < sz := by rcases Nat.eq_zero_or_pos sz with h0 | h0; (subst h0; simp at hle; omega); exact h0
    obtain ⟨ad2, x, hbe, hx, rx⟩ := hc (i * sz + k) (by omega)
    injection hbe with hbe
    subst hbe
    rw [place_div hs0, place_mod] at rx
    refine ⟨_, x, hK, rx, ?_⟩
    simp [Instr.loadAt, Instr.sureAddr, loadVar, run_agg hT ht, hagg, hx]

end Go.Proofs.Ytgcnknhfphgfnaa.Sx
