import Derived.Test.YtgcnknhfphgfnaaSxB
set_option linter.unusedVariables false
set_option linter.unusedSimpArgs false
/-
  The engine, third part: the operations one by one.
-/
namespace Go.Proofs.Ytgcnknhfphgfnaa.Sx
open Go

theorem br_spec {b : Bool} {A B : Prop} (h : br b A B) : (b = true ∧ A) ∨ (b = false ∧ B) := by cases b with | true => exact .inl ⟨rfl, h⟩ | false => exact .inr ⟨rfl, h⟩

def scal : V → Bool
  | .agg _ => false
  | .tup _ => false
  | .raw _ => false
  | _ => true
theorem scal_one {h : Hp} {v : V} {x : Value} (r : vrel h v x) (hs : scal v = true) : x.oneCell' = true := by
  cases v with
  | agg l => simp [scal] at hs
  | tup l => simp [scal] at hs
  | raw v => simp [scal] at hs
  | ptr t i c => obtain ⟨_, _, _, rfl⟩ := r; rfl
  | slice t i l c => obtain ⟨_, _, _, rfl, _⟩ := r; rfl
  | map t => obtain ⟨_, _, rfl⟩ := r; rfl
  | fn f a b => obtain ⟨_, _, rfl, _⟩ := r; rfl
  | iface t v => obtain ⟨_, rfl, _⟩ := r; rfl
  | _ => obtain rfl := r; rfl

/-! ### New memory, stores -/
def newK (T : Tab) (t : Nat) (l : Option (List V)) (h : Hp) (nx : Nat) (K : V → Hp → Nat → Prop) : Prop :=
  match look t T, l with
  | some ti, some l => chk (Nat.beq l.length ti.n) (match fd nx h with
    | .gone => ∀ b : Nat, K (.ptr nx 0 0) ((nx, .blk b ti.vn ti.vsz (gOf ti.vsz l) t) :: h) (nx + 1)
    | _ => False)
  | _, _ => False

theorem newK_ok {P : Program} {T : Tab} (hT : TabOK P T) {c : Cx} {h : Hp} {w : World} (hr : Rel c h w) {t nx : Nat} {l : Option (List V)} {K : V → Hp → Nat → Prop} (hs : newK T t l h nx K) {xs : List Value}
    (hl : ∀ l', l = some l' → vrelL h l' xs) :
    ∃ h', K (.ptr nx 0 0) h' (nx + 1) ∧ Rel c h' (w.alloc (.cells xs.toArray t)) ∧ Ext h h' ∧ vrel h' (.ptr nx 0 0) (.pointer (some ⟨w.heap.size, 0, none⟩)) := by
  unfold newK at hs
  split at hs
  · rename_i ti l ht
    obtain ⟨h1, hs⟩ := chk_spec hs
    have h1 : l.length = ti.n := Nat.eq_of_beq_eq_true h1
    obtain ⟨i, d, hi, hd, e1, e2, e3⟩ := ty_info hT ht
    have r := hl l rfl
    cases e : fd nx h with
    | gone =>
      rw [e] at hs
      have hn : (fd nx h).rf = none := by rw [e]; rfl
      refine ⟨_, hs w.heap.size, hr.alloc hn (by rw [vrelL_length r, h1, e3]) (gOf_cells (by rw [h1, e3]) r), Ext.new hn, ⟨⟨w.heap.size, 0, none⟩, ti.vsz, by rw [fd_cons, if_pos rfl]; rfl, ?_⟩⟩
      simp [Addr.add]
    | blk => rw [e] at hs; exact hs.elim
    | ro => rw [e] at hs; exact hs.elim
    | mp => rw [e] at hs; exact hs.elim
    | rmp => rw [e] at hs; exact hs.elim
    | it => rw [e] at hs; exact hs.elim
  · exact hs.elim

def putG (sz : Nat) (g : Nat → Nat → V) (i c : Nat) (l : List V) : Nat → Nat → V := fun i' c' =>
  match Nat.ble (i * sz + c) (i' * sz + c') with
  | true => (match l[(i' * sz + c') - (i * sz + c)]? with | some v => v | none => g i' c')
  | false => g i' c'

def doStore (h : Hp) (tag i c : Nat) (l : List V) (K : Hp → Prop) : Prop :=
  match fd tag h with
  | .blk b n sz g ty => chk (Nat.ble (i * sz + c + l.length) (n * sz)) (K ((tag, .blk b n sz (putG sz g i c l) ty) :: h))
  | _ => False

theorem splice_at {α : Type} (cs xs : List α) (k0 k : Nat) (hk0 : k0 + xs.length ≤ cs.length) : (cs.take k0 ++ xs ++ cs.drop (k0 + xs.length))[k]? = if k0 ≤ k ∧ k - k0 < xs.length then xs[k - k0]? else cs[k]? := by
  have h1 : (cs.take k0).length = k0 := by simp; omega
  by_cases ha : k < k0
  · rw [if_neg (by omega), List.append_assoc, List.getElem?_append_left (by omega), List.getElem?_take, if_pos ha]
  · by_cases hb : k - k0 < xs.length
    · rw [if_pos ⟨by omega, hb⟩, List.append_assoc, List.getElem?_append_right (by omega), List.getElem?_append_left (by omega), h1]
    · rw [if_neg (by omega), List.append_assoc, List.getElem?_append_right (by omega), List.getElem?_append_right (by omega), h1, List.getElem?_drop]
      congr 1
      omega

theorem doStore_ok {P : Program} {c : Cx} {h : Hp} {w : World} (hr : Rel c h w) {tag i k : Nat} {l : List V} {K : Hp → Prop} (hs : doStore h tag i k l K) {xs : List Value} (r : vrelL h l xs) (h1 : l.all scal = true) {p : Value} (hp : vrel h (.ptr tag i k) p) :
    ∃ h' w' a, K h' ∧ Rel c h' w' ∧ Ext h h' ∧ p = .pointer (some a) ∧ (storeCells a xs).run P w = .ok () w' := by
  unfold doStore at hs
  cases e : fd tag h with
  | blk b n sz g ty =>
    rw [e] at hs
    obtain ⟨h2, hs⟩ := chk_spec hs
    have h2 : i * sz + k + l.length ≤ n * sz := Nat.le_of_ble_eq_true h2
    have H := hr.holds tag
    rw [e] at H
    obtain ⟨⟨cs, e1, e2, e3⟩, _⟩ := H
    obtain ⟨base, sz', hrf, rfl⟩ := hp
    rw [e] at hrf
    injection hrf with hrf
    injection hrf with hb hsz
    injection hb with hb
    subst hb hsz
    have hlx : xs.length = l.length := vrelL_length r
    have hrun := run_storeCells_at (P := P) b (i * sz + k) ty xs 0 cs.toArray w e1 (by simp [hlx, e2]; omega) (fun v hv => by
      obtain ⟨j, hj, rfl⟩ := List.getElem_of_mem hv
      obtain ⟨x, ex, rx⟩ := vrelL_at r j l[j] (List.getElem?_eq_getElem (by omega))
      rw [List.getElem?_eq_getElem hj] at ex
      injection ex with ex
      rw [ex]
      exact scal_one rx (List.all_eq_true.1 h1 _ (List.getElem_mem _)))
    simp only [Nat.add_zero] at hrun
    refine ⟨_, _, ⟨b, i * sz + k, none⟩, hs, hr.put e (w' := w.setRow b (cs.take (i * sz + k) ++ xs ++ cs.drop (i * sz + k + xs.length)).toArray) rfl rfl rfl (by simp) (setRow_heap w b _ _ ty _ e1) ?_ ?_ (fun k' hk' => setRow_other w b k' _ hk'), Ext.same (by rw [e]; rfl), ?_, hrun⟩
    · simp [e2, hlx]; omega
    · intro i' k' hi' hk'
      rw [splice_at _ _ _ _ (by rw [hlx, e2]; omega)]
      unfold putG
      by_cases hle : i * sz + k ≤ i' * sz + k'
      · rw [Nat.ble_eq_true_of_le hle]
        simp only
        by_cases hlt : i' * sz + k' - (i * sz + k) < xs.length
        · rw [if_pos ⟨hle, hlt⟩]
          have hl' : i' * sz + k' - (i * sz + k) < l.length := by omega
          rw [List.getElem?_eq_getElem hl']
          exact vrelL_at r _ _ (List.getElem?_eq_getElem hl')
        · rw [if_neg (fun hh => hlt hh.2)]
          have e0 : l[i' * sz + k' - (i * sz + k)]? = none := List.getElem?_eq_none (by rw [← hlx]; exact Nat.le_of_not_lt hlt)
          simp only [e0]
          exact e3 i' k' hi' hk'
      · rw [if_neg (fun hh => hle hh.1)]
        have : (i * sz + k).ble (i' * sz + k') = false := by
          cases hb : (i * sz + k).ble (i' * sz + k') with
          | true => exact absurd (Nat.le_of_ble_eq_true hb) hle
          | false => rfl
        rw [this]
        exact e3 i' k' hi' hk'
    · simp [add_plain]
  | ro => rw [e] at hs; exact hs.elim
  | mp => rw [e] at hs; exact hs.elim
  | rmp => rw [e] at hs; exact hs.elim
  | it => rw [e] at hs; exact hs.elim
  | gone => rw [e] at hs; exact hs.elim

/-! ### Values that are reckoned -/
def binI (op : BinOp) (k : IntKind) (a b : Int) (K : V → Prop) : Prop :=
  match op with
  | .add => K (.int k (k.wrap (a + b)))
  | .sub => K (.int k (k.wrap (a - b)))
  | .mul => K (.int k (k.wrap (a * b)))
  | .quo => chk (!(decide (b = 0))) (K (.int k (k.wrap (a.tdiv b))))
  | .rem => chk (!(decide (b = 0))) (K (.int k (a.tmod b)))
  | .and => K (.int k (k.wrap (BitVec.ofInt k.bits a &&& BitVec.ofInt k.bits b).toNat))
  | .or => K (.int k (k.wrap (BitVec.ofInt k.bits a ||| BitVec.ofInt k.bits b).toNat))
  | .xor => K (.int k (k.wrap (BitVec.ofInt k.bits a ^^^ BitVec.ofInt k.bits b).toNat))
  | .andNot => K (.int k (k.wrap (BitVec.ofInt k.bits a &&& ~~~(BitVec.ofInt k.bits b)).toNat))
  | .eql => K (.bool (a == b))
  | .neq => K (.bool (a != b))
  | .lss => K (.bool (decide (a < b)))
  | .leq => K (.bool (decide (a ≤ b)))
  | .gtr => K (.bool (decide (b < a)))
  | .geq => K (.bool (decide (b ≤ a)))
  | _ => False

theorem binI_ok {P : Program} {op : BinOp} {k : IntKind} {a b : Int} {K : V → Prop} (hs : binI op k a b K) (t : TypeId) (h : Hp) (w : World) : ∃ v y, K v ∧ vrel h v y ∧ (binOp op t (.int k a) (.int k b)).run P w = .ok y w := by
  cases op <;> simp only [binI] at hs
  case quo =>
    obtain ⟨h1, hs⟩ := chk_spec hs
    have h1 : ¬ b = 0 := by simpa using h1
    exact ⟨_, _, hs, rfl, by simp [binOp, Op.intDiv, h1]⟩
  case rem =>
    obtain ⟨h1, hs⟩ := chk_spec hs
    have h1 : ¬ b = 0 := by simpa using h1
    exact ⟨_, _, hs, rfl, by simp [binOp, Op.intDiv, h1]⟩
  all_goals exact ⟨_, _, hs, rfl, by simp [binOp, Op.intArith, Op.intBits, Op.intCmp]⟩

def shI (op : BinOp) (k : IntKind) (a b : Int) (K : V → Prop) : Prop :=
  match op with
  | .shl => chk (decide (0 ≤ b)) (K (.int k (k.wrap (a * 2 ^ (min b.toNat k.bits)))))
  | .shr => chk (decide (0 ≤ b)) (K (.int k (a.fdiv (2 ^ (min b.toNat k.bits)))))
  | _ => False

/-- One plain cell against another. -/
def eq1 : Nat → V → V → Option Bool
  | 2, .int k a, .int k' b => (match decide (k = k') with | true => some (a == b) | false => none)
  | 1, .bool a, .bool b => some (a == b)
  | 3, .str a, .str b => some (a.toList == b.toList)
  | _, _, _ => none
/-- Are these plain cells, one behind the other, alike? -/
def eqC : List Nat → List V → List V → (Bool → Prop) → Prop
  | [], [], [], K => K true
  | c :: cs, a :: l, b :: m, K => (match eq1 c a b with
    | some p => eqC cs l m fun q => K (p && q)
    | none => False)
  | _, _, _, _ => False

/-- Two values compared, neither a whole number. -/
def eqB (T : Tab) (t : TypeId) (x y : V) (K : Bool → Prop) : Prop :=
  match look t T with
  | some ti => (match x, y with
    | .bool a, .bool b => chk (Nat.beq ti.kd 1) (K (a == b))
    | .nilp, .nilp => chk (Nat.beq ti.kd 10) (K true)
    | .ptr _ _ _, .nilp => chk (Nat.beq ti.kd 10) (K false)
    | .agg l, .agg m => chk (Nat.beq ti.kd 4 || Nat.beq ti.kd 5) (eqC ti.cks l m K)
    | _, _ => False)
  | none => False

def binV (T : Tab) (op : BinOp) (t : TypeId) (x y : V) (K : V → Prop) : Prop :=
  match x, y with
  | .int k a, .int k' b => (match op with
    | .shl => shI .shl k a b K
    | .shr => shI .shr k a b K
    | _ => chk (decide (k = k')) (binI op k a b K))
  | .str a, .str b => (match op with
    | .eql => K (.bool (a.toList == b.toList))
    | .neq => K (.bool (!(a.toList == b.toList)))
    | .add => a.size + b.size ≤ 9223372036854775807 ∧ ∀ s, s = a ++ b → K (.str s)
    | _ => False)
  | x, y => (match op with
    | .eql => eqB T t x y fun p => K (.bool p)
    | .neq => eqB T t x y fun p => K (.bool (!p))
    | _ => False)

def unV (op : UnOp) (x : V) (K : V → Prop) : Prop :=
  match op, x with
  | .not, .bool b => K (.bool (!b))
  | .neg, .int k n => K (.int k (k.wrap (0 - n)))
  | _, _ => False

def convV (T : Tab) (dst : TypeId) (x : V) (K : V → Prop) : Prop :=
  match look dst T, x with
  | some ti, .int _ n => chk (Nat.beq ti.kd 2) (K (.int ti.ik (ti.ik.wrap n)))
  | _, _ => False

/-! ### Floats -/
/-- Is this word no number? -/
def isN (n : Nat) : Bool := Nat.blt 9218868437227405312 (n % 9223372036854775808)
/-- What an operation on floats may give. -/
def FRes (op : BinOp) (a b r : Nat) : Prop := floatBits op .f64 a b = some r ∨ (floatBits op .f64 a b = none ∧ isN r = true ∧ r < 18446744073709551616)
def fOrd (a b : Nat) : Option Ordering := Ieee.double.order a b
def fltV (op : BinOp) (a b : Nat) (K : V → Prop) : Prop :=
  match op with
  | .add => ∀ r, FRes .add a b r → K (.flt .f64 r)
  | .sub => ∀ r, FRes .sub a b r → K (.flt .f64 r)
  | .mul => ∀ r, FRes .mul a b r → K (.flt .f64 r)
  | .quo => ∀ r, FRes .quo a b r → K (.flt .f64 r)
  | .eql => K (.bool (fOrd a b == some .eq))
  | .neq => K (.bool (fOrd a b != some .eq))
  | .lss => K (.bool (fOrd a b == some .lt))
  | .leq => K (.bool (fOrd a b == some .lt || fOrd a b == some .eq))
  | .gtr => K (.bool (fOrd a b == some .gt))
  | .geq => K (.bool (fOrd a b == some .gt || fOrd a b == some .eq))
  | _ => False
/-- A conversion from or to a float. -/
def convF (T : Tab) (dst : TypeId) (x : V) (K : V → Prop) : Prop :=
  match look dst T, x with
  | some ti, .int _ n => (match ti.kd with
    | 3 => K (.str (Utf8.encode n))
    | _ => chk (Nat.beq ti.kd 9) (K (.flt .f64 (FloatKind.nearest .f64 n))))
  | some ti, .flt .f64 b => chk (Nat.beq ti.kd 2) (∀ n, (∀ m, floatToIntVal .f64 b ti.ik = some m → n = m) → K (.int ti.ik n))
  | _, _ => False

def fieldA (T : Tab) (t : TypeId) (f : Nat) (x : V) (K : V → Prop) : Prop :=
  match look t T, x with
  | some ti, .ptr tag i c => chk (Nat.beq ti.kd 4 || Nat.beq ti.kd 8) (match ti.flds[f]? with | some (o, _) => K (.ptr tag i (c + o)) | none => False)
  | _, _ => False
def fieldV (T : Tab) (t : TypeId) (f : Nat) (x : V) (K : V → Prop) : Prop :=
  match look t T, x with
  | some ti, .agg l => chk (Nat.beq ti.kd 4 || Nat.beq ti.kd 8) (match ti.flds[f]? with
    | some (o, m, true) => forceL ((l.drop o).take m) fun l => K (.agg l)
    | some (o, _, false) => (match l[o]? with | some v => force v K | none => False)
    | none => False)
  | _, _ => False
def extractV (ix : Nat) (x : V) (K : V → Prop) : Prop :=
  match x with
  | .tup l => (match l[ix]? with | some v => force v K | none => False)
  | _ => False
def szOf (h : Hp) (tag : Nat) (K : Nat → Prop) : Prop :=
  match fd tag h with
  | .blk _ _ sz _ _ => K sz
  | .ro _ _ sz _ => K sz
  | .mp _ _ | .rmp _ _ | .it _ _ _ _ _ | .gone => False
def indexA (T : Tab) (h : Hp) (t : TypeId) (x : V) (ix : V) (K : V → Prop) : Prop :=
  match look t T, ix with
  | some ti, .int _ n => (match look ti.el T with
    | some te => (match x with
      | .ptr tag i c => szOf h tag fun sz => chk (Nat.beq ti.kd 5 || Nat.beq ti.kd 6) (chk (decide (0 ≤ n) && decide (n < (ti.len : Int))) (match Nat.beq te.n sz && Nat.beq c 0 with
        | true => K (.ptr tag (addI i n.toNat) 0)
        | false => K (.ptr tag i (c + n.toNat * te.n))))
      | .slice tag i len _ => szOf h tag fun sz => chk (Nat.beq ti.kd 7) (chk (decide (0 ≤ n) && decide (n < (len : Int))) (chk (Nat.beq te.n sz) (K (.ptr tag (addI i n.toNat) 0))))
      | _ => False)
    | none => False)
  | _, _ => False
def indexV (T : Tab) (t : TypeId) (x : V) (ix : V) (K : V → Prop) : Prop :=
  match look t T, ix, x with
  | some ti, .int _ n, .agg l => (match look ti.el T with
    | some te => chk (Nat.beq ti.kd 5 || Nat.beq ti.kd 6) (chk (decide (0 ≤ n) && decide (n < (ti.len : Int))) (match te.agg with
      | true => forceL ((l.drop (n.toNat * te.n)).take te.n) fun l => K (.agg l)
      | false => (match l[n.toNat * te.n]? with | some v => force v K | none => False)))
    | none => False)
  | _, _, _ => False

end Go.Proofs.Ytgcnknhfphgfnaa.Sx
