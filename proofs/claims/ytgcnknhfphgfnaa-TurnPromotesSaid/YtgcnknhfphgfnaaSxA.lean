import Derived.WalkKit
import Derived.Orders
import Derived.Laws.FloatArith
import Derived.Maps.RangeRun
set_option linter.unusedVariables false
set_option linter.unusedSimpArgs false
/-
  A small engine of this claim's own: values that know their blocks by tags (V), what is known of memory (Ent), and how both stand to the frame and the world of the machine.
-/
namespace Go.Proofs.Ytgcnknhfphgfnaa.Sx
open Go

/-! ### Values, and what is known of memory -/
inductive V where
  | bool (b : Bool)
  | int (k : IntKind) (n : Int)
  | flt (k : FloatKind) (bits : Nat)
  | str (s : ByteArray)
  | ptr (tag i c : Nat)
  | nilp
  | slice (tag i len cap : Nat)
  | nils
  | map (tag : Nat)
  | nilm
  | fn (f : Fn) (first caps : List V)
  | nilf
  | iface (t : TypeId) (v : V)
  | nili
  | agg (l : List V)
  | tup (l : List V)
  | raw (v : Value)

/-- A block of ours (n elements of sz cells), memory that is only read, or nothing. -/
inductive Ent where
  | blk (b n sz : Nat) (g : Nat → Nat → V) (t : TypeId)
  | ro (base : Option Addr) (n sz : Nat) (g : Nat → Nat → V)
  | mp (b : Nat) (l : List (Int × V))
  | rmp (b : Nat) (l : List (Int × V))
  | it (b mb : Nat) (l left : List (Int × V)) (cur : Option (Int × V))
  | gone

inductive Rf where
  | mem (base : Option Addr) (sz : Nat)
  | mp (b : Nat)

def Ent.rf : Ent → Option Rf
  | .blk b _ sz _ _ => some (.mem (some ⟨b, 0, none⟩) sz)
  | .ro base _ sz _ => some (.mem base sz)
  | .mp b _ => some (.mp b)
  | .rmp b _ => some (.mp b)
  | .it b _ _ _ _ => some (.mem (some ⟨b, 0, none⟩) 0)
  | .gone => none

abbrev Sl := List (Nat × V)
def lk (t : Nat) : Sl → Option V
  | [] => none
  | (u, v) :: r => match t.beq u with | true => some v | false => lk t r

abbrev Hp := List (Nat × Ent)
def fd (t : Nat) : Hp → Ent
  | [] => .gone
  | (u, e) :: r => match t.beq u with | true => e | false => fd t r

mutual
/-- A value of ours, and the machine's. -/
def vrel (h : Hp) : V → Value → Prop
  | .bool b, x => x = .bool b
  | .int k n, x => x = .int k n
  | .flt k b, x => x = .float k b
  | .str s, x => x = .string s
  | .ptr t i c, x => ∃ ad sz, (fd t h).rf = some (.mem (some ad) sz) ∧ x = .pointer (some (ad.add (i * sz + c)))
  | .nilp, x => x = .pointer none
  | .slice t i len cap, x => ∃ base sz, (fd t h).rf = some (.mem base sz) ∧ x = .slice (base.map fun a => a.add (i * sz)) len cap ∧ (base.isSome = true ∨ len = 0 ∧ cap = 0)
  | .nils, x => x = .slice none 0 0
  | .map t, x => ∃ b, (fd t h).rf = some (.mp b) ∧ x = .map (some b)
  | .nilm, x => x = .map none
  | .fn f first caps, x => ∃ as bs, x = .func f (List.toArray as) (List.toArray bs) ∧ vrelL h first as ∧ vrelL h caps bs
  | .nilf, x => x = .nilFunc
  | .iface t v, x => ∃ y, x = .iface t y ∧ vrel h v y
  | .nili, x => x = .nilIface
  | .agg l, x => ∃ xs, x = .agg (List.toArray xs) ∧ vrelL h l xs
  | .tup l, x => ∃ xs, x = .tuple (List.toArray xs) ∧ vrelL h l xs
  | .raw v, x => x = v
def vrelL (h : Hp) : List V → List Value → Prop
  | [], xs => xs = []
  | v :: l, xs => ∃ y ys, xs = y :: ys ∧ vrel h v y ∧ vrelL h l ys
end

def und : V := .tup []
theorem vrel_und (h : Hp) : vrel h und undef := ⟨[], rfl, rfl⟩

/-- What pointers lead to by h they lead to by h', too. -/
def Ext (h h' : Hp) : Prop := ∀ t r, (fd t h).rf = some r → (fd t h').rf = some r
theorem Ext.refl (h : Hp) : Ext h h := fun _ _ e => e
theorem Ext.trans {a b c : Hp} (h : Ext a b) (k : Ext b c) : Ext a c := fun t r e => k t r (h t r e)

mutual
theorem vrel_mono {h h' : Hp} (he : Ext h h') : ∀ (v : V) (x : Value), vrel h v x → vrel h' v x
  | .bool _, _, e => e
  | .int _ _, _, e => e
  | .flt _ _, _, e => e
  | .str _, _, e => e
  | .ptr _ _ _, _, ⟨b, s, e1, e2⟩ => ⟨b, s, he _ _ e1, e2⟩
  | .nilp, _, e => e
  | .slice _ _ _ _, _, ⟨b, s, e1, e2, e3⟩ => ⟨b, s, he _ _ e1, e2, e3⟩
  | .nils, _, e => e
  | .map _, _, ⟨b, e1, e2⟩ => ⟨b, he _ _ e1, e2⟩
  | .nilm, _, e => e
  | .fn _ a b, _, ⟨xs, ys, e, h1, h2⟩ => ⟨xs, ys, e, vrelL_mono he a xs h1, vrelL_mono he b ys h2⟩
  | .nilf, _, e => e
  | .iface _ v, _, ⟨y, e, h1⟩ => ⟨y, e, vrel_mono he v y h1⟩
  | .nili, _, e => e
  | .agg l, _, ⟨xs, e, h1⟩ => ⟨xs, e, vrelL_mono he l xs h1⟩
  | .tup l, _, ⟨xs, e, h1⟩ => ⟨xs, e, vrelL_mono he l xs h1⟩
  | .raw _, _, e => e
theorem vrelL_mono {h h' : Hp} (he : Ext h h') : ∀ (l : List V) (xs : List Value), vrelL h l xs → vrelL h' l xs
  | [], _, e => e
  | v :: l, _, ⟨y, ys, e, h1, h2⟩ => ⟨y, ys, e, vrel_mono he v y h1, vrelL_mono he l ys h2⟩
end

theorem vrelL_length {h : Hp} : ∀ {l : List V} {xs : List Value}, vrelL h l xs → xs.length = l.length
  | [], _, e => by rw [show _ = [] from e]; rfl
  | v :: l, _, ⟨y, ys, e, h1, h2⟩ => by rw [e]; simp [vrelL_length h2]
theorem vrelL_at {h : Hp} : ∀ {l : List V} {xs : List Value}, vrelL h l xs → ∀ (j : Nat) (v : V), l[j]? = some v → ∃ x, xs[j]? = some x ∧ vrel h v x
  | [], _, _, j, v, hv => by simp at hv
  | u :: l, _, ⟨y, ys, e, h1, h2⟩, 0, v, hv => by simp at hv; subst hv; subst e; exact ⟨y, by simp, h1⟩
  | u :: l, _, ⟨y, ys, e, h1, h2⟩, j + 1, v, hv => by subst e; simp at hv ⊢; exact vrelL_at h2 j v hv
theorem vrelL_of {h : Hp} : ∀ {l : List V} {xs : List Value}, xs.length = l.length → (∀ (j : Nat) (v : V), l[j]? = some v → ∃ x, xs[j]? = some x ∧ vrel h v x) → vrelL h l xs
  | [], xs, hl, _ => List.eq_nil_of_length_eq_zero (by simpa using hl)
  | v :: l, [], hl, _ => by simp at hl
  | v :: l, y :: ys, hl, H => ⟨y, ys, rfl, by obtain ⟨x, e, r⟩ := H 0 v rfl; simp at e; subst e; exact r, vrelL_of (by simpa using hl) (fun j v hv => H (j + 1) v hv)⟩
theorem vrelL_cons {h : Hp} {v : V} {l : List V} {x : Value} {xs : List Value} (h1 : vrel h v x) (h2 : vrelL h l xs) : vrelL h (v :: l) (x :: xs) := ⟨x, xs, rfl, h1, h2⟩

/-- A value looked at before it is handed on. -/
def force (v : V) (K : V → Prop) : Prop :=
  match v with
  | .bool b => K (.bool b)
  | .int k n => K (.int k n)
  | .flt k b => K (.flt k b)
  | .str s => K (.str s)
  | .ptr t i c => K (.ptr t i c)
  | .nilp => K .nilp
  | .slice t i l c => K (.slice t i l c)
  | .nils => K .nils
  | .map t => K (.map t)
  | .nilm => K .nilm
  | .fn f a b => K (.fn f a b)
  | .nilf => K .nilf
  | .iface t v => K (.iface t v)
  | .nili => K .nili
  | .agg l => K (.agg l)
  | .tup l => K (.tup l)
  | .raw v => K (.raw v)
theorem force_eq (v : V) (K : V → Prop) : force v K = K v := by cases v <;> rfl
def forceL : List V → (List V → Prop) → Prop
  | [], K => K []
  | v :: l, K => force v fun v => forceL l fun l => K (v :: l)
theorem forceL_eq : ∀ (l : List V) (K : List V → Prop), forceL l K = K l
  | [], K => rfl
  | v :: l, K => by rw [forceL, force_eq, forceL_eq l]

def ofConst : Value → V
  | .bool b => .bool b
  | .int k n => .int k n
  | .float k b => .flt k b
  | .string s => .str s
  | .pointer none => .nilp
  | .slice none 0 0 => .nils
  | .map none => .nilm
  | .nilFunc => .nilf
  | .nilIface => .nili
  | v => .raw v
theorem vrel_const (h : Hp) (v : Value) : vrel h (ofConst v) v := by
  unfold ofConst
  split <;> simp [vrel]

/-- The frame of a proof: the program, the world at the beginning, and which of its blocks may be written. -/
structure Cx where
  P : Program
  w0 : World
  own : Nat → Prop

/-! ### Values that lead nowhere: plain cells, and a struct's or an array's -/
def cel1 : V → Bool
  | .bool _ => true
  | .int _ _ => true
  | _ => false
def celV : V → Value
  | .bool b => .bool b
  | .int k n => .int k n
  | _ => undef
def flB : V → Bool
  | .agg l => l.all cel1
  | v => cel1 v
def flatV : V → Value
  | .agg l => .agg (l.map celV).toArray
  | v => celV v
theorem cel_rel {h : Hp} {v : V} (e : cel1 v = true) : vrel h v (celV v) := by cases v <;> simp [cel1] at e <;> rfl
theorem celL_rel {h : Hp} : ∀ {l : List V}, l.all cel1 = true → vrelL h l (l.map celV)
  | [], _ => rfl
  | v :: l, e => by
    rw [List.all_cons, Bool.and_eq_true] at e
    exact ⟨_, _, rfl, cel_rel e.1, celL_rel e.2⟩
theorem fl_rel {h : Hp} {v : V} (e : flB v = true) : vrel h v (flatV v) := by
  cases v with
  | agg l => exact ⟨_, rfl, celL_rel e⟩
  | bool b => exact rfl
  | int k n => exact rfl
  | _ => simp [flB, cel1] at e
theorem cel_eq {h : Hp} {v : V} {x : Value} (e : cel1 v = true) (r : vrel h v x) : x = celV v := by cases v <;> simp [cel1] at e <;> exact r
theorem celL_eq {h : Hp} : ∀ {l : List V} {xs : List Value}, l.all cel1 = true → vrelL h l xs → xs = l.map celV
  | [], _, _, r => r
  | v :: l, xs, e, ⟨y, ys, e0, r1, r2⟩ => by
    rw [List.all_cons, Bool.and_eq_true] at e
    rw [e0, cel_eq e.1 r1, celL_eq e.2 r2]; rfl
theorem fl_eq {h : Hp} {v : V} {x : Value} (e : flB v = true) (r : vrel h v x) : x = flatV v := by
  cases v with
  | agg l =>
    obtain ⟨xs, rfl, r⟩ := r
    rw [celL_eq e r]; rfl
  | bool b => exact r
  | int k n => exact r
  | _ => simp [flB, cel1] at e

def mval (p : Int × V) : Value × Value := (Value.int .i64 p.1, flatV p.2)
/-- A map of whole numbers, in the order in which its keys were put in; no two of its entries bear one stamp. -/
def MapAs (es : Array MapEntry) (clock : Nat) (l : List (Int × V)) : Prop := es.toList.map (fun e => (e.key, e.val)) = l.map mval ∧ (∀ p ∈ l, flB p.2 = true) ∧ (∀ e ∈ es.toList, e.born < clock) ∧ (es.toList.map (·.born)).Nodup
def MapIs (w : World) (b : Nat) (l : List (Int × V)) : Prop := ∃ (es : Array MapEntry) (clock : Nat), w.heap[b]? = some (.map es clock) ∧ MapAs es clock l
/-- An iterator in block b over the map in block mb (which stays as it was): what it has not handed out, and what it handed out last. -/
def ItIs (w0 w : World) (b mb : Nat) (l left : List (Int × V)) (cur : Option (Int × V)) : Prop := ∃ (es : Array MapEntry) (clock since c0 : Nat) (seen : Array Nat),
  w.heap[b]? = some (.mapIter (some mb) since seen c0) ∧ w0.heap[mb]? = some (.map es clock) ∧ MapAs es clock l ∧ (∀ e ∈ es.toList, e.born < since) ∧ since ≤ c0 ∧ since ≤ clock ∧
  left.map mval = (leftOf es seen).toList.map (fun e => (e.key, e.val)) ∧ (∀ p ∈ left, flB p.2 = true) ∧
  ∀ p, cur = some p → flB p.2 = true ∧ ∃ e ∈ es.toList, (e.key, e.val) = mval p ∧ ∃ seen' : Array Nat, seen = seen'.push e.born ∧ c0 = clock
def Ent.holds (c : Cx) (h : Hp) (w : World) : Ent → Prop
  | .blk b n sz g t => (∃ cs : List Value, w.heap[b]? = some (.cells cs.toArray t (0, 0)) ∧ cs.length = n * sz ∧ ∀ i k, i < n → k < sz → ∃ x, cs[i * sz + k]? = some x ∧ vrel h (g i k) x) ∧ (c.own b ∨ c.w0.heap.size ≤ b)
  | .ro base n sz g => ∀ i k, i < n → k < sz → ∃ ad x, base = some ad ∧ c.w0.cell? (ad.add (i * sz + k)) = some x ∧ vrel h (g i k) x ∧ ¬ c.own ad.block
  | .mp b l => MapIs w b l ∧ (c.own b ∨ c.w0.heap.size ≤ b)
  | .rmp b l => MapIs c.w0 b l ∧ ¬ c.own b
  | .it b mb l left cur => ItIs c.w0 w b mb l left cur ∧ (c.own b ∨ c.w0.heap.size ≤ b) ∧ ¬ c.own mb
  | .gone => True

/-- The block that an entry may write. -/
def Ent.at : Ent → Option Nat
  | .blk b .. => some b
  | .mp b _ => some b
  | .it b _ _ _ _ => some b
  | _ => none
def Ent.apart : Ent → Ent → Prop
  | .blk b .., .blk b' .. => b ≠ b'
  | .mp b _, .mp b' _ => b ≠ b'
  | .mp b _, .blk b' .. => b ≠ b'
  | .blk b .., .mp b' _ => b ≠ b'
  | .it b .., .it b' .. => b ≠ b'
  | .it b .., .blk b' .. => b ≠ b'
  | .blk b .., .it b' .. => b ≠ b'
  | .it b .., .mp b' _ => b ≠ b'
  | .mp b _, .it b' .. => b ≠ b'
  | _, _ => True

structure Fr (c : Cx) (w : World) : Prop where
  os : w.os = c.w0.os
  tape : w.tape = c.w0.tape
  output : w.output = c.w0.output
  size : c.w0.heap.size ≤ w.heap.size
  block : ∀ k, k < c.w0.heap.size → ¬ c.own k → w.heap[k]? = c.w0.heap[k]?

/-- The tables that this seat's library reads: variables of the program that no text writes. -/
def seatTabs : List (String × List Value) := []
def Tabs (c : Cx) : Prop := ∀ p ∈ seatTabs, c.w0.var? c.P p.1 = some p.2.toArray ∧ ∀ g, c.P.globalNamed p.1 = some g → ¬ c.own g
structure Rel (c : Cx) (h : Hp) (w : World) : Prop where
  fr : Fr c w
  holds : ∀ t, (fd t h).holds c h w
  apart : ∀ t t', t ≠ t' → (fd t h).apart (fd t' h)
  tabs : Tabs c
theorem Tabs.at {c : Cx} {w : World} (ht : Tabs c) (hf : Fr c w) : ∀ p ∈ seatTabs, w.var? c.P p.1 = some p.2.toArray := by
  intro p hp
  obtain ⟨h1, h2⟩ := ht p hp
  unfold World.var? at h1 ⊢
  cases hg : c.P.globalNamed p.1 with
  | none => rw [hg] at h1; cases h1
  | some g =>
    rw [hg] at h1
    simp only [Option.bind_some] at h1 ⊢
    have hlt : g < c.w0.heap.size := by
      rcases Nat.lt_or_ge g c.w0.heap.size with h | h
      · exact h
      · rw [Array.getElem?_eq_none h] at h1; cases h1
    rw [hf.block g hlt (h2 g hg)]
    exact h1

structure Match (c : Cx) (N : Nat) (σ : Sl) (h : Hp) (a : Act) (w : World) : Prop where
  size : a.tmps.size = N
  slots : ∀ t v, lk t σ = some v → vrel h v (a.tmps.getD t undef)
  calm : a.defers = []
  rel : Rel c h w

theorem beq_ne {t u : Nat} (h : t ≠ u) : t.beq u = false := by
  cases e : t.beq u with
  | true => exact absurd (Nat.eq_of_beq_eq_true e) h
  | false => rfl
theorem lk_cons (t u : Nat) (v : V) (σ : Sl) : lk t ((u, v) :: σ) = if t = u then some v else lk t σ := by
  by_cases h : t = u
  · subst h; simp [lk]
  · simp [lk, beq_ne h, h]
theorem fd_cons (t u : Nat) (e : Ent) (h : Hp) : fd t ((u, e) :: h) = if t = u then e else fd t h := by
  by_cases h' : t = u
  · subst h'; simp [fd]
  · simp [fd, beq_ne h', h']

def noIt : Hp → Bool
  | [] => true
  | (_, .it _ _ _ _ _) :: _ => false
  | (_, .blk _ _ _ _ _) :: r => noIt r
  | (_, .ro _ _ _ _) :: r => noIt r
  | (_, .mp _ _) :: r => noIt r
  | (_, .rmp _ _) :: r => noIt r
  | (_, .gone) :: r => noIt r
theorem noIt_fd : ∀ {G : Hp}, noIt G = true → ∀ {t b mb : Nat} {l lf : List (Int × V)} {cu : Option (Int × V)}, fd t G = .it b mb l lf cu → False
  | [], _, t, b, mb, l, lf, cu, e => by cases e
  | (u, x) :: r, h, t, b, mb, l, lf, cu, e => by
    rw [fd_cons] at e
    split at e
    · subst e; cases h
    · exact noIt_fd (G := r) (by cases x <;> first | exact h | cases h) e
/-! ### What changes, and what stays -/
theorem Ent.ro_cell {c : Cx} {h : Hp} {w : World} {base : Option Addr} {n sz : Nat} {g : Nat → Nat → V} (hf : Fr c w) (hh : (Ent.ro base n sz g).holds c h w) {i k : Nat} (hi : i < n) (hk : k < sz) :
    ∃ ad x, base = some ad ∧ w.cell? (ad.add (i * sz + k)) = some x ∧ vrel h (g i k) x := by
  obtain ⟨ad, x, e, hc, hv, ho⟩ := hh i k hi hk
  refine ⟨ad, x, e, ?_, hv⟩
  have hb : (ad.add (i * sz + k)).block = ad.block := by unfold Addr.add; split <;> rfl
  have hlt := World.block_lt_of_cell? _ _ hc
  rw [hb] at hlt
  rw [← hc]
  exact World.cell?_of_block (by rw [hb]; exact hf.block _ hlt ho)

theorem Fr.drew {c : Cx} {w : World} (h : Fr c w) : Fr c { w with drawn := w.drawn + 1 } := ⟨h.os, h.tape, h.output, h.size, h.block⟩
theorem Ent.holds_heap {c : Cx} {h h' : Hp} (hx : Ext h h') {w w' : World} {e : Ent} (hh : ∀ b, e.at = some b → w'.heap[b]? = w.heap[b]?) (H : e.holds c h w) : e.holds c h' w' := by
  cases e with
  | mp b l =>
    obtain ⟨⟨es, ck, h1, h2⟩, h4⟩ := H
    exact ⟨⟨es, ck, (hh b rfl).trans h1, h2⟩, h4⟩
  | rmp b l => exact H
  | it b mb l left cur =>
    obtain ⟨⟨es, ck, si, c0, se, h1, h2⟩, h4⟩ := H
    exact ⟨⟨es, ck, si, c0, se, (hh b rfl).trans h1, h2⟩, h4⟩
  | blk b n sz g t =>
    obtain ⟨⟨cs, h1, h2, h3⟩, h4⟩ := H
    exact ⟨⟨cs, (hh b rfl).trans h1, h2, fun i k hi hk => let ⟨x, e, r⟩ := h3 i k hi hk; ⟨x, e, vrel_mono hx _ _ r⟩⟩, h4⟩
  | ro base n sz g => exact fun i k hi hk => let ⟨ad, x, e, hc, hv, ho⟩ := H i k hi hk; ⟨ad, x, e, hc, vrel_mono hx _ _ hv, ho⟩
  | gone => trivial
theorem Rel.drew {c : Cx} {h : Hp} {w : World} (hr : Rel c h w) : Rel c h { w with drawn := w.drawn + 1 } :=
  ⟨hr.fr.drew, fun t => Ent.holds_heap (Ext.refl h) (fun _ _ => rfl) (hr.holds t), hr.apart, hr.tabs⟩
theorem Rel.lt {c : Cx} {h : Hp} {w : World} (hr : Rel c h w) {t b n sz : Nat} {g : Nat → Nat → V} {ty : TypeId} (e : fd t h = .blk b n sz g ty) : b < w.heap.size := by
  have := hr.holds t
  rw [e] at this
  obtain ⟨⟨cs, h1, _⟩, _⟩ := this
  exact (Array.getElem?_eq_some_iff.1 h1).1

theorem Rel.lti {c : Cx} {h : Hp} {w : World} (hr : Rel c h w) {t b mb : Nat} {l left : List (Int × V)} {cur : Option (Int × V)} (e : fd t h = .it b mb l left cur) : b < w.heap.size := by
  have := hr.holds t
  rw [e] at this
  obtain ⟨⟨es, ck, si, c0, se, h1, _⟩, _⟩ := this
  exact (Array.getElem?_eq_some_iff.1 h1).1
theorem Rel.ltm {c : Cx} {h : Hp} {w : World} (hr : Rel c h w) {t b : Nat} {l : List (Int × V)} (e : fd t h = .mp b l) : b < w.heap.size := by
  have := hr.holds t
  rw [e] at this
  obtain ⟨⟨es, ck, h1, _⟩, _⟩ := this
  exact (Array.getElem?_eq_some_iff.1 h1).1
theorem Rel.lta {c : Cx} {h : Hp} {w : World} (hr : Rel c h w) {t b : Nat} (e : (fd t h).at = some b) : b < w.heap.size := by
  cases q : fd t h with
  | blk b' n sz g ty => rw [q] at e; cases e; exact hr.lt q
  | mp b' l => rw [q] at e; cases e; exact hr.ltm q
  | it b' mb l left cur => rw [q] at e; cases e; exact hr.lti q
  | ro => rw [q] at e; cases e
  | rmp => rw [q] at e; cases e
  | gone => rw [q] at e; cases e
theorem Ent.apart_of {e e' : Ent} (h : ∀ b b', e.at = some b → e'.at = some b' → b ≠ b') : e.apart e' := by
  cases e <;> cases e' <;> first | trivial | exact h _ _ rfl rfl
theorem Ent.apart_at {e e' : Ent} (h : e.apart e') {b b' : Nat} (h1 : e.at = some b) (h2 : e'.at = some b') : b ≠ b' := by
  cases e <;> cases e' <;> first | (cases h1; cases h2; exact h) | (cases h1; done) | (cases h2; done)
theorem Ext.new {h : Hp} {nx : Nat} {e : Ent} (hn : (fd nx h).rf = none) : Ext h ((nx, e) :: h) := by
  intro t r hr
  rw [fd_cons]
  split
  · rename_i ht; subst ht; rw [hn] at hr; cases hr
  · exact hr
theorem Ext.same {h : Hp} {t : Nat} {e : Ent} (he : e.rf = (fd t h).rf) : Ext h ((t, e) :: h) := by
  intro u r hr
  rw [fd_cons]
  split
  · rename_i hu; subst hu; rw [he]; exact hr
  · exact hr

/-- A new block. -/
theorem Rel.alloc {c : Cx} {h : Hp} {w : World} (hr : Rel c h w) {nx : Nat} (hn : (fd nx h).rf = none) {n sz : Nat} {g : Nat → Nat → V} {ty : TypeId} {cs : List Value} (hl : cs.length = n * sz)
    (hcs : ∀ i k, i < n → k < sz → ∃ x, cs[i * sz + k]? = some x ∧ vrel h (g i k) x) :
    Rel c ((nx, .blk w.heap.size n sz g ty) :: h) (w.alloc (.cells cs.toArray ty)) := by
  have hx : Ext h ((nx, .blk w.heap.size n sz g ty) :: h) := Ext.new hn
  have hsz : (w.alloc (.cells cs.toArray ty)).heap.size = w.heap.size + 1 := by simp
  have hold : ∀ k, k < w.heap.size → (w.alloc (.cells cs.toArray ty)).heap[k]? = w.heap[k]? := fun k hk => Go.RowKit.Below.heap_alloc _ _ _ hk
  have hnew : (w.alloc (.cells cs.toArray ty)).heap[w.heap.size]? = some (.cells cs.toArray ty (0, 0)) := by
    show (w.heap.push _)[w.heap.size]? = _
    rw [Array.getElem?_push, if_pos rfl]
  refine ⟨⟨hr.fr.os, hr.fr.tape, hr.fr.output, by rw [hsz]; have := hr.fr.size; omega, fun k hk ho => (hold k (by have := hr.fr.size; omega)).trans (hr.fr.block k hk ho)⟩, fun t => ?_, fun t t' hne => ?_, hr.tabs⟩
  · rw [fd_cons]
    split
    · exact ⟨⟨cs, hnew, hl, fun i k hi hk => let ⟨x, e, r⟩ := hcs i k hi hk; ⟨x, e, vrel_mono hx _ _ r⟩⟩, .inr hr.fr.size⟩
    · exact Ent.holds_heap hx (fun b he => hold b (hr.lta he)) (hr.holds t)
  · rw [fd_cons, fd_cons]
    split
    · split
      · omega
      · exact Ent.apart_of fun b b' e1 e2 => by cases e1; exact (Nat.ne_of_lt (hr.lta e2)).symm
    · split
      · exact Ent.apart_of fun b b' e1 e2 => by cases e2; exact Nat.ne_of_lt (hr.lta e1)
      · exact hr.apart t t' hne

/-- A block of ours is written anew. -/
theorem Rel.put {c : Cx} {h : Hp} {w w' : World} (hr : Rel c h w) {t b n sz : Nat} {g : Nat → Nat → V} {ty : TypeId} (e : fd t h = .blk b n sz g ty) {n' : Nat} {g' : Nat → Nat → V}
    (hos : w'.os = w.os) (htp : w'.tape = w.tape) (hout : w'.output = w.output) (hsz : w'.heap.size = w.heap.size) {cs : List Value}
    (hb : w'.heap[b]? = some (.cells cs.toArray ty (0, 0))) (hl : cs.length = n' * sz) (hcs : ∀ i k, i < n' → k < sz → ∃ x, cs[i * sz + k]? = some x ∧ vrel h (g' i k) x)
    (ho : ∀ k, k ≠ b → w'.heap[k]? = w.heap[k]?) :
    Rel c ((t, .blk b n' sz g' ty) :: h) w' := by
  have hx : Ext h ((t, .blk b n' sz g' ty) :: h) := Ext.same (by rw [e]; rfl)
  have hown : c.own b ∨ c.w0.heap.size ≤ b := by have := hr.holds t; rw [e] at this; exact this.2
  refine ⟨⟨hos.trans hr.fr.os, htp.trans hr.fr.tape, hout.trans hr.fr.output, by rw [hsz]; exact hr.fr.size, fun k hk hn => (ho k ?_).trans (hr.fr.block k hk hn)⟩, fun u => ?_, fun u u' hne => ?_, hr.tabs⟩
  · rintro rfl
    rcases hown with h1 | h1
    · exact hn h1
    · omega
  · rw [fd_cons]
    split
    · exact ⟨⟨cs, hb, hl, fun i k hi hk => let ⟨x, e, r⟩ := hcs i k hi hk; ⟨x, e, vrel_mono hx _ _ r⟩⟩, hown⟩
    · rename_i hu
      refine Ent.holds_heap hx (fun b' he => ho b' ?_) (hr.holds u)
      rintro rfl
      exact Ent.apart_at (hr.apart t u (Ne.symm hu)) (by rw [e]; rfl) he rfl
  · rw [fd_cons, fd_cons]
    by_cases h1 : u = t
    · rw [if_pos h1]
      by_cases h2 : u' = t
      · omega
      · rw [if_neg h2]
        exact Ent.apart_of fun x y e1 e2 => by cases e1; exact Ent.apart_at (hr.apart t u' (fun e => h2 e.symm)) (by rw [e]; rfl) e2
    · rw [if_neg h1]
      by_cases h2 : u' = t
      · rw [if_pos h2]
        exact Ent.apart_of fun x y e1 e2 => by cases e2; exact Ent.apart_at (hr.apart u t h1) e1 (by rw [e]; rfl)
      · rw [if_neg h2]
        exact hr.apart u u' hne

theorem add_plain (b j : Nat) : (⟨b, 0, none⟩ : Addr).add j = ⟨b, j, none⟩ := by unfold Addr.add; split <;> simp_all
theorem add_add (a : Addr) (i j : Nat) : (a.add i).add j = a.add (i + j) := by
  unfold Addr.add
  by_cases hi : i = 0
  · subst hi; simp
  · by_cases hj : j = 0
    · subst hj; simp [hi]
    · have : i + j ≠ 0 := by omega
      simp [hi, hj, this, Nat.add_assoc]

end Go.Proofs.Ytgcnknhfphgfnaa.Sx
