import Derived.Test.YtgcnknhfphgfnaaSxR
import Derived.Test.YtgcnknhfphgfnaaSxU
import Derived.ChangeSlices
import Derived.Deep.Slices
import Derived.Deep.SlicePairs
set_option linter.unusedVariables false
set_option linter.unusedSimpArgs false
set_option linter.unusedSectionVars false
/-
  The engine, twentieth part: functions that read memory that they are handed; slices among a law's arguments.
-/
namespace Go.Proofs.Ytgcnknhfphgfnaa.Sx
open Go Go.RowKit Go.ChangeShapes Go.WideShapes Go.ChangeAt

/-- A function that reads what it is handed, and answers a value without an address: what it reads is told for each call. -/
theorem specOK_read {P : Program} {f : Nat} {fn : Func} {cd : Code} {T : Tab} {SP : SpT} (hf : P.funcs[f]? = some fn) (hx : (fn.name == "runtime.NumGoroutine") = false) (hb : fn.body = some cd) (hT : TabOK P T) (hS : ∀ p ∈ SP, SpecOK P p.1 p.2) (n : Nat) (s : Spec)
    (hs : ∀ args h nx K, s args h nx K → ∃ G, okG G G ∧ Has (roH h) G ∧ okL G args ∧ args.length ≤ fn.ntmps ∧ ∃ post : Out → Prop, (∀ o, post o → o.flat ∧ K o h nx) ∧ ∀ c, c.P = P → vc ⟨c, fn, T, SP, fun o _ _ => post o⟩ n [.code cd] (argsS args 0) G 0) : SpecOK P f s := by
  intro c hc args h nx K hk w xs hr hv
  obtain ⟨G, ho, hG, hok, hlen, post, hpost, hvc⟩ := hs _ _ _ _ hk
  subst hc
  have hE : EnvOK ⟨quiet c.P w, fn, T, SP, fun o _ _ => post o⟩ := ⟨hT, hS⟩
  have hx : ∀ t, (fd t G).rf.isSome → (fd t (roH h)).rf = (fd t G).rf := fun t ht => by
    rcases hG.at t with e | ⟨e, _⟩
    · rw [e] at ht; cases ht
    · rw [e]
  refine .inl ⟨callFunc_enter hf ‹_› hb _ w, ?_⟩
  refine (enter hE (f := f) hf hb (okL_rel hx args xs hok (vrelL_mono (roH_ext h) args xs hv)) (hr.ro.sub hG ho) hlen n (hvc _ rfl)).mono ?_
  rintro e w' ⟨o, h1, nx1, hp, hr1, hor⟩
  exact ⟨o, h, nx, (hpost o hp).2, hr.after hr1.fr, Ext.refl h, Out.flat_rel (hpost o hp).1 hor⟩

theorem map_add0 (b : Option Addr) (k : Nat) : (b.map fun a => a.add (0 * k)) = b := by cases b <;> simp [Addr.add]

section
variable {P : Program} {W : World}

/-- Entries that are only read, whose cells are without an address, and are there. -/
def roOK (W : World) : Hp → Prop
  | [] => True
  | (_, .ro b n sz g) :: r => (∀ i k, i < n → k < sz → ∃ ad x, b = some ad ∧ W.cell? (ad.add (i * sz + k)) = some x ∧ vrel [] (g i k) x) ∧ roOK W r
  | _ => False
theorem roOK_at : ∀ {G : Hp}, roOK W G → ∀ t, fd t G = .gone ∨ ∃ b n sz g, fd t G = .ro b n sz g ∧ ∀ i k, i < n → k < sz → ∃ ad x, b = some ad ∧ W.cell? (ad.add (i * sz + k)) = some x ∧ vrel [] (g i k) x
  | [], _, t => .inl rfl
  | (u, .ro b n sz g) :: r, H, t => by
    obtain ⟨h1, h2⟩ : (∀ i k, i < n → k < sz → ∃ ad x, b = some ad ∧ W.cell? (ad.add (i * sz + k)) = some x ∧ vrel [] (g i k) x) ∧ roOK W r := H
    rw [fd_cons]
    split
    · exact .inr ⟨b, n, sz, g, rfl, h1⟩
    · exact roOK_at h2 t
  | (u, .blk ..) :: r, H, t => (H : False).elim
  | (u, .gone) :: r, H, t => (H : False).elim
theorem rel_ros {G : Hp} (h : roOK W G) (ht : Tabs (quiet P W) := by intro p hp; exact absurd hp (by simp [seatTabs])) : Rel (quiet P W) G W := by
  have hx : Ext [] G := fun t r e => by simp [fd, Ent.rf] at e
  refine ⟨⟨rfl, rfl, rfl, Nat.le_refl _, fun _ _ _ => rfl⟩, fun t => ?_, fun t t' _ => ?_, ht⟩
  · rcases roOK_at h t with e | ⟨b, n, sz, g, e, hc⟩
    · rw [e]; trivial
    · rw [e]
      intro i k hi hk
      obtain ⟨ad, x, h1, h2, h3⟩ := hc i k hi hk
      exact ⟨ad, x, h1, h2, vrel_mono hx _ _ h3, fun q => q⟩
  · rcases roOK_at h t with e | ⟨b, n, sz, g, e, hc⟩
    · rw [e]; trivial
    · rw [e]; trivial

/-- Numbers one behind the other; pairs of numbers. -/
def g1 (k : IntKind) (f : Nat → Int) : Nat → Nat → V := fun i _ => .int k (f i)
def g2 (k k' : IntKind) (f f' : Nat → Int) : Nat → Nat → V := fun i c => match c with | 0 => .int k (f i) | _ => .int k' (f' i)

variable {H : Type} {enc : TypeId × Value → H} {spare : Nat → Bool} {held : Bool} {base : Nat}
/-- A slice of integers that reads. -/
theorem slice_ints {t e : TypeId} {k : IntKind} {fuel : Nat} {v : Value} {x : DataW H × List MemPlace} (ht : P.underlying t = some (.slice e)) (he : P.underlying e = some (.int k)) (hc : P.cellsOf e = 1)
    (h : DataW.trod enc P W base spare held fuel t [v] = some x) :
    ∃ (b : Option Addr) (n c : Nat) (f : Nat → Int), v = .slice b n c ∧ (b.isSome = true ∨ n = 0 ∧ c = 0) ∧ n ≤ 9223372036854775807 ∧ (∀ i, i < n → k.has (f i)) ∧ ∀ i j, i < n → j < 1 → ∃ ad y, b = some ad ∧ W.cell? (ad.add (i * 1 + j)) = some y ∧ vrel [] (g1 k f i j) y := by
  rcases open_ints ht he hc h with ⟨h1, _⟩ | ⟨a, len, cap, zs, h1, _, h2, h3, h4, _, h5, h6⟩
  · injection h1 with h1
    exact ⟨none, 0, 0, fun _ => 0, h1, .inr ⟨rfl, rfl⟩, by omega, fun i hi => absurd hi (by omega), fun i j hi => absurd hi (by omega)⟩
  · injection h1 with h1
    have hl : len ≤ zs.length := by rw [h4]; split <;> omega
    have : maxLen = 9223372036854775807 := rfl
    refine ⟨some a, len, cap, fun i => zs.getD i 0, h1, .inl rfl, by omega, fun i hi => ?_, fun i j hi hj => ?_⟩
    · have hm : zs.getD i 0 ∈ zs := by
        rw [List.getD_eq_getElem?_getD, List.getElem?_eq_getElem (by omega)]
        exact List.getElem_mem _
      have := h6 _ hm
      simpa [Lit.wf, IntKind.has] using this
    · obtain rfl : j = 0 := by omega
      refine ⟨a, _, rfl, by simpa using h5 i (by omega), rfl⟩

/-- A slice of pairs of integers that reads. -/
theorem slice_pairs {t e : TypeId} {k k' : IntKind} {f0 f1 : Field} {fuel : Nat} {v : Value} {x : DataW H × List MemPlace} (ht : P.underlying t = some (.slice e)) (he : P.underlying e = some (.struct #[f0, f1]))
    (ce : P.cellsOf e = 2) (o0 : f0.offset = 0) (o1 : f1.offset = 1) (c0 : P.cellsOf f0.type = 1) (c1 : P.cellsOf f1.type = 1) (u0 : P.underlying f0.type = some (.int k)) (u1 : P.underlying f1.type = some (.int k'))
    (h : DataW.trod enc P W base spare held fuel t [v] = some x) :
    ∃ (b : Option Addr) (n c : Nat) (f f' : Nat → Int), v = .slice b n c ∧ (b.isSome = true ∨ n = 0 ∧ c = 0) ∧ n ≤ 9223372036854775807 ∧ (∀ i, i < n → k.has (f i) ∧ k'.has (f' i)) ∧ ∀ i j, i < n → j < 2 → ∃ ad y, b = some ad ∧ W.cell? (ad.add (i * 2 + j)) = some y ∧ vrel [] (g2 k k' f f' i j) y := by
  rcases Deep.open_slice_pairs ht he ce o0 o1 c0 c1 h with ⟨h1, _⟩ | ⟨a, len, cap, m, n, V0, V1, D0, D1, P0, P1, h1, _, h2, h3, h4, _, h5⟩
  · injection h1 with h1
    exact ⟨none, 0, 0, fun _ => 0, fun _ => 0, h1, .inr ⟨rfl, rfl⟩, by omega, fun i hi => absurd hi (by omega), fun i j hi => absurd hi (by omega)⟩
  · injection h1 with h1
    have hl : len ≤ m := by rw [h4]; split <;> omega
    have : maxLen = 9223372036854775807 := rfl
    have each : ∀ i, ∃ z z' : Int, i < len → V0 i = .int k z ∧ V1 i = .int k' z' ∧ k.has z ∧ k'.has z' := fun i => by
      by_cases hi : i < len
      · obtain ⟨_, _, t0, t1⟩ := h5 i (by omega)
        obtain ⟨z, q0, r0, w0⟩ := DataW.trod_int u0 t0
        obtain ⟨z', q1, r1, w1⟩ := DataW.trod_int u1 t1
        refine ⟨z, z', fun _ => ⟨by simpa using q0, by simpa using q1, ?_, ?_⟩⟩
        · simpa [Lit.wf, IntKind.has] using w0
        · simpa [Lit.wf, IntKind.has] using w1
      · exact ⟨0, 0, fun h => absurd h hi⟩
    have each := fun i => Classical.indefiniteDescription _ (each i)
    have each2 := fun i => Classical.indefiniteDescription _ (each i).2
    refine ⟨some a, len, cap, fun i => (each i).1, fun i => (each2 i).1, h1, .inl rfl, by omega, fun i hi => ?_, fun i j hi hj => ?_⟩
    · exact ⟨((each2 i).2 hi).2.2.1, ((each2 i).2 hi).2.2.2⟩
    · obtain ⟨q0, q1, _, _⟩ := (each2 i).2 hi
      obtain ⟨c0, c1, _, _⟩ := h5 i (by omega)
      match j, hj with
      | 0, _ => exact ⟨a, _, rfl, by simpa using c0, q0⟩
      | 1, _ => exact ⟨a, _, rfl, c1, q1⟩
end
end Go.Proofs.Ytgcnknhfphgfnaa.Sx
