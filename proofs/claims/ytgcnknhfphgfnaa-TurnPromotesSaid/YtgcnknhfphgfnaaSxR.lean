import Derived.Test.YtgcnknhfphgfnaaSxQ
import Derived.Deep.DeepHandedRow
import Derived.Lib.LaidTab
set_option linter.unusedVariables false
set_option linter.unusedSimpArgs false
/-
  The engine, eighteenth part: a law's arguments are opened; a table that is laid.
-/
namespace Go.Proofs.Ytgcnknhfphgfnaa.Sx
open Go Go.RowKit Go.ChangeShapes Go.WideShapes Go.ChangeAt

section
variable {P : Program} {W : World} {r : Reach} {base : Nat}

def okCells (P : Program) (W : World) (r : Reach) (base : Nat) : List TypeId → List Value → Prop
  | [], [] => True
  | t :: ts, x :: xs => Cell.okWide P W r base t x ∧ okCells P W r base ts xs
  | _, _ => False
theorem okCells_of : ∀ {ts : List TypeId} {xs : List Value}, xs.length = ts.length → (∀ (i : Nat) x, xs[i]? = some x → ∃ u, ts[i]? = some u ∧ Cell.okWide P W r base u x) → okCells P W r base ts xs
  | [], [], _, _ => trivial
  | [], _ :: _, h, _ => by simp at h
  | _ :: _, [], h, _ => by simp at h
  | t :: ts, x :: xs, h, H => by
    refine ⟨?_, okCells_of (by simpa using h) (fun i y hy => by simpa using H (i + 1) y (by simpa using hy))⟩
    obtain ⟨u, hu, hc⟩ := H 0 x rfl
    injection hu with hu
    subst hu
    exact hc
theorem ok_cons {t : TypeId} {ts : List TypeId} {xs : List Value} (h : okCells P W r base (t :: ts) xs) : ∃ y ys, xs = y :: ys ∧ Cell.okWide P W r base t y ∧ okCells P W r base ts ys := by
  cases xs with
  | nil => exact h.elim
  | cons y ys => exact ⟨y, ys, rfl, h.1, h.2⟩
theorem ok_nil {xs : List Value} (h : okCells P W r base [] xs) : xs = [] := by
  cases xs with
  | nil => rfl
  | cons y ys => exact h.elim

theorem open_cells {t : TypeId} {v : Value} {ts : List TypeId} (ht : ∃ d, P.underlying t = some d ∧ isAggB d = true) (hts : P.cellTypes P.depth t = some ts) (hn : P.cellsOf t = ts.length) (h : Value.okWide P W r base t v) :
    ∃ xs : List Value, v = .agg xs.toArray ∧ okCells P W r base ts xs := by
  obtain ⟨d, hd, ha⟩ := ht
  have h' : ∃ cs, v = .agg cs ∧ cs.size = P.cellsOf t ∧ Row.okWide P W r base t cs := by
    unfold Value.okWide at h
    rw [hd] at h
    cases d <;> simp only [isAggB] at ha <;> first | exact h | cases ha
  obtain ⟨cs, rfl, hs, ts', hts', _, hc⟩ := h'
  rw [hts] at hts'
  injection hts' with hts'
  subst hts'
  refine ⟨cs.toList, by simp, okCells_of (by simp [hs, hn]) (fun i x hx => ?_)⟩
  have hx' : cs[i]? = some x := by simpa using hx
  obtain ⟨u, hu, hcu⟩ := hc i x hx'
  have hi : i < ts.length := by have := (Array.getElem?_eq_some_iff.1 hx').1; omega
  rw [Nat.mod_eq_of_lt hi] at hu
  exact ⟨u, hu, hcu⟩

theorem ok_int {t : TypeId} {k : IntKind} {x : Value} (ht : P.underlying t = some (.int k)) (h : Cell.okWide P W r base t x) : ∃ n, x = .int k n ∧ k.has n := by
  unfold Cell.okWide at h
  rw [ht] at h
  have h : Cell.ok P W r base t x := by cases x <;> exact h
  unfold Cell.ok at h
  rw [ht] at h
  cases x <;> first | exact h.elim | skip
  rename_i k' n _
  obtain ⟨rfl, hn⟩ := (show k' = k ∧ k.has n from h)
  exact ⟨n, rfl, hn⟩
theorem ok_bool {t : TypeId} {x : Value} (ht : P.underlying t = some .bool) (h : Cell.okWide P W r base t x) : ∃ b, x = .bool b := by
  unfold Cell.okWide at h
  rw [ht] at h
  have h : Cell.ok P W r base t x := by cases x <;> exact h
  unfold Cell.ok at h
  rw [ht] at h
  cases x <;> first | exact h.elim | exact ⟨_, rfl⟩
theorem ok_slice {t e : TypeId} {x : Value} (ht : P.underlying t = some (.slice e)) (h : Cell.okWide P W r base t x) : ∃ b n c, x = .slice b n c ∧ n ≤ 9223372036854775807 := by
  unfold Cell.okWide at h
  rw [ht] at h
  have h : Cell.ok P W r base t x := by cases x <;> exact h
  unfold Cell.ok at h
  rw [ht] at h
  cases x <;> first | exact h.elim | skip
  rename_i b n c _
  refine ⟨b, n, c, rfl, ?_⟩
  cases b with
  | none =>
    split at h <;> first | exact h.elim | skip
    all_goals rename_i hx
    all_goals first | (injection hx with _ hx _; subst hx; decide) | simp_all
  | some a =>
    have h2 : n ≤ c ∧ (c : Int) ≤ IntKind.i64.max := ⟨h.1, h.2.1⟩
    have : IntKind.i64.max = 9223372036854775807 := rfl
    rw [this] at h2
    omega
theorem val_cell {t : TypeId} {v : Value} (ht : ∃ d, P.underlying t = some d ∧ isAggB d = false) (h : Value.okWide P W r base t v) : Cell.okWide P W r base t v := by
  obtain ⟨d, hd, ha⟩ := ht
  unfold Value.okWide at h
  rw [hd] at h
  cases d <;> simp only [isAggB] at ha <;> first | exact h | cases ha

/-- An array of pairs of integers that reads so holds them, cell for cell. -/
theorem arr_pairs {H : Type} {enc : TypeId × Value → H} {w : World} {b : Nat} {sp : Nat → Bool} {held : Bool} {fuel : Nat} {t e : TypeId} {f0 f1 : Field} {n : Nat} {k : IntKind} {cs : List Value} {prs : List (Int × Int)} {p : List MemPlace}
    (ht : P.underlying t = some (.array n e)) (he : P.underlying e = some (.struct #[f0, f1])) (h0 : P.underlying f0.type = some (.int k)) (h1 : P.underlying f1.type = some (.int k)) (o0 : f0.offset = 0) (o1 : f1.offset = 1)
    (c0 : P.cellsOf f0.type = 1) (c1 : P.cellsOf f1.type = 1) (ce : P.cellsOf e = 2) (ct : P.cellsOf t = 2 * n)
    (h : DataW.trod enc P w b sp held fuel t cs = some (.agg (prs.map fun q => .agg [.lit (.int k q.1), .lit (.int k q.2)]), p)) :
    ∀ (i : Nat) (x : Int × Int), prs[i]? = some x → cs[i * 2]? = some (.int k x.1) ∧ cs[i * 2 + 1]? = some (.int k x.2) := by
  intro i x hx
  cases fuel with
  | zero => simp [DataW.trod] at h
  | succ fuel =>
    simp only [DataW.trod, ht, ce, ct] at h
    split at h
    · rename_i hl
      obtain ⟨xs, hm, hq⟩ := Option.map_eq_some_iff.1 h
      have hxs : xs.map (·.1) = prs.map fun q => (DataW.agg [.lit (.int k q.1), .lit (.int k q.2)] : DataW H) := by
        have := congrArg Prod.fst hq
        simpa using this
      have hxl : xs.length = n := by simpa using Lib.mapM_length hm
      have hi : i < n := by
        have h2 : prs.length = n := by have := congrArg List.length hxs; simp at this; omega
        have := (List.getElem?_eq_some_iff.1 hx).1
        omega
      obtain ⟨d, hd, hf⟩ := Lib.mapM_at hm i i (by simp [hi])
      have h2 : (xs.map (·.1))[i]? = some (DataW.agg [.lit (.int k x.1), .lit (.int k x.2)] : DataW H) := by rw [hxs]; simp [hx]
      rw [List.getElem?_map, hd] at h2
      simp only [Option.map_some, Option.some.injEq] at h2
      cases fuel with
      | zero => simp [DataW.trod] at hf
      | succ fuel =>
        simp only [DataW.trod, he, ce] at hf
        split at hf
        · obtain ⟨ys, hm2, hq2⟩ := Option.map_eq_some_iff.1 hf
          simp only [List.mapM_cons, List.mapM_nil, Option.bind_eq_bind, Option.pure_def, Option.bind_eq_some_iff, Option.some.injEq, o0, o1, c0, c1] at hm2
          obtain ⟨y0, e0, zs, ⟨y1, e1, zs', rfl, rfl⟩, rfl⟩ := hm2
          obtain ⟨z0, q0, r0, _⟩ := DataW.trod_int h0 e0
          obtain ⟨z1, q1, r1, _⟩ := DataW.trod_int h1 e1
          rw [← hq2] at h2
          simp only [List.map_cons, List.map_nil, DataW.agg.injEq, List.cons.injEq, and_true] at h2
          rw [r0, r1] at h2
          simp only [DataW.lit.injEq, Lit.int.injEq, true_and] at h2
          obtain ⟨rfl, rfl⟩ := h2
          constructor
          · have := congrArg (·[0]?) q0
            simpa [List.getElem?_take, List.getElem?_drop] using this
          · have := congrArg (·[0]?) q1
            simpa [List.getElem?_take, List.getElem?_drop] using this
        · cases hf
    · cases h

/-- A law that is walked: what its row asks. -/
theorem calls_of_spec {f : Nat} {fn : Func} {cd : Code} {s : Spec} (hf : P.funcs[f]? = some fn) (hx : (fn.name == "runtime.NumGoroutine") = false) (hb : fn.body = some cd) (hs : SpecOK P f s) {xs : List Value} {args : List V} {G : Hp}
    (hr : Rel (quiet P W) G W) (hv : vrelL G args xs) (h : s args G 0 fun o _ _ => o = .ret (.bool true)) : Calls P f xs.toArray W fun e w' => e = .returned (.bool true) ∧ Fr (quiet P W) w' := by
  rcases hs (quiet P W) rfl args G 0 _ h W xs hr hv with ⟨_, hc⟩ | ⟨x, w', e, _⟩
  · refine hc.mono ?_
    rintro e w' ⟨o, h', nx', rfl, hr', _, x, rfl, rx⟩
    obtain rfl := rx
    exact ⟨rfl, hr'.fr⟩
  · rw [callFunc_enter hf hx hb] at e
    cases e

theorem rel_nil (ht : Tabs (quiet P W) := by intro p hp; exact absurd hp (by simp [seatTabs])) : Rel (quiet P W) [] W := ⟨⟨rfl, rfl, rfl, Nat.le_refl _, fun _ _ _ => rfl⟩, fun _ => trivial, fun _ _ _ => trivial, ht⟩
theorem rel_one {g n sz : Nat} {gf : Nat → Nat → V} (hc : ∀ i k, i < n → k < sz → ∃ x, W.cell? ⟨g, i * sz + k, none⟩ = some x ∧ vrel [] (gf i k) x) (ht : Tabs (quiet P W) := by intro p hp; exact absurd hp (by simp [seatTabs])) : Rel (quiet P W) [(1000 + g, .ro (some ⟨g, 0, none⟩) n sz gf)] W := by
  have hx : Ext [] [(1000 + g, Ent.ro (some ⟨g, 0, none⟩) n sz gf)] := fun t r e => by simp [fd, Ent.rf] at e
  refine ⟨⟨rfl, rfl, rfl, Nat.le_refl _, fun _ _ _ => rfl⟩, fun t => ?_, fun t t' _ => ?_, ht⟩
  · rw [fd_cons]
    split
    · intro i k hi hk
      obtain ⟨x, h1, h2⟩ := hc i k hi hk
      exact ⟨_, x, rfl, by rw [add_plain]; exact h1, vrel_mono hx _ _ h2, fun q => q⟩
    · trivial
  · rw [fd_cons]
    split
    · trivial
    · trivial

end
end Go.Proofs.Ytgcnknhfphgfnaa.Sx
