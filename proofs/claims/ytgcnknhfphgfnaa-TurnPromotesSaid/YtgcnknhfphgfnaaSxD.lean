import Derived.Test.YtgcnknhfphgfnaaSxC
import Derived.ChangeKeysEq
set_option linter.unusedVariables false
set_option linter.unusedSimpArgs false
/-
  The engine, fourth part: an operation that calls nothing.
-/
namespace Go.Proofs.Ytgcnknhfphgfnaa.Sx
open Go

theorem shI_ok {P : Program} {op : BinOp} {k k' : IntKind} {a b : Int} {K : V → Prop} (hs : shI op k a b K) (t : TypeId) (h : Hp) (w : World) : ∃ v y, K v ∧ vrel h v y ∧ (binOp op t (.int k a) (.int k' b)).run P w = .ok y w := by
  cases op <;> simp only [shI] at hs
  all_goals
    obtain ⟨h1, hs⟩ := chk_spec hs
    have h1 : ¬ b < 0 := by have := of_decide_eq_true h1; omega
    exact ⟨_, _, hs, rfl, by simp [binOp, Op.shift, h1]⟩

theorem kindT_cases {P : Program} {t : Nat} {k : Nat} (h : kindT P t = k) (hk : k ≠ 0) : (k = 1 ∧ P.underlying t = some .bool) ∨ (k = 2 ∧ ∃ j, P.underlying t = some (.int j)) ∨ (k = 3 ∧ P.underlying t = some .string) := by
  unfold kindT at h
  split at h
  · exact .inl ⟨h.symm, by assumption⟩
  · exact .inr (.inl ⟨h.symm, _, by assumption⟩)
  · exact .inr (.inr ⟨h.symm, by assumption⟩)
  · exact absurd h.symm hk

theorem eq1_ok {P : Program} {t k : Nat} (hk : kindT P t = k) (hk0 : k ≠ 0) {v u : V} {p : Bool} (h : eq1 k v u = some p) {hp : Hp} {x y : Value} (rx : vrel hp v x) (ry : vrel hp u y) (d : Nat) (w : World) :
    (Op.equalIn (d + 1) t x y).run P w = .ok p w := by
  rcases kindT_cases hk hk0 with ⟨rfl, hu⟩ | ⟨rfl, j, hu⟩ | ⟨rfl, hu⟩
  · cases v <;> simp [eq1] at h
    cases u <;> simp at h
    obtain rfl := rx; obtain rfl := ry; subst h
    exact run_equalIn_bool' w d t _ _ hu
  · cases v <;> simp [eq1] at h
    cases u <;> simp at h
    split at h
    · rename_i hk'
      have hk' := of_decide_eq_true hk'
      subst hk'
      simp at h
      obtain rfl := rx; obtain rfl := ry; subst h
      exact run_equalIn_int w d t _ _ _ _ hu
    · cases h
  · cases v <;> simp [eq1] at h
    cases u <;> simp at h
    obtain rfl := rx; obtain rfl := ry; subst h
    exact run_equalIn_string w d t _ _ hu

theorem part_one {P : Program} {t k : Nat} (hk : kindT P t = k) (hk0 : k ≠ 0) {xs : List Value} {off : Nat} {x : Value} (hx : xs[off]? = some x) (w : World) : (part t xs.toArray off).run P w = .ok x w := by
  have : ∃ d, P.underlying t = some d ∧ isAggB d = false := by
    rcases kindT_cases hk hk0 with ⟨rfl, hu⟩ | ⟨rfl, j, hu⟩ | ⟨rfl, hu⟩
    · exact ⟨_, hu, rfl⟩
    · exact ⟨_, hu, rfl⟩
    · exact ⟨_, hu, rfl⟩
  obtain ⟨d, hu, ha⟩ := this
  have hag : (isAgg t).run P w = .ok false w := by
    simp only [isAgg, underlying, Sem.run_bind, run_program, Result.andThen_ok, hu, Sem.run_pure]
    cases d <;> simp_all [isAggB]
  simp [part, hag, hx]

theorem eqFields_ok {P : Program} {hp : Hp} (d : Nat) (w : World) : ∀ (fs : List Field) (cks : List Nat) (l m : List V) (xs ys : List Value) (j : Nat) (K : Bool → Prop), fs.map (fun f => kindT P f.type) = cks → (∀ f ∈ fs, f.name ≠ "_") → ¬ 0 ∈ cks →
    fs.map (·.offset) = List.range' j fs.length → vrelL hp l (xs.drop j) → vrelL hp m (ys.drop j) → eqC cks l m K → ∃ p, K p ∧ (Op.eqFields (d + 1) xs.toArray ys.toArray fs).run P w = .ok p w
  | [], cks, l, m, xs, ys, j, K, hk, _, _, _, _, _, he => by
    simp at hk
    subst hk
    cases l with
    | nil => cases m with
      | nil => exact ⟨true, he, by simp [Op.eqFields]⟩
      | cons => exact he.elim
    | cons => exact he.elim
  | f :: fs, cks, l, m, xs, ys, j, K, hk, hn, h0, ho, rx, ry, he => by
    cases cks with
    | nil => simp at hk
    | cons c cks =>
      simp only [List.map_cons, List.cons.injEq] at hk
      simp only [List.map_cons, List.length_cons, List.range'_succ, List.cons.injEq] at ho
      simp only [List.mem_cons, not_or] at h0
      cases l with
      | nil => cases m <;> exact he.elim
      | cons v l =>
        cases m with
        | nil => exact he.elim
        | cons u m =>
          simp only [eqC] at he
          split at he
          · rename_i p hp1
            obtain ⟨x, xs', ex, rv, rl⟩ := rx
            obtain ⟨y, ys', ey, ru, rm⟩ := ry
            have hx : xs[j]? = some x := by have := congrArg (·[0]?) ex; simpa using this
            have hy : ys[j]? = some y := by have := congrArg (·[0]?) ey; simpa using this
            have hxd : xs' = xs.drop (j + 1) := by have := congrArg List.tail ex; simpa using this.symm
            have hyd : ys' = ys.drop (j + 1) := by have := congrArg List.tail ey; simpa using this.symm
            subst hxd hyd
            obtain ⟨q, hq, hrun⟩ := eqFields_ok d w fs cks l m xs ys (j + 1) (fun q => K (p && q)) hk.2 (fun g hg => hn g (by simp [hg])) h0.2 ho.2 rl rm he
            refine ⟨_, hq, ?_⟩
            have hnm := hn f (by simp)
            simp only [Op.eqFields, hnm, ne_eq, not_false_eq_true, if_true, Sem.run_bind, ho.1, part_one hk.1 (Ne.symm h0.1) hx, part_one hk.1 (Ne.symm h0.1) hy, Result.andThen_ok, eq1_ok hk.1 (Ne.symm h0.1) hp1 rv ru]
            cases p <;> simp [hrun]
          · exact he.elim

theorem eqItems_ok {P : Program} {hp : Hp} (d : Nat) {e k : Nat} (hk : kindT P e = k) (hk0 : k ≠ 0) (w : World) : ∀ (n j : Nat) (l m : List V) (xs ys : List Value) (K : Bool → Prop), vrelL hp l (xs.drop j) → vrelL hp m (ys.drop j) →
    eqC (List.replicate n k) l m K → ∃ p, K p ∧ (Op.eqItems (d + 1) e 1 xs.toArray ys.toArray (List.range' j n)).run P w = .ok p w
  | 0, j, l, m, xs, ys, K, _, _, he => by
    cases l with
    | nil => cases m with
      | nil => exact ⟨true, he, by simp [Op.eqItems]⟩
      | cons => exact he.elim
    | cons => exact he.elim
  | n + 1, j, l, m, xs, ys, K, rx, ry, he => by
    simp only [List.replicate_succ] at he
    cases l with
    | nil => cases m <;> exact he.elim
    | cons v l =>
      cases m with
      | nil => exact he.elim
      | cons u m =>
        simp only [eqC] at he
        split at he
        · rename_i p hp1
          obtain ⟨x, xs', ex, rv, rl⟩ := rx
          obtain ⟨y, ys', ey, ru, rm⟩ := ry
          have hx : xs[j]? = some x := by have := congrArg (·[0]?) ex; simpa using this
          have hy : ys[j]? = some y := by have := congrArg (·[0]?) ey; simpa using this
          have hxd : xs' = xs.drop (j + 1) := by have := congrArg List.tail ex; simpa using this.symm
          have hyd : ys' = ys.drop (j + 1) := by have := congrArg List.tail ey; simpa using this.symm
          subst hxd hyd
          obtain ⟨q, hq, hrun⟩ := eqItems_ok d hk hk0 w n (j + 1) l m xs ys (fun q => K (p && q)) rl rm he
          refine ⟨_, hq, ?_⟩
          simp only [List.range'_succ, Op.eqItems, Nat.mul_one, Sem.run_bind, part_one hk hk0 hx, part_one hk hk0 hy, Result.andThen_ok, eq1_ok hk hk0 hp1 rv ru]
          cases p <;> simp [hrun]
        · exact he.elim

theorem eqB_ok {P : Program} {T : Tab} (hT : TabOK P T) {t : TypeId} {v u : V} {K : Bool → Prop} (hs : eqB T t v u K) {hp : Hp} {x y : Value} (rx : vrel hp v x) (ry : vrel hp u y) (op : BinOp) (o1 o2 : Operand) (w : World) :
    ∃ p, K p ∧ (Op.equal t x y).run P w = .ok p w ∧ (eqGuard op t o1 o2 x y).run P w = .ok () w := by
  unfold eqB at hs
  split at hs
  · rename_i ti ht
    obtain ⟨d, hd, k1, k2, k3, k4, k5, k7⟩ := ty_kd hT ht
    split at hs
    · rename_i a b
      obtain ⟨h1, hs⟩ := chk_spec hs
      have h1 : ti.kd = 1 := Nat.eq_of_beq_eq_true h1
      have := k1 h1
      subst this
      obtain rfl := rx; obtain rfl := ry
      exact ⟨_, hs, run_equal_bool w t _ _ hd, by cases op <;> simp [eqGuard]⟩
    · obtain ⟨h1, hs⟩ := chk_spec hs
      obtain rfl := rx; obtain rfl := ry
      exact ⟨_, hs, run_equal_pointer_nil w t none (ty_ptr hT ht (Nat.eq_of_beq_eq_true h1)), by cases op <;> simp [eqGuard]⟩
    · obtain ⟨h1, hs⟩ := chk_spec hs
      obtain ⟨ad, sz, _, rfl⟩ := rx
      obtain rfl := ry
      exact ⟨_, hs, run_equal_pointer_nil w t _ (ty_ptr hT ht (Nat.eq_of_beq_eq_true h1)), by cases op <;> simp [eqGuard]⟩
    · rename_i l m
      obtain ⟨h1, hs⟩ := chk_spec hs
      obtain ⟨xs, rfl, rl⟩ := rx
      obtain ⟨ys, rfl, rm⟩ := ry
      simp only [Bool.or_eq_true] at h1
      rcases h1 with h1 | h1
      · have h1 : ti.kd = 4 := Nat.eq_of_beq_eq_true h1
        obtain ⟨fs, rfl⟩ := k4 (.inl h1)
        obtain ⟨_, _, H⟩ := ty_struct hT ht hd
        obtain ⟨a1, a2, a3, a4, a5, a6⟩ := H h1
        obtain ⟨p, hp', hrun⟩ := eqFields_ok (P := P) (hp := hp) 9998 w fs.toList ti.cks l m xs ys 0 K a5 (fun f hf => (a3 f hf).1) a6 (by rw [a4, List.range_eq_range']) (by simpa using rl) (by simpa using rm) hs
        have hf : P.fieldsOf t = fs := by simp [Program.fieldsOf, hd]
        refine ⟨p, hp', ?_, run_eqGuard_agg w op t o1 o2 _ _ a2⟩
        simp only [Op.equal, Op.maxDepth]
        rw [run_equalIn_struct w 9999 t _ _ (by rw [hf]; exact hd) a1, hf]
        exact hrun
      · have h1 : ti.kd = 5 := Nat.eq_of_beq_eq_true h1
        obtain ⟨n, e, rfl⟩ := k5 (.inl h1)
        obtain ⟨b1, b2, H⟩ := ty_array hT ht hd
        obtain ⟨a1, a2, a3, a4, a5⟩ := H h1
        obtain ⟨i, hi⟩ := Option.isSome_iff_exists.1 a2
        have hk0 : n = 0 ∨ kindT P e ≠ 0 := by
          rcases Nat.eq_zero_or_pos n with h | h
          · exact .inl h
          · refine .inr fun hk => a5 ?_
            rw [← a4, hk]
            exact List.mem_replicate.2 ⟨by omega, rfl⟩
        rw [← a4] at hs
        refine (fun (h : ∃ p, K p ∧ (Op.eqItems 9999 e 1 xs.toArray ys.toArray (List.range' 0 n)).run P w = .ok p w) => ?_) ?_
        · obtain ⟨p, hp', hrun⟩ := h
          refine ⟨p, hp', ?_, run_eqGuard_agg w op t o1 o2 _ _ a1⟩
          simp only [Op.equal, Op.maxDepth]
          rw [run_equalIn_array (P := P) w 9999 _ _ hd hi, a3, List.range_eq_range']
          exact hrun
        · rcases hk0 with rfl | hk0
          · cases l with
            | nil => cases m with
              | nil => exact ⟨true, hs, by simp [Op.eqItems]⟩
              | cons => exact hs.elim
            | cons => exact hs.elim
          · exact eqItems_ok 9998 rfl hk0 w n 0 l m xs ys K (by simpa using rl) (by simpa using rm) hs
    · exact hs.elim
  · exact hs.elim

end Go.Proofs.Ytgcnknhfphgfnaa.Sx
