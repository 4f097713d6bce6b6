import Derived.Test.YtdjekplkejkgdaaSxWB
/-
  Last and List, told as the other functions are.
-/
namespace Go.Proofs.Ytdjekplkejkgdaa.Sx
open Go Go.Proofs
open Go.RowKit Go.Shelf
set_option maxRecDepth 100000
set_option linter.unusedSimpArgs false
set_option linter.unusedVariables false

theorem fr_below {P : Program} {w w' : World} (h : Below w.heap.size w w') : Fr (quiet P w) w' := ⟨h.os, h.tape, h.output, h.size, fun k hk _ => h.block k hk⟩
theorem cell_lt {w : World} {b o : Nat} {v : Value} (h : w.cell? ⟨b, o, none⟩ = some v) : b < w.heap.size := World.block_lt_of_cell? w ⟨b, o, none⟩ h

/-- What a shelf that is read holds in the world. -/
theorem lay_of {c : Cx} {h : Hp} {w : World} {p : V} {s : Sh} (hr : Rel c h w) (hs : shelfR h p s) (hN : 0 < s.N) : ∃ bS bA, Lay w bS bA s ∧ bS < w.heap.size ∧ bA < w.heap.size ∧ ∀ x, vrel h p x → x = .pointer (some ⟨bS, 0, none⟩) := by
  obtain ⟨tS, tA, bS, bA, gs, ga, rfl, hne, e1, e2, h1, h2⟩ := hs
  have hro := hr.ro
  have HS := hro.holds tS
  have HA := hro.holds tA
  rw [e1] at HS
  rw [e2] at HA
  have S : ∀ k, k < 8 → ∃ x, w.cell? ⟨bS, k, none⟩ = some x ∧ vrel (roH h) (gs 0 k) x := by
    intro k hk
    obtain ⟨ad, x, e, hc, hv⟩ := Ent.ro_cell hro.fr HS (i := 0) (k := k) (by omega) hk
    cases e
    have ea : (⟨bS, 0, none⟩ : Addr).add (0 * 8 + k) = ⟨bS, k, none⟩ := by unfold Addr.add; split <;> simp_all
    rw [ea] at hc
    exact ⟨x, hc, hv⟩
  have A : ∀ i k, i < s.N → k < 5 → ∃ x, w.cell? ⟨bA, i * 5 + k, none⟩ = some x ∧ vrel (roH h) (ga i k) x := by
    intro i k hi hk
    obtain ⟨ad, x, e, hc, hv⟩ := Ent.ro_cell hro.fr HA (i := i) (k := k) hi hk
    cases e
    have ea : (⟨bA, 0, none⟩ : Addr).add (i * 5 + k) = ⟨bA, i * 5 + k, none⟩ := by unfold Addr.add; split <;> simp_all
    rw [ea] at hc
    exact ⟨x, hc, hv⟩
  refine ⟨bS, bA, ⟨?_, fun i hi => ?_, fun i hi => ?_⟩, ?_, ?_, ?_⟩
  · obtain ⟨x, hc, hv⟩ := S 0 (by omega)
    rw [h1 0 (by omega)] at hv
    obtain ⟨base, sz, er, ex, _⟩ := hv
    rw [e2] at er
    cases er
    rw [hc, ex]
    have ea : (⟨bA, 0, none⟩ : Addr).add 0 = ⟨bA, 0, none⟩ := by unfold Addr.add; split <;> simp_all
    simp [ea]
  · obtain ⟨x, hc, hv⟩ := A i 0 hi (by omega)
    rw [h2 i 0 hi (by omega)] at hv
    rw [show x = _ from hv] at hc
    exact hc
  · obtain ⟨x, hc, hv⟩ := A i 4 hi (by omega)
    rw [h2 i 4 hi (by omega)] at hv
    rw [show x = _ from hv] at hc
    exact hc
  · obtain ⟨x, hc, hv⟩ := S 0 (by omega)
    exact cell_lt hc
  · obtain ⟨x, hc, hv⟩ := A 0 0 hN (by omega)
    exact cell_lt hc
  · rintro x ⟨ad, sz, er, ex⟩
    have er' : (fd tS (roH h)).rf = some (.mem (some ad) sz) := by rw [fd_roH, Ent.toRo_rf]; exact er
    rw [e1] at er'
    cases er'
    rw [ex]
    have ea : (⟨bS, 0, none⟩ : Addr).add (0 * 8 + 0) = ⟨bS, 0, none⟩ := by unfold Addr.add; split <;> simp_all
    simp [ea]

attribute [local go_sem] Oper.semAt_some in
theorem last_no (n : Nat) (bS : Nat) (L : Int) (hL : rightB L = false) (hn : 1 ≤ n) (w : World) :
    CallsIn Fence.wide n Try.prog 17 #[.pointer (some ⟨bS, 0, none⟩), .int .i64 L] w fun e W' => e = .returned (.tuple #[.int .i64 0, .bool false]) ∧ Below w.heap.size w W' := by
  obtain ⟨F, hFe⟩ : ∃ F, F = Fence.wide := ⟨_, rfl⟩
  have hF17 : F.fn 17 := by rw [hFe]; trivial
  have hF32 : F.fn 32 := by rw [hFe]; trivial
  have hro : F.round = none := by rw [hFe]; rfl
  rw [← hFe]
  clear hFe
  refine callsIn_of_wp_marks Try.func17 rfl hF17 ?_ hro
  simp only [Try.ntmps17, List.size_toArray, List.length_cons, List.length_nil, Nat.reduceAdd, Nat.reduceSub, Array.replicate_succ, Array.replicate_zero, List.push_toArray, List.append_toArray, List.nil_append, List.cons_append]
  gi_wp2_with (gi_at_call 32; refine (right_in F (n - 1) hF32 hro L _).mono ?_; rw [hL]; rintro e w' ⟨rfl, rfl⟩)
  have e4 : (((w.alloc (Obj.cells #[Value.pointer (some ⟨bS, 0, none⟩)] 24)).alloc (Obj.cells #[Value.int IntKind.i64 0] 3)).alloc (Obj.cells #[Value.bool false] 4)).cell? ⟨w.heap.size + 1, 0, none⟩ = some (.int .i64 0) := by
    have := cell_new_l (w.alloc (.cells #[.pointer (some ⟨bS, 0, none⟩)] 24)) (.int .i64 0) 3
    rw [World.size_alloc] at this
    exact cell_alloc_l _ this.1
  have e5 : (((w.alloc (Obj.cells #[Value.pointer (some ⟨bS, 0, none⟩)] 24)).alloc (Obj.cells #[Value.int IntKind.i64 0] 3)).alloc (Obj.cells #[Value.bool false] 4)).cell? ⟨w.heap.size + 1 + 1, 0, none⟩ = some (.bool false) := by
    have := cell_new_l ((w.alloc (.cells #[.pointer (some ⟨bS, 0, none⟩)] 24)).alloc (Obj.cells #[Value.int IntKind.i64 0] 3)) (.bool false) 4
    rw [World.size_alloc, World.size_alloc] at this
    exact this.1
  refine ⟨.tuple #[.int .i64 0, .bool false], ?_, rfl, (((Below.refl _ w).alloc (Nat.le_refl _) _).alloc (by simp) _).alloc (by simp; omega) _⟩
  simp [results, Try.f17, go_sem, e4, e5]

attribute [local go_sem] Oper.semAt_some in
theorem list_no (n : Nat) (bS : Nat) (L : Int) (hL : rightB L = false) (hn : 1 ≤ n) (w : World) :
    CallsIn Fence.wide n Try.prog 14 #[.pointer (some ⟨bS, 0, none⟩), .int .i64 L] w fun e W' => e = .returned (.slice none 0 0) ∧ Below w.heap.size w W' := by
  obtain ⟨F, hFe⟩ : ∃ F, F = Fence.wide := ⟨_, rfl⟩
  have hF14 : F.fn 14 := by rw [hFe]; trivial
  have hF32 : F.fn 32 := by rw [hFe]; trivial
  have hro : F.round = none := by rw [hFe]; rfl
  rw [← hFe]
  clear hFe
  refine callsIn_of_wp Try.func14 rfl hF14 ?_ hro
  simp only [Try.ntmps14, List.size_toArray, List.length_cons, List.length_nil, Nat.reduceAdd, Nat.reduceSub, Array.replicate_succ, Array.replicate_zero, List.push_toArray, List.append_toArray, List.nil_append, List.cons_append]
  gi_wp2_with (gi_at_call 32; refine (right_in F (n - 1) hF32 hro L _).mono ?_; rw [hL]; rintro e w' ⟨rfl, hw'⟩; obtain rfl := hw'.symm)
  go_ret
  exact ⟨rfl, Below.refl _ _⟩

/-- Towards the first: these. -/
def LkR (s : Sh) (L : Int) (l : List Nat) : Prop := ∃ xs : List (Nd s), xs.map (·.1) = l ∧ Lk s (gd s L.toNat) (s.u (gd s L.toNat)) xs
def sLast : Spec := fun args h nx K => ∃ (p : V) (s : Sh) (L : Int) (l : List Nat), args = [p, .int .i64 L] ∧ shelfR h p s ∧ 3 ≤ s.N ∧ s.N ≤ 1000 ∧ (rightB L = true → LkR s L l) ∧
  (let r := if rightB L = true then lastOf s l else (0, false); K (.ret (.tup [.int .i64 r.1, .bool r.2])) h nx)
theorem sLast_ok : SpecOK Try.prog 17 sLast := by
  rintro c hc args h nx K ⟨p, s, L, l, rfl, hs, h3, h1, hX, hk⟩ w xs hr hv
  obtain ⟨bS, bA, hLay, hS, hA, hp⟩ := lay_of hr hs (by omega)
  obtain ⟨x, ys, rfl, hx, y, zs, rfl, hy, rfl⟩ := hv
  obtain rfl := hp x hx
  obtain rfl : y = .int .i64 L := hy
  refine .inl ⟨callFunc_enter (cd := _) Try.func17 rfl rfl _ w, ?_⟩
  cases e : rightB L with
  | false =>
    rw [e] at hk
    refine (callsIn_wide.1 (last_no 4 bS L e (by omega) w)).mono ?_
    rintro e w' ⟨rfl, hB⟩
    exact ⟨_, h, nx, hk, hr.after (fr_below (P := c.P) hB), Ext.refl h, _, rfl, _, rfl, _, _, rfl, rfl, _, _, rfl, rfl, rfl⟩
  | true =>
    rw [e] at hk
    obtain ⟨ms, rfl, hl⟩ := hX e
    have hq : 0 ≤ L ∧ L < 2 := by unfold rightB at e; simpa using e
    obtain ⟨q, rfl⟩ : ∃ q : Nat, L = q := ⟨L.toNat, by omega⟩
    refine (callsIn_wide.1 (last_in Fence.wide 4 trivial trivial trivial trivial trivial rfl (by omega) bS bA s q h3 h1 (by omega) ms w hS hA hLay hl)).mono ?_
    rintro e w' ⟨rfl, hB⟩
    exact ⟨_, h, nx, hk, hr.after (fr_below (P := c.P) hB), Ext.refl h, _, rfl, _, rfl, _, _, rfl, rfl, _, _, rfl, rfl, rfl⟩

/-- The cells of such a row. -/
def gL (l : List Nat) (cur : Array Value) : Nat → Nat → V := fun i _ => if hi : i < l.length then .int .i64 (l[i] : Nat) else .raw (cur.getD i undef)
theorem gL_in {l : List Nat} {cur : Array Value} {i k : Nat} (hi : i < l.length) : gL l cur i k = .int .i64 (l[i] : Nat) := dif_pos hi
theorem gL_out {l : List Nat} {cur : Array Value} {i k : Nat} (hi : ¬ i < l.length) : gL l cur i k = .raw (cur.getD i undef) := dif_neg hi
/-- A function that answers a new row of these numbers, or nil. -/
def ansRow (l : List Nat) (h : Hp) (nx : Nat) (K : Out → Hp → Nat → Prop) : Prop :=
  (l = [] → K (.ret .nils) h nx) ∧
  (l ≠ [] → ∀ (b cap : Nat) (g : Nat → Nat → V), l.length ≤ cap → cap ≤ 9223372036854775807 → (∀ i (hi : i < l.length), g i 0 = .int .i64 (l[i] : Nat)) → (∀ i, i < cap → flat (g i 0)) → K (.ret (.slice nx 0 l.length cap)) ((nx, .blk b cap 1 g 3) :: h) (nx + 1))
def sList : Spec := fun args h nx K => ∃ (p : V) (s : Sh) (L : Int) (l : List Nat), args = [p, .int .i64 L] ∧ shelfR h p s ∧ 3 ≤ s.N ∧ s.N ≤ 1000 ∧ l.length ≤ 1000 ∧ fd nx h = .gone ∧ (rightB L = true → LkR s L l.reverse) ∧ (rightB L = false → l = []) ∧ ansRow l h nx K
theorem sList_ok : SpecOK Try.prog 14 sList := by
  rintro c hc args h nx K ⟨p, s, L, l, rfl, hs, h3, h1, hlen, hgone, hX, hX0, hk0, hk1⟩ w xs hr hv
  obtain ⟨bS, bA, hLay, hS, hA, hp⟩ := lay_of hr hs (by omega)
  obtain ⟨x, ys, rfl, hx, y, zs, rfl, hy, rfl⟩ := hv
  obtain rfl := hp x hx
  obtain rfl : y = .int .i64 L := hy
  refine .inl ⟨callFunc_enter (cd := _) Try.func14 rfl rfl _ w, ?_⟩
  cases e : rightB L with
  | false =>
    refine (callsIn_wide.1 (list_no 4 bS L e (by omega) w)).mono ?_
    rintro e' w' ⟨rfl, hB⟩
    exact ⟨_, h, nx, hk0 (hX0 e), hr.after (fr_below (P := c.P) hB), Ext.refl h, _, rfl, rfl⟩
  | true =>
    obtain ⟨ms, hms, hl⟩ := hX e
    have hq : 0 ≤ L ∧ L < 2 := by unfold rightB at e; simpa using e
    obtain ⟨q, rfl⟩ : ∃ q : Nat, L = q := ⟨L.toNat, by omega⟩
    have hml : ms.length ≤ 1000 := by have := congrArg List.length hms; simp at this; omega
    refine (callsIn_wide.1 (list_in Fence.wide 4 trivial trivial trivial trivial trivial trivial rfl (by omega) (fun _ _ _ h => callsIn_wide.2 h) bS bA s q h3 h1 (by omega) ms hml w hS hA hLay hl)).mono ?_
    have hz : (ms.map fun x => (x.1 : Int)).reverse = l.map fun (x : Nat) => (x : Int) := by
      have : (ms.map fun x => (x.1 : Int)) = (ms.map (·.1)).map fun (x : Nat) => (x : Int) := by rw [List.map_map]; rfl
      rw [this, hms]; simp
    rw [hz]
    rintro e' w' ⟨v, rfl, hrow, hB⟩
    have hr2 := hr.after (fr_below (P := c.P) hB)
    rcases hrow with ⟨h0, rfl⟩ | ⟨h0, g, cap, cur, rfl, hg, hgb, hle, hcap, hcs, hcells⟩
    · exact ⟨_, h, nx, hk0 (by simpa using h0), hr2, Ext.refl h, _, rfl, rfl⟩
    · have hle' : l.length ≤ cap := by simpa using hle
      have key := hk1 (by simpa using h0) g cap (gL l cur) hle' hcap (fun i hi => gL_in hi) (fun i _ => by unfold gL; split <;> trivial)
      refine ⟨_, _, nx + 1, key, hr2.add hgone ⟨⟨cur.toList, by simpa using hgb, by simp [hcs], fun i k hi hk => ?_⟩, .inr (Nat.le_trans hr.fr.size hg)⟩ (fun t b' n' sz' g' ty' e' => ?_), Ext.new (by rw [hgone]; rfl), ?_⟩
      · obtain rfl : k = 0 := by omega
        have hic : i < cur.size := by omega
        refine ⟨cur[i], by simp [hic], ?_⟩
        by_cases hi2 : i < l.length
        · rw [gL_in hi2]
          have := hcells i (by simpa using hi2)
          rw [Array.getElem?_eq_getElem hic] at this
          injection this with this
          show cur[i] = _
          rw [this]
          simp
        · rw [gL_out hi2]
          show cur[i] = _
          simp [hic]
      · have := hr.lt e'
        omega
      · refine ⟨_, rfl, some ⟨g, 0, none⟩, 1, ?_, ?_, .inl rfl⟩
        · rw [fd_cons, if_pos rfl]; rfl
        · have ea : (⟨g, 0, none⟩ : Addr).add 0 = ⟨g, 0, none⟩ := by unfold Addr.add; split <;> simp_all
          simp [ea]
end Go.Proofs.Ytdjekplkejkgdaa.Sx
