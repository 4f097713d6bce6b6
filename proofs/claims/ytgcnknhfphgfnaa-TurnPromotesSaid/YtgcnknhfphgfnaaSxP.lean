import Derived.Test.YtgcnknhfphgfnaaSxG
import Derived.Laws.AppendOwn
set_option linter.unusedVariables false
set_option linter.unusedSimpArgs false
/-
  The engine: append.
-/
namespace Go.Proofs.Ytgcnknhfphgfnaa.Sx
open Go

def zAt (z : List V) (k : Nat) : V := match z[k]? with | some v => v | none => und
/-- The cells of a new row: l old ones, m new ones, and noughts. -/
def appG (l m iv iu : Nat) (gv gu : Nat → Nat → V) (z : Nat → V) : Nat → Nat → V := fun i k =>
  match Nat.blt i l with
  | true => gv (addI iv i) k
  | false => (match Nat.blt i (l + m) with | true => gu (addI iu (i - l)) k | false => z k)
/-- The cells of a row of which m from o on are written. -/
def appR (o m iu : Nat) (g gu : Nat → Nat → V) : Nat → Nat → V := fun i k =>
  match Nat.ble o i && Nat.blt i (o + m) with
  | true => gu (addI iu (i - o)) k
  | false => g i k

def appS (T : Tab) (ts : List TypeId) (v u : V) (h : Hp) (nx : Nat) (K : V → Hp → Nat → Prop) : Prop :=
  match ts with
  | [t, t'] => chk (Nat.beq t t') (match look t T with
    | some ti => chk (Nat.beq ti.kd 7) (match look ti.el T with
      | some te => chk (te.zero.length.beq te.n && Nat.ble 1 te.n) (match u with
        | .nils => (match v with
          | .nils => K .nils h nx
          | .slice tv iv l c => chk (Nat.ble l c) (K (.slice tv iv l c) h nx)
          | _ => False)
        | .slice tu iu m _ => br (Nat.ble 1 m) (getM h tu fun nu szu gu => chk (Nat.beq te.n szu && Nat.ble (iu + m) nu) (match v with
          | .nils => chk (Nat.ble m 134217728) (fd nx h = .gone ∧ ∀ b cap : Nat, m ≤ cap → cap ≤ 9223372036854775807 → K (.slice nx 0 m cap) ((nx, .blk b cap te.n (appG 0 m 0 iu gu gu (zAt te.zero)) ti.el) :: h) (nx + 1))
          | .slice tv iv l c => br (Nat.ble (l + m) c)
            (match fd tv h with
              | .blk b n sz g ty => chk (Nat.beq te.n sz && Nat.ble (iv + l + m) n) ((∀ i k, i < m → k < te.n → scal (gu (iu + i) k) = true) ∧ K (.slice tv iv (l + m) c) ((tv, .blk b n sz (appR (iv + l) m iu g gu) ty) :: h) nx)
              | _ => False)
            (chk (Nat.ble (l + m) 134217728) (getM h tv fun nv szv gv => chk (Nat.beq te.n szv && Nat.ble (iv + l) nv) (fd nx h = .gone ∧ ∀ b cap : Nat, l + m ≤ cap → cap ≤ 9223372036854775807 → K (.slice nx 0 (l + m) cap) ((nx, .blk b cap te.n (appG l m iv iu gv gu (zAt te.zero)) ti.el) :: h) (nx + 1))))
          | _ => False))
          (match v with
          | .nils => K .nils h nx
          | .slice tv iv l c => chk (Nat.ble l c) (K (.slice tv iv l c) h nx)
          | _ => False)
        | _ => False)
      | none => False)
    | none => False)
  | _ => False

/-- What lies behind a tag, as a list of values from a place on. -/
theorem row_at {c : Cx} {h : Hp} {w : World} {tag n sz : Nat} {g : Nat → Nat → V} {base : Option Addr} (hc : ∀ k, k < n * sz → ∃ ad x, base = some ad ∧ w.cell? (ad.add k) = some x ∧ vrel h (g (k / sz) (k % sz)) x)
    {ad : Addr} (hb : base = some ad) (i m : Nat) (hi : i + m ≤ n) (hs : 0 < sz) :
    ∃ news : List Value, news.length = m * sz ∧ (∀ j v, news[j]? = some v → w.cell? ((ad.add (i * sz)).add j) = some v) ∧ (∀ a k, a < m → k < sz → ∃ x, news[a * sz + k]? = some x ∧ vrel h (g (i + a) k) x) := by
  have hx : ∀ k, ∃ x, k < n * sz → w.cell? (ad.add k) = some x ∧ vrel h (g (k / sz) (k % sz)) x := fun k => by
    by_cases hk : k < n * sz
    · obtain ⟨ad', x, e, h1, h2⟩ := hc k hk
      rw [hb] at e
      injection e with e
      subst e
      exact ⟨x, fun _ => ⟨h1, h2⟩⟩
    · exact ⟨undef, fun q => absurd q hk⟩
  have hx := fun k => Classical.indefiniteDescription _ (hx k)
  obtain ⟨F, hF⟩ : ∃ F : Nat → Value, ∀ k, k < n * sz → w.cell? (ad.add k) = some (F k) ∧ vrel h (g (k / sz) (k % sz)) (F k) := ⟨fun k => (hx k).1, fun k hk => (hx k).2 hk⟩
  clear hx
  have hle : i * sz + m * sz ≤ n * sz := by rw [← Nat.add_mul]; exact Nat.mul_le_mul_right _ hi
  refine ⟨(List.range (m * sz)).map fun j => F (i * sz + j), by simp, fun j v hj => ?_, fun a k ha hk => ?_⟩
  · rw [List.getElem?_map] at hj
    obtain ⟨j', hj', rfl⟩ := Option.map_eq_some_iff.1 hj
    obtain ⟨h1, h2⟩ := List.getElem?_eq_some_iff.1 hj'
    simp at h1 h2
    subst h2
    rw [add_add]
    exact (hF (i * sz + j) (by omega)).1
  · have hlt : a * sz + k < m * sz := by
      have : (a + 1) * sz ≤ m * sz := Nat.mul_le_mul_right _ ha
      rw [Nat.add_mul] at this; omega
    refine ⟨F (i * sz + (a * sz + k)), by simp [hlt], ?_⟩
    have h2 := (hF (i * sz + (a * sz + k)) (by omega)).2
    have e : i * sz + (a * sz + k) = (i + a) * sz + k := by rw [Nat.add_mul]; omega
    rw [e]
    rw [e, place_div hs, place_mod, Nat.div_eq_of_lt hk, Nat.mod_eq_of_lt hk, Nat.add_zero] at h2
    exact h2

theorem zero_cells {h : Hp} {z : List V} {zs : Array Value} (r : vrelL h z zs.toList) (hz : 0 < z.length) (n i k : Nat) (hi : i < n) (hk : k < z.length) : ∃ x, (Builtin.zeroCells zs n)[i * z.length + k]? = some x ∧ vrel h (zAt z k) x := by
  have hzs : zs.size = z.length := by rw [← vrelL_length r]; simp
  have hlt : i * z.length + k < n * z.length := by
    have : (i + 1) * z.length ≤ n * z.length := Nat.mul_le_mul_right _ hi
    rw [Nat.add_mul] at this; omega
  obtain ⟨x, e, rx⟩ := vrelL_at r k z[k] (List.getElem?_eq_getElem hk)
  have e1 : z[k]? = some z[k] := List.getElem?_eq_getElem hk
  refine ⟨x, ?_, by unfold zAt; rw [e1]; exact rx⟩
  have e : zs[k]? = some x := by simpa using e
  have hk' : k < zs.size := by omega
  have e2 : zs[k]! = x := by
    have := (Array.getElem?_eq_some_iff.1 e).2
    rw [← this]
    simp [hk']
  unfold Builtin.zeroCells
  rw [Array.getElem?_map, hzs, Array.getElem?_range]
  simp only [hlt, if_true, Option.map_some, Option.some.injEq]
  rw [Nat.mul_comm i, Nat.mul_add_mod, Nat.mod_eq_of_lt hk, e2]

theorem blt_iff {a b : Nat} : Nat.blt a b = true ↔ a < b := by simp [Nat.blt, Nat.ble_eq, Nat.succ_le_iff]

theorem appS_ok {P : Program} {T : Tab} (hT : TabOK P T) {cx : Cx} {h : Hp} {w : World} (hr : Rel cx h w) {ts : Array TypeId} {v u : V} {nx : Nat} {K : V → Hp → Nat → Prop} (hs : appS T ts.toList v u h nx K) {x y : Value} (rx : vrel h v x) (ry : vrel h u y) (ty : TypeId) :
    ∃ q h' nx' w' z, K q h' nx' ∧ Rel cx h' w' ∧ Ext h h' ∧ vrel h' q z ∧ (Builtin.append_ ts ty #[x, y]).run P w = .ok z w' := by
  unfold appS at hs
  split at hs
  rotate_left
  · exact hs.elim
  rename_i t t' ets
  obtain ⟨h0, hs'⟩ := chk_spec hs
  clear hs
  have hs := hs'
  clear hs'
  obtain rfl : t = t' := Nat.eq_of_beq_eq_true h0
  obtain rfl : ts = #[t, t] := by apply Array.ext'; rw [ets]
  split at hs
  rotate_left
  · exact hs.elim
  rename_i ti ht
  obtain ⟨h1, hs'⟩ := chk_spec hs
  clear hs
  have hs := hs'
  clear hs'
  obtain ⟨d, hd, _, _, _, _, _, k7⟩ := ty_kd hT ht
  obtain ⟨e, rfl⟩ := k7 (Nat.eq_of_beq_eq_true h1)
  obtain ⟨i, hi, hby⟩ := ty_bytes hT ht hd
  have e2 := ty_slice hT ht hd
  subst e2
  split at hs
  rotate_left
  · exact hs.elim
  rename_i te hte
  obtain ⟨h2, hs'⟩ := chk_spec hs
  clear hs
  have hs := hs'
  clear hs'
  simp only [Bool.and_eq_true] at h2
  have z1 : te.zero.length = te.n := Nat.eq_of_beq_eq_true h2.1
  have z2 : 1 ≤ te.n := Nat.le_of_ble_eq_true h2.2
  obtain ⟨i', zv, hi', hzv, rz⟩ := hT.2 _ (look_mem hte) z1
  have ei : i' = i := by rw [hi] at hi'; injection hi' with hi'; exact hi'.symm
  subst ei
  obtain ⟨i2, d2, hi2, hd2, hn2, _⟩ := ty_info hT hte
  have ei : i2 = i' := by rw [hi] at hi2; injection hi2 with hi2; exact hi2.symm
  subst ei
  have rz' : vrelL h te.zero zv.cells.toList := vrelL_nil rz
  have hzl : zv.cells.size = te.n := by rw [← z1, ← vrelL_length rz']; simp
  split at hs
  · obtain rfl := ry
    split at hs
    · obtain rfl := rx
      refine ⟨.nils, h, nx, w, .slice none 0 0, hs, hr, Ext.refl h, rfl, ?_⟩
      simp [Builtin.append_, run_underlying hd, sizeOf, typeInfo, hi, Builtin.lenOf, Builtin.firstCells]
    · rename_i tv iv l c
      obtain ⟨hlc, hs'⟩ := chk_spec hs
      clear hs
      have hs := hs'
      clear hs'
      have hlc : l ≤ c := Nat.le_of_ble_eq_true hlc
      obtain ⟨base, sz, e1, rfl, e3⟩ := rx
      refine ⟨_, h, nx, w, _, hs, hr, Ext.refl h, ⟨base, sz, e1, rfl, e3⟩, ?_⟩
      cases base <;> simp [Builtin.append_, run_underlying hd, sizeOf, typeInfo, hi, Builtin.lenOf, Builtin.firstCells, hlc, storeCells]
    · exact hs.elim
  · rename_i tu iu m cu
    rcases br_spec hs with ⟨h3, hs'⟩ | ⟨h3, hs'⟩
    rotate_left
    · clear hs
      have hs := hs'
      clear hs'
      have hm0 : m = 0 := by
        cases m with
        | zero => rfl
        | succ m => rw [Nat.ble_eq_true_of_le (by omega)] at h3; cases h3
      subst hm0
      obtain ⟨bu, szu, _, rfl, _⟩ := ry
      have hfc : (Builtin.firstCells i2.size 0 (.slice (bu.map fun a => a.add (iu * szu)) 0 cu)).run P w = .ok #[] w := by
        cases bu with
        | none => exact run_firstCells_none (P := P) w _ _ _ _
        | some a => exact run_firstCells_some (P := P) w i2.size 0 _ 0 cu [] (by simp) (fun j v hj => by simp at hj)
      split at hs
      · obtain rfl := rx
        refine ⟨.nils, h, nx, w, .slice none 0 0, hs, hr, Ext.refl h, rfl, ?_⟩
        simp [Builtin.append_, run_underlying hd, sizeOf, typeInfo, hi, Builtin.lenOf, hfc]
      · rename_i tv iv l c
        obtain ⟨hlc, hs'⟩ := chk_spec hs
        clear hs
        have hs := hs'
        clear hs'
        have hlc : l ≤ c := Nat.le_of_ble_eq_true hlc
        obtain ⟨base, sz, e1, rfl, e3⟩ := rx
        refine ⟨_, h, nx, w, _, hs, hr, Ext.refl h, ⟨base, sz, e1, rfl, e3⟩, ?_⟩
        cases base <;> simp [Builtin.append_, run_underlying hd, sizeOf, typeInfo, hi, Builtin.lenOf, hfc, hlc, storeCells]
      · exact hs.elim
    clear hs
    have hs := hs'
    clear hs'
    have hm : 1 ≤ m := Nat.le_of_ble_eq_true h3
    obtain ⟨nu, szu, gu, bu, hs', hrf, hcu⟩ := getM_ok hr hs
    clear hs
    have hs := hs'
    clear hs'
    obtain ⟨h4, hs'⟩ := chk_spec hs
    clear hs
    have hs := hs'
    clear hs'
    simp only [Bool.and_eq_true] at h4
    obtain rfl : te.n = szu := Nat.eq_of_beq_eq_true h4.1
    have h5 : iu + m ≤ nu := Nat.le_of_ble_eq_true h4.2
    obtain ⟨bu', sz', e1, rfl, _⟩ := ry
    rw [hrf] at e1
    injection e1 with e1
    injection e1 with e1 e1'
    subst e1 e1'
    have hpos : 0 < nu * te.n := Nat.mul_pos (by omega) (by omega)
    obtain ⟨adu, _, ebu, _⟩ := hcu 0 hpos
    subst ebu
    obtain ⟨news, nl, nc, nr⟩ := row_at (c := cx) (tag := tu) hcu rfl iu m h5 (by omega)
    simp only [Option.map_some]
    have nlen : news.length = m * i2.size := by rw [nl, hn2]
    split at hs
    · obtain rfl := rx
      obtain ⟨h6, hfd, hs'⟩ := chk_spec hs
      clear hs
      have hs := hs'
      clear hs'
      have h6 : m ≤ 134217728 := Nat.le_of_ble_eq_true h6
      have hn : (fd nx h).rf = none := by rw [hfd]; rfl
      have hb48 : m * i2.bytes ≤ 134217728 * 1048576 := Nat.mul_le_mul h6 hby
      have hrun := run_append_nil (P := P) w t ty ti.el i2 zv hd hi hzv (adu.add (iu * te.n)) m cu news nlen nc (by omega) (by omega) (by omega)
      have hge := grownCap_ge w m 0 ti.el
      have hcm : grownCap w m 0 ti.el ≤ maxLen := grownCap_le_maxLen w m 0 ti.el (by simp only [maxLen]; omega)
      refine ⟨_, _, _, _, _, hs w.heap.size (grownCap w m 0 ti.el) hge (by simp only [maxLen] at hcm; omega), ?_, Ext.new hn, ⟨some ⟨w.heap.size, 0, none⟩, te.n, by rw [fd_cons, if_pos rfl]; rfl, by simp [Addr.add], .inl rfl⟩, hrun⟩
      have := hr.drew.alloc (nx := nx) hn (n := grownCap w m 0 ti.el) (sz := te.n) (g := appG 0 m 0 iu gu gu (zAt te.zero)) (ty := ti.el) (cs := news ++ (Builtin.zeroCells zv.cells (grownCap w m 0 ti.el - m)).toList) (by
        simp only [List.length_append, Array.length_toList, Builtin.zeroCells, Array.size_map, Array.size_range, nl, hzl]
        rw [← Nat.add_mul]; congr 1; omega) (fun a k ha hk => ?_)
      · have e : (news.toArray ++ Builtin.zeroCells zv.cells (grownCap w m 0 ti.el - m)) = (news ++ (Builtin.zeroCells zv.cells (grownCap w m 0 ti.el - m)).toList).toArray := by apply Array.ext'; simp
        rw [e]
        exact this
      · have hb0 : Nat.blt a 0 = false := rfl
        unfold appG
        simp only [hb0, Nat.zero_add, Nat.sub_zero]
        by_cases ham : a < m
        · obtain ⟨x, e1, e2⟩ := nr a k ham hk
          rw [(blt_iff (a := a) (b := m)).2 ham]
          refine ⟨x, ?_, by rw [addI_eq]; exact e2⟩
          rw [List.getElem?_append_left (List.getElem?_eq_some_iff.1 e1).1]
          exact e1
        · have : Nat.blt a m = false := by cases hq : Nat.blt a m with | true => exact absurd (blt_iff.1 hq) ham | false => rfl
          rw [this]
          obtain ⟨x, e1, e2⟩ := zero_cells rz' (by omega) (grownCap w m 0 ti.el - m) (a - m) k (by omega) (by omega)
          refine ⟨x, ?_, e2⟩
          have hle : m * te.n ≤ a * te.n := Nat.mul_le_mul_right _ (by omega)
          rw [List.getElem?_append_right (by omega), nl]
          rw [z1, Nat.sub_mul] at e1
          have e3 : a * te.n + k - m * te.n = a * te.n - m * te.n + k := by omega
          rw [e3]
          simpa using e1
    · rename_i tv iv l c
      rcases br_spec hs with ⟨h6, hs⟩ | ⟨h6, hs⟩
      · have h6 : l + m ≤ c := Nat.le_of_ble_eq_true h6
        split at hs
        · rename_i b n sz g tyb hfd
          obtain ⟨h7, hsc, hs'⟩ := chk_spec hs
          clear hs
          have hs := hs'
          clear hs'
          simp only [Bool.and_eq_true] at h7
          obtain rfl : te.n = sz := Nat.eq_of_beq_eq_true h7.1
          have h8 : iv + l + m ≤ n := Nat.le_of_ble_eq_true h7.2
          have H := hr.holds tv
          rw [hfd] at H
          obtain ⟨⟨cs, e1, e2, e3⟩, _⟩ := H
          obtain ⟨bv, szv, q1, rfl, q3⟩ := rx
          rw [hfd] at q1
          injection q1 with q1
          injection q1 with q1 q1'
          subst q1 q1'
          have hfc := run_firstCells_some (P := P) w te.n m (adu.add (iu * te.n)) m cu news nl nc
          have hle : (iv + l) * te.n + m * te.n ≤ n * te.n := by rw [← Nat.add_mul]; exact Nat.mul_le_mul_right _ h8
          have h1c : ∀ v ∈ news, v.oneCell' = true := fun v hv => by
            obtain ⟨j, hj, rfl⟩ := List.getElem_of_mem hv
            have hj' : j < m * te.n := by omega
            have hdv : j / te.n < m := Nat.div_lt_of_lt_mul (by rw [Nat.mul_comm]; exact hj')
            have hmd : j % te.n < te.n := Nat.mod_lt _ (by omega)
            obtain ⟨x, ex, rx⟩ := nr (j / te.n) (j % te.n) hdv hmd
            rw [show j / te.n * te.n + j % te.n = j from by rw [Nat.mul_comm]; exact Nat.div_add_mod j te.n, List.getElem?_eq_getElem hj] at ex
            injection ex with ex
            rw [ex]
            exact scal_one rx (hsc _ _ hdv hmd)
          have hst := run_storeCells_at (P := P) b ((iv + l) * te.n) tyb news 0 cs.toArray w e1 (by simp [nl, e2]; omega) h1c
          simp only [Nat.add_zero] at hst
          refine ⟨_, _, nx, w.setRow b (cs.take ((iv + l) * te.n) ++ news ++ cs.drop ((iv + l) * te.n + news.length)).toArray, .slice (some ⟨b, iv * te.n, none⟩) (l + m) c, hs, hr.put hfd (n' := n) (g' := appR (iv + l) m iu g gu) rfl rfl rfl (by simp) (setRow_heap w b _ _ tyb _ e1) ?_ ?_ (fun k' hk' => setRow_other w b k' _ hk'), Ext.same (by rw [hfd]; rfl), ⟨some ⟨b, 0, none⟩, te.n, by rw [fd_cons, if_pos rfl]; rfl, by simp [add_plain], .inl rfl⟩, ?_⟩
          · simp only [List.length_append, List.length_take, List.length_drop, e2, nl]; omega
          · intro i' k' hi' hk'
            rw [splice_at _ _ _ _ (by rw [nl, e2]; omega)]
            unfold appR
            by_cases hin : iv + l ≤ i' ∧ i' < iv + l + m
            · have hb1 : (Nat.ble (iv + l) i' && Nat.blt i' (iv + l + m)) = true := by rw [Nat.ble_eq_true_of_le hin.1, blt_iff.2 hin.2]; rfl
              rw [hb1]
              obtain ⟨x, ex, rx⟩ := nr (i' - (iv + l)) k' (by omega) hk'
              have hle1 : (iv + l) * te.n ≤ i' * te.n := Nat.mul_le_mul_right _ hin.1
              have hlt1 : (i' - (iv + l)) * te.n + k' < news.length := (List.getElem?_eq_some_iff.1 ex).1
              rw [Nat.sub_mul] at ex hlt1
              rw [if_pos ⟨by omega, by omega⟩]
              refine ⟨x, ?_, by rw [addI_eq]; exact rx⟩
              rw [show i' * te.n + k' - (iv + l) * te.n = i' * te.n - (iv + l) * te.n + k' by omega]
              exact ex
            · have hb1 : (Nat.ble (iv + l) i' && Nat.blt i' (iv + l + m)) = false := by
                cases hq : (Nat.ble (iv + l) i' && Nat.blt i' (iv + l + m)) with
                | false => rfl
                | true =>
                  simp only [Bool.and_eq_true] at hq
                  exact absurd ⟨Nat.le_of_ble_eq_true hq.1, blt_iff.1 hq.2⟩ hin
              rw [hb1]
              have hno : ¬ ((iv + l) * te.n ≤ i' * te.n + k' ∧ i' * te.n + k' - (iv + l) * te.n < news.length) := by
                rintro ⟨p1, p2⟩
                apply hin
                constructor
                · refine Nat.le_of_not_lt fun hlt => ?_
                  have : (i' + 1) * te.n ≤ (iv + l) * te.n := Nat.mul_le_mul_right _ hlt
                  rw [Nat.add_mul] at this; omega
                · refine Nat.lt_of_not_le fun hge => ?_
                  have : (iv + l + m) * te.n ≤ i' * te.n := Nat.mul_le_mul_right _ hge
                  rw [Nat.add_mul] at this; omega
              rw [if_neg hno]
              exact e3 i' k' hi' hk'
          · have hadd : (⟨b, iv * te.n, none⟩ : Addr).add (l * te.n) = ⟨b, (iv + l) * te.n, none⟩ := by rw [← add_plain b (iv * te.n), add_add, add_plain, Nat.add_mul]
            simp [Builtin.append_, run_underlying hd, sizeOf, typeInfo, hi, Builtin.lenOf, h6, hn2, hfc, add_plain, hadd, hst]
        · exact hs.elim
      · have h6 : ¬ l + m ≤ c := fun q => by rw [Nat.ble_eq_true_of_le q] at h6; cases h6
        obtain ⟨h7, hs'⟩ := chk_spec hs
        clear hs
        have hs := hs'
        clear hs'
        have h7 : l + m ≤ 134217728 := Nat.le_of_ble_eq_true h7
        obtain ⟨nv, szv, gv, bv, hs', hrfv, hcv⟩ := getM_ok hr hs
        clear hs
        have hs := hs'
        clear hs'
        obtain ⟨h8, hfd, hs'⟩ := chk_spec hs
        clear hs
        have hs := hs'
        clear hs'
        simp only [Bool.and_eq_true] at h8
        obtain rfl : te.n = szv := Nat.eq_of_beq_eq_true h8.1
        have h9 : iv + l ≤ nv := Nat.le_of_ble_eq_true h8.2
        obtain ⟨bv', sz', q1, rfl, q3⟩ := rx
        rw [hrfv] at q1
        injection q1 with q1
        injection q1 with q1 q1'
        subst q1 q1'
        have hn : (fd nx h).rf = none := by rw [hfd]; rfl
        have hb48 : (l + m) * i2.bytes ≤ 134217728 * 1048576 := Nat.mul_le_mul h7 hby
        have hge := grownCap_ge w (l + m) c ti.el
        have hcm : grownCap w (l + m) c ti.el ≤ maxLen := grownCap_le_maxLen w (l + m) c ti.el (by simp only [maxLen]; omega)
        have olds : ∃ olds : List Value, olds.length = l * te.n ∧ (∀ a k, a < l → k < te.n → ∃ x, olds[a * te.n + k]? = some x ∧ vrel h (gv (iv + a) k) x) ∧
            (Builtin.append_ #[t, t] ty #[.slice (bv.map fun a => a.add (iv * te.n)) l c, .slice (some (adu.add (iu * te.n))) m cu]).run P w =
              .ok (.slice (some ⟨w.heap.size, 0, none⟩) (l + m) (grownCap w (l + m) c ti.el)) (w.drew.alloc (.cells (olds.toArray ++ news.toArray ++ Builtin.zeroCells zv.cells (grownCap w (l + m) c ti.el - (l + m))) ti.el)) := by
          rcases q3 with q3 | ⟨rfl, rfl⟩
          · obtain ⟨adv, rfl⟩ := Option.isSome_iff_exists.1 q3
            obtain ⟨olds, ol, oc, orr⟩ := row_at (c := cx) (tag := tv) hcv rfl iv l h9 (by omega)
            refine ⟨olds, ol, orr, ?_⟩
            exact run_append_grow (P := P) w t ty ti.el i2 zv hd hi hzv (adv.add (iv * te.n)) l c olds (by rw [ol, hn2]) oc (adu.add (iu * te.n)) m cu news nlen nc (by omega) (by omega) (growslice_fits (by omega) (by omega))
          · cases bv with
            | some adv =>
              refine ⟨[], by simp, fun a k ha hk => absurd ha (by omega), ?_⟩
              exact run_append_grow (P := P) w t ty ti.el i2 zv hd hi hzv (adv.add (iv * te.n)) 0 0 [] (by simp) (fun j v hj => by simp at hj) (adu.add (iu * te.n)) m cu news nlen nc (by omega) (by omega) (growslice_fits (by omega) (by omega))
            | none =>
              refine ⟨[], by simp, fun a k ha hk => absurd ha (by omega), ?_⟩
              have := run_append_nil (P := P) w t ty ti.el i2 zv hd hi hzv (adu.add (iu * te.n)) m cu news nlen nc (by omega) (by omega) (by rw [Nat.zero_add] at hb48; omega)
              simpa using this
        obtain ⟨olds, ol, orr, hrun⟩ := olds
        refine ⟨_, _, _, _, _, hs w.heap.size (grownCap w (l + m) c ti.el) hge (by simp only [maxLen] at hcm; omega), ?_, Ext.new hn, ⟨some ⟨w.heap.size, 0, none⟩, te.n, by rw [fd_cons, if_pos rfl]; rfl, by simp [Addr.add], .inl rfl⟩, hrun⟩
        have hlm : l * te.n + m * te.n = (l + m) * te.n := (Nat.add_mul ..).symm
        have := hr.drew.alloc (nx := nx) hn (n := grownCap w (l + m) c ti.el) (sz := te.n) (g := appG l m iv iu gv gu (zAt te.zero)) (ty := ti.el) (cs := olds ++ news ++ (Builtin.zeroCells zv.cells (grownCap w (l + m) c ti.el - (l + m))).toList) (by
          simp only [List.length_append, Array.length_toList, Builtin.zeroCells, Array.size_map, Array.size_range, nl, ol, hzl]
          rw [← Nat.add_mul, ← Nat.add_mul]; congr 1; omega) (fun a k ha hk => ?_)
        · have e : (olds.toArray ++ news.toArray ++ Builtin.zeroCells zv.cells (grownCap w (l + m) c ti.el - (l + m))) = (olds ++ news ++ (Builtin.zeroCells zv.cells (grownCap w (l + m) c ti.el - (l + m))).toList).toArray := by apply Array.ext'; simp
          rw [e]
          exact this
        · unfold appG
          by_cases hal : a < l
          · rw [blt_iff.2 hal]
            obtain ⟨x, e1, e2⟩ := orr a k hal hk
            refine ⟨x, ?_, by rw [addI_eq]; exact e2⟩
            rw [List.append_assoc, List.getElem?_append_left (List.getElem?_eq_some_iff.1 e1).1]
            exact e1
          · have hb0 : Nat.blt a l = false := by cases hq : Nat.blt a l with | true => exact absurd (blt_iff.1 hq) hal | false => rfl
            rw [hb0]
            simp only
            by_cases ham : a < l + m
            · rw [blt_iff.2 ham]
              obtain ⟨x, e1, e2⟩ := nr (a - l) k (by omega) hk
              refine ⟨x, ?_, by rw [addI_eq]; exact e2⟩
              have hle : l * te.n ≤ a * te.n := Nat.mul_le_mul_right _ (by omega)
              rw [Nat.sub_mul] at e1
              have hlt1 := (List.getElem?_eq_some_iff.1 e1).1
              rw [List.append_assoc, List.getElem?_append_right (by omega), ol, show a * te.n + k - l * te.n = a * te.n - l * te.n + k by omega, List.getElem?_append_left hlt1]
              exact e1
            · have hb1 : Nat.blt a (l + m) = false := by cases hq : Nat.blt a (l + m) with | true => exact absurd (blt_iff.1 hq) ham | false => rfl
              rw [hb1]
              obtain ⟨x, e1, e2⟩ := zero_cells rz' (by omega) (grownCap w (l + m) c ti.el - (l + m)) (a - (l + m)) k (by omega) (by omega)
              refine ⟨x, ?_, e2⟩
              have hle : (l + m) * te.n ≤ a * te.n := Nat.mul_le_mul_right _ (by omega)
              rw [List.getElem?_append_right (by simp [ol, nl]; omega)]
              simp only [List.length_append, ol, nl]
              rw [z1, Nat.sub_mul] at e1
              have e3 : a * te.n + k - (l * te.n + m * te.n) = a * te.n - (l + m) * te.n + k := by omega
              rw [e3]
              simpa using e1
    · exact hs.elim
  · exact hs.elim

end Go.Proofs.Ytgcnknhfphgfnaa.Sx
