import Derived.Test.YtgcnknhfphgfnaaSxE
import Derived.IntWalk
import Derived.Room.Entries
set_option linter.unusedVariables false
set_option linter.unusedSimpArgs false
/-
  The engine, sixth part: composite values, slices of slices, built-ins; every operation that calls no Go function.
-/
namespace Go.Proofs.Ytgcnknhfphgfnaa.Sx
open Go

def spl (o : Nat) (new cs : List V) : List V := cs.take o ++ new ++ cs.drop (o + new.length)

def fillV (pl : Nat → Option (Nat × Nat)) : List V → List (Nat × V) → (List V → Prop) → Prop
  | cells, [], K => K cells
  | cells, (i, v) :: r, K => (match pl i with
    | some (o, m) => (match cellsV v with
      | some l => chk (l.length.beq m && Nat.ble (o + m) cells.length) (forceL (spl o l cells) fun cells => fillV pl cells r K)
      | none => False)
    | none => False)

theorem foldl_set : ∀ (xs : List Value) (j : Nat) (off : Nat) (cs : Array Value), off + j + xs.length ≤ cs.size →
    (xs.zipIdx j).foldl (fun (cs : Array Value) (p : Value × Nat) => cs.setIfInBounds (off + p.2) p.1) cs = (cs.toList.take (off + j) ++ xs ++ cs.toList.drop (off + j + xs.length)).toArray
  | [], j, off, cs, h => by simp
  | x :: xs, j, off, cs, h => by
    simp only [List.length_cons] at h
    rw [List.zipIdx_cons, List.foldl_cons, foldl_set xs (j + 1) off (cs.setIfInBounds (off + j) x) (by simp; omega)]
    congr 1
    apply List.ext_getElem?
    intro k
    rw [Array.toList_setIfInBounds, splice_at (cs.toList.set (off + j) x) xs (off + (j + 1)) k (by simp; omega), splice_at cs.toList (x :: xs) (off + j) k (by simp; omega)]
    by_cases h1 : k = off + j
    · subst h1
      rw [if_neg (by omega), if_pos (by simp), List.getElem?_set_self (by simp; omega)]
      simp
    · rw [List.getElem?_set_ne (by omega)]
      by_cases h2 : off + (j + 1) ≤ k ∧ k - (off + (j + 1)) < xs.length
      · rw [if_pos h2, if_pos (by simp; omega), show k - (off + j) = (k - (off + (j + 1))) + 1 from by omega, List.getElem?_cons_succ]
      · rw [if_neg h2, if_neg (by simp; omega)]

theorem spl_rel {h : Hp} {new cs : List V} {xs ys : List Value} (r : vrelL h new xs) (q : vrelL h cs ys) {o : Nat} (ho : o + new.length ≤ cs.length) : vrelL h (spl o new cs) (ys.take o ++ xs ++ ys.drop (o + xs.length)) := by
  have l1 := vrelL_length r
  have l2 := vrelL_length q
  refine vrelL_of (by simp [spl, l1, l2]) (fun j v hv => ?_)
  rw [splice_at _ _ _ _ (by omega)]
  rw [spl, splice_at _ _ _ _ ho] at hv
  rw [l1]
  split at hv
  · rename_i hc
    rw [if_pos hc]
    exact vrelL_at r _ _ hv
  · rename_i hc
    rw [if_neg hc]
    exact vrelL_at q _ _ hv

/-- Parts' values, by their numbers. -/
def prel (h : Hp) : List (Nat × V) → List (Nat × Value) → Prop
  | [], ys => ys = []
  | (i, v) :: r, ys => ∃ y ys', ys = (i, y) :: ys' ∧ vrel h v y ∧ prel h r ys'

theorem fillV_ok {h : Hp} {pl : Nat → Option (Nat × Nat)} : ∀ {ps : List (Nat × V)} {cells : List V} {K : List V → Prop} {qs : List (Nat × Value)} {cs : Array Value}, fillV pl cells ps K → prel h ps qs → vrelL h cells cs.toList →
    ∃ l cs', K l ∧ vrelL h l cs'.toList ∧ l.length = cells.length ∧ Instr.fill pl cs qs = some cs'
  | [], cells, K, qs, cs, hf, hp, hc => by
    obtain rfl := hp
    exact ⟨cells, cs, hf, hc, rfl, rfl⟩
  | (i, v) :: r, cells, K, qs, cs, hf, hp, hc => by
    obtain ⟨y, ys, rfl, rv, rr⟩ := hp
    unfold fillV at hf
    split at hf
    · rename_i o m hpl
      split at hf
      · rename_i l hl
        obtain ⟨h1, hf⟩ := chk_spec hf
        rw [forceL_eq] at hf
        simp only [Bool.and_eq_true] at h1
        have e1 : l.length = m := Nat.eq_of_beq_eq_true h1.1
        have e2 : o + m ≤ cells.length := Nat.le_of_ble_eq_true h1.2
        have rl := cellsV_ok hl rv
        have hlen := vrelL_length rl
        have hclen := vrelL_length hc
        have hsz : y.cells.size = m := by rw [← e1, ← hlen]; simp
        have hfold : y.cells.zipIdx.foldl (fun cs (p : Value × Nat) => cs.setIfInBounds (o + p.2) p.1) cs = (cs.toList.take o ++ y.cells.toList ++ cs.toList.drop (o + y.cells.toList.length)).toArray := by
          have := foldl_set y.cells.toList 0 o cs (by rw [hlen, e1]; rw [← Array.length_toList, hclen]; omega)
          simp only [Nat.add_zero] at this
          rw [← this, ← Array.foldl_toList, Array.toList_zipIdx]
        obtain ⟨l', cs', k1, k2, k3, k4⟩ := fillV_ok (cs := (cs.toList.take o ++ y.cells.toList ++ cs.toList.drop (o + y.cells.toList.length)).toArray) hf rr (by simpa using spl_rel rl hc (by omega))
        refine ⟨l', cs', k1, k2, ?_, ?_⟩
        · rw [k3, spl, List.length_append, List.length_append, List.length_take, List.length_drop]
          omega
        · simp only [Instr.fill, hpl, hsz, ne_eq, not_true_eq_false, decide_false, Bool.false_or]
          rw [if_neg (by simp; rw [← Array.length_toList, hclen]; omega)]
          rw [hfold]
          exact k4
      · exact hf.elim
    · exact hf.elim

def opParts (σ : Sl) (h : Hp) : List (Nat × Operand) → (List (Nat × V) → Prop) → Prop
  | [], K => K []
  | (i, x) :: r, K => opnd σ h x fun v => opParts σ h r fun vs => K ((i, v) :: vs)
theorem opParts_ok {c : Cx} {N : Nat} {σ : Sl} {h : Hp} {a : Act} {w : World} (hm : Match c N σ h a w) : ∀ {xs : List (Nat × Operand)} {K : List (Nat × V) → Prop}, opParts σ h xs K → ∃ vs, K vs ∧ prel h vs (xs.map fun p => (p.1, a.eval p.2))
  | [], K, hs => ⟨[], hs, rfl⟩
  | (i, x) :: xs, K, hs => by
    obtain ⟨v, h1, r⟩ := opnd_ok hm (x := x) hs
    obtain ⟨vs, h2, rs⟩ := opParts_ok hm h1
    exact ⟨(i, v) :: vs, h2, _, _, rfl, r, rs⟩

def buildV (T : Tab) (t : Nat) (ps : List (Nat × V)) (K : V → Prop) : Prop :=
  match look t T with
  | some ti => chk (ti.zero.length.beq ti.n) (match ti.kd with
    | 4 => fillV (fun i => (ti.flds[i]?).map fun (p : Nat × Nat × Bool) => (p.1, p.2.1)) ti.zero ps fun l => K (.agg l)
    | 8 => fillV (fun i => (ti.flds[i]?).map fun (p : Nat × Nat × Bool) => (p.1, p.2.1)) ti.zero ps fun l => K (.agg l)
    | 5 => (match look ti.el T with | some te => fillV (fun i => some (i * te.n, te.n)) ti.zero ps fun l => K (.agg l) | none => False)
    | 6 => (match look ti.el T with | some te => fillV (fun i => some (i * te.n, te.n)) ti.zero ps fun l => K (.agg l) | none => False)
    | _ => False)
  | none => False

theorem mapM_places {P : Program} (w : World) : ∀ (fs : List Field), (∀ f ∈ fs, (P.info? f.type).isSome) → (fs.mapM fun f => (do pure (f.offset, ← sizeOf f.type) : Sem (Nat × Nat))).run P w = .ok (fs.map fun f => (f.offset, P.cellsOf f.type)) w
  | [], _ => by simp
  | f :: fs, hf => by
    simp only [List.mapM_cons, Sem.run_bind, run_sizeOf' (hf f (by simp)), Result.andThen_ok, Sem.run_pure, mapM_places w fs (fun g hg => hf g (by simp [hg])), List.map_cons]

theorem prel_arr {h : Hp} {ps : List (Nat × V)} {qs : Array (Nat × Value)} (hp : prel h ps qs.toList) : prel h ps qs.toList := hp

theorem buildV_ok {P : Program} {T : Tab} (hT : TabOK P T) {t : Nat} {ps : List (Nat × V)} {K : V → Prop} (hs : buildV T t ps K) {hp : Hp} {qs : Array (Nat × Value)} (hr : prel hp ps qs.toList) (w : World) :
    ∃ r z, K r ∧ vrel hp r z ∧ (Instr.build t qs).run P w = .ok z w := by
  unfold buildV at hs
  split at hs
  · rename_i ti ht
    obtain ⟨h1, hs1⟩ := chk_spec hs
    clear hs
    obtain ⟨z, hz, rz⟩ := run_zero hT ht w (Nat.eq_of_beq_eq_true h1)
    obtain ⟨d, hd, _, _, _, k4, k5, _⟩ := ty_kd hT ht
    have strct : (ti.kd = 4 ∨ ti.kd = 8) → fillV (fun i => (ti.flds[i]?).map fun (p : Nat × Nat × Bool) => (p.1, p.2.1)) ti.zero ps (fun l => K (.agg l)) → ∃ r z, K r ∧ vrel hp r z ∧ (Instr.build t qs).run P w = .ok z w := by
      intro hk hf
      obtain ⟨fs, rfl⟩ := k4 hk
      obtain ⟨e1, e2, _⟩ := ty_struct hT ht hd
      obtain ⟨l, cs', q1, q2, q3, q4⟩ := fillV_ok hf hr (vrelL_nil rz)
      refine ⟨_, .agg cs', q1, ⟨cs'.toList, by simp, q2⟩, ?_⟩
      have hpl : (fun (i : Nat) => (ti.flds[i]?).map fun (p : Nat × Nat × Bool) => (p.1, p.2.1)) = fun i => ((fs.toList.map fun f => (f.offset, P.cellsOf f.type)).toArray)[i]? := by
        funext i
        rw [← e1]
        simp only [List.getElem?_toArray, List.getElem?_map, Option.map_map]
        rfl
      rw [hpl] at q4
      have hm : (fs.mapM fun f => (do pure (f.offset, ← sizeOf f.type) : Sem (Nat × Nat))).run P w = .ok (fs.toList.map fun f => (f.offset, P.cellsOf f.type)).toArray w := by
        have h0 : fs = fs.toList.toArray := by simp
        rw [h0, List.mapM_toArray, Sem.run_map, mapM_places w fs.toList (fun f hf => (e2 f hf).2.1)]
        simp
      simp only [Instr.build, Sem.run_bind, hz, Result.andThen_ok, run_underlying hd, hm, q4, Sem.run_pure]
    have arr : (ti.kd = 5 ∨ ti.kd = 6) → ∀ te, look ti.el T = some te → fillV (fun i => some (i * te.n, te.n)) ti.zero ps (fun l => K (.agg l)) → ∃ r z, K r ∧ vrel hp r z ∧ (Instr.build t qs).run P w = .ok z w := by
      intro hk te hte hf
      obtain ⟨n, e, rfl⟩ := k5 hk
      obtain ⟨e1, e2, _⟩ := ty_array hT ht hd
      subst e1 e2
      obtain ⟨l, cs', q1, q2, q3, q4⟩ := fillV_ok hf hr (vrelL_nil rz)
      refine ⟨_, .agg cs', q1, ⟨cs'.toList, by simp, q2⟩, ?_⟩
      simp only [Instr.build, Sem.run_bind, hz, Result.andThen_ok, run_underlying hd, run_size hT hte, q4, Sem.run_pure]
    split at hs1
    · rename_i hk; exact strct (.inl hk) hs1
    · rename_i hk; exact strct (.inr hk) hs1
    · rename_i hk
      split at hs1
      · rename_i te hte; exact arr (.inl hk) te hte hs1
      · exact hs1.elim
    · rename_i hk
      split at hs1
      · rename_i te hte; exact arr (.inr hk) te hte hs1
      · exact hs1.elim
    · exact hs1.elim
  · exact hs.elim

/-! ### A slice literal -/
def zerosV (z : List V) : Nat → List V
  | 0 => []
  | n + 1 => z ++ zerosV z n
theorem zerosV_length (z : List V) : ∀ n, (zerosV z n).length = n * z.length
  | 0 => by simp [zerosV]
  | n + 1 => by rw [zerosV, List.length_append, zerosV_length z n, Nat.add_mul]; omega
theorem zerosV_at (z : List V) (hz : 0 < z.length) : ∀ n k, k < n * z.length → (zerosV z n)[k]? = z[k % z.length]?
  | 0, k, h => by simp at h
  | n + 1, k, h => by
    rw [zerosV, List.getElem?_append]
    split
    · rename_i hk; rw [Nat.mod_eq_of_lt hk]
    · rename_i hk
      rw [zerosV_at z hz n (k - z.length) (by rw [Nat.add_mul] at h; omega)]
      congr 1
      rw [← Nat.mod_eq_sub_mod (by omega)]
theorem zeros_rel {h : Hp} {z : List V} {zs : Array Value} (r : vrelL h z zs.toList) (hz : 0 < z.length) (n : Nat) : vrelL h (zerosV z n) ((Array.range (n * z.length)).map (zs[· % zs.size]!)).toList := by
  have hl : zs.size = z.length := by rw [← vrelL_length r]; simp
  refine vrelL_of (by simp [zerosV_length]) (fun j v hv => ?_)
  have hj : j < n * z.length := by rw [← zerosV_length]; exact (List.getElem?_eq_some_iff.1 hv).1
  rw [zerosV_at z hz n j hj] at hv
  obtain ⟨x, ex, rx⟩ := vrelL_at r _ _ hv
  refine ⟨x, ?_, rx⟩
  have hlt : j % zs.size < zs.size := Nat.mod_lt _ (by omega)
  simp only [Array.toList_map, Array.toList_range, List.getElem?_map, List.getElem?_range hj, Option.map_some]
  rw [hl] at hlt ⊢
  rw [getElem!_pos zs _ (by rw [hl]; exact hlt)]
  rw [Array.getElem?_toList, Array.getElem?_eq_getElem (by rw [hl]; exact hlt)] at ex
  exact ex

def buildS (T : Tab) (t len : Nat) (ps : List (Nat × V)) (h : Hp) (nx : Nat) (K : V → Hp → Nat → Prop) : Prop :=
  match look t T with
  | some ti => chk (Nat.beq ti.kd 7) (match look ti.el T with
    | some te => chk (te.zero.length.beq te.n && Nat.blt 0 te.n && Nat.ble (len * te.n) 1000) (fillV (fun i => some (i * te.n, te.n)) (zerosV te.zero len) ps fun l => match fd nx h with
      | .gone => ∀ b : Nat, K (.slice nx 0 len len) ((nx, .blk b len te.n (gOf te.n l) ti.el) :: h) (nx + 1)
      | _ => False)
    | none => False)
  | none => False

theorem buildS_ok {P : Program} {T : Tab} (hT : TabOK P T) {c : Cx} {h : Hp} {w : World} (hr : Rel c h w) {t len nx : Nat} {ps : List (Nat × V)} {K : V → Hp → Nat → Prop} (hs : buildS T t len ps h nx K) {qs : Array (Nat × Value)} (hq : prel h ps qs.toList) :
    ∃ v x h' w', K v h' (nx + 1) ∧ Rel c h' w' ∧ Ext h h' ∧ vrel h' v x ∧ (Instr.buildSlice t len qs).run P w = .ok x w' := by
  unfold buildS at hs
  split at hs
  · rename_i ti ht
    obtain ⟨h1, hs1⟩ := chk_spec hs
    clear hs
    obtain ⟨d, hd, _, _, _, _, _, k7⟩ := ty_kd hT ht
    obtain ⟨e, rfl⟩ := k7 (Nat.eq_of_beq_eq_true h1)
    have e2 := ty_slice hT ht hd
    subst e2
    split at hs1
    · rename_i te hte
      obtain ⟨h2, hs2⟩ := chk_spec hs1
      clear hs1
      simp only [Bool.and_eq_true] at h2
      obtain ⟨⟨z1, z2⟩, z3⟩ := h2
      have z1 : te.zero.length = te.n := Nat.eq_of_beq_eq_true z1
      have z2 : 0 < te.n := Nat.le_of_ble_eq_true z2
      have z3 : len * te.n ≤ 1000 := Nat.le_of_ble_eq_true z3
      obtain ⟨z, hz, rz⟩ := run_zero hT hte w z1
      have rz' : vrelL h te.zero z.cells.toList := vrelL_nil rz
      have hzl : z.cells.size = te.n := by rw [← z1, ← vrelL_length rz']; simp
      have rzz := zeros_rel rz' (by omega) len
      rw [z1] at rzz
      obtain ⟨l, cs', q1, q2, q3, q4⟩ := fillV_ok hs2 hq rzz
      rw [zerosV_length, z1] at q3
      have hcs : cs'.toList.length = len * te.n := by rw [vrelL_length q2, q3]
      split at q1
      · rename_i hfd
        have hn : (fd nx h).rf = none := by rw [hfd]; rfl
        have hall := hr.alloc (nx := nx) hn (n := len) (sz := te.n) (g := gOf te.n l) (ty := ti.el) hcs (gOf_cells q3 q2)
        refine ⟨_, .slice (some ⟨w.heap.size, 0, none⟩) len len, _, _, q1 w.heap.size, hall, Ext.new hn, ⟨some ⟨w.heap.size, 0, none⟩, te.n, by rw [fd_cons, if_pos rfl]; rfl, by simp [Addr.add], .inl rfl⟩, ?_⟩
        have hsmall : ¬ len * te.n > 2 ^ 24 := by omega
        simp only [Instr.buildSlice, Sem.run_bind, run_underlying hd, Result.andThen_ok, run_size hT hte, if_neg hsmall, Sem.run_pure]
        by_cases h0 : len * te.n = 0
        · rw [if_pos h0]
          have hl0 : len = 0 := by rcases Nat.mul_eq_zero.1 h0 with h | h <;> omega
          subst hl0
          simp only [Nat.zero_mul] at q4 ⊢
          have e0 : (Array.range 0).map (fun x => (#[] : Array Value)[x % (#[] : Array Value).size]!) = (Array.range 0).map (fun x => z.cells[x % z.cells.size]!) := by simp
          simp only [Sem.run_pure, Result.andThen_ok, e0, q4, newRow, Sem.run_bind, run_newObj]
          simp
        · rw [if_neg h0]
          simp only [Sem.run_bind, hz, Result.andThen_ok, Sem.run_pure, q4, newRow, run_newObj]
          simp
      · exact q1.elim
    · exact hs1.elim
  · exact hs.elim

/-! ### make of a slice -/
def makeS (T : Tab) (t : Nat) (l c : Int) (h : Hp) (nx : Nat) (K : V → Hp → Nat → Prop) : Prop :=
  match look t T with
  | some ti => chk (Nat.beq ti.kd 7) (match look ti.el T with
    | some te => chk (te.zero.length.beq te.n && Nat.blt 0 te.n) (match fd nx h with
      | .gone => (0 ≤ l ∧ l ≤ c ∧ c ≤ 1048576) ∧ ∀ b : Nat, K (.slice nx 0 l.toNat c.toNat) ((nx, .blk b c.toNat te.n (fun _ k => match te.zero[k]? with | some v => v | none => und) ti.el) :: h) (nx + 1)
      | _ => False)
    | none => False)
  | none => False

theorem makeS_ok {P : Program} {T : Tab} (hT : TabOK P T) {cx : Cx} {h : Hp} {w : World} (hr : Rel cx h w) {t nx : Nat} {l c : Int} {K : V → Hp → Nat → Prop} (hs : makeS T t l c h nx K) (k1 k2 : IntKind) :
    ∃ v x h' w', K v h' (nx + 1) ∧ Rel cx h' w' ∧ Ext h h' ∧ vrel h' v x ∧ (Instr.makeSlice t (.int k1 l) (.int k2 c)).run P w = .ok x w' := by
  unfold makeS at hs
  split at hs
  · rename_i ti ht
    obtain ⟨h1, hs1⟩ := chk_spec hs
    clear hs
    obtain ⟨d, hd, _, _, _, _, _, k7⟩ := ty_kd hT ht
    obtain ⟨e, rfl⟩ := k7 (Nat.eq_of_beq_eq_true h1)
    obtain ⟨i, hi, hby⟩ := ty_bytes hT ht hd
    have e2 := ty_slice hT ht hd
    subst e2
    split at hs1
    · rename_i te hte
      obtain ⟨h2, hs2⟩ := chk_spec hs1
      clear hs1
      simp only [Bool.and_eq_true] at h2
      obtain ⟨z1, z2⟩ := h2
      have z1 : te.zero.length = te.n := Nat.eq_of_beq_eq_true z1
      have z2 : 0 < te.n := Nat.le_of_ble_eq_true z2
      obtain ⟨z, hz, rz⟩ := run_zero hT hte w z1
      have rz' : vrelL h te.zero z.cells.toList := vrelL_nil rz
      have hzl : z.cells.size = te.n := by rw [← z1, ← vrelL_length rz']; simp
      have rzz := zeros_rel rz' (by omega) c.toNat
      rw [z1] at rzz
      split at hs2
      · rename_i hfd
        obtain ⟨⟨b0, b1, b2⟩, hk⟩ := hs2
        have hn : (fd nx h).rf = none := by rw [hfd]; rfl
        have hcs := vrelL_length rzz
        rw [zerosV_length, z1] at hcs
        have hall := hr.alloc (nx := nx) hn (n := c.toNat) (sz := te.n) (g := fun _ k => match te.zero[k]? with | some v => v | none => und) (ty := ti.el) hcs (fun i k hi hk => by
          have hlt : i * te.n + k < c.toNat * te.n := by
            calc i * te.n + k < i * te.n + te.n := by omega
              _ = (i + 1) * te.n := by rw [Nat.add_mul]; omega
              _ ≤ c.toNat * te.n := Nat.mul_le_mul_right _ hi
          have hmod : (i * te.n + k) % te.n = k := by rw [Nat.mul_comm, Nat.mul_add_mod, Nat.mod_eq_of_lt hk]
          have hat := zerosV_at te.zero (by omega) c.toNat (i * te.n + k) (by rw [z1]; exact hlt)
          rw [z1, hmod] at hat
          have hsome : te.zero[k]? = some te.zero[k] := List.getElem?_eq_getElem (by omega)
          rw [hsome] at hat ⊢
          exact vrelL_at rzz _ _ hat)
        have wl : IntKind.i64.wrap l = l := IntWalk.i64_in _ (by omega)
        have wc : IntKind.i64.wrap c = c := IntWalk.i64_in _ (by omega)
        refine ⟨_, .slice (some ⟨w.heap.size, 0, none⟩) l.toNat c.toNat, _, _, hk w.heap.size, hall, Ext.new hn, ⟨some ⟨w.heap.size, 0, none⟩, te.n, by rw [fd_cons, if_pos rfl]; rfl, by simp [Addr.add], .inl rfl⟩, ?_⟩
        have n1 : ¬ c < 0 := by omega
        have n2 : ¬ (281474976710656 < (i.bytes : Int) * c) := by
          have h3 : (i.bytes : Int) * c ≤ 1048576 * 1048576 := Int.mul_le_mul (by omega) b2 (by omega) (by omega)
          omega
        have n3 : ¬ l < 0 := by omega
        have n4 : ¬ c < l := by omega
        simp only [Instr.makeSlice, Sem.run_bind, run_underlying hd, Result.andThen_ok, asInt, asIntOf, Sem.run_pure, typeInfo, hi, wl, wc]
        simp [n1, n2, n3, n4, run_askRoom, run_size hT hte, hi, typeInfo, newRow, run_newObj]
        by_cases h0 : c.toNat * te.n = 0
        · rw [if_pos h0]
          have e0 : (Array.range (c.toNat * te.n)) = #[] := by rw [h0]; rfl
          rw [e0]
          congr 2
          simp [h0]
        · rw [if_neg h0]
          simp [hz]
          congr 2
          apply Array.ext'
          simp
      · exact hs2.elim
    · exact hs1.elim
  · exact hs.elim

end Go.Proofs.Ytgcnknhfphgfnaa.Sx
