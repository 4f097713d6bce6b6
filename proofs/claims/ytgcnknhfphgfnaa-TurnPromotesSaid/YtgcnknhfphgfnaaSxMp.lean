import Derived.Test.YtgcnknhfphgfnaaSxP
/-
  Maps of whole numbers: what looking up, putting in, taking out, and counting come to.
-/
namespace Go.Proofs.Ytgcnknhfphgfnaa.Sx
open Go

/-- Where a key stands, and with what. -/
def mfind (n : Int) : List (Int × V) → Nat → Option (Nat × V)
  | [], _ => none
  | p :: r, i => if n = p.1 then some (i, p.2) else mfind n r (i + 1)
def mhas (l : List (Int × V)) (n : Int) : Bool := (mfind n l 0).isSome
def mgetV (z : V) (l : List (Int × V)) (n : Int) : V := match mfind n l 0 with | some p => p.2 | none => z
def mput (l : List (Int × V)) (n : Int) (z : V) : List (Int × V) := match mfind n l 0 with | some p => l.modify p.1 fun q => (q.1, z) | none => l ++ [(n, z)]
def mdel (l : List (Int × V)) (n : Int) : List (Int × V) := match mfind n l 0 with | some p => l.eraseIdx p.1 | none => l

theorem mfind_lt {n : Int} : ∀ {l : List (Int × V)} {i : Nat} {p : Nat × V}, mfind n l i = some p → i ≤ p.1 ∧ p.1 < i + l.length ∧ l[p.1 - i]? = some (n, p.2)
  | [], i, p, h => by cases h
  | q :: r, i, p, h => by
    unfold mfind at h
    by_cases e : n = q.1
    · rw [if_pos e] at h
      cases h
      exact ⟨Nat.le_refl _, by simp, by simp [e]⟩
    · rw [if_neg e] at h
      obtain ⟨h1, h2, h3⟩ := mfind_lt h
      refine ⟨by omega, by simp; omega, ?_⟩
      rw [show p.1 - i = (p.1 - (i + 1)) + 1 by omega, List.getElem?_cons_succ]
      exact h3
theorem findNow_ok {n : Int} : ∀ {es : List MapEntry} {l : List (Int × V)} {i : Nat}, es.map (fun e => (e.key, e.val)) = l.map mval → Instr.findNow (.int .i64) (.int .i64 n) es i = some ((mfind n l i).map fun p => (p.1, flatV p.2))
  | [], l, i, h => by
    have : l = [] := by cases l with | nil => rfl | cons a b => simp at h
    subst this
    rfl
  | e :: es, [], i, h => by simp at h
  | e :: es, p :: l, i, h => by
    simp only [List.map_cons, List.cons.injEq] at h
    obtain ⟨h1, h2⟩ := h
    have ek : e.key = .int .i64 p.1 := congrArg Prod.fst h1
    have ev : e.val = flatV p.2 := congrArg Prod.snd h1
    have hs : Instr.sameNow (.int .i64) (.int .i64 n) e.key = some (n == p.1) := by rw [ek]; simp [Instr.sameNow]
    unfold Instr.findNow mfind
    rw [hs]
    by_cases q : n = p.1
    · rw [if_pos q, q, ev]; simp
    · have : (n == p.1) = false := by simpa using q
      rw [this, if_neg q]
      exact findNow_ok h2
section
variable {P : Program} {w : World}
theorem run_findKey {kt : TypeId} (hk : P.underlying kt = some (.int .i64)) {n : Int} {es : List MapEntry} {l : List (Int × V)} (h : es.map (fun e => (e.key, e.val)) = l.map mval) : (Instr.findKey kt (.int .i64 n) es).run P w = .ok ((mfind n l 0).map fun p => (p.1, flatV p.2)) w := by
  simp [Instr.findKey, run_underlying hk, findNow_ok h]
theorem run_checkKey' {kt : TypeId} (hk : P.underlying kt = some (.int .i64)) (b : Bool) (n : Int) (m : Nat) : (Instr.checkKey b (m + 1) kt (.int .i64 n)).run P w = .ok () w := by
  unfold Instr.checkKey
  simp [run_underlying hk]
theorem run_checkKey {kt : TypeId} (hk : P.underlying kt = some (.int .i64)) (b : Bool) (n : Int) : (Instr.checkKey b 10000 kt (.int .i64 n)).run P w = .ok () w := run_checkKey' hk b n 9999
theorem run_obj {r : Nat} {es : Array MapEntry} {ck : Nat} (hb : w.heap[r]? = some (.map es ck)) : (getObj r).run P w = .ok (.map es ck) w := by simp [getObj, Sem.run, hb]
theorem run_set {r : Nat} {es : Array MapEntry} {ck : Nat} (o : Obj) (hb : w.heap[r]? = some (.map es ck)) : (setObj r o).run P w = .ok () { w with heap := w.heap.setIfInBounds r o } := by simp [setObj, Sem.run, hb]
theorem run_lookup {t kt et : TypeId} (ht : P.underlying t = some (.map kt et)) (hk : P.underlying kt = some (.int .i64)) {z : V} {z0 : Value} (hz : (zeroValue et).run P w = .ok z0 w) (rz : ∀ h, vrel h z z0) {b : Nat} {l : List (Int × V)} (hm : MapIs w b l) (n : Int) (ok : Bool) :
    ∃ x, (Instr.lookup t (.map (some b)) (.int .i64 n) ok).run P w = .ok (if ok then .tuple #[x, .bool (mhas l n)] else x) w ∧ ∀ h, vrel h (mgetV z l n) x := by
  obtain ⟨es, ck, h1, h2, h3, _⟩ := hm
  have h2 : es.toList.map (fun e => (e.key, e.val)) = l.map mval := h2
  unfold mgetV mhas
  cases e : mfind n l 0 with
  | none => exact ⟨z0, by unfold Instr.lookup; simp [run_underlying ht, run_obj h1, run_checkKey hk, run_findKey hk h2, e, hz], rz⟩
  | some p =>
    obtain ⟨_, _, q⟩ := mfind_lt e
    exact ⟨flatV p.2, by unfold Instr.lookup; simp [run_underlying ht, run_obj h1, run_checkKey hk, run_findKey hk h2, e], fun h => fl_rel (h3 _ (List.mem_of_getElem? q))⟩
theorem run_len_map {t kt et ty : TypeId} (ht : P.underlying t = some (.map kt et)) {b : Nat} {l : List (Int × V)} (hm : MapIs w b l) : (Builtin.len_ #[t] ty #[.map (some b)]).run P w = .ok (.int .i64 l.length) w := by
  obtain ⟨es, ck, h1, h2, _⟩ := hm
  have hl : es.size = l.length := by have := congrArg List.length h2; simpa using this
  simp [Builtin.len_, run_underlying ht, run_obj h1, hl, goInt]
theorem mem_modify {α : Type} {f : α → α} {x : α} : ∀ {l : List α} {i : Nat}, x ∈ l.modify i f → x ∈ l ∨ ∃ y ∈ l, x = f y
  | [], i, h => by simp at h
  | a :: l, 0, h => by
    rw [List.modify_zero_cons] at h
    rcases List.mem_cons.1 h with rfl | h
    · exact .inr ⟨a, List.mem_cons_self .., rfl⟩
    · exact .inl (List.mem_cons_of_mem _ h)
  | a :: l, i + 1, h => by
    rw [List.modify_succ_cons] at h
    rcases List.mem_cons.1 h with rfl | h
    · exact .inl (List.mem_cons_self ..)
    · rcases mem_modify h with h | ⟨y, hy, e⟩
      · exact .inl (List.mem_cons_of_mem _ h)
      · exact .inr ⟨y, List.mem_cons_of_mem _ hy, e⟩
/-- What is put in. -/
theorem run_mapUpdate {t kt et : TypeId} (ht : P.underlying t = some (.map kt et)) (hk : P.underlying kt = some (.int .i64)) {b : Nat} {l : List (Int × V)} (hm : MapIs w b l) (n : Int) (z : V) (hz : flB z = true) :
    ∃ es ck, (Instr.mapUpdate t (.map (some b)) (.int .i64 n) (flatV z)).run P w = .ok () { w with heap := w.heap.setIfInBounds b (.map es ck) } ∧ MapAs es ck (mput l n z) := by
  obtain ⟨es, ck, h1, h2, hf, hb, hn⟩ := hm
  have h2 : es.toList.map (fun e => (e.key, e.val)) = l.map mval := h2
  have hl : es.size = l.length := by have := congrArg List.length h2; simpa using this
  unfold mput
  cases e : mfind n l 0 with
  | none =>
    refine ⟨es.push { key := .int .i64 n, val := flatV z, born := ck }, ck + 1, ?_, ?_, ?_, ?_, ?_⟩
    · unfold Instr.mapUpdate
      simp [run_underlying ht, run_obj h1, run_checkKey hk, run_findKey hk h2, e, run_set _ h1]
    · simp [h2, mval]
    · intro p hp
      rcases List.mem_append.1 hp with hp | hp
      · exact hf p hp
      · obtain rfl : p = (n, z) := by simpa using hp
        exact hz
    · intro x hx
      rw [Array.toList_push] at hx
      rcases List.mem_append.1 hx with hx | hx
      · exact Nat.lt_succ_of_lt (hb x hx)
      · obtain rfl : x = _ := by simpa using hx
        exact Nat.lt_succ_self _
    · rw [Array.toList_push, List.map_append, List.nodup_append]
      refine ⟨hn, by simp, fun a ha c hc => ?_⟩
      obtain ⟨x, hx, rfl⟩ := List.mem_map.1 ha
      obtain rfl : c = ck := by simpa using hc
      exact Nat.ne_of_lt (hb x hx)
  | some p =>
    obtain ⟨_, p2, p3⟩ := mfind_lt e
    have hp : p.1 < es.size := by omega
    have hkey : es[p.1].key = .int .i64 n := by
      have h3 := congrArg (fun q => q[p.1]?) h2
      simp only [List.getElem?_map] at h3
      rw [show l[p.1]? = some (n, p.2) from p3] at h3
      simp [hp, mval] at h3
      exact h3.1
    have hborn : ((es.modify p.1 fun e => { e with key := .int .i64 n, val := flatV z }).toList.map (·.born)) = es.toList.map (·.born) := by
      rw [Array.toList_modify]
      refine List.ext_getElem? fun i => ?_
      simp only [List.getElem?_map, List.getElem?_modify]
      by_cases q : p.1 = i
      · subst q; simp [hp]
      · simp only [if_neg q]; simp
    refine ⟨es.modify p.1 fun e => { e with key := .int .i64 n, val := flatV z }, ck, ?_, ?_, ?_, ?_, ?_⟩
    · unfold Instr.mapUpdate
      simp [run_underlying ht, run_obj h1, run_checkKey hk, run_findKey hk h2, e, hp, hkey, Instr.keyThatStays, Instr.sameBits, run_set _ h1]
    · rw [Array.toList_modify]
      refine List.ext_getElem? fun i => ?_
      have h3 := congrArg (fun q => q[i]?) h2
      simp only [List.getElem?_map] at h3
      simp only [List.getElem?_map, List.getElem?_modify]
      by_cases q : p.1 = i
      · subst q
        rw [show l[p.1]? = some (n, p.2) from p3]
        simp [hp, mval]
      · simp only [if_neg q]
        simpa using h3
    · intro q hq
      rcases mem_modify hq with hq | ⟨y, hy, rfl⟩
      · exact hf q hq
      · exact hz
    · intro x hx
      have : x.born ∈ es.toList.map (·.born) := by rw [← hborn]; exact List.mem_map_of_mem hx
      obtain ⟨y, hy, e'⟩ := List.mem_map.1 this
      rw [← e']; exact hb y hy
    · rw [hborn]; exact hn
/-- What is taken out. -/
theorem run_delete {t kt et kt' ty : TypeId} (ht : P.underlying t = some (.map kt et)) (hk : P.underlying kt = some (.int .i64)) {b : Nat} {l : List (Int × V)} (hm : MapIs w b l) (n : Int) :
    ∃ es ck, (Builtin.delete_ #[t, kt'] ty #[.map (some b), .int .i64 n]).run P w = .ok (.tuple #[]) { w with heap := w.heap.setIfInBounds b (.map es ck) } ∧ MapAs es ck (mdel l n) := by
  obtain ⟨es, ck, h1, h2, hf, hb, hn⟩ := hm
  have h2 : es.toList.map (fun e => (e.key, e.val)) = l.map mval := h2
  unfold mdel
  cases e : mfind n l 0 with
  | none =>
    refine ⟨es, ck, ?_, h2, hf, hb, hn⟩
    unfold Builtin.delete_
    simp [run_underlying ht, run_obj h1, run_checkKey hk, run_findKey hk h2, e, run_set _ h1]
  | some p =>
    have hl : es.size = l.length := by have := congrArg List.length h2; simpa using this
    obtain ⟨_, p2, p3⟩ := mfind_lt e
    have hp : p.1 < es.size := by omega
    have he : (es.eraseIdxIfInBounds p.1).toList = es.toList.eraseIdx p.1 := by simp [Array.eraseIdxIfInBounds, hp]
    refine ⟨es.eraseIdxIfInBounds p.1, ck, ?_, ?_, ?_, ?_, ?_⟩
    · unfold Builtin.delete_
      simp [run_underlying ht, run_obj h1, run_checkKey hk, run_findKey hk h2, e, run_set _ h1]
    · rw [he]
      show List.map _ _ = List.map mval (l.eraseIdx p.1)
      rw [List.eraseIdx_eq_take_drop_succ, List.eraseIdx_eq_take_drop_succ, List.map_append, List.map_append, List.map_take, List.map_drop, List.map_take, List.map_drop, h2]
    · exact fun q hq => hf q ((List.eraseIdx_sublist _ _).subset hq)
    · rw [he]; exact fun q hq => hb q ((List.eraseIdx_sublist _ _).subset hq)
    · rw [he]; exact hn.sublist ((List.eraseIdx_sublist _ _).map _)
end

theorem Rel.mapIs {c : Cx} {h : Hp} {w : World} (hr : Rel c h w) {t b : Nat} {l : List (Int × V)} (e : fd t h = .mp b l ∨ fd t h = .rmp b l) : MapIs w b l := by
  have H := hr.holds t
  rcases e with e | e
  · rw [e] at H; exact H.1
  · rw [e] at H
    obtain ⟨⟨es, ck, e1, e2⟩, e3⟩ := H
    exact ⟨es, ck, (hr.fr.block b (Array.getElem?_eq_some_iff.1 e1).1 e3).trans e1, e2⟩
/-- A map of ours is written anew. -/
theorem Rel.putM {c : Cx} {h : Hp} {w w' : World} (hr : Rel c h w) {t b : Nat} {l l' : List (Int × V)} (e : fd t h = .mp b l) {es : Array MapEntry} {ck : Nat} (hw : w' = { w with heap := w.heap.setIfInBounds b (.map es ck) })
    (hes : MapAs es ck l') : Rel c ((t, .mp b l') :: h) w' := by
  subst hw
  have hx : Ext h ((t, .mp b l') :: h) := Ext.same (by rw [e]; rfl)
  have hlt := hr.ltm e
  have hown : c.own b ∨ c.w0.heap.size ≤ b := by have := hr.holds t; rw [e] at this; exact this.2
  have ho : ∀ k, k ≠ b → (w.heap.setIfInBounds b (.map es ck))[k]? = w.heap[k]? := fun k hk => Array.getElem?_setIfInBounds_ne (fun q => hk q.symm)
  have hb : (w.heap.setIfInBounds b (.map es ck))[b]? = some (.map es ck) := by rw [Array.getElem?_setIfInBounds]; simp [hlt]
  refine ⟨⟨hr.fr.os, hr.fr.tape, hr.fr.output, by simpa using hr.fr.size, fun k hk hn => (ho k ?_).trans (hr.fr.block k hk hn)⟩, fun u => ?_, fun u u' hne => ?_, hr.tabs⟩
  · rintro rfl
    rcases hown with h1 | h1
    · exact hn h1
    · omega
  · rw [fd_cons]
    split
    · exact ⟨⟨es, ck, hb, hes⟩, hown⟩
    · rename_i hu
      refine Ent.holds_heap hx (fun b' he => ho b' ?_) (hr.holds u)
      rintro rfl
      exact Ent.apart_at (hr.apart t u (Ne.symm hu)) (by rw [e]; rfl) he rfl
  · rw [fd_cons, fd_cons]
    by_cases h1 : u = t
    · rw [if_pos h1]
      by_cases h2 : u' = t
      · omega
      · rw [if_neg h2]
        exact Ent.apart_of fun x y e1 e2 => by cases e1; exact Ent.apart_at (hr.apart t u' (fun e => h2 e.symm)) (by rw [e]; rfl) e2
    · rw [if_neg h1]
      by_cases h2 : u' = t
      · rw [if_pos h2]
        exact Ent.apart_of fun x y e1 e2 => by cases e2; exact Ent.apart_at (hr.apart u t h1) e1 (by rw [e]; rfl)
      · rw [if_neg h2]
        exact hr.apart u u' hne
/-- A new map. -/
theorem Rel.allocM {c : Cx} {h : Hp} {w : World} (hr : Rel c h w) {nx : Nat} (hn : (fd nx h).rf = none) : Rel c ((nx, .mp w.heap.size []) :: h) (w.alloc (.map #[] 0)) := by
  have hx : Ext h ((nx, .mp w.heap.size []) :: h) := Ext.new hn
  have hsz : (w.alloc (.map #[] 0)).heap.size = w.heap.size + 1 := by simp
  have hold : ∀ k, k < w.heap.size → (w.alloc (.map #[] 0)).heap[k]? = w.heap[k]? := fun k hk => Go.RowKit.Below.heap_alloc _ _ _ hk
  have hnew : (w.alloc (.map #[] 0)).heap[w.heap.size]? = some (.map #[] 0) := by
    show (w.heap.push _)[w.heap.size]? = _
    rw [Array.getElem?_push, if_pos rfl]
  refine ⟨⟨hr.fr.os, hr.fr.tape, hr.fr.output, by rw [hsz]; have := hr.fr.size; omega, fun k hk ho => (hold k (by have := hr.fr.size; omega)).trans (hr.fr.block k hk ho)⟩, fun t => ?_, fun t t' hne => ?_, hr.tabs⟩
  · rw [fd_cons]
    split
    · exact ⟨⟨#[], 0, hnew, rfl, by simp, by simp, by simp⟩, .inr hr.fr.size⟩
    · exact Ent.holds_heap hx (fun b he => hold b (hr.lta he)) (hr.holds t)
  · rw [fd_cons, fd_cons]
    split
    · split
      · omega
      · exact Ent.apart_of fun b b' e1 e2 => by cases e1; exact (Nat.ne_of_lt (hr.lta e2)).symm
    · split
      · exact Ent.apart_of fun b b' e1 e2 => by cases e2; exact Nat.ne_of_lt (hr.lta e1)
      · exact hr.apart t t' hne

/-! ### An iterator over a map that stays as it is -/
theorem erase_born : ∀ {L : List MapEntry}, (L.map (·.born)).Nodup → ∀ {e : MapEntry}, e ∈ L → ∃ i, L[i]? = some e ∧ L.filter (fun x => !(x.born == e.born)) = L.eraseIdx i
  | [], _, e, h => by cases h
  | x :: L, hn, e, h => by
    rw [List.map_cons, List.nodup_cons] at hn
    by_cases q : x.born = e.born
    · have : e = x := by
        rcases List.mem_cons.1 h with rfl | h
        · rfl
        · exact absurd (List.mem_map.2 ⟨e, h, q.symm⟩) hn.1
      subst this
      refine ⟨0, rfl, ?_⟩
      rw [List.filter_cons_of_neg (by simp), List.eraseIdx_zero]
      refine List.filter_eq_self.2 fun y hy => ?_
      have : y.born ≠ e.born := fun w => hn.1 (w ▸ List.mem_map_of_mem hy)
      simpa using this
    · have h : e ∈ L := by
        rcases List.mem_cons.1 h with rfl | h
        · exact absurd rfl q
        · exact h
      obtain ⟨i, h1, h2⟩ := erase_born hn.2 h
      exact ⟨i + 1, h1, by rw [List.filter_cons_of_pos (by simpa using q), h2, List.eraseIdx_cons_succ]⟩
theorem Rel.itNew {c : Cx} {h : Hp} {w : World} (hr : Rel c h w) {t mb nx : Nat} {l : List (Int × V)} (e : fd t h = .rmp mb l) (hn : (fd nx h).rf = none) {P : Program} {ty k el : TypeId} (ht : P.underlying ty = some (.map k el)) :
    ∃ w', (Instr.range ty (.map (some mb))).run P w = .ok (.pointer (some ⟨w.heap.size, 0, none⟩)) w' ∧ Rel c ((nx, .it w.heap.size mb l l none) :: h) w' := by
  have H := hr.holds t
  rw [e] at H
  obtain ⟨⟨es, ck, h1, h2, h3, h4, h5⟩, ho⟩ := H
  have hlt := (Array.getElem?_eq_some_iff.1 h1).1
  have hb : w.heap[mb]? = some (.map es ck) := (hr.fr.block mb hlt ho).trans h1
  refine ⟨_, run_range_map w ty k el mb es ck ht hb, ?_⟩
  have hx : Ext h ((nx, .it w.heap.size mb l l none) :: h) := Ext.new hn
  have hold : ∀ q, q < w.heap.size → (w.alloc (.mapIter (some mb) ck #[] ck)).heap[q]? = w.heap[q]? := fun q hq => Go.RowKit.Below.heap_alloc _ _ _ hq
  refine ⟨⟨hr.fr.os, hr.fr.tape, hr.fr.output, by have := hr.fr.size; simp; omega, fun k hk ho => (hold k (by have := hr.fr.size; omega)).trans (hr.fr.block k hk ho)⟩, fun t => ?_, fun t t' hne => ?_, hr.tabs⟩
  · rw [fd_cons]
    split
    · exact ⟨⟨es, ck, ck, ck, #[], heap_alloc_new _ _, h1, ⟨h2, h3, h4, h5⟩, h4, Nat.le_refl _, Nat.le_refl _, (show l.map mval = (leftOf es #[]).toList.map _ by rw [← h2, show leftOf es #[] = es from Array.filter_eq_self.2 (fun x _ => by simp)]), h3, fun p hp => by cases hp⟩, .inr hr.fr.size, ho⟩
    · exact Ent.holds_heap hx (fun b he => hold b (hr.lta he)) (hr.holds t)
  · rw [fd_cons, fd_cons]
    split
    · split
      · omega
      · exact Ent.apart_of fun b b' e1 e2 => by cases e1; exact (Nat.ne_of_lt (hr.lta e2)).symm
    · split
      · exact Ent.apart_of fun b b' e1 e2 => by cases e2; exact Nat.ne_of_lt (hr.lta e1)
      · exact hr.apart t t' hne
theorem Rel.itNext {c : Cx} {h : Hp} {w : World} (hr : Rel c h w) {t b mb : Nat} {l left : List (Int × V)} {cur : Option (Int × V)} (e : fd t h = .it b mb l left cur) {P : Program} (ty : TypeId) :
    (left = [] ∧ (Instr.next (.pointer (some ⟨b, 0, none⟩)) false ty).run P w = .ok (.tuple #[.bool false]) w) ∨
    ∃ i p w', left[i]? = some p ∧ flB p.2 = true ∧ (Instr.next (.pointer (some ⟨b, 0, none⟩)) false ty).run P w = .ok (.tuple #[.bool true, .int .i64 p.1, flatV p.2]) w' ∧ Rel c ((t, .it b mb l (left.eraseIdx i) (some p)) :: h) w' := by
  have H := hr.holds t
  rw [e] at H
  obtain ⟨⟨es, ck, si, c0, se, h1, h2, ⟨m1, m2, m3, m4⟩, h3, h4, h8, h5, h6, h7⟩, hown, ho⟩ := H
  have hlt := (Array.getElem?_eq_some_iff.1 h2).1
  have hb : w.heap[mb]? = some (.map es ck) := (hr.fr.block mb hlt ho).trans h2
  rcases run_next_at (P := P) w ty b mb si c0 se es ck h1 hb h3 h4 with ⟨z, hrun⟩ | ⟨x, hx, w1, hw1, hrun⟩
  · refine .inl ⟨?_, hrun⟩
    have : (leftOf es se).toList = [] := by simpa using z
    rw [this] at h5
    simpa using h5
  · right
    have hnl : ((leftOf es se).toList.map (·.born)).Nodup := by
      unfold leftOf
      rw [Array.toList_filter]
      exact m4.sublist (List.filter_sublist.map _)
    obtain ⟨i, hi, hf⟩ := erase_born hnl hx
    have hp := congrArg (fun q => q[i]?) h5
    simp only [List.getElem?_map, hi, Option.map_some] at hp
    cases hq : left[i]? with
    | none => rw [hq] at hp; cases hp
    | some p =>
      rw [hq] at hp
      simp only [Option.map_some, Option.some.injEq] at hp
      have hpk : x.key = .int .i64 p.1 := (congrArg Prod.fst hp).symm
      have hpv : x.val = flatV p.2 := (congrArg Prod.snd hp).symm
      have hpf := h6 p (List.mem_of_getElem? hq)
      rw [hpk, hpv] at hrun
      have hxe : x ∈ es.toList := (mem_left hx).1
      have r1 : Rel c h w1 := by
        rcases hw1 with rfl | rfl
        · exact hr
        · exact hr.drew
      have hwh : w1.heap = w.heap := by rcases hw1 with rfl | rfl <;> rfl
      have hbl : b < w1.heap.size := by rw [hwh]; exact (Array.getElem?_eq_some_iff.1 h1).1
      refine ⟨i, p, _, hq, hpf, hrun, ?_⟩
      have hx' : Ext h ((t, .it b mb l (left.eraseIdx i) (some p)) :: h) := Ext.same (by rw [e]; rfl)
      have hob : ∀ k, k ≠ b → (w1.heap.setIfInBounds b (.mapIter (some mb) si (se.push x.born) ck))[k]? = w1.heap[k]? := fun k hk => Array.getElem?_setIfInBounds_ne (fun q => hk q.symm)
      have hbb : (w1.heap.setIfInBounds b (.mapIter (some mb) si (se.push x.born) ck))[b]? = some (.mapIter (some mb) si (se.push x.born) ck) := by rw [Array.getElem?_setIfInBounds]; simp [hbl]
      refine ⟨⟨r1.fr.os, r1.fr.tape, r1.fr.output, by simpa [Go.ChangeMaps.setBlock] using r1.fr.size, fun k hk hn => (hob k ?_).trans (r1.fr.block k hk hn)⟩, fun u => ?_, fun u u' hne => ?_, r1.tabs⟩
      · rintro rfl
        rcases hown with h | h
        · exact hn h
        · omega
      · rw [fd_cons]
        split
        · refine ⟨⟨es, ck, si, ck, se.push x.born, hbb, h2, ⟨m1, m2, m3, m4⟩, h3, h8, h8, ?_, fun q hq' => h6 q ((List.eraseIdx_sublist _ _).subset hq'), fun q hq' => ?_⟩, hown, ho⟩
          · have hl : (leftOf es (se.push x.born)).toList = (leftOf es se).toList.eraseIdx i := by
              rw [← hf]
              unfold leftOf
              rw [Array.toList_filter, Array.toList_filter, List.filter_filter]
              refine List.filter_congr fun y _ => ?_
              rw [contains_push]
              cases se.contains y.born <;> cases (y.born == x.born) <;> rfl
            rw [hl, List.eraseIdx_eq_take_drop_succ, List.eraseIdx_eq_take_drop_succ, List.map_append, List.map_append, List.map_take, List.map_drop, List.map_take, List.map_drop, h5]
          · cases hq'
            exact ⟨hpf, x, hxe, hp.symm, se, rfl, rfl⟩
        · rename_i hu
          refine Ent.holds_heap hx' (fun b' he => hob b' ?_) (r1.holds u)
          rintro rfl
          exact Ent.apart_at (r1.apart t u (Ne.symm hu)) (by rw [e]; rfl) he rfl
      · rw [fd_cons, fd_cons]
        by_cases q1 : u = t
        · rw [if_pos q1]
          by_cases q2 : u' = t
          · omega
          · rw [if_neg q2]
            exact Ent.apart_of fun x y e1 e2 => by cases e1; exact Ent.apart_at (r1.apart t u' (fun e => q2 e.symm)) (by rw [e]; rfl) e2
        · rw [if_neg q1]
          by_cases q2 : u' = t
          · rw [if_pos q2]
            exact Ent.apart_of fun x y e1 e2 => by cases e2; exact Ent.apart_at (r1.apart u t q1) e1 (by rw [e]; rfl)
          · rw [if_neg q2]
            exact r1.apart u u' hne
theorem Rel.itEntry {c : Cx} {h : Hp} {w : World} (hr : Rel c h w) {t b mb : Nat} {l left : List (Int × V)} {p : Int × V} (e : fd t h = .it b mb l left (some p)) {P : Program} :
    flB p.2 = true ∧ (Instr.entry (.pointer (some ⟨b, 0, none⟩))).run P w = .ok (.tuple #[.int .i64 p.1, flatV p.2]) w := by
  have H := hr.holds t
  rw [e] at H
  obtain ⟨⟨es, ck, si, c0, se, h1, h2, ⟨m1, m2, m3, m4⟩, h3, h4, h8, h5, h6, h7⟩, hown, ho⟩ := H
  obtain ⟨hf, x, hx, hk, se', rfl, rfl⟩ := h7 p rfl
  have hlt := (Array.getElem?_eq_some_iff.1 h2).1
  have hb : w.heap[mb]? = some (.map es c0) := (hr.fr.block mb hlt ho).trans h2
  refine ⟨hf, ?_⟩
  have := run_entry_at (P := P) w b mb si se' es c0 x h1 hb hx m4
  rw [this]
  have hk1 : x.key = .int .i64 p.1 := congrArg Prod.fst hk
  have hk2 : x.val = flatV p.2 := congrArg Prod.snd hk
  rw [hk1, hk2]
end Go.Proofs.Ytgcnknhfphgfnaa.Sx
