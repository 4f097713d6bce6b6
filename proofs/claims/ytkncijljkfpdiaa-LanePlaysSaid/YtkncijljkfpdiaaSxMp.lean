import Derived.Test.YtkncijljkfpdiaaSxP
/-
  Maps of whole numbers: what looking up, putting in, taking out, and counting come to.
-/
namespace Go.Proofs.Ytkncijljkfpdiaa.Sx
open Go

/-- Where a key stands, and with what. -/
def mfind (n : Int) : List (Int × Int) → Nat → Option (Nat × Int)
  | [], _ => none
  | p :: r, i => if n = p.1 then some (i, p.2) else mfind n r (i + 1)
def mhas (l : List (Int × Int)) (n : Int) : Bool := (mfind n l 0).isSome
def mget (l : List (Int × Int)) (n : Int) : Int := match mfind n l 0 with | some p => p.2 | none => 0
def mput (l : List (Int × Int)) (n z : Int) : List (Int × Int) := match mfind n l 0 with | some p => l.modify p.1 fun q => (q.1, z) | none => l ++ [(n, z)]
def mdel (l : List (Int × Int)) (n : Int) : List (Int × Int) := match mfind n l 0 with | some p => l.eraseIdx p.1 | none => l
def mval (p : Int × Int) : Value × Value := (Value.int .i64 p.1, Value.int .i64 p.2)

theorem mfind_lt {n : Int} : ∀ {l : List (Int × Int)} {i : Nat} {p : Nat × Int}, mfind n l i = some p → i ≤ p.1 ∧ p.1 < i + l.length ∧ l[p.1 - i]? = some (n, p.2)
  | [], i, p, h => by cases h
  | q :: r, i, p, h => by
    unfold mfind at h
    by_cases e : n = q.1
    · rw [if_pos e] at h
      cases h
      exact ⟨Nat.le_refl _, by simp, by simp [e]⟩
    · rw [if_neg e] at h
      obtain ⟨h1, h2, h3⟩ := mfind_lt h
      refine ⟨by omega, by simp; omega, ?_⟩
      rw [show p.1 - i = (p.1 - (i + 1)) + 1 by omega, List.getElem?_cons_succ]
      exact h3
theorem findNow_ok {n : Int} : ∀ {es : List MapEntry} {l : List (Int × Int)} {i : Nat}, es.map (fun e => (e.key, e.val)) = l.map mval → Instr.findNow (.int .i64) (.int .i64 n) es i = some ((mfind n l i).map fun p => (p.1, Value.int .i64 p.2))
  | [], l, i, h => by
    have : l = [] := by cases l with | nil => rfl | cons a b => simp at h
    subst this
    rfl
  | e :: es, [], i, h => by simp at h
  | e :: es, p :: l, i, h => by
    simp only [List.map_cons, List.cons.injEq] at h
    obtain ⟨h1, h2⟩ := h
    have ek : e.key = .int .i64 p.1 := congrArg Prod.fst h1
    have ev : e.val = .int .i64 p.2 := congrArg Prod.snd h1
    have hs : Instr.sameNow (.int .i64) (.int .i64 n) e.key = some (n == p.1) := by rw [ek]; simp [Instr.sameNow]
    unfold Instr.findNow mfind
    rw [hs]
    by_cases q : n = p.1
    · rw [if_pos q, q, ev]; simp
    · have : (n == p.1) = false := by simpa using q
      rw [this, if_neg q]
      exact findNow_ok h2
section
variable {P : Program} {w : World}
theorem run_findKey {kt : TypeId} (hk : P.underlying kt = some (.int .i64)) {n : Int} {es : List MapEntry} {l : List (Int × Int)} (h : es.map (fun e => (e.key, e.val)) = l.map mval) : (Instr.findKey kt (.int .i64 n) es).run P w = .ok ((mfind n l 0).map fun p => (p.1, Value.int .i64 p.2)) w := by
  simp [Instr.findKey, run_underlying hk, findNow_ok h]
theorem run_checkKey' {kt : TypeId} (hk : P.underlying kt = some (.int .i64)) (b : Bool) (n : Int) (m : Nat) : (Instr.checkKey b (m + 1) kt (.int .i64 n)).run P w = .ok () w := by
  unfold Instr.checkKey
  simp [run_underlying hk]
theorem run_checkKey {kt : TypeId} (hk : P.underlying kt = some (.int .i64)) (b : Bool) (n : Int) : (Instr.checkKey b 10000 kt (.int .i64 n)).run P w = .ok () w := run_checkKey' hk b n 9999
theorem run_obj {r : Nat} {es : Array MapEntry} {ck : Nat} (hb : w.heap[r]? = some (.map es ck)) : (getObj r).run P w = .ok (.map es ck) w := by simp [getObj, Sem.run, hb]
theorem run_set {r : Nat} {es : Array MapEntry} {ck : Nat} (o : Obj) (hb : w.heap[r]? = some (.map es ck)) : (setObj r o).run P w = .ok () { w with heap := w.heap.setIfInBounds r o } := by simp [setObj, Sem.run, hb]
theorem run_lookup {t kt et : TypeId} (ht : P.underlying t = some (.map kt et)) (hk : P.underlying kt = some (.int .i64)) {i : TypeInfo} (hi : P.info? et = some i) (hz : i.zero = some (.int .i64 0)) {b : Nat} {l : List (Int × Int)} (hm : MapIs w b l) (n : Int) (ok : Bool) :
    (Instr.lookup t (.map (some b)) (.int .i64 n) ok).run P w = .ok (if ok then .tuple #[.int .i64 (mget l n), .bool (mhas l n)] else .int .i64 (mget l n)) w := by
  obtain ⟨es, ck, h1, h2⟩ := hm
  have h2 : es.toList.map (fun e => (e.key, e.val)) = l.map mval := h2
  have hzv : (zeroValue et).run P w = .ok (.int .i64 0) w := by
    simp [zeroValue, typeInfo, hi, hz]
  unfold Instr.lookup mget mhas
  cases e : mfind n l 0 with
  | none => simp [run_underlying ht, run_obj h1, run_checkKey hk, run_findKey hk h2, e, hzv]
  | some p => simp [run_underlying ht, run_obj h1, run_checkKey hk, run_findKey hk h2, e]
theorem run_len_map {t kt et ty : TypeId} (ht : P.underlying t = some (.map kt et)) {b : Nat} {l : List (Int × Int)} (hm : MapIs w b l) : (Builtin.len_ #[t] ty #[.map (some b)]).run P w = .ok (.int .i64 l.length) w := by
  obtain ⟨es, ck, h1, h2⟩ := hm
  have hl : es.size = l.length := by have := congrArg List.length h2; simpa using this
  simp [Builtin.len_, run_underlying ht, run_obj h1, hl, goInt]
/-- What is put in. -/
theorem run_mapUpdate {t kt et : TypeId} (ht : P.underlying t = some (.map kt et)) (hk : P.underlying kt = some (.int .i64)) {b : Nat} {l : List (Int × Int)} (hm : MapIs w b l) (n z : Int) :
    ∃ es ck, (Instr.mapUpdate t (.map (some b)) (.int .i64 n) (.int .i64 z)).run P w = .ok () { w with heap := w.heap.setIfInBounds b (.map es ck) } ∧ es.toList.map (fun e => (e.key, e.val)) = (mput l n z).map mval := by
  obtain ⟨es, ck, h1, h2⟩ := hm
  have h2 : es.toList.map (fun e => (e.key, e.val)) = l.map mval := h2
  have hl : es.size = l.length := by have := congrArg List.length h2; simpa using this
  unfold mput
  cases e : mfind n l 0 with
  | none =>
    refine ⟨es.push { key := .int .i64 n, val := .int .i64 z, born := ck }, ck + 1, ?_, ?_⟩
    · unfold Instr.mapUpdate
      simp [run_underlying ht, run_obj h1, run_checkKey hk, run_findKey hk h2, e, run_set _ h1]
    · simp [h2, mval]
  | some p =>
    obtain ⟨_, p2, p3⟩ := mfind_lt e
    have hp : p.1 < es.size := by omega
    have hkey : es[p.1].key = .int .i64 n := by
      have h3 := congrArg (fun q => q[p.1]?) h2
      simp only [List.getElem?_map] at h3
      rw [show l[p.1]? = some (n, p.2) from p3] at h3
      simp [hp, mval] at h3
      exact h3.1
    refine ⟨es.modify p.1 fun e => { e with key := .int .i64 n, val := .int .i64 z }, ck, ?_, ?_⟩
    · unfold Instr.mapUpdate
      simp [run_underlying ht, run_obj h1, run_checkKey hk, run_findKey hk h2, e, hp, hkey, Instr.keyThatStays, Instr.sameBits, run_set _ h1]
    · rw [Array.toList_modify]
      refine List.ext_getElem? fun i => ?_
      have h3 := congrArg (fun q => q[i]?) h2
      simp only [List.getElem?_map] at h3
      simp only [List.getElem?_map, List.getElem?_modify]
      by_cases q : p.1 = i
      · subst q
        rw [show l[p.1]? = some (n, p.2) from p3]
        simp [hp, mval]
      · simp only [if_neg q]
        simpa using h3
/-- What is taken out. -/
theorem run_delete {t kt et kt' ty : TypeId} (ht : P.underlying t = some (.map kt et)) (hk : P.underlying kt = some (.int .i64)) {b : Nat} {l : List (Int × Int)} (hm : MapIs w b l) (n : Int) :
    ∃ es ck, (Builtin.delete_ #[t, kt'] ty #[.map (some b), .int .i64 n]).run P w = .ok (.tuple #[]) { w with heap := w.heap.setIfInBounds b (.map es ck) } ∧ es.toList.map (fun e => (e.key, e.val)) = (mdel l n).map mval := by
  obtain ⟨es, ck, h1, h2⟩ := hm
  have h2 : es.toList.map (fun e => (e.key, e.val)) = l.map mval := h2
  unfold mdel
  cases e : mfind n l 0 with
  | none =>
    refine ⟨es, ck, ?_, h2⟩
    unfold Builtin.delete_
    simp [run_underlying ht, run_obj h1, run_checkKey hk, run_findKey hk h2, e, run_set _ h1]
  | some p =>
    refine ⟨es.eraseIdxIfInBounds p.1, ck, ?_, ?_⟩
    · unfold Builtin.delete_
      simp [run_underlying ht, run_obj h1, run_checkKey hk, run_findKey hk h2, e, run_set _ h1]
    · have hl : es.size = l.length := by have := congrArg List.length h2; simpa using this
      obtain ⟨_, p2, p3⟩ := mfind_lt e
      have hp : p.1 < es.size := by omega
      have he : (es.eraseIdxIfInBounds p.1).toList = es.toList.eraseIdx p.1 := by simp [Array.eraseIdxIfInBounds, hp]
      rw [he]
      show List.map _ _ = List.map mval (l.eraseIdx p.1)
      rw [List.eraseIdx_eq_take_drop_succ, List.eraseIdx_eq_take_drop_succ, List.map_append, List.map_append, List.map_take, List.map_drop, List.map_take, List.map_drop, h2]
end

theorem Rel.mapIs {c : Cx} {h : Hp} {w : World} (hr : Rel c h w) {t b : Nat} {l : List (Int × Int)} (e : fd t h = .mp b l ∨ fd t h = .rmp b l) : MapIs w b l := by
  have H := hr.holds t
  rcases e with e | e
  · rw [e] at H; exact H.1
  · rw [e] at H
    obtain ⟨⟨es, ck, e1, e2⟩, e3⟩ := H
    exact ⟨es, ck, (hr.fr.block b (Array.getElem?_eq_some_iff.1 e1).1 e3).trans e1, e2⟩
/-- A map of ours is written anew. -/
theorem Rel.putM {c : Cx} {h : Hp} {w w' : World} (hr : Rel c h w) {t b : Nat} {l l' : List (Int × Int)} (e : fd t h = .mp b l) {es : Array MapEntry} {ck : Nat} (hw : w' = { w with heap := w.heap.setIfInBounds b (.map es ck) })
    (hes : es.toList.map (fun e => (e.key, e.val)) = l'.map mval) : Rel c ((t, .mp b l') :: h) w' := by
  subst hw
  have hx : Ext h ((t, .mp b l') :: h) := Ext.same (by rw [e]; rfl)
  have hlt := hr.ltm e
  have hown : c.own b ∨ c.w0.heap.size ≤ b := by have := hr.holds t; rw [e] at this; exact this.2
  have ho : ∀ k, k ≠ b → (w.heap.setIfInBounds b (.map es ck))[k]? = w.heap[k]? := fun k hk => Array.getElem?_setIfInBounds_ne (fun q => hk q.symm)
  have hb : (w.heap.setIfInBounds b (.map es ck))[b]? = some (.map es ck) := by rw [Array.getElem?_setIfInBounds]; simp [hlt]
  refine ⟨⟨hr.fr.os, hr.fr.tape, hr.fr.output, by simpa using hr.fr.size, fun k hk hn => (ho k ?_).trans (hr.fr.block k hk hn)⟩, fun u => ?_, fun u u' hne => ?_, hr.tabs⟩
  · rintro rfl
    rcases hown with h1 | h1
    · exact hn h1
    · omega
  · rw [fd_cons]
    split
    · exact ⟨⟨es, ck, hb, hes⟩, hown⟩
    · rename_i hu
      refine Ent.holds_heap hx (fun b' he => ho b' ?_) (hr.holds u)
      rintro rfl
      exact Ent.apart_at (hr.apart t u (Ne.symm hu)) (by rw [e]; rfl) he rfl
  · rw [fd_cons, fd_cons]
    by_cases h1 : u = t
    · rw [if_pos h1]
      by_cases h2 : u' = t
      · omega
      · rw [if_neg h2]
        exact Ent.apart_of fun x y e1 e2 => by cases e1; exact Ent.apart_at (hr.apart t u' (fun e => h2 e.symm)) (by rw [e]; rfl) e2
    · rw [if_neg h1]
      by_cases h2 : u' = t
      · rw [if_pos h2]
        exact Ent.apart_of fun x y e1 e2 => by cases e2; exact Ent.apart_at (hr.apart u t h1) e1 (by rw [e]; rfl)
      · rw [if_neg h2]
        exact hr.apart u u' hne
/-- A new map. -/
theorem Rel.allocM {c : Cx} {h : Hp} {w : World} (hr : Rel c h w) {nx : Nat} (hn : (fd nx h).rf = none) : Rel c ((nx, .mp w.heap.size []) :: h) (w.alloc (.map #[] 0)) := by
  have hx : Ext h ((nx, .mp w.heap.size []) :: h) := Ext.new hn
  have hsz : (w.alloc (.map #[] 0)).heap.size = w.heap.size + 1 := by simp
  have hold : ∀ k, k < w.heap.size → (w.alloc (.map #[] 0)).heap[k]? = w.heap[k]? := fun k hk => Go.RowKit.Below.heap_alloc _ _ _ hk
  have hnew : (w.alloc (.map #[] 0)).heap[w.heap.size]? = some (.map #[] 0) := by
    show (w.heap.push _)[w.heap.size]? = _
    rw [Array.getElem?_push, if_pos rfl]
  refine ⟨⟨hr.fr.os, hr.fr.tape, hr.fr.output, by rw [hsz]; have := hr.fr.size; omega, fun k hk ho => (hold k (by have := hr.fr.size; omega)).trans (hr.fr.block k hk ho)⟩, fun t => ?_, fun t t' hne => ?_, hr.tabs⟩
  · rw [fd_cons]
    split
    · exact ⟨⟨#[], 0, hnew, rfl⟩, .inr hr.fr.size⟩
    · exact Ent.holds_heap hx (fun b he => hold b (hr.lta he)) (hr.holds t)
  · rw [fd_cons, fd_cons]
    split
    · split
      · omega
      · exact Ent.apart_of fun b b' e1 e2 => by cases e1; exact (Nat.ne_of_lt (hr.lta e2)).symm
    · split
      · exact Ent.apart_of fun b b' e1 e2 => by cases e2; exact Nat.ne_of_lt (hr.lta e1)
      · exact hr.apart t t' hne
end Go.Proofs.Ytkncijljkfpdiaa.Sx
