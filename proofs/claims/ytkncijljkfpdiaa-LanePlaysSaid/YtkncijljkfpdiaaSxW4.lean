import Derived.Test.YtkncijljkfpdiaaSxW3
import Derived.Test.YtkncijljkfpdiaaSxDl
/-
  slices.Delete of one number (35).
-/
namespace Go.Proofs.Ytkncijljkfpdiaa.Sx
open Go Go.Proofs
set_option maxRecDepth 100000
set_option linter.unusedSimpArgs false
set_option linter.unusedVariables false

def sDelete : Spec := fun args h nx K => ∃ (q cp : Nat) (e : Ent) (l : List Int) (i : Nat), args = [.slice q 0 l.length cp, .int .i64 i, .int .i64 ((i + 1 : Nat) : Int)] ∧ fd q h = e ∧ lstE e l cp ∧ i < l.length ∧
  ∀ e', e'.rf = e.rf → lstE e' (l.eraseIdx i) cp → K (.ret (.slice q 0 (l.eraseIdx i).length cp)) ((q, e') :: h) nx
theorem del_list {l : List Int} {i : Nat} : (l.take i ++ l.drop (i + 1) ++ List.replicate (i + 1 - i) 0) = l.eraseIdx i ++ [0] := by
  rw [List.eraseIdx_eq_take_drop_succ, show i + 1 - i = 1 by omega]
  rfl
theorem sDelete_ok : SpecOK Try.prog 35 sDelete := by
  rintro c hc args h nx K ⟨q, cp, e, l, i, rfl, hq, hl, hi, hk⟩ w xs hr hv
  rcases hl with ⟨rfl, rfl, rfl⟩ | ⟨b, g, ty, rfl, h1, h2, h3, h4⟩
  · simp at hi
  obtain ⟨x, _, rfl, ⟨base, sz, r1, rfl, -⟩, y, _, rfl, ry, z, _, rfl, rz, rfl⟩ := hv
  obtain rfl : y = .int .i64 i := ry
  obtain rfl : z = .int .i64 ((i + 1 : Nat) : Int) := rz
  rw [hq] at r1
  injection r1 with r1
  injection r1 with r1 r2
  subst r1 r2
  have H := hr.holds q
  rw [hq] at H
  obtain ⟨⟨cs, c1, c2, c3⟩, c4⟩ := H
  have hcell : ∀ j, j < l.length → cs[j]? = some (.int .i64 (l.getD j 0)) := fun j hj => by
    obtain ⟨x, e1, e2⟩ := c3 j 0 (by omega) (by omega)
    rw [h3 j hj] at e2
    rw [Nat.mul_one, Nat.add_zero] at e1
    rw [e1]
    exact congrArg some e2
  have hH : Sort.Holds (Value.int .i64) w b 0 l.toArray := by
    intro j hj
    simp only [List.size_toArray] at hj
    refine ⟨?_, by simp [World.frozen?, c1]⟩
    simp only [World.cell?, c1, Nat.zero_add]
    rw [List.getElem?_toArray, hcell j hj]
    simp [getElem!_pos, hj]
  have hlen : (l.eraseIdx i).length = l.length - 1 := by rw [List.length_eraseIdx, if_pos hi]
  refine .inl ⟨callFunc_enter (fn := Try.f35) rfl rfl rfl _ w, ?_⟩
  have hadd : ((some (⟨b, 0, none⟩ : Addr)).map fun a => a.add (0 * 1)) = some ⟨b, 0, none⟩ := by simp [Addr.add]
  rw [hadd]
  refine (delete_ok b 0 cp i (i + 1) l w hH h1 h2 (by omega) (by omega)).mono ?_
  rintro e w' ⟨rfl, k, rfl⟩
  rw [del_list]
  obtain ⟨D, hD⟩ : ∃ D : Array Int, (l.eraseIdx i ++ [0]).toArray = D := ⟨_, rfl⟩
  have hDs : D.size = l.length := by rw [← hD]; simp [hlen]; omega
  have hDg : ∀ j, j < (l.eraseIdx i).length → D[j]! = (l.eraseIdx i).getD j 0 := fun j hj => by
    rw [← hD]
    rw [getElem!_pos _ j (by simp; omega)]
    simp [List.getElem_append_left hj, hj]
  rw [hD]
  have hb : b < w.heap.size := (Array.getElem?_eq_some_iff.1 c1).1
  have hset : ∀ j, (Sort.putCells (Value.int .i64) 0 D cs.toArray)[j]? = if j < D.size ∧ j < cs.length then some (.int .i64 D[j]!) else cs[j]? := by
    intro j
    unfold Sort.putCells
    rw [Array.getElem?_mapIdx]
    by_cases hj : j < cs.length
    · rw [List.getElem?_toArray, List.getElem?_eq_getElem hj, Option.map_some, Nat.sub_zero, Nat.zero_add]
      by_cases q : j < D.size
      · rw [if_pos ⟨by omega, q⟩, if_pos ⟨q, hj⟩]
      · rw [if_neg (by omega), if_neg (by omega)]
    · rw [if_neg (by omega), List.getElem?_toArray, List.getElem?_eq_none (by omega)]
      rfl
  refine ⟨_, _, nx, hk (.blk b cp 1 (fun j _ => if j < D.size then .int .i64 D[j]! else g j 0) ty) rfl (lstE.of ⟨fun j hj => ?_, fun j hj => ?_⟩ (by omega) h2), ?_, ?_, ?_⟩
  · show (if j < D.size then V.int IntKind.i64 D[j]! else g j 0) = _
    rw [if_pos (by omega), hDg j hj]
  · show flat (if j < D.size then _ else _)
    split
    · trivial
    · exact h4 j hj
  · refine Rel.put (cs := (Sort.putCells (Value.int .i64) 0 D cs.toArray).toList) hr hq rfl rfl rfl ?_ ?_ ?_ (fun j k' hj hk' => ?_) ?_
    · unfold Sort.putRow Sort.mapBlock
      show (w.heap.modify b _).size = _
      simp
    · unfold Sort.putRow Sort.mapBlock
      show ((w.heap.modify b _)[b]?) = _
      rw [Array.getElem?_modify, if_pos rfl, c1]
      rfl
    · have : (Sort.putCells (Value.int .i64) 0 D cs.toArray).size = cs.length := by unfold Sort.putCells; simp
      simp [this, c2]
    · obtain rfl : k' = 0 := by omega
      obtain ⟨x, e1, e2⟩ := c3 j 0 hj (by omega)
      rw [Array.getElem?_toList, hset]
      rw [Nat.mul_one, Nat.add_zero] at e1 ⊢
      by_cases q : j < D.size
      · rw [if_pos ⟨q, by omega⟩, if_pos q]
        exact ⟨_, rfl, rfl⟩
      · rw [if_neg (by omega), if_neg q]
        exact ⟨x, e1, e2⟩
    · intro k hk
      unfold Sort.putRow Sort.mapBlock
      show ((w.heap.modify b _)[k]?) = _
      rw [Array.getElem?_modify, if_neg (by omega)]
  · exact Ext.same (by rw [hq]; rfl)
  · exact ⟨_, rfl, ⟨_, 1, by rw [fd_cons, if_pos rfl]; rfl, by rw [hadd, hlen, show i + 1 - i = 1 by omega], .inl rfl⟩⟩
end Go.Proofs.Ytkncijljkfpdiaa.Sx
