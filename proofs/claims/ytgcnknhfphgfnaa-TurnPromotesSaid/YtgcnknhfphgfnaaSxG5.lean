import Derived.Test.YtgcnknhfphgfnaaSxG4
/-
  The plain law of turns: the program's places, and the document's two rows.
-/
namespace Go.Proofs.Ytgcnknhfphgfnaa.Sx
open Go Go.Proofs
set_option maxRecDepth 100000
set_option linter.unusedSimpArgs false
set_option linter.unusedVariables false

def dl (L : List Pl) : Dl := L.map fun p => (p.t, p.w)
theorem dl_len (L : List Pl) : (dl L).length = L.length := by unfold dl; simp
theorem dl_at {L : List Pl} {i : Nat} {p : Pl} (h : L[i]? = some p) : (dl L)[i]? = some (p.t, p.w) := by unfold dl; rw [List.getElem?_map, h]; rfl
theorem dl_app (L M : List Pl) : dl (L ++ M) = dl L ++ dl M := by unfold dl; simp
theorem dl_erase (L : List Pl) (i : Nat) : dl (L.eraseIdx i) = (dl L).eraseIdx i := by
  unfold dl; rw [List.eraseIdx_eq_take_drop_succ, List.eraseIdx_eq_take_drop_succ, List.map_append, List.map_take, List.map_drop]
theorem dl_set (L : List Pl) (i : Nat) (p : Pl) : dl (L.set i p) = (dl L).set i (p.t, p.w) := by unfold dl; rw [List.map_set]
/-- The places S in the order of their turns: demands, and what is ahead. -/
structure Rl (n : Int) (S Dp Ap : List Pl) : Prop where
  perm : (Dp ++ Ap).Perm S
  nd : (S.map (·.t)).Nodup
  da : ∀ p ∈ Dp, p.a = false
  aa : ∀ p ∈ Ap, p.a = true
  sd : Dp.Pairwise fun p q => p.n < q.n
  sa : Ap.Pairwise fun p q => p.n < q.n
  le : ∀ p ∈ S, p.n ≤ n
theorem fIdx_dl (L : List Pl) (t : Int) : (fIdx (dl L) t = -1 ∧ ∀ p ∈ L, p.t ≠ t) ∨ ∃ (i : Nat) (p : Pl), fIdx (dl L) t = (i : Int) ∧ L[i]? = some p ∧ p.t = t := by
  rcases fIdx_cases (dl L) t with ⟨e, h⟩ | ⟨i, w, e, hi, _⟩
  · refine .inl ⟨e, fun p hp => ?_⟩
    obtain ⟨j, hj, rfl⟩ := List.getElem_of_mem hp
    exact h j _ (dl_at (List.getElem?_eq_getElem hj))
  · have hl := lt_of_at hi
    rw [dl_len] at hl
    have h2 := dl_at (List.getElem?_eq_getElem hl)
    rw [hi] at h2
    refine .inr ⟨i, L[i], e, List.getElem?_eq_getElem hl, ?_⟩
    injection h2 with h2
    injection h2 with h2 _
    exact h2.symm
section
variable {n : Int} {S Dp Ap : List Pl} (R : Rl n S Dp Ap)
include R
theorem Rl.mem {p : Pl} : p ∈ S ↔ p ∈ Dp ∨ p ∈ Ap := by rw [← R.perm.mem_iff, List.mem_append]
theorem Rl.len : S.length = Dp.length + Ap.length := by rw [← R.perm.length_eq, List.length_append]
theorem Rl.one {p q : Pl} (hp : p ∈ S) (hq : q ∈ S) (h : p.t = q.t) : p = q := by
  obtain ⟨i, hi, rfl⟩ := List.getElem_of_mem hp
  obtain ⟨j, hj, rfl⟩ := List.getElem_of_mem hq
  have : i = j := by
    have hnd := R.nd
    rw [List.nodup_iff_pairwise_ne] at hnd
    rcases Nat.lt_trichotomy i j with hij | hij | hij
    · have := List.pairwise_iff_getElem.1 hnd i j (by simpa using hi) (by simpa using hj) hij
      exact absurd (by simpa using h) this
    · exact hij
    · have := List.pairwise_iff_getElem.1 hnd j i (by simpa using hj) (by simpa using hi) hij
      exact absurd (by simpa using h.symm) this
  subst this; rfl
theorem Rl.cnt : cntP false S = Dp.length ∧ cntP true S = Ap.length := by
  have key : ∀ b, cntP b S = cntP b (Dp ++ Ap) := fun b => ((R.perm.filter (fun p : Pl => p.a == b)).length_eq).symm
  have e1 : ∀ b, cntP b (Dp ++ Ap) = cntP b Dp + cntP b Ap := fun b => by unfold cntP; rw [List.filter_append, List.length_append]
  have d1 : cntP false Dp = Dp.length := by unfold cntP; rw [List.filter_eq_self.2 (fun p hp => by simp [R.da p hp])]
  have d2 : cntP true Dp = 0 := by unfold cntP; rw [List.filter_eq_nil_iff.2 (fun p hp => by simp [R.da p hp])]; rfl
  have a1 : cntP true Ap = Ap.length := by unfold cntP; rw [List.filter_eq_self.2 (fun p hp => by simp [R.aa p hp])]
  have a2 : cntP false Ap = 0 := by unfold cntP; rw [List.filter_eq_nil_iff.2 (fun p hp => by simp [R.aa p hp])]; rfl
  rw [key, key, e1, e1, d1, d2, a1, a2]
  omega
theorem Rl.fr (d a : Int) (b : Bool) : frI d a S b = if b = true then a - (Ap.length : Int) else d - (Dp.length : Int) := by
  unfold frI
  rw [R.cnt.1, R.cnt.2]
omit R in
theorem hasP_iff {S : List Pl} {t : Int} : hasP S t = true ↔ ∃ p ∈ S, p.t = t := by unfold hasP; simp
omit R in
theorem getP_mem {S : List Pl} {t : Int} (h : hasP S t = true) : getP S t ∈ S ∧ (getP S t).t = t := by
  unfold getP
  cases e : S.find? fun p => p.t == t with
  | none =>
    have := List.find?_eq_none.1 e
    obtain ⟨p, hp, ht⟩ := hasP_iff.1 h
    exact absurd (by simpa using ht) (this p hp)
  | some p => exact ⟨List.mem_of_find?_eq_some e, by simpa using List.find?_some e⟩
theorem Rl.get {p : Pl} (hp : p ∈ S) : getP S p.t = p := by
  obtain ⟨h1, h2⟩ := getP_mem (S := S) (t := p.t) (hasP_iff.2 ⟨p, hp, rfl⟩)
  exact R.one h1 hp h2
omit R in
theorem getP_no {S : List Pl} {t : Int} (h : hasP S t = false) : getP S t = Pl.zero := by
  unfold getP
  have : S.find? (fun p => p.t == t) = none := by
    rw [List.find?_eq_none]
    intro p hp hh
    have : hasP S t = true := hasP_iff.2 ⟨p, hp, by simpa using hh⟩
    rw [h] at this; cases this
  rw [this]; rfl
/-- Where a ticket has its place. -/
inductive Loc (t : Int) : Prop where
  | no (h : hasP S t = false) (h1 : fIdx (dl Dp) t = -1) (h2 : fIdx (dl Ap) t = -1)
  | d (i : Nat) (p : Pl) (h : hasP S t = true) (hp : Dp[i]? = some p) (ht : p.t = t) (h1 : fIdx (dl Dp) t = i) (h2 : fIdx (dl Ap) t = -1) (hg : getP S t = p) (ha : p.a = false) (hm : p ∈ S)
  | a (i : Nat) (p : Pl) (h : hasP S t = true) (hp : Ap[i]? = some p) (ht : p.t = t) (h1 : fIdx (dl Dp) t = -1) (h2 : fIdx (dl Ap) t = i) (hg : getP S t = p) (ha : p.a = true) (hm : p ∈ S)
theorem Rl.loc (t : Int) : Loc (S := S) (Dp := Dp) (Ap := Ap) t := by
  rcases fIdx_dl Dp t with ⟨e1, n1⟩ | ⟨i, p, e1, hp, ht⟩
  · rcases fIdx_dl Ap t with ⟨e2, n2⟩ | ⟨i, p, e2, hp, ht⟩
    · refine .no ?_ e1 e2
      cases h : hasP S t with
      | false => rfl
      | true =>
        obtain ⟨p, hp, ht⟩ := hasP_iff.1 h
        rcases R.mem.1 hp with q | q
        · exact absurd ht (n1 p q)
        · exact absurd ht (n2 p q)
    · have hm : p ∈ S := R.mem.2 (.inr (List.mem_of_getElem? hp))
      exact .a i p (hasP_iff.2 ⟨p, hm, ht⟩) hp ht e1 e2 (by rw [← ht]; exact R.get hm) (R.aa p (List.mem_of_getElem? hp)) hm
  · have hm : p ∈ S := R.mem.2 (.inl (List.mem_of_getElem? hp))
    refine .d i p (hasP_iff.2 ⟨p, hm, ht⟩) hp ht e1 ?_ (by rw [← ht]; exact R.get hm) (R.da p (List.mem_of_getElem? hp)) hm
    rcases fIdx_dl Ap t with ⟨e2, _⟩ | ⟨j, q, e2, hq, hqt⟩
    · exact e2
    · have hqm : q ∈ S := R.mem.2 (.inr (List.mem_of_getElem? hq))
      have := R.one hm hqm (ht.trans hqt.symm)
      subst this
      have h1 := R.da p (List.mem_of_getElem? hp)
      have h2 := R.aa p (List.mem_of_getElem? hq)
      rw [h1] at h2; cases h2
theorem Rl.has (t : Int) : hasD (dl Dp) (dl Ap) t = hasP S t := by
  unfold hasD
  cases R.loc t with
  | no h h1 h2 => rw [h, h1, h2]; decide
  | d i p h hp ht h1 h2 hg ha hm => rw [h, h1, h2]; simp
  | a i p h hp ht h1 h2 hg ha hm => rw [h, h1, h2]; simp
theorem Rl.st (t : Int) : stD (dl Dp) (dl Ap) t = ((getP S t).a, (getP S t).w, hasP S t) := by
  unfold stD
  cases R.loc t with
  | no h h1 h2 => rw [h1, h2, if_neg (by decide), if_neg (by decide), h, getP_no h]; rfl
  | d i p h hp ht h1 h2 hg ha hm => rw [h1, if_pos (by omega), h, hg, ha, Int.toNat_natCast, getD_of (dl_at hp)]
  | a i p h hp ht h1 h2 hg ha hm => rw [h1, h2, if_neg (by decide), if_pos (by omega), h, hg, ha, Int.toNat_natCast, getD_of (dl_at hp)]
/-- What waits, in its order. -/
theorem Rl.waits : OneW S (wtI (dl (Dp ++ Ap))) := by
  intro out hs hp
  have hso : (((Dp ++ Ap).filter (·.w))).Pairwise leP := by
    refine List.Pairwise.filter _ (List.pairwise_append.2 ⟨?_, ?_, fun p hp q hq => ?_⟩)
    · refine (List.Pairwise.and_mem.1 R.sd).imp fun {p q} h => ?_
      unfold leP lessP
      rw [R.da _ h.1, R.da _ h.2.1]; simp; have := h.2.2; omega
    · refine (List.Pairwise.and_mem.1 R.sa).imp fun {p q} h => ?_
      unfold leP lessP
      rw [R.aa _ h.1, R.aa _ h.2.1]; simp; have := h.2.2; omega
    · unfold leP lessP
      rw [R.da _ hp, R.aa _ hq]; simp
  have hpp : out.Perm ((Dp ++ Ap).filter (·.w)) := hp.trans (R.perm.filter _).symm
  have key : out = (Dp ++ Ap).filter (·.w) := by
    refine List.Perm.eq_of_pairwise (le := leP) (fun p q hp hq h1 h2 => ?_) hs hso hpp
    have mp : p ∈ Dp ++ Ap := (List.mem_filter.1 (hpp.mem_iff.1 hp)).1
    have mq : q ∈ Dp ++ Ap := (List.mem_filter.1 hq).1
    have key : p.a = q.a ∧ p.n = q.n := by
      unfold leP lessP at h1 h2
      cases ea : p.a <;> cases eb : q.a <;> simp [ea, eb] at h1 h2 ⊢ <;> omega
    have same : ∀ (L : List Pl), L.Pairwise (fun p q => p.n < q.n) → p ∈ L → q ∈ L → p = q := fun L hL h1 h2 => by
      obtain ⟨i, hi, e1⟩ := List.getElem_of_mem h1
      obtain ⟨j, hj, e2⟩ := List.getElem_of_mem h2
      rcases Nat.lt_trichotomy i j with h | h | h
      · have := List.pairwise_iff_getElem.1 hL i j hi hj h
        rw [e1, e2] at this; omega
      · subst h; rw [← e1, ← e2]
      · have := List.pairwise_iff_getElem.1 hL j i hj hi h
        rw [e1, e2] at this; omega
    rcases List.mem_append.1 mp with m1 | m1 <;> rcases List.mem_append.1 mq with m2 | m2
    · exact same Dp R.sd m1 m2
    · have := key.1; rw [R.da _ m1, R.aa _ m2] at this; cases this
    · have := key.1; rw [R.aa _ m1, R.da _ m2] at this; cases this
    · exact same Ap R.sa m1 m2
  rw [key]
  unfold wtI dl
  rw [List.filter_map, List.map_map]
  rfl
end
end Go.Proofs.Ytgcnknhfphgfnaa.Sx

/-
  The plain law of turns: each act on both.
-/
namespace Go.Proofs.Ytgcnknhfphgfnaa.Sx
open Go Go.Proofs
set_option maxRecDepth 100000
set_option linter.unusedSimpArgs false
set_option linter.unusedVariables false

theorem set_perm1 {α : Type} : ∀ {l : List α} {i : Nat} {x y : α}, l[i]? = some x → (l.set i y).Perm (y :: l.eraseIdx i)
  | [], i, x, y, h => by simp at h
  | z :: l, 0, x, y, h => List.Perm.refl _
  | z :: l, i + 1, x, y, h => by
    rw [List.eraseIdx_cons_succ, List.set_cons_succ]
    exact ((set_perm1 (l := l) (i := i) (x := x) (y := y) (by simpa using h)).cons z).trans (List.Perm.swap y z _)
theorem modify_set {S : List Pl} {j : Nat} {q : Pl} : S.modify j (fun _ => q) = S.set j q := by
  refine List.ext_getElem? fun i => ?_
  rw [List.getElem?_modify, List.getElem?_set]
  by_cases h : j = i
  · subst h
    by_cases hl : j < S.length
    · rw [if_pos rfl, if_pos hl, List.getElem?_eq_getElem hl]; simp
    · rw [if_pos rfl, if_neg hl, List.getElem?_eq_none (by omega)]; rfl
  · rw [if_neg h]
    cases S[i]? <;> simp [h]
theorem setP_no {S : List Pl} {p : Pl} (h : hasP S p.t = false) : setP S p = S ++ [p] := by unfold setP; rw [if_neg (by simp [h])]
/-- Where a ticket's place stands in S. -/
theorem find_at {S : List Pl} {t : Int} (h : hasP S t = true) : ∃ q, S[S.findIdx fun p => p.t == t]? = some q ∧ q.t = t ∧ q ∈ S := by
  obtain ⟨p, hp, ht⟩ := hasP_iff.1 h
  have hlt : S.findIdx (fun p => p.t == t) < S.length := List.findIdx_lt_length_of_exists ⟨p, hp, by simpa using ht⟩
  refine ⟨_, List.getElem?_eq_getElem hlt, by simpa using List.findIdx_getElem (w := hlt), List.getElem_mem _⟩
theorem pw_set {L : List Pl} {i : Nat} {p q : Pl} (hp : L[i]? = some p) (hn : q.n = p.n) (h : L.Pairwise fun x y => x.n < y.n) : (L.set i q).Pairwise fun x y => x.n < y.n := by
  rw [List.pairwise_iff_getElem] at h ⊢
  have e : ∀ k (hk : k < (L.set i q).length), ((L.set i q)[k]).n = (L[k]'(by simpa using hk)).n := fun k hk => by
    rw [List.getElem_set]
    split
    · rename_i hik
      subst hik
      have := (List.getElem?_eq_some_iff.1 hp).2
      rw [this, hn]
    · rfl
  intro a b ha hb hab
  rw [e, e]
  exact h a b _ _ hab
theorem pw_app {L : List Pl} {q : Pl} (h : L.Pairwise fun x y => x.n < y.n) (hq : ∀ p ∈ L, p.n < q.n) : (L ++ [q]).Pairwise fun x y => x.n < y.n :=
  List.pairwise_append.2 ⟨h, List.pairwise_singleton _ _, fun p hp x hx => by rw [List.mem_singleton.1 hx]; exact hq p hp⟩
theorem mem_setL {L : List Pl} {i : Nat} {q x : Pl} (h : x ∈ L.set i q) : x = q ∨ x ∈ L := (List.mem_or_eq_of_mem_set h).symm
section
variable {n : Int} {S Dp Ap : List Pl} (R : Rl n S Dp Ap)
include R
theorem Rl.ltn {p : Pl} (h : p ∈ Dp ∨ p ∈ Ap) : p.n ≤ n := R.le p (R.mem.2 h)
theorem Rl.add {p : Pl} (h : hasP S p.t = false) (hn : p.n = n + 1) : (p.a = false → Rl (n + 1) (setP S p) (Dp ++ [p]) Ap) ∧ (p.a = true → Rl (n + 1) (setP S p) Dp (Ap ++ [p])) := by
  rw [setP_no h]
  have nd : ((S ++ [p]).map (·.t)).Nodup := by
    rw [List.map_append]
    refine List.nodup_append.2 ⟨R.nd, by simp, fun x hx y hy => ?_⟩
    rintro rfl
    obtain ⟨q, hq, rfl⟩ := List.mem_map.1 hx
    have hy : q.t = p.t := by simpa using hy
    have : hasP S p.t = true := hasP_iff.2 ⟨q, hq, hy⟩
    rw [h] at this; cases this
  have le : ∀ q ∈ S ++ [p], q.n ≤ n + 1 := fun q hq => by
    rcases List.mem_append.1 hq with q1 | q1
    · have := R.le q q1; omega
    · rw [List.mem_singleton.1 q1]; omega
  refine ⟨fun ha => ⟨?_, nd, fun q hq => ?_, R.aa, pw_app R.sd (fun q hq => by have := R.ltn (.inl hq); omega), R.sa, le⟩, fun ha => ⟨?_, nd, R.da, fun q hq => ?_, R.sd, pw_app R.sa (fun q hq => by have := R.ltn (.inr hq); omega), le⟩⟩
  · have e : (Dp ++ [p] ++ Ap).Perm ((Dp ++ Ap) ++ [p]) := by
      rw [List.append_assoc, List.append_assoc]
      exact List.Perm.append_left Dp List.perm_append_comm
    exact e.trans (R.perm.append_right [p])
  · rcases List.mem_append.1 hq with q1 | q1
    · exact R.da q q1
    · rw [List.mem_singleton.1 q1]; exact ha
  · rw [← List.append_assoc]
    exact R.perm.append_right [p]
  · rcases List.mem_append.1 hq with q1 | q1
    · exact R.aa q q1
    · rw [List.mem_singleton.1 q1]; exact ha
/-- A place in another one's stead: how S changes. -/
theorem Rl.sets {p q : Pl} (hp : p ∈ S) (ht : q.t = p.t) : ∃ rest, S.Perm (p :: rest) ∧ (setP S q).Perm (q :: rest) ∧ (setP S q).map (·.t) = S.map (·.t) := by
  have hh : hasP S q.t = true := hasP_iff.2 ⟨p, hp, ht.symm⟩
  obtain ⟨x, hx, hxt, hxm⟩ := find_at hh
  have : x = p := R.one hxm hp (hxt.trans ht)
  subst this
  refine ⟨S.eraseIdx (S.findIdx fun p => p.t == q.t), perm_eraseIdx hx, ?_, ?_⟩
  · unfold setP
    rw [if_pos hh, modify_set]
    exact set_perm1 hx
  · unfold setP
    rw [if_pos hh, modify_set]
    refine List.ext_getElem? fun i => ?_
    rw [List.getElem?_map, List.getElem?_map, List.getElem?_set]
    by_cases h : S.findIdx (fun p => p.t == q.t) = i
    · rw [if_pos h, if_pos (lt_of_at hx)]
      rw [h] at hx
      rw [hx]
      simp [ht]
    · rw [if_neg h]
theorem Rl.repl {p q : Pl} {i : Nat} (ht : q.t = p.t) (ha : q.a = p.a) (hn : q.n = p.n) : (Dp[i]? = some p → Rl n (setP S q) (Dp.set i q) Ap) ∧ (Ap[i]? = some p → Rl n (setP S q) Dp (Ap.set i q)) := by
  have le : ∀ {rest : List Pl}, p ∈ S → S.Perm (p :: rest) → (setP S q).Perm (q :: rest) → ∀ x ∈ setP S q, x.n ≤ n := fun hp h1 h2 x hx => by
    rcases List.mem_cons.1 (h2.mem_iff.1 hx) with rfl | hx
    · rw [hn]; exact R.le p hp
    · exact R.le x (h1.mem_iff.2 (List.mem_cons_of_mem _ hx))
  refine ⟨fun hi => ?_, fun hi => ?_⟩
  · have hm : p ∈ S := R.mem.2 (.inl (List.mem_of_getElem? hi))
    obtain ⟨rest, h1, h2, h3⟩ := R.sets hm ht
    have h4 : (Dp.eraseIdx i ++ Ap).Perm rest := ((((perm_eraseIdx hi).append_right Ap).symm).trans (R.perm.trans h1)).cons_inv
    refine ⟨(((set_perm1 hi).append_right Ap).trans (h4.cons q)).trans h2.symm, by rw [h3]; exact R.nd, fun x hx => ?_, R.aa, pw_set hi hn R.sd, R.sa, le hm h1 h2⟩
    rcases mem_setL hx with rfl | hx
    · rw [ha]; exact R.da p (List.mem_of_getElem? hi)
    · exact R.da x hx
  · have hm : p ∈ S := R.mem.2 (.inr (List.mem_of_getElem? hi))
    obtain ⟨rest, h1, h2, h3⟩ := R.sets hm ht
    have h4 : (Dp ++ Ap.eraseIdx i).Perm rest := ((((perm_eraseIdx hi).append_left Dp).trans (List.perm_middle)).symm.trans (R.perm.trans h1)).cons_inv
    refine ⟨((((set_perm1 hi).append_left Dp).trans List.perm_middle).trans (h4.cons q)).trans h2.symm, by rw [h3]; exact R.nd, R.da, fun x hx => ?_, R.sd, pw_set hi hn R.sa, le hm h1 h2⟩
    rcases mem_setL hx with rfl | hx
    · rw [ha]; exact R.aa p (List.mem_of_getElem? hi)
    · exact R.aa x hx
theorem Rl.move {p q : Pl} {i : Nat} (hi : Ap[i]? = some p) (ht : q.t = p.t) (ha : q.a = false) (hn : q.n = n + 1) : Rl (n + 1) (setP S q) (Dp ++ [q]) (Ap.eraseIdx i) := by
  have hm : p ∈ S := R.mem.2 (.inr (List.mem_of_getElem? hi))
  obtain ⟨rest, h1, h2, h3⟩ := R.sets hm ht
  have h4 : (Dp ++ Ap.eraseIdx i).Perm rest := ((((perm_eraseIdx hi).append_left Dp).trans (List.perm_middle)).symm.trans (R.perm.trans h1)).cons_inv
  have h5 : (Dp ++ [q] ++ Ap.eraseIdx i).Perm (q :: (Dp ++ Ap.eraseIdx i)) := by rw [List.append_assoc]; exact List.perm_middle
  refine ⟨(h5.trans (h4.cons q)).trans h2.symm, by rw [h3]; exact R.nd, fun x hx => ?_, fun x hx => R.aa x (List.mem_of_mem_eraseIdx hx), pw_app R.sd (fun x hx => by have := R.ltn (.inl hx); omega), R.sa.sublist (List.eraseIdx_sublist _ _), fun x hx => ?_⟩
  · rcases List.mem_append.1 hx with hx | hx
    · exact R.da x hx
    · rw [List.mem_singleton.1 hx]; exact ha
  · rcases List.mem_cons.1 (h2.mem_iff.1 hx) with rfl | hx
    · omega
    · have := R.le x (h1.mem_iff.2 (List.mem_cons_of_mem _ hx)); omega
theorem Rl.del {p : Pl} {i : Nat} : (Dp[i]? = some p → Rl n (delP S p.t) (Dp.eraseIdx i) Ap) ∧ (Ap[i]? = some p → Rl n (delP S p.t) Dp (Ap.eraseIdx i)) := by
  have key : p ∈ S → S.Perm (p :: delP S p.t) ∧ ((delP S p.t).map (·.t)).Nodup ∧ ∀ x ∈ delP S p.t, x.n ≤ n := fun hm => by
    obtain ⟨x, hx, hxt, hxm⟩ := find_at (hasP_iff.2 ⟨p, hm, rfl⟩)
    have : x = p := R.one hxm hm hxt
    subst this
    refine ⟨perm_eraseIdx hx, ?_, fun y hy => R.le y (List.mem_of_mem_eraseIdx hy)⟩
    exact R.nd.sublist ((List.eraseIdx_sublist _ _).map _)
  refine ⟨fun hi => ?_, fun hi => ?_⟩
  · obtain ⟨h1, h2, h3⟩ := key (R.mem.2 (.inl (List.mem_of_getElem? hi)))
    exact ⟨((((perm_eraseIdx hi).append_right Ap).symm).trans (R.perm.trans h1)).cons_inv, h2, fun x hx => R.da x (List.mem_of_mem_eraseIdx hx), R.aa, R.sd.sublist (List.eraseIdx_sublist _ _), R.sa, h3⟩
  · obtain ⟨h1, h2, h3⟩ := key (R.mem.2 (.inr (List.mem_of_getElem? hi)))
    exact ⟨((((perm_eraseIdx hi).append_left Dp).trans (List.perm_middle)).symm.trans (R.perm.trans h1)).cons_inv, h2, R.da, fun x hx => R.aa x (List.mem_of_mem_eraseIdx hx), R.sd, R.sa.sublist (List.eraseIdx_sublist _ _), h3⟩
end
end Go.Proofs.Ytgcnknhfphgfnaa.Sx

/-
  The plain law of turns: whatever is done, on both.
-/
namespace Go.Proofs.Ytgcnknhfphgfnaa.Sx
open Go Go.Proofs
set_option maxRecDepth 100000
set_option linter.unusedSimpArgs false
set_option linter.unusedVariables false

/-- What a step leaves on both. -/
def Both (d a n : Int) (Dp Ap : List Pl) (r : Res) (q : RR) : Prop := ∃ Dp' Ap', Rl r.n r.S Dp' Ap' ∧ r.e = q.e ∧ q.D = dl Dp' ∧ q.A = dl Ap' ∧ n ≤ r.n ∧ r.n ≤ n + 1 ∧ ((Dp.length : Int) ≤ d → (Dp'.length : Int) ≤ d) ∧ ((Ap.length : Int) ≤ a → (Ap'.length : Int) ≤ a)
section
variable {n : Int} {S Dp Ap : List Pl} (R : Rl n S Dp Ap)
include R
theorem Rl.same (d a : Int) (e : Int) : Both d a n Dp Ap ⟨e, n, S⟩ ⟨e, dl Dp, dl Ap⟩ := ⟨Dp, Ap, R, rfl, rfl, rfl, by show n ≤ n; omega, by show n ≤ n + 1; omega, fun h => h, fun h => h⟩
theorem Rl.put (d a : Int) (t : Int) (ah : Bool) : Both d a n Dp Ap (putR d a n S t ah) (rPut d a (dl Dp) (dl Ap) t ah) := by
  unfold putR rPut
  by_cases h1 : t < 1
  · rw [if_pos h1, if_pos h1]; exact R.same d a 1
  rw [if_neg h1, if_neg h1, R.has]
  by_cases h2 : hasP S t = true
  · rw [if_pos h2, if_pos h2]; exact R.same d a 4
  rw [if_neg h2, if_neg h2]
  have h2 : hasP S t = false := by simpa using h2
  have key := R.add (p := ⟨t, n + 1, ah, true⟩) h2 rfl
  cases ah with
  | true =>
    have hf : frI d a S true = a - (Ap.length : Int) := by rw [R.fr]; rfl
    have hl : ((dl Ap).length : Int) = (Ap.length : Int) := by rw [dl_len]
    rw [hf, if_pos (rfl : true = true), hl]
    by_cases h3 : a ≤ (Ap.length : Int)
    · have c1 : ¬ a - (Ap.length : Int) > 0 := by omega
      rw [if_pos h3, if_neg c1]; exact R.same d a 2
    · have c1 : a - (Ap.length : Int) > 0 := by omega
      rw [if_neg h3, if_pos c1]
      exact ⟨Dp, _, key.2 rfl, rfl, rfl, by rw [dl_app]; rfl, by show n ≤ n + 1; omega, by show n + 1 ≤ n + 1; omega, fun h => h, fun h => by rw [List.length_append]; simp; omega⟩
  | false =>
    have hf : frI d a S false = d - (Dp.length : Int) := by rw [R.fr]; rfl
    have hl : ((dl Dp).length : Int) = (Dp.length : Int) := by rw [dl_len]
    have hb : ¬ false = true := by decide
    rw [hf, if_neg hb, hl]
    by_cases h3 : d ≤ (Dp.length : Int)
    · have c1 : ¬ d - (Dp.length : Int) > 0 := by omega
      rw [if_pos h3, if_neg c1]; exact R.same d a 2
    · have c1 : d - (Dp.length : Int) > 0 := by omega
      rw [if_neg h3, if_pos c1]
      exact ⟨_, Ap, key.1 rfl, rfl, by rw [dl_app]; rfl, rfl, by show n ≤ n + 1; omega, by show n + 1 ≤ n + 1; omega, fun h => by rw [List.length_append]; simp; omega, fun h => h⟩
theorem Rl.wait (d a : Int) (t : Int) (w : Bool) : Both d a n Dp Ap (waitR n S t w) (rWait (dl Dp) (dl Ap) t w) := by
  have m1 : ¬ (0 : Int) ≤ -1 := by decide
  unfold waitR rWait
  cases R.loc t with
  | no h h1 h2 => rw [if_neg (by simp [h]), h1, h2, if_neg m1, if_neg m1]; exact R.same d a 3
  | d i p h hp ht h1 h2 hg ha hm =>
    have c1 : (0 : Int) ≤ (i : Int) := by omega
    rw [if_pos h, h1, if_pos c1, hg, Int.toNat_natCast, getD_of (dl_at hp)]
    by_cases hw : p.w = w
    · have hw' : (p.t, p.w).2 = w := hw
      rw [if_pos hw, if_pos hw']; exact R.same d a 5
    · have hw' : ¬ (p.t, p.w).2 = w := hw
      rw [if_neg hw, if_neg hw']
      have := (R.repl (p := p) (q := { p with t := t, w := w }) (i := i) ht.symm rfl rfl).1 hp
      exact ⟨_, Ap, this, rfl, by rw [dl_set], rfl, by show n ≤ n; omega, by show n ≤ n + 1; omega, fun h => by rw [List.length_set]; exact h, fun h => h⟩
  | a i p h hp ht h1 h2 hg ha hm =>
    have c1 : (0 : Int) ≤ (i : Int) := by omega
    rw [if_pos h, h1, h2, if_neg m1, if_pos c1, hg, Int.toNat_natCast, getD_of (dl_at hp)]
    by_cases hw : p.w = w
    · have hw' : (p.t, p.w).2 = w := hw
      rw [if_pos hw, if_pos hw']; exact R.same d a 5
    · have hw' : ¬ (p.t, p.w).2 = w := hw
      rw [if_neg hw, if_neg hw']
      have := (R.repl (p := p) (q := { p with t := t, w := w }) (i := i) ht.symm rfl rfl).2 hp
      exact ⟨Dp, _, this, rfl, rfl, by rw [dl_set], by show n ≤ n; omega, by show n ≤ n + 1; omega, fun h => h, fun h => by rw [List.length_set]; exact h⟩
theorem Rl.prom (d a : Int) (t : Int) : Both d a n Dp Ap (promR d a n S t) (rProm d (dl Dp) (dl Ap) t) := by
  have m1 : ¬ (0 : Int) ≤ -1 := by decide
  unfold promR rProm
  rw [R.has]
  cases R.loc t with
  | no h h1 h2 =>
    have hn : ¬ hasP S t = true := by simp [h]
    rw [if_neg hn, if_neg hn]; exact R.same d a 3
  | d i p h hp ht h1 h2 hg ha hm =>
    have c1 : ¬ (getP S t).a = true := by rw [hg, ha]; decide
    rw [if_pos h, if_pos h, if_neg c1, h2, if_neg m1]; exact R.same d a 5
  | a i p h hp ht h1 h2 hg ha hm =>
    have c1 : (getP S t).a = true := by rw [hg, ha]
    have c2 : (0 : Int) ≤ (i : Int) := by omega
    have hf : frI d a S false = d - (Dp.length : Int) := by rw [R.fr]; rfl
    have hl2 : ((dl Dp).length : Int) = (Dp.length : Int) := by rw [dl_len]
    rw [if_pos h, if_pos h, if_pos c1, h2, if_pos c2, hf, hl2, Int.toNat_natCast, getD_of (dl_at hp), hg]
    by_cases h3 : d ≤ (Dp.length : Int)
    · have c3 : ¬ d - (Dp.length : Int) > 0 := by omega
      rw [if_pos h3, if_neg c3]; exact R.same d a 2
    · have c3 : d - (Dp.length : Int) > 0 := by omega
      rw [if_neg h3, if_pos c3]
      have := R.move (q := { p with n := n + 1, a := false }) hp rfl rfl rfl
      have hl := lt_of_at hp
      exact ⟨_, _, this, rfl, by rw [dl_app]; rfl, by rw [dl_erase], by show n ≤ n + 1; omega, by show n + 1 ≤ n + 1; omega, fun h => by rw [List.length_append]; simp; omega, fun h => by rw [List.length_eraseIdx]; split <;> omega⟩
theorem Rl.endd (d a : Int) (t : Int) : Both d a n Dp Ap (endR n S t) (rEnd (dl Dp) (dl Ap) t) := by
  have m1 : ¬ (0 : Int) ≤ -1 := by decide
  unfold endR rEnd
  rw [R.has]
  cases R.loc t with
  | no h h1 h2 =>
    have hn : ¬ hasP S t = true := by simp [h]
    rw [if_neg hn, if_neg hn]; exact R.same d a 3
  | d i p h hp ht h1 h2 hg ha hm =>
    have c2 : (0 : Int) ≤ (i : Int) := by omega
    rw [if_pos h, if_pos h, hg, h1, if_pos c2, Int.toNat_natCast]
    exact ⟨_, Ap, R.del.1 hp, rfl, by rw [dl_erase], rfl, by show n ≤ n; omega, by show n ≤ n + 1; omega, fun h => by rw [List.length_eraseIdx]; split <;> omega, fun h => h⟩
  | a i p h hp ht h1 h2 hg ha hm =>
    rw [if_pos h, if_pos h, hg, h1, h2, if_neg m1, Int.toNat_natCast]
    exact ⟨Dp, _, R.del.2 hp, rfl, rfl, by rw [dl_erase], by show n ≤ n; omega, by show n ≤ n + 1; omega, fun h => h, fun h => by rw [List.length_eraseIdx]; split <;> omega⟩
theorem Rl.act (d a k t : Int) (ah : Bool) : Both d a n Dp Ap (actT d a n S k t ah) (actD d a (dl Dp) (dl Ap) k t ah) := by
  unfold actT actD
  by_cases h0 : k = 0
  · rw [if_pos h0, if_pos h0]; exact R.put d a t ah
  rw [if_neg h0, if_neg h0]
  by_cases h1 : k = 1
  · rw [if_pos h1, if_pos h1]; exact R.wait d a t false
  rw [if_neg h1, if_neg h1]
  by_cases h2 : k = 2
  · rw [if_pos h2, if_pos h2]; exact R.wait d a t true
  rw [if_neg h2, if_neg h2]
  by_cases h3 : k = 3
  · rw [if_pos h3, if_pos h3]; exact R.prom d a t
  rw [if_neg h3, if_neg h3]
  by_cases h4 : k = 4
  · rw [if_pos h4, if_pos h4]; exact R.endd d a t
  rw [if_neg h4, if_neg h4]; exact R.same d a 0
end
theorem Rl.nil : Rl 0 [] [] [] := ⟨List.Perm.refl _, List.nodup_nil, (fun _ h => absurd h List.not_mem_nil), (fun _ h => absurd h List.not_mem_nil), List.Pairwise.nil, List.Pairwise.nil, (fun _ h => absurd h List.not_mem_nil)⟩
end Go.Proofs.Ytgcnknhfphgfnaa.Sx

/-
  awake.
-/
namespace Go.Proofs.Ytgcnknhfphgfnaa.Sx
open Go Go.Proofs
set_option maxRecDepth 100000
set_option linter.unusedSimpArgs false
set_option linter.unusedVariables false

theorem gone_nil : Gone 60 [] := fun t _ _ => rfl
theorem HTW.wk {bT bM : Nat} {d a n : Int} {S : List Pl} {h h' rest : Hp} {τ : Nat → Nat} (e8 : fd (τ 8) h = .blk bT 1 4 (gTn d a n) 56) (e9 : fd (τ 9) h = .mp bM (mpP S)) (t9 : τ 9 = 9) (v9 : live h' 9) (hr : wkH τ h h' rest) : wkH τ h h' (HTW bT bM d a n S rest) := by
  refine ⟨?_, ?_, hr⟩
  · rw [e8]
    refine ⟨rfl, rfl, rfl, rfl, fun i c hi hc => ?_⟩
    obtain rfl : i = 0 := by omega
    exact gTn_rn t9 v9 hc
  · rw [e9]; exact ⟨rfl, rfl⟩
def SP8 : SpT := [(9, sNew), (17, sPut), (13, sWaiting), (16, sInts), (18, sProm), (12, sFree), (14, sStart), (15, sAgain), (23, sEnd)]
theorem sp8 : ∀ p ∈ SP8, SpecOK Try.prog p.1 p.2 := consSP sNew_ok (consSP sPut_ok (consSP sWaiting_ok (consSP sInts_ok (consSP sProm_ok (consSP sFree_ok (consSP sStart_ok (consSP sAgain_ok (consSP sEnd_ok noSP))))))))
abbrev p1 : Pl := ⟨1, 1, true, true⟩
abbrev p2 : Pl := ⟨2, 2, false, true⟩
abbrev p3 : Pl := ⟨3, 3, true, true⟩
abbrev p3' : Pl := ⟨3, 4, false, true⟩
theorem oneA : OneW [p1, p2, p3] [2, 1, 3] := by
  have R : Rl 3 [p1, p2, p3] [p2] [p1, p3] := ⟨List.Perm.swap _ _ _, by decide, by simp, by simp, by simp, by simp, by simp⟩
  exact R.waits
theorem oneB : OneW [p1, p2, p3'] [2, 3, 1] := by
  have R : Rl 4 [p1, p2, p3'] [p2, p3'] [p1] := ⟨(List.perm_append_comm (l₁ := [p2, p3']) (l₂ := [p1])), by decide, by simp, by simp, by simp, by simp, by simp⟩
  exact R.waits
def sAwake : Spec := fun args h nx K => args = [] ∧ K (.ret (.bool true)) h nx
theorem sAwake_ok : SpecOK Try.prog 8 sAwake := by
  refine specOK_read2 (fn := Try.f8) rfl rfl rfl T_ok (SP := SP8) sp8 0 _ ?_
  rintro args h nx K ⟨rfl, hk⟩
  refine ⟨_, _, told_flat trivial, by simp [Try.f8], fun o => o = .ret (.bool true), ?_, ?_⟩
  · rintro o rfl; exact ⟨trivial, hk⟩
  intro c hc
  have hE := mkE' (fn := Try.f8) (R := fun o _ _ => o = .ret (.bool true)) hc sp8
  show W _ _ _ _ 30
  refine W_seq (nx := 30) ?_
  refine W_keep (nx := 30) [] [] 30 ?_ ?_
  · refine vc_sound hE 40 _ _ _ 30 ?_
    exact ⟨rfl, trivial⟩
  refine W_seq (nx := 30) ?_
  refine W_some (nx := 30) (fun _ : Nat × Nat => True) (fun b => [(1, .ptr 8 0 0), (2, .int .i64 0)]) (fun b => HTW b.1 b.2 2 2 0 [] []) 30 ?_ ?_
  · refine vc_sound hE 40 _ _ _ 30 ?_
    refine ⟨2, 2, rfl, gone_nil, fun q => absurd (by unfold mayI; omega) q, fun _ => ⟨⟨rfl, rfl⟩, fun bT bM => ?_⟩⟩
    exact ⟨(bT, bM), trivial, rfl, rfl, rfl, trivial⟩
  rintro ⟨bT, bM⟩ _
  have gone : ∀ n S, Gone 60 (HTW bT bM 2 2 n S []) := fun n S => by repeat' (first | exact gone_nil | refine Gone.cons ?_ (by omega))
  have bnd : ∀ n S, 0 ≤ n → n ≤ 1000 → S.length ≤ 100 → Bnd 2 2 n S := fun n S h1 h2 h3 => ⟨by omega, by omega, by omega, by omega⟩
  refine W_seq (nx := 30) ?_
  refine W_keep (nx := 30) [(1, .ptr 8 0 0), (2, .int .i64 0), (4, .int .i64 1)] (HTW bT bM 2 2 0 [] []) 30 ?_ ?_
  · refine vc_sound hE 40 _ _ _ 30 ?_
    refine ⟨0, 2, rfl, gone _ _, fun q => ?_, fun q => absurd q (by unfold mayI; omega)⟩
    exact ⟨rfl, rfl, rfl, rfl, trivial⟩
  refine W_seq (nx := 30) ?_
  refine W_keep (nx := 30) [(1, .ptr 8 0 0)] (HTW bT bM 2 2 0 [] []) 30 ?_ ?_
  · refine vc_sound hE 60 _ _ _ 30 ?_
    exact ⟨rfl, rfl, trivial⟩
  -- four are put
  refine W_seq (nx := 30) ?_
  refine W_to (nx := 30) [(1, .ptr 8 0 0), (5, .int .i64 0)] (HTW bT bM 2 2 1 [p1] []) 30 ?_ ?_
  · refine vc_sound hE 40 _ _ _ 30 ?_
    refine ⟨bT, bM, 2, 2, 0, [], 1, true, rfl, ⟨rfl, rfl⟩, bnd _ _ (by decide) (by decide) (by decide), gone _ _, ?_⟩
    exact ⟨tau [], rfl, (by repeat' (first | exact rfl | exact trivial | assumption | refine ⟨?_, ?_⟩)), HTW.wk (rest := []) rfl rfl rfl trivial trivial⟩
  refine W_seq (nx := 30) ?_
  refine W_to (nx := 30) [(1, .ptr 8 0 0), (5, .int .i64 0), (6, .int .i64 0)] (HTW bT bM 2 2 2 [p1, p2] []) 30 ?_ ?_
  · refine vc_sound hE 40 _ _ _ 30 ?_
    refine ⟨bT, bM, 2, 2, 1, [p1], 2, false, rfl, ⟨rfl, rfl⟩, bnd _ _ (by decide) (by decide) (by decide), gone _ _, ?_⟩
    exact ⟨tau [], rfl, (by repeat' (first | exact rfl | exact trivial | assumption | refine ⟨?_, ?_⟩)), HTW.wk (rest := []) rfl rfl rfl trivial trivial⟩
  refine W_seq (nx := 30) ?_
  refine W_to (nx := 30) [(1, .ptr 8 0 0), (5, .int .i64 0), (6, .int .i64 0), (7, .int .i64 0)] (HTW bT bM 2 2 3 [p1, p2, p3] []) 30 ?_ ?_
  · refine vc_sound hE 40 _ _ _ 30 ?_
    refine ⟨bT, bM, 2, 2, 2, [p1, p2], 3, true, rfl, ⟨rfl, rfl⟩, bnd _ _ (by decide) (by decide) (by decide), gone _ _, ?_⟩
    exact ⟨tau [], rfl, (by repeat' (first | exact rfl | exact trivial | assumption | refine ⟨?_, ?_⟩)), HTW.wk (rest := []) rfl rfl rfl trivial trivial⟩
  refine W_seq (nx := 30) ?_
  refine W_to (nx := 30) [(1, .ptr 8 0 0), (5, .int .i64 0), (6, .int .i64 0), (7, .int .i64 0), (8, .int .i64 2)] (HTW bT bM 2 2 3 [p1, p2, p3] []) 30 ?_ ?_
  · refine vc_sound hE 40 _ _ _ 30 ?_
    refine ⟨bT, bM, 2, 2, 3, [p1, p2, p3], 4, true, rfl, ⟨rfl, rfl⟩, bnd _ _ (by decide) (by decide) (by decide), gone _ _, ?_⟩
    exact ⟨tau [], rfl, (by repeat' (first | exact rfl | exact trivial | assumption | refine ⟨?_, ?_⟩)), HTW.wk (rest := []) rfl rfl rfl trivial trivial⟩
  refine W_seq (nx := 30) ?_
  refine W_to (nx := 30) [(1, .ptr 8 0 0), (5, .int .i64 0), (6, .int .i64 0), (7, .int .i64 0), (8, .int .i64 2), (9, .bool true)] (HTW bT bM 2 2 3 [p1, p2, p3] []) 30 ?_ ?_
  · refine vc_sound hE 40 _ _ _ 30 ?_
    refine ⟨bT, bM, 2, 2, 3, [p1, p2, p3], [2, 1, 3], rfl, HTW.at.rd, by decide, oneA, rfl, fun e cap hl => ?_⟩
    intro b2
    refine ⟨_, _, [2, 1, 3], [2, 1, 3], rfl, hl.rd rfl, .inr ⟨31, 0, 3, some ⟨b2, 0, none⟩, 3, gOf 1 [.int .i64 2, .int .i64 1, .int .i64 3], rfl, rfl, Nat.le_refl _, fun j hj => by
      match j, hj with
      | 0, _ => rfl
      | 1, _ => rfl
      | 2, _ => rfl⟩, by decide, by decide, ?_⟩
    exact ⟨tau [], rfl, (by repeat' (first | exact rfl | exact trivial | assumption | refine ⟨?_, ?_⟩)), HTW.wk (rest := []) rfl rfl rfl trivial trivial⟩
  refine W_seq (nx := 30) ?_
  refine W_to (nx := 30) [(1, .ptr 8 0 0), (5, .int .i64 0), (6, .int .i64 0), (7, .int .i64 0), (8, .int .i64 2), (9, .bool true), (10, .int .i64 0)] (HTW bT bM 2 2 4 [p1, p2, p3'] []) 30 ?_ ?_
  · refine vc_sound hE 40 _ _ _ 30 ?_
    refine ⟨bT, bM, 2, 2, 3, [p1, p2, p3], 3, rfl, ⟨rfl, rfl⟩, bnd _ _ (by decide) (by decide) (by decide), gone _ _, ?_⟩
    exact ⟨tau [], rfl, (by repeat' (first | exact rfl | exact trivial | assumption | refine ⟨?_, ?_⟩)), HTW.wk (rest := []) rfl rfl rfl trivial trivial⟩
  refine W_seq (nx := 30) ?_
  refine W_to (nx := 30) [(1, .ptr 8 0 0), (5, .int .i64 0), (6, .int .i64 0), (7, .int .i64 0), (8, .int .i64 2), (9, .bool true), (10, .int .i64 0), (11, .bool true)] (HTW bT bM 2 2 4 [p1, p2, p3'] []) 30 ?_ ?_
  · refine vc_sound hE 40 _ _ _ 30 ?_
    refine ⟨bT, bM, 2, 2, 4, [p1, p2, p3'], [2, 3, 1], rfl, HTW.at.rd, by decide, oneB, rfl, fun e cap hl => ?_⟩
    intro b2
    refine ⟨_, _, [2, 3, 1], [2, 3, 1], rfl, hl.rd rfl, .inr ⟨31, 0, 3, some ⟨b2, 0, none⟩, 3, gOf 1 [.int .i64 2, .int .i64 3, .int .i64 1], rfl, rfl, Nat.le_refl _, fun j hj => by
      match j, hj with
      | 0, _ => rfl
      | 1, _ => rfl
      | 2, _ => rfl⟩, by decide, by decide, ?_⟩
    exact ⟨tau [], rfl, (by repeat' (first | exact rfl | exact trivial | assumption | refine ⟨?_, ?_⟩)), HTW.wk (rest := []) rfl rfl rfl trivial trivial⟩
  refine W_seq (nx := 30) ?_
  refine W_to (nx := 30) [(1, .ptr 8 0 0), (5, .int .i64 0), (6, .int .i64 0), (7, .int .i64 0), (8, .int .i64 2), (9, .bool true), (10, .int .i64 0), (11, .bool true), (12, .int .i64 2)] (HTW bT bM 2 2 4 [p1, p2, p3'] []) 30 ?_ ?_
  · refine vc_sound hE 40 _ _ _ 30 ?_
    refine ⟨bT, bM, 2, 2, 4, [p1, p2, p3'], 1, rfl, ⟨rfl, rfl⟩, bnd _ _ (by decide) (by decide) (by decide), gone _ _, ?_⟩
    exact ⟨tau [], rfl, (by repeat' (first | exact rfl | exact trivial | assumption | refine ⟨?_, ?_⟩)), HTW.wk (rest := []) rfl rfl rfl trivial trivial⟩
  refine W_seq (nx := 30) ?_
  refine W_to (nx := 30) [(1, .ptr 8 0 0), (5, .int .i64 0), (6, .int .i64 0), (7, .int .i64 0), (8, .int .i64 2), (9, .bool true), (10, .int .i64 0), (11, .bool true), (12, .int .i64 2), (13, .int .i64 0), (14, .int .i64 1)] (HTW bT bM 2 2 4 [p1, p2, p3'] []) 30 ?_ ?_
  · refine vc_sound hE 40 _ _ _ 30 ?_
    refine ⟨bT, bM, 2, 2, 4, [p1, p2, p3'], rfl, HTW.at.rd, by omega, by omega, by decide, ?_⟩
    exact ⟨tau [], rfl, (by repeat' (first | exact rfl | exact trivial | assumption | refine ⟨?_, ?_⟩)), HTW.wk (rest := []) rfl rfl rfl trivial trivial⟩
  refine vc_sound hE 200 _ _ _ 30 ?_
  refine ⟨bT, bM, 2, 2, 4, [p1, p2, p3'], 2, rfl, ⟨rfl, rfl⟩, bnd _ _ (by decide) (by decide) (by decide), by repeat' (first | exact gone_nil | refine Gone.cons ?_ (by omega)), ?_⟩
  refine ⟨bT, bM, 2, 2, 4, [p1, p2, p3'], 2, rfl, ⟨rfl, rfl⟩, bnd _ _ (by decide) (by decide) (by decide), by repeat' (first | exact gone_nil | refine Gone.cons ?_ (by omega)), ?_⟩
  refine ⟨bT, bM, 2, 2, 4, [p1, ⟨2, 2, false, false⟩, p3'], 2, rfl, ⟨rfl, rfl⟩, bnd _ _ (by decide) (by decide) (by decide), by repeat' (first | exact gone_nil | refine Gone.cons ?_ (by omega)), ?_⟩
  refine ⟨bT, bM, 2, 2, 4, [p1, ⟨2, 2, false, false⟩, p3'], 2, rfl, ⟨rfl, rfl⟩, bnd _ _ (by decide) (by decide) (by decide), by repeat' (first | exact gone_nil | refine Gone.cons ?_ (by omega)), ?_⟩
  refine ⟨bT, bM, 2, 2, 4, [p1, p2, p3'], 2, rfl, ⟨rfl, rfl⟩, bnd _ _ (by decide) (by decide) (by decide), by repeat' (first | exact gone_nil | refine Gone.cons ?_ (by omega)), ?_⟩
  refine ⟨bT, bM, 2, 2, 4, [p1, p3'], 2, rfl, ⟨rfl, rfl⟩, bnd _ _ (by decide) (by decide) (by decide), by repeat' (first | exact gone_nil | refine Gone.cons ?_ (by omega)), ?_⟩
  refine ⟨bT, bM, 2, 2, 4, [p1, p3'], 0, true, rfl, ⟨rfl, rfl⟩, bnd _ _ (by decide) (by decide) (by decide), by repeat' (first | exact gone_nil | refine Gone.cons ?_ (by omega)), ?_⟩
  rfl
end Go.Proofs.Ytgcnknhfphgfnaa.Sx

