import Derived.Test.YtgcnknhfphgfnaaSxM
import Derived.Still
set_option linter.unusedVariables false
set_option linter.unusedSimpArgs false
/-
  The engine, fourteenth part: a region whose order is open, where every operation but at most the last leaves what is known as it is.
-/
namespace Go.Proofs.Ytgcnknhfphgfnaa.Sx
open Go

/-! ### What an operation yields in every world that meets S -/
def giv (P : Program) (o : Oper) (x : Value) (S : World → Prop) : Result Next → Prop
  | .ok (.value v) w' => (o.dst = none ∨ v = x) ∧ S w'
  | .ok .skip w' => (o.dst = none ∨ undef = x) ∧ S w'
  | .ok (.enter f args) w' => Calls P f args w' fun e w'' => ∃ v, e = .returned v ∧ (o.dst = none ∨ v = x) ∧ S w''
  | .ok (.row row args) w' => Rows P row args w' fun v w'' => (o.dst = none ∨ v = x) ∧ S w''
  | _ => False

section
variable {P : Program} {ops : Array Oper} {md : Region.Mode} {S : World → Prop}

theorem put_inj {a : Act} {d : Option Nat} {v x : Value} (hd : ∀ t, d = some t → t < a.tmps.size) (h : a.put d v = a.put d x) : d = none ∨ v = x := by
  cases d with
  | none => exact .inl rfl
  | some t =>
    right
    have := congrArg (fun b : Act => b.tmps[t]?) h
    simpa [Act.put, hd t rfl] using this
theorem put_eq {a : Act} {d : Option Nat} {v x : Value} (h : d = none ∨ v = x) : a.put d v = a.put d x := by
  rcases h with rfl | rfl
  · rfl
  · rfl

theorem giv_of_wp {o : Oper} {a : Act} {x : Value} {w : World} (hd : ∀ t, o.dst = some t → t < a.tmps.size)
    (h : o.wp P a w (fun a' w' => a' = a.put o.dst x ∧ S w') (fun _ _ _ => False)) : giv P o x S ((execOp a.eval o).run P w) := by
  unfold Oper.wp at h
  generalize (execOp a.eval o).run P w = r at h
  cases r with
  | ok n w' =>
    cases n <;> simp only [Oper.upon] at h <;> simp only [giv]
    case value v => exact ⟨put_inj hd h.1, h.2⟩
    case skip => exact ⟨put_inj hd h.1, h.2⟩
    case defer d =>
      have pd : ∀ (b : Act) (e : Option Nat) (v : Value), (b.put e v).defers = b.defers := fun b e v => by cases e <;> rfl
      have := congrArg (fun b : Act => b.defers.length) h.1
      rw [pd, pd] at this
      simp at this
    case enter f args =>
      refine Calls.mono h fun e w'' he => ?_
      cases e with
      | returned v => exact ⟨v, rfl, put_inj hd he.1, he.2⟩
      | panicked c => exact he.elim
      | outgrown => obtain ⟨_, _, q⟩ := he; exact q.elim
    case row row args => exact Rows.mono h fun v w'' he => ⟨put_inj hd he.1, he.2⟩
  | halt y w' => cases y <;> simp only [Oper.upon] at h

theorem wp_of_giv {o : Oper} {a : Act} {x : Value} {w : World} {K : Act → World → Prop} {Q : Exit → Act → World → Prop} (h : giv P o x S ((execOp a.eval o).run P w)) (hK : ∀ w', S w' → K (a.put o.dst x) w') : o.wp P a w K Q := by
  unfold Oper.wp
  generalize (execOp a.eval o).run P w = r at h
  cases r with
  | ok n w' =>
    cases n <;> simp only [giv] at h <;> simp only [Oper.upon]
    case value v => rw [put_eq h.1]; exact hK _ h.2
    case skip => rw [put_eq h.1]; exact hK _ h.2
    case enter f args =>
      refine Calls.mono h fun e w'' he => ?_
      obtain ⟨v, rfl, h1, h2⟩ := he
      show K (a.put o.dst v) w''
      rw [put_eq h1]
      exact hK _ h2
    case row row args => exact Rows.mono h fun v w'' he => by rw [put_eq he.1]; exact hK _ he.2
  | halt y w' => simp only [giv] at h

/-- In state a, in every world that meets S, o leaves x in its slot, and the world meets S again. -/
def YG (P : Program) (ops : Array Oper) (S : World → Prop) (o : Oper) (x : Value) (a : Act) : Prop :=
  (Region.wanted o (yielded ops a.tmps) = true ∧ ∀ w, S w → giv P o x S ((execOp a.eval o).run P w)) ∨ (Region.wanted o (yielded ops a.tmps) = false ∧ x = undef)

theorem YG.of_same {o : Oper} {x : Value} {a a' : Act} (hy : YG P ops S o x a) (he : execOp a'.eval o = execOp a.eval o) (hw : Region.wanted o (yielded ops a'.tmps) = Region.wanted o (yielded ops a.tmps)) : YG P ops S o x a' := by
  unfold YG at *
  rw [he, hw]
  exact hy

theorem YG.wpOp {i : Nat} {o : Oper} {x : Value} {a : Act} (hi : ops[i]? = some o) (hy : YG P ops S o x a) {K : Act → World → Prop} {Q : Exit → Act → World → Prop} {w : World} (hS : S w) (hK : ∀ w', S w' → K (a.put o.dst x) w') : wpOp P ops Q i K a w := by
  unfold Go.wpOp
  simp only [hi]
  rcases hy with ⟨hw, hv⟩ | ⟨hw, rfl⟩
  · simp only [hw, if_true]; exact .inl (wp_of_giv (hv w hS) hK)
  · simp only [hw, Bool.false_eq_true, if_false]; exact hK w hS

/-- Whatever order is picked; number k (if there is one) comes last, and is told apart. -/
def wpAnyV (P : Program) (md : Region.Mode) (ops : Array Oper) (S : World → Prop) (k : Nat) (L Q : Act → Prop) : Nat → Array Bool → Act → Prop
  | 0, listed, a => Region.ready md ops listed = [] ∧ Q a
  | fuel + 1, listed, a => (Region.ready md ops listed = [] → Q a) ∧ ∀ i ∈ Region.ready md ops listed, (i ≠ k → ∀ oi, ops[i]? = some oi → ∃ x, YG P ops S oi x a ∧ wpAnyV P md ops S k L Q fuel (listed.setIfInBounds i true) (a.put oi.dst x)) ∧
      (i = k → L a ∧ Region.ready md ops (listed.setIfInBounds i true) = [])

theorem wpAny_ofV {k : Nat} {L Q : Act → Prop} {Q' : Exit → Act → World → Prop} (hQ : ∀ a, Q a → ∀ w, S w → Q' .normal a w) (hL : ∀ a, L a → ∀ w, S w → wpOp P ops Q' k (fun a' w' => Q' .normal a' w') a w) :
    ∀ (fuel : Nat) (listed : Array Bool) (a : Act), wpAnyV P md ops S k L Q fuel listed a → ∀ w, S w → wpAny P md ops Q' fuel listed a w
  | 0, listed, a, h, w, hS => ⟨h.1, hQ a h.2 w hS⟩
  | fuel + 1, listed, a, h, w, hS => by
    refine ⟨fun h0 => hQ a (h.1 h0) w hS, fun i hi => ?_⟩
    obtain ⟨h1, h2⟩ := h.2 i hi
    by_cases hk : i = k
    · obtain ⟨hl, hr⟩ := h2 hk
      subst hk
      refine wpOp_mono (fun a' w' hq => ?_) (hL a hl w hS)
      cases fuel with
      | zero => exact ⟨hr, hq⟩
      | succ fuel => exact ⟨fun _ => hq, by rw [hr]; simp⟩
    · obtain ⟨_, o, ho, _⟩ := mem_ready.1 hi
      obtain ⟨x, hy, ht⟩ := h1 hk o ho
      exact hy.wpOp ho hS fun w' hS' => wpAny_ofV hQ hL fuel _ _ ht w' hS'

/-- What is listed has all it waits for listed. -/
def Down (md : Region.Mode) (ops : Array Oper) (listed : Array Bool) : Prop := ∀ (j : Nat) (o : Oper), listed.getD j false = true → ops[j]? = some o → ∀ e ∈ o.after, Region.binds md e = true → listed.getD e.on false = true
theorem Down.step {listed : Array Bool} (hd : Down md ops listed) {i : Nat} (hi : i ∈ Region.ready md ops listed) : Down md ops (listed.setIfInBounds i true) := by
  intro j o hj ho e he hb
  by_cases hji : j = i
  · subst hji
    obtain ⟨_, o', ho', hall⟩ := mem_ready.1 hi
    rw [ho] at ho'
    injection ho' with ho'
    subst ho'
    exact getD_set_true (hall e he hb)
  · rw [getD_set_ne false (Ne.symm hji)] at hj
    exact getD_set_true (hd j o hj ho e he hb)

/-- All that number k waits for, at last. -/
def deps (md : Region.Mode) (ops : Array Oper) (i : Nat) : List Nat :=
  match ops[i]? with
  | some o => (o.after.toList.filter (Region.binds md)).map (·.on)
  | none => []
def reach (md : Region.Mode) (ops : Array Oper) : Nat → List Nat → List Nat
  | 0, l => l
  | i + 1, l => if l.contains i then reach md ops i (l ++ deps md ops i) else reach md ops i l
def lastB (md : Region.Mode) (ops : Array Oper) (k : Nat) : Bool := (List.range ops.size).all fun m => m == k || (reach md ops k (deps md ops k)).contains m

theorem reach_all {p : Nat → Prop} (hp : ∀ i, p i → ∀ j ∈ deps md ops i, p j) : ∀ (n : Nat) (l : List Nat), (∀ i ∈ l, p i) → ∀ i ∈ reach md ops n l, p i
  | 0, l, h => h
  | n + 1, l, h => by
    unfold reach
    split
    · rename_i hc
      refine reach_all hp n _ fun i hi => ?_
      rcases List.mem_append.1 hi with hi | hi
      · exact h i hi
      · exact hp n (h n (by simpa using hc)) i hi
    · exact reach_all hp n l h
theorem mem_deps {i j : Nat} : j ∈ deps md ops i ↔ ∃ o, ops[i]? = some o ∧ ∃ e ∈ o.after, Region.binds md e = true ∧ e.on = j := by
  unfold deps
  cases h : ops[i]? with
  | none => simp
  | some o => simp [List.mem_map, List.mem_filter, and_assoc]

theorem last_ready {k : Nat} (hk : lastB md ops k = true) {listed : Array Bool} (hd : Down md ops listed) (hr : k ∈ Region.ready md ops listed) (m : Nat) (hm : m < ops.size) (hne : m ≠ k) : listed.getD m false = true := by
  obtain ⟨_, o, ho, hall⟩ := mem_ready.1 hr
  have h1 : ∀ i ∈ reach md ops k (deps md ops k), listed.getD i false = true := by
    refine reach_all (p := fun i => listed.getD i false = true) (fun i hi j hj => ?_) k _ fun i hi => ?_
    · obtain ⟨o', ho', e, he, hb, rfl⟩ := mem_deps.1 hj
      exact hd i o' hi ho' e he hb
    · obtain ⟨o', ho', e, he, hb, rfl⟩ := mem_deps.1 hi
      rw [ho] at ho'
      injection ho' with ho'
      subst ho'
      exact hall e he hb
  have h2 := List.all_eq_true.1 hk m (by simpa using hm)
  simp only [Bool.or_eq_true, beq_iff_eq] at h2
  rcases h2 with h2 | h2
  · exact absurd h2 hne
  · exact h1 m (by simpa using h2)

theorem last_done {k : Nat} (hk : lastB md ops k = true) {listed : Array Bool} (hd : Down md ops listed) (hr : k ∈ Region.ready md ops listed) (hs : ∀ m, listed.getD m false = true → m < listed.size) : Region.ready md ops (listed.setIfInBounds k true) = [] := by
  refine List.eq_nil_iff_forall_not_mem.2 fun m hm => ?_
  obtain ⟨h0, o, ho, _⟩ := mem_ready.1 hm
  have hm' : m < ops.size := (Array.getElem?_eq_some_iff.1 ho).1
  have hlt : ∀ m, (listed.setIfInBounds k true).getD m true = false → m < listed.size := fun m h => by
    rcases Nat.lt_or_ge m listed.size with q | q
    · exact q
    · simp [q] at h
  have hml := hlt m h0
  by_cases hmk : m = k
  · subst hmk
    simp [hml] at h0
  · rw [getD_set_ne true (Ne.symm hmk)] at h0
    have := last_ready hk hd hr m hm' hmk
    simp [hml] at h0 this
    rw [h0] at this
    cases this

/-- One of them, apart from another: each may come first. -/
theorem YG.put {i : Nat} {oi oj : Oper} {x : Value} (hap : oi.apart ops oj = true) (hsj : ∀ cs b, oj.op ≠ .select cs b) {a : Act} {y : Value} (h : YG P ops S oj y (a.put oi.dst x)) : YG P ops S oj y a := by
  obtain ⟨h1, h2, h3⟩ := Oper.apart_spec hap
  exact h.of_same (execOp_put oj hsj a oi.dst x h1).symm (wanted_put oj a oi.dst x h1).symm
theorem YG.put' {oi oj : Oper} {x : Value} (hap : oi.apart ops oj = true) (hsi : ∀ cs b, oi.op ≠ .select cs b) {a : Act} {y : Value} (h : YG P ops S oi x a) : YG P ops S oi x (a.put oj.dst y) := by
  obtain ⟨h1, h2, h3⟩ := Oper.apart_spec hap
  exact h.of_same (execOp_put oi hsi a oj.dst y h3) (wanted_put oi a oj.dst y h3)

theorem wpAnyV_first {k : Nat} {L Q : Act → Prop} (hk : k < ops.size → lastB md ops k = true) {i : Nat} {oi : Oper} {x : Value} (hik : i ≠ k) (hi : ops[i]? = some oi) (hsel : ∀ (j : Nat) (o : Oper) cs b, ops[j]? = some o → o.op ≠ .select cs b) :
    ∀ (fuel : Nat) (listed : Array Bool) (a : Act), Down md ops listed →
      (∀ j oj, ops[j]? = some oj → j ≠ i → listed.getD j true = false → (∀ e ∈ oj.after, Region.binds md e = true → e.on ≠ i) → oi.apart ops oj = true) →
      i ∈ Region.ready md ops listed → YG P ops S oi x a →
      wpAnyV P md ops S k L Q fuel (listed.setIfInBounds i true) (a.put oi.dst x) → wpAnyV P md ops S k L Q (fuel + 1) listed a := by
  intro fuel
  have nok : ∀ (listed : Array Bool), Down md ops listed → i ∈ Region.ready md ops listed → ∀ j, j ∈ Region.ready md ops listed → j ≠ i → j ≠ k := by
    rintro listed hd hr j hj hji rfl
    obtain ⟨_, oj, hoj, _⟩ := mem_ready.1 hj
    have := last_ready (hk (Array.getElem?_eq_some_iff.1 hoj).1) hd hj i (Array.getElem?_eq_some_iff.1 hi).1 hik
    have h0 := (mem_ready.1 hr).1
    rcases Nat.lt_or_ge i listed.size with h' | h'
    · simp [h'] at h0 this; rw [h0] at this; cases this
    · simp [Array.getElem?_eq_none h'] at this
  induction fuel with
  | zero =>
    intro listed a hd _ hr hy H
    refine ⟨fun h => (by rw [h] at hr; cases hr), fun j hj => ?_⟩
    by_cases hji : j = i
    · subst hji
      exact ⟨fun _ o ho => by rw [hi] at ho; injection ho with ho; subst ho; exact ⟨x, hy, H⟩, fun e => absurd e hik⟩
    · have := ready_mono hj hji
      rw [H.1] at this
      cases this
  | succ fuel ih =>
    intro listed a hd hfree hr hy H
    refine ⟨fun h => (by rw [h] at hr; cases hr), fun j hj => ?_⟩
    by_cases hji : j = i
    · subst hji
      exact ⟨fun _ o ho => by rw [hi] at ho; injection ho with ho; subst ho; exact ⟨x, hy, H⟩, fun e => absurd e hik⟩
    · have hjk := nok listed hd hr j hj hji
      refine ⟨fun _ oj hoj => ?_, fun e => absurd e hjk⟩
      obtain ⟨y, hy2, ht⟩ := (H.2 j (ready_mono hj hji)).1 hjk oj hoj
      obtain ⟨hjun, oj', hoj', hall⟩ := mem_ready.1 hj
      rw [hoj] at hoj'
      injection hoj' with hoj'
      subst hoj'
      have hnot : ∀ e ∈ oj.after, Region.binds md e = true → e.on ≠ i := fun e he hb heq => by
        have h1 := hall e he hb
        have h0 := (mem_ready.1 hr).1
        rw [heq] at h1
        rcases Nat.lt_or_ge i listed.size with h' | h'
        · simp [h'] at h0 h1; rw [h0] at h1; cases h1
        · simp [Array.getElem?_eq_none h'] at h1
      have hap := hfree j oj hoj hji hjun hnot
      have hfree' : ∀ k ok, ops[k]? = some ok → k ≠ i → (listed.setIfInBounds j true).getD k true = false →
          (∀ e ∈ ok.after, Region.binds md e = true → e.on ≠ i) → oi.apart ops ok = true := fun k ok hk hki hun hno => by
        refine hfree k ok hk hki ?_ hno
        by_cases hjk : j = k
        · subst hjk; exact hjun
        · rw [getD_set_ne true hjk] at hun; exact hun
      refine ⟨y, YG.put (i := i) hap (fun cs b => hsel j oj cs b hoj) hy2, ih (listed.setIfInBounds j true) _ (hd.step hj) hfree' (ready_mono hr (Ne.symm hji)) (YG.put' hap (fun cs b => hsel i oi cs b hi) hy) ?_⟩
      rw [Array.setIfInBounds_comm _ _ hji, ← Act.put_comm a x y (Oper.apart_spec hap).2.1]
      exact ht

/-- The list, in the text's order. -/
def wpStillG (P : Program) (ops : Array Oper) (S : World → Prop) (k : Nat) (L Q : Act → Prop) : Nat → List Oper → Act → Prop
  | _, [], a => Q a
  | i, o :: rest, a => if i = k then L a else ∃ x, YG P ops S o x a ∧ wpStillG P ops S k L Q (i + 1) rest (a.put o.dst x)

theorem wpAnyV_lex {k : Nat} {L Q : Act → Prop} (hk : k < ops.size → lastB md ops k = true) (hs : Region.noSelect ops = true) : ∀ (l : List Oper) (i : Nat) (listed : Array Bool) (a : Act), (∀ j, l[j]? = ops[i + j]?) → Down md ops listed → (∀ m, listed.getD m false = true → m < listed.size) →
    Region.lexFrom md ops l.length i listed = true → wpStillG P ops S k L Q i l a → wpAnyV P md ops S k L Q l.length listed a
  | [], _, _, _, _, _, _, hB, h => ⟨by simpa [Region.lexFrom] using hB, h⟩
  | o :: l, i, listed, a, hl, hd, hz, hB, h => by
    have h0 : ops[i]? = some o := by simpa using (hl 0).symm
    have hlt : i < ops.size := (Array.getElem?_eq_some_iff.1 h0).1
    simp only [List.length_cons, Region.lexFrom, Bool.and_eq_true] at hB
    obtain ⟨⟨hr, hf⟩, hB'⟩ := hB
    have hr : i ∈ Region.ready md ops listed := by simpa using hr
    unfold wpStillG at h
    by_cases hik : i = k
    · rw [if_pos hik] at h
      subst hik
      refine ⟨fun e => (by rw [e] at hr; cases hr), fun j hj => ?_⟩
      have hji : j = i := by
        rcases Nat.decEq j i with hne | he
        · obtain ⟨hjun, oj, hoj, _⟩ := mem_ready.1 hj
          have := last_ready (hk hlt) hd hr j (Array.getElem?_eq_some_iff.1 hoj).1 hne
          rcases Nat.lt_or_ge j listed.size with h' | h'
          · simp [h'] at hjun this; rw [hjun] at this; cases this
          · simp [Array.getElem?_eq_none h'] at this
        · exact he
      subst hji
      exact ⟨fun e => absurd rfl e, fun _ => ⟨h, last_done (hk hlt) hd hr hz⟩⟩
    · rw [if_neg hik] at h
      obtain ⟨x, hy, hK⟩ := h
      refine wpAnyV_first hk hik h0 (Region.noSelect_spec hs) l.length listed a hd (Region.free_spec h0 hf) hr hy
        (wpAnyV_lex hk hs l (i + 1) _ _ (fun j => by have := hl (j + 1); simpa [Nat.add_assoc, Nat.add_comm 1 j] using this) (hd.step hr) (fun m hm => ?_) hB' hK)
      rcases Nat.lt_or_ge m listed.size with h' | h'
      · simpa using h'
      · simp [Array.getElem?_eq_none, h'] at hm

theorem wp_region_V {id : Nat} {k : Nat} {L Q : Act → Prop} {Q' : Exit → Act → World → Prop} (hm : P.follows .mixedOrders = true) (hB : Region.lexB .any ops = true) (hk : k < ops.size → lastB .any ops k = true)
    (hQ : ∀ a, Q a → ∀ w, S w → Q' .normal a w) (hL : ∀ a, L a → ∀ w, S w → wpOp P ops Q' k (fun a' w' => Q' .normal a' w') a w) {a : Act} (h : wpStillG P ops S k L Q 0 ops.toList a) {w : World} (hS : S { w with drawn := w.drawn + 1 }) : (Code.region id ops true).wp P Q' a w := by
  simp only [Region.lexB, Bool.and_eq_true] at hB
  refine wp_region_any hm ?_
  have h1 := wpAnyV_lex (md := .any) hk hB.1 ops.toList 0 (Array.replicate ops.size false) a (by simp) (fun j o hj => ?_) (fun m hm => ?_) (by simpa using hB.2) h
  · refine wpAny_ofV hQ hL ops.size _ a ?_ _ hS
    simpa using h1
  · exfalso
    rcases Nat.lt_or_ge j ops.size with q | q
    · simp [q] at hj
    · simp [q] at hj
  · rcases Nat.lt_or_ge m ops.size with q | q
    · simp [q] at hm
    · simp [q] at hm
end

end Go.Proofs.Ytgcnknhfphgfnaa.Sx
