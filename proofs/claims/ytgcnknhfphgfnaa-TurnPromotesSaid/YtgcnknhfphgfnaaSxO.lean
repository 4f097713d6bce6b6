import Derived.Test.YtgcnknhfphgfnaaSxN
set_option linter.unusedVariables false
set_option linter.unusedSimpArgs false
/-
  The engine, fifteenth part: the condition of a region whose order is open.
-/
namespace Go.Proofs.Ytgcnknhfphgfnaa.Sx
open Go

mutual
theorem vrel_fun {h : Hp} : ∀ (v : V) (x y : Value), vrel h v x → vrel h v y → x = y
  | .bool _, x, y, a, b => a.trans b.symm
  | .int _ _, x, y, a, b => a.trans b.symm
  | .flt _ _, x, y, a, b => a.trans b.symm
  | .str _, x, y, a, b => a.trans b.symm
  | .ptr _ _ _, x, y, ⟨ad, sz, e1, e2⟩, ⟨ad', sz', e3, e4⟩ => by
    rw [e1] at e3
    injection e3 with e3
    injection e3 with e3 e5
    injection e3 with e3
    subst e3 e5
    exact e2.trans e4.symm
  | .nilp, x, y, a, b => a.trans b.symm
  | .slice _ _ _ _, x, y, ⟨ad, sz, e1, e2, _⟩, ⟨ad', sz', e3, e4, _⟩ => by
    rw [e1] at e3
    injection e3 with e3
    injection e3 with e3 e5
    subst e3 e5
    exact e2.trans e4.symm
  | .nils, x, y, a, b => a.trans b.symm
  | .map _, x, y, ⟨b, e1, e2⟩, ⟨b', e3, e4⟩ => by
    rw [e1] at e3
    injection e3 with e3
    injection e3 with e3
    subst e3
    exact e2.trans e4.symm
  | .nilm, x, y, a, b => a.trans b.symm
  | .fn f u v, x, y, ⟨as, bs, e1, e2, e3⟩, ⟨as', bs', e4, e5, e6⟩ => by
    rw [e1, e4, vrelL_fun u as as' e2 e5, vrelL_fun v bs bs' e3 e6]
  | .nilf, x, y, a, b => a.trans b.symm
  | .iface t v, x, y, ⟨z, e1, e2⟩, ⟨z', e3, e4⟩ => by rw [e1, e3, vrel_fun v z z' e2 e4]
  | .nili, x, y, a, b => a.trans b.symm
  | .agg l, x, y, ⟨as, e1, e2⟩, ⟨as', e3, e4⟩ => by rw [e1, e3, vrelL_fun l as as' e2 e4]
  | .tup l, x, y, ⟨as, e1, e2⟩, ⟨as', e3, e4⟩ => by rw [e1, e3, vrelL_fun l as as' e2 e4]
  | .raw _, x, y, a, b => a.trans b.symm
theorem vrelL_fun {h : Hp} : ∀ (l : List V) (xs ys : List Value), vrelL h l xs → vrelL h l ys → xs = ys
  | [], xs, ys, a, b => a.trans b.symm
  | v :: l, xs, ys, ⟨y, zs, e1, e2, e3⟩, ⟨y', zs', e4, e5, e6⟩ => by rw [e1, e4, vrel_fun v y y' e2 e5, vrelL_fun l zs zs' e3 e6]
end

structure MatA (N : Nat) (σ : Sl) (h : Hp) (a : Act) : Prop where
  size : a.tmps.size = N
  slots : ∀ t v, lk t σ = some v → vrel h v (a.tmps.getD t undef)
  calm : a.defers = []
theorem MatA.at {c : Cx} {N : Nat} {σ : Sl} {h : Hp} {a : Act} {w : World} (hm : MatA N σ h a) (hr : Rel c h w) : Match c N σ h a w := ⟨hm.size, hm.slots, hm.calm, hr⟩
theorem Match.mat {c : Cx} {N : Nat} {σ : Sl} {h : Hp} {a : Act} {w : World} (hm : Match c N σ h a w) : MatA N σ h a := ⟨hm.size, hm.slots, hm.calm⟩

/-- Such an operation, which must leave what is known of memory as it is. -/
def still1 (E : Env) (op : Op) (σ : Sl) (h : Hp) (nx : Nat) (v : V) : Prop := stepC E op σ h nx (fun v1 h1 _ => v1 = v ∧ h1 = h) (fun _ _ _ => False)

def qv (E : Env) (all : List Oper) (k : Nat) (h : Hp) (nx : Nat) (KT K : Sl → Prop) : Nat → List Oper → Sl → Prop
  | _, [], σ => K σ
  | i, ⟨d, op, _, _, _, g⟩ :: l, σ => match i.beq k with
    | true => KT σ
    | false => (match g with
      | none => ∃ v, still1 E op σ h nx v ∧ putS E.fn.ntmps d v σ fun σ' => qv E all k h nx KT K (i + 1) l σ'
      | some (j, want) => (match all[j]? with
        | some oj => (match oj.dst with
          | some t => (match lk t σ with
            | some (.bool p) => (match want with
              | true => br p
                (∃ v, still1 E op ((t, .bool true) :: σ) h nx v ∧ putS E.fn.ntmps d v ((t, .bool true) :: σ) fun σ' => qv E all k h nx KT K (i + 1) l σ')
                (putS E.fn.ntmps d und ((t, .bool false) :: σ) fun σ' => qv E all k h nx KT K (i + 1) l σ')
              | false => br p
                (putS E.fn.ntmps d und ((t, .bool true) :: σ) fun σ' => qv E all k h nx KT K (i + 1) l σ')
                (∃ v, still1 E op ((t, .bool false) :: σ) h nx v ∧ putS E.fn.ntmps d v ((t, .bool false) :: σ) fun σ' => qv E all k h nx KT K (i + 1) l σ'))
            | some (.tup []) => putS E.fn.ntmps d und σ fun σ' => qv E all k h nx KT K (i + 1) l σ'
            | _ => False)
          | none => False)
        | none => False))

theorem wp_some {P : Program} {o : Oper} {a : Act} {w : World} {next : Act → World → Prop} (h : o.wp P a w next (fun _ _ _ => False)) : ∃ a' w', next a' w' := by
  unfold Oper.wp at h
  generalize (execOp a.eval o).run P w = r at h
  cases r with
  | ok n w' =>
    cases n <;> simp only [Oper.upon] at h
    case value v => exact ⟨_, _, h⟩
    case skip => exact ⟨_, _, h⟩
    case defer d => exact ⟨_, _, h⟩
    case enter f args =>
      obtain ⟨e, w', fr, he, _⟩ := h []
      cases e with
      | returned v => exact ⟨_, _, he⟩
      | panicked c => exact he.elim
      | outgrown => obtain ⟨_, _, q⟩ := he; exact q.elim
    case row row args =>
      obtain ⟨v, w', he, _⟩ := h default []
      exact ⟨_, _, he⟩
  | halt y w' => cases y <;> simp only [Oper.upon] at h

theorem putA_ok {N : Nat} {σ : Sl} {h : Hp} {a : Act} (hm : MatA N σ h a) {d : Option Nat} {v : V} {x : Value} (r : vrel h v x) {K : Sl → Prop} (hs : putS N d v σ K) : ∃ σ', K σ' ∧ MatA N σ' h (a.put d x) := by
  cases d with
  | none => exact ⟨σ, hs, hm.size, hm.slots, hm.calm⟩
  | some d =>
    obtain ⟨h1, hs⟩ := chk_spec hs
    have h1 : d < N := Nat.le_of_ble_eq_true h1
    refine ⟨_, hs, by simp [Act.put, hm.size], fun t u e => ?_, hm.calm⟩
    rw [lk_cons] at e
    simp only [Act.put]
    by_cases ht : t = d
    · subst ht
      rw [if_pos rfl] at e
      injection e with e
      subst e
      simp [Array.getD, hm.size, h1]
      exact r
    · rw [if_neg ht] at e
      have := hm.slots t u e
      have e2 : (a.tmps.setIfInBounds d x).getD t undef = a.tmps.getD t undef := by
        simp only [Array.getD_eq_getD_getElem?, Array.getElem?_setIfInBounds]
        rw [if_neg (fun e => ht e.symm)]
      rw [e2]
      exact this

theorem putS_lt {N : Nat} {σ : Sl} {d : Option Nat} {v : V} {K : Sl → Prop} (hs : putS N d v σ K) : ∀ t, d = some t → t < N := by
  rintro t rfl
  exact Nat.le_of_ble_eq_true (chk_spec hs).1

theorem still_yields {E : Env} (hE : EnvOK E) {σ : Sl} {h : Hp} {nx : Nat} {a : Act} (hm : MatA E.fn.ntmps σ h a) {o : Oper} {v : V} (hs : still1 E o.op σ h nx v) (hd : ∀ t, o.dst = some t → t < a.tmps.size) {w0 : World} (hw : Rel E.c h w0) :
    ∃ x, vrel h v x ∧ ∀ w, Rel E.c h w → giv E.c.P o x (Rel E.c h) ((execOp a.eval o).run E.c.P w) := by
  have base : ∀ w, Rel E.c h w → o.wp E.c.P a w (fun a' w' => ∃ x, vrel h v x ∧ a' = a.put o.dst x ∧ Rel E.c h w') (fun _ _ _ => False) := fun w hw => by
    refine stepC_ok hE (hm.at hw) hs ?_ ?_
    · rintro v' h' nx' w' x ⟨rfl, rfl⟩ _ hr r
      exact ⟨x, r, rfl, hr⟩
    · intro v h' nx' w' x q
      exact q.elim
  obtain ⟨a', w', x, r, _, _⟩ := wp_some (base w0 hw)
  refine ⟨x, r, fun w hw => giv_of_wp hd (Oper.wp_mono ?_ (base w hw))⟩
  rintro a' w' ⟨y, ry, e, hr⟩
  rw [vrel_fun v y x ry r] at e
  exact ⟨e, hr⟩

theorem yieldedA_of {N : Nat} {σ : Sl} {h : Hp} {a : Act} (hm : MatA N σ h a) {all : List Oper} {j : Nat} {oj : Oper} {t : Nat} (hj : all[j]? = some oj) (ht : oj.dst = some t) {v : V} (e : lk t σ = some v) :
    (∀ p, v = .bool p → yielded all.toArray a.tmps j = some p) ∧ (v = .tup [] → yielded all.toArray a.tmps j = none) := by
  have hs := hm.slots t v e
  refine ⟨fun p hp => ?_, fun hp => ?_⟩
  · subst hp
    have hs : a.tmps.getD t undef = .bool p := hs
    have hlt : t < a.tmps.size := by
      rcases Nat.lt_or_ge t a.tmps.size with q | q
      · exact q
      · rw [Array.getD_eq_getD_getElem?, Array.getElem?_eq_none q] at hs; cases hs
    simp only [yielded, List.getElem?_toArray, hj, Option.bind_some, ht]
    simp only [Array.getD, hlt, dif_pos] at hs
    rw [Array.getElem?_eq_getElem hlt]
    have : a.tmps[t] = Value.bool p := by simpa using hs
    rw [this]
  · subst hp
    obtain ⟨xs, ex, rfl⟩ := hs
    simp only [yielded, List.getElem?_toArray, hj, Option.bind_some, ht]
    by_cases hlt : t < a.tmps.size
    · simp only [Array.getD, hlt, dif_pos] at ex
      rw [Array.getElem?_eq_getElem hlt]
      have : a.tmps[t] = Value.tuple (List.toArray []) := by simpa using ex
      rw [this]
    · rw [Array.getElem?_eq_none (by omega)]
theorem MatA.lit {N : Nat} {σ : Sl} {h : Hp} {a : Act} (hm : MatA N σ h a) {t : Nat} {v : V} (e : lk t σ = some v) : MatA N ((t, v) :: σ) h a :=
  ⟨hm.size, fun u v' e' => by
    rw [lk_cons] at e'
    split at e'
    · rename_i hu; subst hu; injection e' with e'; subst e'; exact hm.slots _ _ e
    · exact hm.slots _ _ e', hm.calm⟩

theorem qv_ok {E : Env} (hE : EnvOK E) {all : List Oper} {k : Nat} {h : Hp} {nx : Nat} {KT K : Sl → Prop} {w0 : World} (hw : Rel E.c h w0) : ∀ (l : List Oper) (i : Nat) (σ : Sl) (a : Act), MatA E.fn.ntmps σ h a → qv E all k h nx KT K i l σ →
    wpStillG E.c.P all.toArray (Rel E.c h) k (fun a => ∃ σ, KT σ ∧ MatA E.fn.ntmps σ h a) (fun a => ∃ σ, K σ ∧ MatA E.fn.ntmps σ h a) i l a
  | [], i, σ, a, hm, hs => ⟨σ, hs, hm⟩
  | ⟨d, op, ty, pos, aft, g⟩ :: l, i, σ, a, hm, hs => by
    unfold wpStillG
    by_cases hik : i = k
    · subst hik
      simp only [qv, Nat.beq_eq_true_eq] at hs
      rw [if_pos rfl]
      simp at hs
      exact ⟨σ, hs, hm⟩
    · rw [if_neg hik]
      unfold qv at hs
      rw [beq_ne hik] at hs
      simp only at hs
      have run : ∀ σ, MatA E.fn.ntmps σ h a → Region.wanted ⟨d, op, ty, pos, aft, g⟩ (yielded all.toArray a.tmps) = true → (∃ v, still1 E op σ h nx v ∧ putS E.fn.ntmps d v σ fun σ' => qv E all k h nx KT K (i + 1) l σ') →
          ∃ x, YG E.c.P all.toArray (Rel E.c h) ⟨d, op, ty, pos, aft, g⟩ x a ∧ wpStillG E.c.P all.toArray (Rel E.c h) k (fun a => ∃ σ, KT σ ∧ MatA E.fn.ntmps σ h a) (fun a => ∃ σ, K σ ∧ MatA E.fn.ntmps σ h a) (i + 1) l (a.put d x) := by
        rintro σ hm hwt ⟨v, h1, h2⟩
        have hd := putS_lt h2
        obtain ⟨x, r, hy⟩ := still_yields hE hm (o := ⟨d, op, ty, pos, aft, g⟩) h1 (fun t e => by rw [hm.size]; exact hd t e) hw
        obtain ⟨σ', h3, hm'⟩ := putA_ok hm r h2
        exact ⟨x, .inl ⟨hwt, hy⟩, qv_ok hE hw l (i + 1) σ' _ hm' h3⟩
      have pass : ∀ σ, MatA E.fn.ntmps σ h a → Region.wanted ⟨d, op, ty, pos, aft, g⟩ (yielded all.toArray a.tmps) = false → (putS E.fn.ntmps d und σ fun σ' => qv E all k h nx KT K (i + 1) l σ') →
          ∃ x, YG E.c.P all.toArray (Rel E.c h) ⟨d, op, ty, pos, aft, g⟩ x a ∧ wpStillG E.c.P all.toArray (Rel E.c h) k (fun a => ∃ σ, KT σ ∧ MatA E.fn.ntmps σ h a) (fun a => ∃ σ, K σ ∧ MatA E.fn.ntmps σ h a) (i + 1) l (a.put d x) := by
        intro σ hm hwt h2
        obtain ⟨σ', h3, hm'⟩ := putA_ok hm (vrel_und h) h2
        exact ⟨undef, .inr ⟨hwt, rfl⟩, qv_ok hE hw l (i + 1) σ' _ hm' h3⟩
      cases g with
      | none => exact run σ hm (by simp [Region.wanted]) hs
      | some gd =>
        obtain ⟨j, want⟩ := gd
        simp only at hs
        split at hs
        · rename_i oj hj
          split at hs
          · rename_i t ht
            split at hs
            · rename_i p e
              have hy := (yieldedA_of hm hj ht e).1 p rfl
              cases want with
              | true =>
                simp only at hs
                rcases br_spec hs with ⟨rfl, hs⟩ | ⟨rfl, hs⟩
                · exact run _ (hm.lit e) (by simp [Region.wanted, hy]) hs
                · exact pass _ (hm.lit e) (by simp [Region.wanted, hy]) hs
              | false =>
                simp only at hs
                rcases br_spec hs with ⟨rfl, hs⟩ | ⟨rfl, hs⟩
                · exact pass _ (hm.lit e) (by simp [Region.wanted, hy]) hs
                · exact run _ (hm.lit e) (by simp [Region.wanted, hy]) hs
            · rename_i e
              have hy := (yieldedA_of hm hj ht e).2 rfl
              exact pass _ hm (by simp [Region.wanted, hy]) hs
            · exact hs.elim
          · exact hs.elim
        · exact hs.elim

/-- A region whose order is open, each of whose operations leaves what is known as it is; but number k, which waits for all the others, may do what it likes. -/
theorem W_drawn {E : Env} (hE : EnvOK E) {id : Nat} {all : List Oper} {k : List It} {σ : Sl} {h : Hp} (nx : Nat) (t : Nat) (hP : E.c.P.follows .mixedOrders = true) (hB : Region.lexB .any all.toArray = true) (hl : (Nat.ble all.length t || lastB .any all.toArray t) = true) (n : Nat)
    (hs : qv E all t h nx (fun σ => match all[t]? with | some o => vc E n (.ops all [o] :: k) σ h nx | none => False) (fun σ => vc E n k σ h nx) 0 all σ) : W E (.code (.region id all.toArray true) :: k) σ h 0 := by
  intro a w hm
  have hr := hm.rel.drew
  refine wp_region_V (S := Rel E.c h) (k := t) hP hB (fun hk => ?_) ?_ ?_ (by simpa using qv_ok hE hr all 0 σ a hm.mat hs) hr
  · rw [Bool.or_eq_true] at hl
    rcases hl with hl | hl
    · have := Nat.le_of_ble_eq_true hl
      simp at hk
      omega
    · exact hl
  · rintro a' ⟨σ', hv, hm'⟩ w' hr'
    exact vc_sound hE n k σ' h nx hv a' w' (hm'.at hr')
  · rintro a' ⟨σ', hv, hm'⟩ w' hr'
    cases ho : all[t]? with
    | none => rw [ho] at hv; exact hv.elim
    | some o =>
      rw [ho] at hv
      have := vc_sound hE n _ σ' h nx hv a' w' (hm'.at hr')
      simp only [postK, wpList] at this
      unfold wpOp
      simp only [List.getElem?_toArray, ho]
      exact this

end Go.Proofs.Ytgcnknhfphgfnaa.Sx
