import Derived.Test.YtgcnknhfphgfnaaSxI
set_option linter.unusedVariables false
set_option linter.unusedSimpArgs false
/-
  The engine, tenth part: the condition is enough.
-/
namespace Go.Proofs.Ytgcnknhfphgfnaa.Sx
open Go

theorem lt_of_bool {c : Cx} {N : Nat} {σ : Sl} {h : Hp} {a : Act} {w : World} (hm : Match c N σ h a w) {t : Nat} {p : Bool} (e : lk t σ = some (.bool p)) : t < N := by
  have hs : a.tmps.getD t undef = .bool p := hm.slots t _ e
  rcases Nat.lt_or_ge t N with h | h
  · exact h
  · rw [Array.getD_eq_getD_getElem?, Array.getElem?_eq_none (by rw [hm.size]; exact h)] at hs
    cases hs

theorem vc_sound {E : Env} (hE : EnvOK E) : ∀ (n : Nat) (k : List It) (σ : Sl) (h : Hp) (nx : Nat), vc E n k σ h nx → W E k σ h nx
  | 0, k, σ, h, nx, hv => hv
  | n + 1, k, σ, h, nx, hv => by
    have ih := fun k σ h nx => vc_sound hE n k σ h nx
    intro a w hm
    have fin : (readRes E.T σ h E.fn.results.toList fun vs => E.R (.ret (wrapRes vs)) h nx) → bodyPost E.c.P E.fn E.post .ret a w ∧ bodyPost E.c.P E.fn E.post .normal a w := fun hs => by
      obtain ⟨v, x, kR, r, hrun⟩ := results_ok hE.tab hm (K := fun v => E.R (.ret v) h nx) hs
      have hp : E.post (.returned x) w := ⟨.ret v, h, nx, kR, hm.rel, x, rfl, r⟩
      exact ⟨⟨hm.calm, x, hrun, hp⟩, ⟨hm.calm, x, hrun, hp⟩⟩
    cases k with
    | nil => exact (fin hv).2
    | cons it k =>
      cases it with
      | fin J => exact ⟨σ, h, nx, hv, hm⟩
      | inBlock id =>
        have := ih k σ h nx hv a w hm
        exact this
      | code c =>
        cases c with
        | skip => exact wp_skip (ih k σ h nx hv a w hm)
        | seq x y =>
          refine wp_seq ?_
          rw [then_eq]
          exact ih (.code x :: .code y :: k) σ h nx hv a w hm
        | block id c =>
          refine wp_block ?_
          rw [inBlock_eq]
          exact ih (.code c :: .inBlock id :: k) σ h nx hv a w hm
        | cond x p q =>
          obtain ⟨v, kv, r⟩ := opnd_ok hm (x := x) hv
          split at kv
          · rename_i b
            have r : a.eval x = .bool b := r
            rcases br_spec kv with ⟨rfl, kv⟩ | ⟨rfl, kv⟩
            · exact wp_cond_true r (ih _ σ h nx kv a w hm)
            · exact wp_cond_false r (ih _ σ h nx kv a w hm)
          · exact kv.elim
        | exit id => exact wp_exit (exitK_ok hv (fun k' hk' => ih k' σ h nx hk' a w hm))
        | ret => exact wp_ret (postK_ret (fin hv).1)
        | region id ops draw =>
          cases draw with
          | true => exact hv a w hm
          | false =>
            have := ih _ σ h nx hv a w hm
            refine wp_region_list (Q := postK E k) ?_
            simpa [postK] using this
        | loop b => exact hv a w hm
        | rangeFunc f p x y => exact hv a w hm
        | scope b =>
          refine wp_scope_straight (wp_mono (ih (.code b :: k) σ h nx hv a w hm) ?_)
          intro e a' w' hq
          cases e with
          | goto l => exact (postK_goto (k := k) hq).elim
          | _ => exact hq
        | label l => exact wp_label (ih k σ h nx hv a w hm)
        | goto l => exact hv a w hm
        | refuse s => exact hv a w hm
      | ops all l =>
        cases l with
        | nil => exact wpList_nil (ih k σ h nx hv a w hm)
        | cons o l =>
          obtain ⟨d, op, ty, pos, aft, g⟩ := o
          -- an operation that is carried out
          have run : ∀ σ, Match E.c E.fn.ntmps σ h a w → stepC E op σ h nx (fun v h' nx' => putS E.fn.ntmps d v σ fun σ' => vc E n (.ops all l :: k) σ' h' nx') (fun v h' nx' => E.R (.pan v) h' nx') →
              (⟨d, op, ty, pos, aft, g⟩ : Oper).wp E.c.P a w (wpList E.c.P all.toArray (postK E k) l) (postK E k) := fun σ hm hs => by
            refine stepC_ok hE hm (o := ⟨d, op, ty, pos, aft, g⟩) hs ?_ ?_
            · intro v h' nx' w' x kv hx hr r
              obtain ⟨σ', kv, hm'⟩ := putS_ok hm hx hr r kv
              exact ih (.ops all l :: k) σ' h' nx' kv _ w' hm'
            · intro v h' nx' w' x kv hx hr r
              exact postK_panic ⟨hm.calm, .pan v, h', nx', kv, hr, x, rfl, r⟩
          have pass : ∀ σ, Match E.c E.fn.ntmps σ h a w → (putS E.fn.ntmps d und σ fun σ' => vc E n (.ops all l :: k) σ' h nx) → wpList E.c.P all.toArray (postK E k) l (a.put d undef) w := fun σ hm hs => by
            obtain ⟨σ', kv, hm'⟩ := putS_ok hm (Ext.refl h) hm.rel (vrel_und h) hs
            exact ih (.ops all l :: k) σ' h nx kv _ w hm'
          show wpList E.c.P all.toArray (postK E k) (⟨d, op, ty, pos, aft, g⟩ :: l) a w
          unfold wpList
          cases g with
          | none =>
            rw [if_pos (by simp [Region.wanted])]
            exact .inl (run σ hm hv)
          | some gd =>
            obtain ⟨j, want⟩ := gd
            simp only [vc] at hv
            split at hv
            · rename_i oj hj
              split at hv
              · rename_i t ht
                split at hv
                · rename_i p e
                  have hy := (yielded_of hm hj ht e).1 p rfl (lt_of_bool hm e)
                  cases want with
                  | true =>
                    simp only at hv
                    rcases br_spec hv with ⟨rfl, hv⟩ | ⟨rfl, hv⟩
                    · rw [if_pos (by simp [Region.wanted, hy])]
                      exact .inl (run _ (hm.lit e) hv)
                    · rw [if_neg (by simp [Region.wanted, hy])]
                      exact pass _ (hm.lit e) hv
                  | false =>
                    simp only at hv
                    rcases br_spec hv with ⟨rfl, hv⟩ | ⟨rfl, hv⟩
                    · rw [if_neg (by simp [Region.wanted, hy])]
                      exact pass _ (hm.lit e) hv
                    · rw [if_pos (by simp [Region.wanted, hy])]
                      exact .inl (run _ (hm.lit e) hv)
                · rename_i e
                  have hy := (yielded_of hm hj ht e).2 rfl
                  rw [if_neg (by simp [Region.wanted, hy])]
                  exact pass _ hm hv
                · exact hv.elim
              · exact hv.elim
            · exact hv.elim

end Go.Proofs.Ytgcnknhfphgfnaa.Sx
