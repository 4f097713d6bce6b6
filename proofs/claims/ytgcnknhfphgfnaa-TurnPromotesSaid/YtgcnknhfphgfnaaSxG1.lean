import Derived.Test.YtgcnknhfphgfnaaSxCl
import Derived.Test.YtgcnknhfphgfnaaSxPn
import Derived.Tactics
import Derived.Tactics2
import Derived.Defers
import Derived.Recover
import Derived.Laws.Pointers
import Derived.Test.YtgcnknhfphgfnaaSxGk
import Derived.Test.YtgcnknhfphgfnaaSxT
/-
  What all texts lean on; must, row; a call that is caught.
-/
namespace Go.Proofs.Ytgcnknhfphgfnaa.Sx
open Go Go.Proofs
set_option maxRecDepth 100000
set_option linter.unusedSimpArgs false
set_option linter.unusedVariables false

theorem mix : Try.prog.follows .mixedOrders = true := by kernel_rfl
theorem noSP {P : Program} : ∀ p ∈ ([] : SpT), SpecOK P p.1 p.2 := by intro p hp; cases hp
theorem consSP {P : Program} {f : Nat} {s : Spec} {l : SpT} (h : SpecOK P f s) (k : ∀ p ∈ l, SpecOK P p.1 p.2) : ∀ p ∈ (f, s) :: l, SpecOK P p.1 p.2 := by
  intro p hp
  rcases List.mem_cons.1 hp with rfl | hp
  · exact h
  · exact k p hp
theorem vrel_ro {h : Hp} {v : V} {x : Value} (r : vrel h v x) : vrel (roH h) v x := vrel_mono (fun t r e => by rw [fd_roH, Ent.toRo_rf]; exact e) v x r
theorem vrelL_ro {h : Hp} {l : List V} {xs : List Value} (r : vrelL h l xs) : vrelL (roH h) l xs := vrelL_mono (fun t r e => by rw [fd_roH, Ent.toRo_rf]; exact e) l xs r
/-- What is known, told anew, to a reader. -/
theorem told_wk {h G : Hp} {args args' : List V} (τ : Nat → Nat) (hn : nodupB ((G.map (·.1)).map τ) = true) (hw : wkH τ (roH h) G G) (ha : rnL τ G args args') : Told h args G args' :=
  ⟨fun hr hv => ⟨wk_rel hn hw hr.ro, rnL_rel (fun t' hl => wkE_rf (wkH_at hw _ _ (fd_mem hl)) hl) _ _ _ ha (vrelL_ro hv)⟩⟩
theorem mkE' {c : Cx} (hc : c.P = Try.prog) {fn : Func} {SP : SpT} {R : Out → Hp → Nat → Prop} (hS : ∀ p ∈ SP, SpecOK Try.prog p.1 p.2) : EnvOK ⟨c, fn, T, SP, R⟩ := mkE hc T_ok hS
theorem specOK_imp {P : Program} {f : Nat} {s1 s2 : Spec} (h1 : SpecOK P f s1) (h2 : ∀ args h nx K, s2 args h nx K → s1 args h nx K) : SpecOK P f s2 := fun c hc args h nx K hk => h1 c hc args h nx K (h2 _ _ _ _ hk)
/-- A call, walked in place; how the fresh tags are numbered behind it is free. -/
def inlx (P : Program) (fn : Func) (cd : Code) (T : Tab) (SP : SpT) : Spec := fun args h nx K =>
  args.length ≤ fn.ntmps ∧ ∀ c, c.P = P → W ⟨c, fn, T, SP, fun o h' _ => Ext h h' ∧ ∃ m, K o h' m⟩ [.code cd] (argsS args 0) h nx
theorem inlx_ok {P : Program} {f : Nat} {fn : Func} {cd : Code} {T : Tab} {SP : SpT} (hf : P.funcs[f]? = some fn) (hx : (fn.name == "runtime.NumGoroutine") = false) (hb : fn.body = some cd) (hT : TabOK P T) (hS : ∀ p ∈ SP, SpecOK P p.1 p.2) :
    SpecOK P f (inlx P fn cd T SP) := by
  intro c hc args h nx K hk w xs hr hv
  obtain ⟨hl, hk⟩ := hk
  refine .inl ⟨callFunc_enter hf hx hb _ w, ?_⟩
  have hE : EnvOK ⟨c, fn, T, SP, fun o h' _ => Ext h h' ∧ ∃ m, K o h' m⟩ := mkE hc hT hS
  have hf' : c.P.funcs[f]? = some fn := by rw [hc]; exact hf
  have := enterW hE (f := f) hf' hb hv hr hl (hk c hc)
  rw [show (Env.c ⟨c, fn, T, SP, fun o h' _ => Ext h h' ∧ ∃ m, K o h' m⟩).P = P from hc] at this
  refine this.mono ?_
  rintro e w' ⟨o, h1, nx1, ⟨hx, m, hp⟩, hr1, hor⟩
  exact ⟨o, h1, m, hp, hr1, hx, hor⟩
theorem and_ext {h h' : Hp} {m : Nat} {o : Out} {K : Out → Hp → Nat → Prop} (hX : Ext h h') (H : Ext h h' → K o h' m) : Ext h h' ∧ ∃ m, K o h' m := ⟨hX, m, H hX⟩
/-- The same heap, told in another order. -/
theorem Ext.fdeq {h h' : Hp} (he : ∀ t, fd t h' = fd t h) : Ext h h' := fun t r e => by rw [he]; exact e
theorem Rel.fdeq {c : Cx} {h h' : Hp} {w : World} (he : ∀ t, fd t h' = fd t h) (hr : Rel c h w) : Rel c h' w :=
  ⟨hr.fr, fun t => by rw [he]; exact Ent.holds_heap (Ext.fdeq he) (fun b _ => rfl) (hr.holds t), fun t t' hne => by rw [he, he]; exact hr.apart t t' hne, hr.tabs⟩
theorem W_fdeq {E : Env} {k : List It} {σ : Sl} {h h' : Hp} {nx nx' : Nat} (he : ∀ t, fd t h' = fd t h) (H : W E k σ h' nx') : W E k σ h nx := fun a w hm =>
  H a w ⟨hm.size, fun t v e => vrel_mono (Ext.fdeq he) _ _ (hm.slots t v e), hm.calm, hm.rel.fdeq he⟩
theorem fdeq_cons {t : Nat} {e : Ent} {h : Hp} (q : fd t h = e) : ∀ u, fd u ((t, e) :: h) = fd u h := fun u => by
  rw [fd_cons]; split
  · rename_i hu; subst hu; exact q.symm
  · rfl
theorem fdeq_cons2 {t : Nat} {e : Ent} {h h' : Hp} (q : fd t h = e) (H : ∀ u, fd u h' = fd u h) : ∀ u, fd u ((t, e) :: h') = fd u h := fun u => by
  rw [fd_cons]; split
  · rename_i hu; subst hu; exact q.symm
  · exact H u
theorem Ext.fd1 {h h' : Hp} {t : Nat} {e : Ent} (H : Ext h h') (q : e.rf = (fd t h').rf) : Ext h ((t, e) :: h') := H.trans (Ext.same q)
/-- What a code is told of as panic: it leaves with it. -/
abbrev ref (e : Int) : V := .iface 85 (.agg [.int .i64 e])

def sMust : Spec := fun args h nx K => ∃ b e, args = [.bool b, .int .i64 e] ∧ (b = true → K (.ret (.tup [])) h nx) ∧ (b = false → K (.pan (ref e)) h nx)
theorem sMust_ok : SpecOK Try.prog 34 sMust := specOK_imp (inlx_ok (fn := Try.f34) rfl rfl rfl T_ok (SP := []) noSP) <| by
  rintro args h nx K ⟨b, e, rfl, k1, k2⟩
  refine ⟨by simp [Try.f34], fun c hc => ?_⟩
  have hE := mkE' (fn := Try.f34) (R := fun o h' _ => Ext h h' ∧ ∃ m, K o h' m) hc noSP
  refine vc_sound hE 40 _ _ _ nx ?_
  cases b with
  | true => exact ⟨Ext.refl _, nx, k1 rfl⟩
  | false => exact ⟨Ext.refl _, nx, k2 rfl⟩
def rowI (a : Bool) : Int := if a = true then 1 else 0
def sRow : Spec := fun args h nx K => ∃ a, args = [.bool a] ∧ K (.ret (.int .i64 (rowI a))) h nx
theorem sRow_ok : SpecOK Try.prog 42 sRow := specOK_imp (inlx_ok (fn := Try.f42) rfl rfl rfl T_ok (SP := []) noSP) <| by
  rintro args h nx K ⟨a, rfl, k1⟩
  refine ⟨by simp [Try.f42], fun c hc => ?_⟩
  have hE := mkE' (fn := Try.f42) (R := fun o h' _ => Ext h h' ∧ ∃ m, K o h' m) hc noSP
  refine vc_sound hE 40 _ _ _ nx ?_
  cases a with
  | true => exact ⟨Ext.refl _, nx, k1⟩
  | false => exact ⟨Ext.refl _, nx, k1⟩
theorem caught_idle (p : Addr) (w : World) :
    CallsD Try.prog 46 #[.pointer (some p)] .returning w fun e u' w' => e = .returned (.tuple #[]) ∧ u' = .returning ∧ w' = w := by
  refine callsD_of_wpS Try.func46 rfl fun c₀ cs hu => ?_
  apply wpS_seq
  apply wpS_region
  simp [wpOpsS, go_sem, recoverD, hu, Try.ntmps46, Exit.thenS]
  refine wpS_of_wp ?_
  go_wp2
  cases c₀
  simp_all [bodyPostS, results, Try.results46]
theorem run_ta (z : Value) (w : World) : (Instr.typeAssert (.iface 85 z) 20 85 true).run Try.prog w = .ok (.tuple #[z, .bool true]) w := by
  simp [Instr.typeAssert, run_underlying Try.underlying85]
set_option maxHeartbeats 4000000 in
theorem caught_panicking (b : Nat) (e x : Int) (older : List PanicEntry) (w : World) (hc : w.cell? ⟨b, 0, none⟩ = some (.int .i64 x)) (hz : w.frozen? ⟨b, 0, none⟩ = false) (hp : b < w.heap.size) :
    CallsD Try.prog 46 #[.pointer (some ⟨b, 0, none⟩)] (.panicking ({ v := .iface 85 (.agg #[.int .i64 e]), recovered := false } :: older)) w fun r u' w' =>
      r = .returned (.tuple #[]) ∧ u' = .panicking ({ v := .iface 85 (.agg #[.int .i64 e]), recovered := true } :: older) ∧ w' = (w.setCell ⟨b, 0, none⟩ (.int .i64 e)).alloc (.cells #[.int .i64 e] 85) := by
  have hta := run_ta
  have hz2 : (w.alloc (.cells #[.int .i64 e] 85)).frozen? ⟨b, 0, none⟩ = false := by rw [World.frozen?_alloc_past _ _ _ hp]; exact hz
  refine callsD_of_wpS Try.func46 rfl fun c₀ cs hu => ?_
  apply wpS_seq
  apply wpS_region
  simp [wpOpsS, go_sem, recoverD, hu, Try.ntmps46, Exit.thenS]
  refine wpS_of_wp ?_
  go_wp2
  simp [bodyPostS, results, Try.results46]
/-- The cell of the named result. -/
def gE (x : Int) : Nat → Nat → V := fun _ _ => .int .i64 x
def capK (K : Out → Hp → Nat → Prop) (b : Nat) : Out → Hp → Nat → Prop
  | .ret _, h', nx' => fd 63 h' = .blk b 1 1 (gE 0) 25 ∧ ∀ g, K (.ret (.int .i64 0)) ((63, .blk b 1 1 g 25) :: h') nx'
  | .pan v, h', nx' => ∃ e, v = ref e ∧ fd 63 h' = .blk b 1 1 (gE 0) 25 ∧ ∀ g, K (.ret (.int .i64 e)) ((63, .blk b 1 1 g 25) :: h') nx'
def sCaught : Spec := fun args h nx K => ∃ (f : Nat) (caps : List V) (s : Spec), args = [.fn (.func f) [] caps] ∧ SpecOK Try.prog f s ∧ fd 63 h = .gone ∧
  ∀ b, s caps ((63, .blk b 1 1 (gE 0) 25) :: h) nx (capK K b)
theorem cell_of {c : Cx} {h : Hp} {w : World} (hr : Rel c h w) {t b : Nat} {x : Int} {ty : TypeId} (e : fd t h = .blk b 1 1 (gE x) ty) : w.heap[b]? = some (.cells #[.int .i64 x] ty (0, 0)) := by
  have H := hr.holds t
  rw [e] at H
  obtain ⟨⟨cs, h1, h2, h3⟩, _⟩ := H
  obtain ⟨y, e1, e2⟩ := h3 0 0 (by decide) (by decide)
  have e2 : y = .int .i64 x := e2
  subst e2
  match cs, h2 with
  | [z], _ =>
    simp at e1
    subst e1
    exact h1
theorem Rel.grow {c : Cx} {h : Hp} {w : World} (hr : Rel c h w) (o : Obj) : Rel c h (w.alloc o) := by
  refine hr.after (P := c.P) ⟨rfl, rfl, rfl, by show w.heap.size ≤ _; simp, fun k hk _ => ?_⟩
  exact Go.RowKit.Below.heap_alloc _ _ _ hk
theorem Rel.cell1 {c : Cx} {h : Hp} {w : World} (hr : Rel c h w) {t b : Nat} {x : Int} {ty : TypeId} (e : fd t h = .blk b 1 1 (gE x) ty) (y : Int) : Rel c ((t, .blk b 1 1 (gE y) ty) :: h) (w.setCell ⟨b, 0, none⟩ (.int .i64 y)) := by
  have hb := cell_of hr e
  have hlt := (Array.getElem?_eq_some_iff.1 hb).1
  have e1 : ∀ k, (w.setCell ⟨b, 0, none⟩ (.int .i64 y)).heap[k]? = if b = k then some (.cells #[.int .i64 y] ty (0, 0)) else w.heap[k]? := fun k => by
    unfold World.setCell
    rw [Array.getElem?_modify]
    split
    · rename_i q; subst q; rw [hb]; rfl
    · rfl
  refine hr.put e rfl rfl rfl (by unfold World.setCell; simp) (cs := [.int .i64 y]) (by rw [e1, if_pos rfl]) rfl (fun i k hi hk => ?_) (fun k hk => by rw [e1, if_neg (fun q => hk q.symm)])
  obtain rfl : i = 0 := by omega
  obtain rfl : k = 0 := by omega
  exact ⟨_, rfl, rfl⟩
/-- What a closure comes to whose panic is caught: the variable of the named result is in block b. -/
def CB (b : Nat) (R : Ending → World → Prop) (e : Ending) (w' : World) : Prop :=
  (w'.cell? ⟨b, 0, none⟩ = some (.int .i64 0) ∧ w'.frozen? ⟨b, 0, none⟩ = false ∧ b < w'.heap.size) ∧
  ((∃ v, e = .returned v ∧ R (.returned (.int .i64 0)) (w'.setCell ⟨b, 0, none⟩ (.int .i64 0))) ∨
   ∃ x, e = .panicked [{ v := .iface 85 (.agg #[.int .i64 x]), recovered := false }] ∧ R (.returned (.int .i64 x)) ((w'.setCell ⟨b, 0, none⟩ (.int .i64 x)).alloc (.cells #[.int .i64 x] 85)))
set_option maxHeartbeats 4000000 in
theorem sCaught_ok : SpecOK Try.prog 32 sCaught := by
  rintro c hc args h nx K ⟨f, caps, s, rfl, hs, hg, hk⟩ w xs hr hv
  obtain ⟨x, xs', rfl, ⟨ys, bs, rfl, r1, r2⟩, rfl⟩ := hv
  obtain rfl : ys = [] := r1
  refine .inl ⟨by exact callFunc_enter Try.func32 rfl rfl _ w, ?_⟩
  have hmf : ∀ (fn : Fn) (first cap : Array Value) (w : World), (Instr.makeFunc fn first cap).run Try.prog w = .ok (.func fn first cap) w := fun _ _ _ _ => rfl
  have hn : (fd 63 h).rf = none := by rw [hg]; rfl
  have hr1 : Rel c ((63, .blk w.heap.size 1 1 (gE 0) 25) :: h) (w.alloc (.cells #[.int .i64 0] 25)) := hr.alloc hn (cs := [.int .i64 0]) rfl (fun i k hi hk => by
    obtain rfl : i = 0 := by omega
    obtain rfl : k = 0 := by omega
    exact ⟨_, rfl, rfl⟩)
  have hx1 : Ext h ((63, .blk w.heap.size 1 1 (gE 0) 25) :: h) := Ext.new hn
  have hcall := hs c hc caps _ nx _ (hk w.heap.size) _ bs hr1 (vrelL_mono hx1 _ _ r2)

  have key : ∀ (o : Out) (h' : Hp) (nx' : Nat) (w' : World) (e : Ending), capK K w.heap.size o h' nx' → Rel c h' w' → Ext ((63, .blk w.heap.size 1 1 (gE 0) 25) :: h) h' → OutRel h' o e →
      CB w.heap.size (fun e w' => ∃ o h' nx', K o h' nx' ∧ Rel c h' w' ∧ Ext h h' ∧ OutRel h' o e) e w' := by
    intro o h' nx' w' e ko hr' hx hor
    have cellF : ∀ {b : Nat}, fd 63 h' = .blk b 1 1 (gE 0) 25 → w'.cell? ⟨b, 0, none⟩ = some (.int .i64 0) ∧ w'.frozen? ⟨b, 0, none⟩ = false ∧ b < w'.heap.size := fun hf => by
      have := cell_of hr' hf
      exact ⟨by simp [World.cell?, this], by simp [World.frozen?, this], (Array.getElem?_eq_some_iff.1 this).1⟩
    have hxx : Ext h h' := hx1.trans hx
    cases o with
    | ret v =>
      obtain ⟨hf, kk⟩ := ko
      obtain ⟨x, rfl, rx⟩ := hor
      exact ⟨cellF hf, .inl ⟨x, rfl, _, _, _, kk (gE 0), hr'.cell1 hf 0, hxx.fd1 (by rw [hf]), _, rfl, rfl⟩⟩
    | pan v =>
      obtain ⟨x, rfl, hf, kk⟩ := ko
      obtain ⟨y, rfl, z, rfl, ys, rfl, y1, ys', rfl, ry, rfl⟩ := hor
      obtain rfl : y1 = .int .i64 x := ry
      exact ⟨cellF hf, .inr ⟨x, rfl, _, _, _, kk (gE x), (hr'.cell1 hf x).grow _, hxx.fd1 (by rw [hf]; rfl), _, rfl, rfl⟩⟩
  have key1 : CallRes Try.prog f bs.toArray (w.alloc (.cells #[.int .i64 0] 25)) (CB w.heap.size (fun e w' => ∃ o h' nx', K o h' nx' ∧ Rel c h' w' ∧ Ext h h' ∧ OutRel h' o e)) := by
    rcases hcall with ⟨e1, hcalls⟩ | ⟨x, w', e1, o, h', nx', ko, hr', hx, hor⟩
    · refine .inl ⟨e1, hcalls.mono ?_⟩
      rintro e w' ⟨o, h', nx', ko, hr', hx, hor⟩
      exact key o h' nx' w' e ko hr' hx hor
    · exact .inr ⟨x, w', e1, key o h' nx' w' _ ko hr' hx hor⟩
  clear hk hs hr1 hx1 hn hg r2 hr hcall key
  revert key1
  generalize (fun (e : Ending) (w' : World) => ∃ o h' nx', K o h' nx' ∧ Rel c h' w' ∧ Ext h h' ∧ OutRel h' o e) = R
  intro key1
  go_enter_defers Try.func32, Try.ntmps32
  go_wp2
  have same : ∀ (v : Int) (w' : World), w'.cell? ⟨w.heap.size, 0, none⟩ = some (.int .i64 0) → (w'.setCell ⟨w.heap.size, 0, none⟩ (.int .i64 v)).cell? ⟨w.heap.size, 0, none⟩ = some (.int .i64 v) := fun v w' h => World.cell?_setCell_same _ _ _ h
  have more : ∀ (o : Obj) (w' : World), w.heap.size < w'.heap.size → (w'.alloc o).cell? ⟨w.heap.size, 0, none⟩ = w'.cell? ⟨w.heap.size, 0, none⟩ := fun o w' h => World.cell?_of_block (Go.RowKit.Below.heap_alloc _ _ _ h)
  rcases key1 with ⟨e1, hcalls⟩ | ⟨x, w', e1, ⟨c1, c2, c3⟩, ⟨v, hv, hR⟩ | ⟨x, hx, hR⟩⟩
  · rw [e1]
    refine hcalls.mono ?_
    rintro e w' ⟨⟨c1, c2, c3⟩, ⟨v, rfl, hR⟩ | ⟨x, rfl, hR⟩⟩
    · go_wp2
      refine leaves_cons (f := 46) (args := #[.pointer (some ⟨w.heap.size, 0, none⟩)]) (by simp) (by simp [go_sem]) ?_
      refine (caught_idle _ _).mono ?_
      rintro e u' w'' ⟨rfl, rfl, rfl⟩
      simp [Leaves, settle, results, Try.results32, go_sem, same _ _ c1, hR]
    · go_wp2
      refine leaves_cons (f := 46) (args := #[.pointer (some ⟨w.heap.size, 0, none⟩)]) (by simp) (by simp [go_sem]) ?_
      refine (caught_panicking _ x 0 [] _ c1 c2 c3).mono ?_
      rintro e u' w'' ⟨rfl, rfl, rfl⟩
      have c4 : w.heap.size < (w'.setCell ⟨w.heap.size, 0, none⟩ (.int .i64 x)).heap.size := by unfold World.setCell; simpa using c3
      simp [Leaves, settle, results, Try.results32, go_sem, more _ _ c4, same _ _ c1, hR]
  · rw [e1]
    go_wp2
    refine leaves_cons (f := 46) (args := #[.pointer (some ⟨w.heap.size, 0, none⟩)]) (by simp) (by simp [go_sem]) ?_
    refine (caught_idle _ _).mono ?_
    rintro e u' w'' ⟨rfl, rfl, rfl⟩
    simp [Leaves, settle, results, Try.results32, go_sem, same _ _ c1, hR]
  · cases hx
end Go.Proofs.Ytgcnknhfphgfnaa.Sx

/-
  Turns: the places of all tickets; free, State, got, Free.
-/
namespace Go.Proofs.Ytgcnknhfphgfnaa.Sx
open Go Go.Proofs
set_option maxRecDepth 100000
set_option linter.unusedSimpArgs false
set_option linter.unusedVariables false

theorem W_ex {E : Env} {x : Code} {k : List It} {σ : Sl} {h : Hp} {nx : Nat} {α : Type} (Q : α → Prop) (σ' : α → Sl) (h' : α → Hp) (nx' : Nat) (h1 : W E (.code x :: .fin (fun σ1 h1 _ => ∃ a, Q a ∧ ∃ τ, wk τ σ1 h1 (σ' a) (h' a)) :: k) σ h nx) (h2 : ∀ a, Q a → W E k (σ' a) (h' a) nx') : W E (.code x :: k) σ h nx :=
  W_piece _ h1 fun _ _ _ ⟨a, hq, τ, hw⟩ => W_weak (nx' := nx') τ hw (h2 a hq)

/-- A place: its ticket, its turn, whether it is ahead, and whether it waits. -/
structure Pl where
  t : Int
  n : Int
  a : Bool
  w : Bool
def Pl.zero : Pl := ⟨0, 0, false, false⟩
def plV (p : Pl) : V := .agg [.int .i64 p.t, .int .i64 p.n, .bool p.a, .bool p.w]
def mpP (S : List Pl) : List (Int × V) := S.map fun p => (p.t, plV p)
def hasP (S : List Pl) (t : Int) : Bool := S.any fun p => p.t == t
def getP (S : List Pl) (t : Int) : Pl := (S.find? fun p => p.t == t).getD Pl.zero
def cntP (b : Bool) (S : List Pl) : Nat := (S.filter fun p => p.a == b).length
theorem mfind_P {t : Int} : ∀ (S : List Pl) (i : Nat), mfind t (mpP S) i = (S.findIdx? fun p => p.t == t).map fun j => (i + j, plV (getP S t))
  | [], i => rfl
  | p :: S, i => by
    have ih := mfind_P (t := t) S (i + 1)
    unfold mpP at ih ⊢
    rw [List.map_cons]
    unfold mfind
    by_cases h : t = p.t
    · rw [if_pos h, List.findIdx?_cons]
      simp [h, getP]
    · have h2 : (p.t == t) = false := by simpa using fun e => h e.symm
      rw [if_neg h, ih, List.findIdx?_cons, h2]
      simp only [Bool.false_eq_true, if_false, Option.map_map]
      have hg : getP (p :: S) t = getP S t := by unfold getP; rw [List.find?_cons, h2]
      rw [hg]
      congr 1
      funext j
      simp only [Function.comp_apply]
      rw [show i + 1 + j = i + (j + 1) by omega]
theorem findIdx_has {S : List Pl} {t : Int} : (S.findIdx? fun p => p.t == t).isSome = hasP S t := by
  unfold hasP
  rw [List.findIdx?_isSome]
theorem getP_eq {S : List Pl} {t : Int} {z : V} (hz : z = plV Pl.zero) : mgetV z (mpP S) t = plV (getP S t) := by
  unfold mgetV
  rw [mfind_P]
  cases e : S.findIdx? fun p => p.t == t with
  | some j => rfl
  | none =>
    simp only [Option.map_none]
    have : S.find? (fun p => p.t == t) = none := by
      have := List.findIdx?_eq_none_iff.1 e
      rw [List.find?_eq_none]
      simpa using this
    rw [hz]
    unfold getP
    rw [this]
    rfl
theorem mhas_P {S : List Pl} {t : Int} : mhas (mpP S) t = hasP S t := by
  unfold mhas
  rw [mfind_P, ← findIdx_has]
  cases S.findIdx? fun p => p.t == t <;> rfl
theorem cnt_erase {b : Bool} : ∀ {L : List Pl} {i : Nat} {x : Pl}, L[i]? = some x → cntP b L = cntP b (L.eraseIdx i) + (if x.a = b then 1 else 0)
  | [], i, x, h => by simp at h
  | y :: L, 0, x, h => by
    obtain rfl : y = x := by simpa using h
    unfold cntP
    rw [List.eraseIdx_zero, List.tail_cons, List.filter_cons]
    by_cases e : y.a = b <;> simp [e]
  | y :: L, i + 1, x, h => by
    have ih := cnt_erase (b := b) (L := L) (i := i) (x := x) (by simpa using h)
    unfold cntP at ih ⊢
    rw [List.eraseIdx_cons_succ, List.filter_cons, List.filter_cons]
    by_cases e : y.a = b <;> simp [e] at ih ⊢ <;> omega
theorem cnt_le {b : Bool} {S : List Pl} : cntP b S ≤ S.length := List.length_filter_le _ _
theorem mpP_at {L : List Pl} {i : Nat} {p : Int × V} (h : (mpP L)[i]? = some p) : ∃ x, L[i]? = some x ∧ p = (x.t, plV x) := by
  unfold mpP at h
  rw [List.getElem?_map] at h
  cases e : L[i]? with
  | none => rw [e] at h; cases h
  | some x => rw [e] at h; exact ⟨x, rfl, (by simpa using h.symm)⟩
theorem mpP_erase {L : List Pl} {i : Nat} : (mpP L).eraseIdx i = mpP (L.eraseIdx i) := by
  unfold mpP
  rw [List.eraseIdx_eq_take_drop_succ, List.eraseIdx_eq_take_drop_succ, List.map_append, List.map_take, List.map_drop]

theorem getP_hv {S : List Pl} {t : Int} {v z : V} (hv : v = mgetV z (mpP S) t) (hz : z = plV Pl.zero) : v = plV (getP S t) := hv.trans (getP_eq hz)
/-- The struct: the map, how many places there may be in each row, the last turn. -/
def gTn (d a n : Int) : Nat → Nat → V := fun _ c => match c with
  | 0 => .map 9
  | 1 => .int .i64 d
  | 2 => .int .i64 a
  | _ => .int .i64 n
/-- Turns lie at the tag 8, to a reader; the map lies at the tag 9. -/
structure TnR (h : Hp) (bT bM : Nat) (d a n : Int) (S : List Pl) : Prop where
  str : fd 8 (roH h) = .ro (some ⟨bT, 0, none⟩) 1 4 (gTn d a n)
  map : fd 9 (roH h) = .rmp bM (mpP S)
abbrev HT (bT bM : Nat) (d a n : Int) (S : List Pl) : Hp := [(8, .ro (some ⟨bT, 0, none⟩) 1 4 (gTn d a n)), (9, .rmp bM (mpP S))]
theorem gTn_rn {τ : Nat → Nat} {h' : Hp} {d a n : Int} {c : Nat} (t9 : τ 9 = 9) (v9 : live h' 9) (hc : c < 4) : rn τ h' (gTn d a n 0 c) (gTn d a n 0 c) := by
  match c, hc with
  | 0, _ => exact ⟨t9.symm, v9⟩
  | 1, _ => exact ⟨rfl, rfl⟩
  | 2, _ => exact ⟨rfl, rfl⟩
  | 3, _ => exact ⟨rfl, rfl⟩
theorem HT.wk {bT bM : Nat} {d a n : Int} {S : List Pl} {h h' rest : Hp} {τ : Nat → Nat} (e8 : fd (τ 8) h = .ro (some ⟨bT, 0, none⟩) 1 4 (gTn d a n)) (e9 : fd (τ 9) h = .rmp bM (mpP S)) (t9 : τ 9 = 9) (v9 : live h' 9) (hr : wkH τ h h' rest) : wkH τ h h' (HT bT bM d a n S ++ rest) := by
  refine ⟨?_, ?_, hr⟩
  · rw [e8]
    refine ⟨rfl, rfl, rfl, fun i c hi hc => ?_⟩
    obtain rfl : i = 0 := by omega
    exact gTn_rn t9 v9 hc
  · rw [e9]; exact ⟨rfl, rfl⟩
theorem TnR.told {h : Hp} {bT bM : Nat} {d a n : Int} {S : List Pl} {rest : List V} (H : TnR h bT bM d a n S) (hf : flatL rest) : Told h (.ptr 8 0 0 :: rest) (HT bT bM d a n S) (.ptr 8 0 0 :: rest) :=
  told_wk (tau []) rfl (HT.wk (rest := []) H.str H.map rfl trivial trivial) ⟨⟨⟨rfl, trivial⟩, rfl, rfl⟩, flatL_rn _ hf⟩

/-- A variable that holds a place. -/
def gP1 (p : Pl) : Nat → Nat → V := fun _ c => match c with
  | 0 => .int .i64 p.t
  | 1 => .int .i64 p.n
  | 2 => .bool p.a
  | _ => .bool p.w
def sState : Spec := fun args h nx K => ∃ (bT bM : Nat) (d a n : Int) (S : List Pl) (t : Int), args = [.ptr 8 0 0, .int .i64 t] ∧ TnR h bT bM d a n S ∧ K (.ret (.tup [.bool (getP S t).a, .bool (getP S t).w, .bool (hasP S t)])) h nx
theorem sState_ok : SpecOK Try.prog 20 sState := by
  refine specOK_read2 (fn := Try.f20) rfl rfl rfl T_ok (SP := []) noSP 0 _ ?_
  rintro args h nx K ⟨bT, bM, d, a, n, S, t, rfl, H, hk⟩
  refine ⟨_, _, H.told (rest := [.int .i64 t]) ⟨trivial, trivial⟩, by simp [Try.f20], fun o => o = .ret (.tup [.bool (getP S t).a, .bool (getP S t).w, .bool (hasP S t)]), ?_, ?_⟩
  · rintro o rfl; exact ⟨⟨trivial, trivial, trivial, trivial⟩, hk⟩
  intro c hc
  have hE := mkE' (fn := Try.f20) (R := fun o _ _ => o = .ret (.tup [.bool (getP S t).a, .bool (getP S t).w, .bool (hasP S t)])) hc noSP
  show W _ _ _ _ 30
  refine vc_sound hE 100 _ _ _ 30 ?_
  intro v hv
  obtain rfl := getP_hv hv rfl
  rw [mhas_P]
  intro b
  refine W_planw hE 30 [] (.take 0 (.take 1 (.take 2 (.take 3 (.take 4 (.take 5 (.take 6 (.take 7 (.done))))))))) (by rw [hc]; exact mix) (by kernel_rfl) 31 ?_
  iterate 8 (refine ⟨_, ⟨rfl, rfl⟩, ?_⟩)
  refine putS_some rfl ?_
  rfl
def sGot : Spec := fun args h nx K => ∃ (bT bM : Nat) (d a n : Int) (S : List Pl) (t : Int), args = [.ptr 8 0 0, .int .i64 t] ∧ TnR h bT bM d a n S ∧ (hasP S t = true → K (.ret (plV (getP S t))) h nx) ∧ (hasP S t = false → K (.pan (ref 3)) h nx)
theorem sGot_ok : SpecOK Try.prog 37 sGot := by
  refine specOK_read2 (fn := Try.f37) rfl rfl rfl T_ok (SP := [(34, sMust)]) (consSP sMust_ok noSP) 0 _ ?_
  rintro args h nx K ⟨bT, bM, d, a, n, S, t, rfl, H, hk1, hk2⟩
  refine ⟨_, _, H.told (rest := [.int .i64 t]) ⟨trivial, trivial⟩, by simp [Try.f37], fun o => (hasP S t = true ∧ o = .ret (plV (getP S t))) ∨ (hasP S t = false ∧ o = .pan (ref 3)), ?_, ?_⟩
  · rintro o (⟨e, rfl⟩ | ⟨e, rfl⟩)
    · exact ⟨⟨trivial, trivial, trivial, trivial, trivial⟩, hk1 e⟩
    · exact ⟨⟨trivial, trivial⟩, hk2 e⟩
  intro c hc
  have hE := mkE' (fn := Try.f37) (R := fun o _ _ => (hasP S t = true ∧ o = .ret (plV (getP S t))) ∨ (hasP S t = false ∧ o = .pan (ref 3))) hc (consSP sMust_ok noSP)
  show W _ _ _ _ 30
  refine vc_sound hE 100 _ _ _ 30 ?_
  intro b v hv
  obtain rfl := getP_hv hv rfl
  rw [mhas_P]
  intro b1
  refine ⟨hasP S t, 3, rfl, fun e => ?_, fun e => ?_⟩
  · exact .inl ⟨e, rfl⟩
  · exact .inr ⟨e, rfl⟩
theorem wrap_sub {d k : Int} (h1 : 0 ≤ d ∧ d ≤ 64) (h2 : 0 ≤ k ∧ k ≤ 1000) : IntKind.i64.wrap (d - k) = d - k := by simp only [IntKind.wrap_i64]; omega
/-- An array of two numbers. -/
def gA2 (x y : Int) : Nat → Nat → V := fun i _ => match i with
  | 0 => .int .i64 x
  | _ => .int .i64 y
def sfree : Spec := fun args h nx K => ∃ (bT bM : Nat) (d a n : Int) (S : List Pl), args = [.ptr 8 0 0] ∧ TnR h bT bM d a n S ∧ (0 ≤ d ∧ d ≤ 64) ∧ (0 ≤ a ∧ a ≤ 64) ∧ S.length ≤ 1000 ∧ K (.ret (.agg [.int .i64 (d - cntP false S), .int .i64 (a - cntP true S)])) h nx
theorem sfree_ok : SpecOK Try.prog 28 sfree := by
  refine specOK_read2 (fn := Try.f28) rfl rfl rfl T_ok (SP := [(42, sRow)]) (consSP sRow_ok noSP) 0 _ ?_
  rintro args h nx K ⟨bT, bM, d, a, n, S, rfl, H, hd, ha, hn, hk⟩
  refine ⟨_, _, H.told (rest := []) trivial, by simp [Try.f28], fun o => o = .ret (.agg [.int .i64 (d - cntP false S), .int .i64 (a - cntP true S)]), ?_, ?_⟩
  · rintro o rfl; exact ⟨⟨trivial, trivial, trivial⟩, hk⟩
  intro c hc
  have hE := mkE' (fn := Try.f28) (R := fun o _ _ => o = .ret (.agg [.int .i64 (d - cntP false S), .int .i64 (a - cntP true S)])) hc (consSP sRow_ok noSP)
  show W _ _ _ _ 30
  refine vc_sound hE 60 _ _ _ 30 ?_
  intro b0 b1 b2
  refine W_loop (fun q σ h => ∃ (L : List Pl) (cur : Option (Int × V)) (cf ca : Nat), q = L.length ∧ cf + cntP false L = cntP false S ∧ ca + cntP true L = cntP true S ∧ σ = [(2, .ptr 30 0 0), (3, .ptr 31 0 0), (14, .ptr 32 0 0)] ∧ h = [(30, .blk b0 2 1 (gA2 0 0) 54), (31, .blk b1 2 1 (gA2 (d - cf) (a - ca)) 54), (32, .it b2 bM (mpP S) (mpP L) cur)])
    S.length ⟨S, none, 0, 0, rfl, by omega, by omega, rfl, rfl⟩ (tau []) ⟨rfl, (by repeat' (first | exact rfl | exact trivial | assumption | refine ⟨?_, ?_⟩)), ⟨rfl, rfl, rfl, rfl, fun i c hi hc => ?_⟩, ⟨rfl, rfl, rfl, rfl, fun i c hi hc => ?_⟩, ⟨rfl, rfl, rfl, rfl, rfl⟩, trivial⟩ 40 ?_
  · have hc : c < 1 := hc
    have hi : i < 2 := hi
    obtain rfl : c = 0 := by omega
    match i, hi with
    | 0, _ => exact ⟨rfl, rfl⟩
    | 1, _ => exact ⟨rfl, rfl⟩
  · have hc : c < 1 := hc
    have hi : i < 2 := hi
    obtain rfl : c = 0 := by omega
    match i, hi with
    | 0, _ => exact ⟨rfl, by simp⟩
    | 1, _ => exact ⟨rfl, by simp⟩
  rintro q σ h1 ⟨L, cur, cf, ca, rfl, hcf, hca, rfl, rfl⟩
  have hcl := cnt_le (b := false) (S := S)
  have hcl2 := cnt_le (b := true) (S := S)
  refine vc_sound hE 60 _ _ _ 40 ?_
  refine ⟨fun hL => ?_, fun i p hp => ?_⟩
  · obtain rfl : L = [] := by cases L with
      | nil => rfl
      | cons x l => simp [mpP] at hL
    have e1 : cf = cntP false S := by simpa [cntP] using hcf
    have e2 : ca = cntP true S := by simpa [cntP] using hca
    subst e1 e2
    rfl
  · obtain ⟨x, hx, rfl⟩ := mpP_at hp
    have k1 := cnt_erase (b := false) hx
    have k2 := cnt_erase (b := true) hx
    intro b3
    have hlen : (L.eraseIdx i).length < L.length := by
      have := (List.getElem?_eq_some_iff.1 hx).1
      rw [List.length_eraseIdx]; split <;> omega
    rw [mpP_erase]
    obtain ⟨xt, xn, xa, xw⟩ := x
    cases xa with
    | false =>
      rw [if_pos rfl] at k1
      rw [if_neg (by simp)] at k2
      refine ⟨false, rfl, ?_⟩
      have hw : IntKind.i64.wrap (d - (cf : Int) - 1) = d - ((cf + 1 : Nat) : Int) := by simp only [IntKind.wrap_i64]; omega
      refine ⟨(L.eraseIdx i).length, _, _, hlen, ⟨L.eraseIdx i, _, cf + 1, ca, rfl, by omega, by omega, rfl, rfl⟩, tau [], rfl, (by repeat' (first | exact rfl | exact trivial | assumption | refine ⟨?_, ?_⟩)), ⟨rfl, rfl, rfl, rfl, fun i c hi hc => ?_⟩, ⟨rfl, rfl, rfl, rfl, fun i c hi hc => ?_⟩, ⟨rfl, rfl, rfl, rfl, rfl⟩, trivial⟩
      · have hc : c < 1 := hc
        have hi : i < 2 := hi
        obtain rfl : c = 0 := by omega
        match i, hi with
        | 0, _ => exact ⟨rfl, rfl⟩
        | 1, _ => exact ⟨rfl, rfl⟩
      · have hc : c < 1 := hc
        have hi : i < 2 := hi
        obtain rfl : c = 0 := by omega
        match i, hi with
        | 0, _ => exact ⟨rfl, hw⟩
        | 1, _ => exact ⟨rfl, rfl⟩
    | true =>
      rw [if_neg (by simp)] at k1
      rw [if_pos rfl] at k2
      refine ⟨true, rfl, ?_⟩
      have hw : IntKind.i64.wrap (a - (ca : Int) - 1) = a - ((ca + 1 : Nat) : Int) := by simp only [IntKind.wrap_i64]; omega
      refine ⟨(L.eraseIdx i).length, _, _, hlen, ⟨L.eraseIdx i, _, cf, ca + 1, rfl, by omega, by omega, rfl, rfl⟩, tau [], rfl, (by repeat' (first | exact rfl | exact trivial | assumption | refine ⟨?_, ?_⟩)), ⟨rfl, rfl, rfl, rfl, fun i c hi hc => ?_⟩, ⟨rfl, rfl, rfl, rfl, fun i c hi hc => ?_⟩, ⟨rfl, rfl, rfl, rfl, rfl⟩, trivial⟩
      · have hc : c < 1 := hc
        have hi : i < 2 := hi
        obtain rfl : c = 0 := by omega
        match i, hi with
        | 0, _ => exact ⟨rfl, rfl⟩
        | 1, _ => exact ⟨rfl, rfl⟩
      · have hc : c < 1 := hc
        have hi : i < 2 := hi
        obtain rfl : c = 0 := by omega
        match i, hi with
        | 0, _ => exact ⟨rfl, rfl⟩
        | 1, _ => exact ⟨rfl, hw⟩
def sFree : Spec := fun args h nx K => ∃ (bT bM : Nat) (d a n : Int) (S : List Pl), args = [.ptr 8 0 0] ∧ TnR h bT bM d a n S ∧ (0 ≤ d ∧ d ≤ 64) ∧ (0 ≤ a ∧ a ≤ 64) ∧ S.length ≤ 1000 ∧ K (.ret (.tup [.int .i64 (d - cntP false S), .int .i64 (a - cntP true S)])) h nx
theorem TnR.again {bT bM : Nat} {d a n : Int} {S : List Pl} {rest : Hp} : TnR (HT bT bM d a n S ++ rest) bT bM d a n S := ⟨rfl, rfl⟩
theorem sFree_ok : SpecOK Try.prog 12 sFree := by
  refine specOK_read2 (fn := Try.f12) rfl rfl rfl T_ok (SP := [(28, sfree)]) (consSP sfree_ok noSP) 0 _ ?_
  rintro args h nx K ⟨bT, bM, d, a, n, S, rfl, H, hd, ha, hn, hk⟩
  refine ⟨_, _, H.told (rest := []) trivial, by simp [Try.f12], fun o => o = .ret (.tup [.int .i64 (d - cntP false S), .int .i64 (a - cntP true S)]), ?_, ?_⟩
  · rintro o rfl; exact ⟨⟨trivial, trivial, trivial⟩, hk⟩
  intro c hc
  have hE := mkE' (fn := Try.f12) (R := fun o _ _ => o = .ret (.tup [.int .i64 (d - cntP false S), .int .i64 (a - cntP true S)])) hc (consSP sfree_ok noSP)
  show W _ _ _ _ 30
  refine vc_sound hE 60 _ _ _ 30 ?_
  refine ⟨bT, bM, d, a, n, S, rfl, TnR.again (rest := []), hd, ha, hn, ?_⟩
  intro b
  refine W_planw hE 30 [] (.take 0 (.take 1 (.take 2 (.take 3 (.take 4 (.take 5 (.done))))))) (by rw [hc]; exact mix) (by kernel_rfl) 31 ?_
  iterate 6 (refine ⟨_, ⟨rfl, rfl⟩, ?_⟩)
  refine putS_some rfl ?_
  rfl
end Go.Proofs.Ytgcnknhfphgfnaa.Sx

/-
  Turns, written: come, and what is caught.
-/
namespace Go.Proofs.Ytgcnknhfphgfnaa.Sx
open Go Go.Proofs
set_option maxRecDepth 100000
set_option linter.unusedSimpArgs false
set_option linter.unusedVariables false

/-- A place put in: in the old one's stead, or last. -/
def setP (S : List Pl) (p : Pl) : List Pl := if hasP S p.t = true then S.modify (S.findIdx fun q => q.t == p.t) (fun _ => p) else S ++ [p]
def delP (S : List Pl) (t : Int) : List Pl := S.eraseIdx (S.findIdx fun q => q.t == t)
theorem mput_P {S : List Pl} {p : Pl} : mput (mpP S) p.t (plV p) = mpP (setP S p) := by
  unfold mput setP
  rw [mfind_P]
  have hh := findIdx_has (S := S) (t := p.t)
  cases e : S.findIdx? fun q => q.t == p.t with
  | none =>
    rw [e] at hh
    rw [if_neg (by rw [← hh]; simp)]
    unfold mpP
    simp
  | some j =>
    rw [e] at hh
    rw [if_pos (by rw [← hh]; rfl)]
    obtain ⟨hj, hp, hq⟩ := List.findIdx?_eq_some_iff_getElem.1 e
    have hj2 : S.findIdx (fun q => q.t == p.t) = j := by
      rw [List.findIdx_eq hj]
      exact ⟨hp, fun i hi => by simpa using hq i hi⟩
    rw [hj2]
    unfold mpP
    simp only [Option.map_some, Nat.zero_add]
    refine List.ext_getElem? fun i => ?_
    simp only [List.getElem?_modify, List.getElem?_map]
    by_cases q : j = i
    · subst q
      simp only [if_pos rfl, List.getElem?_eq_getElem hj, Option.map_some]
      have : S[j].t = p.t := by simpa using hp
      rw [this]
      simp
    · simp only [if_neg q]
      cases S[i]? <;> rfl
theorem mdel_P {S : List Pl} {t : Int} : mdel (mpP S) t = mpP (delP S t) := by
  unfold mdel delP
  rw [mfind_P]
  cases e : S.findIdx? fun q => q.t == t with
  | none =>
    have := List.findIdx?_eq_none_iff.1 e
    rw [List.findIdx_eq_length.2 (by simpa using this), List.eraseIdx_of_length_le (Nat.le_refl _)]
    rfl
  | some j =>
    obtain ⟨hj, hp, hq⟩ := List.findIdx?_eq_some_iff_getElem.1 e
    have hj2 : S.findIdx (fun q => q.t == t) = j := by
      rw [List.findIdx_eq hj]
      exact ⟨hp, fun i hi => by simpa using hq i hi⟩
    simp only [Option.map_some, Nat.zero_add]
    rw [mpP_erase, hj2]
/-- Turns lie at the tag 8, and may be written. -/
structure TnW (h : Hp) (bT bM : Nat) (d a n : Int) (S : List Pl) : Prop where
  str : fd 8 h = .blk bT 1 4 (gTn d a n) 56
  map : fd 9 h = .mp bM (mpP S)
theorem TnW.rd {h : Hp} {bT bM : Nat} {d a n : Int} {S : List Pl} (H : TnW h bT bM d a n S) : TnR h bT bM d a n S := ⟨by rw [fd_roH, H.str]; rfl, by rw [fd_roH, H.map]; rfl⟩
/-- But for these, all is as it was. -/
def Keep (lo : Nat) (h h' : Hp) : Prop := ∀ t, t ≠ 8 → t ≠ 9 → (t < lo ∨ 80 ≤ t) → fd t h' = fd t h
theorem Keep.cons {lo : Nat} {h h' : Hp} (H : Keep lo h h') {t : Nat} {e : Ent} (ht : t = 8 ∨ t = 9 ∨ (lo ≤ t ∧ t < 80)) : Keep lo h ((t, e) :: h') := fun u h8 h9 hu => by
  rw [fd_cons, if_neg (by omega)]
  exact H u h8 h9 hu
theorem Keep.of {lo : Nat} {h h' : Hp} (H : ∀ u, fd u h' = fd u h) : Keep lo h h' := fun u _ _ _ => H u
theorem Keep.trans {lo lo' : Nat} {h h' h'' : Hp} (H : Keep lo h h') (H' : Keep lo' h' h'') (hl : lo ≤ lo') : Keep lo h h'' := fun u h8 h9 hu => (H' u h8 h9 (by omega)).trans (H u h8 h9 hu)
/-- The scratch tags that a call takes. -/
def Gone (lo : Nat) (h : Hp) : Prop := ∀ t, lo ≤ t → t < 80 → fd t h = .gone
theorem ext_keep {lo : Nat} {h h' : Hp} (hg : Gone lo h) (hk : Keep lo h h') (h8 : (fd 8 h').rf = (fd 8 h).rf) (h9 : (fd 9 h').rf = (fd 9 h).rf) : Ext h h' := fun t r e => by
  by_cases q8 : t = 8
  · subst q8; rw [h8]; exact e
  by_cases q9 : t = 9
  · subst q9; rw [h9]; exact e
  by_cases q : lo ≤ t ∧ t < 80
  · rw [hg t q.1 q.2] at e; cases e
  · rw [hk t q8 q9 (by omega)]; exact e
theorem Rel.cells {c : Cx} {h : Hp} {w : World} {t b n sz : Nat} {g g' : Nat → Nat → V} {ty : TypeId} (hg : ∀ i k, i < n → k < sz → g i k = g' i k) (hr : Rel c ((t, .blk b n sz g ty) :: h) w) : Rel c ((t, .blk b n sz g' ty) :: h) w := by
  have hx : Ext ((t, .blk b n sz g ty) :: h) ((t, .blk b n sz g' ty) :: h) := fun u r e => by
    rw [fd_cons] at e ⊢
    split
    · rename_i hu; rw [if_pos hu] at e; exact e
    · rename_i hu; rw [if_neg hu] at e; exact e
  refine ⟨hr.fr, fun u => ?_, fun u u' hne => ?_, hr.tabs⟩
  · have H := hr.holds u
    rw [fd_cons] at H ⊢
    split
    · rename_i hu
      rw [if_pos hu] at H
      obtain ⟨⟨cs, c1, c2, c3⟩, c4⟩ := H
      exact ⟨⟨cs, c1, c2, fun i k hi hk => let ⟨x, ex, rx⟩ := c3 i k hi hk; ⟨x, ex, vrel_mono hx _ _ (by rw [← hg i k hi hk]; exact rx)⟩⟩, c4⟩
    · rename_i hu
      rw [if_neg hu] at H
      exact Ent.holds_heap hx (fun _ _ => rfl) H
  · have H := hr.apart u u' hne
    have ha : ∀ v, (fd v ((t, .blk b n sz g' ty) :: h)).at = (fd v ((t, .blk b n sz g ty) :: h)).at := fun v => by
      rw [fd_cons, fd_cons]; split <;> rfl
    exact Ent.apart_of fun x y e1 e2 => Ent.apart_at H ((ha u).symm.trans e1) ((ha u').symm.trans e2)
theorem W_cells {E : Env} {k : List It} {σ : Sl} {h : Hp} {nx nx' : Nat} {t b n sz : Nat} {g g' : Nat → Nat → V} {ty : TypeId} (hg : ∀ i k, i < n → k < sz → g i k = g' i k) (H : W E k σ ((t, .blk b n sz g' ty) :: h) nx') : W E k σ ((t, .blk b n sz g ty) :: h) nx := fun a w hm => by
  have hx : Ext ((t, .blk b n sz g ty) :: h) ((t, .blk b n sz g' ty) :: h) := fun u r e => by
    rw [fd_cons] at e ⊢
    split
    · rename_i hu; rw [if_pos hu] at e; exact e
    · rename_i hu; rw [if_neg hu] at e; exact e
  exact H a w ⟨hm.size, fun t v e => vrel_mono hx _ _ (hm.slots t v e), hm.calm, hm.rel.cells hg⟩
def frI (d a : Int) (S : List Pl) (b : Bool) : Int := if b = true then a - cntP true S else d - cntP false S
structure Bnd (d a n : Int) (S : List Pl) : Prop where
  d : 0 ≤ d ∧ d ≤ 64
  a : 0 ≤ a ∧ a ≤ 64
  n : 0 ≤ n ∧ n ≤ 1000000
  len : S.length ≤ 1000
def sCome : Spec := fun args h nx K => ∃ (bT bM : Nat) (d a n : Int) (S : List Pl) (p : Pl), args = [.ptr 8 0 0, plV p] ∧ TnW h bT bM d a n S ∧ Bnd d a n S ∧ Gone 70 h ∧
  (frI d a S p.a > 0 → ∀ h', Ext h h' → Keep 70 h h' → TnW h' bT bM d a (n + 1) (setP S { p with n := n + 1 }) → K (.ret (.tup [])) h' nx) ∧
  (¬ frI d a S p.a > 0 → ∀ h', Ext h h' → Keep 70 h h' → TnW h' bT bM d a n S → K (.pan (ref 2)) h' nx)
theorem sCome_ok : SpecOK Try.prog 35 sCome := specOK_imp (inlx_ok (fn := Try.f35) rfl rfl rfl T_ok (SP := [(28, sfree), (42, sRow), (34, sMust)]) (consSP sfree_ok (consSP sRow_ok (consSP sMust_ok noSP)))) <| by
  rintro args h nx K ⟨bT, bM, d, a, n, S, p, rfl, H, hB, hg, hk1, hk2⟩
  refine ⟨by simp [Try.f35], fun c hc => ?_⟩
  have hE := mkE' (fn := Try.f35) (R := fun o h' _ => Ext h h' ∧ ∃ m, K o h' m) hc (consSP sfree_ok (consSP sRow_ok (consSP sMust_ok noSP)))
  have heq : ∀ u, fd u ((8, .blk bT 1 4 (gTn d a n) 56) :: (9, .mp bM (mpP S)) :: (70, .gone) :: h) = fd u h := fdeq_cons2 H.str (fdeq_cons2 H.map (fdeq_cons (hg 70 (by decide) (by decide))))
  obtain ⟨pt, pn, pa, pw⟩ := p
  have hw : IntKind.i64.wrap (n + 1) = n + 1 := by have := hB.n; simp only [IntKind.wrap_i64]; omega
  refine W_fdeq (nx' := 70) heq ?_
  cases pa with
  | false =>
    refine vc_sound hE 60 _ _ _ 70 ?_
    intro b
    refine W_planw hE 70 [7] (.take 0 (.take 1 (.take 2 (.take 3 (.take 4 (.take 5 (.take 6 (.all (.cons 7 .done .nil))))))))) (by rw [hc]; exact mix) (by kernel_rfl) 60 ?_
    refine ⟨_, ⟨rfl, rfl⟩, ?_⟩
    refine ⟨_, ⟨bT, bM, d, a, n, S, rfl, ⟨rfl, rfl⟩, hB.d, hB.a, hB.len, rfl, rfl⟩, ?_⟩
    iterate 2 (refine ⟨_, ⟨rfl, rfl⟩, ?_⟩)
    refine ⟨_, ⟨false, rfl, rfl, rfl⟩, ?_⟩
    iterate 2 (refine ⟨_, ⟨rfl, rfl⟩, ?_⟩)
    refine putS_some rfl ?_
    refine ⟨⟨trivial, ?_⟩, trivial⟩
    refine ⟨decide (0 < d - (cntP false S : Int)), 2, rfl, fun e => ?_, fun e => ?_⟩
    · refine putS_some rfl ?_
      refine W_fdeq (nx := 75) (nx' := 75) (fdeq_cons (t := 8) rfl) ?_
      refine W_cells (g' := gTn d a (n + 1)) (nx' := 75) ?_ ?_
      · intro i k hi hk
        obtain rfl : i = 0 := by omega
        match k, hk with
        | 0, _ => rfl
        | 1, _ => rfl
        | 2, _ => rfl
        | 3, _ => exact congrArg (V.int .i64) hw
      refine W_planw hE 75 [7] (.take 0 (.take 1 (.take 2 (.take 3 (.take 4 (.take 5 (.take 6 (.all (.cons 7 .done .nil))))))))) (by rw [hc]; exact mix) (by kernel_rfl) 60 ?_
      iterate 7 (refine ⟨_, ⟨rfl, rfl⟩, ?_⟩)
      refine putS_some rfl ?_
      refine ⟨⟨trivial, ?_⟩, trivial⟩
      have hf : frI d a S false > 0 := by have := of_decide_eq_true e; simpa [frI] using this
      have kk := hk1 hf
      refine ⟨?_, nx, kk _ ?_ ?_ ⟨rfl, ?_⟩⟩
      · exact ext_keep hg (by repeat' (first | exact Keep.of (fun _ => rfl) | refine Keep.cons ?_ (by omega))) (by rw [H.str]; rfl) (by rw [H.map]; rfl)
      · exact ext_keep hg (by repeat' (first | exact Keep.of (fun _ => rfl) | refine Keep.cons ?_ (by omega))) (by rw [H.str]; rfl) (by rw [H.map]; rfl)
      · exact (by repeat' (first | exact Keep.of (fun _ => rfl) | refine Keep.cons ?_ (by omega)))
      · show Ent.mp bM _ = _
        rw [hw]
        exact congrArg _ (mput_P (p := ⟨pt, n + 1, false, pw⟩))
    · have hf : ¬ frI d a S false > 0 := by have := of_decide_eq_false e; simpa [frI] using this
      have kk := hk2 hf
      exact ⟨ext_keep hg (by repeat' (first | exact Keep.of (fun _ => rfl) | refine Keep.cons ?_ (by omega))) (by rw [H.str]; rfl) (by rw [H.map]; rfl), nx, kk _ (ext_keep hg (by repeat' (first | exact Keep.of (fun _ => rfl) | refine Keep.cons ?_ (by omega))) (by rw [H.str]; rfl) (by rw [H.map]; rfl)) (by repeat' (first | exact Keep.of (fun _ => rfl) | refine Keep.cons ?_ (by omega))) ⟨rfl, rfl⟩⟩
  | true =>
    refine vc_sound hE 60 _ _ _ 70 ?_
    intro b
    refine W_planw hE 70 [7] (.take 0 (.take 1 (.take 2 (.take 3 (.take 4 (.take 5 (.take 6 (.all (.cons 7 .done .nil))))))))) (by rw [hc]; exact mix) (by kernel_rfl) 60 ?_
    refine ⟨_, ⟨rfl, rfl⟩, ?_⟩
    refine ⟨_, ⟨bT, bM, d, a, n, S, rfl, ⟨rfl, rfl⟩, hB.d, hB.a, hB.len, rfl, rfl⟩, ?_⟩
    iterate 2 (refine ⟨_, ⟨rfl, rfl⟩, ?_⟩)
    refine ⟨_, ⟨true, rfl, rfl, rfl⟩, ?_⟩
    iterate 2 (refine ⟨_, ⟨rfl, rfl⟩, ?_⟩)
    refine putS_some rfl ?_
    refine ⟨⟨trivial, ?_⟩, trivial⟩
    refine ⟨decide (0 < a - (cntP true S : Int)), 2, rfl, fun e => ?_, fun e => ?_⟩
    · refine putS_some rfl ?_
      refine W_fdeq (nx := 75) (nx' := 75) (fdeq_cons (t := 8) rfl) ?_
      refine W_cells (g' := gTn d a (n + 1)) (nx' := 75) ?_ ?_
      · intro i k hi hk
        obtain rfl : i = 0 := by omega
        match k, hk with
        | 0, _ => rfl
        | 1, _ => rfl
        | 2, _ => rfl
        | 3, _ => exact congrArg (V.int .i64) hw
      refine W_planw hE 75 [7] (.take 0 (.take 1 (.take 2 (.take 3 (.take 4 (.take 5 (.take 6 (.all (.cons 7 .done .nil))))))))) (by rw [hc]; exact mix) (by kernel_rfl) 60 ?_
      iterate 7 (refine ⟨_, ⟨rfl, rfl⟩, ?_⟩)
      refine putS_some rfl ?_
      refine ⟨⟨trivial, ?_⟩, trivial⟩
      have hf : frI d a S true > 0 := by have := of_decide_eq_true e; simpa [frI] using this
      have kk := hk1 hf
      refine ⟨?_, nx, kk _ ?_ ?_ ⟨rfl, ?_⟩⟩
      · exact ext_keep hg (by repeat' (first | exact Keep.of (fun _ => rfl) | refine Keep.cons ?_ (by omega))) (by rw [H.str]; rfl) (by rw [H.map]; rfl)
      · exact ext_keep hg (by repeat' (first | exact Keep.of (fun _ => rfl) | refine Keep.cons ?_ (by omega))) (by rw [H.str]; rfl) (by rw [H.map]; rfl)
      · exact (by repeat' (first | exact Keep.of (fun _ => rfl) | refine Keep.cons ?_ (by omega)))
      · show Ent.mp bM _ = _
        rw [hw]
        exact congrArg _ (mput_P (p := ⟨pt, n + 1, true, pw⟩))
    · have hf : ¬ frI d a S true > 0 := by have := of_decide_eq_false e; simpa [frI] using this
      have kk := hk2 hf
      exact ⟨ext_keep hg (by repeat' (first | exact Keep.of (fun _ => rfl) | refine Keep.cons ?_ (by omega))) (by rw [H.str]; rfl) (by rw [H.map]; rfl), nx, kk _ (ext_keep hg (by repeat' (first | exact Keep.of (fun _ => rfl) | refine Keep.cons ?_ (by omega))) (by rw [H.str]; rfl) (by rw [H.map]; rfl)) (by repeat' (first | exact Keep.of (fun _ => rfl) | refine Keep.cons ?_ (by omega))) ⟨rfl, rfl⟩⟩
end Go.Proofs.Ytgcnknhfphgfnaa.Sx

/-
  Put, wait, Promote, End: what is caught, and what it comes to.
-/
namespace Go.Proofs.Ytgcnknhfphgfnaa.Sx
open Go Go.Proofs
set_option maxRecDepth 100000
set_option linter.unusedSimpArgs false
set_option linter.unusedVariables false

/-- What a call comes to: its code, the last turn, and the places. -/
structure Res where
  e : Int
  n : Int
  S : List Pl
def putR (d a n : Int) (S : List Pl) (t : Int) (ah : Bool) : Res :=
  if t < 1 then ⟨1, n, S⟩ else if hasP S t = true then ⟨4, n, S⟩ else if frI d a S ah > 0 then ⟨0, n + 1, setP S ⟨t, n + 1, ah, true⟩⟩ else ⟨2, n, S⟩
def waitR (n : Int) (S : List Pl) (t : Int) (wt : Bool) : Res :=
  if hasP S t = true then (if (getP S t).w = wt then ⟨5, n, S⟩ else ⟨0, n, setP S { getP S t with t := t, w := wt }⟩) else ⟨3, n, S⟩
def promR (d a n : Int) (S : List Pl) (t : Int) : Res :=
  if hasP S t = true then (if (getP S t).a = true then (if frI d a S false > 0 then ⟨0, n + 1, setP S { getP S t with n := n + 1, a := false }⟩ else ⟨2, n, S⟩) else ⟨5, n, S⟩) else ⟨3, n, S⟩
def endR (n : Int) (S : List Pl) (t : Int) : Res := if hasP S t = true then ⟨0, n, delP S (getP S t).t⟩ else ⟨3, n, S⟩
def outR (e : Int) : Out := if e = 0 then .ret (.tup []) else .pan (ref e)
/-- What is known behind a call. -/
def Aft (lo : Nat) (h : Hp) (bT bM : Nat) (d a : Int) (r : Res) (o : Out) (K : Out → Hp → Nat → Prop) (nx : Nat) : Prop := ∀ h', Ext h h' → Keep lo h h' → TnW h' bT bM d a r.n r.S → K o h' nx
/-- A variable that a closure captures. -/
abbrev box1 (b : Nat) (v : V) (ty : TypeId) : Ent := .blk b 1 1 (gOf 1 [v]) ty
theorem Gone.cons {lo : Nat} {h : Hp} (H : Gone lo h) {t : Nat} {e : Ent} (ht : t < lo ∨ 80 ≤ t) : Gone lo ((t, e) :: h) := fun u h1 h2 => by
  rw [fd_cons, if_neg (by omega)]
  exact H u h1 h2
def sPutC : Spec := fun args h nx K => ∃ (bT bM b0 b1 b2 : Nat) (d a n : Int) (S : List Pl) (t : Int) (ah : Bool), args = [.ptr 61 0 0, .ptr 60 0 0, .ptr 62 0 0] ∧ TnW h bT bM d a n S ∧ Bnd d a n S ∧ Gone 64 h ∧
  fd 60 h = box1 b0 (.ptr 8 0 0) 24 ∧ fd 61 h = box1 b1 (.int .i64 t) 3 ∧ fd 62 h = box1 b2 (.bool ah) 4 ∧ Aft 64 h bT bM d a (putR d a n S t ah) (outR (putR d a n S t ah).e) K nx
theorem sPutC_ok : SpecOK Try.prog 33 sPutC := specOK_imp (inlx_ok (fn := Try.f33) rfl rfl rfl T_ok (SP := [(34, sMust), (35, sCome)]) (consSP sMust_ok (consSP sCome_ok noSP))) <| by
  rintro args h nx K ⟨bT, bM, b0, b1, b2, d, a, n, S, t, ah, rfl, H, hB, hg, h60, h61, h62, hk⟩
  refine ⟨by simp [Try.f33], fun c hc => ?_⟩
  have hE := mkE' (fn := Try.f33) (R := fun o h' _ => Ext h h' ∧ ∃ m, K o h' m) hc (consSP sMust_ok (consSP sCome_ok noSP))
  have heq : ∀ u, fd u ((8, .blk bT 1 4 (gTn d a n) 56) :: (9, .mp bM (mpP S)) :: (60, box1 b0 (.ptr 8 0 0) 24) :: (61, box1 b1 (.int .i64 t) 3) :: (62, box1 b2 (.bool ah) 4) :: (64, .gone) :: (65, .gone) :: h) = fd u h := fdeq_cons2 H.str (fdeq_cons2 H.map (fdeq_cons2 h60 (fdeq_cons2 h61 (fdeq_cons2 h62 (fdeq_cons2 (hg 64 (by decide) (by decide)) (fdeq_cons (hg 65 (by decide) (by decide))))))))
  have hfin : ∀ (h' : Hp) (o : Out) (n' : Int) (S' : List Pl), Keep 64 h h' → TnW h' bT bM d a n' S' → putR d a n S t ah = ⟨(match o with | .pan (.iface _ (.agg [.int _ e])) => e | _ => 0), n', S'⟩ → o = outR (putR d a n S t ah).e → Ext h h' ∧ ∃ m, K o h' m := fun h' o n' S' kp tn e1 e2 => by
    have hx : Ext h h' := ext_keep hg kp (by rw [H.str, tn.str]; rfl) (by rw [H.map, tn.map]; rfl)
    refine ⟨hx, nx, ?_⟩
    rw [e2]
    exact hk h' hx kp (by rw [e1]; exact tn)
  have k0 : Keep 64 h ((8, .blk bT 1 4 (gTn d a n) 56) :: (9, .mp bM (mpP S)) :: (60, box1 b0 (.ptr 8 0 0) 24) :: (61, box1 b1 (.int .i64 t) 3) :: (62, box1 b2 (.bool ah) 4) :: (64, .gone) :: (65, .gone) :: h) := Keep.of heq
  have g0 : Gone 70 ((8, .blk bT 1 4 (gTn d a n) 56) :: (9, .mp bM (mpP S)) :: (60, box1 b0 (.ptr 8 0 0) 24) :: (61, box1 b1 (.int .i64 t) 3) :: (62, box1 b2 (.bool ah) 4) :: (64, .gone) :: (65, .gone) :: h) := fun u h1 h2 => (heq u).trans (hg u (by omega) h2)
  refine W_fdeq (nx' := 64) heq ?_
  clear heq
  refine vc_sound hE 60 _ _ _ 64 ?_
  refine ⟨decide (1 ≤ t), 1, rfl, fun e => ?_, fun e => ?_⟩
  rotate_left
  · have e : ¬ 1 ≤ t := of_decide_eq_false e
    have er : putR d a n S t ah = ⟨1, n, S⟩ := by unfold putR; rw [if_pos (by omega)]
    exact hfin _ _ n S k0 ⟨rfl, rfl⟩ er (by rw [er]; rfl)
  have e : 1 ≤ t := of_decide_eq_true e
  refine W_planw hE 64 [10] (.take 0 (.take 1 (.take 2 (.take 3 (.take 4 (.take 5 (.take 6 (.take 7 (.take 8 (.all (.cons 9 (.all (.cons 10 (.take 11 (.done)) (.nil))) (.nil)))))))))))) (by rw [hc]; exact mix) (by kernel_rfl) 60 ?_
  iterate 5 (refine ⟨_, ⟨rfl, rfl⟩, ?_⟩)
  refine putS_some rfl ?_
  refine ⟨.tup [plV (getP S t), .bool (hasP S t)], fun v hv => ⟨by rw [getP_hv hv rfl, mhas_P], rfl⟩, ?_⟩
  iterate 3 (refine ⟨_, ⟨rfl, rfl⟩, ?_⟩)
  refine putS_some rfl ?_
  refine ⟨⟨fun b => trivial, fun b => ?_⟩, trivial⟩
  refine putS_some rfl ?_
  refine ⟨⟨trivial, ?_⟩, trivial⟩
  refine ⟨_, ⟨rfl, rfl⟩, ?_⟩
  refine putS_some rfl ?_
  refine ⟨!(hasP S t), 4, rfl, fun e4 => ?_, fun e4 => ?_⟩
  rotate_left
  · have e4 : hasP S t = true := by simpa using e4
    have er : putR d a n S t ah = ⟨4, n, S⟩ := by unfold putR; rw [if_neg (by omega), if_pos e4]
    exact hfin _ _ n S (by repeat' (first | exact Keep.of (fun _ => rfl) | exact k0 | refine Keep.cons ?_ (by omega))) ⟨rfl, rfl⟩ er (by rw [er]; rfl)
  have e4 : hasP S t = false := by simpa using e4
  refine ⟨bT, bM, d, a, n, S, ⟨t, 0, ah, true⟩, rfl, ⟨rfl, rfl⟩, hB, (by repeat' (first | exact g0 | refine Gone.cons ?_ (by omega))), fun hf h' hx hk' ht => ?_, fun hf h' hx hk' ht => ?_⟩
  · have er : putR d a n S t ah = ⟨0, n + 1, setP S ⟨t, n + 1, ah, true⟩⟩ := by unfold putR; rw [if_neg (by omega), if_neg (by simp [e4]), if_pos hf]
    exact hfin _ _ _ _ (Keep.trans (by repeat' (first | exact Keep.of (fun _ => rfl) | exact k0 | refine Keep.cons ?_ (by omega))) hk' (by decide)) ht er (by rw [er]; rfl)
  · have er : putR d a n S t ah = ⟨2, n, S⟩ := by unfold putR; rw [if_neg (by omega), if_neg (by simp [e4]), if_neg hf]
    exact hfin _ _ _ _ (Keep.trans (by repeat' (first | exact Keep.of (fun _ => rfl) | exact k0 | refine Keep.cons ?_ (by omega))) hk' (by decide)) ht er (by rw [er]; rfl)
end Go.Proofs.Ytgcnknhfphgfnaa.Sx

/-
  What is caught of wait, Promote and End.
-/
namespace Go.Proofs.Ytgcnknhfphgfnaa.Sx
open Go Go.Proofs
set_option maxRecDepth 100000
set_option linter.unusedSimpArgs false
set_option linter.unusedVariables false

theorem getP_t {S : List Pl} {t : Int} (h : hasP S t = true) : (getP S t).t = t := by
  unfold hasP at h
  obtain ⟨p, hp, ht⟩ := List.any_eq_true.1 h
  unfold getP
  cases e : S.find? (fun p => p.t == t) with
  | none => exact absurd ht (by simpa using List.find?_eq_none.1 e p hp)
  | some q => simpa using List.find?_some e
def sWaitC : Spec := fun args h nx K => ∃ (bT bM b0 b1 b2 : Nat) (d a n : Int) (S : List Pl) (t : Int) (wt : Bool), args = [.ptr 60 0 0, .ptr 61 0 0, .ptr 62 0 0] ∧ TnW h bT bM d a n S ∧ Bnd d a n S ∧ Gone 64 h ∧
  fd 60 h = box1 b0 (.ptr 8 0 0) 24 ∧ fd 61 h = box1 b1 (.int .i64 t) 3 ∧ fd 62 h = box1 b2 (.bool wt) 4 ∧ Aft 64 h bT bM d a (waitR n S t wt) (outR (waitR n S t wt).e) K nx
theorem sWaitC_ok : SpecOK Try.prog 45 sWaitC := specOK_imp (inlx_ok (fn := Try.f45) rfl rfl rfl T_ok (SP := [(34, sMust), (37, sGot)]) (consSP sMust_ok (consSP sGot_ok noSP))) <| by
  rintro args h nx K ⟨bT, bM, b0, b1, b2, d, a, n, S, t, wt, rfl, H, hB, hg, h60, h61, h62, hk⟩
  refine ⟨by simp [Try.f45], fun c hc => ?_⟩
  have hE := mkE' (fn := Try.f45) (R := fun o h' _ => Ext h h' ∧ ∃ m, K o h' m) hc (consSP sMust_ok (consSP sGot_ok noSP))
  have heq : ∀ u, fd u ((8, .blk bT 1 4 (gTn d a n) 56) :: (9, .mp bM (mpP S)) :: (60, box1 b0 (.ptr 8 0 0) 24) :: (61, box1 b1 (.int .i64 t) 3) :: (62, box1 b2 (.bool wt) 4) :: (64, .gone) :: (65, .gone) :: h) = fd u h := fdeq_cons2 H.str (fdeq_cons2 H.map (fdeq_cons2 h60 (fdeq_cons2 h61 (fdeq_cons2 h62 (fdeq_cons2 (hg 64 (by decide) (by decide)) (fdeq_cons (hg 65 (by decide) (by decide))))))))
  have hfin : ∀ (h' : Hp) (o : Out) (n' : Int) (S' : List Pl) (e' : Int), Keep 64 h h' → TnW h' bT bM d a n' S' → waitR n S t wt = ⟨e', n', S'⟩ → o = outR e' → Ext h h' ∧ ∃ m, K o h' m := fun h' o n' S' e' kp tn e1 e2 => by
    have hx : Ext h h' := ext_keep hg kp (by rw [H.str, tn.str]; rfl) (by rw [H.map, tn.map]; rfl)
    refine ⟨hx, nx, ?_⟩
    rw [e1] at hk
    rw [e2]
    exact hk h' hx kp tn
  have k0 : Keep 64 h ((8, .blk bT 1 4 (gTn d a n) 56) :: (9, .mp bM (mpP S)) :: (60, box1 b0 (.ptr 8 0 0) 24) :: (61, box1 b1 (.int .i64 t) 3) :: (62, box1 b2 (.bool wt) 4) :: (64, .gone) :: (65, .gone) :: h) := Keep.of heq
  refine W_fdeq (nx' := 64) heq ?_
  clear heq
  refine vc_sound hE 60 _ _ _ 64 ?_
  refine ⟨bT, bM, d, a, n, S, t, rfl, ⟨rfl, rfl⟩, fun e => ?_, fun e => ?_⟩
  rotate_left
  · have er : waitR n S t wt = ⟨3, n, S⟩ := by unfold waitR; rw [if_neg (by simp [e])]
    exact hfin _ _ n S 3 (by repeat' (first | exact k0 | refine Keep.cons ?_ (by omega))) ⟨rfl, rfl⟩ er rfl
  intro b
  generalize hp : getP S t = p
  obtain ⟨pt, pn, pa, pw⟩ := p
  have hpt : pt = t := by have := getP_t e; rw [hp] at this; exact this
  subst hpt
  refine ⟨!(pw == wt), 5, rfl, fun e5 => ?_, fun e5 => ?_⟩
  rotate_left
  · have e5 : pw = wt := by simpa using e5
    have er : waitR n S pt wt = ⟨5, n, S⟩ := by unfold waitR; rw [if_pos e, hp, if_pos e5]
    exact hfin _ _ n S 5 (by repeat' (first | exact k0 | refine Keep.cons ?_ (by omega))) ⟨rfl, rfl⟩ er rfl
  have e5 : ¬ pw = wt := by simpa using e5
  have er : waitR n S pt wt = ⟨0, n, setP S ⟨pt, pn, pa, wt⟩⟩ := by unfold waitR; rw [if_pos e, hp, if_neg e5]
  refine W_planw hE 65 [6] (.take 0 (.take 1 (.take 2 (.take 3 (.take 4 (.take 5 (.all (.cons 6 (.done) (.nil))))))))) (by rw [hc]; exact mix) (by kernel_rfl) 60 ?_
  iterate 6 (refine ⟨_, ⟨rfl, rfl⟩, ?_⟩)
  refine putS_some rfl ?_
  refine ⟨⟨trivial, ?_⟩, trivial⟩
  refine hfin _ _ _ _ 0 (by repeat' (first | exact k0 | refine Keep.cons ?_ (by omega))) ⟨rfl, ?_⟩ er rfl
  show Ent.mp bM _ = _
  exact congrArg _ (mput_P (p := ⟨pt, pn, pa, wt⟩))
def sPromC : Spec := fun args h nx K => ∃ (bT bM b0 b1 : Nat) (d a n : Int) (S : List Pl) (t : Int), args = [.ptr 60 0 0, .ptr 61 0 0] ∧ TnW h bT bM d a n S ∧ Bnd d a n S ∧ Gone 64 h ∧
  fd 60 h = box1 b0 (.ptr 8 0 0) 24 ∧ fd 61 h = box1 b1 (.int .i64 t) 3 ∧ Aft 64 h bT bM d a (promR d a n S t) (outR (promR d a n S t).e) K nx
theorem sPromC_ok : SpecOK Try.prog 36 sPromC := specOK_imp (inlx_ok (fn := Try.f36) rfl rfl rfl T_ok (SP := [(34, sMust), (37, sGot), (35, sCome)]) (consSP sMust_ok (consSP sGot_ok (consSP sCome_ok noSP)))) <| by
  rintro args h nx K ⟨bT, bM, b0, b1, d, a, n, S, t, rfl, H, hB, hg, h60, h61, hk⟩
  refine ⟨by simp [Try.f36], fun c hc => ?_⟩
  have hE := mkE' (fn := Try.f36) (R := fun o h' _ => Ext h h' ∧ ∃ m, K o h' m) hc (consSP sMust_ok (consSP sGot_ok (consSP sCome_ok noSP)))
  have heq : ∀ u, fd u ((8, .blk bT 1 4 (gTn d a n) 56) :: (9, .mp bM (mpP S)) :: (60, box1 b0 (.ptr 8 0 0) 24) :: (61, box1 b1 (.int .i64 t) 3) :: (64, .gone) :: (65, .gone) :: h) = fd u h := fdeq_cons2 H.str (fdeq_cons2 H.map (fdeq_cons2 h60 (fdeq_cons2 h61 (fdeq_cons2 (hg 64 (by decide) (by decide)) (fdeq_cons (hg 65 (by decide) (by decide)))))))
  have hfin : ∀ (h' : Hp) (o : Out) (n' : Int) (S' : List Pl) (e' : Int), Keep 64 h h' → TnW h' bT bM d a n' S' → promR d a n S t = ⟨e', n', S'⟩ → o = outR e' → Ext h h' ∧ ∃ m, K o h' m := fun h' o n' S' e' kp tn e1 e2 => by
    have hx : Ext h h' := ext_keep hg kp (by rw [H.str, tn.str]; rfl) (by rw [H.map, tn.map]; rfl)
    refine ⟨hx, nx, ?_⟩
    rw [e1] at hk
    rw [e2]
    exact hk h' hx kp tn
  have k0 : Keep 64 h ((8, .blk bT 1 4 (gTn d a n) 56) :: (9, .mp bM (mpP S)) :: (60, box1 b0 (.ptr 8 0 0) 24) :: (61, box1 b1 (.int .i64 t) 3) :: (64, .gone) :: (65, .gone) :: h) := Keep.of heq
  have g0 : Gone 70 ((8, .blk bT 1 4 (gTn d a n) 56) :: (9, .mp bM (mpP S)) :: (60, box1 b0 (.ptr 8 0 0) 24) :: (61, box1 b1 (.int .i64 t) 3) :: (64, .gone) :: (65, .gone) :: h) := fun u h1 h2 => (heq u).trans (hg u (by omega) h2)
  refine W_fdeq (nx' := 64) heq ?_
  clear heq
  refine vc_sound hE 60 _ _ _ 64 ?_
  refine ⟨bT, bM, d, a, n, S, t, rfl, ⟨rfl, rfl⟩, fun e => ?_, fun e => ?_⟩
  rotate_left
  · have er : promR d a n S t = ⟨3, n, S⟩ := by unfold promR; rw [if_neg (by simp [e])]
    exact hfin _ _ n S 3 (by repeat' (first | exact k0 | refine Keep.cons ?_ (by omega))) ⟨rfl, rfl⟩ er rfl
  intro b
  generalize hp : getP S t = p
  obtain ⟨pt, pn, pa, pw⟩ := p
  have hpt : pt = t := by have := getP_t e; rw [hp] at this; exact this
  subst hpt
  refine ⟨pa, 5, rfl, fun e5 => ?_, fun e5 => ?_⟩
  rotate_left
  · have er : promR d a n S pt = ⟨5, n, S⟩ := by unfold promR; rw [if_pos e, hp, if_neg (by simp [e5])]
    exact hfin _ _ n S 5 (by repeat' (first | exact k0 | refine Keep.cons ?_ (by omega))) ⟨rfl, rfl⟩ er rfl
  refine ⟨bT, bM, d, a, n, S, ⟨pt, pn, false, pw⟩, rfl, ⟨rfl, rfl⟩, hB, (by repeat' (first | exact g0 | refine Gone.cons ?_ (by omega))), fun hf h' hx hk' ht => ?_, fun hf h' hx hk' ht => ?_⟩
  · have er : promR d a n S pt = ⟨0, n + 1, setP S ⟨pt, n + 1, false, pw⟩⟩ := by unfold promR; rw [if_pos e, hp, if_pos e5, if_pos hf]
    exact hfin _ _ _ _ 0 (Keep.trans (by repeat' (first | exact k0 | refine Keep.cons ?_ (by omega))) hk' (by decide)) ht er rfl
  · have er : promR d a n S pt = ⟨2, n, S⟩ := by unfold promR; rw [if_pos e, hp, if_pos e5, if_neg hf]
    exact hfin _ _ _ _ 2 (Keep.trans (by repeat' (first | exact k0 | refine Keep.cons ?_ (by omega))) hk' (by decide)) ht er rfl
def sEndC : Spec := fun args h nx K => ∃ (bT bM b0 b1 : Nat) (d a n : Int) (S : List Pl) (t : Int), args = [.ptr 60 0 0, .ptr 61 0 0] ∧ TnW h bT bM d a n S ∧ Bnd d a n S ∧ Gone 64 h ∧
  fd 60 h = box1 b0 (.ptr 8 0 0) 24 ∧ fd 61 h = box1 b1 (.int .i64 t) 3 ∧ Aft 64 h bT bM d a (endR n S t) (outR (endR n S t).e) K nx
theorem sEndC_ok : SpecOK Try.prog 39 sEndC := specOK_imp (inlx_ok (fn := Try.f39) rfl rfl rfl T_ok (SP := [(37, sGot)]) (consSP sGot_ok noSP)) <| by
  rintro args h nx K ⟨bT, bM, b0, b1, d, a, n, S, t, rfl, H, hB, hg, h60, h61, hk⟩
  refine ⟨by simp [Try.f39], fun c hc => ?_⟩
  have hE := mkE' (fn := Try.f39) (R := fun o h' _ => Ext h h' ∧ ∃ m, K o h' m) hc (consSP sGot_ok noSP)
  have heq : ∀ u, fd u ((8, .blk bT 1 4 (gTn d a n) 56) :: (9, .mp bM (mpP S)) :: (60, box1 b0 (.ptr 8 0 0) 24) :: (61, box1 b1 (.int .i64 t) 3) :: (64, .gone) :: (65, .gone) :: h) = fd u h := fdeq_cons2 H.str (fdeq_cons2 H.map (fdeq_cons2 h60 (fdeq_cons2 h61 (fdeq_cons2 (hg 64 (by decide) (by decide)) (fdeq_cons (hg 65 (by decide) (by decide)))))))
  have hfin : ∀ (h' : Hp) (o : Out) (n' : Int) (S' : List Pl) (e' : Int), Keep 64 h h' → TnW h' bT bM d a n' S' → endR n S t = ⟨e', n', S'⟩ → o = outR e' → Ext h h' ∧ ∃ m, K o h' m := fun h' o n' S' e' kp tn e1 e2 => by
    have hx : Ext h h' := ext_keep hg kp (by rw [H.str, tn.str]; rfl) (by rw [H.map, tn.map]; rfl)
    refine ⟨hx, nx, ?_⟩
    rw [e1] at hk
    rw [e2]
    exact hk h' hx kp tn
  have k0 : Keep 64 h ((8, .blk bT 1 4 (gTn d a n) 56) :: (9, .mp bM (mpP S)) :: (60, box1 b0 (.ptr 8 0 0) 24) :: (61, box1 b1 (.int .i64 t) 3) :: (64, .gone) :: (65, .gone) :: h) := Keep.of heq
  have g0 : Gone 70 ((8, .blk bT 1 4 (gTn d a n) 56) :: (9, .mp bM (mpP S)) :: (60, box1 b0 (.ptr 8 0 0) 24) :: (61, box1 b1 (.int .i64 t) 3) :: (64, .gone) :: (65, .gone) :: h) := fun u h1 h2 => (heq u).trans (hg u (by omega) h2)
  refine W_fdeq (nx' := 64) heq ?_
  clear heq
  by_cases e : hasP S t = true
  · have er : endR n S t = ⟨0, n, delP S (getP S t).t⟩ := by unfold endR; rw [if_pos e]
    refine W_planw hE 64 [8] (.take 0 (.take 1 (.take 2 (.take 3 (.take 4 (.take 5 (.take 6 (.take 7 (.all (.cons 8 (.done) (.nil))))))))))) (by rw [hc]; exact mix) (by kernel_rfl) 60 ?_
    iterate 6 (refine ⟨_, ⟨rfl, rfl⟩, ?_⟩)
    refine ⟨plV (getP S t), ⟨bT, bM, d, a, n, S, t, rfl, ⟨rfl, rfl⟩, fun _ => ⟨rfl, rfl⟩, fun q => absurd e (by rw [q]; simp)⟩, ?_⟩
    iterate 1 (refine ⟨_, ⟨rfl, rfl⟩, ?_⟩)
    refine putS_some rfl ?_
    refine ⟨⟨trivial, ?_⟩, trivial⟩
    refine hfin _ _ _ _ 0 (by repeat' (first | exact k0 | refine Keep.cons ?_ (by omega))) ⟨rfl, ?_⟩ er rfl
    show Ent.mp bM _ = _
    exact congrArg _ mdel_P
  · have e : hasP S t = false := by simpa using e
    have er : endR n S t = ⟨3, n, S⟩ := by unfold endR; rw [if_neg (by simp [e])]
    refine W_planw hE 64 [6, 8] (.take 4 (.take 5 (.all (.cons 0 (.all (.cons 1 (.take 2 (.all (.cons 3 (.all (.cons 6 (.all (.cons 7 (.all (.cons 8 (.done) (.nil))) (.nil))) (.nil))) (.cons 6 (.all (.cons 3 (.all (.cons 7 (.all (.cons 8 (.done) (.nil))) (.nil))) (.cons 7 (.all (.cons 3 (.all (.cons 8 (.done) (.nil))) (.nil))) (.nil)))) (.nil))))) (.cons 6 (.all (.cons 1 (.take 2 (.all (.cons 3 (.all (.cons 7 (.all (.cons 8 (.done) (.nil))) (.nil))) (.cons 7 (.all (.cons 3 (.all (.cons 8 (.done) (.nil))) (.nil))) (.nil))))) (.cons 7 (.all (.cons 1 (.take 2 (.all (.cons 3 (.all (.cons 8 (.done) (.nil))) (.nil)))) (.nil))) (.nil)))) (.nil)))) (.cons 6 (.all (.cons 0 (.all (.cons 1 (.take 2 (.all (.cons 3 (.all (.cons 7 (.all (.cons 8 (.done) (.nil))) (.nil))) (.cons 7 (.all (.cons 3 (.all (.cons 8 (.done) (.nil))) (.nil))) (.nil))))) (.cons 7 (.all (.cons 1 (.take 2 (.all (.cons 3 (.all (.cons 8 (.done) (.nil))) (.nil)))) (.nil))) (.nil)))) (.cons 7 (.all (.cons 0 (.all (.cons 1 (.take 2 (.all (.cons 3 (.all (.cons 8 (.done) (.nil))) (.nil)))) (.nil))) (.nil))) (.nil)))) (.nil)))))) (by rw [hc]; exact mix) (by kernel_rfl) 60 ?_
    have pan : ∀ (h' : Hp), h' = (8, .blk bT 1 4 (gTn d a n) 56) :: (9, .mp bM (mpP S)) :: (60, box1 b0 (.ptr 8 0 0) 24) :: (61, box1 b1 (.int .i64 t) 3) :: (64, .gone) :: (65, .gone) :: h → Ext h h' ∧ ∃ m, K (.pan (ref 3)) h' m := fun h' q => by
      subst q
      exact hfin _ _ n S 3 (by repeat' (first | exact k0 | refine Keep.cons ?_ (by omega))) ⟨rfl, rfl⟩ er rfl
    iterate 2 (refine ⟨_, ⟨rfl, rfl⟩, ?_⟩)
    refine putS_some rfl ?_
    refine ⟨⟨trivial, ?_⟩, ⟨trivial, ⟨bT, bM, d, a, n, S, t, rfl, ⟨rfl, rfl⟩, fun q => absurd q (by simp [e]), fun _ => pan _ rfl⟩⟩, trivial⟩
    refine ⟨⟨trivial, ?_⟩, ⟨trivial, ⟨bT, bM, d, a, n, S, t, rfl, ⟨rfl, rfl⟩, fun q => absurd q (by simp [e]), fun _ => pan _ rfl⟩⟩, trivial⟩
    refine ⟨_, ⟨rfl, rfl⟩, ?_⟩
    refine putS_some rfl ?_
    refine ⟨⟨trivial, ?_⟩, ⟨trivial, ⟨bT, bM, d, a, n, S, t, rfl, ⟨rfl, rfl⟩, fun q => absurd q (by simp [e]), fun _ => pan _ rfl⟩⟩, trivial⟩
    exact ⟨⟨trivial, ⟨bT, bM, d, a, n, S, t, rfl, ⟨rfl, rfl⟩, fun q => absurd q (by simp [e]), fun _ => pan _ rfl⟩⟩, trivial⟩
end Go.Proofs.Ytgcnknhfphgfnaa.Sx

/-
  The methods: Put, wait, Start, Again, Promote, End, New.
-/
namespace Go.Proofs.Ytgcnknhfphgfnaa.Sx
open Go Go.Proofs
set_option maxRecDepth 100000
set_option linter.unusedSimpArgs false
set_option linter.unusedVariables false

/-- Turns as they lie, with what lies beside them. -/
abbrev HTW (bT bM : Nat) (d a n : Int) (S : List Pl) (h : Hp) : Hp := (8, .blk bT 1 4 (gTn d a n) 56) :: (9, .mp bM (mpP S)) :: h
theorem HTW.at {bT bM : Nat} {d a n : Int} {S : List Pl} {h : Hp} : TnW (HTW bT bM d a n S h) bT bM d a n S := ⟨rfl, rfl⟩
theorem TnW.cons63 {bT bM : Nat} {d a n : Int} {S : List Pl} {h : Hp} (H : TnW h bT bM d a n S) {e : Ent} : TnW ((63, e) :: h) bT bM d a n S := ⟨by rw [fd_cons, if_neg (by decide)]; exact H.str, by rw [fd_cons, if_neg (by decide)]; exact H.map⟩
theorem fd_HTW {bT bM : Nat} {d a n : Int} {S : List Pl} {h : Hp} {t : Nat} (h8 : t ≠ 8) (h9 : t ≠ 9) : fd t (HTW bT bM d a n S h) = fd t h := by rw [fd_cons, if_neg h8, fd_cons, if_neg h9]
theorem HTW.ext {bT bM : Nat} {d a n n' : Int} {S S' : List Pl} {h : Hp} (H : TnW h bT bM d a n S) : Ext h (HTW bT bM d a n' S' h) := fun t r e => by
  by_cases h8 : t = 8
  · subst h8; rw [H.str] at e; exact e
  by_cases h9 : t = 9
  · subst h9; rw [H.map] at e; exact e
  rw [fd_HTW h8 h9]; exact e
theorem HTW.less {lo bT bM : Nat} {d a n n' : Int} {S S' : List Pl} {h h' : Hp} (H : TnW h bT bM d a n S) (H' : TnW h' bT bM d a n' S') (hk : Keep lo h h') (hg : Gone lo h) : ∀ t, LessE h h' (HTW bT bM d a n' S' h) t := fun t => by
  by_cases h8 : t = 8
  · subst h8
    refine .inr ⟨by rw [H'.str]; rfl, .inr ?_⟩
    rw [H'.str]
    intro i k hi hk
    obtain rfl : i = 0 := by omega
    match k, hk with
    | 0, _ => rintro x ⟨b, e1, rfl⟩; rw [H'.map] at e1; exact ⟨b, e1, rfl⟩
    | 1, _ => exact tell_flat trivial
    | 2, _ => exact tell_flat trivial
    | 3, _ => exact tell_flat trivial
  by_cases h9 : t = 9
  · subst h9
    refine .inr ⟨by rw [H'.map]; rfl, .inr ?_⟩
    rw [H'.map]; trivial
  by_cases q : t < lo ∨ 80 ≤ t
  · have := hk t h8 h9 q
    exact .inr ⟨by rw [fd_HTW h8 h9, this], .inl this⟩
  · left
    rw [fd_HTW h8 h9]
    exact hg t (by omega) (by omega)

def sPut0 : Spec := fun args h nx K => ∃ (bT bM : Nat) (d a n : Int) (S : List Pl) (t : Int) (ah : Bool), args = [.ptr 8 0 0, .int .i64 t, .bool ah] ∧ TnW h bT bM d a n S ∧ Bnd d a n S ∧ Gone 60 h ∧ Aft 60 h bT bM d a (putR d a n S t ah) (.ret (.int .i64 (putR d a n S t ah).e)) K nx
theorem sPut0_ok : SpecOK Try.prog 17 sPut0 := specOK_imp (inlx_ok (fn := Try.f17) rfl rfl rfl T_ok (SP := [(32, sCaught)]) (consSP sCaught_ok noSP)) <| by
  rintro args h nx K ⟨bT, bM, d, a, n, S, t, ah, rfl, H, hB, hg, hk⟩
  refine ⟨by simp [Try.f17], fun c hc => ?_⟩
  have hE := mkE' (fn := Try.f17) (R := fun o h' _ => Ext h h' ∧ ∃ m, K o h' m) hc (consSP sCaught_ok noSP)
  have heq : ∀ u, fd u ((8, .blk bT 1 4 (gTn d a n) 56) :: (9, .mp bM (mpP S)) :: (60, .gone) :: (61, .gone) :: (62, .gone) :: (63, .gone) :: h) = fd u h := fdeq_cons2 H.str (fdeq_cons2 H.map (fdeq_cons2 (hg 60 (by decide) (by decide)) (fdeq_cons2 (hg 61 (by decide) (by decide)) (fdeq_cons2 (hg 62 (by decide) (by decide)) (fdeq_cons (hg 63 (by decide) (by decide)))))))
  have k0 : Keep 60 h ((8, .blk bT 1 4 (gTn d a n) 56) :: (9, .mp bM (mpP S)) :: (60, .gone) :: (61, .gone) :: (62, .gone) :: (63, .gone) :: h) := Keep.of heq
  have g0 : Gone 64 ((8, .blk bT 1 4 (gTn d a n) 56) :: (9, .mp bM (mpP S)) :: (60, .gone) :: (61, .gone) :: (62, .gone) :: (63, .gone) :: h) := fun u h1 h2 => (heq u).trans (hg u (by omega) h2)
  have hfin : ∀ (h' : Hp), Keep 60 h h' → TnW h' bT bM d a (putR d a n S t ah).n (putR d a n S t ah).S → ∀ e : Int, e = (putR d a n S t ah).e → Ext h h' ∧ ∃ m, K (.ret (.int .i64 e)) h' m := fun h' kp tn e1 he => by
    subst he
    have hx : Ext h h' := ext_keep hg kp (by rw [H.str, tn.str]; rfl) (by rw [H.map, tn.map]; rfl)
    exact ⟨hx, nx, hk h' hx kp tn⟩
  refine W_fdeq (nx' := 60) heq ?_
  refine vc_sound hE 60 _ _ _ 60 ?_
  intro b0 b1 b2
  refine ⟨33, _, sPutC, rfl, sPutC_ok, rfl, fun b => ?_⟩
  refine ⟨bT, bM, b0, b1, b2, d, a, n, S, t, ah, rfl, ⟨rfl, rfl⟩, hB, (by repeat' (first | exact g0 | refine Gone.cons ?_ (by omega))), rfl, rfl, rfl, fun h' hx hk' ht => ?_⟩
  have h63 : fd 63 h' = .blk b 1 1 (gE 0) 25 := hk' 63 (by decide) (by decide) (by omega)
  have kp : Keep 60 h h' := Keep.trans (by repeat' (first | exact k0 | refine Keep.cons ?_ (by omega))) hk' (by decide)
  generalize he : (putR d a n S t ah).e = e
  unfold outR
  by_cases he0 : e = 0
  · rw [if_pos he0]
    refine ⟨h63, fun g => ?_⟩
    exact hfin _ (Keep.cons kp (by omega)) (TnW.cons63 ht) 0 (by rw [he, he0])
  · rw [if_neg he0]
    refine ⟨e, rfl, h63, fun g => ?_⟩
    exact hfin _ (Keep.cons kp (by omega)) (TnW.cons63 ht) e he.symm
def sPut : Spec := fun args h nx K => ∃ (bT bM : Nat) (d a n : Int) (S : List Pl) (t : Int) (ah : Bool), args = [.ptr 8 0 0, .int .i64 t, .bool ah] ∧ TnW h bT bM d a n S ∧ Bnd d a n S ∧ Gone 60 h ∧ K (.ret (.int .i64 (putR d a n S t ah).e)) (HTW bT bM d a (putR d a n S t ah).n (putR d a n S t ah).S h) nx
theorem sPut_ok : SpecOK Try.prog 17 sPut := specOK_imp (specOK_less sPut0_ok) <| by
  rintro args h nx K ⟨bT, bM, d, a, n, S, t, ah, rfl, H, hB, hg, hk⟩
  exact ⟨bT, bM, d, a, n, S, t, ah, rfl, H, hB, hg, fun h' hx kp ht _ => ⟨_, nx, hk, HTW.ext H, HTW.less H ht kp hg, flat_out (o := .ret (.int .i64 _)) trivial⟩⟩

def sWait0 : Spec := fun args h nx K => ∃ (bT bM : Nat) (d a n : Int) (S : List Pl) (t : Int) (wt : Bool), args = [.ptr 8 0 0, .int .i64 t, .bool wt] ∧ TnW h bT bM d a n S ∧ Bnd d a n S ∧ Gone 60 h ∧ Aft 60 h bT bM d a (waitR n S t wt) (.ret (.int .i64 (waitR n S t wt).e)) K nx
theorem sWait0_ok : SpecOK Try.prog 31 sWait0 := specOK_imp (inlx_ok (fn := Try.f31) rfl rfl rfl T_ok (SP := [(32, sCaught)]) (consSP sCaught_ok noSP)) <| by
  rintro args h nx K ⟨bT, bM, d, a, n, S, t, wt, rfl, H, hB, hg, hk⟩
  refine ⟨by simp [Try.f31], fun c hc => ?_⟩
  have hE := mkE' (fn := Try.f31) (R := fun o h' _ => Ext h h' ∧ ∃ m, K o h' m) hc (consSP sCaught_ok noSP)
  have heq : ∀ u, fd u ((8, .blk bT 1 4 (gTn d a n) 56) :: (9, .mp bM (mpP S)) :: (60, .gone) :: (61, .gone) :: (62, .gone) :: (63, .gone) :: h) = fd u h := fdeq_cons2 H.str (fdeq_cons2 H.map (fdeq_cons2 (hg 60 (by decide) (by decide)) (fdeq_cons2 (hg 61 (by decide) (by decide)) (fdeq_cons2 (hg 62 (by decide) (by decide)) (fdeq_cons (hg 63 (by decide) (by decide)))))))
  have k0 : Keep 60 h ((8, .blk bT 1 4 (gTn d a n) 56) :: (9, .mp bM (mpP S)) :: (60, .gone) :: (61, .gone) :: (62, .gone) :: (63, .gone) :: h) := Keep.of heq
  have g0 : Gone 64 ((8, .blk bT 1 4 (gTn d a n) 56) :: (9, .mp bM (mpP S)) :: (60, .gone) :: (61, .gone) :: (62, .gone) :: (63, .gone) :: h) := fun u h1 h2 => (heq u).trans (hg u (by omega) h2)
  have hfin : ∀ (h' : Hp), Keep 60 h h' → TnW h' bT bM d a (waitR n S t wt).n (waitR n S t wt).S → ∀ e : Int, e = (waitR n S t wt).e → Ext h h' ∧ ∃ m, K (.ret (.int .i64 e)) h' m := fun h' kp tn e1 he => by
    subst he
    have hx : Ext h h' := ext_keep hg kp (by rw [H.str, tn.str]; rfl) (by rw [H.map, tn.map]; rfl)
    exact ⟨hx, nx, hk h' hx kp tn⟩
  refine W_fdeq (nx' := 60) heq ?_
  refine vc_sound hE 60 _ _ _ 60 ?_
  intro b0 b1 b2
  refine ⟨45, _, sWaitC, rfl, sWaitC_ok, rfl, fun b => ?_⟩
  refine ⟨bT, bM, b0, b1, b2, d, a, n, S, t, wt, rfl, ⟨rfl, rfl⟩, hB, (by repeat' (first | exact g0 | refine Gone.cons ?_ (by omega))), rfl, rfl, rfl, fun h' hx hk' ht => ?_⟩
  have h63 : fd 63 h' = .blk b 1 1 (gE 0) 25 := hk' 63 (by decide) (by decide) (by omega)
  have kp : Keep 60 h h' := Keep.trans (by repeat' (first | exact k0 | refine Keep.cons ?_ (by omega))) hk' (by decide)
  generalize he : (waitR n S t wt).e = e
  unfold outR
  by_cases he0 : e = 0
  · rw [if_pos he0]
    refine ⟨h63, fun g => ?_⟩
    exact hfin _ (Keep.cons kp (by omega)) (TnW.cons63 ht) 0 (by rw [he, he0])
  · rw [if_neg he0]
    refine ⟨e, rfl, h63, fun g => ?_⟩
    exact hfin _ (Keep.cons kp (by omega)) (TnW.cons63 ht) e he.symm
def sWait : Spec := fun args h nx K => ∃ (bT bM : Nat) (d a n : Int) (S : List Pl) (t : Int) (wt : Bool), args = [.ptr 8 0 0, .int .i64 t, .bool wt] ∧ TnW h bT bM d a n S ∧ Bnd d a n S ∧ Gone 60 h ∧ K (.ret (.int .i64 (waitR n S t wt).e)) (HTW bT bM d a (waitR n S t wt).n (waitR n S t wt).S h) nx
theorem sWait_ok : SpecOK Try.prog 31 sWait := specOK_imp (specOK_less sWait0_ok) <| by
  rintro args h nx K ⟨bT, bM, d, a, n, S, t, wt, rfl, H, hB, hg, hk⟩
  exact ⟨bT, bM, d, a, n, S, t, wt, rfl, H, hB, hg, fun h' hx kp ht _ => ⟨_, nx, hk, HTW.ext H, HTW.less H ht kp hg, flat_out (o := .ret (.int .i64 _)) trivial⟩⟩

def sProm0 : Spec := fun args h nx K => ∃ (bT bM : Nat) (d a n : Int) (S : List Pl) (t : Int), args = [.ptr 8 0 0, .int .i64 t] ∧ TnW h bT bM d a n S ∧ Bnd d a n S ∧ Gone 60 h ∧ Aft 60 h bT bM d a (promR d a n S t) (.ret (.int .i64 (promR d a n S t).e)) K nx
theorem sProm0_ok : SpecOK Try.prog 18 sProm0 := specOK_imp (inlx_ok (fn := Try.f18) rfl rfl rfl T_ok (SP := [(32, sCaught)]) (consSP sCaught_ok noSP)) <| by
  rintro args h nx K ⟨bT, bM, d, a, n, S, t, rfl, H, hB, hg, hk⟩
  refine ⟨by simp [Try.f18], fun c hc => ?_⟩
  have hE := mkE' (fn := Try.f18) (R := fun o h' _ => Ext h h' ∧ ∃ m, K o h' m) hc (consSP sCaught_ok noSP)
  have heq : ∀ u, fd u ((8, .blk bT 1 4 (gTn d a n) 56) :: (9, .mp bM (mpP S)) :: (60, .gone) :: (61, .gone) :: (62, .gone) :: (63, .gone) :: h) = fd u h := fdeq_cons2 H.str (fdeq_cons2 H.map (fdeq_cons2 (hg 60 (by decide) (by decide)) (fdeq_cons2 (hg 61 (by decide) (by decide)) (fdeq_cons2 (hg 62 (by decide) (by decide)) (fdeq_cons (hg 63 (by decide) (by decide)))))))
  have k0 : Keep 60 h ((8, .blk bT 1 4 (gTn d a n) 56) :: (9, .mp bM (mpP S)) :: (60, .gone) :: (61, .gone) :: (62, .gone) :: (63, .gone) :: h) := Keep.of heq
  have g0 : Gone 64 ((8, .blk bT 1 4 (gTn d a n) 56) :: (9, .mp bM (mpP S)) :: (60, .gone) :: (61, .gone) :: (62, .gone) :: (63, .gone) :: h) := fun u h1 h2 => (heq u).trans (hg u (by omega) h2)
  have hfin : ∀ (h' : Hp), Keep 60 h h' → TnW h' bT bM d a (promR d a n S t).n (promR d a n S t).S → ∀ e : Int, e = (promR d a n S t).e → Ext h h' ∧ ∃ m, K (.ret (.int .i64 e)) h' m := fun h' kp tn e1 he => by
    subst he
    have hx : Ext h h' := ext_keep hg kp (by rw [H.str, tn.str]; rfl) (by rw [H.map, tn.map]; rfl)
    exact ⟨hx, nx, hk h' hx kp tn⟩
  refine W_fdeq (nx' := 60) heq ?_
  refine vc_sound hE 60 _ _ _ 60 ?_
  intro b0 b1
  refine ⟨36, _, sPromC, rfl, sPromC_ok, rfl, fun b => ?_⟩
  refine ⟨bT, bM, b0, b1, d, a, n, S, t, rfl, ⟨rfl, rfl⟩, hB, (by repeat' (first | exact g0 | refine Gone.cons ?_ (by omega))), rfl, rfl, fun h' hx hk' ht => ?_⟩
  have h63 : fd 63 h' = .blk b 1 1 (gE 0) 25 := hk' 63 (by decide) (by decide) (by omega)
  have kp : Keep 60 h h' := Keep.trans (by repeat' (first | exact k0 | refine Keep.cons ?_ (by omega))) hk' (by decide)
  generalize he : (promR d a n S t).e = e
  unfold outR
  by_cases he0 : e = 0
  · rw [if_pos he0]
    refine ⟨h63, fun g => ?_⟩
    exact hfin _ (Keep.cons kp (by omega)) (TnW.cons63 ht) 0 (by rw [he, he0])
  · rw [if_neg he0]
    refine ⟨e, rfl, h63, fun g => ?_⟩
    exact hfin _ (Keep.cons kp (by omega)) (TnW.cons63 ht) e he.symm
def sProm : Spec := fun args h nx K => ∃ (bT bM : Nat) (d a n : Int) (S : List Pl) (t : Int), args = [.ptr 8 0 0, .int .i64 t] ∧ TnW h bT bM d a n S ∧ Bnd d a n S ∧ Gone 60 h ∧ K (.ret (.int .i64 (promR d a n S t).e)) (HTW bT bM d a (promR d a n S t).n (promR d a n S t).S h) nx
theorem sProm_ok : SpecOK Try.prog 18 sProm := specOK_imp (specOK_less sProm0_ok) <| by
  rintro args h nx K ⟨bT, bM, d, a, n, S, t, rfl, H, hB, hg, hk⟩
  exact ⟨bT, bM, d, a, n, S, t, rfl, H, hB, hg, fun h' hx kp ht _ => ⟨_, nx, hk, HTW.ext H, HTW.less H ht kp hg, flat_out (o := .ret (.int .i64 _)) trivial⟩⟩

def sEnd0 : Spec := fun args h nx K => ∃ (bT bM : Nat) (d a n : Int) (S : List Pl) (t : Int), args = [.ptr 8 0 0, .int .i64 t] ∧ TnW h bT bM d a n S ∧ Bnd d a n S ∧ Gone 60 h ∧ Aft 60 h bT bM d a (endR n S t) (.ret (.int .i64 (endR n S t).e)) K nx
theorem sEnd0_ok : SpecOK Try.prog 23 sEnd0 := specOK_imp (inlx_ok (fn := Try.f23) rfl rfl rfl T_ok (SP := [(32, sCaught)]) (consSP sCaught_ok noSP)) <| by
  rintro args h nx K ⟨bT, bM, d, a, n, S, t, rfl, H, hB, hg, hk⟩
  refine ⟨by simp [Try.f23], fun c hc => ?_⟩
  have hE := mkE' (fn := Try.f23) (R := fun o h' _ => Ext h h' ∧ ∃ m, K o h' m) hc (consSP sCaught_ok noSP)
  have heq : ∀ u, fd u ((8, .blk bT 1 4 (gTn d a n) 56) :: (9, .mp bM (mpP S)) :: (60, .gone) :: (61, .gone) :: (62, .gone) :: (63, .gone) :: h) = fd u h := fdeq_cons2 H.str (fdeq_cons2 H.map (fdeq_cons2 (hg 60 (by decide) (by decide)) (fdeq_cons2 (hg 61 (by decide) (by decide)) (fdeq_cons2 (hg 62 (by decide) (by decide)) (fdeq_cons (hg 63 (by decide) (by decide)))))))
  have k0 : Keep 60 h ((8, .blk bT 1 4 (gTn d a n) 56) :: (9, .mp bM (mpP S)) :: (60, .gone) :: (61, .gone) :: (62, .gone) :: (63, .gone) :: h) := Keep.of heq
  have g0 : Gone 64 ((8, .blk bT 1 4 (gTn d a n) 56) :: (9, .mp bM (mpP S)) :: (60, .gone) :: (61, .gone) :: (62, .gone) :: (63, .gone) :: h) := fun u h1 h2 => (heq u).trans (hg u (by omega) h2)
  have hfin : ∀ (h' : Hp), Keep 60 h h' → TnW h' bT bM d a (endR n S t).n (endR n S t).S → ∀ e : Int, e = (endR n S t).e → Ext h h' ∧ ∃ m, K (.ret (.int .i64 e)) h' m := fun h' kp tn e1 he => by
    subst he
    have hx : Ext h h' := ext_keep hg kp (by rw [H.str, tn.str]; rfl) (by rw [H.map, tn.map]; rfl)
    exact ⟨hx, nx, hk h' hx kp tn⟩
  refine W_fdeq (nx' := 60) heq ?_
  refine vc_sound hE 60 _ _ _ 60 ?_
  intro b0 b1
  refine ⟨39, _, sEndC, rfl, sEndC_ok, rfl, fun b => ?_⟩
  refine ⟨bT, bM, b0, b1, d, a, n, S, t, rfl, ⟨rfl, rfl⟩, hB, (by repeat' (first | exact g0 | refine Gone.cons ?_ (by omega))), rfl, rfl, fun h' hx hk' ht => ?_⟩
  have h63 : fd 63 h' = .blk b 1 1 (gE 0) 25 := hk' 63 (by decide) (by decide) (by omega)
  have kp : Keep 60 h h' := Keep.trans (by repeat' (first | exact k0 | refine Keep.cons ?_ (by omega))) hk' (by decide)
  generalize he : (endR n S t).e = e
  unfold outR
  by_cases he0 : e = 0
  · rw [if_pos he0]
    refine ⟨h63, fun g => ?_⟩
    exact hfin _ (Keep.cons kp (by omega)) (TnW.cons63 ht) 0 (by rw [he, he0])
  · rw [if_neg he0]
    refine ⟨e, rfl, h63, fun g => ?_⟩
    exact hfin _ (Keep.cons kp (by omega)) (TnW.cons63 ht) e he.symm
def sEnd : Spec := fun args h nx K => ∃ (bT bM : Nat) (d a n : Int) (S : List Pl) (t : Int), args = [.ptr 8 0 0, .int .i64 t] ∧ TnW h bT bM d a n S ∧ Bnd d a n S ∧ Gone 60 h ∧ K (.ret (.int .i64 (endR n S t).e)) (HTW bT bM d a (endR n S t).n (endR n S t).S h) nx
theorem sEnd_ok : SpecOK Try.prog 23 sEnd := specOK_imp (specOK_less sEnd0_ok) <| by
  rintro args h nx K ⟨bT, bM, d, a, n, S, t, rfl, H, hB, hg, hk⟩
  exact ⟨bT, bM, d, a, n, S, t, rfl, H, hB, hg, fun h' hx kp ht _ => ⟨_, nx, hk, HTW.ext H, HTW.less H ht kp hg, flat_out (o := .ret (.int .i64 _)) trivial⟩⟩

def sStart : Spec := fun args h nx K => ∃ (bT bM : Nat) (d a n : Int) (S : List Pl) (t : Int), args = [.ptr 8 0 0, .int .i64 t] ∧ TnW h bT bM d a n S ∧ Bnd d a n S ∧ Gone 60 h ∧ K (.ret (.int .i64 (waitR n S t false).e)) (HTW bT bM d a (waitR n S t false).n (waitR n S t false).S h) nx
theorem sStart_ok : SpecOK Try.prog 14 sStart := specOK_imp (inlx_ok (fn := Try.f14) rfl rfl rfl T_ok (SP := [(31, sWait)]) (consSP sWait_ok noSP)) <| by
  rintro args h nx K ⟨bT, bM, d, a, n, S, t, rfl, H, hB, hg, hk⟩
  refine ⟨by simp [Try.f14], fun c hc => ?_⟩
  have hE := mkE' (fn := Try.f14) (R := fun o h' _ => Ext h h' ∧ ∃ m, K o h' m) hc (consSP sWait_ok noSP)
  refine vc_sound hE 60 _ _ _ nx ?_
  refine ⟨bT, bM, d, a, n, S, t, false, rfl, H, hB, hg, ?_⟩
  exact ⟨HTW.ext H, nx, hk⟩

def sAgain : Spec := fun args h nx K => ∃ (bT bM : Nat) (d a n : Int) (S : List Pl) (t : Int), args = [.ptr 8 0 0, .int .i64 t] ∧ TnW h bT bM d a n S ∧ Bnd d a n S ∧ Gone 60 h ∧ K (.ret (.int .i64 (waitR n S t true).e)) (HTW bT bM d a (waitR n S t true).n (waitR n S t true).S h) nx
theorem sAgain_ok : SpecOK Try.prog 15 sAgain := specOK_imp (inlx_ok (fn := Try.f15) rfl rfl rfl T_ok (SP := [(31, sWait)]) (consSP sWait_ok noSP)) <| by
  rintro args h nx K ⟨bT, bM, d, a, n, S, t, rfl, H, hB, hg, hk⟩
  refine ⟨by simp [Try.f15], fun c hc => ?_⟩
  have hE := mkE' (fn := Try.f15) (R := fun o h' _ => Ext h h' ∧ ∃ m, K o h' m) hc (consSP sWait_ok noSP)
  refine vc_sound hE 60 _ _ _ nx ?_
  refine ⟨bT, bM, d, a, n, S, t, true, rfl, H, hB, hg, ?_⟩
  exact ⟨HTW.ext H, nx, hk⟩

def mayI (d a : Int) : Prop := (1 ≤ d ∧ d ≤ 64) ∧ 0 ≤ a ∧ a ≤ 64
def sNew0 : Spec := fun args h nx K => ∃ (d a : Int), args = [.int .i64 d, .int .i64 a] ∧ Gone 60 h ∧ (¬ mayI d a → ∀ h', (∀ u, fd u h' = fd u h) → K (.ret (.tup [.nilp, .int .i64 1])) h' nx) ∧
  (mayI d a → ∀ bM bT g, (∀ k, k < 4 → g 0 k = match k with | 0 => .map 60 | 1 => .int .i64 d | 2 => .int .i64 a | _ => .int .i64 0) → K (.ret (.tup [.ptr 61 0 0, .int .i64 0])) ((61, .blk bT 1 4 g 56) :: (60, .mp bM []) :: (60, .gone) :: (61, .gone) :: h) nx)
theorem sNew0_ok : SpecOK Try.prog 9 sNew0 := specOK_imp (inlx_ok (fn := Try.f9) rfl rfl rfl T_ok (SP := []) noSP) <| by
  rintro args h nx K ⟨d, a, rfl, hg, hk0, hk1⟩
  refine ⟨by simp [Try.f9], fun c hc => ?_⟩
  have hE := mkE' (fn := Try.f9) (R := fun o h' _ => Ext h h' ∧ ∃ m, K o h' m) hc noSP
  have heq : ∀ u, fd u ((60, .gone) :: (61, .gone) :: h) = fd u h := fdeq_cons2 (hg 60 (by decide) (by decide)) (fdeq_cons (hg 61 (by decide) (by decide)))
  have no : ¬ mayI d a → Ext h ((60, .gone) :: (61, .gone) :: h) ∧ ∃ m, K (.ret (.tup [.nilp, .int .i64 1])) ((60, .gone) :: (61, .gone) :: h) m := fun q => ⟨fun t r e => by rw [heq]; exact e, nx, hk0 q _ heq⟩
  refine W_fdeq (nx' := 60) heq ?_
  refine vc_sound hE 60 _ _ _ 60 ?_
  (refine (?_ : br _ _ _); refine br_dec (fun q => ?_) (fun q => ?_))
  · exact no (by unfold mayI; omega)
  (refine (?_ : br _ _ _); refine br_dec (fun q => ?_) (fun q => ?_))
  · exact no (by unfold mayI; omega)
  (refine (?_ : br _ _ _); refine br_dec (fun q => ?_) (fun q => ?_))
  · exact no (by unfold mayI; omega)
  (refine (?_ : br _ _ _); refine br_dec (fun q => ?_) (fun q => ?_))
  · exact no (by unfold mayI; omega)
  intro bM bT
  refine ⟨?_, nx, hk1 (by unfold mayI; omega) bM bT _ ?_⟩
  · intro t r e
    rw [fd_cons, fd_cons]
    split
    · rename_i q; subst q; rw [hg 61 (by decide) (by decide)] at e; cases e
    · split
      · rename_i q; subst q; rw [hg 60 (by decide) (by decide)] at e; cases e
      · rw [heq]; exact e
  · intro k hk
    match k, hk with
    | 0, _ => rfl
    | 1, _ => rfl
    | 2, _ => rfl
    | 3, _ => rfl
def sNew : Spec := fun args h nx K => ∃ (d a : Int), args = [.int .i64 d, .int .i64 a] ∧ Gone 60 h ∧ (¬ mayI d a → K (.ret (.tup [.nilp, .int .i64 1])) h nx) ∧ (mayI d a → (fd 8 h = .gone ∧ fd 9 h = .gone) ∧ ∀ bT bM, K (.ret (.tup [.ptr 8 0 0, .int .i64 0])) (HTW bT bM d a 0 [] h) nx)
theorem sNew_ok : SpecOK Try.prog 9 sNew := specOK_imp (specOK_ren sNew0_ok) <| by
  rintro args h nx K ⟨d, a, rfl, hg, hk0, hk1⟩
  refine ⟨d, a, rfl, hg, fun q h' he hx => ?_, fun q bM bT g hg2 hx => ?_⟩
  · exact ⟨_, h, nx, id, hk0 q, Ext.refl h, fun t => .inr (.inl ⟨rfl, (he t).symm, he t⟩), fun t t' hne _ _ => hne, flat_out (o := .ret (.tup [.nilp, .int .i64 1])) ⟨trivial, trivial, trivial⟩⟩
  · obtain ⟨⟨h8, h9⟩, hk1⟩ := hk1 q
    have heq : ∀ u, fd u ((60, .gone) :: (61, .gone) :: h) = fd u h := fdeq_cons2 (hg 60 (by decide) (by decide)) (fdeq_cons (hg 61 (by decide) (by decide)))
    have hτ : ∀ t, t ≠ 8 → t ≠ 9 → tau [(8, 61), (9, 60)] t = t := fun t a b => by
      unfold tau; rw [beq_ne a]; unfold tau; rw [beq_ne b]; rfl
    have h60 : ∀ t, (fd t (HTW bT bM d a 0 [] h)).at.isSome = true → t ≠ 60 ∧ t ≠ 61 := fun t q => by
      refine ⟨?_, ?_⟩
      · rintro rfl; rw [fd_HTW (by decide) (by decide), hg 60 (by decide) (by decide)] at q; cases q
      · rintro rfl; rw [fd_HTW (by decide) (by decide), hg 61 (by decide) (by decide)] at q; cases q
    refine ⟨_, HTW bT bM d a 0 [] h, nx, tau [(8, 61), (9, 60)], hk1 bT bM, ?_, fun t => ?_, fun t t' hne e1 e2 => ?_, ?_⟩
    · exact (Ext.new (e := .mp bM (mpP [])) (nx := 9) (by rw [h9]; rfl)).trans (Ext.new (by rw [fd_cons, if_neg (by decide), h8]; rfl))
    · by_cases q8 : t = 8
      · subst q8
        refine .inr (.inr (.inr ⟨rfl, rfl, rfl, rfl, fun i k hi hk => ?_⟩))
        obtain rfl : i = 0 := by omega
        rw [hg2 k hk]
        match k, hk with
        | 0, _ => rintro x ⟨b, e1, rfl⟩; exact ⟨b, e1, rfl⟩
        | 1, _ => exact tell_flat trivial
        | 2, _ => exact tell_flat trivial
        | 3, _ => exact tell_flat trivial
      by_cases q9 : t = 9
      · subst q9
        exact .inr (.inr (.inr ⟨rfl, rfl⟩))
      by_cases q60 : t = 60
      · subst q60; left; rw [fd_HTW (by decide) (by decide)]; exact hg 60 (by decide) (by decide)
      by_cases q61 : t = 61
      · subst q61; left; rw [fd_HTW (by decide) (by decide)]; exact hg 61 (by decide) (by decide)
      have e0 : fd t ((61, .blk bT 1 4 g 56) :: (60, .mp bM []) :: (60, .gone) :: (61, .gone) :: h) = fd t h := by
        rw [fd_cons, if_neg q61, fd_cons, if_neg q60]; exact heq t
      exact .inr (.inl ⟨hτ t q8 q9, by rw [fd_HTW q8 q9, e0], e0⟩)
    · obtain ⟨a1, a2⟩ := h60 t e1
      obtain ⟨b1, b2⟩ := h60 t' e2
      have h8' : tau [(8, 61), (9, 60)] 8 = 61 := rfl
      have h9' : tau [(8, 61), (9, 60)] 9 = 60 := rfl
      by_cases q8 : t = 8
      · subst q8
        rw [h8']
        by_cases q9 : t' = 9
        · subst q9; rw [h9']; decide
        · rw [hτ t' (fun q => hne q.symm) q9]; exact fun q => b2 q.symm
      by_cases q9 : t = 9
      · subst q9
        rw [h9']
        by_cases q8' : t' = 8
        · subst q8'; rw [h8']; decide
        · rw [hτ t' q8' (fun q => hne q.symm)]; exact fun q => b1 q.symm
      rw [hτ t q8 q9]
      by_cases q8' : t' = 8
      · subst q8'; rw [h8']; exact a2
      by_cases q9' : t' = 9
      · subst q9'; rw [h9']; exact a1
      rw [hτ t' q8' q9']; exact hne
    · rintro e ⟨x, ex, xs, rfl, y, ys, rfl, ry, rz⟩
      exact ⟨_, ex, _, rfl, _, _, rfl, tell_ptr (h1 := (61, .blk bT 1 4 g 56) :: (60, .mp bM []) :: (60, .gone) :: (61, .gone) :: h) (h2 := HTW bT bM d a 0 [] h) rfl _ ry, flatL_rel [.int .i64 0] _ ⟨trivial, trivial⟩ rz⟩
end Go.Proofs.Ytgcnknhfphgfnaa.Sx

