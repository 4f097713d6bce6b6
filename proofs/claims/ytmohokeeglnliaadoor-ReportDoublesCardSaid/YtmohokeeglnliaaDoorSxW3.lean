import Derived.Test.YtmohokeeglnliaaDoorSxW2
import Derived.Tactics
import Derived.Tactics2
import Derived.Defers
import Derived.Recover
import Derived.Laws.Pointers
/-
  The walks of this seat's functions, third part: what is caught.
-/
namespace Go.Proofs.YtmohokeeglnliaaDoor.Sx
open Go Go.Proofs
set_option maxRecDepth 100000
set_option linter.unusedSimpArgs false
set_option linter.unusedVariables false

def nn (b : Bool) : PanicEntry := { v := .iface 82 (.agg #[]), recovered := b }
/-- One cell, that of block q, is v now; all else that there was is as it was. -/
structure Aft (q : Nat) (v : Value) (t : TypeId) (w w' : World) : Prop where
  os : w'.os = w.os
  tape : w'.tape = w.tape
  output : w'.output = w.output
  size : w.heap.size ≤ w'.heap.size
  block : ∀ k, k < w.heap.size → k ≠ q → w'.heap[k]? = w.heap[k]?
  cell : w'.heap[q]? = some (.cells #[v] t (0, 0))

theorem aft_set {q : Nat} {v x : Value} {t : TypeId} {w : World} (hq : w.heap[q]? = some (.cells #[x] t (0, 0))) : Aft q v t w (w.setCell ⟨q, 0, none⟩ v) := by
  have hlt : q < w.heap.size := (Array.getElem?_eq_some_iff.1 hq).1
  refine ⟨rfl, rfl, rfl, by simp [World.setCell], fun k hk hne => ?_, ?_⟩
  · simp [World.setCell, Array.getElem?_modify, Ne.symm hne]
  · simp [World.setCell, Array.getElem?_modify, hq]
theorem aft_fr {q : Nat} {v : Value} {t : TypeId} {w w' : World} (h : Aft q v t w w') {P : Program} {w0 : World} (hf : Fr (quiet P w0) w) (hq : w0.heap.size ≤ q) : Fr (quiet P w0) w' :=
  ⟨h.os.trans hf.os, h.tape.trans hf.tape, h.output.trans hf.output, Nat.le_trans hf.size h.size, fun k hk ho => (h.block k (Nat.lt_of_lt_of_le hk hf.size) (by have : k < w0.heap.size := hk; omega)).trans (hf.block k hk ho)⟩
theorem fr_two {P : Program} {w w' : World} {o1 o2 : Obj} (h : Fr (quiet P ((w.alloc o1).alloc o2)) w') : Fr (quiet P w) w' := by
  have hs : w.heap.size + 2 ≤ w'.heap.size := by have := h.size; simpa [Nat.add_assoc, quiet] using this
  refine ⟨h.os, h.tape, h.output, by show w.heap.size ≤ _; omega, fun k hk ho => ?_⟩
  have hk : k < w.heap.size := hk
  rw [h.block k (by simp [quiet]; omega) ho]
  show ((w.alloc o1).alloc o2).heap[k]? = w.heap[k]?
  rw [Go.RowKit.Below.heap_alloc _ _ _ (by simp; omega), Go.RowKit.Below.heap_alloc _ _ _ hk]
theorem fr_cells {P : Program} {w w' : World} {o1 o2 : Obj} (h : Fr (quiet P ((w.alloc o1).alloc o2)) w') : w'.heap[w.heap.size]? = some o1 ∧ w'.heap[w.heap.size + 1]? = some o2 := by
  have e1 : ((w.alloc o1).alloc o2).heap[w.heap.size]? = some o1 := by
    rw [Go.RowKit.Below.heap_alloc _ _ _ (by simp)]
    show (w.heap.push _)[w.heap.size]? = _
    rw [Array.getElem?_push, if_pos rfl]
  have e2 : ((w.alloc o1).alloc o2).heap[w.heap.size + 1]? = some o2 := by
    show (((w.alloc o1).heap).push _)[w.heap.size + 1]? = _
    rw [Array.getElem?_push, if_pos (by simp)]
  exact ⟨(h.block _ (by simp [quiet]; omega) (fun q => q)).trans e1, (h.block _ (by simp [quiet]) (fun q => q)).trans e2⟩
theorem aft_alloc {q : Nat} {v : Value} {t : TypeId} {w w' : World} (h : Aft q v t w w') (o : Obj) : Aft q v t w (w'.alloc o) := by
  have hlt : q < w'.heap.size := (Array.getElem?_eq_some_iff.1 h.cell).1
  refine ⟨h.os, h.tape, h.output, by have := h.size; simp; omega, fun k hk hne => ?_, ?_⟩
  · rw [Go.RowKit.Below.heap_alloc _ _ _ (by have := h.size; omega)]
    exact h.block k hk hne
  · rw [Go.RowKit.Below.heap_alloc _ _ _ hlt]; exact h.cell

/-! ### function 22 -/
theorem catch30_panicking (p q : Nat) (n x : Int) (w : World) (hp : w.heap[p]? = some (.cells #[.int .u64 n] 22 (0, 0))) (hq : w.heap[q]? = some (.cells #[.int .u64 x] 22 (0, 0))) :
    CallsD Tryd.prog 72 #[.pointer (some ⟨p, 0, none⟩), .pointer (some ⟨q, 0, none⟩)] (.panicking [nn false]) w fun e u' w' =>
      e = .returned (.tuple #[]) ∧ u' = .panicking [nn true] ∧ Aft q (.int .u64 n) 22 w w' := by
  have hta : ∀ w, (Instr.typeAssert (.iface 82 (.agg #[])) 20 82 true).run Tryd.prog w = .ok (.tuple #[.agg #[], .bool true]) w := fun w => by
    simp [Instr.typeAssert, run_underlying Tryd.underlying82]
  have c0 : w.cell? ⟨p, 0, none⟩ = some (.int .u64 n) := by simp [World.cell?, hp]
  have hpq : p < w.heap.size := (Array.getElem?_eq_some_iff.1 hp).1
  have hqq : q < w.heap.size := (Array.getElem?_eq_some_iff.1 hq).1
  have c1 : w.cell? ⟨q, 0, none⟩ = some (.int .u64 x) := by simp [World.cell?, hq]
  have z1 : w.frozen? ⟨q, 0, none⟩ = false := by simp [World.frozen?, hq]
  refine callsD_of_wpS Tryd.func72 rfl fun c₀ cs hu => ?_
  apply wpS_seq
  apply wpS_region
  simp [wpOpsS, go_sem, recoverD, hu, Tryd.ntmps72, Exit.thenS, nn]
  refine wpS_of_wp ?_
  apply wp_block
  go_wp2
  simp [bodyPostS, results, Tryd.results72]
  exact aft_alloc (aft_set hq) _

theorem catch30_idle (p q : Nat) (w : World) :
    CallsD Tryd.prog 72 #[.pointer (some ⟨p, 0, none⟩), .pointer (some ⟨q, 0, none⟩)] .returning w fun e u' w' => e = .returned (.tuple #[]) ∧ u' = .returning ∧ w' = w := by
  refine callsD_of_wpS Tryd.func72 rfl fun c₀ cs hu => ?_
  apply wpS_seq
  apply wpS_region
  simp [wpOpsS, go_sem, recoverD, hu, Tryd.ntmps72, Exit.thenS]
  refine wpS_of_wp ?_
  apply wp_block
  go_wp2
  cases c₀
  simp_all [bodyPostS, results, Tryd.results72]

/-- What a teller leaves. -/
def Told30 (p : Bool) (m : Int) (w : World) (e : Ending) (w' : World) : Prop := Fr (quiet Tryd.prog w) w' ∧ ((p = false ∧ e = .returned (.int .u64 m)) ∨ (p = true ∧ e = .panicked [nn false]))

theorem caught22 (w : World) (n m : Int) (p : Bool) (g : FuncId) (caps : Array Value)
    (H : let w2 := ((w.alloc (.cells #[.int .u64 n] 22)).alloc (.cells #[.int .u64 0] 22)); (callFunc g caps).run Tryd.prog w2 = .ok (.enter g caps) w2 ∧ Calls Tryd.prog g caps w2 (Told30 p m w2)) :
    Calls Tryd.prog 63 #[.int .u64 n, .func (.func g) #[] caps] w fun e w' => e = .returned (.int .u64 (if p then n else m)) ∧ Fr (quiet Tryd.prog w) w' := by
  obtain ⟨H1, H2⟩ := H
  have hmf : ∀ (fn : Fn) (first cap : Array Value) (w : World), (Instr.makeFunc fn first cap).run Tryd.prog w = .ok (.func fn first cap) w := fun _ _ _ _ => rfl
  go_enter_defers Tryd.func63, Tryd.ntmps63
  go_wp2
  refine Calls.mono H2 ?_
  rintro e w' ⟨hf, ⟨rfl, rfl⟩ | ⟨rfl, rfl⟩⟩
  · obtain ⟨h0, h1⟩ := fr_cells hf
    have c1 : w'.cell? ⟨w.heap.size + 1, 0, none⟩ = some (.int .u64 0) := by simp [World.cell?, h1]
    have z1 : w'.frozen? ⟨w.heap.size + 1, 0, none⟩ = false := by simp [World.frozen?, h1]
    simp only
    go_wp2
    refine leaves_cons (f := 72) (args := #[.pointer (some ⟨w.heap.size, 0, none⟩), .pointer (some ⟨w.heap.size + 1, 0, none⟩)]) (by simp) (by simp [go_sem]) ?_
    refine (catch30_idle _ _ _).mono ?_
    rintro e u' w'' ⟨rfl, rfl, rfl⟩
    have ha := aft_set (v := .int .u64 m) h1
    have c2 : (w'.setCell ⟨w.heap.size + 1, 0, none⟩ (.int .u64 m)).cell? ⟨w.heap.size + 1, 0, none⟩ = some (.int .u64 m) := by
      have := ha.cell
      simp only [World.cell?]
      rw [this]; rfl
    have hfr := aft_fr ha (fr_two hf) (by omega)
    simp [Leaves, settle, results, Tryd.results63, go_sem, c2]
    exact hfr
  · obtain ⟨h0, h1⟩ := fr_cells hf
    simp only
    refine leaves_cons (f := 72) (args := #[.pointer (some ⟨w.heap.size, 0, none⟩), .pointer (some ⟨w.heap.size + 1, 0, none⟩)]) (by simp) (by simp [go_sem]) ?_
    refine (catch30_panicking _ _ n 0 w' h0 h1).mono ?_
    rintro e u' w'' ⟨rfl, rfl, ha⟩
    have c2 : w''.cell? ⟨w.heap.size + 1, 0, none⟩ = some (.int .u64 n) := by
      have := ha.cell
      simp only [World.cell?]
      rw [this]; rfl
    have hfr := aft_fr ha (fr_two hf) (by omega)
    simp [Leaves, settle, nn, results, Tryd.results63, go_sem, c2]
    exact hfr

/-! ### function 27 -/
theorem catch33_panicking (p q : Nat) (n x : Int) (w : World) (hp : w.heap[p]? = some (.cells #[.int .i64 n] 3 (0, 0))) (hq : w.heap[q]? = some (.cells #[.int .i64 x] 3 (0, 0))) :
    CallsD Tryd.prog 59 #[.pointer (some ⟨p, 0, none⟩), .pointer (some ⟨q, 0, none⟩)] (.panicking [nn false]) w fun e u' w' =>
      e = .returned (.tuple #[]) ∧ u' = .panicking [nn true] ∧ Aft q (.int .i64 n) 3 w w' := by
  have hta : ∀ w, (Instr.typeAssert (.iface 82 (.agg #[])) 20 82 true).run Tryd.prog w = .ok (.tuple #[.agg #[], .bool true]) w := fun w => by
    simp [Instr.typeAssert, run_underlying Tryd.underlying82]
  have c0 : w.cell? ⟨p, 0, none⟩ = some (.int .i64 n) := by simp [World.cell?, hp]
  have hpq : p < w.heap.size := (Array.getElem?_eq_some_iff.1 hp).1
  have hqq : q < w.heap.size := (Array.getElem?_eq_some_iff.1 hq).1
  have c1 : w.cell? ⟨q, 0, none⟩ = some (.int .i64 x) := by simp [World.cell?, hq]
  have z1 : w.frozen? ⟨q, 0, none⟩ = false := by simp [World.frozen?, hq]
  refine callsD_of_wpS Tryd.func59 rfl fun c₀ cs hu => ?_
  apply wpS_seq
  apply wpS_region
  simp [wpOpsS, go_sem, recoverD, hu, Tryd.ntmps59, Exit.thenS, nn]
  refine wpS_of_wp ?_
  apply wp_block
  go_wp2
  simp [bodyPostS, results, Tryd.results59]
  exact aft_alloc (aft_set hq) _

theorem catch33_idle (p q : Nat) (w : World) :
    CallsD Tryd.prog 59 #[.pointer (some ⟨p, 0, none⟩), .pointer (some ⟨q, 0, none⟩)] .returning w fun e u' w' => e = .returned (.tuple #[]) ∧ u' = .returning ∧ w' = w := by
  refine callsD_of_wpS Tryd.func59 rfl fun c₀ cs hu => ?_
  apply wpS_seq
  apply wpS_region
  simp [wpOpsS, go_sem, recoverD, hu, Tryd.ntmps59, Exit.thenS]
  refine wpS_of_wp ?_
  apply wp_block
  go_wp2
  cases c₀
  simp_all [bodyPostS, results, Tryd.results59]

/-- What a teller leaves. -/
def Told33 (p : Bool) (m : Int) (w : World) (e : Ending) (w' : World) : Prop := Fr (quiet Tryd.prog w) w' ∧ ((p = false ∧ e = .returned (.int .i64 m)) ∨ (p = true ∧ e = .panicked [nn false]))

theorem caught27 (w : World) (n m : Int) (p : Bool) (g : FuncId) (caps : Array Value)
    (H : let w2 := ((w.alloc (.cells #[.int .i64 n] 3)).alloc (.cells #[.int .i64 0] 3)); (callFunc g caps).run Tryd.prog w2 = .ok (.enter g caps) w2 ∧ Calls Tryd.prog g caps w2 (Told33 p m w2)) :
    Calls Tryd.prog 47 #[.int .i64 n, .func (.func g) #[] caps] w fun e w' => e = .returned (.int .i64 (if p then n else m)) ∧ Fr (quiet Tryd.prog w) w' := by
  obtain ⟨H1, H2⟩ := H
  have hmf : ∀ (fn : Fn) (first cap : Array Value) (w : World), (Instr.makeFunc fn first cap).run Tryd.prog w = .ok (.func fn first cap) w := fun _ _ _ _ => rfl
  go_enter_defers Tryd.func47, Tryd.ntmps47
  go_wp2
  refine Calls.mono H2 ?_
  rintro e w' ⟨hf, ⟨rfl, rfl⟩ | ⟨rfl, rfl⟩⟩
  · obtain ⟨h0, h1⟩ := fr_cells hf
    have c1 : w'.cell? ⟨w.heap.size + 1, 0, none⟩ = some (.int .i64 0) := by simp [World.cell?, h1]
    have z1 : w'.frozen? ⟨w.heap.size + 1, 0, none⟩ = false := by simp [World.frozen?, h1]
    simp only
    go_wp2
    refine leaves_cons (f := 59) (args := #[.pointer (some ⟨w.heap.size, 0, none⟩), .pointer (some ⟨w.heap.size + 1, 0, none⟩)]) (by simp) (by simp [go_sem]) ?_
    refine (catch33_idle _ _ _).mono ?_
    rintro e u' w'' ⟨rfl, rfl, rfl⟩
    have ha := aft_set (v := .int .i64 m) h1
    have c2 : (w'.setCell ⟨w.heap.size + 1, 0, none⟩ (.int .i64 m)).cell? ⟨w.heap.size + 1, 0, none⟩ = some (.int .i64 m) := by
      have := ha.cell
      simp only [World.cell?]
      rw [this]; rfl
    have hfr := aft_fr ha (fr_two hf) (by omega)
    simp [Leaves, settle, results, Tryd.results47, go_sem, c2]
    exact hfr
  · obtain ⟨h0, h1⟩ := fr_cells hf
    simp only
    refine leaves_cons (f := 59) (args := #[.pointer (some ⟨w.heap.size, 0, none⟩), .pointer (some ⟨w.heap.size + 1, 0, none⟩)]) (by simp) (by simp [go_sem]) ?_
    refine (catch33_panicking _ _ n 0 w' h0 h1).mono ?_
    rintro e u' w'' ⟨rfl, rfl, ha⟩
    have c2 : w''.cell? ⟨w.heap.size + 1, 0, none⟩ = some (.int .i64 n) := by
      have := ha.cell
      simp only [World.cell?]
      rw [this]; rfl
    have hfr := aft_fr ha (fr_two hf) (by omega)
    simp [Leaves, settle, nn, results, Tryd.results47, go_sem, c2]
    exact hfr

end Go.Proofs.YtmohokeeglnliaaDoor.Sx
