import Derived.Test.YtmohokeeglnliaaDoorSxW3
/-
  The walks of this seat's functions, fourth part: means and percents.
-/
namespace Go.Proofs.YtmohokeeglnliaaDoor.Sx
open Go Go.Proofs
set_option maxRecDepth 100000
set_option linter.unusedSimpArgs false
set_option linter.unusedVariables false

/-- One cell behind a tag holds this number. -/
def one (h : Hp) (t : Nat) (v : V) : Prop := getM h t fun n sz g => n = 1 ∧ sz = 1 ∧ g 0 0 = v
theorem one_cell {c : Cx} {h : Hp} {w : World} (hr : Rel c h w) {t : Nat} {a : Int} (ho : one h t (.int .u64 a)) {x : Value} (hx : vrel h (.ptr t 0 0) x) : ∃ ad : Addr, x = .pointer (some (ad.add 0)) ∧ w.cell? (ad.add 0) = some (.int .u64 a) := by
  obtain ⟨n, sz, g, base, ⟨rfl, rfl, hg⟩, hrf, hc⟩ := getM_ok hr ho
  obtain ⟨ad, y, rfl, hy, ry⟩ := hc 0 (by omega)
  obtain ⟨ad', sz', hrf', rfl⟩ := hx
  rw [hrf] at hrf'
  injection hrf' with hrf'
  injection hrf' with h1 h2
  injection h1 with h1
  subst h1 h2
  refine ⟨ad, by simp, ?_⟩
  have ry : vrel h (g 0 0) y := ry
  rw [hg] at ry
  obtain rfl : y = .int .u64 a := ry
  exact hy
theorem cell_alloc2 {w : World} {p : Addr} {x : Value} (o1 o2 : Obj) (h : w.cell? p = some x) : ((w.alloc o1).alloc o2).cell? p = some x := by
  have hlt := World.block_lt_of_cell? _ _ h
  rw [← h]
  refine World.cell?_of_block ?_
  rw [Go.RowKit.Below.heap_alloc _ _ _ (by simp; omega), Go.RowKit.Below.heap_alloc _ _ _ hlt]

theorem tell_post {c : Cx} {h : Hp} {p : Bool} {k : IntKind} {m : Int} {o : Out} {e : Ending} (ho : o = tellO p (.int k m)) (hor : OutRel h o e) : (p = false ∧ e = .returned (.int k m)) ∨ (p = true ∧ e = .panicked [nn false]) := by
  subst ho
  cases p with
  | false => obtain ⟨x, rfl, rfl⟩ := hor; exact .inl ⟨rfl, rfl⟩
  | true => obtain ⟨x, rfl, y, rfl, xs, rfl, rfl⟩ := hor; exact .inr ⟨rfl, rfl⟩

theorem Tabs.alloc {P : Program} {w : World} (ht : Tabs (quiet P w)) (o : Obj) : Tabs (quiet P (w.alloc o)) := fun p hp => ⟨ht.at (w := w.alloc o) ⟨rfl, rfl, rfl, Nat.le_of_lt (show w.heap.size < (w.alloc o).heap.size by simp), fun k hk _ => Go.RowKit.Below.heap_alloc _ _ _ hk⟩ p hp, fun _ _ q => q⟩
theorem tabs2 {c : Cx} {h : Hp} {w : World} (hc : c.P = Tryd.prog) (hr : Rel c h w) (o o' : Obj) : Tabs (quiet Tryd.prog ((w.alloc o).alloc o')) := by
  have := hr.qtabs
  rw [hc] at this
  exact (this.alloc o).alloc o'

def sCaughtM : Spec := fun args h nx K => ∃ n a b ta tb, args = [.int .u64 n, .fn (.func 64) [] [.ptr ta 0 0, .ptr tb 0 0]] ∧ one h ta (.int .u64 a) ∧ one h tb (.int .u64 b) ∧ K (.ret (.int .u64 (if isN a.toNat || isN b.toNat then n else meanV a.toNat b.toNat))) h nx
theorem sCaughtM_ok : SpecOK Tryd.prog 63 sCaughtM := by
  rintro c hc args h nx K ⟨n, a, b, ta, tb, rfl, h1, h2, hk⟩ w xs hr hv
  obtain ⟨v0, vs, rfl, rfl, v1, vs, rfl, ⟨fs, cs, rfl, rfl, x0, xs0, rfl, r0, x1, xs1, rfl, r1, rfl⟩, rfl⟩ := hv
  obtain ⟨p, rfl, hp⟩ := one_cell hr h1 r0
  obtain ⟨q, rfl, hq⟩ := one_cell hr h2 r1
  refine .inl ⟨callFunc_enter Tryd.func63 rfl rfl _ w, ?_⟩
  refine (caught22 w n (meanV a.toNat b.toNat) (isN a.toNat || isN b.toNat) 64 #[.pointer (some (p.add 0)), .pointer (some (q.add 0))] ?_).mono ?_
  · intro w2
    refine ⟨callFunc_enter Tryd.func64 rfl rfl _ w2, ?_⟩
    have hp2 := cell_alloc2 (.cells #[.int .u64 n] 22) (.cells #[.int .u64 0] 22) hp
    have hq2 := cell_alloc2 (.cells #[.int .u64 n] 22) (.cells #[.int .u64 0] 22) hq
    have hrel : Rel (quiet Tryd.prog w2) (hM p q a b) w2 := by
      refine ⟨⟨rfl, rfl, rfl, Nat.le_refl _, fun _ _ _ => rfl⟩, fun t => ?_, fun t t' _ => ?_, tabs2 hc hr (.cells #[.int .u64 n] 22) (.cells #[.int .u64 0] 22)⟩
      · unfold hM
        rw [fd_cons]
        split
        · intro i k hi hk
          obtain rfl : i = 0 := by omega
          obtain rfl : k = 0 := by omega
          exact ⟨p, _, rfl, hp2, rfl, fun q => q⟩
        · rw [fd_cons]
          split
          · intro i k hi hk
            obtain rfl : i = 0 := by omega
            obtain rfl : k = 0 := by omega
            exact ⟨q, _, rfl, hq2, rfl, fun q => q⟩
          · trivial
      · unfold hM
        rw [fd_cons]
        split
        · trivial
        · rw [fd_cons]
          split
          · trivial
          · trivial
    have hE : EnvOK ⟨quiet Tryd.prog w2, Tryd.f64, T, SPM, fun o _ _ => o = tellO (isN a.toNat || isN b.toNat) (.int .u64 (meanV a.toNat b.toNat))⟩ := ⟨T_ok, spm⟩
    refine (enter hE (f := 64) Tryd.func64 rfl (vs := [.ptr 0 0 0, .ptr 1 0 0]) (xs := [.pointer (some (p.add 0)), .pointer (some (q.add 0))]) ⟨_, _, rfl, ⟨p, 1, rfl, rfl⟩, _, _, rfl, ⟨q, 1, rfl, rfl⟩, rfl⟩ hrel (by simp [Tryd.f64]) 100 (tellM p q a b (quiet Tryd.prog w2) rfl)).mono ?_
    rintro e w' ⟨o, h', nx', ho, hr', hor⟩
    exact ⟨hr'.fr, tell_post (c := c) ho hor⟩
  · rintro e w' ⟨rfl, hf⟩
    exact ⟨_, h, nx, hk, hr.after hf, Ext.refl h, _, rfl, rfl⟩

def sCaughtP : Spec := fun args h nx K => ∃ n a ta, args = [.int .i64 n, .fn (.func 48) [] [.ptr ta 0 0]] ∧ one h ta (.int .u64 a) ∧ K (.ret (.int .i64 (if isN a.toNat then n else percV a.toNat))) h nx
theorem sCaughtP_ok : SpecOK Tryd.prog 47 sCaughtP := by
  rintro c hc args h nx K ⟨n, a, ta, rfl, h1, hk⟩ w xs hr hv
  obtain ⟨v0, vs, rfl, rfl, v1, vs, rfl, ⟨fs, cs, rfl, rfl, x0, xs0, rfl, r0, rfl⟩, rfl⟩ := hv
  obtain ⟨p, rfl, hp⟩ := one_cell hr h1 r0
  refine .inl ⟨callFunc_enter Tryd.func47 rfl rfl _ w, ?_⟩
  refine (caught27 w n (percV a.toNat) (isN a.toNat) 48 #[.pointer (some (p.add 0))] ?_).mono ?_
  · intro w2
    refine ⟨callFunc_enter Tryd.func48 rfl rfl _ w2, ?_⟩
    have hp2 := cell_alloc2 (.cells #[.int .i64 n] 3) (.cells #[.int .i64 0] 3) hp
    have hrel : Rel (quiet Tryd.prog w2) [(0, .ro (some p) 1 1 fun _ _ => .int .u64 a)] w2 := by
      refine ⟨⟨rfl, rfl, rfl, Nat.le_refl _, fun _ _ _ => rfl⟩, fun t => ?_, fun t t' _ => ?_, tabs2 hc hr (.cells #[.int .i64 n] 3) (.cells #[.int .i64 0] 3)⟩
      · rw [fd_cons]
        split
        · intro i k hi hk
          obtain rfl : i = 0 := by omega
          obtain rfl : k = 0 := by omega
          exact ⟨p, _, rfl, hp2, rfl, fun q => q⟩
        · trivial
      · rw [fd_cons]
        split
        · trivial
        · trivial
    have hE : EnvOK ⟨quiet Tryd.prog w2, Tryd.f48, T, SPQ, fun o _ _ => o = tellO (isN a.toNat) (.int .i64 (percV a.toNat))⟩ := ⟨T_ok, spq⟩
    refine (enter hE (f := 48) Tryd.func48 rfl (vs := [.ptr 0 0 0]) (xs := [.pointer (some (p.add 0))]) ⟨_, _, rfl, ⟨p, 1, rfl, rfl⟩, rfl⟩ hrel (by simp [Tryd.f48]) 100 (tellP p a (quiet Tryd.prog w2) rfl)).mono ?_
    rintro e w' ⟨o, h', nx', ho, hr', hor⟩
    exact ⟨hr'.fr, tell_post (c := c) ho hor⟩
  · rintro e w' ⟨rfl, hf⟩
    exact ⟨_, h, nx, hk, hr.after hf, Ext.refl h, _, rfl, rfl⟩

def sMean : Spec := fun args h nx K => match args with
  | [.int .u64 a, .int .u64 b] => K (.ret (.int .u64 (meanV a.toNat b.toNat))) h nx
  | _ => False
theorem sMean_ok : SpecOK Tryd.prog 55 sMean := by
  refine specOK_pure (fn := Tryd.f55) rfl rfl rfl T_ok (SP := [(63, sCaughtM)]) (consSP sCaughtM_ok noSP) [] trivial 100 _ ?_
  intro args h nx K hs
  unfold sMean at hs
  split at hs
  · rename_i a b
    refine ⟨trivial, by repeat constructor, by simp [Tryd.f55], fun o => o = .ret (.int .u64 (meanV a.toNat b.toNat)), ?_, ?_⟩
    · rintro o rfl; exact ⟨trivial, hs⟩
    intro c hc
    intro b0 b1
    refine ⟨_, a, b, _, _, rfl, ⟨rfl, rfl, rfl⟩, ⟨rfl, rfl, rfl⟩, ?_⟩
    refine outI ?_
    unfold meanV
    cases isN a.toNat <;> cases isN b.toNat <;> rfl
  · exact hs.elim
def sPerc : Spec := fun args h nx K => match args with
  | [.int .u64 a] => K (.ret (.int .i64 (percV a.toNat))) h nx
  | _ => False
theorem sPerc_ok : SpecOK Tryd.prog 26 sPerc := by
  refine specOK_pure (fn := Tryd.f26) rfl rfl rfl T_ok (SP := [(47, sCaughtP)]) (consSP sCaughtP_ok noSP) [] trivial 100 _ ?_
  intro args h nx K hs
  unfold sPerc at hs
  split at hs
  · rename_i a
    refine ⟨trivial, by repeat constructor, by simp [Tryd.f26], fun o => o = .ret (.int .i64 (percV a.toNat)), ?_, ?_⟩
    · rintro o rfl; exact ⟨trivial, hs⟩
    intro c hc
    intro b0
    refine ⟨_, a, _, rfl, ⟨rfl, rfl, rfl⟩, ?_⟩
    refine outI ?_
    cases e : isN a.toNat with
    | true => simp [percV, e]
    | false => rfl
  · exact hs.elim

end Go.Proofs.YtmohokeeglnliaaDoor.Sx
