import Derived.Test.YtkncijljkfpdiaaSxT
import Derived.Test.YtkncijljkfpdiaaSxCl
import Derived.Test.YtkncijljkfpdiaaSxPn
/-
  The lanes: Len, Block, is.
-/
namespace Go.Proofs.Ytkncijljkfpdiaa.Sx
open Go Go.Proofs
set_option maxRecDepth 100000
set_option linter.unusedSimpArgs false
set_option linter.unusedVariables false

theorem mix : Try.prog.follows .mixedOrders = true := by kernel_rfl
theorem noSP {P : Program} : ∀ p ∈ ([] : SpT), SpecOK P p.1 p.2 := by intro p hp; cases hp
theorem consSP {P : Program} {f : Nat} {s : Spec} {l : SpT} (h : SpecOK P f s) (k : ∀ p ∈ l, SpecOK P p.1 p.2) : ∀ p ∈ (f, s) :: l, SpecOK P p.1 p.2 := by
  intro p hp
  rcases List.mem_cons.1 hp with rfl | hp
  · exact h
  · exact k p hp

theorem vrel_ro {h : Hp} {v : V} {x : Value} (r : vrel h v x) : vrel (roH h) v x := vrel_mono (fun t r e => by rw [fd_roH, Ent.toRo_rf]; exact e) v x r
theorem vrelL_ro {h : Hp} {l : List V} {xs : List Value} (r : vrelL h l xs) : vrelL (roH h) l xs := vrelL_mono (fun t r e => by rw [fd_roH, Ent.toRo_rf]; exact e) l xs r
/-- What is known, told anew, to a reader. -/
theorem told_wk {h G : Hp} {args args' : List V} (τ : Nat → Nat) (hn : nodupB ((G.map (·.1)).map τ) = true) (hw : wkH τ (roH h) G G) (ha : rnL τ G args args') : Told h args G args' :=
  ⟨fun hr hv => ⟨wk_rel hn hw hr.ro, rnL_rel (fun t' hl => wkE_rf (wkH_at hw _ _ (fd_mem hl)) hl) _ _ _ ha (vrelL_ro hv)⟩⟩
theorem mkE' {c : Cx} (hc : c.P = Try.prog) {fn : Func} {SP : SpT} {R : Out → Hp → Nat → Prop} (hS : ∀ p ∈ SP, SpecOK Try.prog p.1 p.2) : EnvOK ⟨c, fn, T, SP, R⟩ := mkE hc T_ok hS

/-- The struct: the rows, the room, the map. -/
def gLn (n room : Nat) : Nat → Nat → V := fun _ c => match c with
  | 0 => .slice 2 0 n n
  | 1 => .int .i64 room
  | _ => .map 9
/-- Lanes lie at the tag 8, to a reader; their rows lie at the tag 2. -/
def lnR (h : Hp) (n room : Nat) (l : List (Int × Int)) : Prop := ∃ (bL bM bR : Nat) (gR : Nat → Nat → V), fd 8 (roH h) = .ro (some ⟨bL, 0, none⟩) 1 3 (gLn n room) ∧ fd 9 (roH h) = .rmp bM l ∧ fd 2 (roH h) = .ro (some ⟨bR, 0, none⟩) n 1 gR
abbrev HLr (bL bM bR : Nat) (gR : Nat → Nat → V) (n room : Nat) (l : List (Int × Int)) : Hp := [(8, .ro (some ⟨bL, 0, none⟩) 1 3 (gLn n room)), (9, .rmp bM l), (2, .ro (some ⟨bR, 0, none⟩) n 1 gR)]
theorem gLn_rn {h' : Hp} {n room c : Nat} (v2 : live h' 2) (v9 : live h' 9) (hc : c < 3) : rn (tau []) h' (gLn n room 0 c) (gLn n room 0 c) := by
  match c, hc with
  | 0, _ => exact ⟨⟨rfl, v2⟩, rfl, rfl, rfl⟩
  | 1, _ => exact ⟨rfl, rfl⟩
  | 2, _ => exact ⟨rfl, v9⟩
/-- What is told of a row need say nothing of its cells. -/
theorem Rel.forget {c : Cx} {h : Hp} {w : World} (hr : Rel c h w) {t n sz : Nat} {base : Option Addr} {g : Nat → Nat → V} (e : fd t h = .ro base n sz g) (g' : Nat → Nat → V) : Rel c ((t, .ro base 0 sz g') :: h) w := by
  have hx : Ext h ((t, .ro base 0 sz g') :: h) := Ext.same (by rw [e]; rfl)
  refine ⟨hr.fr, fun u => ?_, fun u u' hne => ?_, hr.tabs⟩
  · rw [fd_cons]
    split
    · exact fun i k hi hk => absurd hi (by omega)
    · exact Ent.holds_heap hx (fun b _ => rfl) (hr.holds u)
  · rw [fd_cons, fd_cons]
    split
    · exact Ent.apart_of fun b b' e1 e2 => by cases e1
    · split
      · exact Ent.apart_of fun b b' e1 e2 => by cases e2
      · exact hr.apart u u' hne
abbrev HL0 (bL bM bR : Nat) (n room : Nat) (l : List (Int × Int)) : Hp := [(8, .ro (some ⟨bL, 0, none⟩) 1 3 (gLn n room)), (9, .rmp bM l), (2, .ro (some ⟨bR, 0, none⟩) 0 1 (gl []))]
theorem told_ln {h : Hp} {n room : Nat} {l : List (Int × Int)} {rest : List V} (hp : lnR h n room l) (hf : flatL rest) : ∃ bL bM bR, Told h (.ptr 8 0 0 :: rest) (HL0 bL bM bR n room l) (.ptr 8 0 0 :: rest) := by
  obtain ⟨bL, bM, bR, gR, e1, e2, e3⟩ := hp
  refine ⟨bL, bM, bR, ⟨fun {c w xs} hr hv => ?_⟩⟩
  have hr2 := Rel.forget hr.ro e3 (gl [])
  have hx : Ext (roH h) ((2, .ro (some ⟨bR, 0, none⟩) 0 1 (gl [])) :: roH h) := Ext.same (by rw [e3]; rfl)
  have f8 : fd 8 ((2, Ent.ro (some ⟨bR, 0, none⟩) 0 1 (gl [])) :: roH h) = fd 8 (roH h) := rfl
  have f9 : fd 9 ((2, Ent.ro (some ⟨bR, 0, none⟩) 0 1 (gl [])) :: roH h) = fd 9 (roH h) := rfl
  have hw : wkH (tau []) ((2, .ro (some ⟨bR, 0, none⟩) 0 1 (gl [])) :: roH h) (HL0 bL bM bR n room l) (HL0 bL bM bR n room l) := by
    refine ⟨?_, ?_, ⟨rfl, rfl, rfl, fun i c hi hc => by omega⟩, trivial⟩
    · show wkE _ _ (fd 8 (roH h)) _
      rw [e1]; exact ⟨rfl, rfl, rfl, fun i c hi hc => by obtain rfl : i = 0 := (by omega); exact gLn_rn trivial trivial hc⟩
    · show wkE _ _ (fd 9 (roH h)) _
      rw [e2]; exact ⟨rfl, rfl⟩
  exact ⟨wk_rel rfl hw hr2, rnL_rel (fun t' hl => wkE_rf (wkH_at hw _ _ (fd_mem hl)) hl) _ _ _ (show rnL (tau []) (HL0 bL bM bR n room l) (.ptr 8 0 0 :: rest) (.ptr 8 0 0 :: rest) from ⟨⟨⟨rfl, trivial⟩, rfl, rfl⟩, flatL_rn _ hf⟩) (vrelL_mono hx _ _ (vrelL_ro hv))⟩

def sLen : Spec := fun args h nx K => ∃ (n room : Nat) (l : List (Int × Int)), args = [.ptr 8 0 0] ∧ lnR h n room l ∧ K (.ret (.int .i64 l.length)) h nx
theorem sLen_ok : SpecOK Try.prog 11 sLen := by
  refine specOK_read2 (fn := Try.f11) rfl rfl rfl T_ok (SP := []) noSP 40 _ ?_
  rintro args h nx K ⟨n, room, l, rfl, hp, hk⟩
  obtain ⟨bL, bM, bR, told⟩ := told_ln (rest := []) hp trivial
  refine ⟨_, _, told, by simp [Try.f11], fun o => o = .ret (.int .i64 l.length), ?_, ?_⟩
  · rintro o rfl; exact ⟨trivial, hk⟩
  intro c hc
  rfl
def sBlock : Spec := fun args h nx K => ∃ (n room : Nat) (l : List (Int × Int)) (t : Int), args = [.ptr 8 0 0, .int .i64 t] ∧ lnR h n room l ∧ K (.ret (.tup [.int .i64 (mget l t), .bool (mhas l t)])) h nx
theorem sBlock_ok : SpecOK Try.prog 13 sBlock := by
  refine specOK_read2 (fn := Try.f13) rfl rfl rfl T_ok (SP := []) noSP 60 _ ?_
  rintro args h nx K ⟨n, room, l, t, rfl, hp, hk⟩
  obtain ⟨bL, bM, bR, told⟩ := told_ln (rest := [.int .i64 t]) hp ⟨trivial, trivial⟩
  refine ⟨_, _, told, by simp [Try.f13], fun o => o = .ret (.tup [.int .i64 (mget l t), .bool (mhas l t)]), ?_, ?_⟩
  · rintro o rfl; exact ⟨⟨trivial, trivial, trivial⟩, hk⟩
  intro c hc
  rfl
def isI (n : Nat) (k : Int) : Bool := decide (0 ≤ k ∧ k < n)
def sIs : Spec := fun args h nx K => ∃ (n room : Nat) (l : List (Int × Int)) (k : Int), args = [.ptr 8 0 0, .int .i64 k] ∧ lnR h n room l ∧ K (.ret (.bool (isI n k))) h nx
theorem sIs_ok : SpecOK Try.prog 28 sIs := by
  refine specOK_read2 (fn := Try.f28) rfl rfl rfl T_ok (SP := []) noSP 60 _ ?_
  rintro args h nx K ⟨n, room, l, k, rfl, hp, hk⟩
  obtain ⟨bL, bM, bR, told⟩ := told_ln (rest := [.int .i64 k]) hp ⟨trivial, trivial⟩
  refine ⟨_, _, told, by simp [Try.f28], fun o => o = .ret (.bool (isI n k)), ?_, ?_⟩
  · rintro o rfl; exact ⟨trivial, hk⟩
  intro c hc
  (refine (?_ : br _ _ _); refine br_dec (fun q => ?_) (fun q => ?_))
  · have q : 0 ≤ k := q
    show Out.ret (.bool (decide (k < (n : Int)))) = _
    unfold isI
    simp [q]
  · have q : ¬ 0 ≤ k := q
    show Out.ret (.bool _) = _
    unfold isI
    simp [q]
end Go.Proofs.Ytkncijljkfpdiaa.Sx
