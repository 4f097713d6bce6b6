import Derived.Test.YtkncijljkfpdiaaSxW2
/-
  A list of a lane, read: its clone (32), its ends (36).
-/
namespace Go.Proofs.Ytkncijljkfpdiaa.Sx
open Go Go.Proofs
set_option maxRecDepth 100000
set_option linter.unusedSimpArgs false
set_option linter.unusedVariables false

theorem intT : appT T 28 := ⟨_, _, rfl, rfl, rfl, rfl, rfl⟩
/-- A row that is read and holds these numbers, or none. -/
def rdE (e : Ent) (l : List Int) (cap : Nat) : Prop :=
  (l = [] ∧ cap = 0 ∧ e = .ro none 0 1 (gl [])) ∨ ∃ b g, e = .ro (some b) cap 1 g ∧ l.length ≤ cap ∧ cap ≤ 9223372036854775807 ∧ (∀ j, j < l.length → g j 0 = .int .i64 (l.getD j 0)) ∧ ∀ j, j < cap → flat (g j 0)
theorem lstE.rdE {e : Ent} {l : List Int} {cap : Nat} (hl : lstE e l cap) : rdE e.toRo l cap := by
  rcases hl with ⟨rfl, rfl, rfl⟩ | ⟨b, g, ty, rfl, h1, h2, h3, h4⟩
  · exact .inl ⟨rfl, rfl, rfl⟩
  · exact .inr ⟨_, g, rfl, h1, h2, h3, h4⟩
theorem rdE.toRo {e : Ent} {l : List Int} {cap : Nat} (hl : rdE e l cap) : e.toRo = e := by
  rcases hl with ⟨rfl, rfl, rfl⟩ | ⟨b, g, rfl, h1, h2, h3, h4⟩ <;> rfl
theorem rdE.cap {e : Ent} {l : List Int} {cap : Nat} (hl : rdE e l cap) : l.length ≤ cap := by
  rcases hl with ⟨rfl, rfl, rfl⟩ | ⟨b, g, rfl, h1, h2, h3, h4⟩
  · simp
  · exact h1
theorem rdE.here {e : Ent} {l : List Int} {cap : Nat} (hl : rdE e l cap) : e.here := by
  rcases hl with ⟨rfl, rfl, rfl⟩ | ⟨b, g, rfl, h1, h2, h3, h4⟩ <;> trivial
theorem rdE.wk {e : Ent} {l : List Int} {cap : Nat} (hl : rdE e l cap) (τ : Nat → Nat) (h' : Hp) : wkE τ h' e e := by
  rcases hl with ⟨rfl, rfl, rfl⟩ | ⟨b, g, rfl, h1, h2, h3, h4⟩
  · exact ⟨rfl, rfl, rfl, fun i c hi => by omega⟩
  · refine ⟨rfl, rfl, rfl, fun i c hi hc => ?_⟩
    obtain rfl : c = 0 := by omega
    exact flat_rn _ (h4 i hi)
theorem rdE.rd {e : Ent} {l : List Int} {cap : Nat} (hl : rdE e l cap) {h : Hp} {t : Nat} (ht : fd t (roH h) = e) : rdL h (.slice t 0 l.length cap) l := by
  rcases hl with ⟨rfl, rfl, rfl⟩ | ⟨b, g, rfl, h1, h2, h3, h4⟩
  · exact .inr ⟨t, 0, 0, none, 0, gl [], rfl, ht, Nat.le_refl _, fun j hj => by simp at hj⟩
  · exact .inr ⟨t, 0, cap, some b, cap, g, rfl, ht, by omega, fun j hj => by rw [Nat.zero_add]; exact h3 j hj⟩
theorem live_fd {h : Hp} {t : Nat} {e : Ent} (q : fd t h = e) (he : e.here) : live h t := by unfold live; rw [q]; exact he
theorem told_rd {h : Hp} {t cp : Nat} {e : Ent} {l : List Int} {rest : List V} (ht : fd t (roH h) = e) (hl : rdE e l cp) (hf : flatL rest) : Told h (.slice t 0 l.length cp :: rest) [(2000, e)] (.slice 2000 0 l.length cp :: rest) := by
  refine told_wk (tau [(2000, t)]) rfl ⟨?_, trivial⟩ ⟨⟨⟨rfl, live_fd rfl hl.here⟩, rfl, rfl, rfl⟩, flatL_rn _ hf⟩
  show wkE _ _ (fd t (roH h)) e
  rw [ht]; exact hl.wk _ _

theorem vc_move {E : Env} {n : Nat} {d : Option Nat} {a ty : Nat} {pos : String} {aft : Array Edge} {all l : List Oper} {k : List It} {v : V} {σ : Sl} {h : Hp} {nx : Nat} (e1 : lk a σ = some v)
    (hk : putS E.fn.ntmps d v σ fun σ' => vc E n (.ops all l :: k) σ' h nx) : vc E (n + 1) (.ops all (⟨d, .move (.tmp a), ty, pos, aft, none⟩ :: l) :: k) σ h nx :=
  show opnd σ h (.tmp a) (fun v => putS E.fn.ntmps d v σ fun σ' => vc E n (.ops all l :: k) σ' h nx) from opnd_tmp e1 hk
def sClone : Spec := fun args h nx K => ∃ t cp e l, args = [.slice t 0 l.length cp] ∧ fd t (roH h) = e ∧ rdE e l cp ∧ l.length ≤ 1000000 ∧ fd nx h = .gone ∧ newL l h nx K
theorem sClone_ok : SpecOK Try.prog 32 sClone := by
  refine specOK_newL (fn := Try.f32) rfl rfl rfl T_ok (SP := []) noSP _ ?_
  rintro args h nx K ⟨t, cp, e, l, rfl, ht, hl, hn, hg, hk⟩
  refine ⟨hg, _, _, l, told_rd (rest := []) ht hl trivial, by simp [Try.f32], hk, ?_⟩
  intro cx hcx
  clear hk ht
  have hE := mkE' (fn := Try.f32) (R := fun o h _ => retL l o h) hcx noSP
  rcases hl with ⟨rfl, rfl, rfl⟩ | ⟨b, g, rfl, h1, h2, h3, h4⟩
  · refine vc_sound hE 40 _ _ _ 0 ?_
    exact .inl ⟨rfl, rfl⟩
  · refine vc_sound hE 40 _ _ _ 30 ?_
    intro b1
    refine putS_some rfl ?_
    refine vc_move (v := .slice 2000 0 l.length cp) rfl (putS_some rfl ?_)
    refine vc_app (v := .slice 30 0 0 0) (u := .slice 2000 0 l.length cp) rfl rfl ?_
    refine app_L (l := []) (m := l) intT (.inr ⟨30, 0, 0, _, 0, _, rfl, rfl, Nat.le_refl _, fun i hi => by simp at hi⟩) (fun tv i n c q => by cases q; exact Nat.le_refl _) (.inr ⟨2000, 0, cp, _, cp, g, rfl, rfl, by omega, fun j hj => by rw [Nat.zero_add]; exact h3 j hj⟩) rfl (by simp only [List.length_nil, Nat.zero_add]; omega) ?_ ?_ ?_
    · rintro rfl
      exact Or.inr ⟨30, 0, _, _, _, rfl, rfl, Nat.le_refl _, by omega, fun j hj => by simp at hj, fun j hj => by omega⟩
    · rintro tv i c q hne hle
      cases q
      have : 0 < l.length := List.length_pos_iff.2 hne
      exact absurd hle (by simp; omega)
    · intro hne b2 cap g' ty p1 p2 p3
      exact Or.inr ⟨31, cap, b2, g', ty, rfl, rfl, p1, p2, p3.1, p3.2⟩

/-! ### A row's cell, told alone -/
theorem fd_none : ∀ (h : Hp) (t : Nat), (∀ p ∈ h, p.1 < t) → fd t h = .gone
  | [], _, _ => rfl
  | (u, e) :: h, t, H => by
    rw [fd_cons, if_neg (by have := H _ List.mem_cons_self; simp only at this; omega)]
    exact fd_none h t fun p hp => H p (List.mem_cons_of_mem _ hp)
theorem fd_fresh (h : Hp) : ∃ t, fd t h = .gone := by
  suffices ∃ m, ∀ p ∈ h, p.1 < m from let ⟨m, hm⟩ := this; ⟨m, fd_none h m hm⟩
  induction h with
  | nil => exact ⟨0, fun p hp => by cases hp⟩
  | cons q h ih =>
    obtain ⟨m, hm⟩ := ih
    refine ⟨max m (q.1 + 1), fun p hp => ?_⟩
    rcases List.mem_cons.1 hp with rfl | hp
    · omega
    · have := hm p hp; omega
theorem Rel.window {c : Cx} {h : Hp} {w : World} (hr : Rel c h w) {t t' n sz B i : Nat} {g : Nat → Nat → V} (e : fd t h = .ro (some ⟨B, 0, none⟩) n sz g) (hi : i < n) (hg : fd t' h = .gone) : Rel c ((t', .ro (some ⟨B, i * sz, none⟩) 1 sz (fun _ k => g i k)) :: h) w := by
  have hx : Ext h ((t', .ro (some ⟨B, i * sz, none⟩) 1 sz (fun _ k => g i k)) :: h) := Ext.new (by rw [hg]; rfl)
  refine ⟨hr.fr, fun u => ?_, fun u u' hne => ?_, hr.tabs⟩
  · rw [fd_cons]
    split
    · intro j k hj hk
      have H := hr.holds t
      rw [e] at H
      obtain ⟨ad, x, e1, e2, e3, e4⟩ := H i k hi hk
      injection e1 with e1
      subst e1
      obtain rfl : j = 0 := by omega
      refine ⟨_, x, rfl, ?_, vrel_mono hx _ _ e3, e4⟩
      rw [add_plain] at e2
      rw [← add_plain, add_add, add_plain, show i * sz + (0 * sz + k) = i * sz + k by omega]
      exact e2
    · exact Ent.holds_heap hx (fun b _ => rfl) (hr.holds u)
  · rw [fd_cons, fd_cons]
    split
    · exact Ent.apart_of fun b b' e1 e2 => by cases e1
    · split
      · exact Ent.apart_of fun b b' e1 e2 => by cases e2
      · exact hr.apart u u' hne
abbrev HWin (B b cp : Nat) (l : List Int) (e : Ent) : Hp := [(2000, .ro (some ⟨B, b * 1, none⟩) 1 1 (fun _ _ => .slice 2001 0 l.length cp)), (2001, e)]
theorem told_win {h : Hp} {B n b q cp : Nat} {g : Nat → Nat → V} {e : Ent} {l : List Int} {rest : List V} (e2 : fd 2 (roH h) = .ro (some ⟨B, 0, none⟩) n 1 g) (hb : b < n) (hg : g b 0 = .slice q 0 l.length cp) (hq : fd q (roH h) = e) (hl : rdE e l cp) (hf : flatL rest) : Told h (.ptr 2 b 0 :: rest) (HWin B b cp l e) (.ptr 2000 0 0 :: rest) := by
  refine ⟨fun {c w xs} hr hv => ?_⟩
  obtain ⟨t', ht'⟩ := fd_fresh (roH h)
  have hr1 := Rel.window hr.ro e2 hb ht'
  have hx : Ext (roH h) ((t', .ro (some ⟨B, b * 1, none⟩) 1 1 (fun _ k => g b k)) :: roH h) := Ext.new (by rw [ht']; rfl)
  have hqt : q ≠ t' := by
    rintro rfl
    rw [ht'] at hq
    rw [← hq] at hl
    exact hl.here
  have hw : wkH (tau [(2000, t'), (2001, q)]) ((t', .ro (some ⟨B, b * 1, none⟩) 1 1 (fun _ k => g b k)) :: roH h) (HWin B b cp l e) (HWin B b cp l e) := by
    refine ⟨?_, ?_, trivial⟩
    · show wkE _ _ (fd t' _) _
      rw [fd_cons, if_pos rfl]
      refine ⟨rfl, rfl, rfl, fun i c hi hc => ?_⟩
      obtain rfl : c = 0 := by omega
      show rn _ _ (g b 0) _
      rw [hg]
      exact ⟨⟨rfl, live_fd (e := e) rfl hl.here⟩, rfl, rfl, rfl⟩
    · show wkE _ _ (fd q _) _
      rw [fd_cons, if_neg hqt, hq]
      exact hl.wk _ _
  refine ⟨wk_rel ?_ hw hr1, ?_⟩
  · show nodupB [t', q] = true
    have : Nat.beq t' q = false := beq_ne (Ne.symm hqt)
    simp [nodupB, memB, this]
  · obtain ⟨y, ys, rfl, ⟨ad, sz, ry, rfl⟩, rys⟩ := vrelL_ro hv
    rw [e2] at ry
    injection ry with ry
    injection ry with ry1 ry2
    injection ry1 with ry1
    subst ry1 ry2
    exact ⟨_, ys, rfl, ⟨_, 1, rfl, by simp [add_plain]; rfl⟩, flatL_rel _ _ hf rys⟩

def endI (l : List Int) (last : Bool) : Int × Bool := if l = [] then (0, false) else if last then (l.getD (l.length - 1) 0, true) else (l.getD 0 0, true)
def sREnd : Spec := fun args h nx K => ∃ B n b q cp g e l last, args = [.ptr 2 b 0, .bool last] ∧ fd 2 (roH h) = .ro (some ⟨B, 0, none⟩) n 1 g ∧ b < n ∧ g b 0 = .slice q 0 l.length cp ∧ fd q (roH h) = e ∧ rdE e l cp ∧ l.length ≤ 1000000 ∧ K (.ret (.tup [.int .i64 (endI l last).1, .bool (endI l last).2])) h nx
theorem sREnd_ok : SpecOK Try.prog 36 sREnd := by
  refine specOK_read2 (fn := Try.f36) rfl rfl rfl T_ok (SP := []) noSP 0 _ ?_
  rintro args h nx K ⟨B, n, b, q, cp, g, e, l, last, rfl, e2, hb, hg, hq, hl, hn, hk⟩
  refine ⟨_, _, told_win (rest := [.bool last]) e2 hb hg hq hl ⟨trivial, trivial⟩, by simp [Try.f36], fun o => o = .ret (.tup [.int .i64 (endI l last).1, .bool (endI l last).2]), ?_, ?_⟩
  · rintro o rfl; exact ⟨⟨trivial, trivial, trivial⟩, hk⟩
  intro cx hcx
  clear hk e2 hq hg
  show W _ _ _ _ 0
  have hE := mkE' (fn := Try.f36) (R := fun o _ _ => o = .ret (.tup [.int .i64 (endI l last).1, .bool (endI l last).2])) hcx noSP
  rcases hl with ⟨rfl, rfl, rfl⟩ | ⟨b, g, rfl, h1, h2, h3, h4⟩
  · refine vc_sound hE 100 _ _ _ 0 ?_
    rfl
  refine vc_sound hE 100 _ _ _ 0 ?_
  (refine (?_ : br _ _ _); refine br_eq (fun e => ?_) (fun e => ?_))
  · have e : (l.length : Int) = 0 := e
    have : l = [] := List.eq_nil_of_length_eq_zero (by omega)
    subst this
    rfl
  have e : (l.length : Int) ≠ 0 := e
  have hne : l ≠ [] := by rintro rfl; exact e rfl
  have hpos : 0 < l.length := List.length_pos_iff.2 hne
  have he : ∀ last, endI l last = if last then (l.getD (l.length - 1) 0, true) else (l.getD 0 0, true) := fun last => by unfold endI; rw [if_neg hne]
  cases last
  · rw [he, if_neg (by simp)]
    have hz : addI 0 ((0 : Int)).toNat = 0 := rfl
    (refine (?_ : chk _ _); refine chk_ok (show (decide ((0 : Int) ≤ (0 : Int)) && decide ((0 : Int) < (l.length : Int))) = true by simp only [Bool.and_eq_true, decide_eq_true_eq]; omega) ?_)
    (refine (?_ : chk _ _); refine chk_ok rfl ?_)
    (refine (?_ : chk _ _); refine chk_ok (Nat.ble_eq_true_of_le (show addI 0 ((0 : Int)).toNat * 1 + 0 + 1 ≤ cp * 1 by rw [hz]; omega)) ?_)
    have hg : g (addI 0 ((0 : Int)).toNat + 0 / 1) (0 % 1) = .int .i64 (l.getD 0 0) := h3 0 hpos
    (refine (?_ : chk _ _); refine chk_ok rfl ?_)
    rw [hg]
    rfl
  · rw [he, if_pos rfl]
    have hw : IntKind.i64.wrap ((l.length : Int) - 1) = ((l.length - 1 : Nat) : Int) := by simp only [IntKind.wrap_i64]; omega
    have hz : addI 0 (IntKind.i64.wrap ((l.length : Int) - 1)).toNat = l.length - 1 := by rw [hw, Int.toNat_natCast, addI_eq, Nat.zero_add]
    (refine (?_ : chk _ _); refine chk_ok (show (decide ((0 : Int) ≤ IntKind.i64.wrap ((l.length : Int) - 1)) && decide (IntKind.i64.wrap ((l.length : Int) - 1) < (l.length : Int))) = true by rw [hw]; simp only [Bool.and_eq_true, decide_eq_true_eq]; omega) ?_)
    (refine (?_ : chk _ _); refine chk_ok rfl ?_)
    (refine (?_ : chk _ _); refine chk_ok (Nat.ble_eq_true_of_le (show addI 0 (IntKind.i64.wrap ((l.length : Int) - 1)).toNat * 1 + 0 + 1 ≤ cp * 1 by rw [hz]; omega)) ?_)
    have hg : g (addI 0 (IntKind.i64.wrap ((l.length : Int) - 1)).toNat + 0 / 1) (0 % 1) = .int .i64 (l.getD (l.length - 1) 0) := by
      rw [hz]; exact h3 (l.length - 1) (by omega)
    (refine (?_ : chk _ _); refine chk_ok rfl ?_)
    rw [hg]
    rfl
end Go.Proofs.Ytkncijljkfpdiaa.Sx
