import Derived.Test.YtkncijljkfpdiaaSxW9
/-
  The lanes, read: end (31), Head (14), Last (15), Lane (17).
-/
namespace Go.Proofs.Ytkncijljkfpdiaa.Sx
open Go Go.Proofs
set_option maxRecDepth 100000
set_option linter.unusedSimpArgs false
set_option linter.unusedVariables false

theorem told_fdeq {h G : Hp} {args : List V} (he : ∀ t, fd t G = fd t (roH h)) : Told h args G args := ⟨fun hr hv => ⟨hr.ro.fdeq he, vrelL_mono (Ext.fdeq he) _ _ (vrelL_ro hv)⟩⟩
/-- Lanes that are read. -/
structure LnRd (h : Hp) (bL bM bR n room : Nat) (g : Nat → Nat → V) (S : Std) (q cp : Nat → Nat) : Prop where
  str : fd 8 (roH h) = .ro (some ⟨bL, 0, none⟩) 1 3 (gLn n room)
  map : fd 9 (roH h) = .rmp bM (mpS S)
  row : fd 2 (roH h) = .ro (some ⟨bR, 0, none⟩) n 1 g
  cell : ∀ i, i < n → g i 0 = .slice (q i) 0 (lane S i).length (cp i)
  is : ∀ i, i < n → rdE (fd (q i) (roH h)) (lane S i) (cp i)
  inj : ∀ i j, i < n → j < n → q i = q j → i = j
  low : ∀ i, i < n → 1000 ≤ q i
theorem Ren1.inj {τ : Nat → Nat} (hτ : Ren1 τ) : (∀ i j, τ (i + 3000) = τ (j + 3000) → i = j) ∧ ∀ i, 1000 ≤ τ (i + 3000) := by
  obtain ⟨b, q, h1, h2⟩ := hτ
  refine ⟨fun i j e => ?_, fun i => ?_⟩
  · rw [h2, h2] at e
    split at e <;> split at e <;> (try split at e) <;> (try split at e) <;> omega
  · rw [h2]; split <;> (try split) <;> omega
theorem LnQ.rd {h : Hp} {bL bM bR n room : Nat} {g : Nat → Nat → V} {S : Std} {e : Nat → Ent} {cp : Nat → Nat} {τ : Nat → Nat} (H : LnQ h bL bM bR n room g S e cp τ) (hτ : Ren1 τ) : LnRd h bL bM bR n room g S (fun i => τ (i + 3000)) cp :=
  ⟨by rw [fd_roH, H.str]; rfl, by rw [fd_roH, H.map]; rfl, by rw [fd_roH, H.row]; rfl, H.cell, fun i hi => by rw [fd_roH, H.lst i hi]; exact (H.is i hi).rdE, fun i j _ _ q => hτ.inj.1 i j q, fun i _ => hτ.inj.2 i⟩
abbrev HRd (bL bM bR n room : Nat) (g : Nat → Nat → V) (S : Std) (h : Hp) : Hp := (2, .ro (some ⟨bR, 0, none⟩) n 1 g) :: (9, .rmp bM (mpS S)) :: (8, .ro (some ⟨bL, 0, none⟩) 1 3 (gLn n room)) :: roH h
theorem LnRd.eq {h : Hp} {bL bM bR n room : Nat} {g : Nat → Nat → V} {S : Std} {q cp : Nat → Nat} (H : LnRd h bL bM bR n room g S q cp) : ∀ t, fd t (HRd bL bM bR n room g S h) = fd t (roH h) := fdeq_cons2 H.row (fdeq_cons2 H.map (fdeq_cons H.str))
theorem toRo_toRo {e : Ent} : e.toRo.toRo = e.toRo := by cases e <;> rfl
theorem LnRd.fdeq {h h' : Hp} {bL bM bR n room : Nat} {g : Nat → Nat → V} {S : Std} {q cp : Nat → Nat} (he : ∀ t, fd t (roH h') = fd t (roH h)) (H : LnRd h bL bM bR n room g S q cp) : LnRd h' bL bM bR n room g S q cp :=
  ⟨by rw [he]; exact H.str, by rw [he]; exact H.map, by rw [he]; exact H.row, H.cell, fun i hi => by rw [he]; exact H.is i hi, H.inj, H.low⟩
theorem LnRd.ro {h : Hp} {bL bM bR n room : Nat} {g : Nat → Nat → V} {S : Std} {q cp : Nat → Nat} (H : LnRd h bL bM bR n room g S q cp) : lnR h n room (mpS S) := ⟨bL, bM, bR, g, H.str, H.map, H.row⟩
theorem LnRd.again {h : Hp} {bL bM bR n room : Nat} {g : Nat → Nat → V} {S : Std} {q cp : Nat → Nat} (H : LnRd h bL bM bR n room g S q cp) : LnRd (HRd bL bM bR n room g S h) bL bM bR n room g S q cp :=
  H.fdeq fun t => by rw [fd_roH, H.eq, fd_roH, toRo_toRo]

def endL (n : Nat) (S : Std) (b : Int) (last : Bool) : Int × Bool := if isI n b = true then endI (lane S b.toNat) last else (0, false)
def sEnd : Spec := fun args h nx K => ∃ (bL bM bR n room : Nat) (g : Nat → Nat → V) (S : Std) (q cp : Nat → Nat) (b : Int) (last : Bool), args = [.ptr 8 0 0, .int .i64 b, .bool last] ∧ LnRd h bL bM bR n room g S q cp ∧ Fit n room S ∧
  K (.ret (.tup [.int .i64 (endL n S b last).1, .bool (endL n S b last).2])) h nx
theorem sEnd_ok : SpecOK Try.prog 31 sEnd := by
  refine specOK_read2 (fn := Try.f31) rfl rfl rfl T_ok (SP := [(28, sIs), (36, sREnd)]) (consSP sIs_ok (consSP sREnd_ok noSP)) 80 _ ?_
  rintro args h nx K ⟨bL, bM, bR, n, room, g, S, q, cp, b, last, rfl, H, hF, hk⟩
  refine ⟨HRd bL bM bR n room g S h, _, told_fdeq H.eq, by simp [Try.f31], fun o => o = .ret (.tup [.int .i64 (endL n S b last).1, .bool (endL n S b last).2]), ?_, ?_⟩
  · rintro o rfl; exact ⟨⟨trivial, trivial, trivial⟩, hk⟩
  intro c hc
  have H2 := H.again
  refine ⟨n, room, mpS S, b, rfl, H2.ro, ?_⟩
  (refine (?_ : br _ _ _); refine br_both (fun q1 => ?_) (fun q1 => ?_))
  · have q1 : isI n b = false := by simpa using q1
    have : endL n S b last = (0, false) := by unfold endL; rw [q1]; rfl
    rw [this]
    rfl
  have q1 : isI n b = true := by simpa using q1
  have hb : 0 ≤ b ∧ b < n := by unfold isI at q1; simpa using q1
  obtain ⟨bn, rfl⟩ : ∃ bn : Nat, b = (bn : Int) := ⟨b.toNat, by omega⟩
  have hbn : bn < n := by omega
  have hz : addI 0 (((bn : Nat) : Int)).toNat = bn := by rw [Int.toNat_natCast, addI_eq, Nat.zero_add]
  have he : endL n S (bn : Int) last = endI (lane S bn) last := by unfold endL; rw [if_pos q1, Int.toNat_natCast]
  (refine (?_ : chk _ _); refine chk_ok (show (decide ((0 : Int) ≤ (bn : Int)) && decide ((bn : Int) < (n : Int))) = true by simp only [Bool.and_eq_true, decide_eq_true_eq]; omega) ?_)
  (refine (?_ : chk _ _); refine chk_ok rfl ?_)
  rw [he]
  refine ⟨bR, n, bn, q bn, cp bn, g, _, lane S bn, last, (show [V.ptr 2 (addI 0 ((bn : Int)).toNat) 0, .bool last] = _ by rw [hz]), rfl, hbn, H.cell bn hbn, rfl, H2.is bn hbn, ?_, ?_⟩
  · have := lane_len (S := S) (b := bn); have := hF.len; have := hF.room; omega
  rfl

def sHd (last : Bool) : Spec := fun args h nx K => ∃ (bL bM bR n room : Nat) (g : Nat → Nat → V) (S : Std) (q cp : Nat → Nat) (b : Int), args = [.ptr 8 0 0, .int .i64 b] ∧ LnRd h bL bM bR n room g S q cp ∧ Fit n room S ∧
  K (.ret (.tup [.int .i64 (endL n S b last).1, .bool (endL n S b last).2])) h nx
theorem sHead_ok : SpecOK Try.prog 14 (sHd false) := by
  refine specOK_read2 (fn := Try.f14) rfl rfl rfl T_ok (SP := [(31, sEnd)]) (consSP sEnd_ok noSP) 80 _ ?_
  rintro args h nx K ⟨bL, bM, bR, n, room, g, S, q, cp, b, rfl, H, hF, hk⟩
  refine ⟨HRd bL bM bR n room g S h, _, told_fdeq H.eq, by simp [Try.f14], fun o => o = .ret (.tup [.int .i64 (endL n S b false).1, .bool (endL n S b false).2]), ?_, ?_⟩
  · rintro o rfl; exact ⟨⟨trivial, trivial, trivial⟩, hk⟩
  intro c hc
  exact ⟨bL, bM, bR, n, room, g, S, q, cp, b, false, rfl, H.again, hF, rfl⟩
theorem sLast_ok : SpecOK Try.prog 15 (sHd true) := by
  refine specOK_read2 (fn := Try.f15) rfl rfl rfl T_ok (SP := [(31, sEnd)]) (consSP sEnd_ok noSP) 80 _ ?_
  rintro args h nx K ⟨bL, bM, bR, n, room, g, S, q, cp, b, rfl, H, hF, hk⟩
  refine ⟨HRd bL bM bR n room g S h, _, told_fdeq H.eq, by simp [Try.f15], fun o => o = .ret (.tup [.int .i64 (endL n S b true).1, .bool (endL n S b true).2]), ?_, ?_⟩
  · rintro o rfl; exact ⟨⟨trivial, trivial, trivial⟩, hk⟩
  intro c hc
  exact ⟨bL, bM, bR, n, room, g, S, q, cp, b, true, rfl, H.again, hF, rfl⟩

/-- The answer of a function that makes a list, or none. -/
def retM (l : List Int) (o : Out) (h1 : Hp) : Prop := (l = [] ∧ o = .ret .nils) ∨ ∃ t cap e, o = .ret (.slice t 0 l.length cap) ∧ fd t h1 = e ∧ lstE e l cap
theorem specOK_newM {P : Program} {f : Nat} {fn : Func} {cd : Code} {T : Tab} {SP : SpT} (hf : P.funcs[f]? = some fn) (hx : (fn.name == "runtime.NumGoroutine") = false) (hb : fn.body = some cd) (hT : TabOK P T) (hS : ∀ p ∈ SP, SpecOK P p.1 p.2) (s : Spec)
    (hs : ∀ args h nx K, s args h nx K → fd nx h = .gone ∧ ∃ G args' l, Told h args G args' ∧ args'.length ≤ fn.ntmps ∧ newL l h nx K ∧ ∀ c, c.P = P → W ⟨c, fn, T, SP, fun o h _ => retM l o h⟩ [.code cd] (argsS args' 0) G 0) : SpecOK P f s := by
  intro c hc args h nx K hk w xs hr hv
  obtain ⟨hgone, G, args', l, H, hlen, hnew, hvc⟩ := hs _ _ _ _ hk
  subst hc
  have hE : EnvOK ⟨quiet c.P w, fn, T, SP, fun o h _ => retM l o h⟩ := ⟨hT, hS⟩
  obtain ⟨hr', hv'⟩ := H.rel hr hv
  refine .inl ⟨callFunc_enter hf hx hb _ w, ?_⟩
  refine (enterW hE (f := f) hf hb hv' hr' hlen (hvc _ rfl)).mono ?_
  rintro e w' ⟨o, h1, nx1, hp, hr1, hor⟩
  have hr2 := hr.after hr1.fr
  rcases hp with ⟨rfl, rfl⟩ | ⟨t, cap, ee, rfl, hfd, hl⟩
  · obtain ⟨hr3, hx3⟩ := hr2.ronil (nx := nx) (sz := 1) (g := gl []) hgone
    refine ⟨_, _, _, hnew _ 0 (.inl ⟨rfl, rfl, rfl⟩), hr3, hx3, ?_⟩
    obtain ⟨x, ex, rx⟩ := hor
    exact ⟨x, ex, tell_nil (h1 := h1) (by rw [fd_cons, if_pos rfl]) x rx⟩
  rcases hl with ⟨rfl, rfl, rfl⟩ | ⟨b, g, ty, rfl, h2, h3, h4, h5⟩
  · obtain ⟨hr3, hx3⟩ := hr2.ronil (nx := nx) (sz := 1) (g := gl []) hgone
    refine ⟨_, _, _, hnew _ 0 (.inl ⟨rfl, rfl, rfl⟩), hr3, hx3, ?_⟩
    obtain ⟨x, ex, rx⟩ := hor
    exact ⟨x, ex, tell_slice (h1 := h1) (by rw [fd_cons, if_pos rfl, hfd]) x rx⟩
  · have H := hr1.holds t
    rw [hfd] at H
    obtain ⟨⟨cs, c1, c2, c3⟩, c4⟩ := H
    have hb : w.heap.size ≤ b := by rcases c4 with c4 | c4; exact c4.elim; exact c4
    refine ⟨_, _, _, hnew _ cap (.inr ⟨b, g, ty, rfl, h2, h3, h4, h5⟩), hr2.add hgone ⟨⟨cs, c1, c2, fun i k hi hk => ?_⟩, .inr (Nat.le_trans hr.fr.size hb)⟩ (fun t' b' n' sz' g' ty' e' => ?_), Ext.new (by rw [hgone]; rfl), ?_⟩
    · obtain ⟨x, ex, rx⟩ := c3 i k hi hk
      obtain rfl : k = 0 := by omega
      exact ⟨x, ex, flat_rel _ _ (h5 i hi) rx⟩
    · have := hr.lt e'
      omega
    · obtain ⟨x, ex, rx⟩ := hor
      exact ⟨x, ex, tell_slice (h1 := h1) (by rw [fd_cons, if_pos rfl, hfd]) x rx⟩

def laneI (n : Nat) (S : Std) (b : Int) : List Int := if isI n b = true then lane S b.toNat else []
def sLane : Spec := fun args h nx K => ∃ (bL bM bR n room : Nat) (g : Nat → Nat → V) (S : Std) (q cp : Nat → Nat) (b : Int), args = [.ptr 8 0 0, .int .i64 b] ∧ LnRd h bL bM bR n room g S q cp ∧ Fit n room S ∧ fd nx h = .gone ∧
  newL (laneI n S b) h nx K
theorem sLane_ok : SpecOK Try.prog 17 sLane := by
  refine specOK_newM (fn := Try.f17) rfl rfl rfl T_ok (SP := [(28, sIs), (32, sClone)]) (consSP sIs_ok (consSP sClone_ok noSP)) _ ?_
  rintro args h nx K ⟨bL, bM, bR, n, room, g, S, q, cp, b, rfl, H, hF, hg, hk⟩
  refine ⟨hg, HRd bL bM bR n room g S h, _, _, told_fdeq H.eq, by simp [Try.f17], hk, fun c hc => ?_⟩
  have hE := mkE' (fn := Try.f17) (R := fun o h _ => retM (laneI n S b) o h) hc (consSP sIs_ok (consSP sClone_ok noSP))
  have H2 := H.again
  clear hk
  refine vc_sound hE 80 _ _ _ nx ?_
  refine ⟨n, room, mpS S, b, rfl, H2.ro, ?_⟩
  (refine (?_ : br _ _ _); refine br_both (fun q1 => ?_) (fun q1 => ?_))
  · have q1 : isI n b = false := by simpa using q1
    have : laneI n S b = [] := by unfold laneI; rw [q1]; rfl
    exact .inl ⟨this, rfl⟩
  have q1 : isI n b = true := by simpa using q1
  have hb : 0 ≤ b ∧ b < n := by unfold isI at q1; simpa using q1
  obtain ⟨bn, rfl⟩ : ∃ bn : Nat, b = (bn : Int) := ⟨b.toNat, by omega⟩
  have hbn : bn < n := by omega
  have hz : addI 0 (((bn : Nat) : Int)).toNat = bn := by rw [Int.toNat_natCast, addI_eq, Nat.zero_add]
  have he : laneI n S (bn : Int) = lane S bn := by unfold laneI; rw [if_pos q1, Int.toNat_natCast]
  rw [he]
  (refine (?_ : chk _ _); refine chk_ok (show (decide ((0 : Int) ≤ (bn : Int)) && decide ((bn : Int) < (n : Int))) = true by simp only [Bool.and_eq_true, decide_eq_true_eq]; omega) ?_)
  (refine (?_ : chk _ _); refine chk_ok rfl ?_)
  have hld : g (addI 0 ((bn : Int)).toNat + (0 + 0) / 1) ((0 + 0) % 1) = .slice (q bn) 0 (lane S bn).length (cp bn) := by rw [hz]; exact H.cell bn hbn
  (refine (?_ : chk _ _); refine chk_ok (Nat.ble_eq_true_of_le (show addI 0 ((bn : Int)).toNat * 1 + (0 + 0) + 1 ≤ n * 1 by rw [hz]; omega)) ?_)
  (refine (?_ : chk _ _); refine chk_ok rfl ?_)
  rw [hld]
  refine ⟨q bn, cp bn, _, lane S bn, rfl, rfl, H2.is bn hbn, ?_, ?_, fun e' cap hl => ?_⟩
  · have := lane_len (S := S) (b := bn); have := hF.len; have := hF.room; omega
  · rw [H.eq, fd_roH, hg]; rfl
  · exact Or.inr ⟨nx, cap, e', rfl, by rw [fd_cons, if_pos rfl], hl⟩
end Go.Proofs.Ytkncijljkfpdiaa.Sx
