import Derived.Test.YtgcnknhfphgfnaaSxLa
import Derived.Test.YtgcnknhfphgfnaaSxG2
/-
  The document's turns: find, has, State, May.
-/
namespace Go.Proofs.Ytgcnknhfphgfnaa.Sx
open Go Go.Proofs
set_option maxRecDepth 100000
set_option linter.unusedSimpArgs false
set_option linter.unusedVariables false

abbrev Dl := List (Int × Bool)
def dlC (p : Int × Bool) : Nat → V
  | 0 => .int .i64 p.1
  | _ => .bool p.2
def R2 : RK (Int × Bool) := ⟨2, 72, dlC, (0, false), by decide, fun a k hk => by
  match k, hk with
  | 0, _ => exact ⟨trivial, rfl⟩
  | 1, _ => exact ⟨trivial, rfl⟩⟩
theorem appT2 : appTK R2 T 46 := ⟨_, _, rfl, rfl, rfl, rfl, rfl, rfl, fun k hk => by
  match k, hk with
  | 0, _ => rfl
  | 1, _ => rfl⟩
/-- The place of a ticket in a row, or -1. -/
def fIdx (l : Dl) (t : Int) : Int := match l.findIdx? (fun p => p.1 == t) with | some i => (i : Int) | none => -1
theorem fIdx_some {l : Dl} {t : Int} {i : Nat} {p : Int × Bool} (h : l[i]? = some p) (hp : p.1 = t) (hb : ∀ (j : Nat) (q : Int × Bool), j < i → l[j]? = some q → q.1 ≠ t) : fIdx l t = i := by
  have hi := lt_of_at h
  have : l.findIdx? (fun p => p.1 == t) = some i := by
    rw [List.findIdx?_eq_some_iff_getElem]
    refine ⟨hi, ?_, fun j hj => ?_⟩
    · have := (List.getElem?_eq_some_iff.1 h).2
      rw [this]; simpa using hp
    · have := hb j _ hj (List.getElem?_eq_getElem (by omega))
      simpa using this
  unfold fIdx
  rw [this]
theorem fIdx_none {l : Dl} {t : Int} (hb : ∀ (j : Nat) (q : Int × Bool), l[j]? = some q → q.1 ≠ t) : fIdx l t = -1 := by
  have : l.findIdx? (fun p => p.1 == t) = none := by
    rw [List.findIdx?_eq_none_iff]
    intro x hx
    obtain ⟨j, hj, rfl⟩ := List.getElem_of_mem hx
    have := hb j _ (List.getElem?_eq_getElem hj)
    simpa using this
  unfold fIdx
  rw [this]
theorem fIdx_cases (l : Dl) (t : Int) : (fIdx l t = -1 ∧ ∀ (j : Nat) (q : Int × Bool), l[j]? = some q → q.1 ≠ t) ∨ ∃ i w, fIdx l t = (i : Nat) ∧ l[i]? = some (t, w) ∧ ∀ (j : Nat) (q : Int × Bool), j < i → l[j]? = some q → q.1 ≠ t := by
  unfold fIdx
  cases e : l.findIdx? (fun p => p.1 == t) with
  | none =>
    left
    refine ⟨rfl, fun j q hq => ?_⟩
    have := List.findIdx?_eq_none_iff.1 e q (List.mem_of_getElem? hq)
    simpa using this
  | some i =>
    right
    obtain ⟨hi, hp, hq⟩ := List.findIdx?_eq_some_iff_getElem.1 e
    refine ⟨i, l[i].2, rfl, ?_, fun j q hj hq' => ?_⟩
    · rw [List.getElem?_eq_getElem hi]
      have : l[i].1 = t := by simpa using hp
      rw [← this]
    · have := hq j hj
      have e2 := (List.getElem?_eq_some_iff.1 hq').2
      rw [e2] at this
      simpa using this
def sFind : Spec := fun args h nx K => ∃ (v : V) (l : Dl) (t : Int), args = [v, .int .i64 t] ∧ rdK R2 h v l ∧ (∀ tv i n c', v = .slice tv i n c' → n ≤ c') ∧ l.length ≤ 1000 ∧ K (.ret (.int .i64 (fIdx l t))) h nx
theorem sFind_ok : SpecOK Try.prog 38 sFind := by
  refine specOK_read2 (fn := Try.f38) rfl rfl rfl T_ok (SP := []) noSP 0 _ ?_
  rintro args h nx K ⟨v, l, t, rfl, hv, hc, hl, hk⟩
  obtain ⟨b, cc, hcl, H⟩ := told_K1 (rest := [.int .i64 t]) hv hc ⟨trivial, trivial⟩
  refine ⟨_, _, H, by simp [Try.f38], fun o => o = .ret (.int .i64 (fIdx l t)), ?_, ?_⟩
  · rintro o rfl; exact ⟨trivial, hk⟩
  intro c hc
  have hE := mkE' (fn := Try.f38) (R := fun o _ _ => o = .ret (.int .i64 (fIdx l t))) hc noSP
  show W _ _ _ _ 30
  refine vc_sound hE 10 _ _ _ 30 ?_
  refine W_loop (fun q σ h => ∃ i : Nat, q = l.length - i ∧ i ≤ l.length ∧ (∀ (j : Nat) (p : Int × Bool), j < i → l[j]? = some p → p.1 ≠ t) ∧ σ = [(0, .slice 2000 0 l.length cc), (1, .int .i64 t), (5, .int .i64 (i : Int))] ∧ h = [(2000, .ro b l.length 2 (gK R2 l))])
    l.length ⟨0, rfl, by omega, fun j p hj => by omega, rfl, rfl⟩ (tau []) ⟨rfl, (by repeat' (first | exact rfl | exact trivial | assumption | refine ⟨?_, ?_⟩)), ⟨rfl, rfl, rfl, fun i k hi hk => flat_rn _ (gF_flat (R := R2) hk)⟩, trivial⟩ 30 ?_
  rintro q σ h1 ⟨i, rfl, hi, hb, rfl, rfl⟩
  have hw : IntKind.i64.wrap ((i : Int) + 1) = ((i + 1 : Nat) : Int) := by simp only [IntKind.wrap_i64]; omega
  have hwk : wkH (tau []) [(2000, .ro b l.length 2 (gK R2 l))] [(2000, .ro b l.length 2 (gK R2 l))] [(2000, .ro b l.length 2 (gK R2 l))] := ⟨⟨rfl, rfl, rfl, fun i k hi hk => flat_rn _ (gF_flat (R := R2) hk)⟩, trivial⟩
  refine W_seq (nx := 30) ?_
  refine W_piece (nx := 30) (fun σ1 h1 _ => i < l.length ∧ h1 = [(2000, .ro b l.length 2 (gK R2 l))] ∧ subS σ1 [(0, .slice 2000 0 l.length cc), (1, .int .i64 t), (5, .int .i64 (i : Int))]) ?_ ?_
  · refine vc_sound hE 60 _ _ _ 30 ?_
    (refine (?_ : br _ _ _); refine br_dec (fun q => ?_) (fun q => ?_))
    · have q1 : (i : Int) < (l.length : Int) := q
      exact ⟨by omega, rfl, rfl, rfl, rfl, trivial⟩
    · have q1 : ¬ (i : Int) < (l.length : Int) := q
      show Out.ret (.int .i64 (-1)) = _
      rw [fIdx_none (fun j p hp => hb j p (by have := lt_of_at hp; omega) hp)]
  rintro σ1 h1 _ ⟨hil, rfl, hs⟩
  refine W_sub (nx' := 30) hs ?_
  clear hs
  obtain ⟨p, hp⟩ : ∃ p, l[i]? = some p := ⟨_, List.getElem?_eq_getElem (by omega)⟩
  have dp : l.getD (addI 0 ((i : Int)).toNat) (0, false) = p := by rw [nat0]; exact getD_of hp
  refine W_seq (nx := 30) ?_
  refine W_piece (nx := 30) (fun σ1 h1 _ => ¬ p.1 = t ∧ h1 = [(2000, .ro b l.length 2 (gK R2 l))] ∧ subS σ1 [(0, .slice 2000 0 l.length cc), (1, .int .i64 t), (5, .int .i64 (i : Int))]) ?_ ?_
  · refine vc_sound hE 1 _ _ _ 30 ?_
    refine W_seq (nx := 30) ?_
    refine W_keep (nx := 30) [(0, .slice 2000 0 l.length cc), (1, .int .i64 t), (5, .int .i64 (i : Int)), (18, .bool (p.1 == t))] [(2000, .ro b l.length 2 (gK R2 l))] 30 ?_ ?_
    · refine vc_sound hE 60 _ _ _ 30 ?_
      (refine (?_ : chk _ _); refine chk_ok (show (decide ((0 : Int) ≤ (i : Int)) && decide ((i : Int) < (l.length : Int))) = true by simp only [Bool.and_eq_true, decide_eq_true_eq]; omega) ?_)
      (refine (?_ : chk _ _); refine chk_ok rfl ?_)
      (refine (?_ : chk _ _); refine chk_ok (Nat.ble_eq_true_of_le (show addI 0 ((i : Int)).toNat * 2 + 0 + 1 ≤ l.length * 2 by rw [nat0]; omega)) ?_)
      refine ⟨rfl, rfl, rfl, rfl, ?_, trivial⟩
      show some (V.bool ((l.getD (addI 0 ((i : Int)).toNat) (0, false)).1 == t)) = _
      rw [dp]
    refine vc_sound hE 60 _ _ _ 30 ?_
    (refine (?_ : br _ _ _); refine br_eq (fun q2 => ?_) (fun q2 => ?_))
    · show Out.ret (.int .i64 (i : Int)) = _
      rw [fIdx_some hp q2 hb]
    · exact ⟨q2, rfl, rfl, rfl, rfl, trivial⟩
  rintro σ1 h1 _ ⟨hne, rfl, hs⟩
  refine W_sub (nx' := 30) hs ?_
  clear hs
  refine vc_sound hE 60 _ _ _ 30 ?_
  refine ⟨l.length - (i + 1), _, _, by omega, ⟨i + 1, rfl, by omega, fun j p' hj hp' => ?_, rfl, rfl⟩, tau [], rfl, ⟨⟨⟨rfl, trivial⟩, rfl, rfl, rfl⟩, ⟨rfl, rfl⟩, ⟨rfl, hw⟩, trivial⟩, hwk⟩
  by_cases e : j = i
  · subst e; rw [hp] at hp'; cases hp'; exact hne
  · exact hb j p' (by omega) hp'
def mayIB (d a : Int) : Bool := decide (1 ≤ d) && decide (d ≤ 64) && decide (0 ≤ a) && decide (a ≤ 64)
def sRMay : Spec := fun args h nx K => ∃ (d a : Int), args = [.int .i64 d, .int .i64 a] ∧ K (.ret (.bool (mayIB d a))) h nx
theorem sRMay_ok : SpecOK Try.prog 19 sRMay := specOK_imp (inlx_ok (fn := Try.f19) rfl rfl rfl T_ok (SP := []) noSP) <| by
  rintro args h nx K ⟨d, a, rfl, hk⟩
  refine ⟨by simp [Try.f19], fun c hc => ?_⟩
  have hE := mkE' (fn := Try.f19) (R := fun o h' _ => Ext h h' ∧ ∃ m, K o h' m) hc noSP
  have key : ∀ b : Bool, b = mayIB d a → Ext h h ∧ ∃ m, K (.ret (.bool b)) h m := fun b e => by rw [e]; exact ⟨Ext.refl h, nx, hk⟩
  refine vc_sound hE 60 _ _ _ nx ?_
  (refine (?_ : br _ _ _); refine br_dec (fun q => ?_) (fun q => ?_))
  · have q1 : (1 : Int) ≤ d := q
    (refine (?_ : br _ _ _); refine br_dec (fun q => ?_) (fun q => ?_))
    · have q2 : d ≤ 64 := by assumption
      (refine (?_ : br _ _ _); refine br_dec (fun q => ?_) (fun q => ?_))
      · have q3 : (0 : Int) ≤ a := by assumption
        refine key _ ?_
        unfold mayIB
        simp [q1, q2, q3]
      · have q3 : ¬ (0 : Int) ≤ a := by assumption
        refine key false ?_
        unfold mayIB
        simp [q1, q2, q3]
    · have q2 : ¬ d ≤ 64 := by assumption
      refine key false ?_
      unfold mayIB
      simp [q1, q2]
  · have q1 : ¬ (1 : Int) ≤ d := q
    refine key false ?_
    unfold mayIB
    simp [q1]
end Go.Proofs.Ytgcnknhfphgfnaa.Sx

/-
  The document's turns, read: has, State.
-/
namespace Go.Proofs.Ytgcnknhfphgfnaa.Sx
open Go Go.Proofs
set_option maxRecDepth 100000
set_option linter.unusedSimpArgs false
set_option linter.unusedVariables false

def gDc (td ta nD cD nA cA : Nat) (md ma : Int) : Nat → Nat → V := fun _ c => match c with
  | 0 => .slice td 0 nD cD
  | 1 => .slice ta 0 nA cA
  | 2 => .int .i64 md
  | _ => .int .i64 ma
/-- The document's turns lie at the tag 18, their rows at 19 and 20. -/
structure DcW (h : Hp) (bR : Nat) (md ma : Int) (D A : Dl) (eD eA : Ent) (cD cA : Nat) : Prop where
  str : fd 18 h = .blk bR 1 4 (gDc 19 20 D.length cD A.length cA md ma) 48
  d : fd 19 h = eD
  a : fd 20 h = eA
  ld : lstK R2 eD D cD
  la : lstK R2 eA A cA
theorem rdF {α : Type} {R : RK α} {h : Hp} {t c N n : Nat} {b : Option Addr} {F : Nat → α} {l : List α} (e : fd t (roH h) = .ro b N R.sz (gF R F)) (hn : l.length = n) (hN : n ≤ N) (hF : ∀ j a, l[j]? = some a → F j = a) : rdK R h (.slice t 0 n c) l := by
  subst hn
  exact .inr ⟨t, 0, c, b, N, _, rfl, e, by omega, cellsAt_F hN (fun _ _ _ _ => rfl) hF⟩
/-- A row, read. -/
theorem lstK.told {α : Type} {R : RK α} {e : Ent} {l : List α} {cap : Nat} (he : lstK R e l cap) (z : α) : ∃ (b : Option Addr) (N : Nat) (F : Nat → α), l.length ≤ N ∧ (∀ j a, l[j]? = some a → F j = a) ∧ ∀ τ h', wkE τ h' e.toRo (.ro b N R.sz (gF R F)) := by
  rcases he with ⟨rfl, rfl, g, rfl⟩ | ⟨b, g, F, rfl, h1, h2, h3, h4⟩
  · exact ⟨none, 0, fun _ => z, by simp, fun j a ha => by simp at ha, fun τ h' => ⟨rfl, rfl, rfl, fun i k hi => by omega⟩⟩
  · exact ⟨some ⟨b, 0, none⟩, cap, F, h1, h4, fun τ h' => ⟨rfl, rfl, rfl, fun i k hi hk => by rw [h3 i k hi hk]; exact flat_rn _ (gF_flat hk)⟩⟩
abbrev HD (bR : Nat) (md ma : Int) (nD nA cD cA : Nat) (bD bA : Option Addr) (ND NA : Nat) (FD FA : Nat → Int × Bool) : Hp := [(18, .ro (some ⟨bR, 0, none⟩) 1 4 (gDc 19 20 nD cD nA cA md ma)), (19, .ro bD ND 2 (gF R2 FD)), (20, .ro bA NA 2 (gF R2 FA))]
theorem DcW.told {h : Hp} {bR : Nat} {md ma : Int} {D A : Dl} {eD eA : Ent} {cD cA : Nat} {rest : List V} (H : DcW h bR md ma D A eD eA cD cA) (hf : flatL rest) : ∃ bD ND FD bA NA FA, D.length ≤ ND ∧ A.length ≤ NA ∧ (∀ j a, D[j]? = some a → FD j = a) ∧ (∀ j a, A[j]? = some a → FA j = a) ∧
    Told h (.ptr 18 0 0 :: rest) (HD bR md ma D.length A.length cD cA bD bA ND NA FD FA) (.ptr 18 0 0 :: rest) := by
  obtain ⟨bD, ND, FD, d1, d2, d3⟩ := H.ld.told (0, false)
  obtain ⟨bA, NA, FA, a1, a2, a3⟩ := H.la.told (0, false)
  refine ⟨bD, ND, FD, bA, NA, FA, d1, a1, d2, a2, told_wk (tau []) rfl ⟨?_, ?_, ?_, trivial⟩ ⟨⟨⟨rfl, trivial⟩, rfl, rfl⟩, flatL_rn _ hf⟩⟩
  · show wkE _ _ (fd 18 (roH h)) _
    rw [fd_roH, H.str]
    refine ⟨rfl, rfl, rfl, fun i c hi hc => ?_⟩
    obtain rfl : i = 0 := by omega
    match c, hc with
    | 0, _ => exact ⟨⟨rfl, trivial⟩, rfl, rfl, rfl⟩
    | 1, _ => exact ⟨⟨rfl, trivial⟩, rfl, rfl, rfl⟩
    | 2, _ => exact ⟨rfl, rfl⟩
    | 3, _ => exact ⟨rfl, rfl⟩
  · show wkE _ _ (fd 19 (roH h)) _
    rw [fd_roH, H.d]; exact d3 _ _
  · show wkE _ _ (fd 20 (roH h)) _
    rw [fd_roH, H.a]; exact a3 _ _
def hasD (D A : Dl) (t : Int) : Bool := decide (0 ≤ fIdx D t) || decide (0 ≤ fIdx A t)
def sHas : Spec := fun args h nx K => ∃ (bR : Nat) (md ma : Int) (D A : Dl) (eD eA : Ent) (cD cA : Nat) (t : Int), args = [.ptr 18 0 0, .int .i64 t] ∧ DcW h bR md ma D A eD eA cD cA ∧ D.length ≤ 1000 ∧ A.length ≤ 1000 ∧ K (.ret (.bool (hasD D A t))) h nx
theorem sHas_ok : SpecOK Try.prog 40 sHas := by
  refine specOK_read2 (fn := Try.f40) rfl rfl rfl T_ok (SP := [(38, sFind)]) (consSP sFind_ok noSP) 0 _ ?_
  rintro args h nx K ⟨bR, md, ma, D, A, eD, eA, cD, cA, t, rfl, H, hD, hA, hk⟩
  obtain ⟨bD, ND, FD, bA, NA, FA, d1, a1, d2, a2, hT⟩ := H.told (rest := [.int .i64 t]) ⟨trivial, trivial⟩
  have kD := H.ld.cap
  have kA := H.la.cap
  refine ⟨_, _, hT, by simp [Try.f40], fun o => o = .ret (.bool (hasD D A t)), ?_, ?_⟩
  · rintro o rfl; exact ⟨trivial, hk⟩
  intro c hc
  have hE := mkE' (fn := Try.f40) (R := fun o _ _ => o = .ret (.bool (hasD D A t))) hc (consSP sFind_ok noSP)
  show W _ _ _ _ 30
  refine vc_sound hE 60 _ _ _ 30 ?_
  refine ⟨_, D, t, rfl, rdF rfl rfl d1 d2, fun tv i n c' q => by cases q; exact kD, hD, ?_⟩
  (refine (?_ : br _ _ _); refine br_dec (fun q => ?_) (fun q => ?_))
  · have q1 : (0 : Int) ≤ fIdx D t := q
    show Out.ret (.bool true) = _
    unfold hasD
    simp [q1]
  · have q1 : ¬ (0 : Int) ≤ fIdx D t := q
    refine ⟨_, A, t, rfl, rdF rfl rfl a1 a2, fun tv i n c' q => by cases q; exact kA, hA, ?_⟩
    show Out.ret (.bool (decide ((0 : Int) ≤ fIdx A t))) = _
    unfold hasD
    simp [q1]
def stD (D A : Dl) (t : Int) : Bool × Bool × Bool := if 0 ≤ fIdx D t then (false, (D.getD (fIdx D t).toNat (0, false)).2, true) else if 0 ≤ fIdx A t then (true, (A.getD (fIdx A t).toNat (0, false)).2, true) else (false, false, false)
def sRState : Spec := fun args h nx K => ∃ (bR : Nat) (md ma : Int) (D A : Dl) (eD eA : Ent) (cD cA : Nat) (t : Int), args = [.ptr 18 0 0, .int .i64 t] ∧ DcW h bR md ma D A eD eA cD cA ∧ D.length ≤ 1000 ∧ A.length ≤ 1000 ∧ K (.ret (.tup [.bool (stD D A t).1, .bool (stD D A t).2.1, .bool (stD D A t).2.2])) h nx
theorem fIdx_lt {l : Dl} {t : Int} (h : 0 ≤ fIdx l t) : ∃ i : Nat, fIdx l t = (i : Int) ∧ i < l.length := by
  rcases fIdx_cases l t with ⟨e, _⟩ | ⟨i, w, e, hi, _⟩
  · omega
  · exact ⟨i, e, lt_of_at hi⟩
theorem sRState_ok : SpecOK Try.prog 21 sRState := by
  refine specOK_read2 (fn := Try.f21) rfl rfl rfl T_ok (SP := [(38, sFind)]) (consSP sFind_ok noSP) 0 _ ?_
  rintro args h nx K ⟨bR, md, ma, D, A, eD, eA, cD, cA, t, rfl, H, hD, hA, hk⟩
  obtain ⟨bD, ND, FD, bA, NA, FA, d1, a1, d2, a2, hT⟩ := H.told (rest := [.int .i64 t]) ⟨trivial, trivial⟩
  have kD := H.ld.cap
  have kA := H.la.cap
  refine ⟨_, _, hT, by simp [Try.f21], fun o => o = .ret (.tup [.bool (stD D A t).1, .bool (stD D A t).2.1, .bool (stD D A t).2.2]), ?_, ?_⟩
  · rintro o rfl; exact ⟨⟨trivial, trivial, trivial, trivial⟩, hk⟩
  intro c hc
  have hE := mkE' (fn := Try.f21) (R := fun o _ _ => o = .ret (.tup [.bool (stD D A t).1, .bool (stD D A t).2.1, .bool (stD D A t).2.2])) hc (consSP sFind_ok noSP)
  show W _ _ _ _ 30
  obtain ⟨G, hG⟩ : ∃ G, G = HD bR md ma D.length A.length cD cA bD bA ND NA FD FA := ⟨_, rfl⟩
  rw [← hG]
  refine W_seq (nx := 30) ?_
  refine W_keep (nx := 30) [(0, .ptr 18 0 0), (1, .int .i64 t)] G 30 ?_ ?_
  · refine vc_sound hE 60 _ _ _ 30 ?_
    exact ⟨rfl, rfl, rfl, trivial⟩
  refine W_seq (nx := 30) ?_
  refine W_keep (nx := 30) [(0, .ptr 18 0 0), (1, .int .i64 t), (7, .int .i64 (fIdx D t))] G 30 ?_ ?_
  · subst hG
    refine vc_sound hE 60 _ _ _ 30 ?_
    refine ⟨_, D, t, rfl, rdF rfl rfl d1 d2, fun tv i n c' q => by cases q; exact kD, hD, ?_⟩
    exact ⟨rfl, rfl, rfl, rfl, trivial⟩
  have row : ∀ (F : Nat → Int × Bool) (l : Dl) (i N : Nat) (hi : i < l.length), (∀ j a, l[j]? = some a → F j = a) → F i = l.getD i (0, false) := fun F l i N hi hF => by
    rw [hF i _ (List.getElem?_eq_getElem hi), getD_of (List.getElem?_eq_getElem hi)]
  refine vc_sound hE 3 _ _ _ 30 ?_
  refine vc_sound hE 60 _ _ _ 30 ?_
  (refine (?_ : br _ _ _); refine br_dec (fun q => ?_) (fun q => ?_))
  · have q1 : (0 : Int) ≤ fIdx D t := q
    obtain ⟨i, hi, hil⟩ := fIdx_lt q1
    refine W_sub (σ' := [(0, .ptr 18 0 0), (1, .int .i64 t), (7, .int .i64 (i : Int))]) (nx := 30) (nx' := 30) ⟨rfl, rfl, congrArg (fun x => some (V.int .i64 x)) hi, trivial⟩ ?_
    subst hG
    refine W_planw hE 30 [] (lineP 0 11 .done) (by rw [hc]; exact mix) (by kernel_rfl) 31 ?_
    iterate 5 (refine ⟨_, ⟨rfl, rfl⟩, ?_⟩)
    refine ⟨.ptr 19 (addI 0 ((i : Int)).toNat) 0, (show chk _ _ from chk_ok (show (decide ((0 : Int) ≤ (i : Int)) && decide ((i : Int) < (D.length : Int))) = true by simp only [Bool.and_eq_true, decide_eq_true_eq]; omega) (show chk _ _ from chk_ok rfl ⟨rfl, rfl⟩)), ?_⟩
    refine ⟨_, ⟨rfl, rfl⟩, ?_⟩
    refine ⟨.bool (FD (addI 0 ((i : Int)).toNat)).2, (show chk _ _ from chk_ok (Nat.ble_eq_true_of_le (show addI 0 ((i : Int)).toNat * 2 + (0 + 1) + 1 ≤ ND * 2 by rw [nat0]; omega)) ⟨rfl, rfl⟩), ?_⟩
    iterate 3 (refine ⟨_, ⟨rfl, rfl⟩, ?_⟩)
    refine putS_some rfl ?_
    show Out.ret (.tup [.bool false, .bool (FD (addI 0 ((i : Int)).toNat)).2, .bool true]) = _
    rw [nat0, row FD D i ND hil d2]
    unfold stD
    rw [if_pos q1, hi, Int.toNat_natCast]
  · have q1 : ¬ (0 : Int) ≤ fIdx D t := q
    subst hG
    refine ⟨_, A, t, rfl, rdF rfl rfl a1 a2, fun tv i n c' q => by cases q; exact kA, hA, ?_⟩
    (refine (?_ : br _ _ _); refine br_dec (fun q => ?_) (fun q => ?_))
    · have q2 : (0 : Int) ≤ fIdx A t := by assumption
      obtain ⟨i, hi, hil⟩ := fIdx_lt q2
      refine W_sub (σ' := [(0, .ptr 18 0 0), (1, .int .i64 t), (8, .int .i64 (i : Int))]) (nx := 30) (nx' := 30) ⟨rfl, rfl, congrArg (fun x => some (V.int .i64 x)) hi, trivial⟩ ?_
      refine W_planw hE 30 [] (lineP 0 11 .done) (by rw [hc]; exact mix) (by kernel_rfl) 31 ?_
      iterate 5 (refine ⟨_, ⟨rfl, rfl⟩, ?_⟩)
      refine ⟨.ptr 20 (addI 0 ((i : Int)).toNat) 0, (show chk _ _ from chk_ok (show (decide ((0 : Int) ≤ (i : Int)) && decide ((i : Int) < (A.length : Int))) = true by simp only [Bool.and_eq_true, decide_eq_true_eq]; omega) (show chk _ _ from chk_ok rfl ⟨rfl, rfl⟩)), ?_⟩
      refine ⟨_, ⟨rfl, rfl⟩, ?_⟩
      refine ⟨.bool (FA (addI 0 ((i : Int)).toNat)).2, (show chk _ _ from chk_ok (Nat.ble_eq_true_of_le (show addI 0 ((i : Int)).toNat * 2 + (0 + 1) + 1 ≤ NA * 2 by rw [nat0]; omega)) ⟨rfl, rfl⟩), ?_⟩
      iterate 3 (refine ⟨_, ⟨rfl, rfl⟩, ?_⟩)
      refine putS_some rfl ?_
      show Out.ret (.tup [.bool true, .bool (FA (addI 0 ((i : Int)).toNat)).2, .bool true]) = _
      rw [nat0, row FA A i NA hil a2]
      unfold stD
      rw [if_neg q1, if_pos q2, hi, Int.toNat_natCast]
    · have q2 : ¬ (0 : Int) ≤ fIdx A t := by assumption
      show Out.ret (.tup [.bool false, .bool false, .bool false]) = _
      unfold stD
      rw [if_neg q1, if_neg q2]
end Go.Proofs.Ytgcnknhfphgfnaa.Sx

/-
  The walks of this seat's functions: lists of integers (are two the same; where is a number; a list without one).
-/
namespace Go.Proofs.Ytgcnknhfphgfnaa.Sx
open Go Go.Proofs
set_option maxRecDepth 100000
set_option linter.unusedSimpArgs false
set_option linter.unusedVariables false

theorem gl_ro {τ : Nat → Nat} {h' : Hp} {l : List Int} {i c : Nat} : rn τ h' (gl l i c) (gl l i c) := ⟨rfl, rfl⟩
theorem getD_at {l : List Int} {i : Nat} (h : i < l.length) : l.getD i 0 = l[i] := by simp [List.getD_eq_getElem?_getD, h]
theorem same_lists {l m : List Int} (hl : l.length = m.length) (h : ∀ j, j < l.length → l.getD j 0 = m.getD j 0) : l = m := by
  refine List.ext_getElem hl fun i h1 h2 => ?_
  have := h i h1
  rw [getD_at h1, getD_at h2] at this
  exact this
def sInts : Spec := fun args h nx K => ∃ v v' l l', args = [v, v'] ∧ rdL h v l ∧ rdL h v' l' ∧ l.length ≤ 1000000000 ∧ l'.length ≤ 1000000000 ∧ K (.ret (.bool (decide (l = l')))) h nx
theorem sInts_ok : SpecOK Try.prog 16 sInts := by
  refine specOK_read2 (fn := Try.f16) rfl rfl rfl T_ok (SP := []) noSP 200 _ ?_
  rintro args h nx K ⟨v, v', l, l', rfl, hv, hv', hn, hn', hk⟩
  obtain ⟨b, c, b', c', told⟩ := told_L2 (rest := []) hv hv' trivial
  refine ⟨_, _, told, by simp [Try.f16], fun o => o = .ret (.bool (decide (l = l'))), ?_, ?_⟩
  · rintro o rfl; exact ⟨trivial, hk⟩
  intro cx hcx
  clear hk told hv hv'
  (refine (?_ : br _ _ _); refine br_ne (fun e => ?_) (fun e => ?_))
  · have e : (l.length : Int) ≠ (l'.length : Int) := e
    refine outB ?_
    rw [decide_eq_false]
    rintro rfl
    exact e rfl
  have e : (l.length : Int) = (l'.length : Int) := e
  have en : l.length = l'.length := by omega
  refine W_loop (fun r σ h => ∃ j : Nat, r = l.length - j ∧ j ≤ l.length ∧ (∀ k, k < j → l.getD k 0 = l'.getD k 0) ∧ σ = [(0, .slice 2000 0 l.length c), (1, .slice 2001 0 l'.length c'), (5, .int .i64 j)] ∧ h = [(2000, .ro b l.length 1 (gl l)), (2001, .ro b' l'.length 1 (gl l'))]) l.length ⟨0, rfl, by omega, fun k hk => by omega, rfl, rfl⟩ (tau []) ⟨rfl, ?_, ?_⟩ 30 ?_
  · repeat' (first | exact rfl | exact trivial | refine ⟨?_, ?_⟩)
  · exact ⟨⟨rfl, rfl, rfl, fun i c hi hc => gl_ro⟩, ⟨rfl, rfl, rfl, fun i c hi hc => gl_ro⟩, trivial⟩
  rintro r σ h1 ⟨j, rfl, hj, hall, rfl, rfl⟩
  refine vc_sound (mkE hcx T_ok noSP) 200 _ _ _ 30 ?_
  (refine (?_ : br _ _ _); refine br_dec (fun hlt => ?_) (fun hlt => ?_))
  · have hlt : (j : Int) < (l.length : Int) := hlt
    have hjn : j < l.length := by omega
    have hw : IntKind.i64.wrap ((j : Int) + 1) = ((j + 1 : Nat) : Int) := by simp [IntKind.wrap_i64]; omega
    have hz : addI 0 j = j := by rw [addI_eq, Nat.zero_add]
    refine W_drawn (id := 6) (mkE hcx T_ok noSP) 60 1000 (by rw [hcx]; exact mix) (by kernel_rfl) (by kernel_rfl) 200 ?_
    refine ⟨_, ⟨rfl, rfl⟩, ?_⟩
    refine ⟨_, ⟨rfl, rfl⟩, ?_⟩
    refine ⟨.ptr 2000 (addI 0 j) 0, (show chk _ _ from chk_ok (by simp; omega) (show chk _ _ from chk_ok rfl ⟨rfl, rfl⟩)), ?_⟩
    refine ⟨.int .i64 (l.getD (addI 0 j) 0), (show chk _ _ from chk_ok (Nat.ble_eq_true_of_le (show addI 0 j * 1 + 0 + 1 ≤ l.length * 1 by rw [hz]; omega)) ⟨rfl, rfl⟩), ?_⟩
    refine ⟨_, ⟨rfl, rfl⟩, ?_⟩
    refine ⟨_, ⟨rfl, rfl⟩, ?_⟩
    refine ⟨.ptr 2001 (addI 0 j) 0, (show chk _ _ from chk_ok (by simp; omega) (show chk _ _ from chk_ok rfl ⟨rfl, rfl⟩)), ?_⟩
    refine ⟨.int .i64 (l'.getD (addI 0 j) 0), (show chk _ _ from chk_ok (Nat.ble_eq_true_of_le (show addI 0 j * 1 + 0 + 1 ≤ l'.length * 1 by rw [hz]; omega)) ⟨rfl, rfl⟩), ?_⟩
    refine ⟨_, ⟨rfl, rfl⟩, ?_⟩
    (refine (?_ : br _ _ _); refine br_ne (fun e => ?_) (fun e => ?_))
    · rw [hz] at e
      refine outB ?_
      rw [decide_eq_false]
      rintro rfl
      exact e rfl
    · rw [hz] at e
      refine ⟨l.length - (j + 1), _, _, by omega, ⟨j + 1, rfl, by omega, fun k hk => ?_, rfl, rfl⟩, tau [], rfl, ?_, ?_⟩
      · by_cases hkj : k = j
        · subst hkj; exact e
        · exact hall k (by omega)
      · repeat' (first | exact rfl | exact trivial | exact hw | refine ⟨?_, ?_⟩)
      · exact ⟨⟨rfl, rfl, rfl, fun i c hi hc => gl_ro⟩, ⟨rfl, rfl, rfl, fun i c hi hc => gl_ro⟩, trivial⟩
  · have hlt : ¬ (j : Int) < (l.length : Int) := hlt
    refine outB ?_
    exact (decide_eq_true (same_lists en fun k hk => hall k (by omega))).symm
end Go.Proofs.Ytgcnknhfphgfnaa.Sx

/-
  The document's turns: without.
-/
namespace Go.Proofs.Ytgcnknhfphgfnaa.Sx
open Go Go.Proofs
set_option maxRecDepth 100000
set_option linter.unusedSimpArgs false
set_option linter.unusedVariables false

theorem toRo_toRo (e : Ent) : e.toRo.toRo = e.toRo := by cases e <;> rfl
theorem rdK.ro {α : Type} {R : RK α} {h : Hp} {v : V} {l : List α} (H : rdK R h v l) : rdK R (roH h) v l := by
  rcases H with h0 | ⟨t, i, c, b, N, g, e0, e, h1, h2⟩
  · exact .inl h0
  · exact .inr ⟨t, i, c, b, N, g, e0, by rw [fd_roH, fd_roH, toRo_toRo, ← fd_roH]; exact e, h1, h2⟩
/-- A row of nothing. -/
theorem lstK.none0 {α : Type} {R : RK α} {b : Nat} {g : Nat → Nat → V} : lstK R (.blk b 0 R.sz g R.ty) [] 0 := lstK.of (F := fun _ => R.z) (Nat.le_refl _) (by decide) (fun j k hj => by omega) (fun j a ha => by simp at ha)
/-- A slice's first ones, and those behind. -/
theorem sub_lo {α : Type} {R : RK α} {h : Hp} {t n c c' : Nat} {l : List α} (hv : rdK R h (.slice t 0 n c) l) (i : Nat) (hi : i ≤ l.length) (z : Nat) : rdK R h (.slice t (match Nat.beq z 0 with | true => 0 | false => addI 0 0) i c') (l.take i) := by
  have := hv.sub (a := 0) (b := i) (i' := 0) (c' := c') (by omega) hi (.inl rfl)
  rw [Nat.sub_zero, List.drop_zero] at this
  cases z <;> exact this
def sWithout : Spec := fun args h nx K => ∃ (t n c : Nat) (l : Dl) (i : Nat), args = [.slice t 0 n c, .int .i64 (i : Int)] ∧ l.length = n ∧ n ≤ c ∧ rdK R2 h (.slice t 0 n c) l ∧ i < l.length ∧ l.length ≤ 1000 ∧ fd nx h = .gone ∧ newLK R2 (l.eraseIdx i) h nx K
theorem sWithout_ok : SpecOK Try.prog 41 sWithout := by
  refine specOK_newK (R := R2) (fn := Try.f41) rfl rfl rfl T_ok (SP := []) noSP _ ?_
  rintro args h nx K ⟨t0, n, c0, l, i, rfl, hn, hc0, hv, hi, hl, hg, hk⟩
  obtain ⟨b, c, hcl, H⟩ := told_K1 (rest := [.int .i64 (i : Int)]) hv (fun tv i n c' q => by cases q; exact hc0) ⟨trivial, trivial⟩
  refine ⟨hg, _, _, l.eraseIdx i, H, by simp [Try.f41], hk, ?_⟩
  intro cx hc
  have hE := mkE' (fn := Try.f41) (R := fun o h1 _ => retK R2 (l.eraseIdx i) o h1) hc noSP
  have he : l.eraseIdx i = l.take i ++ l.drop (i + 1) := List.eraseIdx_eq_take_drop_succ l i
  have hw : IntKind.i64.wrap ((i : Int) + 1) = ((i + 1 : Nat) : Int) := by simp only [IntKind.wrap_i64]; omega
  refine vc_sound hE 60 _ _ _ 30 ?_
  refine W_planw hE 30 [9] (.take 1 (.take 2 (.take 3 (.take 5 (.take 6 (.take 7 (.take 8 (.all (.cons 0 (.all (.cons 4 (.all (.cons 9 (.take 10 (.done)) (.nil))) (.nil))) (.nil)))))))))) (by rw [hc]; exact mix) (by kernel_rfl) 31 ?_
  iterate 2 (refine ⟨_, ⟨rfl, rfl⟩, ?_⟩)
  refine ⟨.slice 2000 (match Nat.beq c 0 with | true => 0 | false => addI 0 0) i c, (show chk _ _ from chk_ok (show (decide ((0 : Int) ≤ 0) && decide ((0 : Int) ≤ (i : Int)) && decide ((i : Int) ≤ (c : Int))) = true by simp only [Bool.and_eq_true, decide_eq_true_eq]; omega) ⟨rfl, rfl⟩), ?_⟩
  iterate 3 (refine ⟨_, ⟨rfl, rfl⟩, ?_⟩)
  refine ⟨.slice 2000 (match Nat.beq c (IntKind.i64.wrap ((i : Int) + 1)).toNat with | true => 0 | false => addI 0 (IntKind.i64.wrap ((i : Int) + 1)).toNat) (l.length - (IntKind.i64.wrap ((i : Int) + 1)).toNat) (c - (IntKind.i64.wrap ((i : Int) + 1)).toNat), (show chk _ _ from chk_ok (show (decide ((0 : Int) ≤ IntKind.i64.wrap ((i : Int) + 1)) && decide (IntKind.i64.wrap ((i : Int) + 1) ≤ (l.length : Int))) = true by rw [hw]; simp only [Bool.and_eq_true, decide_eq_true_eq]; omega) ⟨rfl, rfl⟩), ?_⟩
  refine putS_some rfl ?_
  refine ⟨⟨fun b => trivial, fun b0 => ?_⟩, trivial⟩
  have h1 : ∀ h : Hp, fd 2000 h = .ro b l.length 2 (gK R2 l) → rdK R2 h (.slice 2000 (match Nat.beq c 0 with | true => 0 | false => addI 0 0) i c) (l.take i) := fun h e =>
    sub_lo (c := c) (rdF (R := R2) (by rw [fd_roH, e]; rfl) rfl (Nat.le_refl _) (fun j a ha => getD_of ha)) i (by omega) c
  have h2 : ∀ h : Hp, fd 2000 h = .ro b l.length 2 (gK R2 l) → rdK R2 h (.slice 2000 (match Nat.beq c (IntKind.i64.wrap ((i : Int) + 1)).toNat with | true => 0 | false => addI 0 (IntKind.i64.wrap ((i : Int) + 1)).toNat) (l.length - (IntKind.i64.wrap ((i : Int) + 1)).toNat) (c - (IntKind.i64.wrap ((i : Int) + 1)).toNat)) (l.drop (i + 1)) := fun h e => by
    rw [hw, Int.toNat_natCast]
    have := (rdF (R := R2) (h := h) (t := 2000) (c := c) (by rw [fd_roH, e]; rfl) rfl (Nat.le_refl _) (fun j a ha => getD_of ha)).sub (a := i + 1) (b := l.length) (i' := match Nat.beq c (i + 1) with | true => 0 | false => addI 0 (i + 1)) (c' := c - (i + 1)) (by omega) (Nat.le_refl _) (by
      cases hb : Nat.beq c (i + 1) with
      | true => right; have := Nat.eq_of_beq_eq_true hb; exact ⟨rfl, by omega⟩
      | false => left; show addI 0 (i + 1) = _; rw [addI_eq])
    rw [List.take_of_length_le (by rw [List.length_drop]; omega)] at this
    exact this
  have htl : (l.take i).length = i := by rw [List.length_take]; omega
  have hdl : (l.drop (i + 1)).length = l.length - (i + 1) := List.length_drop
  refine putS_some rfl ?_
  refine ⟨⟨step_app (v := .slice 30 0 0 0) (u := .slice 2000 (match Nat.beq c 0 with | true => 0 | false => addI 0 0) i c) rfl rfl (app_copyK (R := R2) (m := l.take i) appT2 rfl (h1 _ rfl).ro rfl (by rw [htl]; omega) (fun _ => trivial) (fun _ _ _ => trivial)), stepC_app (v := .slice 30 0 0 0) (u := .slice 2000 (match Nat.beq c 0 with | true => 0 | false => addI 0 0) i c) rfl rfl ?_⟩, trivial⟩
  have fin : ∀ (h : Hp) (t cp : Nat) (e : Ent), fd t h = e → lstK R2 e (l.take i ++ l.drop (i + 1)) cp → retK R2 (l.eraseIdx i) (.ret (.slice t 0 (l.take i ++ l.drop (i + 1)).length cp)) h := fun h t cp e h1 h2 => .inr ⟨t, cp, e, by rw [he], h1, by rw [he]; exact h2⟩
  refine app_copyK (R := R2) (m := l.take i) appT2 rfl (h1 _ rfl) rfl (by rw [htl]; omega) (fun h0 => ?_) (fun e cp hle => ?_)
  · refine ⟨⟨trivial, stepC_app (v := .slice 30 0 0 0) (u := .slice 2000 (match Nat.beq c (IntKind.i64.wrap ((i : Int) + 1)).toNat with | true => 0 | false => addI 0 (IntKind.i64.wrap ((i : Int) + 1)).toNat) (l.length - (IntKind.i64.wrap ((i : Int) + 1)).toNat) (c - (IntKind.i64.wrap ((i : Int) + 1)).toNat)) rfl rfl ?_⟩, trivial⟩
    rw [h0] at fin
    refine app_moreK (R := R2) (l := []) (m := l.drop (i + 1)) appT2 lstK.none0 rfl (h2 _ rfl) rfl (by rw [hdl]; simp; omega) (fun e' _ hl' => ?_) (fun e' cp' hl' => ?_) (fun hm => ?_)
    · refine ⟨_, ⟨rfl, rfl⟩, ?_⟩
      exact fin _ 30 0 e' rfl hl'
    · refine ⟨_, ⟨rfl, rfl⟩, ?_⟩
      exact fin _ 31 cp' e' rfl hl'
    · rw [hm] at fin
      refine ⟨_, ⟨rfl, rfl⟩, ?_⟩
      exact fin _ 30 0 (.blk b0 0 2 (gOf 2 []) 72) rfl (lstK.none0 (R := R2))
  · refine ⟨⟨trivial, stepC_app (v := .slice 31 0 (l.take i).length cp) (u := .slice 2000 (match Nat.beq c (IntKind.i64.wrap ((i : Int) + 1)).toNat with | true => 0 | false => addI 0 (IntKind.i64.wrap ((i : Int) + 1)).toNat) (l.length - (IntKind.i64.wrap ((i : Int) + 1)).toNat) (c - (IntKind.i64.wrap ((i : Int) + 1)).toNat)) rfl rfl ?_⟩, trivial⟩
    refine app_moreK (R := R2) (l := l.take i) (m := l.drop (i + 1)) appT2 hle rfl (h2 _ rfl) rfl (by rw [htl, hdl]; omega) (fun e' _ hl' => ?_) (fun e' cp' hl' => ?_) (fun hm => ?_)
    · refine ⟨_, ⟨rfl, rfl⟩, ?_⟩
      exact fin _ 31 cp e' rfl hl'
    · refine ⟨_, ⟨rfl, rfl⟩, ?_⟩
      exact fin _ 32 cp' e' rfl hl'
    · rw [hm, List.append_nil] at fin
      refine ⟨_, ⟨rfl, rfl⟩, ?_⟩
      exact fin _ 31 cp e rfl hle
end Go.Proofs.Ytgcnknhfphgfnaa.Sx

/-
  The document's turns: Waiting.
-/
namespace Go.Proofs.Ytgcnknhfphgfnaa.Sx
open Go Go.Proofs
set_option maxRecDepth 100000
set_option linter.unusedSimpArgs false
set_option linter.unusedVariables false

def wtI (l : Dl) : List Int := (l.filter (·.2)).map (·.1)
theorem wtI_app (l m : Dl) : wtI (l ++ m) = wtI l ++ wtI m := by unfold wtI; rw [List.filter_append, List.map_append]
theorem wtI_succ {l : Dl} {i : Nat} {p : Int × Bool} (h : l[i]? = some p) : wtI (l.take (i + 1)) = wtI (l.take i) ++ (if p.2 = true then [p.1] else []) := by
  rw [List.take_add_one, h, wtI_app]
  congr 1
  obtain ⟨a, b⟩ := p
  cases b <;> rfl
theorem wtI_len (l : Dl) : (wtI l).length ≤ l.length := by unfold wtI; rw [List.length_map]; exact List.length_filter_le _ _
def sRWaiting : Spec := fun args h nx K => ∃ (bR : Nat) (md ma : Int) (D A : Dl) (eD eA : Ent) (cD cA : Nat), args = [.ptr 18 0 0] ∧ DcW h bR md ma D A eD eA cD cA ∧ D.length ≤ 1000 ∧ A.length ≤ 1000 ∧ fd nx h = .gone ∧ newL (wtI (D ++ A)) h nx K
theorem sRWaiting_ok : SpecOK Try.prog 22 sRWaiting := by
  refine specOK_newL (fn := Try.f22) rfl rfl rfl T_ok (SP := []) noSP _ ?_
  rintro args h nx K ⟨bR, md, ma, D, A, eD, eA, cD, cA, rfl, H, hD, hA, hgone, hnew⟩
  obtain ⟨bD, ND, FD, bA, NA, FA, d1, a1, d2, a2, hT⟩ := H.told (rest := []) trivial
  have kD := H.ld.cap
  have kA := H.la.cap
  refine ⟨hgone, _, _, wtI (D ++ A), hT, by simp [Try.f22], hnew, fun c hc => ?_⟩
  have hE := mkE' (fn := Try.f22) (R := fun o h1 _ => retL (wtI (D ++ A)) o h1) hc noSP
  obtain ⟨L, hL⟩ : ∃ L, L = D ++ A := ⟨_, rfl⟩
  have hLl : L.length = D.length + A.length := by rw [hL, List.length_append]
  obtain ⟨G, hG⟩ : ∃ G, G = HD bR md ma D.length A.length cD cA bD bA ND NA FD FA := ⟨_, rfl⟩
  rw [← hG]
  refine W_nx (nx := 30) ?_
  refine W_seq (nx := 30) ?_
  refine W_keep (nx := 30) [(0, .ptr 18 0 0)] G 30 ?_ ?_
  · refine vc_sound hE 60 _ _ _ 30 ?_
    exact ⟨rfl, rfl, trivial⟩
  refine W_seq (nx := 30) ?_
  refine W_keep (nx := 30) [(0, .ptr 18 0 0), (3, .nils)] G 30 ?_ ?_
  · refine vc_sound hE 60 _ _ _ 30 ?_
    exact ⟨rfl, rfl, rfl, trivial⟩
  refine W_seq (nx := 30) ?_
  refine W_ex (nx := 30) (fun (x : Ent × Nat) => lstK R2 x.1 L x.2) (fun x => [(3, .nils), (4, .slice 50 0 L.length x.2)]) (fun x => [(50, x.1)]) 30 ?_ ?_
  · subst hG
    have fin : ∀ (σ : Sl) (h : Hp) (t cp : Nat) (e : Ent), fd t h = e → lstK R2 e L cp → lk 3 σ = some .nils → lk 4 σ = some (.slice t 0 L.length cp) → ∃ x : Ent × Nat, lstK R2 x.1 L x.2 ∧ ∃ τ, wk τ σ h [(3, .nils), (4, .slice 50 0 L.length x.2)] [(50, x.1)] := fun σ h t cp e h1 h2 h3 h4 =>
      ⟨(e, cp), h2, fun _ => t, rfl, ⟨by rw [h3]; trivial, by rw [h4]; exact ⟨⟨rfl, h2.here⟩, rfl, rfl, rfl⟩, trivial⟩, by show wkE _ _ (fd t h) _; rw [h1]; exact h2.wk _ _, trivial⟩
    refine W_planw hE 30 [10] (.take 1 (.take 2 (.take 3 (.take 4 (.take 6 (.take 7 (.take 8 (.take 9 (.all (.cons 0 (.all (.cons 5 (.all (.cons 10 (.take 11 (.done)) (.nil))) (.nil))) (.nil))))))))))) (by rw [hc]; exact mix) (by kernel_rfl) 31 ?_
    iterate 8 (refine ⟨_, ⟨rfl, rfl⟩, ?_⟩)
    refine putS_some rfl ?_
    refine ⟨⟨fun b => trivial, fun b0 => ?_⟩, trivial⟩
    have h1 : ∀ h : Hp, fd 19 h = .ro bD ND 2 (gF R2 FD) → rdK R2 h (.slice 19 0 D.length cD) D := fun h e => rdF (R := R2) (by rw [fd_roH, e]; rfl) rfl d1 d2
    have h2 : ∀ h : Hp, fd 20 h = .ro bA NA 2 (gF R2 FA) → rdK R2 h (.slice 20 0 A.length cA) A := fun h e => rdF (R := R2) (by rw [fd_roH, e]; rfl) rfl a1 a2
    refine putS_some rfl ?_
    refine ⟨⟨step_app (v := .slice 30 0 0 0) (u := .slice 19 0 D.length cD) rfl rfl (app_copyK (R := R2) (m := D) appT2 rfl (h1 _ rfl).ro rfl (by omega) (fun _ => trivial) (fun _ _ _ => trivial)), stepC_app (v := .slice 30 0 0 0) (u := .slice 19 0 D.length cD) rfl rfl ?_⟩, trivial⟩
    refine app_copyK (R := R2) (m := D) appT2 rfl (h1 _ rfl) rfl (by omega) (fun h0 => ?_) (fun e cp hle => ?_)
    · refine ⟨⟨trivial, stepC_app (v := .slice 30 0 0 0) (u := .slice 20 0 A.length cA) rfl rfl ?_⟩, trivial⟩
      rw [h0] at hL
      refine app_moreK (R := R2) (l := []) (m := A) appT2 lstK.none0 rfl (h2 _ rfl) rfl (by simp; omega) (fun e' _ hl' => ?_) (fun e' cp' hl' => ?_) (fun hm => ?_)
      · rw [← hL] at hl' ⊢
        refine ⟨_, ⟨rfl, rfl⟩, ?_⟩
        exact fin _ _ 30 0 e' rfl hl' rfl rfl
      · rw [← hL] at hl' ⊢
        refine ⟨_, ⟨rfl, rfl⟩, ?_⟩
        exact fin _ _ 31 cp' e' rfl hl' rfl rfl
      · rw [hm] at hL
        have hL : L = [] := hL
        subst hL
        refine ⟨_, ⟨rfl, rfl⟩, ?_⟩
        exact fin _ _ 30 0 (.blk b0 0 2 (gOf 2 []) 72) rfl (lstK.none0 (R := R2)) rfl rfl
    · refine ⟨⟨trivial, stepC_app (v := .slice 31 0 D.length cp) (u := .slice 20 0 A.length cA) rfl rfl ?_⟩, trivial⟩
      refine app_moreK (R := R2) (l := D) (m := A) appT2 hle rfl (h2 _ rfl) rfl (by omega) (fun e' _ hl' => ?_) (fun e' cp' hl' => ?_) (fun hm => ?_)
      · rw [← hL] at hl' ⊢
        refine ⟨_, ⟨rfl, rfl⟩, ?_⟩
        exact fin _ _ 31 cp e' rfl hl' rfl rfl
      · rw [← hL] at hl' ⊢
        refine ⟨_, ⟨rfl, rfl⟩, ?_⟩
        exact fin _ _ 32 cp' e' rfl hl' rfl rfl
      · have hD' : D = L := by rw [hL, hm, List.append_nil]
        rw [hD'] at hle ⊢
        refine ⟨_, ⟨rfl, rfl⟩, ?_⟩
        exact fin _ _ 31 cp e rfl hle rfl rfl
  rintro ⟨e0, cp⟩ hl0
  have hl0 : lstK R2 e0 L cp := hl0
  rw [← hL] at hE ⊢
  have v0 := hl0.here
  refine W_tell (σ' := [(3, .slice 60 0 0 0), (4, .slice 50 0 L.length cp)]) (h' := [(50, e0), (60, .ro none 0 1 (gl []))]) (nx' := 30) (tau []) rfl ⟨⟨_, rfl, tell_nil (n := 0) (sz := 1) rfl⟩, ⟨_, rfl, tell_slice rfl⟩, trivial⟩ ⟨.inr (.inr hl0.tell2), .inr (.inl ⟨_, _, rfl⟩), trivial⟩ ?_
  have lO0 : lstE (.ro none 0 1 (gl [])) (wtI (L.take 0)) 0 := .inl ⟨rfl, rfl, rfl⟩
  refine W_seq (nx := 30) ?_
  refine W_ex (nx := 30) (fun (x : Nat × Ent) => lstE x.2 (wtI L) x.1) (fun x => [(3, .slice 60 0 (wtI L).length x.1)]) (fun x => [(60, x.2)]) 30 ?_ ?_
  · refine vc_sound hE 6 _ _ _ 30 ?_
    refine W_loop (fun q σ h => ∃ (i : Nat) (e eO : Ent) (cO : Nat), q = L.length - i ∧ i ≤ L.length ∧ lstK R2 e L cp ∧ lstE eO (wtI (L.take i)) cO ∧ σ = [(3, .slice 60 0 (wtI (L.take i)).length cO), (4, .slice 50 0 L.length cp), (5, .int .i64 (i : Int))] ∧ h = [(50, e), (60, eO)])
      L.length ⟨0, e0, _, 0, rfl, by omega, hl0, lO0, rfl, rfl⟩ (tau []) ⟨rfl, (by repeat' (first | exact rfl | exact trivial | assumption | refine ⟨?_, ?_⟩)), hl0.wk _ _, lst_wk lO0 _ _, trivial⟩ 30 ?_
    clear lO0 v0 hl0
    rintro q σ h1 ⟨i, e, eO, cO, rfl, hi, hl, hO, rfl, rfl⟩
    have ve := hl.here
    have vO := lst_live hO
    have hw : IntKind.i64.wrap ((i : Int) + 1) = ((i + 1 : Nat) : Int) := by simp only [IntKind.wrap_i64]; omega
    refine W_seq (nx := 30) ?_
    refine W_piece (nx := 30) (fun σ1 h1 _ => i < L.length ∧ h1 = [(50, e), (60, eO)] ∧ subS σ1 [(3, .slice 60 0 (wtI (L.take i)).length cO), (4, .slice 50 0 L.length cp), (5, .int .i64 (i : Int))]) ?_ ?_
    · refine vc_sound hE 60 _ _ _ 30 ?_
      (refine (?_ : br _ _ _); refine br_dec (fun q => ?_) (fun q => ?_))
      · have q1 : (i : Int) < (L.length : Int) := q
        exact ⟨by omega, rfl, rfl, rfl, rfl, trivial⟩
      · have q1 : ¬ (i : Int) < (L.length : Int) := q
        rw [List.take_of_length_le (by omega)] at hO ⊢
        exact ⟨(cO, eO), hO, tau [], rfl, (by repeat' (first | exact rfl | exact trivial | assumption | refine ⟨?_, ?_⟩)), lst_wk hO _ _, trivial⟩
    rintro σ1 h1 _ ⟨hil, rfl, hs⟩
    refine W_sub (nx' := 30) hs ?_
    clear hs
    obtain ⟨p, hp⟩ : ∃ p, L[i]? = some p := ⟨_, List.getElem?_eq_getElem (by omega)⟩
    obtain ⟨b, g, F, rfl, f1, f2, f3, f4⟩ := hl.blk (by omega)
    have dp : F (addI 0 ((i : Int)).toNat) = p := by rw [nat0]; exact f4 i p hp
    refine W_cells (g' := gF R2 F) (nx' := 30) (fun i k hi hk => f3 i k hi hk) ?_
    have hl2 : lstK R2 (.blk b cp 2 (gF R2 F) 72) L cp := lstK.of (R := R2) f1 f2 (fun _ _ _ _ => rfl) f4
    have hsucc := wtI_succ hp
    have hlen := wtI_len (L.take i)
    rw [List.length_take] at hlen
    refine W_seq (nx := 30) ?_
    refine W_ex (nx := 30) (fun (x : Nat × Ent) => lstE x.2 (wtI (L.take (i + 1))) x.1) (fun x => [(3, .slice 60 0 (wtI (L.take (i + 1))).length x.1), (4, .slice 50 0 L.length cp), (5, .int .i64 (i : Int))]) (fun x => [(50, .blk b cp 2 (gF R2 F) 72), (60, x.2)]) 30 ?_ ?_
    · refine vc_sound hE 1 _ _ _ 30 ?_
      refine W_seq (nx := 30) ?_
      refine W_keep (nx := 30) [(3, .slice 60 0 (wtI (L.take i)).length cO), (4, .slice 50 0 L.length cp), (5, .int .i64 (i : Int)), (27, .bool p.2)] [(50, .blk b cp 2 (gF R2 F) 72), (60, eO)] 30 ?_ ?_
      · refine vc_sound hE 60 _ _ _ 30 ?_
        (refine (?_ : chk _ _); refine chk_ok (show (decide ((0 : Int) ≤ (i : Int)) && decide ((i : Int) < (L.length : Int))) = true by simp only [Bool.and_eq_true, decide_eq_true_eq]; omega) ?_)
        (refine (?_ : chk _ _); refine chk_ok rfl ?_)
        (refine (?_ : chk _ _); refine chk_ok (Nat.ble_eq_true_of_le (show addI 0 ((i : Int)).toNat * 2 + (0 + 1) + 1 ≤ cp * 2 by rw [nat0]; omega)) ?_)
        refine ⟨rfl, rfl, rfl, rfl, ?_, trivial⟩
        show some (V.bool (F (addI 0 ((i : Int)).toNat)).2) = _
        rw [dp]
      obtain ⟨pt, pw⟩ := p
      cases pw with
      | false =>
        refine vc_sound hE 60 _ _ _ 30 ?_
        rw [if_neg (by simp), List.append_nil] at hsucc
        rw [← hsucc] at hO ⊢
        exact ⟨(cO, eO), hO, tau [], rfl, (by repeat' (first | exact rfl | exact trivial | assumption | refine ⟨?_, ?_⟩)), hl2.wk _ _, lst_wk hO _ _, trivial⟩
      | true =>
        rw [if_pos rfl] at hsucc
        refine vc_sound hE 60 _ _ _ 30 ?_
        (refine (?_ : chk _ _); refine chk_ok (show (decide ((0 : Int) ≤ (i : Int)) && decide ((i : Int) < (L.length : Int))) = true by simp only [Bool.and_eq_true, decide_eq_true_eq]; omega) ?_)
        (refine (?_ : chk _ _); refine chk_ok rfl ?_)
        (refine (?_ : chk _ _); refine chk_ok (Nat.ble_eq_true_of_le (show addI 0 ((i : Int)).toNat * 2 + 0 + 1 ≤ cp * 2 by rw [nat0]; omega)) ?_)
        intro b1
        refine putS_some rfl ?_
        refine vc_app (v := .slice 60 0 (wtI (L.take i)).length cO) (u := .slice 30 0 1 1) rfl rfl ?_
        refine app_one intT hO rfl (x := pt) (.inr ⟨30, 0, 1, _, 1, _, rfl, rfl, Nat.le_refl _, fun j hj => (by
          obtain rfl : j = 0 := by simpa using hj
          show V.int .i64 (F (addI 0 ((i : Int)).toNat)).1 = _
          rw [dp]; rfl)⟩) rfl (by omega) (fun e' hl' => ?_) (fun e' c' hl' => ?_)
        · rw [← hsucc] at hl' ⊢
          have v2 := lst_live hl'
          exact ⟨(cO, e'), hl', tau [], rfl, (by repeat' (first | exact rfl | exact trivial | assumption | refine ⟨?_, ?_⟩)), hl2.wk _ _, lst_wk hl' _ _, trivial⟩
        · rw [← hsucc] at hl' ⊢
          have v2 := lst_live hl'
          exact ⟨(c', e'), hl', tau [(60, 31)], rfl, (by repeat' (first | exact rfl | exact trivial | assumption | refine ⟨?_, ?_⟩)), hl2.wk _ _, lst_wk hl' _ _, trivial⟩
    rintro ⟨cO2, eO2⟩ hO2
    have hO2 : lstE eO2 (wtI (L.take (i + 1))) cO2 := hO2
    have v2 := lst_live hO2
    refine vc_sound hE 60 _ _ _ 30 ?_
    exact ⟨L.length - (i + 1), _, _, by omega, ⟨i + 1, _, eO2, cO2, rfl, by omega, hl2, hO2, rfl, rfl⟩, tau [], rfl, ⟨⟨⟨rfl, v2⟩, rfl, rfl, rfl⟩, ⟨⟨rfl, trivial⟩, rfl, rfl, rfl⟩, ⟨rfl, hw⟩, trivial⟩, hl2.wk _ _, lst_wk hO2 _ _, trivial⟩
  rintro ⟨cO, eO⟩ hO
  have hO : lstE eO (wtI L) cO := hO
  generalize wtI L = l at hO hE ⊢
  rcases hO with ⟨rfl, rfl, rfl⟩ | ⟨b, g, ty, rfl, h1, h2, h3, h4⟩
  · refine W_tell (σ' := [(3, .nils)]) (h' := []) (nx' := 42) (tau []) rfl ⟨⟨_, rfl, ?_⟩, trivial⟩ trivial ?_
    · rintro x ⟨base, sz, e1, rfl, e3⟩
      have : base = none := by injection e1 with e1; injection e1 with e1; exact e1.symm
      subst this
      rfl
    refine vc_sound hE 20 _ _ _ 42 ?_
    exact .inl ⟨rfl, rfl⟩
  · refine vc_sound hE 20 _ _ _ 30 ?_
    exact .inr ⟨60, cO, b, g, ty, rfl, rfl, h1, h2, h3, h4⟩
end Go.Proofs.Ytgcnknhfphgfnaa.Sx

/-
  The document's turns, written: what is known behind a call.
-/
namespace Go.Proofs.Ytgcnknhfphgfnaa.Sx
open Go Go.Proofs
set_option maxRecDepth 100000
set_option linter.unusedSimpArgs false
set_option linter.unusedVariables false

abbrev HDc (bR : Nat) (md ma : Int) (td ta : Nat) (D A : Dl) (eD eA : Ent) (cD cA : Nat) (h : Hp) : Hp := (18, .blk bR 1 4 (gDc td ta D.length cD A.length cA md ma) 48) :: (td, eD) :: (ta, eA) :: h
/-- What is known of the document's turns behind a walk. -/
structure DcF (h h' : Hp) (bR : Nat) (md ma : Int) (D A : Dl) (sd sa : Nat) (eD eA : Ent) (cD cA : Nat) (g : Nat → Nat → V) : Prop where
  str : fd 18 h' = .blk bR 1 4 g 48
  g0 : g 0 0 = .slice sd 0 D.length cD
  g1 : g 0 1 = .slice sa 0 A.length cA
  g2 : g 0 2 = .int .i64 md
  g3 : g 0 3 = .int .i64 ma
  d : fd sd h' = eD
  a : fd sa h' = eA
  ld : lstK R2 eD D cD
  la : lstK R2 eA A cA
  wd : (sd = 19 ∧ eD.rf = (fd 19 h).rf) ∨ (30 ≤ sd ∧ sd < 40 ∧ fd 19 h' = fd 19 h)
  wa : (sa = 20 ∧ eA.rf = (fd 20 h).rf) ∨ (30 ≤ sa ∧ sa < 40 ∧ fd 20 h' = fd 20 h)
  ne : sd ≠ sa
  kp : ∀ t, t ≠ 18 → t ≠ 19 → t ≠ 20 → (t < 30 ∨ 40 ≤ t) → fd t h' = fd t h
def DcK (h : Hp) (bR : Nat) (md ma : Int) (D A : Dl) (o : Out) (K : Out → Hp → Nat → Prop) (nx : Nat) : Prop := ∀ td ta eD eA cD cA, ((td = 19 ∧ eD.rf = (fd 19 h).rf) ∨ td = 21) → ((ta = 20 ∧ eA.rf = (fd 20 h).rf) ∨ ta = 22) → lstK R2 eD D cD → lstK R2 eA A cA → K o (HDc bR md ma td ta D A eD eA cD cA h) nx
/-- The scratch tags of the document's calls. -/
def GoneD (h : Hp) : Prop := (∀ t, 30 ≤ t → t < 40 → fd t h = .gone) ∧ fd 21 h = .gone ∧ fd 22 h = .gone
theorem gDc_tell {h1 h2 : Hp} {bR : Nat} {md ma : Int} {sd sa td ta nD nA cD cA : Nat} {g : Nat → Nat → V} (g0 : g 0 0 = .slice sd 0 nD cD) (g1 : g 0 1 = .slice sa 0 nA cA) (g2 : g 0 2 = .int .i64 md) (g3 : g 0 3 = .int .i64 ma) (hd : (fd td h2).rf = (fd sd h1).rf) (ha : (fd ta h2).rf = (fd sa h1).rf) :
    tellE2 h1 h2 (.blk bR 1 4 g 48) (.blk bR 1 4 (gDc td ta nD cD nA cA md ma) 48) := ⟨rfl, rfl, rfl, rfl, fun i k hi hk => by
  obtain rfl : i = 0 := by omega
  match k, hk with
  | 0, _ => rw [g0]; exact tell_slice hd
  | 1, _ => rw [g1]; exact tell_slice ha
  | 2, _ => rw [g2]; exact tell_flat trivial
  | 3, _ => rw [g3]; exact tell_flat trivial⟩
theorem fd_HDc {bR : Nat} {md ma : Int} {td ta : Nat} {D A : Dl} {eD eA : Ent} {cD cA : Nat} {h : Hp} {t : Nat} (h1 : t ≠ 18) (h2 : t ≠ td) (h3 : t ≠ ta) : fd t (HDc bR md ma td ta D A eD eA cD cA h) = fd t h := by rw [fd_cons, if_neg h1, fd_cons, if_neg h2, fd_cons, if_neg h3]
theorem DcF.ren {h h' : Hp} {bR : Nat} {md ma : Int} {D0 A0 : Dl} {eD0 eA0 : Ent} {cD0 cA0 : Nat} {D A : Dl} {sd sa : Nat} {eD eA : Ent} {cD cA : Nat} {g : Nat → Nat → V} {o : Out} {K : Out → Hp → Nat → Prop} {nx : Nat} (H : DcW h bR md ma D0 A0 eD0 eA0 cD0 cA0) (hg : GoneD h) (F : DcF h h' bR md ma D A sd sa eD eA cD cA g) (hf : o.flat) (hk : DcK h bR md ma D A o K nx) :
    ∃ o' h'' m τ, K o' h'' m ∧ Ext h h'' ∧ (∀ t, RenE τ h h' h'' t) ∧ (∀ t t', t ≠ t' → (fd t h'').at.isSome = true → (fd t' h'').at.isSome = true → τ t ≠ τ t') ∧ ∀ e, OutRel h' o e → OutRel h'' o' e := by
  obtain ⟨hg, h21, h22⟩ := hg
  -- where the rows are told
  obtain ⟨td, htd⟩ : ∃ td, td = if sd = 19 then 19 else 21 := ⟨_, rfl⟩
  obtain ⟨ta, hta⟩ : ∃ ta, ta = if sa = 20 then 20 else 22 := ⟨_, rfl⟩
  have wd : (td = 19 ∧ sd = 19 ∧ eD.rf = (fd 19 h).rf) ∨ (td = 21 ∧ 30 ≤ sd ∧ sd < 40 ∧ fd 19 h' = fd 19 h) := by
    rcases F.wd with ⟨a, b⟩ | ⟨a, b, c⟩
    · left; exact ⟨by rw [htd, if_pos a], a, b⟩
    · right; exact ⟨by rw [htd, if_neg (by omega)], a, b, c⟩
  have wa : (ta = 20 ∧ sa = 20 ∧ eA.rf = (fd 20 h).rf) ∨ (ta = 22 ∧ 30 ≤ sa ∧ sa < 40 ∧ fd 20 h' = fd 20 h) := by
    rcases F.wa with ⟨a, b⟩ | ⟨a, b, c⟩
    · left; exact ⟨by rw [hta, if_pos a], a, b⟩
    · right; exact ⟨by rw [hta, if_neg (by omega)], a, b, c⟩
  clear htd hta
  have n1 : td ≠ 18 := by omega
  have n2 : ta ≠ 18 := by omega
  have n3 : ta ≠ td := by omega
  obtain ⟨h'', hh⟩ : ∃ h'', h'' = HDc bR md ma td ta D A eD eA cD cA h := ⟨_, rfl⟩
  have f18 : fd 18 h'' = .blk bR 1 4 (gDc td ta D.length cD A.length cA md ma) 48 := by rw [hh]; rfl
  have ftd : fd td h'' = eD := by rw [hh, fd_cons, if_neg n1, fd_cons, if_pos rfl]
  have fta : fd ta h'' = eA := by rw [hh, fd_cons, if_neg n2, fd_cons, if_neg n3, fd_cons, if_pos rfl]
  have fo : ∀ t, t ≠ 18 → t ≠ td → t ≠ ta → fd t h'' = fd t h := fun t a b c => by rw [hh]; exact fd_HDc a b c
  let τ : Nat → Nat := fun t => if t = td then sd else if t = ta then sa else t
  have τd : τ td = sd := if_pos rfl
  have τa : τ ta = sa := by show (if ta = td then sd else if ta = ta then sa else ta) = sa; rw [if_neg n3, if_pos rfl]
  have τo : ∀ t, t ≠ td → t ≠ ta → τ t = t := fun t a b => by show (if t = td then sd else if t = ta then sa else t) = t; rw [if_neg a, if_neg b]
  have scr : ∀ t, 30 ≤ t → t < 40 → fd t h'' = .gone := fun t a b => by rw [fo t (by omega) (by omega) (by omega)]; exact hg t a b
  refine ⟨o, h'', nx, τ, by rw [hh]; exact hk td ta eD eA cD cA (by rcases wd with ⟨x, _, y⟩ | ⟨x, _⟩; exact .inl ⟨x, y⟩; exact .inr x) (by rcases wa with ⟨x, _, y⟩ | ⟨x, _⟩; exact .inl ⟨x, y⟩; exact .inr x) F.ld F.la, fun t r er => ?_, fun t => ?_, fun t t' hne e1 e2 => ?_, flat_out hf⟩
  · by_cases q0 : t = 18
    · subst q0; rw [H.str] at er; rw [f18]; exact er
    by_cases q1 : t = td
    · subst q1
      rw [ftd]
      rcases wd with ⟨w1, w2, w3⟩ | ⟨w1, _⟩
      · subst w1; rw [w3]; exact er
      · subst w1; rw [h21] at er; cases er
    by_cases q2 : t = ta
    · subst q2
      rw [fta]
      rcases wa with ⟨w1, w2, w3⟩ | ⟨w1, _⟩
      · subst w1; rw [w3]; exact er
      · subst w1; rw [h22] at er; cases er
    rw [fo t q0 q1 q2]; exact er
  · by_cases q0 : t = 18
    · subst q0
      refine .inr (.inr (.inr ?_))
      rw [τo 18 (by omega) (by omega), f18, F.str]
      exact gDc_tell (bR := bR) F.g0 F.g1 F.g2 F.g3 (by rw [ftd, F.d]) (by rw [fta, F.a])
    by_cases q1 : t = td
    · subst q1
      refine .inr (.inr (.inr ?_))
      rw [τd, ftd, F.d]
      exact F.ld.tell2
    by_cases q2 : t = ta
    · subst q2
      refine .inr (.inr (.inr ?_))
      rw [τa, fta, F.a]
      exact F.la.tell2
    have key : fd t h' = fd t h → RenE τ h h' h'' t := fun e => .inr (.inl ⟨τo t q1 q2, by rw [fo t q0 q1 q2, e], e⟩)
    by_cases q3 : t = 19
    · subst q3
      rcases wd with ⟨w1, w2, w3⟩ | ⟨w1, w2, w3, w4⟩
      · exact absurd w1.symm q1
      · exact key w4
    by_cases q4 : t = 20
    · subst q4
      rcases wa with ⟨w1, w2, w3⟩ | ⟨w1, w2, w3, w4⟩
      · exact absurd w1.symm q2
      · exact key w4
    by_cases q5 : 30 ≤ t ∧ t < 40
    · exact .inl (scr t q5.1 q5.2)
    exact key (F.kp t q0 q3 q4 (by omega))
  · have ns : ∀ t, (fd t h'').at.isSome = true → ¬ (30 ≤ t ∧ t < 40) := fun t e q => by rw [scr t q.1 q.2] at e; cases e
    have s1 := ns t e1
    have s2 := ns t' e2
    have hne' := F.ne
    by_cases q1 : t = td
    · subst q1
      rw [τd]
      by_cases q2' : t' = ta
      · subst q2'; rw [τa]; exact F.ne
      · rw [τo t' (fun q => hne q.symm) q2']; omega
    by_cases q2 : t = ta
    · subst q2
      rw [τa]
      by_cases q1' : t' = td
      · subst q1'; rw [τd]; exact fun q => F.ne q.symm
      · rw [τo t' q1' (fun q => hne q.symm)]; omega
    rw [τo t q1 q2]
    by_cases q1' : t' = td
    · subst q1'; rw [τd]; omega
    by_cases q2' : t' = ta
    · subst q2'; rw [τa]; omega
    rw [τo t' q1' q2']; exact hne
end Go.Proofs.Ytgcnknhfphgfnaa.Sx

/-
  The document's turns: Put.
-/
namespace Go.Proofs.Ytgcnknhfphgfnaa.Sx
open Go Go.Proofs
set_option maxRecDepth 100000
set_option linter.unusedSimpArgs false
set_option linter.unusedVariables false

def DcC (h : Hp) (bR : Nat) (md ma : Int) (D A : Dl) (o : Out) (K : Out → Hp → Nat → Prop) (nx : Nat) : Prop := ∀ h' sd sa eD eA cD cA g, DcF h h' bR md ma D A sd sa eD eA cD cA g → K o h' nx
theorem DcF.ext {h h' : Hp} {bR : Nat} {md ma : Int} {D0 A0 : Dl} {eD0 eA0 : Ent} {cD0 cA0 : Nat} {D A : Dl} {sd sa : Nat} {eD eA : Ent} {cD cA : Nat} {g : Nat → Nat → V} (H : DcW h bR md ma D0 A0 eD0 eA0 cD0 cA0) (hg : GoneD h) (F : DcF h h' bR md ma D A sd sa eD eA cD cA g) : Ext h h' := fun t r e => by
  by_cases q0 : t = 18
  · subst q0; rw [H.str] at e; rw [F.str]; exact e
  by_cases q1 : t = 19
  · subst q1
    rcases F.wd with ⟨rfl, b⟩ | ⟨_, _, c⟩
    · rw [F.d, b]; exact e
    · rw [c]; exact e
  by_cases q2 : t = 20
  · subst q2
    rcases F.wa with ⟨rfl, b⟩ | ⟨_, _, c⟩
    · rw [F.a, b]; exact e
    · rw [c]; exact e
  by_cases q3 : 30 ≤ t ∧ t < 40
  · rw [hg.1 t q3.1 q3.2] at e; cases e
  · rw [F.kp t q0 q1 q2 (by omega)]; exact e
/-- What is known, put in front. -/
abbrev HF (bR : Nat) (md ma : Int) (D A : Dl) (eD eA : Ent) (cD cA : Nat) (h : Hp) : Hp := (18, .blk bR 1 4 (gDc 19 20 D.length cD A.length cA md ma) 48) :: (19, eD) :: (20, eA) :: (30, .gone) :: (31, .gone) :: (32, .gone) :: (33, .gone) :: (34, .gone) :: (35, .gone) :: h
theorem HF.eq {h : Hp} {bR : Nat} {md ma : Int} {D A : Dl} {eD eA : Ent} {cD cA : Nat} (H : DcW h bR md ma D A eD eA cD cA) (hg : GoneD h) : ∀ u, fd u (HF bR md ma D A eD eA cD cA h) = fd u h :=
  fdeq_cons2 H.str (fdeq_cons2 H.d (fdeq_cons2 H.a (fdeq_cons2 (hg.1 30 (by decide) (by decide)) (fdeq_cons2 (hg.1 31 (by decide) (by decide)) (fdeq_cons2 (hg.1 32 (by decide) (by decide)) (fdeq_cons2 (hg.1 33 (by decide) (by decide)) (fdeq_cons2 (hg.1 34 (by decide) (by decide)) (fdeq_cons (hg.1 35 (by decide) (by decide))))))))))
/-- Nothing is written. -/
theorem DcF.no {h h' : Hp} {bR : Nat} {md ma : Int} {D A : Dl} {eD eA : Ent} {cD cA : Nat} (H : DcW h bR md ma D A eD eA cD cA) (he : ∀ u, fd u h' = fd u h) : DcF h h' bR md ma D A 19 20 eD eA cD cA (gDc 19 20 D.length cD A.length cA md ma) :=
  ⟨(he 18).trans H.str, rfl, rfl, rfl, rfl, (he 19).trans H.d, (he 20).trans H.a, H.ld, H.la, .inl ⟨rfl, by rw [H.d]⟩, .inl ⟨rfl, by rw [H.a]⟩, by decide, fun t _ _ _ _ => he t⟩
/-- But for these tags, all is as it was. -/
def KeepD (h h' : Hp) : Prop := ∀ t, t ≠ 18 → t ≠ 19 → t ≠ 20 → (t < 30 ∨ 40 ≤ t) → fd t h' = fd t h
theorem KeepD.cons {h h' : Hp} (H : KeepD h h') {t : Nat} {e : Ent} (ht : t = 18 ∨ t = 19 ∨ t = 20 ∨ (30 ≤ t ∧ t < 40)) : KeepD h ((t, e) :: h') := fun u a b c d => by
  rw [fd_cons, if_neg (by omega)]; exact H u a b c d
theorem KeepD.of {h h' : Hp} (H : ∀ u, fd u h' = fd u h) : KeepD h h' := fun u _ _ _ _ => H u
/-- What a call of the document's comes to: its code, and the rows. -/
structure RR where
  e : Int
  D : Dl
  A : Dl
def rPut (md ma : Int) (D A : Dl) (t : Int) (ah : Bool) : RR :=
  if t < 1 then ⟨1, D, A⟩ else if hasD D A t = true then ⟨4, D, A⟩ else
    if ah = true then (if ma ≤ (A.length : Int) then ⟨2, D, A⟩ else ⟨0, D, A ++ [(t, true)]⟩) else (if md ≤ (D.length : Int) then ⟨2, D, A⟩ else ⟨0, D ++ [(t, true)], A⟩)
def sRPut0 : Spec := fun args h nx K => ∃ (bR : Nat) (md ma : Int) (D A : Dl) (eD eA : Ent) (cD cA : Nat) (t : Int) (ah : Bool), args = [.ptr 18 0 0, .int .i64 t, .bool ah] ∧ DcW h bR md ma D A eD eA cD cA ∧ GoneD h ∧ D.length ≤ 900 ∧ A.length ≤ 900 ∧ DcC h bR md ma (rPut md ma D A t ah).D (rPut md ma D A t ah).A (.ret (.int .i64 (rPut md ma D A t ah).e)) K nx
theorem sRPut0_ok : SpecOK Try.prog 24 sRPut0 := specOK_imp (inlx_ok (fn := Try.f24) rfl rfl rfl T_ok (SP := [(40, sHas)]) (consSP sHas_ok noSP)) <| by
  rintro args h nx K ⟨bR, md, ma, D, A, eD, eA, cD, cA, t, ah, rfl, H, hg, hD, hA, hk⟩
  refine ⟨by simp [Try.f24], fun c hc => ?_⟩
  have hE := mkE' (fn := Try.f24) (R := fun o h' _ => Ext h h' ∧ ∃ m, K o h' m) hc (consSP sHas_ok noSP)
  have heq := HF.eq H hg
  have hfin : ∀ e D' A', rPut md ma D A t ah = ⟨e, D', A'⟩ → ∀ h' sd sa eD eA cD cA g, DcF h h' bR md ma D' A' sd sa eD eA cD cA g → Ext h h' ∧ ∃ m, K (.ret (.int .i64 e)) h' m := fun e D' A' q h' sd sa eD eA cD cA g F => by
    rw [q] at hk
    exact ⟨F.ext H hg, nx, hk h' sd sa eD eA cD cA g F⟩
  obtain ⟨h0, hh0⟩ : ∃ h0, h0 = HF bR md ma D A eD eA cD cA h := ⟨_, rfl⟩
  rw [← hh0] at heq
  have no := DcF.no H heq
  have kp0 : KeepD h h0 := KeepD.of heq
  refine W_fdeq (nx' := 30) heq ?_
  refine W_seq (nx := 30) ?_
  refine W_keep (nx := 30) [(0, .ptr 18 0 0), (1, .int .i64 t), (2, .bool ah)] h0 30 ?_ ?_
  · refine vc_sound hE 40 _ _ _ 30 ?_
    exact ⟨rfl, rfl, rfl, rfl, trivial⟩
  refine W_seq (nx := 30) ?_
  refine W_piece (nx := 30) (fun σ1 h1 _ => ¬ t < 1 ∧ h1 = h0 ∧ subS σ1 [(0, .ptr 18 0 0), (1, .int .i64 t), (2, .bool ah)]) ?_ ?_
  · refine vc_sound hE 40 _ _ _ 30 ?_
    (refine (?_ : br _ _ _); refine br_dec (fun q => ?_) (fun q => ?_))
    · have q1 : t < 1 := q
      exact hfin 1 D A (by unfold rPut; rw [if_pos q1]) _ _ _ _ _ _ _ _ no
    · exact ⟨q, rfl, rfl, rfl, rfl, trivial⟩
  rintro σ1 h1 _ ⟨q1, rfl, hs⟩
  refine W_sub (nx' := 30) hs ?_
  clear hs
  refine W_seq (nx := 30) ?_
  refine W_piece (nx := 30) (fun σ1 h2 _ => ¬ hasD D A t = true ∧ h2 = h1 ∧ subS σ1 [(0, .ptr 18 0 0), (1, .int .i64 t), (2, .bool ah)]) ?_ ?_
  · refine vc_sound hE 40 _ _ _ 30 ?_
    refine ⟨bR, md, ma, D, A, eD, eA, cD, cA, t, rfl, by rw [hh0]; exact ⟨rfl, rfl, rfl, H.ld, H.la⟩, by omega, by omega, ?_⟩
    (refine (?_ : br _ _ _); refine br_both (fun q2 => ?_) (fun q2 => ?_))
    · exact hfin 4 D A (by unfold rPut; rw [if_neg q1, if_pos q2]) _ _ _ _ _ _ _ _ no
    · exact ⟨by rw [q2]; simp, rfl, rfl, rfl, rfl, trivial⟩
  rintro σ1 h2 _ ⟨q2, rfl, hs⟩
  refine W_sub (nx' := 30) hs ?_
  clear hs
  cases ah with
  | true =>
    subst hh0
    refine W_seq (nx := 30) ?_
    refine W_piece (nx := 30) (fun _ _ _ => False) ?_ (fun _ _ _ q => q.elim)
    refine vc_sound hE 5 _ _ _ 30 ?_
    refine W_seq (nx := 30) ?_
    refine W_piece (nx := 30) (fun σ1 h2 _ => ¬ ma ≤ (A.length : Int) ∧ h2 = HF bR md ma D A eD eA cD cA h ∧ subS σ1 [(0, .ptr 18 0 0), (1, .int .i64 t)]) ?_ ?_
    · refine vc_sound hE 1 _ _ _ 30 ?_
      refine W_planw hE 30 [] (lineP 0 10 .done) (by rw [hc]; exact mix) (by kernel_rfl) 60 ?_
      iterate 10 (refine ⟨_, ⟨rfl, rfl⟩, ?_⟩)
      refine putS_some rfl ?_
      (refine (?_ : br _ _ _); refine br_dec (fun q => ?_) (fun q => ?_))
      · have q3 : ma ≤ (A.length : Int) := q
        exact hfin 2 D A (by unfold rPut; rw [if_neg q1, if_neg q2, if_pos rfl, if_pos q3]) _ _ _ _ _ _ _ _ no
      · exact ⟨q, rfl, rfl, rfl, trivial⟩
    rintro σ1 h2 _ ⟨q3, rfl, hs⟩
    refine W_sub (nx' := 30) hs ?_
    clear hs
    have fin : ∀ (h' : Hp) (sx : Nat) (eX : Ent) (cX : Nat) (g : Nat → Nat → V), fd 18 h' = .blk bR 1 4 g 48 → g 0 0 = .slice 19 0 D.length cD ∧ g 0 1 = .slice sx 0 (A ++ [(t, true)]).length cX → g 0 2 = .int .i64 md → g 0 3 = .int .i64 ma → fd sx h' = eX → lstK R2 eX (A ++ [(t, true)]) cX → 30 ≤ sx → sx < 40 → fd 19 h' = eD → fd 20 h' = eA → KeepD h h' → Ext h h' ∧ ∃ m, K (.ret (.int .i64 0)) h' m := fun h' sx eX cX g f18 g0 g2 g3 fx lx s1 s2 f19 f20 kp =>
      hfin 0 _ _ (by unfold rPut; rw [if_neg q1, if_neg q2, if_pos rfl, if_neg q3]) h' _ _ _ _ _ _ g ⟨f18, g0.1, g0.2, g2, g3, f19, fx, H.ld, lx, .inl ⟨rfl, by rw [H.d]⟩, .inr ⟨s1, s2, by rw [f20, H.a]⟩, by omega, kp⟩
    have hu : ∀ (b : Nat) (h1 : Hp) (tt : Nat), fd tt h1 = .blk b 1 2 (gOf 2 [.int .i64 t, .bool true]) 72 → rdK R2 h1 (.slice tt 0 1 1) [(t, true)] := fun b h1 tt e => rdK.one (b := some ⟨b, 0, none⟩) (by rw [fd_roH, e]; rfl) (by decide) fun k hk => by
      match k, hk with
      | 0, _ => rfl
      | 1, _ => rfl
    refine W_seq (nx := 30) ?_
    refine vc_sound hE 7 _ _ _ 30 ?_
    intro b0
    refine putS_some rfl ?_
    refine W_app hE 3 (v := .slice 30 0 0 0) (u := .slice 20 0 A.length cA) (nx := 31) (nx' := 31) rfl rfl ?_
    refine app_copyK (R := R2) (m := A) appT2 rfl (H.la.rd rfl) rfl (by omega) (fun h0 => ?_) (fun e cp hle => ?_)
    · intro b1
      refine putS_some rfl ?_
      refine W_app hE 60 (v := .slice 30 0 0 0) (u := .slice 31 0 1 1) (nx := 32) (nx' := 32) rfl rfl ?_
      rw [h0] at fin
      refine app_oneK (R := R2) (l := []) appT2 lstK.none0 rfl (hu _ _ _ rfl) rfl (by simp) (fun e' _ hl' => ?_) (fun e' cp' hl' => ?_)
      · exact fin _ 30 e' 0 _ rfl ⟨rfl, rfl⟩ rfl rfl rfl hl' (by decide) (by decide) rfl rfl (by repeat' (first | exact kp0 | refine KeepD.cons ?_ (by omega)))
      · exact fin _ 32 e' cp' _ rfl ⟨rfl, rfl⟩ rfl rfl rfl hl' (by decide) (by decide) rfl rfl (by repeat' (first | exact kp0 | refine KeepD.cons ?_ (by omega)))
    · intro b1
      refine putS_some rfl ?_
      refine W_app hE 60 (v := .slice 31 0 A.length cp) (u := .slice 32 0 1 1) (nx := 33) (nx' := 33) rfl rfl ?_
      refine app_oneK (R := R2) (l := A) appT2 hle rfl (hu _ _ _ rfl) rfl (by omega) (fun e' _ hl' => ?_) (fun e' cp' hl' => ?_)
      · exact fin _ 31 e' cp _ rfl ⟨rfl, rfl⟩ rfl rfl rfl hl' (by decide) (by decide) rfl rfl (by repeat' (first | exact kp0 | refine KeepD.cons ?_ (by omega)))
      · exact fin _ 33 e' cp' _ rfl ⟨rfl, rfl⟩ rfl rfl rfl hl' (by decide) (by decide) rfl rfl (by repeat' (first | exact kp0 | refine KeepD.cons ?_ (by omega)))
  | false =>
    subst hh0
    refine W_seq (nx := 30) ?_
    refine W_keep (nx := 30) [(0, .ptr 18 0 0), (1, .int .i64 t)] (HF bR md ma D A eD eA cD cA h) 30 ?_ ?_
    · refine vc_sound hE 20 _ _ _ 30 ?_
      exact ⟨rfl, rfl, rfl, trivial⟩
    refine W_seq (nx := 30) ?_
    refine W_piece (nx := 30) (fun σ1 h2 _ => ¬ md ≤ (D.length : Int) ∧ h2 = HF bR md ma D A eD eA cD cA h ∧ subS σ1 [(0, .ptr 18 0 0), (1, .int .i64 t)]) ?_ ?_
    · refine vc_sound hE 1 _ _ _ 30 ?_
      refine W_planw hE 30 [] (lineP 0 10 .done) (by rw [hc]; exact mix) (by kernel_rfl) 60 ?_
      iterate 10 (refine ⟨_, ⟨rfl, rfl⟩, ?_⟩)
      refine putS_some rfl ?_
      (refine (?_ : br _ _ _); refine br_dec (fun q => ?_) (fun q => ?_))
      · have q3 : md ≤ (D.length : Int) := q
        exact hfin 2 D A (by unfold rPut; rw [if_neg q1, if_neg q2, if_neg (by decide), if_pos q3]) _ _ _ _ _ _ _ _ no
      · exact ⟨q, rfl, rfl, rfl, trivial⟩
    rintro σ1 h2 _ ⟨q3, rfl, hs⟩
    refine W_sub (nx' := 30) hs ?_
    clear hs
    have fin : ∀ (h' : Hp) (sx : Nat) (eX : Ent) (cX : Nat) (g : Nat → Nat → V), fd 18 h' = .blk bR 1 4 g 48 → g 0 0 = .slice sx 0 (D ++ [(t, true)]).length cX ∧ g 0 1 = .slice 20 0 A.length cA → g 0 2 = .int .i64 md → g 0 3 = .int .i64 ma → fd sx h' = eX → lstK R2 eX (D ++ [(t, true)]) cX → 30 ≤ sx → sx < 40 → fd 19 h' = eD → fd 20 h' = eA → KeepD h h' → Ext h h' ∧ ∃ m, K (.ret (.int .i64 0)) h' m := fun h' sx eX cX g f18 g0 g2 g3 fx lx s1 s2 f19 f20 kp =>
      hfin 0 _ _ (by unfold rPut; rw [if_neg q1, if_neg q2, if_neg (by decide), if_neg q3]) h' _ _ _ _ _ _ g ⟨f18, g0.1, g0.2, g2, g3, fx, f20, lx, H.la, .inr ⟨s1, s2, by rw [f19, H.d]⟩, .inl ⟨rfl, by rw [H.a]⟩, by omega, kp⟩
    have hu : ∀ (b : Nat) (h1 : Hp) (tt : Nat), fd tt h1 = .blk b 1 2 (gOf 2 [.int .i64 t, .bool true]) 72 → rdK R2 h1 (.slice tt 0 1 1) [(t, true)] := fun b h1 tt e => rdK.one (b := some ⟨b, 0, none⟩) (by rw [fd_roH, e]; rfl) (by decide) fun k hk => by
      match k, hk with
      | 0, _ => rfl
      | 1, _ => rfl
    refine W_seq (nx := 30) ?_
    refine vc_sound hE 7 _ _ _ 30 ?_
    intro b0
    refine putS_some rfl ?_
    refine W_app hE 3 (v := .slice 30 0 0 0) (u := .slice 19 0 D.length cD) (nx := 31) (nx' := 31) rfl rfl ?_
    refine app_copyK (R := R2) (m := D) appT2 rfl (H.ld.rd rfl) rfl (by omega) (fun h0 => ?_) (fun e cp hle => ?_)
    · intro b1
      refine putS_some rfl ?_
      refine W_app hE 60 (v := .slice 30 0 0 0) (u := .slice 31 0 1 1) (nx := 32) (nx' := 32) rfl rfl ?_
      rw [h0] at fin
      refine app_oneK (R := R2) (l := []) appT2 lstK.none0 rfl (hu _ _ _ rfl) rfl (by simp) (fun e' _ hl' => ?_) (fun e' cp' hl' => ?_)
      · exact fin _ 30 e' 0 _ rfl ⟨rfl, rfl⟩ rfl rfl rfl hl' (by decide) (by decide) rfl rfl (by repeat' (first | exact kp0 | refine KeepD.cons ?_ (by omega)))
      · exact fin _ 32 e' cp' _ rfl ⟨rfl, rfl⟩ rfl rfl rfl hl' (by decide) (by decide) rfl rfl (by repeat' (first | exact kp0 | refine KeepD.cons ?_ (by omega)))
    · intro b1
      refine putS_some rfl ?_
      refine W_app hE 60 (v := .slice 31 0 D.length cp) (u := .slice 32 0 1 1) (nx := 33) (nx' := 33) rfl rfl ?_
      refine app_oneK (R := R2) (l := D) appT2 hle rfl (hu _ _ _ rfl) rfl (by omega) (fun e' _ hl' => ?_) (fun e' cp' hl' => ?_)
      · exact fin _ 31 e' cp _ rfl ⟨rfl, rfl⟩ rfl rfl rfl hl' (by decide) (by decide) rfl rfl (by repeat' (first | exact kp0 | refine KeepD.cons ?_ (by omega)))
      · exact fin _ 33 e' cp' _ rfl ⟨rfl, rfl⟩ rfl rfl rfl hl' (by decide) (by decide) rfl rfl (by repeat' (first | exact kp0 | refine KeepD.cons ?_ (by omega)))

def sRPut : Spec := fun args h nx K => ∃ (bR : Nat) (md ma : Int) (D A : Dl) (eD eA : Ent) (cD cA : Nat) (t : Int) (ah : Bool), args = [.ptr 18 0 0, .int .i64 t, .bool ah] ∧ DcW h bR md ma D A eD eA cD cA ∧ GoneD h ∧ D.length ≤ 900 ∧ A.length ≤ 900 ∧ DcK h bR md ma (rPut md ma D A t ah).D (rPut md ma D A t ah).A (.ret (.int .i64 (rPut md ma D A t ah).e)) K nx
theorem sRPut_ok : SpecOK Try.prog 24 sRPut := specOK_imp (specOK_ren sRPut0_ok) <| by
  rintro args h nx K ⟨bR, md, ma, D, A, eD, eA, cD, cA, t, ah, rfl, H, hg, hD, hA, hk⟩
  exact ⟨bR, md, ma, D, A, eD, eA, cD, cA, t, ah, rfl, H, hg, hD, hA, fun h' sd sa eD' eA' cD' cA' g F _ => F.ren (o := .ret (.int .i64 _)) H hg trivial hk⟩
end Go.Proofs.Ytgcnknhfphgfnaa.Sx

