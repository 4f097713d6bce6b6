import Derived.Test.YtgcnknhfphgfnaaSxG3
/-
  The document's turns: Wait.
-/
namespace Go.Proofs.Ytgcnknhfphgfnaa.Sx
open Go Go.Proofs
set_option maxRecDepth 100000
set_option linter.unusedSimpArgs false
set_option linter.unusedVariables false

def rWait (D A : Dl) (t : Int) (w : Bool) : RR :=
  if 0 ≤ fIdx D t then (if (D.getD (fIdx D t).toNat (0, false)).2 = w then ⟨5, D, A⟩ else ⟨0, D.set (fIdx D t).toNat (t, w), A⟩)
  else if 0 ≤ fIdx A t then (if (A.getD (fIdx A t).toNat (0, false)).2 = w then ⟨5, D, A⟩ else ⟨0, D, A.set (fIdx A t).toNat (t, w)⟩) else ⟨3, D, A⟩
theorem fIdx_ge {l : Dl} {t : Int} (h : 0 ≤ fIdx l t) : ∃ (i : Nat) (w : Bool), fIdx l t = (i : Int) ∧ l[i]? = some (t, w) := by
  rcases fIdx_cases l t with ⟨e, _⟩ | ⟨i, w, e, hi, _⟩
  · omega
  · exact ⟨i, w, e, hi⟩
/-- A place's second cell, written. -/
theorem lstK.snd {e : Ent} {l : Dl} {cap b i : Nat} {F : Nat → Int × Bool} {t : Int} {w0 w : Bool} (h1 : l.length ≤ cap) (h2 : cap ≤ 9223372036854775807) (h4 : ∀ j a, l[j]? = some a → F j = a) (hi : l[i]? = some (t, w0)) : lstK R2 (.blk b cap 2 (putG 2 (gF R2 F) i (0 + 1) [.bool w]) 72) (l.set i (t, w)) cap := by
  refine lstK.of (R := R2) (F := fun x => if x = i then ((F i).1, w) else F x) (by rw [List.length_set]; exact h1) h2 (fun j k hj hk => ?_) (fun j a ha => ?_)
  · have hk : k < 2 := hk
    rw [putG_one (by decide) hk]
    show _ = dlC (if j = i then ((F i).1, w) else F j) k
    by_cases q : j = i
    · subst q
      rw [if_pos rfl]
      match k, hk with
      | 0, _ => rw [if_neg (by omega)]; rfl
      | 1, _ => rw [if_pos ⟨rfl, rfl⟩]; rfl
    · rw [if_neg q, if_neg (fun h => q h.1)]; rfl
  · show (if j = i then ((F i).1, w) else F j) = a
    by_cases q : j = i
    · subst q
      rw [List.getElem?_set_self (lt_of_at hi)] at ha
      cases ha
      rw [if_pos rfl, h4 _ _ hi]
    · rw [List.getElem?_set_ne (fun h => q h.symm)] at ha
      rw [if_neg q]; exact h4 j a ha
def sRWait0 : Spec := fun args h nx K => ∃ (bR : Nat) (md ma : Int) (D A : Dl) (eD eA : Ent) (cD cA : Nat) (t : Int) (w : Bool), args = [.ptr 18 0 0, .int .i64 t, .bool w] ∧ DcW h bR md ma D A eD eA cD cA ∧ GoneD h ∧ D.length ≤ 900 ∧ A.length ≤ 900 ∧ DcC h bR md ma (rWait D A t w).D (rWait D A t w).A (.ret (.int .i64 (rWait D A t w).e)) K nx
theorem sRWait0_ok : SpecOK Try.prog 25 sRWait0 := specOK_imp (inlx_ok (fn := Try.f25) rfl rfl rfl T_ok (SP := [(38, sFind)]) (consSP sFind_ok noSP)) <| by
  rintro args h nx K ⟨bR, md, ma, D, A, eD, eA, cD, cA, t, w, rfl, H, hg, hD, hA, hk⟩
  refine ⟨by simp [Try.f25], fun c hc => ?_⟩
  have hE := mkE' (fn := Try.f25) (R := fun o h' _ => Ext h h' ∧ ∃ m, K o h' m) hc (consSP sFind_ok noSP)
  have heq := HF.eq H hg
  have hfin : ∀ e D' A', rWait D A t w = ⟨e, D', A'⟩ → ∀ h' sd sa eD eA cD cA g, DcF h h' bR md ma D' A' sd sa eD eA cD cA g → Ext h h' ∧ ∃ m, K (.ret (.int .i64 e)) h' m := fun e D' A' q h' sd sa eD eA cD cA g F => by
    rw [q] at hk
    exact ⟨F.ext H hg, nx, hk h' sd sa eD eA cD cA g F⟩
  have kD := H.ld.cap
  have kA := H.la.cap
  obtain ⟨h0, hh0⟩ : ∃ h0, h0 = HF bR md ma D A eD eA cD cA h := ⟨_, rfl⟩
  rw [← hh0] at heq
  have no := DcF.no H heq
  have kp0 : KeepD h h0 := KeepD.of heq
  refine W_fdeq (nx' := 30) heq ?_
  refine W_seq (nx := 30) ?_
  refine W_keep (nx := 30) [(0, .ptr 18 0 0), (1, .int .i64 t), (2, .bool w)] h0 30 ?_ ?_
  · refine vc_sound hE 40 _ _ _ 30 ?_
    exact ⟨rfl, rfl, rfl, rfl, trivial⟩
  refine W_seq (nx := 30) ?_
  refine W_keep (nx := 30) [(0, .ptr 18 0 0), (1, .int .i64 t), (2, .bool w), (7, .int .i64 (fIdx D t))] h0 30 ?_ ?_
  · subst hh0
    refine vc_sound hE 40 _ _ _ 30 ?_
    refine ⟨_, D, t, rfl, H.ld.rd rfl, fun tv i n c' q => by cases q; exact kD, by omega, ?_⟩
    exact ⟨rfl, rfl, rfl, rfl, rfl, trivial⟩
  refine W_seq (nx := 30) ?_
  refine W_keep (nx := 30) [(0, .ptr 18 0 0), (1, .int .i64 t), (2, .bool w), (7, .int .i64 (fIdx D t)), (8, .int .i64 (fIdx A t))] h0 30 ?_ ?_
  · subst hh0
    refine vc_sound hE 40 _ _ _ 30 ?_
    refine ⟨_, A, t, rfl, H.la.rd rfl, fun tv i n c' q => by cases q; exact kA, by omega, ?_⟩
    exact ⟨rfl, rfl, rfl, rfl, rfl, rfl, trivial⟩
  refine W_seq (nx := 30) ?_
  refine W_piece (nx := 30) (fun σ1 h1 _ => (0 ≤ fIdx D t ∨ 0 ≤ fIdx A t) ∧ h1 = h0 ∧ subS σ1 [(0, .ptr 18 0 0), (1, .int .i64 t), (2, .bool w), (7, .int .i64 (fIdx D t)), (8, .int .i64 (fIdx A t))]) ?_ ?_
  · refine vc_sound hE 40 _ _ _ 30 ?_
    (refine (?_ : br _ _ _); refine br_dec (fun q => ?_) (fun q => ?_))
    · have q1 : fIdx D t < 0 := q
      (refine (?_ : br _ _ _); refine br_dec (fun q => ?_) (fun q => ?_))
      · have q2 : fIdx A t < 0 := by assumption
        exact hfin 3 D A (by unfold rWait; rw [if_neg (by omega), if_neg (by omega)]) _ _ _ _ _ _ _ _ no
      · have q2 : ¬ fIdx A t < 0 := by assumption
        exact ⟨.inr (by omega), rfl, rfl, rfl, rfl, rfl, rfl, trivial⟩
    · have q1 : ¬ fIdx D t < 0 := q
      exact ⟨.inl (by omega), rfl, rfl, rfl, rfl, rfl, rfl, trivial⟩
  rintro σ1 h1 _ ⟨hor, rfl, hs⟩
  refine W_sub (nx' := 30) hs ?_
  clear hs
  refine W_seq (nx := 30) ?_
  refine W_piece (nx := 30) (fun σ1 h2 _ => ¬ 0 ≤ fIdx D t ∧ h2 = h1 ∧ subS σ1 [(0, .ptr 18 0 0), (1, .int .i64 t), (2, .bool w), (8, .int .i64 (fIdx A t))]) ?_ ?_
  · refine vc_sound hE 6 _ _ _ 30 ?_
    (refine (?_ : br _ _ _); refine br_dec (fun q => ?_) (fun q => ?_))
    rotate_left
    · have q1 : ¬ (0 : Int) ≤ fIdx D t := q
      refine vc_sound hE 5 _ _ _ 30 ?_
      exact ⟨q1, rfl, rfl, rfl, rfl, rfl, trivial⟩
    have q1 : (0 : Int) ≤ fIdx D t := q
    obtain ⟨i, w0, hi, hp⟩ := fIdx_ge q1
    have hil := lt_of_at hp
    obtain ⟨b, g, F, he, f1, f2, f3, f4⟩ := H.ld.blk (by omega)
    have he : eD = .blk b cD 2 g 72 := he
    have hF : F (addI 0 ((i : Int)).toNat) = (t, w0) := by rw [nat0]; exact f4 i _ hp
    have kp : KeepD h ((19, .blk b cD 2 (gF R2 F) 72) :: (18, .blk bR 1 4 (gDc 19 20 D.length cD A.length cA md ma) 48) :: (20, eA) :: (30, .gone) :: h) := KeepD.cons (KeepD.cons (KeepD.cons (KeepD.cons (KeepD.of (fun _ => rfl)) (by omega)) (by omega)) (by omega)) (by omega)
    have heq2 : ∀ u, fd u ((19, .blk b cD 2 g 72) :: (18, .blk bR 1 4 (gDc 19 20 D.length cD A.length cA md ma) 48) :: (20, eA) :: (30, .gone) :: h) = fd u h := fdeq_cons2 (H.d.trans he) (fdeq_cons2 H.str (fdeq_cons2 H.a (fdeq_cons (hg.1 30 (by decide) (by decide)))))
    refine W_fdeq (nx := 30) (nx' := 30) (fun u => (heq2 u).trans (heq u).symm) ?_
    refine W_cells (g' := gF R2 F) (nx' := 30) (fun i k hi hk => f3 i k hi hk) ?_
    refine W_sub (nx := 30) (nx' := 30) (σ' := [(0, .ptr 18 0 0), (2, .bool w), (7, .int .i64 (i : Int))]) ⟨rfl, rfl, congrArg (fun x => some (V.int .i64 x)) hi, trivial⟩ ?_
    refine W_seq (nx := 30) ?_
    refine W_piece (nx := 30) (fun σ1 h2 _ => ¬ w0 = w ∧ h2 = (19, .blk b cD 2 (gF R2 F) 72) :: (18, .blk bR 1 4 (gDc 19 20 D.length cD A.length cA md ma) 48) :: (20, eA) :: (30, .gone) :: h ∧ subS σ1 [(0, .ptr 18 0 0), (2, .bool w), (7, .int .i64 (i : Int))]) ?_ ?_
    · refine W_seq (nx := 30) ?_
      refine W_keep (nx := 30) [(0, .ptr 18 0 0), (2, .bool w), (7, .int .i64 (i : Int)), (38, .bool (w0 == w))] ((19, .blk b cD 2 (gF R2 F) 72) :: (18, .blk bR 1 4 (gDc 19 20 D.length cD A.length cA md ma) 48) :: (20, eA) :: (30, .gone) :: h) 30 ?_ ?_
      · refine vc_sound hE 40 _ _ _ 30 ?_
        (refine (?_ : chk _ _); refine chk_ok (show (decide ((0 : Int) ≤ (i : Int)) && decide ((i : Int) < (D.length : Int))) = true by simp only [Bool.and_eq_true, decide_eq_true_eq]; omega) ?_)
        (refine (?_ : chk _ _); refine chk_ok rfl ?_)
        (refine (?_ : chk _ _); refine chk_ok (Nat.ble_eq_true_of_le (show addI 0 ((i : Int)).toNat * 2 + (0 + 1) + 1 ≤ cD * 2 by rw [nat0]; omega)) ?_)
        refine ⟨rfl, rfl, rfl, rfl, ?_, trivial⟩
        show some (V.bool ((F (addI 0 ((i : Int)).toNat)).2 == w)) = _
        rw [hF]
      refine vc_sound hE 40 _ _ _ 30 ?_
      (refine (?_ : br _ _ _); refine br_both (fun q2 => ?_) (fun q2 => ?_))
      · have q2 : w0 = w := by simpa using q2
        exact hfin 5 D A (by unfold rWait; rw [if_pos q1, hi, Int.toNat_natCast, getD_of hp, if_pos q2]) _ 19 20 _ _ cD cA _ ⟨rfl, rfl, rfl, rfl, rfl, rfl, rfl, lstK.of (R := R2) f1 f2 (fun _ _ _ _ => rfl) f4, H.la, .inl ⟨rfl, by rw [H.d, he]; rfl⟩, .inl ⟨rfl, by show eA.rf = _; rw [H.a]⟩, by decide, kp⟩
      · exact ⟨by simpa using q2, rfl, rfl, rfl, rfl, trivial⟩
    rintro σ1 h2 _ ⟨q2, rfl, hs⟩
    refine W_sub (nx' := 30) hs ?_
    clear hs
    refine vc_sound hE 40 _ _ _ 30 ?_
    (refine (?_ : chk _ _); refine chk_ok (show (decide ((0 : Int) ≤ (i : Int)) && decide ((i : Int) < (D.length : Int))) = true by simp only [Bool.and_eq_true, decide_eq_true_eq]; omega) ?_)
    (refine (?_ : chk _ _); refine chk_ok rfl ?_)
    (refine (?_ : chk _ _); refine chk_ok (Nat.ble_eq_true_of_le (show addI 0 ((i : Int)).toNat * 2 + (0 + 1) + 1 ≤ cD * 2 by rw [nat0]; omega)) ?_)
    have lx : lstK R2 (.blk b cD 2 (putG 2 (gF R2 F) (addI 0 ((i : Int)).toNat) (0 + 1) [.bool w]) 72) (D.set i (t, w)) cD := by
      rw [nat0]; exact lstK.snd (e := .gone) f1 f2 f4 hp
    exact hfin 0 _ _ (by unfold rWait; rw [if_pos q1, hi, Int.toNat_natCast, getD_of hp, if_neg q2]) _ 19 20 _ _ cD cA _ ⟨rfl, by rw [List.length_set]; rfl, rfl, rfl, rfl, rfl, rfl, lx, H.la, .inl ⟨rfl, by rw [H.d, he]; rfl⟩, .inl ⟨rfl, by show eA.rf = _; rw [H.a]⟩, by decide, KeepD.cons kp (by omega)⟩
  rintro σ1 h2 _ ⟨q0, rfl, hs⟩
  refine W_sub (nx' := 30) hs ?_
  clear hs
  have q1 : 0 ≤ fIdx A t := by omega
  obtain ⟨i, w0, hi, hp⟩ := fIdx_ge q1
  have hil := lt_of_at hp
  obtain ⟨b, g, F, he, f1, f2, f3, f4⟩ := H.la.blk (by omega)
  have he : eA = .blk b cA 2 g 72 := he
  have hF : F (addI 0 ((i : Int)).toNat) = (t, w0) := by rw [nat0]; exact f4 i _ hp
  have kp : KeepD h ((20, .blk b cA 2 (gF R2 F) 72) :: (18, .blk bR 1 4 (gDc 19 20 D.length cD A.length cA md ma) 48) :: (19, eD) :: (30, .gone) :: h) := KeepD.cons (KeepD.cons (KeepD.cons (KeepD.cons (KeepD.of (fun _ => rfl)) (by omega)) (by omega)) (by omega)) (by omega)
  have heq2 : ∀ u, fd u ((20, .blk b cA 2 g 72) :: (18, .blk bR 1 4 (gDc 19 20 D.length cD A.length cA md ma) 48) :: (19, eD) :: (30, .gone) :: h) = fd u h := fdeq_cons2 (H.a.trans he) (fdeq_cons2 H.str (fdeq_cons2 H.d (fdeq_cons (hg.1 30 (by decide) (by decide)))))
  refine W_fdeq (nx := 30) (nx' := 30) (fun u => (heq2 u).trans (heq u).symm) ?_
  refine W_cells (g' := gF R2 F) (nx' := 30) (fun i k hi hk => f3 i k hi hk) ?_
  refine W_sub (nx := 30) (nx' := 30) (σ' := [(0, .ptr 18 0 0), (2, .bool w), (8, .int .i64 (i : Int))]) ⟨rfl, rfl, congrArg (fun x => some (V.int .i64 x)) hi, trivial⟩ ?_
  refine W_seq (nx := 30) ?_
  refine W_piece (nx := 30) (fun σ1 h2 _ => ¬ w0 = w ∧ h2 = (20, .blk b cA 2 (gF R2 F) 72) :: (18, .blk bR 1 4 (gDc 19 20 D.length cD A.length cA md ma) 48) :: (19, eD) :: (30, .gone) :: h ∧ subS σ1 [(0, .ptr 18 0 0), (2, .bool w), (8, .int .i64 (i : Int))]) ?_ ?_
  · refine W_seq (nx := 30) ?_
    refine W_keep (nx := 30) [(0, .ptr 18 0 0), (2, .bool w), (8, .int .i64 (i : Int)), (56, .bool (w0 == w))] ((20, .blk b cA 2 (gF R2 F) 72) :: (18, .blk bR 1 4 (gDc 19 20 D.length cD A.length cA md ma) 48) :: (19, eD) :: (30, .gone) :: h) 30 ?_ ?_
    · refine vc_sound hE 40 _ _ _ 30 ?_
      (refine (?_ : chk _ _); refine chk_ok (show (decide ((0 : Int) ≤ (i : Int)) && decide ((i : Int) < (A.length : Int))) = true by simp only [Bool.and_eq_true, decide_eq_true_eq]; omega) ?_)
      (refine (?_ : chk _ _); refine chk_ok rfl ?_)
      (refine (?_ : chk _ _); refine chk_ok (Nat.ble_eq_true_of_le (show addI 0 ((i : Int)).toNat * 2 + (0 + 1) + 1 ≤ cA * 2 by rw [nat0]; omega)) ?_)
      refine ⟨rfl, rfl, rfl, rfl, ?_, trivial⟩
      show some (V.bool ((F (addI 0 ((i : Int)).toNat)).2 == w)) = _
      rw [hF]
    refine vc_sound hE 40 _ _ _ 30 ?_
    (refine (?_ : br _ _ _); refine br_both (fun q2 => ?_) (fun q2 => ?_))
    · have q2 : w0 = w := by simpa using q2
      exact hfin 5 D A (by unfold rWait; rw [if_neg q0, if_pos q1, hi, Int.toNat_natCast, getD_of hp, if_pos q2]) _ 19 20 _ _ cD cA _ ⟨rfl, rfl, rfl, rfl, rfl, rfl, rfl, H.ld, lstK.of (R := R2) f1 f2 (fun _ _ _ _ => rfl) f4, .inl ⟨rfl, by show eD.rf = _; rw [H.d]⟩, .inl ⟨rfl, by rw [H.a, he]; rfl⟩, by decide, kp⟩
    · exact ⟨by simpa using q2, rfl, rfl, rfl, rfl, trivial⟩
  rintro σ1 h2 _ ⟨q2, rfl, hs⟩
  refine W_sub (nx' := 30) hs ?_
  clear hs
  refine vc_sound hE 40 _ _ _ 30 ?_
  (refine (?_ : chk _ _); refine chk_ok (show (decide ((0 : Int) ≤ (i : Int)) && decide ((i : Int) < (A.length : Int))) = true by simp only [Bool.and_eq_true, decide_eq_true_eq]; omega) ?_)
  (refine (?_ : chk _ _); refine chk_ok rfl ?_)
  (refine (?_ : chk _ _); refine chk_ok (Nat.ble_eq_true_of_le (show addI 0 ((i : Int)).toNat * 2 + (0 + 1) + 1 ≤ cA * 2 by rw [nat0]; omega)) ?_)
  have lx : lstK R2 (.blk b cA 2 (putG 2 (gF R2 F) (addI 0 ((i : Int)).toNat) (0 + 1) [.bool w]) 72) (A.set i (t, w)) cA := by
    rw [nat0]; exact lstK.snd (e := .gone) f1 f2 f4 hp
  exact hfin 0 _ _ (by unfold rWait; rw [if_neg q0, if_pos q1, hi, Int.toNat_natCast, getD_of hp, if_neg q2]) _ 19 20 _ _ cD cA _ ⟨rfl, rfl, by rw [List.length_set]; rfl, rfl, rfl, rfl, rfl, H.ld, lx, .inl ⟨rfl, by show eD.rf = _; rw [H.d]⟩, .inl ⟨rfl, by rw [H.a, he]; rfl⟩, by decide, KeepD.cons kp (by omega)⟩

def sRWait : Spec := fun args h nx K => ∃ (bR : Nat) (md ma : Int) (D A : Dl) (eD eA : Ent) (cD cA : Nat) (t : Int) (w : Bool), args = [.ptr 18 0 0, .int .i64 t, .bool w] ∧ DcW h bR md ma D A eD eA cD cA ∧ GoneD h ∧ D.length ≤ 900 ∧ A.length ≤ 900 ∧ DcK h bR md ma (rWait D A t w).D (rWait D A t w).A (.ret (.int .i64 (rWait D A t w).e)) K nx
theorem sRWait_ok : SpecOK Try.prog 25 sRWait := specOK_imp (specOK_ren sRWait0_ok) <| by
  rintro args h nx K ⟨bR, md, ma, D, A, eD, eA, cD, cA, t, w, rfl, H, hg, hD, hA, hk⟩
  exact ⟨bR, md, ma, D, A, eD, eA, cD, cA, t, w, rfl, H, hg, hD, hA, fun h' sd sa eD' eA' cD' cA' g F _ => F.ren (o := .ret (.int .i64 _)) H hg trivial hk⟩
end Go.Proofs.Ytgcnknhfphgfnaa.Sx

/-
  The document's turns: Promote.
-/
namespace Go.Proofs.Ytgcnknhfphgfnaa.Sx
open Go Go.Proofs
set_option maxRecDepth 100000
set_option linter.unusedSimpArgs false
set_option linter.unusedVariables false

def rProm (md : Int) (D A : Dl) (t : Int) : RR :=
  if hasD D A t = true then (if 0 ≤ fIdx A t then (if md ≤ (D.length : Int) then ⟨2, D, A⟩ else ⟨0, D ++ [A.getD (fIdx A t).toNat (0, false)], A.eraseIdx (fIdx A t).toNat⟩) else ⟨5, D, A⟩) else ⟨3, D, A⟩
def sRProm0 : Spec := fun args h nx K => ∃ (bR : Nat) (md ma : Int) (D A : Dl) (eD eA : Ent) (cD cA : Nat) (t : Int), args = [.ptr 18 0 0, .int .i64 t] ∧ DcW h bR md ma D A eD eA cD cA ∧ GoneD h ∧ D.length ≤ 900 ∧ A.length ≤ 900 ∧ DcC h bR md ma (rProm md D A t).D (rProm md D A t).A (.ret (.int .i64 (rProm md D A t).e)) K nx
theorem sRProm0_ok : SpecOK Try.prog 26 sRProm0 := specOK_imp (inlx_ok (fn := Try.f26) rfl rfl rfl T_ok (SP := [(38, sFind), (40, sHas), (41, sWithout)]) (consSP sFind_ok (consSP sHas_ok (consSP sWithout_ok noSP)))) <| by
  rintro args h nx K ⟨bR, md, ma, D, A, eD, eA, cD, cA, t, rfl, H, hg, hD, hA, hk⟩
  refine ⟨by simp [Try.f26], fun c hc => ?_⟩
  have hE := mkE' (fn := Try.f26) (R := fun o h' _ => Ext h h' ∧ ∃ m, K o h' m) hc (consSP sFind_ok (consSP sHas_ok (consSP sWithout_ok noSP)))
  have heq := HF.eq H hg
  have hfin : ∀ e D' A', rProm md D A t = ⟨e, D', A'⟩ → ∀ h' sd sa eD eA cD cA g, DcF h h' bR md ma D' A' sd sa eD eA cD cA g → Ext h h' ∧ ∃ m, K (.ret (.int .i64 e)) h' m := fun e D' A' q h' sd sa eD eA cD cA g F => by
    rw [q] at hk
    exact ⟨F.ext H hg, nx, hk h' sd sa eD eA cD cA g F⟩
  have kD := H.ld.cap
  have kA := H.la.cap
  obtain ⟨h0, hh0⟩ : ∃ h0, h0 = HF bR md ma D A eD eA cD cA h := ⟨_, rfl⟩
  rw [← hh0] at heq
  have no := DcF.no H heq
  refine W_fdeq (nx' := 30) heq ?_
  refine W_seq (nx := 30) ?_
  refine W_keep (nx := 30) [(0, .ptr 18 0 0), (1, .int .i64 t)] h0 30 ?_ ?_
  · refine vc_sound hE 40 _ _ _ 30 ?_
    exact ⟨rfl, rfl, rfl, trivial⟩
  refine W_seq (nx := 30) ?_
  refine W_piece (nx := 30) (fun σ1 h1 _ => hasD D A t = true ∧ h1 = h0 ∧ subS σ1 [(0, .ptr 18 0 0), (1, .int .i64 t)]) ?_ ?_
  · refine vc_sound hE 40 _ _ _ 30 ?_
    refine ⟨bR, md, ma, D, A, eD, eA, cD, cA, t, rfl, by rw [hh0]; exact ⟨rfl, rfl, rfl, H.ld, H.la⟩, by omega, by omega, ?_⟩
    (refine (?_ : br _ _ _); refine br_both (fun q => ?_) (fun q => ?_))
    · have q : ¬ hasD D A t = true := by simpa using q
      exact hfin 3 D A (by unfold rProm; rw [if_neg q]) _ _ _ _ _ _ _ _ no
    · exact ⟨by simpa using q, rfl, rfl, rfl, trivial⟩
  rintro σ1 h1 _ ⟨hhas, rfl, hs⟩
  refine W_sub (nx' := 30) hs ?_
  clear hs
  refine W_seq (nx := 30) ?_
  refine W_keep (nx := 30) [(0, .ptr 18 0 0), (1, .int .i64 t), (5, .int .i64 (fIdx A t))] h1 30 ?_ ?_
  · subst hh0
    refine vc_sound hE 40 _ _ _ 30 ?_
    refine ⟨_, A, t, rfl, H.la.rd rfl, fun tv i n c' q => by cases q; exact kA, by omega, ?_⟩
    exact ⟨rfl, rfl, rfl, rfl, trivial⟩
  refine W_seq (nx := 30) ?_
  refine W_piece (nx := 30) (fun σ1 h2 _ => 0 ≤ fIdx A t ∧ h2 = h1 ∧ subS σ1 [(0, .ptr 18 0 0), (5, .int .i64 (fIdx A t))]) ?_ ?_
  · refine vc_sound hE 40 _ _ _ 30 ?_
    (refine (?_ : br _ _ _); refine br_dec (fun q => ?_) (fun q => ?_))
    · have q1 : fIdx A t < 0 := q
      exact hfin 5 D A (by unfold rProm; rw [if_pos hhas, if_neg (by omega)]) _ _ _ _ _ _ _ _ no
    · have q1 : ¬ fIdx A t < 0 := q
      exact ⟨by omega, rfl, rfl, rfl, trivial⟩
  rintro σ1 h2 _ ⟨q1, rfl, hs⟩
  refine W_sub (nx' := 30) hs ?_
  clear hs
  refine W_seq (nx := 30) ?_
  refine W_piece (nx := 30) (fun σ1 h3 _ => ¬ md ≤ (D.length : Int) ∧ h3 = h2 ∧ subS σ1 [(0, .ptr 18 0 0), (5, .int .i64 (fIdx A t))]) ?_ ?_
  · subst hh0
    refine vc_sound hE 1 _ _ _ 30 ?_
    refine W_planw hE 30 [] (lineP 0 10 .done) (by rw [hc]; exact mix) (by kernel_rfl) 60 ?_
    iterate 10 (refine ⟨_, ⟨rfl, rfl⟩, ?_⟩)
    refine putS_some rfl ?_
    (refine (?_ : br _ _ _); refine br_dec (fun q => ?_) (fun q => ?_))
    · have q3 : md ≤ (D.length : Int) := q
      exact hfin 2 D A (by unfold rProm; rw [if_pos hhas, if_pos q1, if_pos q3]) _ _ _ _ _ _ _ _ no
    · exact ⟨q, rfl, rfl, rfl, trivial⟩
  rintro σ1 h3 _ ⟨q3, rfl, hs⟩
  refine W_sub (nx' := 30) hs ?_
  clear hs
  obtain ⟨i, w0, hi, hp⟩ := fIdx_ge q1
  have hil := lt_of_at hp
  obtain ⟨b, g, F, he, f1, f2, f3, f4⟩ := H.la.blk (by omega)
  have he : eA = .blk b cA 2 g 72 := he
  have hF : F (addI 0 ((i : Int)).toNat) = (t, w0) := by rw [nat0]; exact f4 i _ hp
  have heq2 : ∀ u, fd u ((20, .blk b cA 2 g 72) :: (18, .blk bR 1 4 (gDc 19 20 D.length cD A.length cA md ma) 48) :: (19, eD) :: (30, .gone) :: (31, .gone) :: (32, .gone) :: (33, .gone) :: (34, .gone) :: h) = fd u h := fdeq_cons2 (H.a.trans he) (fdeq_cons2 H.str (fdeq_cons2 H.d (fdeq_cons2 (hg.1 30 (by decide) (by decide)) (fdeq_cons2 (hg.1 31 (by decide) (by decide)) (fdeq_cons2 (hg.1 32 (by decide) (by decide)) (fdeq_cons2 (hg.1 33 (by decide) (by decide)) (fdeq_cons (hg.1 34 (by decide) (by decide)))))))))
  have kp0 : KeepD h ((20, .blk b cA 2 (gF R2 F) 72) :: (18, .blk bR 1 4 (gDc 19 20 D.length cD A.length cA md ma) 48) :: (19, eD) :: (30, .gone) :: (31, .gone) :: (32, .gone) :: (33, .gone) :: (34, .gone) :: h) := KeepD.cons (KeepD.cons (KeepD.cons (KeepD.cons (KeepD.cons (KeepD.cons (KeepD.cons (KeepD.cons (KeepD.of (fun _ => rfl)) (by omega)) (by omega)) (by omega)) (by omega)) (by omega)) (by omega)) (by omega)) (by omega)
  refine W_fdeq (nx := 30) (nx' := 30) (fun u => (heq2 u).trans (heq u).symm) ?_
  refine W_cells (g' := gF R2 F) (nx' := 30) (fun i k hi hk => f3 i k hi hk) ?_
  refine W_sub (nx := 30) (nx' := 30) (σ' := [(0, .ptr 18 0 0), (5, .int .i64 (i : Int))]) ⟨rfl, congrArg (fun x => some (V.int .i64 x)) hi, trivial⟩ ?_
  have hlen : (D ++ [(t, w0)]).length = D.length + 1 := by simp
  refine W_seq (nx := 30) ?_
  refine W_piece (nx := 30) (fun σ1 h3 _ => (∃ (sd cD' : Nat) (eD' : Ent) (gg : Nat → Nat → V), fd 18 h3 = .blk bR 1 4 gg 48 ∧ (∀ k, k < 4 → gg 0 k = gDc sd 20 (D ++ [(t, w0)]).length cD' A.length cA md ma 0 k) ∧ fd sd h3 = eD' ∧ lstK R2 eD' (D ++ [(t, w0)]) cD' ∧ 30 ≤ sd ∧ sd < 34 ∧ fd 20 h3 = .blk b cA 2 (gF R2 F) 72 ∧ fd 19 h3 = eD ∧ fd 34 h3 = .gone ∧ KeepD h h3) ∧ subS σ1 [(0, .ptr 18 0 0), (5, .int .i64 (i : Int))]) ?_ ?_
  · refine vc_sound hE 1 _ _ _ 30 ?_
    have fin : ∀ (sd cD' : Nat) (eD' : Ent) (gg : Nat → Nat → V) (h3 : Hp) (σ1 : Sl), fd 18 h3 = .blk bR 1 4 gg 48 → (∀ k, k < 4 → gg 0 k = gDc sd 20 (D ++ [(t, w0)]).length cD' A.length cA md ma 0 k) → fd sd h3 = eD' → lstK R2 eD' (D ++ [(t, w0)]) cD' → 30 ≤ sd → sd < 34 → fd 20 h3 = .blk b cA 2 (gF R2 F) 72 → fd 19 h3 = eD → fd 34 h3 = .gone → KeepD h h3 → lk 0 σ1 = some (.ptr 18 0 0) → lk 5 σ1 = some (.int .i64 (i : Int)) → (∃ (sd cD' : Nat) (eD' : Ent) (gg : Nat → Nat → V), fd 18 h3 = .blk bR 1 4 gg 48 ∧ (∀ k, k < 4 → gg 0 k = gDc sd 20 (D ++ [(t, w0)]).length cD' A.length cA md ma 0 k) ∧ fd sd h3 = eD' ∧ lstK R2 eD' (D ++ [(t, w0)]) cD' ∧ 30 ≤ sd ∧ sd < 34 ∧ fd 20 h3 = .blk b cA 2 (gF R2 F) 72 ∧ fd 19 h3 = eD ∧ fd 34 h3 = .gone ∧ KeepD h h3) ∧ subS σ1 [(0, .ptr 18 0 0), (5, .int .i64 (i : Int))] := fun sd cD' eD' gg h3 σ1 a1 a2 a3 a4 a5 a6 a7 a8 a9 a10 a11 a12 =>
      ⟨⟨sd, cD', eD', gg, a1, a2, a3, a4, a5, a6, a7, a8, a9, a10⟩, a11, a12, trivial⟩
    have four : ∀ (sd cD' : Nat) (gg : Nat → Nat → V), gg 0 0 = .slice sd 0 (D ++ [(t, w0)]).length cD' → gg 0 1 = .slice 20 0 A.length cA → gg 0 2 = .int .i64 md → gg 0 3 = .int .i64 ma → ∀ k, k < 4 → gg 0 k = gDc sd 20 (D ++ [(t, w0)]).length cD' A.length cA md ma 0 k := fun sd cD' gg x0 x1 x2 x3 k hk => by
      match k, hk with
      | 0, _ => exact x0
      | 1, _ => exact x1
      | 2, _ => exact x2
      | 3, _ => exact x3
    have hu : ∀ (b1 : Nat) (h1 : Hp) (tt : Nat), fd tt h1 = .blk b1 1 2 (gOf 2 [.int .i64 (F (addI 0 ((i : Int)).toNat)).1, .bool (F (addI 0 ((i : Int)).toNat)).2]) 72 → rdK R2 h1 (.slice tt 0 1 1) [(t, w0)] := fun b1 h1 tt e => rdK.one (b := some ⟨b1, 0, none⟩) (by rw [fd_roH, e]; rfl) (by decide) fun k hk => by
      match k, hk with
      | 0, _ => show V.int .i64 (F (addI 0 ((i : Int)).toNat)).1 = _; rw [hF]; rfl
      | 1, _ => show V.bool (F (addI 0 ((i : Int)).toNat)).2 = _; rw [hF]; rfl
    refine W_planw hE 30 [15, 18] (.take 0 (.take 2 (.take 3 (.take 4 (.take 5 (.take 7 (.take 8 (.take 9 (.take 10 (.take 11 (.take 12 (.take 13 (.all (.cons 1 (.all (.cons 6 (.all (.cons 14 (.all (.cons 15 (.all (.cons 16 (.take 17 (.all (.cons 18 (.done) (.nil)))) (.nil))) (.nil))) (.nil))) (.cons 14 (.all (.cons 6 (.all (.cons 15 (.all (.cons 16 (.take 17 (.all (.cons 18 (.done) (.nil)))) (.nil))) (.nil))) (.nil))) (.nil)))) (.cons 14 (.all (.cons 1 (.all (.cons 6 (.all (.cons 15 (.all (.cons 16 (.take 17 (.all (.cons 18 (.done) (.nil)))) (.nil))) (.nil))) (.nil))) (.nil))) (.nil)))))))))))))))) (by rw [hc]; exact mix) (by kernel_rfl) 31 ?_
    iterate 10 (refine ⟨_, ⟨rfl, rfl⟩, ?_⟩)
    refine ⟨.ptr 20 (addI 0 ((i : Int)).toNat) 0, (show chk _ _ from chk_ok (show (decide ((0 : Int) ≤ (i : Int)) && decide ((i : Int) < (A.length : Int))) = true by simp only [Bool.and_eq_true, decide_eq_true_eq]; omega) (show chk _ _ from chk_ok rfl ⟨rfl, rfl⟩)), ?_⟩
    refine ⟨.agg [.int .i64 (F (addI 0 ((i : Int)).toNat)).1, .bool (F (addI 0 ((i : Int)).toNat)).2], (show chk _ _ from chk_ok (Nat.ble_eq_true_of_le (show addI 0 ((i : Int)).toNat * 2 + 0 + 2 ≤ cA * 2 by rw [nat0]; omega)) ⟨rfl, rfl⟩), ?_⟩
    refine putS_some rfl ?_
    refine ⟨⟨fun b => trivial, fun b0 => ?_⟩, ⟨fun b => trivial, fun b1 => ?_⟩, trivial⟩
    · refine ⟨?_, ?_, trivial⟩
      · -- 6, then 14
        refine ⟨step_app (v := .slice 30 0 0 0) (u := .slice 19 0 D.length cD) rfl rfl (app_copyK (R := R2) (m := D) appT2 rfl (H.ld.rd rfl).ro rfl (by omega) (fun _ => trivial) (fun _ _ _ => trivial)), stepC_app (v := .slice 30 0 0 0) (u := .slice 19 0 D.length cD) rfl rfl ?_⟩
        refine app_copyK (R := R2) (m := D) appT2 rfl (H.ld.rd rfl) rfl (by omega) (fun h0 => ?_) (fun e cp hle => ?_)
        · refine ⟨⟨fun b => trivial, fun b2 => ?_⟩, trivial⟩
          refine putS_some rfl ?_
          refine ⟨⟨trivial, stepC_app (v := .slice 30 0 0 0) (u := .slice 31 0 1 1) rfl rfl ?_⟩, trivial⟩
          refine app_oneK (R := R2) (l := []) appT2 lstK.none0 rfl (hu _ _ _ rfl) rfl (by simp) (fun e' _ hl' => ?_) (fun e' cp' hl' => ?_)
          · refine ⟨⟨trivial, ?_⟩, trivial⟩
            refine ⟨_, ⟨rfl, rfl⟩, ?_⟩
            refine ⟨⟨trivial, ?_⟩, trivial⟩
            exact fin 30 0 e' _ _ _ rfl (four _ _ _ (by rw [h0]; rfl) rfl rfl rfl) rfl (by rw [h0]; exact hl') (by decide) (by decide) rfl rfl rfl (by repeat' (first | exact kp0 | refine KeepD.cons ?_ (by omega))) rfl rfl
          · refine ⟨⟨trivial, ?_⟩, trivial⟩
            refine ⟨_, ⟨rfl, rfl⟩, ?_⟩
            refine ⟨⟨trivial, ?_⟩, trivial⟩
            exact fin 32 cp' e' _ _ _ rfl (four _ _ _ (by rw [h0]; rfl) rfl rfl rfl) rfl (by rw [h0]; exact hl') (by decide) (by decide) rfl rfl rfl (by repeat' (first | exact kp0 | refine KeepD.cons ?_ (by omega))) rfl rfl
        · refine ⟨⟨fun b => trivial, fun b2 => ?_⟩, trivial⟩
          refine putS_some rfl ?_
          refine ⟨⟨trivial, stepC_app (v := .slice 31 0 D.length cp) (u := .slice 32 0 1 1) rfl rfl ?_⟩, trivial⟩
          refine app_oneK (R := R2) (l := D) appT2 hle rfl (hu _ _ _ rfl) rfl (by omega) (fun e' _ hl' => ?_) (fun e' cp' hl' => ?_)
          · refine ⟨⟨trivial, ?_⟩, trivial⟩
            refine ⟨_, ⟨rfl, rfl⟩, ?_⟩
            refine ⟨⟨trivial, ?_⟩, trivial⟩
            exact fin 31 cp e' _ _ _ rfl (four _ _ _ rfl rfl rfl rfl) rfl hl' (by decide) (by decide) rfl rfl rfl (by repeat' (first | exact kp0 | refine KeepD.cons ?_ (by omega))) rfl rfl
          · refine ⟨⟨trivial, ?_⟩, trivial⟩
            refine ⟨_, ⟨rfl, rfl⟩, ?_⟩
            refine ⟨⟨trivial, ?_⟩, trivial⟩
            exact fin 33 cp' e' _ _ _ rfl (four _ _ _ rfl rfl rfl rfl) rfl hl' (by decide) (by decide) rfl rfl rfl (by repeat' (first | exact kp0 | refine KeepD.cons ?_ (by omega))) rfl rfl
      · -- 14, then 6
        refine ⟨fun b => trivial, fun b2 => ?_⟩
        refine putS_some rfl ?_
        refine ⟨⟨step_app (v := .slice 30 0 0 0) (u := .slice 19 0 D.length cD) rfl rfl (app_copyK (R := R2) (m := D) appT2 rfl (H.ld.rd rfl).ro rfl (by omega) (fun _ => trivial) (fun _ _ _ => trivial)), stepC_app (v := .slice 30 0 0 0) (u := .slice 19 0 D.length cD) rfl rfl ?_⟩, trivial⟩
        refine app_copyK (R := R2) (m := D) appT2 rfl (H.ld.rd rfl) rfl (by omega) (fun h0 => ?_) (fun e cp hle => ?_)
        · skip
          refine ⟨⟨trivial, stepC_app (v := .slice 30 0 0 0) (u := .slice 31 0 1 1) rfl rfl ?_⟩, trivial⟩
          refine app_oneK (R := R2) (l := []) appT2 lstK.none0 rfl (hu _ _ _ rfl) rfl (by simp) (fun e' _ hl' => ?_) (fun e' cp' hl' => ?_)
          · refine ⟨⟨trivial, ?_⟩, trivial⟩
            refine ⟨_, ⟨rfl, rfl⟩, ?_⟩
            refine ⟨⟨trivial, ?_⟩, trivial⟩
            exact fin 30 0 e' _ _ _ rfl (four _ _ _ (by rw [h0]; rfl) rfl rfl rfl) rfl (by rw [h0]; exact hl') (by decide) (by decide) rfl rfl rfl (by repeat' (first | exact kp0 | refine KeepD.cons ?_ (by omega))) rfl rfl
          · refine ⟨⟨trivial, ?_⟩, trivial⟩
            refine ⟨_, ⟨rfl, rfl⟩, ?_⟩
            refine ⟨⟨trivial, ?_⟩, trivial⟩
            exact fin 32 cp' e' _ _ _ rfl (four _ _ _ (by rw [h0]; rfl) rfl rfl rfl) rfl (by rw [h0]; exact hl') (by decide) (by decide) rfl rfl rfl (by repeat' (first | exact kp0 | refine KeepD.cons ?_ (by omega))) rfl rfl
        · skip
          refine ⟨⟨trivial, stepC_app (v := .slice 32 0 D.length cp) (u := .slice 31 0 1 1) rfl rfl ?_⟩, trivial⟩
          refine app_oneK (R := R2) (l := D) appT2 hle rfl (hu _ _ _ rfl) rfl (by omega) (fun e' _ hl' => ?_) (fun e' cp' hl' => ?_)
          · refine ⟨⟨trivial, ?_⟩, trivial⟩
            refine ⟨_, ⟨rfl, rfl⟩, ?_⟩
            refine ⟨⟨trivial, ?_⟩, trivial⟩
            exact fin 32 cp e' _ _ _ rfl (four _ _ _ rfl rfl rfl rfl) rfl hl' (by decide) (by decide) rfl rfl rfl (by repeat' (first | exact kp0 | refine KeepD.cons ?_ (by omega))) rfl rfl
          · refine ⟨⟨trivial, ?_⟩, trivial⟩
            refine ⟨_, ⟨rfl, rfl⟩, ?_⟩
            refine ⟨⟨trivial, ?_⟩, trivial⟩
            exact fin 33 cp' e' _ _ _ rfl (four _ _ _ rfl rfl rfl rfl) rfl hl' (by decide) (by decide) rfl rfl rfl (by repeat' (first | exact kp0 | refine KeepD.cons ?_ (by omega))) rfl rfl
    · -- 14, 1, 6
      refine putS_some rfl ?_
      refine ⟨⟨fun b => trivial, fun b2 => ?_⟩, trivial⟩
      refine putS_some rfl ?_
      refine ⟨⟨step_app (v := .slice 31 0 0 0) (u := .slice 19 0 D.length cD) rfl rfl (app_copyK (R := R2) (m := D) appT2 rfl (H.ld.rd rfl).ro rfl (by omega) (fun _ => trivial) (fun _ _ _ => trivial)), stepC_app (v := .slice 31 0 0 0) (u := .slice 19 0 D.length cD) rfl rfl ?_⟩, trivial⟩
      refine app_copyK (R := R2) (m := D) appT2 rfl (H.ld.rd rfl) rfl (by omega) (fun h0 => ?_) (fun e cp hle => ?_)
      · skip
        refine ⟨⟨trivial, stepC_app (v := .slice 31 0 0 0) (u := .slice 30 0 1 1) rfl rfl ?_⟩, trivial⟩
        refine app_oneK (R := R2) (l := []) appT2 lstK.none0 rfl (hu _ _ _ rfl) rfl (by simp) (fun e' _ hl' => ?_) (fun e' cp' hl' => ?_)
        · refine ⟨⟨trivial, ?_⟩, trivial⟩
          refine ⟨_, ⟨rfl, rfl⟩, ?_⟩
          refine ⟨⟨trivial, ?_⟩, trivial⟩
          exact fin 31 0 e' _ _ _ rfl (four _ _ _ (by rw [h0]; rfl) rfl rfl rfl) rfl (by rw [h0]; exact hl') (by decide) (by decide) rfl rfl rfl (by repeat' (first | exact kp0 | refine KeepD.cons ?_ (by omega))) rfl rfl
        · refine ⟨⟨trivial, ?_⟩, trivial⟩
          refine ⟨_, ⟨rfl, rfl⟩, ?_⟩
          refine ⟨⟨trivial, ?_⟩, trivial⟩
          exact fin 32 cp' e' _ _ _ rfl (four _ _ _ (by rw [h0]; rfl) rfl rfl rfl) rfl (by rw [h0]; exact hl') (by decide) (by decide) rfl rfl rfl (by repeat' (first | exact kp0 | refine KeepD.cons ?_ (by omega))) rfl rfl
      · skip
        refine ⟨⟨trivial, stepC_app (v := .slice 32 0 D.length cp) (u := .slice 30 0 1 1) rfl rfl ?_⟩, trivial⟩
        refine app_oneK (R := R2) (l := D) appT2 hle rfl (hu _ _ _ rfl) rfl (by omega) (fun e' _ hl' => ?_) (fun e' cp' hl' => ?_)
        · refine ⟨⟨trivial, ?_⟩, trivial⟩
          refine ⟨_, ⟨rfl, rfl⟩, ?_⟩
          refine ⟨⟨trivial, ?_⟩, trivial⟩
          exact fin 32 cp e' _ _ _ rfl (four _ _ _ rfl rfl rfl rfl) rfl hl' (by decide) (by decide) rfl rfl rfl (by repeat' (first | exact kp0 | refine KeepD.cons ?_ (by omega))) rfl rfl
        · refine ⟨⟨trivial, ?_⟩, trivial⟩
          refine ⟨_, ⟨rfl, rfl⟩, ?_⟩
          refine ⟨⟨trivial, ?_⟩, trivial⟩
          exact fin 33 cp' e' _ _ _ rfl (four _ _ _ rfl rfl rfl rfl) rfl hl' (by decide) (by decide) rfl rfl rfl (by repeat' (first | exact kp0 | refine KeepD.cons ?_ (by omega))) rfl rfl
  rintro σ1 h3 _ ⟨⟨sd, cD', eD', gg, a1, a2, a3, a4, a5, a6, a7, a8, a9, a10⟩, hs⟩
  refine W_sub (nx' := 30) hs ?_
  clear hs
  refine W_fdeq (nx := 34) (nx' := 34) (fdeq_cons a7) ?_
  refine W_cells (g' := g) (nx' := 34) (fun x k hx hk => (f3 x k hx hk).symm) ?_
  have heq3 : ∀ u, fd u ((18, .blk bR 1 4 gg 48) :: (20, .blk b cA 2 g 72) :: (34, .gone) :: h3) = fd u ((20, .blk b cA 2 g 72) :: h3) := fun u => by
    by_cases q0 : u = 18
    · subst q0; rw [fd_cons, if_pos rfl]; exact a1.symm
    by_cases q1 : u = 20
    · subst q1; rfl
    by_cases q2 : u = 34
    · subst q2; exact a9.symm
    rw [fd_cons, if_neg q0, fd_cons, if_neg q1, fd_cons, if_neg q2, fd_cons, if_neg q1]
  refine W_fdeq (nx := 34) (nx' := 34) heq3 ?_
  refine W_cells (g' := gDc sd 20 (D ++ [(t, w0)]).length cD' A.length cA md ma) (nx' := 34) (fun x k hx hk => by
    obtain rfl : x = 0 := by omega
    exact a2 k hk) ?_
  have hA2 : ∀ j a, A[j]? = some a → F j = a := f4
  refine vc_sound hE 60 _ _ _ 34 ?_
  refine ⟨20, A.length, cA, A, i, rfl, rfl, kA, H.la.rd (by rw [he]; rfl), hil, by omega, rfl, fun e2 c2 hl2 => ?_⟩
  refine hfin 0 _ _ (by unfold rProm; rw [if_pos hhas, if_pos q1, if_neg q3, hi, Int.toNat_natCast, getD_of hp]) _ sd 34 eD' e2 cD' c2 _ ⟨rfl, rfl, rfl, rfl, rfl, ?_, rfl, a4, hl2, .inr ⟨a5, by omega, ?_⟩, .inr ⟨by decide, by decide, ?_⟩, by omega, ?_⟩
  · rw [fd_cons, if_neg (by omega), fd_cons, if_neg (by omega), fd_cons, if_neg (by omega), fd_cons, if_neg (by omega), fd_cons, if_neg (by omega)]; exact a3
  · show fd 19 h3 = _
    rw [a8, H.d]
  · show Ent.blk b cA 2 g 72 = _
    rw [H.a, he]
  · exact KeepD.cons (KeepD.cons (KeepD.cons (KeepD.cons (KeepD.cons a10 (by omega)) (by omega)) (by omega)) (by omega)) (by omega)

def sRProm : Spec := fun args h nx K => ∃ (bR : Nat) (md ma : Int) (D A : Dl) (eD eA : Ent) (cD cA : Nat) (t : Int), args = [.ptr 18 0 0, .int .i64 t] ∧ DcW h bR md ma D A eD eA cD cA ∧ GoneD h ∧ D.length ≤ 900 ∧ A.length ≤ 900 ∧ DcK h bR md ma (rProm md D A t).D (rProm md D A t).A (.ret (.int .i64 (rProm md D A t).e)) K nx
theorem sRProm_ok : SpecOK Try.prog 26 sRProm := specOK_imp (specOK_ren sRProm0_ok) <| by
  rintro args h nx K ⟨bR, md, ma, D, A, eD, eA, cD, cA, t, rfl, H, hg, hD, hA, hk⟩
  exact ⟨bR, md, ma, D, A, eD, eA, cD, cA, t, rfl, H, hg, hD, hA, fun h' sd sa eD' eA' cD' cA' g F _ => F.ren (o := .ret (.int .i64 _)) H hg trivial hk⟩
end Go.Proofs.Ytgcnknhfphgfnaa.Sx

/-
  The document's turns: End, New.
-/
namespace Go.Proofs.Ytgcnknhfphgfnaa.Sx
open Go Go.Proofs
set_option maxRecDepth 100000
set_option linter.unusedSimpArgs false
set_option linter.unusedVariables false

def rEnd (D A : Dl) (t : Int) : RR :=
  if hasD D A t = true then (if 0 ≤ fIdx D t then ⟨0, D.eraseIdx (fIdx D t).toNat, A⟩ else ⟨0, D, A.eraseIdx (fIdx A t).toNat⟩) else ⟨3, D, A⟩
def sREnd0 : Spec := fun args h nx K => ∃ (bR : Nat) (md ma : Int) (D A : Dl) (eD eA : Ent) (cD cA : Nat) (t : Int), args = [.ptr 18 0 0, .int .i64 t] ∧ DcW h bR md ma D A eD eA cD cA ∧ GoneD h ∧ D.length ≤ 900 ∧ A.length ≤ 900 ∧ DcC h bR md ma (rEnd D A t).D (rEnd D A t).A (.ret (.int .i64 (rEnd D A t).e)) K nx
theorem sREnd0_ok : SpecOK Try.prog 27 sREnd0 := specOK_imp (inlx_ok (fn := Try.f27) rfl rfl rfl T_ok (SP := [(38, sFind), (40, sHas), (41, sWithout)]) (consSP sFind_ok (consSP sHas_ok (consSP sWithout_ok noSP)))) <| by
  rintro args h nx K ⟨bR, md, ma, D, A, eD, eA, cD, cA, t, rfl, H, hg, hD, hA, hk⟩
  refine ⟨by simp [Try.f27], fun c hc => ?_⟩
  have hE := mkE' (fn := Try.f27) (R := fun o h' _ => Ext h h' ∧ ∃ m, K o h' m) hc (consSP sFind_ok (consSP sHas_ok (consSP sWithout_ok noSP)))
  have heq := HF.eq H hg
  have hfin : ∀ e D' A', rEnd D A t = ⟨e, D', A'⟩ → ∀ h' sd sa eD eA cD cA g, DcF h h' bR md ma D' A' sd sa eD eA cD cA g → Ext h h' ∧ ∃ m, K (.ret (.int .i64 e)) h' m := fun e D' A' q h' sd sa eD eA cD cA g F => by
    rw [q] at hk
    exact ⟨F.ext H hg, nx, hk h' sd sa eD eA cD cA g F⟩
  have kD := H.ld.cap
  have kA := H.la.cap
  obtain ⟨h0, hh0⟩ : ∃ h0, h0 = HF bR md ma D A eD eA cD cA h := ⟨_, rfl⟩
  rw [← hh0] at heq
  have no := DcF.no H heq
  have kp0 : KeepD h h0 := KeepD.of heq
  refine W_fdeq (nx' := 30) heq ?_
  refine W_seq (nx := 30) ?_
  refine W_keep (nx := 30) [(0, .ptr 18 0 0), (1, .int .i64 t)] h0 30 ?_ ?_
  · refine vc_sound hE 40 _ _ _ 30 ?_
    exact ⟨rfl, rfl, rfl, trivial⟩
  refine W_seq (nx := 30) ?_
  refine W_piece (nx := 30) (fun σ1 h1 _ => hasD D A t = true ∧ h1 = h0 ∧ subS σ1 [(0, .ptr 18 0 0), (1, .int .i64 t)]) ?_ ?_
  · refine vc_sound hE 40 _ _ _ 30 ?_
    refine ⟨bR, md, ma, D, A, eD, eA, cD, cA, t, rfl, by rw [hh0]; exact ⟨rfl, rfl, rfl, H.ld, H.la⟩, by omega, by omega, ?_⟩
    (refine (?_ : br _ _ _); refine br_both (fun q => ?_) (fun q => ?_))
    · have q : ¬ hasD D A t = true := by simpa using q
      exact hfin 3 D A (by unfold rEnd; rw [if_neg q]) _ _ _ _ _ _ _ _ no
    · exact ⟨by simpa using q, rfl, rfl, rfl, trivial⟩
  rintro σ1 h1 _ ⟨hhas, rfl, hs⟩
  refine W_sub (nx' := 30) hs ?_
  clear hs
  refine W_seq (nx := 30) ?_
  refine W_keep (nx := 30) [(0, .ptr 18 0 0), (1, .int .i64 t), (5, .int .i64 (fIdx D t))] h1 30 ?_ ?_
  · subst hh0
    refine vc_sound hE 40 _ _ _ 30 ?_
    refine ⟨_, D, t, rfl, H.ld.rd rfl, fun tv i n c' q => by cases q; exact kD, by omega, ?_⟩
    exact ⟨rfl, rfl, rfl, rfl, trivial⟩
  subst hh0
  refine vc_sound hE 7 _ _ _ 30 ?_
  (refine (?_ : br _ _ _); refine br_dec (fun q => ?_) (fun q => ?_))
  · have q1 : (0 : Int) ≤ fIdx D t := q
    obtain ⟨i, w0, hi, hp⟩ := fIdx_ge q1
    have hil := lt_of_at hp
    refine W_sub (nx := 30) (nx' := 30) (σ' := [(0, .ptr 18 0 0), (5, .int .i64 (i : Int))]) ⟨rfl, congrArg (fun x => some (V.int .i64 x)) hi, trivial⟩ ?_
    refine vc_sound hE 60 _ _ _ 30 ?_
    refine ⟨19, D.length, cD, D, i, rfl, rfl, kD, H.ld.rd rfl, hil, by omega, rfl, fun e2 c2 hl2 => ?_⟩
    refine hfin 0 _ _ (by unfold rEnd; rw [if_pos hhas, if_pos q1, hi, Int.toNat_natCast]) _ 30 20 e2 eA c2 cA _ ⟨rfl, rfl, rfl, rfl, rfl, rfl, rfl, hl2, H.la, .inr ⟨by decide, by decide, ?_⟩, .inl ⟨rfl, by rw [H.a]⟩, by decide, KeepD.cons (KeepD.cons kp0 (by omega)) (by omega)⟩
    exact H.d.symm
  · have q1 : ¬ (0 : Int) ≤ fIdx D t := q
    have q2 : 0 ≤ fIdx A t := by
      unfold hasD at hhas
      simp [q1] at hhas
      exact hhas
    obtain ⟨i, w0, hi, hp⟩ := fIdx_ge q2
    have hil := lt_of_at hp
    have hF : ∀ (b : Option Addr) (N : Nat), True := fun _ _ => trivial
    refine W_planw hE 30 [14] (.take 0 (.take 1 (.take 2 (.take 3 (.take 4 (.take 5 (.take 6 (.take 7 (.take 8 (.take 9 (.take 10 (.all (.cons 11 (.all (.cons 12 (.take 13 (.all (.cons 14 (.done) (.nil)))) (.nil))) (.nil)))))))))))))) (by rw [hc]; exact mix) (by kernel_rfl) 31 ?_
    iterate 10 (refine ⟨_, ⟨rfl, rfl⟩, ?_⟩)
    refine ⟨.int .i64 (fIdx A t), ⟨_, A, t, rfl, (H.la.rd (h := HF bR md ma D A eD eA cD cA h) rfl).ro, fun tv i n c' q => by cases q; exact kA, by omega, rfl, rfl⟩, ?_⟩
    refine putS_some rfl ?_
    refine ⟨⟨20, A.length, cA, A, i, by rw [hi]; rfl, rfl, kA, (H.la.rd (h := HF bR md ma D A eD eA cD cA h) rfl).ro, hil, by omega, rfl, fun e2 c2 hl2 => ?_⟩, trivial⟩
    have hl2' := hl2
    rcases hl2 with ⟨hl0, rfl, g2, rfl⟩ | ⟨b2, g2, F2, rfl, f1, f2, f3, f4⟩
    · refine ⟨rfl, rfl, ?_⟩
      refine ⟨⟨trivial, ?_⟩, trivial⟩
      refine ⟨_, ⟨rfl, rfl⟩, ?_⟩
      refine ⟨⟨trivial, ?_⟩, trivial⟩
      exact hfin 0 _ _ (by unfold rEnd; rw [if_pos hhas, if_neg q1, hi, Int.toNat_natCast]) _ 19 30 eD _ cD 0 _ ⟨rfl, rfl, rfl, rfl, rfl, rfl, rfl, H.ld, hl2', .inl ⟨rfl, by rw [H.d]⟩, .inr ⟨by decide, by decide, H.a.symm⟩, by decide, KeepD.cons (KeepD.cons kp0 (by omega)) (by omega)⟩
    · refine ⟨rfl, rfl, fun x k hx hk => by rw [f3 x k hx hk]; exact gF_flat hk, ?_⟩
      refine ⟨⟨trivial, ?_⟩, trivial⟩
      refine ⟨_, ⟨rfl, rfl⟩, ?_⟩
      refine ⟨⟨trivial, ?_⟩, trivial⟩
      exact hfin 0 _ _ (by unfold rEnd; rw [if_pos hhas, if_neg q1, hi, Int.toNat_natCast]) _ 19 30 eD _ cD c2 _ ⟨rfl, rfl, rfl, rfl, rfl, rfl, rfl, H.ld, hl2', .inl ⟨rfl, by rw [H.d]⟩, .inr ⟨by decide, by decide, H.a.symm⟩, by decide, KeepD.cons (KeepD.cons kp0 (by omega)) (by omega)⟩
def sREnd : Spec := fun args h nx K => ∃ (bR : Nat) (md ma : Int) (D A : Dl) (eD eA : Ent) (cD cA : Nat) (t : Int), args = [.ptr 18 0 0, .int .i64 t] ∧ DcW h bR md ma D A eD eA cD cA ∧ GoneD h ∧ D.length ≤ 900 ∧ A.length ≤ 900 ∧ DcK h bR md ma (rEnd D A t).D (rEnd D A t).A (.ret (.int .i64 (rEnd D A t).e)) K nx
theorem sREnd_ok : SpecOK Try.prog 27 sREnd := specOK_imp (specOK_ren sREnd0_ok) <| by
  rintro args h nx K ⟨bR, md, ma, D, A, eD, eA, cD, cA, t, rfl, H, hg, hD, hA, hk⟩
  exact ⟨bR, md, ma, D, A, eD, eA, cD, cA, t, rfl, H, hg, hD, hA, fun h' sd sa eD' eA' cD' cA' g F _ => F.ren (o := .ret (.int .i64 _)) H hg trivial hk⟩
/-- The document's turns are new. -/
abbrev noE : Ent := .ro none 0 2 (gF R2 fun _ => (0, false))
theorem noE_lst : lstK R2 noE [] 0 := .inl ⟨rfl, rfl, _, rfl⟩
def sRNew0 : Spec := fun args h nx K => ∃ (md ma : Int), args = [.int .i64 md, .int .i64 ma] ∧ fd 30 h = .gone ∧ ∀ b g, g 0 0 = .nils → g 0 1 = .nils → g 0 2 = .int .i64 md → g 0 3 = .int .i64 ma → K (.ret (.ptr 30 0 0)) ((30, .blk b 1 4 g 48) :: (30, .gone) :: h) nx
theorem sRNew0_ok : SpecOK Try.prog 11 sRNew0 := specOK_imp (inlx_ok (fn := Try.f11) rfl rfl rfl T_ok (SP := []) noSP) <| by
  rintro args h nx K ⟨md, ma, rfl, hg, hk⟩
  refine ⟨by simp [Try.f11], fun c hc => ?_⟩
  have hE := mkE' (fn := Try.f11) (R := fun o h' _ => Ext h h' ∧ ∃ m, K o h' m) hc noSP
  refine W_fdeq (nx' := 30) (fdeq_cons hg) ?_
  refine vc_sound hE 60 _ _ _ 30 ?_
  intro b
  refine ⟨?_, nx, hk b _ rfl rfl rfl rfl⟩
  intro t r e
  by_cases q : t = 30
  · subst q; rw [hg] at e; cases e
  · rw [fd_cons, if_neg q, fd_cons, if_neg q]; exact e
def sRNew : Spec := fun args h nx K => ∃ (md ma : Int), args = [.int .i64 md, .int .i64 ma] ∧ fd 30 h = .gone ∧ fd 18 h = .gone ∧ fd 19 h = .gone ∧ fd 20 h = .gone ∧ ∀ b, K (.ret (.ptr 18 0 0)) (HDc b md ma 19 20 [] [] noE noE 0 0 h) nx
theorem sRNew_ok : SpecOK Try.prog 11 sRNew := specOK_imp (specOK_ren sRNew0_ok) <| by
  rintro args h nx K ⟨md, ma, rfl, h30, h18, h19, h20, hk⟩
  refine ⟨md, ma, rfl, h30, fun b g g0 g1 g2 g3 hx => ?_⟩
  have fo : ∀ t, t ≠ 18 → t ≠ 19 → t ≠ 20 → fd t (HDc b md ma 19 20 [] [] noE noE 0 0 h) = fd t h := fun t a b c => fd_HDc a b c
  let τ : Nat → Nat := fun t => if t = 18 then 30 else t
  have τo : ∀ t, t ≠ 18 → τ t = t := fun t a => by show (if t = 18 then 30 else t) = t; rw [if_neg a]
  refine ⟨.ret (.ptr 18 0 0), HDc b md ma 19 20 [] [] noE noE 0 0 h, nx, τ, hk b, fun t r e => ?_, fun t => ?_, fun t t' hne e1 e2 => ?_, ?_⟩
  · by_cases q0 : t = 18
    · subst q0; rw [h18] at e; cases e
    by_cases q1 : t = 19
    · subst q1; rw [h19] at e; cases e
    by_cases q2 : t = 20
    · subst q2; rw [h20] at e; cases e
    rw [fo t q0 q1 q2]; exact e
  · by_cases q0 : t = 18
    · subst q0
      refine .inr (.inr (.inr ⟨rfl, rfl, rfl, rfl, fun i k hi hk => ?_⟩))
      obtain rfl : i = 0 := by omega
      match k, hk with
      | 0, _ => rw [g0]; exact tell_nil (n := 0) (sz := 2) rfl
      | 1, _ => rw [g1]; exact tell_nil (n := 0) (sz := 2) rfl
      | 2, _ => rw [g2]; exact tell_flat trivial
      | 3, _ => rw [g3]; exact tell_flat trivial
    by_cases q1 : t = 19
    · subst q1; exact .inr (.inr (.inl ⟨_, _, rfl⟩))
    by_cases q2 : t = 20
    · subst q2; exact .inr (.inr (.inl ⟨_, _, rfl⟩))
    by_cases q3 : t = 30
    · subst q3; left; rw [fo 30 q0 q1 q2]; exact h30
    have e0 : fd t ((30, .blk b 1 4 g 48) :: (30, .gone) :: h) = fd t h := by rw [fd_cons, if_neg q3, fd_cons, if_neg q3]
    exact .inr (.inl ⟨τo t q0, by rw [fo t q0 q1 q2, e0], e0⟩)
  · have n30 : ∀ t, (fd t (HDc b md ma 19 20 [] [] noE noE 0 0 h)).at.isSome = true → t ≠ 30 := fun t e => by
      rintro rfl
      rw [fo 30 (by decide) (by decide) (by decide), h30] at e; cases e
    have s1 := n30 t e1
    have s2 := n30 t' e2
    by_cases q : t = 18
    · subst q
      rw [τo t' (fun q => hne q.symm)]
      exact fun q => s2 q.symm
    · rw [τo t q]
      by_cases q' : t' = 18
      · subst q'; exact s1
      · rw [τo t' q']; exact hne
  · rintro e ⟨x, ex, rx⟩
    exact ⟨x, ex, tell_ptr (h1 := (30, .blk b 1 4 g 48) :: (30, .gone) :: h) (h2 := HDc b md ma 19 20 [] [] noE noE 0 0 h) rfl _ rx⟩
end Go.Proofs.Ytgcnknhfphgfnaa.Sx

/-
  One step on both.
-/
namespace Go.Proofs.Ytgcnknhfphgfnaa.Sx
open Go Go.Proofs
set_option maxRecDepth 100000
set_option linter.unusedSimpArgs false
set_option linter.unusedVariables false

def actT (d a n : Int) (S : List Pl) (k t : Int) (ah : Bool) : Res := if k = 0 then putR d a n S t ah else if k = 1 then waitR n S t false else if k = 2 then waitR n S t true else if k = 3 then promR d a n S t else if k = 4 then endR n S t else ⟨0, n, S⟩
def actD (md ma : Int) (D A : Dl) (k t : Int) (ah : Bool) : RR := if k = 0 then rPut md ma D A t ah else if k = 1 then rWait D A t false else if k = 2 then rWait D A t true else if k = 3 then rProm md D A t else if k = 4 then rEnd D A t else ⟨0, D, A⟩
/-- What is known behind a step. -/
structure StF (h h' : Hp) (bT bM : Nat) (d a n : Int) (S : List Pl) (bR : Nat) (md ma : Int) (D A : Dl) (td ta : Nat) (eD eA : Ent) (cD cA : Nat) : Prop where
  tn : TnW h' bT bM d a n S
  str : fd 18 h' = .blk bR 1 4 (gDc td ta D.length cD A.length cA md ma) 48
  dd : fd td h' = eD
  aa : fd ta h' = eA
  ld : lstK R2 eD D cD
  la : lstK R2 eA A cA
  wd : (td = 19 ∧ eD.rf = (fd 19 h).rf) ∨ (td = 21 ∧ fd 19 h' = fd 19 h)
  wa : (ta = 20 ∧ eA.rf = (fd 20 h).rf) ∨ (ta = 22 ∧ fd 20 h' = fd 20 h)
  kp : ∀ t, t ≠ 8 → t ≠ 9 → t ≠ 18 → t ≠ 19 → t ≠ 20 → t ≠ 21 → t ≠ 22 → t ≠ 50 → fd t h' = fd t h
theorem StF.ext {h h' : Hp} {bT bM : Nat} {d a n n0 : Int} {S S0 : List Pl} {bR : Nat} {md ma : Int} {D A D0 A0 : Dl} {td ta : Nat} {eD eA eD0 eA0 : Ent} {cD cA cD0 cA0 : Nat} (H : TnW h bT bM d a n0 S0) (HD : DcW h bR md ma D0 A0 eD0 eA0 cD0 cA0) (h21 : fd 21 h = .gone) (h22 : fd 22 h = .gone) (h50 : fd 50 h = .gone) (F : StF h h' bT bM d a n S bR md ma D A td ta eD eA cD cA) : Ext h h' := fun t r e => by
  by_cases q8 : t = 8
  · subst q8; rw [H.str] at e; rw [F.tn.str]; exact e
  by_cases q9 : t = 9
  · subst q9; rw [H.map] at e; rw [F.tn.map]; exact e
  by_cases q18 : t = 18
  · subst q18; rw [HD.str] at e; rw [F.str]; exact e
  by_cases q19 : t = 19
  · subst q19
    rcases F.wd with ⟨rfl, b⟩ | ⟨_, c⟩
    · rw [F.dd, b]; exact e
    · rw [c]; exact e
  by_cases q20 : t = 20
  · subst q20
    rcases F.wa with ⟨rfl, b⟩ | ⟨_, c⟩
    · rw [F.aa, b]; exact e
    · rw [c]; exact e
  by_cases q21 : t = 21
  · subst q21; rw [h21] at e; cases e
  by_cases q22 : t = 22
  · subst q22; rw [h22] at e; cases e
  by_cases q50 : t = 50
  · subst q50; rw [h50] at e; cases e
  rw [F.kp t q8 q9 q18 q19 q20 q21 q22 q50]; exact e
/-- The scratch tags of a step. -/
structure GoneS (h : Hp) : Prop where
  t : Gone 60 h
  d : GoneD h
  b : fd 50 h = .gone
abbrev HFS (bT bM : Nat) (d a n : Int) (S : List Pl) (bR : Nat) (md ma : Int) (D A : Dl) (eD eA : Ent) (cD cA : Nat) (h : Hp) : Hp :=
  (8, .blk bT 1 4 (gTn d a n) 56) :: (9, .mp bM (mpP S)) :: (18, .blk bR 1 4 (gDc 19 20 D.length cD A.length cA md ma) 48) :: (19, eD) :: (20, eA) :: (50, .gone) :: h
def sStep0 : Spec := fun args h nx K => ∃ (bT bM : Nat) (d a n : Int) (S : List Pl) (bR : Nat) (md ma : Int) (D A : Dl) (eD eA : Ent) (cD cA : Nat) (k t : Int) (ah : Bool), args = [.ptr 8 0 0, .ptr 18 0 0, .agg [.int .i64 k, .int .i64 t, .bool ah]] ∧ TnW h bT bM d a n S ∧ Bnd d a n S ∧ DcW h bR md ma D A eD eA cD cA ∧ GoneS h ∧ D.length ≤ 900 ∧ A.length ≤ 900 ∧
  ∀ h' td ta eD eA cD cA, StF h h' bT bM d a (actT d a n S k t ah).n (actT d a n S k t ah).S bR md ma (actD md ma D A k t ah).D (actD md ma D A k t ah).A td ta eD eA cD cA → K (.ret (.bool ((actT d a n S k t ah).e == (actD md ma D A k t ah).e))) h' nx
def SP10 : SpT := [(17, sPut), (14, sStart), (15, sAgain), (18, sProm), (23, sEnd), (24, sRPut), (25, sRWait), (26, sRProm), (27, sREnd)]
theorem sp10 : ∀ p ∈ SP10, SpecOK Try.prog p.1 p.2 := consSP sPut_ok (consSP sStart_ok (consSP sAgain_ok (consSP sProm_ok (consSP sEnd_ok (consSP sRPut_ok (consSP sRWait_ok (consSP sRProm_ok (consSP sREnd_ok noSP))))))))
theorem sStep0_ok : SpecOK Try.prog 10 sStep0 := specOK_imp (inlx_ok (fn := Try.f10) rfl rfl rfl T_ok (SP := SP10) sp10) <| by
  rintro args h nx K ⟨bT, bM, d, a, n, S, bR, md, ma, D, A, eD, eA, cD, cA, k, t, ah, rfl, H, hB, HD, hg, hD, hA, hk⟩
  refine ⟨by simp [Try.f10], fun c hc => ?_⟩
  have hE := mkE' (fn := Try.f10) (R := fun o h' _ => Ext h h' ∧ ∃ m, K o h' m) hc sp10
  have heq : ∀ u, fd u (HFS bT bM d a n S bR md ma D A eD eA cD cA h) = fd u h := fdeq_cons2 H.str (fdeq_cons2 H.map (fdeq_cons2 HD.str (fdeq_cons2 HD.d (fdeq_cons2 HD.a (fdeq_cons hg.b)))))
  have gT : ∀ e, Gone 60 ((50, e) :: HFS bT bM d a n S bR md ma D A eD eA cD cA h) := fun e => Gone.cons (fun u h1 h2 => (heq u).trans (hg.t u h1 h2)) (by omega)
  have gD : ∀ e n' S', GoneD (HTW bT bM d a n' S' ((50, e) :: HFS bT bM d a n S bR md ma D A eD eA cD cA h)) := fun e n' S' => ⟨fun u h1 h2 => by rw [fd_HTW (by omega) (by omega), fd_cons, if_neg (by omega), heq]; exact hg.d.1 u h1 h2, by rw [fd_HTW (by omega) (by omega), fd_cons, if_neg (by omega), heq]; exact hg.d.2.1, by rw [fd_HTW (by omega) (by omega), fd_cons, if_neg (by omega), heq]; exact hg.d.2.2⟩
  have dc : ∀ e n' S', DcW (HTW bT bM d a n' S' ((50, e) :: HFS bT bM d a n S bR md ma D A eD eA cD cA h)) bR md ma D A eD eA cD cA := fun e n' S' => ⟨rfl, rfl, rfl, HD.ld, HD.la⟩
  have kp0 : ∀ e t, t ≠ 50 → fd t ((50, e) :: HFS bT bM d a n S bR md ma D A eD eA cD cA h) = fd t h := fun e t q => by rw [fd_cons, if_neg q]; exact heq t
  have fin : ∀ (e : Ent) (rT : Res) (rD : RR), actT d a n S k t ah = rT → actD md ma D A k t ah = rD → ∀ td ta eD' eA' cD' cA', ((td = 19 ∧ eD'.rf = (fd 19 (HTW bT bM d a rT.n rT.S ((50, e) :: HFS bT bM d a n S bR md ma D A eD eA cD cA h))).rf) ∨ td = 21) → ((ta = 20 ∧ eA'.rf = (fd 20 (HTW bT bM d a rT.n rT.S ((50, e) :: HFS bT bM d a n S bR md ma D A eD eA cD cA h))).rf) ∨ ta = 22) → lstK R2 eD' rD.D cD' → lstK R2 eA' rD.A cA' →
      Ext h (HDc bR md ma td ta rD.D rD.A eD' eA' cD' cA' (HTW bT bM d a rT.n rT.S ((50, e) :: HFS bT bM d a n S bR md ma D A eD eA cD cA h))) ∧ ∃ m, K (.ret (.bool (rT.e == rD.e))) (HDc bR md ma td ta rD.D rD.A eD' eA' cD' cA' (HTW bT bM d a rT.n rT.S ((50, e) :: HFS bT bM d a n S bR md ma D A eD eA cD cA h))) m := fun e rT rD e1 e2 td ta eD' eA' cD' cA' wd wa ld la => by
    subst e1 e2
    have nd : td ≠ 18 ∧ td ≠ 8 ∧ td ≠ 9 := by omega
    have na : ta ≠ 18 ∧ ta ≠ 8 ∧ ta ≠ 9 ∧ ta ≠ td := by omega
    have F : StF h (HDc bR md ma td ta (actD md ma D A k t ah).D (actD md ma D A k t ah).A eD' eA' cD' cA' (HTW bT bM d a (actT d a n S k t ah).n (actT d a n S k t ah).S ((50, e) :: HFS bT bM d a n S bR md ma D A eD eA cD cA h))) bT bM d a (actT d a n S k t ah).n (actT d a n S k t ah).S bR md ma (actD md ma D A k t ah).D (actD md ma D A k t ah).A td ta eD' eA' cD' cA' := by
      refine ⟨⟨by rw [fd_HDc (by omega) (by omega) (by omega)]; rfl, by rw [fd_HDc (by omega) (by omega) (by omega)]; rfl⟩, rfl, by rw [fd_cons, if_neg (by omega), fd_cons, if_pos rfl], by rw [fd_cons, if_neg (by omega), fd_cons, if_neg (by omega), fd_cons, if_pos rfl], ld, la, ?_, ?_, fun u u8 u9 u18 u19 u20 u21 u22 u50 => ?_⟩
      · rcases wd with ⟨rfl, q⟩ | rfl
        · exact .inl ⟨rfl, by rw [q, HD.d]; rfl⟩
        · exact .inr ⟨rfl, by rw [fd_HDc (by omega) (by omega) (by omega), HD.d]; rfl⟩
      · rcases wa with ⟨rfl, q⟩ | rfl
        · exact .inl ⟨rfl, by rw [q, HD.a]; rfl⟩
        · exact .inr ⟨rfl, by rw [fd_HDc (by omega) (by omega) (by omega), HD.a]; rfl⟩
      · rw [fd_HDc (by omega) (by omega) (by omega), fd_HTW u8 u9]; exact kp0 e u u50
    exact ⟨F.ext H HD hg.d.2.1 hg.d.2.2 hg.b, nx, hk _ _ _ _ _ _ _ F⟩
  refine W_fdeq (nx' := 50) heq ?_
  refine W_seq (nx := 50) ?_
  refine W_some (nx := 50) (fun _ : Nat => True) (fun b => [(0, .ptr 8 0 0), (1, .ptr 18 0 0), (5, .ptr 50 0 0)]) (fun b => (50, .blk b 1 3 (gOf 3 [.int .i64 k, .int .i64 t, .bool ah]) 32) :: HFS bT bM d a n S bR md ma D A eD eA cD cA h) 51 ?_ ?_
  · refine vc_sound hE 20 _ _ _ 50 ?_
    intro b
    exact ⟨b, trivial, rfl, rfl, rfl, rfl, trivial⟩
  intro b _
  refine W_seq (nx := 51) ?_
  refine W_piece (nx := 51) (fun σ1 h1 _ => (k ≠ 0 ∧ k ≠ 1 ∧ k ≠ 2 ∧ k ≠ 3 ∧ k ≠ 4) ∧ h1 = (50, .blk b 1 3 (gOf 3 [.int .i64 k, .int .i64 t, .bool ah]) 32) :: HFS bT bM d a n S bR md ma D A eD eA cD cA h) ?_ ?_
  rotate_left
  · rintro σ1 h1 _ ⟨⟨k0, k1, k2, k3, k4⟩, rfl⟩
    refine vc_sound hE 20 _ _ _ 51 ?_
    have e1 : actT d a n S k t ah = ⟨0, n, S⟩ := by unfold actT; rw [if_neg k0, if_neg k1, if_neg k2, if_neg k3, if_neg k4]
    have e2 : actD md ma D A k t ah = ⟨0, D, A⟩ := by unfold actD; rw [if_neg k0, if_neg k1, if_neg k2, if_neg k3, if_neg k4]
    rw [e1, e2] at hk
    have F : StF h ((50, .blk b 1 3 (gOf 3 [.int .i64 k, .int .i64 t, .bool ah]) 32) :: HFS bT bM d a n S bR md ma D A eD eA cD cA h) bT bM d a n S bR md ma D A 19 20 eD eA cD cA :=
      ⟨⟨rfl, rfl⟩, rfl, rfl, rfl, HD.ld, HD.la, .inl ⟨rfl, by rw [HD.d]⟩, .inl ⟨rfl, by rw [HD.a]⟩, fun u _ _ _ _ _ _ _ u50 => kp0 _ u u50⟩
    exact ⟨F.ext H HD hg.d.2.1 hg.d.2.2 hg.b, nx, hk _ _ _ _ _ _ _ F⟩
  refine W_seq (nx := 51) ?_
  refine W_keep (nx := 51) [(0, .ptr 8 0 0), (1, .ptr 18 0 0), (5, .ptr 50 0 0), (8, .int .i64 k)] ((50, .blk b 1 3 (gOf 3 [.int .i64 k, .int .i64 t, .bool ah]) 32) :: HFS bT bM d a n S bR md ma D A eD eA cD cA h) 51 ?_ ?_
  · refine vc_sound hE 20 _ _ _ 51 ?_
    exact ⟨rfl, rfl, rfl, rfl, rfl, trivial⟩
  refine vc_sound hE 7 _ _ _ 51 ?_
  (refine (?_ : br _ _ _); refine br_eq (fun k0 => ?_) (fun k0 => ?_))
  · have aT : actT d a n S k t ah = putR d a n S t ah := by unfold actT; rw [if_pos k0]
    have aD : actD md ma D A k t ah = rPut md ma D A t ah := by unfold actD; rw [if_pos k0]
    refine vc_sound hE 2 _ _ _ 51 ?_
    refine W_planw hE 51 [5, 11] (.take 0 (.take 1 (.take 2 (.take 3 (.take 4 (.take 6 (.take 7 (.take 9 (.all (.cons 5 (.all (.cons 8 (.all (.cons 10 (.all (.cons 11 (.take 12 (.take 13 (.done))) (.nil))) (.nil))) (.cons 10 (.all (.cons 8 (.all (.cons 11 (.take 12 (.take 13 (.done))) (.nil))) (.nil))) (.nil)))) (.cons 8 (.all (.cons 5 (.all (.cons 10 (.all (.cons 11 (.take 12 (.take 13 (.done))) (.nil))) (.nil))) (.cons 10 (.all (.cons 5 (.all (.cons 11 (.take 12 (.take 13 (.done))) (.nil))) (.nil))) (.nil)))) (.cons 10 (.all (.cons 5 (.all (.cons 8 (.all (.cons 11 (.take 12 (.take 13 (.done))) (.nil))) (.nil))) (.cons 8 (.all (.cons 5 (.all (.cons 11 (.take 12 (.take 13 (.done))) (.nil))) (.nil))) (.nil)))) (.nil))))))))))))) (by rw [hc]; exact mix) (by kernel_rfl) 31 ?_
    iterate 8 (refine ⟨_, ⟨rfl, rfl⟩, ?_⟩)
    refine putS_some rfl ?_
    refine ⟨⟨trivial, ?_⟩, ⟨trivial, ?_⟩, ⟨trivial, ?_⟩, trivial⟩
    · refine ⟨bT, bM, d, a, n, S, t, ah, rfl, ⟨rfl, rfl⟩, hB, gT _, ?_⟩
      refine putS_some rfl ?_
      refine ⟨⟨trivial, ?_⟩, ⟨trivial, ?_⟩, trivial⟩
      · skip
        refine ⟨⟨trivial, ?_⟩, trivial⟩
        · skip
          refine ⟨⟨trivial, ⟨bR, md, ma, D, A, eD, eA, cD, cA, t, ah, rfl, dc _ _ _, gD _ _ _, hD, hA, fun td ta eD' eA' cD' cA' wd wa ld la => ?_⟩⟩, trivial⟩
          iterate 2 (refine ⟨_, ⟨rfl, rfl⟩, ?_⟩)
          exact fin _ (putR d a n S t ah) (rPut md ma D A t ah) aT aD td ta eD' eA' cD' cA' wd wa ld la
      · skip
        refine ⟨⟨trivial, ?_⟩, trivial⟩
        · skip
          refine ⟨⟨trivial, ⟨bR, md, ma, D, A, eD, eA, cD, cA, t, ah, rfl, dc _ _ _, gD _ _ _, hD, hA, fun td ta eD' eA' cD' cA' wd wa ld la => ?_⟩⟩, trivial⟩
          iterate 2 (refine ⟨_, ⟨rfl, rfl⟩, ?_⟩)
          exact fin _ (putR d a n S t ah) (rPut md ma D A t ah) aT aD td ta eD' eA' cD' cA' wd wa ld la
    · skip
      refine ⟨⟨trivial, ?_⟩, ⟨trivial, ?_⟩, trivial⟩
      · refine ⟨bT, bM, d, a, n, S, t, ah, rfl, ⟨rfl, rfl⟩, hB, gT _, ?_⟩
        refine putS_some rfl ?_
        refine ⟨⟨trivial, ?_⟩, trivial⟩
        · skip
          refine ⟨⟨trivial, ⟨bR, md, ma, D, A, eD, eA, cD, cA, t, ah, rfl, dc _ _ _, gD _ _ _, hD, hA, fun td ta eD' eA' cD' cA' wd wa ld la => ?_⟩⟩, trivial⟩
          iterate 2 (refine ⟨_, ⟨rfl, rfl⟩, ?_⟩)
          exact fin _ (putR d a n S t ah) (rPut md ma D A t ah) aT aD td ta eD' eA' cD' cA' wd wa ld la
      · skip
        refine ⟨⟨trivial, ?_⟩, trivial⟩
        · refine ⟨bT, bM, d, a, n, S, t, ah, rfl, ⟨rfl, rfl⟩, hB, gT _, ?_⟩
          refine putS_some rfl ?_
          refine ⟨⟨trivial, ⟨bR, md, ma, D, A, eD, eA, cD, cA, t, ah, rfl, dc _ _ _, gD _ _ _, hD, hA, fun td ta eD' eA' cD' cA' wd wa ld la => ?_⟩⟩, trivial⟩
          iterate 2 (refine ⟨_, ⟨rfl, rfl⟩, ?_⟩)
          exact fin _ (putR d a n S t ah) (rPut md ma D A t ah) aT aD td ta eD' eA' cD' cA' wd wa ld la
    · skip
      refine ⟨⟨trivial, ?_⟩, ⟨trivial, ?_⟩, trivial⟩
      · refine ⟨bT, bM, d, a, n, S, t, ah, rfl, ⟨rfl, rfl⟩, hB, gT _, ?_⟩
        refine putS_some rfl ?_
        refine ⟨⟨trivial, ?_⟩, trivial⟩
        · skip
          refine ⟨⟨trivial, ⟨bR, md, ma, D, A, eD, eA, cD, cA, t, ah, rfl, dc _ _ _, gD _ _ _, hD, hA, fun td ta eD' eA' cD' cA' wd wa ld la => ?_⟩⟩, trivial⟩
          iterate 2 (refine ⟨_, ⟨rfl, rfl⟩, ?_⟩)
          exact fin _ (putR d a n S t ah) (rPut md ma D A t ah) aT aD td ta eD' eA' cD' cA' wd wa ld la
      · skip
        refine ⟨⟨trivial, ?_⟩, trivial⟩
        · refine ⟨bT, bM, d, a, n, S, t, ah, rfl, ⟨rfl, rfl⟩, hB, gT _, ?_⟩
          refine putS_some rfl ?_
          refine ⟨⟨trivial, ⟨bR, md, ma, D, A, eD, eA, cD, cA, t, ah, rfl, dc _ _ _, gD _ _ _, hD, hA, fun td ta eD' eA' cD' cA' wd wa ld la => ?_⟩⟩, trivial⟩
          iterate 2 (refine ⟨_, ⟨rfl, rfl⟩, ?_⟩)
          exact fin _ (putR d a n S t ah) (rPut md ma D A t ah) aT aD td ta eD' eA' cD' cA' wd wa ld la
  refine vc_sound hE 6 _ _ _ 51 ?_
  (refine (?_ : br _ _ _); refine br_eq (fun k1 => ?_) (fun k1 => ?_))
  · have aT : actT d a n S k t ah = waitR n S t false := by unfold actT; rw [if_neg k0, if_pos k1]
    have aD : actD md ma D A k t ah = rWait D A t false := by unfold actD; rw [if_neg k0, if_pos k1]
    refine vc_sound hE 2 _ _ _ 51 ?_
    refine W_planw hE 51 [3, 7] (.take 0 (.take 1 (.take 2 (.take 4 (.take 5 (.all (.cons 3 (.all (.cons 6 (.all (.cons 7 (.take 8 (.take 9 (.done))) (.nil))) (.nil))) (.cons 6 (.all (.cons 3 (.all (.cons 7 (.take 8 (.take 9 (.done))) (.nil))) (.nil))) (.nil))))))))) (by rw [hc]; exact mix) (by kernel_rfl) 31 ?_
    iterate 5 (refine ⟨_, ⟨rfl, rfl⟩, ?_⟩)
    refine putS_some rfl ?_
    refine ⟨⟨trivial, ?_⟩, ⟨trivial, ?_⟩, trivial⟩
    · refine ⟨bT, bM, d, a, n, S, t, rfl, ⟨rfl, rfl⟩, hB, gT _, ?_⟩
      refine putS_some rfl ?_
      refine ⟨⟨trivial, ?_⟩, trivial⟩
      · skip
        refine ⟨⟨trivial, ⟨bR, md, ma, D, A, eD, eA, cD, cA, t, false, rfl, dc _ _ _, gD _ _ _, hD, hA, fun td ta eD' eA' cD' cA' wd wa ld la => ?_⟩⟩, trivial⟩
        iterate 2 (refine ⟨_, ⟨rfl, rfl⟩, ?_⟩)
        exact fin _ (waitR n S t false) (rWait D A t false) aT aD td ta eD' eA' cD' cA' wd wa ld la
    · skip
      refine ⟨⟨trivial, ?_⟩, trivial⟩
      · refine ⟨bT, bM, d, a, n, S, t, rfl, ⟨rfl, rfl⟩, hB, gT _, ?_⟩
        refine putS_some rfl ?_
        refine ⟨⟨trivial, ⟨bR, md, ma, D, A, eD, eA, cD, cA, t, false, rfl, dc _ _ _, gD _ _ _, hD, hA, fun td ta eD' eA' cD' cA' wd wa ld la => ?_⟩⟩, trivial⟩
        iterate 2 (refine ⟨_, ⟨rfl, rfl⟩, ?_⟩)
        exact fin _ (waitR n S t false) (rWait D A t false) aT aD td ta eD' eA' cD' cA' wd wa ld la
  refine vc_sound hE 6 _ _ _ 51 ?_
  (refine (?_ : br _ _ _); refine br_eq (fun k2 => ?_) (fun k2 => ?_))
  · have aT : actT d a n S k t ah = waitR n S t true := by unfold actT; rw [if_neg k0, if_neg k1, if_pos k2]
    have aD : actD md ma D A k t ah = rWait D A t true := by unfold actD; rw [if_neg k0, if_neg k1, if_pos k2]
    refine vc_sound hE 2 _ _ _ 51 ?_
    refine W_planw hE 51 [3, 7] (.take 0 (.take 1 (.take 2 (.take 4 (.take 5 (.all (.cons 3 (.all (.cons 6 (.all (.cons 7 (.take 8 (.take 9 (.done))) (.nil))) (.nil))) (.cons 6 (.all (.cons 3 (.all (.cons 7 (.take 8 (.take 9 (.done))) (.nil))) (.nil))) (.nil))))))))) (by rw [hc]; exact mix) (by kernel_rfl) 31 ?_
    iterate 5 (refine ⟨_, ⟨rfl, rfl⟩, ?_⟩)
    refine putS_some rfl ?_
    refine ⟨⟨trivial, ?_⟩, ⟨trivial, ?_⟩, trivial⟩
    · refine ⟨bT, bM, d, a, n, S, t, rfl, ⟨rfl, rfl⟩, hB, gT _, ?_⟩
      refine putS_some rfl ?_
      refine ⟨⟨trivial, ?_⟩, trivial⟩
      · skip
        refine ⟨⟨trivial, ⟨bR, md, ma, D, A, eD, eA, cD, cA, t, true, rfl, dc _ _ _, gD _ _ _, hD, hA, fun td ta eD' eA' cD' cA' wd wa ld la => ?_⟩⟩, trivial⟩
        iterate 2 (refine ⟨_, ⟨rfl, rfl⟩, ?_⟩)
        exact fin _ (waitR n S t true) (rWait D A t true) aT aD td ta eD' eA' cD' cA' wd wa ld la
    · skip
      refine ⟨⟨trivial, ?_⟩, trivial⟩
      · refine ⟨bT, bM, d, a, n, S, t, rfl, ⟨rfl, rfl⟩, hB, gT _, ?_⟩
        refine putS_some rfl ?_
        refine ⟨⟨trivial, ⟨bR, md, ma, D, A, eD, eA, cD, cA, t, true, rfl, dc _ _ _, gD _ _ _, hD, hA, fun td ta eD' eA' cD' cA' wd wa ld la => ?_⟩⟩, trivial⟩
        iterate 2 (refine ⟨_, ⟨rfl, rfl⟩, ?_⟩)
        exact fin _ (waitR n S t true) (rWait D A t true) aT aD td ta eD' eA' cD' cA' wd wa ld la
  refine vc_sound hE 6 _ _ _ 51 ?_
  (refine (?_ : br _ _ _); refine br_eq (fun k3 => ?_) (fun k3 => ?_))
  · have aT : actT d a n S k t ah = promR d a n S t := by unfold actT; rw [if_neg k0, if_neg k1, if_neg k2, if_pos k3]
    have aD : actD md ma D A k t ah = rProm md D A t := by unfold actD; rw [if_neg k0, if_neg k1, if_neg k2, if_pos k3]
    refine vc_sound hE 2 _ _ _ 51 ?_
    refine W_planw hE 51 [3, 7] (.take 0 (.take 1 (.take 2 (.take 4 (.take 5 (.all (.cons 3 (.all (.cons 6 (.all (.cons 7 (.take 8 (.take 9 (.done))) (.nil))) (.nil))) (.cons 6 (.all (.cons 3 (.all (.cons 7 (.take 8 (.take 9 (.done))) (.nil))) (.nil))) (.nil))))))))) (by rw [hc]; exact mix) (by kernel_rfl) 31 ?_
    iterate 5 (refine ⟨_, ⟨rfl, rfl⟩, ?_⟩)
    refine putS_some rfl ?_
    refine ⟨⟨trivial, ?_⟩, ⟨trivial, ?_⟩, trivial⟩
    · refine ⟨bT, bM, d, a, n, S, t, rfl, ⟨rfl, rfl⟩, hB, gT _, ?_⟩
      refine putS_some rfl ?_
      refine ⟨⟨trivial, ?_⟩, trivial⟩
      · skip
        refine ⟨⟨trivial, ⟨bR, md, ma, D, A, eD, eA, cD, cA, t, rfl, dc _ _ _, gD _ _ _, hD, hA, fun td ta eD' eA' cD' cA' wd wa ld la => ?_⟩⟩, trivial⟩
        iterate 2 (refine ⟨_, ⟨rfl, rfl⟩, ?_⟩)
        exact fin _ (promR d a n S t) (rProm md D A t) aT aD td ta eD' eA' cD' cA' wd wa ld la
    · skip
      refine ⟨⟨trivial, ?_⟩, trivial⟩
      · refine ⟨bT, bM, d, a, n, S, t, rfl, ⟨rfl, rfl⟩, hB, gT _, ?_⟩
        refine putS_some rfl ?_
        refine ⟨⟨trivial, ⟨bR, md, ma, D, A, eD, eA, cD, cA, t, rfl, dc _ _ _, gD _ _ _, hD, hA, fun td ta eD' eA' cD' cA' wd wa ld la => ?_⟩⟩, trivial⟩
        iterate 2 (refine ⟨_, ⟨rfl, rfl⟩, ?_⟩)
        exact fin _ (promR d a n S t) (rProm md D A t) aT aD td ta eD' eA' cD' cA' wd wa ld la
  refine vc_sound hE 6 _ _ _ 51 ?_
  (refine (?_ : br _ _ _); refine br_eq (fun k4 => ?_) (fun k4 => ?_))
  · have aT : actT d a n S k t ah = endR n S t := by unfold actT; rw [if_neg k0, if_neg k1, if_neg k2, if_neg k3, if_pos k4]
    have aD : actD md ma D A k t ah = rEnd D A t := by unfold actD; rw [if_neg k0, if_neg k1, if_neg k2, if_neg k3, if_pos k4]
    refine vc_sound hE 2 _ _ _ 51 ?_
    refine W_planw hE 51 [3, 7] (.take 0 (.take 1 (.take 2 (.take 4 (.take 5 (.all (.cons 3 (.all (.cons 6 (.all (.cons 7 (.take 8 (.take 9 (.done))) (.nil))) (.nil))) (.cons 6 (.all (.cons 3 (.all (.cons 7 (.take 8 (.take 9 (.done))) (.nil))) (.nil))) (.nil))))))))) (by rw [hc]; exact mix) (by kernel_rfl) 31 ?_
    iterate 5 (refine ⟨_, ⟨rfl, rfl⟩, ?_⟩)
    refine putS_some rfl ?_
    refine ⟨⟨trivial, ?_⟩, ⟨trivial, ?_⟩, trivial⟩
    · refine ⟨bT, bM, d, a, n, S, t, rfl, ⟨rfl, rfl⟩, hB, gT _, ?_⟩
      refine putS_some rfl ?_
      refine ⟨⟨trivial, ?_⟩, trivial⟩
      · skip
        refine ⟨⟨trivial, ⟨bR, md, ma, D, A, eD, eA, cD, cA, t, rfl, dc _ _ _, gD _ _ _, hD, hA, fun td ta eD' eA' cD' cA' wd wa ld la => ?_⟩⟩, trivial⟩
        iterate 2 (refine ⟨_, ⟨rfl, rfl⟩, ?_⟩)
        exact fin _ (endR n S t) (rEnd D A t) aT aD td ta eD' eA' cD' cA' wd wa ld la
    · skip
      refine ⟨⟨trivial, ?_⟩, trivial⟩
      · refine ⟨bT, bM, d, a, n, S, t, rfl, ⟨rfl, rfl⟩, hB, gT _, ?_⟩
        refine putS_some rfl ?_
        refine ⟨⟨trivial, ⟨bR, md, ma, D, A, eD, eA, cD, cA, t, rfl, dc _ _ _, gD _ _ _, hD, hA, fun td ta eD' eA' cD' cA' wd wa ld la => ?_⟩⟩, trivial⟩
        iterate 2 (refine ⟨_, ⟨rfl, rfl⟩, ?_⟩)
        exact fin _ (endR n S t) (rEnd D A t) aT aD td ta eD' eA' cD' cA' wd wa ld la
  refine vc_sound hE 20 _ _ _ 51 ?_
  exact ⟨⟨k0, k1, k2, k3, k4⟩, rfl⟩
end Go.Proofs.Ytgcnknhfphgfnaa.Sx

/-
  One step on both, told anew; State and Free's facts. The plain law of turns.
-/
namespace Go.Proofs.Ytgcnknhfphgfnaa.Sx
open Go Go.Proofs
set_option maxRecDepth 100000
set_option linter.unusedSimpArgs false
set_option linter.unusedVariables false

theorem lstK.tellE {α : Type} {R : RK α} {e : Ent} {l : List α} {cap : Nat} (he : lstK R e l cap) {h1 h2 : Hp} : Sx.tellE h1 h2 e := by
  rcases he with ⟨rfl, rfl, g, rfl⟩ | ⟨b, g, F, rfl, h1, h2, h3, h4⟩
  · exact fun i k hi => by omega
  · exact fun i k hi hk => tell_flat (by rw [h3 i k hi hk]; exact gF_flat hk)
def sStep : Spec := fun args h nx K => ∃ (bT bM : Nat) (d a n : Int) (S : List Pl) (bR : Nat) (md ma : Int) (D A : Dl) (eD eA : Ent) (cD cA : Nat) (k t : Int) (ah : Bool), args = [.ptr 8 0 0, .ptr 18 0 0, .agg [.int .i64 k, .int .i64 t, .bool ah]] ∧ TnW h bT bM d a n S ∧ Bnd d a n S ∧ DcW h bR md ma D A eD eA cD cA ∧ GoneS h ∧ D.length ≤ 900 ∧ A.length ≤ 900 ∧
  ∀ td ta eD eA cD cA, (td = 19 ∨ td = 21) → (ta = 20 ∨ ta = 22) → lstK R2 eD (actD md ma D A k t ah).D cD → lstK R2 eA (actD md ma D A k t ah).A cA → K (.ret (.bool ((actT d a n S k t ah).e == (actD md ma D A k t ah).e))) (HTW bT bM d a (actT d a n S k t ah).n (actT d a n S k t ah).S (HDc bR md ma td ta (actD md ma D A k t ah).D (actD md ma D A k t ah).A eD eA cD cA h)) nx
theorem sStep_ok : SpecOK Try.prog 10 sStep := specOK_imp (specOK_less sStep0_ok) <| by
  rintro args h nx K ⟨bT, bM, d, a, n, S, bR, md, ma, D, A, eD, eA, cD, cA, k, t, ah, rfl, H, hB, HD, hg, hD, hA, hk⟩
  refine ⟨bT, bM, d, a, n, S, bR, md, ma, D, A, eD, eA, cD, cA, k, t, ah, rfl, H, hB, HD, hg, hD, hA, fun h' td ta eD' eA' cD' cA' F hx => ?_⟩
  generalize (actT d a n S k t ah).n = n' at F hk
  generalize (actT d a n S k t ah).S = S' at F hk
  generalize (actT d a n S k t ah).e = eT at F hk ⊢
  generalize (actD md ma D A k t ah).D = D' at F hk
  generalize (actD md ma D A k t ah).A = A' at F hk
  generalize (actD md ma D A k t ah).e = eR at F hk ⊢
  have wd : td = 19 ∨ td = 21 := by rcases F.wd with ⟨h, _⟩ | ⟨h, _⟩ <;> simp [h]
  have wa : ta = 20 ∨ ta = 22 := by rcases F.wa with ⟨h, _⟩ | ⟨h, _⟩ <;> simp [h]
  obtain ⟨h'', hh⟩ : ∃ h'', h'' = HTW bT bM d a n' S' (HDc bR md ma td ta D' A' eD' eA' cD' cA' h) := ⟨_, rfl⟩
  have f8 : fd 8 h'' = .blk bT 1 4 (gTn d a n') 56 := by rw [hh]; rfl
  have f9 : fd 9 h'' = .mp bM (mpP S') := by rw [hh]; rfl
  have f18 : fd 18 h'' = .blk bR 1 4 (gDc td ta D'.length cD' A'.length cA' md ma) 48 := by rw [hh]; rfl
  have fdd : fd td h'' = eD' := by rw [hh, fd_HTW (by omega) (by omega), fd_cons, if_neg (by omega), fd_cons, if_pos rfl]
  have faa : fd ta h'' = eA' := by rw [hh, fd_HTW (by omega) (by omega), fd_cons, if_neg (by omega), fd_cons, if_neg (by omega), fd_cons, if_pos rfl]
  have fo : ∀ u, u ≠ 8 → u ≠ 9 → u ≠ 18 → u ≠ td → u ≠ ta → fd u h'' = fd u h := fun u u8 u9 u18 ud ua => by rw [hh, fd_HTW u8 u9, fd_HDc u18 ud ua]
  refine ⟨h'', nx, by rw [hh]; exact hk td ta eD' eA' cD' cA' wd wa F.ld F.la, fun u r er => ?_, fun u => ?_, flat_out (o := .ret (.bool _)) trivial⟩
  · by_cases q8 : u = 8
    · subst q8; rw [H.str] at er; rw [f8]; exact er
    by_cases q9 : u = 9
    · subst q9; rw [H.map] at er; rw [f9]; exact er
    by_cases q18 : u = 18
    · subst q18; rw [HD.str] at er; rw [f18]; exact er
    by_cases qd : u = td
    · subst qd
      rw [fdd]
      rcases F.wd with ⟨rfl, b⟩ | ⟨rfl, _⟩
      · rw [b]; exact er
      · rw [hg.d.2.1] at er; cases er
    by_cases qa : u = ta
    · subst qa
      rw [faa]
      rcases F.wa with ⟨rfl, b⟩ | ⟨rfl, _⟩
      · rw [b]; exact er
      · rw [hg.d.2.2] at er; cases er
    rw [fo u q8 q9 q18 qd qa]; exact er
  · by_cases q8 : u = 8
    · subst q8
      refine .inr ⟨by rw [f8, F.tn.str], .inr ?_⟩
      rw [F.tn.str]
      intro i c hi hc
      obtain rfl : i = 0 := by omega
      match c, hc with
      | 0, _ => exact tell_map (by rw [f9, F.tn.map])
      | 1, _ => exact tell_flat trivial
      | 2, _ => exact tell_flat trivial
      | 3, _ => exact tell_flat trivial
    by_cases q9 : u = 9
    · subst q9
      refine .inr ⟨by rw [f9, F.tn.map], .inr ?_⟩
      rw [F.tn.map]; trivial
    by_cases q18 : u = 18
    · subst q18
      refine .inr ⟨by rw [f18, F.str], .inr ?_⟩
      rw [F.str]
      intro i c hi hc
      obtain rfl : i = 0 := by omega
      match c, hc with
      | 0, _ => exact tell_slice (by rw [fdd, F.dd])
      | 1, _ => exact tell_slice (by rw [faa, F.aa])
      | 2, _ => exact tell_flat trivial
      | 3, _ => exact tell_flat trivial
    by_cases qd : u = td
    · subst qd
      refine .inr ⟨by rw [fdd, F.dd], .inr ?_⟩
      rw [F.dd]; exact F.ld.tellE
    by_cases qa : u = ta
    · subst qa
      refine .inr ⟨by rw [faa, F.aa], .inr ?_⟩
      rw [F.aa]; exact F.la.tellE
    have e0 := fo u q8 q9 q18 qd qa
    by_cases q50 : u = 50
    · subst q50; left; rw [e0]; exact hg.b
    by_cases q21 : u = 21
    · subst q21; left; rw [e0]; exact hg.d.2.1
    by_cases q22 : u = 22
    · subst q22; left; rw [e0]; exact hg.d.2.2
    by_cases q19 : u = 19
    · subst q19
      rcases F.wd with ⟨q, _⟩ | ⟨_, q⟩
      · exact absurd q.symm qd
      · exact .inr ⟨by rw [e0, q], .inl q⟩
    by_cases q20 : u = 20
    · subst q20
      rcases F.wa with ⟨q, _⟩ | ⟨_, q⟩
      · exact absurd q.symm qa
      · exact .inr ⟨by rw [e0, q], .inl q⟩
    have := F.kp u q8 q9 q18 q19 q20 q21 q22 q50
    exact .inr ⟨by rw [e0, this], .inl this⟩
end Go.Proofs.Ytgcnknhfphgfnaa.Sx

