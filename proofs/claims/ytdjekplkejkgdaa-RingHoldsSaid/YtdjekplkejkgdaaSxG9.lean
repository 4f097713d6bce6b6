import Derived.Test.YtdjekplkejkgdaaSxG8
/-
  The plain law of RingHolds.
-/
namespace Go.Proofs.Ytdjekplkejkgdaa.Sx
open Go Go.Proofs
set_option maxRecDepth 100000
set_option linter.unusedSimpArgs false
set_option linter.unusedVariables false

/-- So many of the first j lie in a list. -/
def inB (m : Md) (i : Nat) : Bool := (m.at i).isSome
def cntIn (m : Md) (j : Nat) : Nat := ((List.range j).filter (inB m)).length
theorem cntIn_yes {m : Md} {j : Nat} (h : inB m j = true) : cntIn m (j + 1) = cntIn m j + 1 := by simp [cntIn, List.range_succ, h]
theorem cntIn_no {m : Md} {j : Nat} (h : inB m j = false) : cntIn m (j + 1) = cntIn m j := by simp [cntIn, List.range_succ, h]
theorem cntIn_le {m : Md} : ∀ {j n : Nat}, j ≤ n → cntIn m j ≤ cntIn m n
  | j, n, h => by
    obtain ⟨d, rfl⟩ : ∃ d, n = j + d := ⟨n - j, by omega⟩
    clear h
    induction d with
    | zero => exact Nat.le_refl _
    | succ d ih =>
      have : cntIn m (j + (d + 1)) = cntIn m ((j + d) + 1) := rfl
      rw [this]
      cases q : inB m (j + d) with
      | true => rw [cntIn_yes q]; omega
      | false => rw [cntIn_no q]; exact ih
theorem inB_iff {m : Md} {i : Nat} : inB m i = true ↔ i ∈ m.L 0 ∨ i ∈ m.L 1 := by
  unfold inB
  cases e : m.at i with
  | none =>
    have h := Md.at_none e
    simp [h.1, h.2]
  | some q =>
    have h := Md.at_some e
    have hq : q = 0 ∨ q = 1 := by omega
    rcases hq with rfl | rfl
    · simp [h.2]
    · simp [h.2]
theorem same_len {a b : List Nat} (ha : a.Nodup) (hb : b.Nodup) (h : ∀ i, i ∈ a ↔ i ∈ b) : a.length = b.length :=
  (((List.perm_ext_iff_of_nodup ha hb).2 h)).length_eq
theorem Inv.cnt {s : Sh} {m : Md} (h : Inv s m m.n) : cntIn m m.n = (m.L 0).length + (m.L 1).length := by
  have e := h.nd
  rw [← List.length_append]
  unfold cntIn
  refine same_len (List.nodup_range.filter _) e fun i => ?_
  rw [List.mem_filter, List.mem_range, List.mem_append, inB_iff]
  refine ⟨fun q => q.2, fun q => ⟨?_, q⟩⟩
  rcases q with q | q
  · exact h.lt 0 (by omega) i q
  · exact h.lt 1 (by omega) i q

/-- The j-th of a list lies there, low just if it is among the last. -/
theorem ix_at {l : List Nat} (hn : l.Nodup) : ∀ {j : Nat} (hj : j < l.length), ix l[j] l = j := by
  induction l with
  | nil => intro j hj; simp at hj
  | cons x l ih =>
    intro j hj
    obtain ⟨h1, h2⟩ := List.nodup_cons.1 hn
    cases j with
    | zero => simp [ix]
    | succ j =>
      have hj' : j < l.length := by simpa using hj
      simp only [List.getElem_cons_succ]
      unfold ix
      rw [if_neg (fun q => h1 (by have := List.getElem_mem hj'; rw [← q] at this; exact this)), ih h2 hj']
theorem Inv.whAt {s : Sh} {m : Md} (h : Inv s m m.n) {q : Nat} (hq : q < 2) {j : Nat} (hj : j < (m.L q).length) : m.whI ((m.L q)[j] : Nat) = ((q : Int), decide ((m.L q).length ≤ j + m.b), true) := by
  have hm := List.getElem_mem hj
  have hat : m.at (m.L q)[j] = some q := by
    cases e : m.at (m.L q)[j] with
    | none =>
      have h0 := Md.at_none e
      rcases (show q = 0 ∨ q = 1 by omega) with rfl | rfl
      · exact absurd hm h0.1
      · exact absurd hm h0.2
    | some q' =>
      have h0 := Md.at_some e
      by_cases w : q = q'
      · rw [w]
      · exact absurd h0.2 (h.other hq h0.1 w hm)
  have hN : m.isN ((m.L q)[j] : Nat) = true := by
    have := h.lt q hq _ hm
    unfold Md.isN; simp; omega
  have hl : m.lies ((m.L q)[j] : Nat) = 0 := by unfold Md.lies; rw [if_neg (by rw [hN]; decide), Int.toNat_natCast, hat, if_neg (by simp)]
  unfold Md.whI
  rw [if_pos hl, Int.toNat_natCast, hat]
  show ((q : Int), m.low q (m.L q)[j], true) = _
  unfold Md.low
  rw [ix_at (h.nq hq) hj]
theorem Inv.whIn {s : Sh} {m : Md} (h : Inv s m m.n) {j : Nat} (hj : j < m.n) : (m.whI (j : Nat)).2.2 = inB m j := by
  have hN : m.isN (j : Nat) = true := by unfold Md.isN; simp; omega
  unfold Md.whI inB
  cases e : m.at j with
  | none =>
    have hl : m.lies (j : Nat) = 3 := by unfold Md.lies; rw [if_neg (by rw [hN]; decide), Int.toNat_natCast, e, if_pos rfl]
    rw [if_neg (by rw [hl]; decide)]
    rfl
  | some q =>
    have hl : m.lies (j : Nat) = 0 := by unfold Md.lies; rw [if_neg (by rw [hN]; decide), Int.toNat_natCast, e, if_neg (by simp)]
    rw [if_pos hl, Int.toNat_natCast, e]
    rfl
theorem not_before {l : List Nat} (hn : l.Nodup) {j : Nat} (hj : j < l.length) : l[j] ∉ l.take j := by
  have e : l = l.take j ++ l[j] :: l.drop (j + 1) := by rw [List.getElem_cons_drop, List.take_append_drop]
  rw [e] at hn
  intro q
  exact (List.nodup_append.1 hn).2.2 _ q _ (List.mem_cons_self ..) rfl
theorem lastN_mem {H : Nat → Bool} : ∀ {l : List Nat}, (lastN H l).2 = true → ∃ x : Nat, (lastN H l).1 = x ∧ x ∈ l ∧ H x = false
  | [], h => by cases h
  | x :: l, h => by
    unfold lastN at h ⊢
    by_cases q : H x = false
    · rw [if_pos q]
      exact ⟨x, rfl, List.mem_cons_self .., q⟩
    · rw [if_neg q] at h ⊢
      obtain ⟨y, h1, h2, h3⟩ := lastN_mem h
      exact ⟨y, h1, List.mem_cons_of_mem _ h2, h3⟩
theorem Md.last_ok {m : Md} {q : Nat} (hq : q < 2) (h : (m.lastI q).2 = true) : ∃ x : Nat, (m.lastI q).1 = x ∧ x ∈ m.L q ∧ x ∉ m.held := by
  have hr : rightB (q : Int) = true := by unfold rightB; simp; omega
  unfold Md.lastI at h ⊢
  rw [if_pos hr, Int.toNat_natCast] at h ⊢
  obtain ⟨x, h1, h2, h3⟩ := lastN_mem h
  exact ⟨x, h1, List.mem_reverse.1 h2, fun w => by unfold Md.held at w; rw [List.mem_filter, h3] at w; cases w.2⟩
end Go.Proofs.Ytdjekplkejkgdaa.Sx

/-
  The walks of this seat's laws: RingHolds.
-/
namespace Go.Proofs.Ytdjekplkejkgdaa.Sx
open Go Go.Proofs
set_option maxRecDepth 100000
set_option linter.unusedSimpArgs false
set_option linter.unusedVariables false

def SP4 : SpT := [(8, sAwake), (9, mNew), (11, sRNew), (12, sStep), (14, mList), (15, mWhere), (16, sFind), (17, mLast), (18, mHeld), (19, mLen)]
theorem sp4s : ∀ p ∈ SP4, SpecOK Try.prog p.1 p.2 := consSP sAwake_ok (consSP mNew_ok (consSP sRNew_ok (consSP sStep_ok (consSP mList_ok (consSP mWhere_ok (consSP sFind_ok (consSP mLast_ok (consSP mHeld_ok (consSP mLen_ok noSP)))))))))
/-- So many lie in the first q lists. -/
def sumL (m : Md) : Nat → Nat
  | 0 => 0
  | q + 1 => sumL m q + (m.L q).length
abbrev B4 (len cap n sz i : Nat) : Sl := [(2, .slice 2000 0 len cap), (7, .int .i64 n), (8, .int .i64 sz), (9, .ptr 1 0 0), (11, .int .i64 i)]

set_option maxHeartbeats 4000000 in
theorem law4_walk {c : Cx} (hc : c.P = Try.prog) {a a2 : Int} (ha : 0 ≤ a ∧ a ≤ 255) (ha2 : 0 ≤ a2 ∧ a2 ≤ 255) {b : Option Addr} {len cap : Nat} {z : Nat → Nat → Int} {p : Nat → Nat → Bool} (hlen : len ≤ 9223372036854775807) :
    ∃ cd, Try.f4.body = some cd ∧ W ⟨c, Try.f4, T, SP4, fun o _ _ => o = .ret (.bool true)⟩ [.code cd] (argsS [.int .u8 a, .int .u8 a2, .slice 2000 0 len cap] 0) [(2000, .ro b len 3 (gMix ckA z p))] 0 := by
  refine ⟨_, rfl, ?_⟩
  have hE := mkE' (fn := Try.f4) (R := fun o x x_1 => o = .ret (.bool true)) hc sp4s
  have ew : ∀ {τ : Nat → Nat} {h' : Hp}, wkE τ h' (.ro b len 3 (gMix ckA z p)) (.ro b len 3 (gMix ckA z p)) := ⟨rfl, rfl, rfl, fun i c hi hc => ⟨rfl, rfl⟩⟩
  refine W_seq (nx := 0) ?_
  refine W_to (nx := 0) [(0, .int .u8 a), (1, .int .u8 a2), (2, .slice 2000 0 len cap)] [(2000, .ro b len 3 (gMix ckA z p))] 30 ?_ ?_
  · refine vc_sound hE 20 _ _ _ 30 ?_
    exact ⟨tau [], rfl, (by repeat' (first | exact rfl | exact trivial | assumption | refine ⟨?_, ?_⟩)), ew, trivial⟩
  refine W_seq (nx := 30) ?_
  refine W_to (nx := 30) [(0, .int .u8 a), (1, .int .u8 a2), (2, .slice 2000 0 len cap)] [(2000, .ro b len 3 (gMix ckA z p))] 30 ?_ ?_
  · refine vc_sound hE 20 _ _ _ 30 ?_
    refine ⟨rfl, ?_⟩
    exact ⟨tau [], rfl, (by repeat' (first | exact rfl | exact trivial | assumption | refine ⟨?_, ?_⟩)), ew, trivial⟩
  obtain ⟨n, hn, hn1, hn2⟩ : ∃ n : Nat, IntKind.i64.wrap (1 + (IntKind.i64.wrap a).tmod 64) = (n : Int) ∧ 1 ≤ n ∧ n ≤ 64 := by
    have e1 : IntKind.i64.wrap a = a := by simp [IntKind.wrap_i64]; omega
    have e2 : a.tmod 64 = a % 64 := Int.tmod_eq_emod_of_nonneg ha.1
    rw [e1, e2]
    refine ⟨(1 + a % 64).toNat, ?_, ?_, ?_⟩
    · simp [IntKind.wrap_i64]; omega
    · omega
    · omega
  refine W_seq (nx := 30) ?_
  refine W_to (nx := 30) [(1, .int .u8 a2), (2, .slice 2000 0 len cap), (7, .int .i64 n)] [(2000, .ro b len 3 (gMix ckA z p))] 30 ?_ ?_
  · refine vc_sound hE 30 _ _ _ 30 ?_
    exact ⟨tau [], rfl, (by repeat' (first | exact rfl | exact trivial | assumption | refine ⟨?_, ?_⟩)), ew, trivial⟩
  obtain ⟨sz, hsz, hs1, hs2⟩ : ∃ sz : Nat, IntKind.i64.wrap (1 + IntKind.i64.wrap ((IntKind.i64.wrap a2).tmod n)) = (sz : Int) ∧ 1 ≤ sz ∧ sz ≤ n := by
    have e1 : IntKind.i64.wrap a2 = a2 := by simp [IntKind.wrap_i64]; omega
    have e2 : a2.tmod n = a2 % n := Int.tmod_eq_emod_of_nonneg ha2.1
    have e3 : 0 ≤ a2 % n := Int.emod_nonneg _ (by omega)
    have e4 : a2 % n < n := Int.emod_lt_of_pos _ (by omega)
    have e5 : IntKind.i64.wrap (a2 % n) = a2 % n := by simp only [IntKind.wrap_i64]; omega
    rw [e1, e2, e5]
    refine ⟨(1 + a2 % n).toNat, ?_, ?_, ?_⟩
    · simp only [IntKind.wrap_i64]; omega
    · omega
    · omega
  refine W_seq (nx := 30) ?_
  refine W_to (nx := 30) [(2, .slice 2000 0 len cap), (7, .int .i64 n), (8, .int .i64 sz)] [(2000, .ro b len 3 (gMix ckA z p))] 30 ?_ ?_
  · refine vc_sound hE 30 _ _ _ 30 ?_
    (refine (?_ : chk _ _); refine chk_ok (show (!(decide ((n : Int) = 0))) = true by rw [decide_eq_false (by omega)]; rfl) ?_)
    have hsz' : IntKind.i64.wrap (1 + (IntKind.i64.wrap a2).tmod n) = (sz : Int) := by
      have e1 : IntKind.i64.wrap a2 = a2 := by simp [IntKind.wrap_i64]; omega
      have e2 : a2.tmod n = a2 % n := Int.tmod_eq_emod_of_nonneg ha2.1
      have e3 : 0 ≤ a2 % n := Int.emod_nonneg _ (by omega)
      have e4 : a2 % n < n := Int.emod_lt_of_pos _ (by omega)
      have e5 : IntKind.i64.wrap (a2 % n) = a2 % n := by simp only [IntKind.wrap_i64]; omega
      rw [e1, e2, e5] at hsz
      rw [e1, e2]; exact hsz
    exact ⟨tau [], rfl, (by repeat' (first | exact rfl | exact trivial | assumption | refine ⟨?_, ?_⟩)), ew, trivial⟩
  have hmay : mayB n sz = true := by unfold mayB; simp only [Bool.and_eq_true, decide_eq_true_eq]; omega
  refine W_seq (nx := 30) ?_
  refine W_ex (nx := 30) (fun (a : Nat × Nat × Sh) => Inv a.2.2 (Md.new n sz) n) (fun a => [(2, .slice 2000 0 len cap), (7, .int .i64 n), (8, .int .i64 sz), (9, .ptr 1 0 0)]) (fun a => H7 a.1 a.2.1 a.2.2 b len z p) 30 ?_ ?_
  · refine vc_sound hE 30 _ _ _ 30 ?_
    refine ⟨n, sz, rfl, rfl, rfl, fun e => (by rw [hmay] at e; cases e), fun _ bS bA s hN hi => ?_⟩
    exact ⟨(bS, bA, s), hi, tau [(1, 30), (2, 31)], rfl, (by repeat' (first | exact rfl | exact trivial | assumption | refine ⟨?_, ?_⟩)), ⟨eS_wk ⟨rfl, trivial⟩, eA_wk rfl, ew, trivial⟩⟩
  rintro ⟨bS, bA, s⟩ hi
  refine W_seq (nx := 30) ?_
  refine W_to (nx := 30) [(2, .slice 2000 0 len cap), (7, .int .i64 n), (8, .int .i64 sz), (9, .ptr 1 0 0)] (H7 bS bA s b len z p) 30 ?_ ?_
  · refine vc_sound hE 30 _ _ _ 30 ?_
    exact ⟨tau [], rfl, (by repeat' (first | exact rfl | exact trivial | assumption | refine ⟨?_, ?_⟩)), eS_wk ⟨rfl, trivial⟩, eA_wk rfl, ew, trivial⟩
  -- the script
  refine W_seq (nx := 30) ?_
  refine W_ex (nx := 30) (fun (a : Sh × Md) => Inv a.1 a.2 a.2.n ∧ a.2.n = n) (fun _ => [(7, .int .i64 n), (9, .ptr 1 0 0)]) (fun a => [(1, eS bS a.1), (2, eA bA a.1)]) 30 ?_ ?_
  · refine vc_sound hE 8 _ _ _ 30 ?_
    refine W_loop (fun r σ h => ∃ (j : Nat) (s : Sh) (m : Md), r = len - j ∧ j ≤ len ∧ Inv s m m.n ∧ m.n = n ∧ m.b = sz ∧ σ = B4 len cap n sz j ∧ h = H7 bS bA s b len z p)
      len ⟨0, s, Md.new n sz, rfl, by omega, hi, rfl, rfl, rfl, rfl⟩ (tau []) ⟨rfl, (by repeat' (first | exact rfl | exact trivial | assumption | refine ⟨?_, ?_⟩)), eS_wk ⟨rfl, trivial⟩, eA_wk rfl, ew, trivial⟩ 30 ?_
    clear hi s
    rintro r σ h ⟨j, s, m, rfl, hj, hi, hmn, hmb, rfl, rfl⟩
    refine vc_sound hE 1 _ _ _ 30 ?_
    refine W_piece (nx := 30) (fun σ1 h1 _ => j < len ∧ ∃ τ, wk τ σ1 h1 (B4 len cap n sz j) (H7 bS bA s b len z p)) ?_ ?_
    · refine vc_sound hE 60 _ _ _ 30 ?_
      have fin : ∀ σ1 h1, (wk (tau []) σ1 h1 [(7, .int .i64 n), (9, .ptr 1 0 0)] [(1, eS bS s), (2, eA bA s)]) → ∃ a : Sh × Md, (Inv a.1 a.2 a.2.n ∧ a.2.n = n) ∧ ∃ τ, wk τ σ1 h1 [(7, .int .i64 n), (9, .ptr 1 0 0)] [(1, eS bS a.1), (2, eA bA a.1)] := fun σ1 h1 hw => ⟨(s, m), ⟨hi, hmn⟩, _, hw⟩
      (refine (?_ : br _ _ _); refine br_dec (fun q => ?_) (fun q => ?_))
      · have q : (j : Int) < len := q
        (refine (?_ : br _ _ _); refine br_dec (fun q => ?_) (fun q => ?_))
        · exact ⟨by omega, tau [], rfl, (by repeat' (first | exact rfl | exact trivial | assumption | refine ⟨?_, ?_⟩)), eS_wk ⟨rfl, trivial⟩, eA_wk rfl, ew, trivial⟩
        · exact fin _ _ ⟨rfl, (by repeat' (first | exact rfl | exact trivial | assumption | refine ⟨?_, ?_⟩)), eS_wk ⟨rfl, trivial⟩, eA_wk rfl, trivial⟩
      · exact fin _ _ ⟨rfl, (by repeat' (first | exact rfl | exact trivial | assumption | refine ⟨?_, ?_⟩)), eS_wk ⟨rfl, trivial⟩, eA_wk rfl, trivial⟩
    rintro σ1 h1 _ ⟨hjl, τ1, hw1⟩
    refine W_weak (nx' := 30) τ1 hw1 ?_
    clear hw1 σ1 h1 τ1
    refine vc_sound hE 2 _ _ _ 30 ?_
    refine W_seq (nx := 30) ?_
    refine W_ex (nx := 30) (fun (a : Sh × Md) => Inv a.1 a.2 a.2.n ∧ a.2.n = n ∧ a.2.b = sz) (fun _ => B4 len cap n sz j) (fun a => H7 bS bA a.1 b len z p) 30 ?_ ?_
    · have hz : addI 0 j = j := by rw [addI_eq, Nat.zero_add]
      refine W_planw hE 31 [3, 8] (.take 0 (.take 1 (.take 2 (.take 4 (.take 5 (.all (.cons 3 (.all (.cons 6 (.all (.cons 7 (.all (.cons 8 (.done) (.nil))) (.nil))) (.nil))) (.cons 6 (.all (.cons 3 (.all (.cons 7 (.all (.cons 8 (.done) (.nil))) (.nil))) (.cons 7 (.all (.cons 3 (.all (.cons 8 (.done) (.nil))) (.nil))) (.nil)))) (.nil))))))))) (by rw [hc]; exact mix) (by kernel_rfl) 30 ?_
      repeat' (first | refine ⟨_, ⟨rfl, rfl⟩, ?_⟩ | fail)
      have hT : addI 0 ((j : Int)).toNat = j := by rw [Int.toNat_natCast]; exact hz
      refine ⟨⟨trivial, ?_⟩, ⟨?_, ?_⟩, trivial⟩
      · skip
        refine ⟨n, sz, rfl, by omega, rfl, rfl, rfl, rfl, fun bR bH => ?_⟩
        refine ⟨⟨?_, ?_⟩, trivial⟩
        · (refine (?_ : chk _ _); refine chk_ok (show (decide ((0 : Int) ≤ (j : Int)) && decide ((j : Int) < (len : Int))) = true by simp only [Bool.and_eq_true, decide_eq_true_eq]; omega) ?_)
          (refine (?_ : chk _ _); refine chk_ok rfl ?_)
          exact trivial
        · (refine (?_ : chk _ _); refine chk_ok (show (decide ((0 : Int) ≤ (j : Int)) && decide ((j : Int) < (len : Int))) = true by simp only [Bool.and_eq_true, decide_eq_true_eq]; omega) ?_)
          (refine (?_ : chk _ _); refine chk_ok rfl ?_)
          refine ⟨⟨?_, ?_⟩, trivial⟩
          · (refine (?_ : chk _ _); refine chk_ok (Nat.ble_eq_true_of_le (show addI 0 ((j : Int)).toNat * 3 + 0 + 3 ≤ len * 3 by rw [hT]; omega)) ?_)
            exact trivial
          · (refine (?_ : chk _ _); refine chk_ok (Nat.ble_eq_true_of_le (show addI 0 ((j : Int)).toNat * 3 + 0 + 3 ≤ len * 3 by rw [hT]; omega)) ?_)
            refine ⟨⟨trivial, ?_⟩, trivial⟩
            refine ⟨s, 1, 2, bS, bA, _, _, m, 31, 32, 33, 34, bR, bH, .ro none 0 1 (gl []), .ro none 0 1 (gl []), 0, 0, _, _, Md.new n sz, _, _, _, rfl, hi, Ok.new hmay, rfl, rfl, ⟨fun c _ => rfl, fun i c _ _ => rfl⟩, ⟨rfl, rfl, rfl, fun c _ => rfl, .inl rfl, .inl ⟨rfl, rfl, rfl⟩, .inl rfl, .inl ⟨rfl, rfl, rfl⟩, rfl, fun i _ => rfl⟩, rfl, rfl, rfl, ?_⟩
            rintro s' t0' E0 c0' t1' E1 c1' hN hi' - -
            have hnn := (step_nb (m := m) (kd := z (addI 0 ((j : Int)).toNat) 0) (L := z (addI 0 ((j : Int)).toNat) 1) (k := z (addI 0 ((j : Int)).toNat) 2))
            exact ⟨(s', m.step (z (addI 0 ((j : Int)).toNat) 0) (z (addI 0 ((j : Int)).toNat) 1) (z (addI 0 ((j : Int)).toNat) 2)), ⟨hi', hnn.1.trans hmn, hnn.2.trans hmb⟩, tau [], rfl, (by repeat' (first | exact rfl | exact trivial | assumption | refine ⟨?_, ?_⟩)), eS_wk ⟨rfl, trivial⟩, eA_wk hN, ew, trivial⟩
      · (refine (?_ : chk _ _); refine chk_ok (show (decide ((0 : Int) ≤ (j : Int)) && decide ((j : Int) < (len : Int))) = true by simp only [Bool.and_eq_true, decide_eq_true_eq]; omega) ?_)
        (refine (?_ : chk _ _); refine chk_ok rfl ?_)
        exact trivial
      · (refine (?_ : chk _ _); refine chk_ok (show (decide ((0 : Int) ≤ (j : Int)) && decide ((j : Int) < (len : Int))) = true by simp only [Bool.and_eq_true, decide_eq_true_eq]; omega) ?_)
        (refine (?_ : chk _ _); refine chk_ok rfl ?_)
        refine ⟨⟨trivial, ?_⟩, ⟨?_, ?_⟩, trivial⟩
        · skip
          refine ⟨n, sz, rfl, by omega, rfl, rfl, rfl, rfl, fun bR bH => ?_⟩
          refine ⟨⟨?_, ?_⟩, trivial⟩
          · (refine (?_ : chk _ _); refine chk_ok (Nat.ble_eq_true_of_le (show addI 0 ((j : Int)).toNat * 3 + 0 + 3 ≤ len * 3 by rw [hT]; omega)) ?_)
            exact trivial
          · (refine (?_ : chk _ _); refine chk_ok (Nat.ble_eq_true_of_le (show addI 0 ((j : Int)).toNat * 3 + 0 + 3 ≤ len * 3 by rw [hT]; omega)) ?_)
            refine ⟨⟨trivial, ?_⟩, trivial⟩
            refine ⟨s, 1, 2, bS, bA, _, _, m, 31, 32, 33, 34, bR, bH, .ro none 0 1 (gl []), .ro none 0 1 (gl []), 0, 0, _, _, Md.new n sz, _, _, _, rfl, hi, Ok.new hmay, rfl, rfl, ⟨fun c _ => rfl, fun i c _ _ => rfl⟩, ⟨rfl, rfl, rfl, fun c _ => rfl, .inl rfl, .inl ⟨rfl, rfl, rfl⟩, .inl rfl, .inl ⟨rfl, rfl, rfl⟩, rfl, fun i _ => rfl⟩, rfl, rfl, rfl, ?_⟩
            rintro s' t0' E0 c0' t1' E1 c1' hN hi' - -
            have hnn := (step_nb (m := m) (kd := z (addI 0 ((j : Int)).toNat) 0) (L := z (addI 0 ((j : Int)).toNat) 1) (k := z (addI 0 ((j : Int)).toNat) 2))
            exact ⟨(s', m.step (z (addI 0 ((j : Int)).toNat) 0) (z (addI 0 ((j : Int)).toNat) 1) (z (addI 0 ((j : Int)).toNat) 2)), ⟨hi', hnn.1.trans hmn, hnn.2.trans hmb⟩, tau [], rfl, (by repeat' (first | exact rfl | exact trivial | assumption | refine ⟨?_, ?_⟩)), eS_wk ⟨rfl, trivial⟩, eA_wk hN, ew, trivial⟩
        · (refine (?_ : chk _ _); refine chk_ok (Nat.ble_eq_true_of_le (show addI 0 ((j : Int)).toNat * 3 + 0 + 3 ≤ len * 3 by rw [hT]; omega)) ?_)
          exact trivial
        · (refine (?_ : chk _ _); refine chk_ok (Nat.ble_eq_true_of_le (show addI 0 ((j : Int)).toNat * 3 + 0 + 3 ≤ len * 3 by rw [hT]; omega)) ?_)
          refine ⟨⟨trivial, ?_⟩, trivial⟩
          refine ⟨n, sz, rfl, by omega, rfl, rfl, rfl, rfl, fun bR bH => ?_⟩
          refine ⟨⟨trivial, ?_⟩, trivial⟩
          refine ⟨s, 1, 2, bS, bA, _, _, m, 31, 32, 33, 34, bR, bH, .ro none 0 1 (gl []), .ro none 0 1 (gl []), 0, 0, _, _, Md.new n sz, _, _, _, rfl, hi, Ok.new hmay, rfl, rfl, ⟨fun c _ => rfl, fun i c _ _ => rfl⟩, ⟨rfl, rfl, rfl, fun c _ => rfl, .inl rfl, .inl ⟨rfl, rfl, rfl⟩, .inl rfl, .inl ⟨rfl, rfl, rfl⟩, rfl, fun i _ => rfl⟩, rfl, rfl, rfl, ?_⟩
          rintro s' t0' E0 c0' t1' E1 c1' hN hi' - -
          have hnn := (step_nb (m := m) (kd := z (addI 0 ((j : Int)).toNat) 0) (L := z (addI 0 ((j : Int)).toNat) 1) (k := z (addI 0 ((j : Int)).toNat) 2))
          exact ⟨(s', m.step (z (addI 0 ((j : Int)).toNat) 0) (z (addI 0 ((j : Int)).toNat) 1) (z (addI 0 ((j : Int)).toNat) 2)), ⟨hi', hnn.1.trans hmn, hnn.2.trans hmb⟩, tau [], rfl, (by repeat' (first | exact rfl | exact trivial | assumption | refine ⟨?_, ?_⟩)), eS_wk ⟨rfl, trivial⟩, eA_wk hN, ew, trivial⟩
    clear hi
    rintro ⟨s, m⟩ ⟨hi, hmn, hmb⟩
    have hi : Inv s m m.n := hi
    have hmn : m.n = n := hmn
    have hmb : m.b = sz := hmb
    have hll : ∀ q, q < 2 → (cI (m.L q)).length ≤ n := fun q hq => by rw [cI_len, ← hmn]; exact hi.lenq hq
    have hsum : (m.L 0).length + (m.L 1).length ≤ n := by rw [← hmn]; exact hi.len
    have hs2 : sumL m 2 = (m.L 0).length + (m.L 1).length := by simp [sumL]
    have hsle : ∀ q, q ≤ 2 → sumL m q ≤ n := fun q hq => by
      rcases (show q = 0 ∨ q = 1 ∨ q = 2 by omega) with rfl | rfl | rfl <;> simp only [sumL] <;> omega
    refine W_seq (nx := 30) ?_
    refine W_to (nx := 30) [(2, .slice 2000 0 len cap), (7, .int .i64 n), (8, .int .i64 sz), (9, .ptr 1 0 0), (11, .int .i64 j), (12, .int .i64 (sumL m 0 : Nat))] (H7 bS bA s b len z p) 30 ?_ ?_
    · refine vc_sound hE 60 _ _ _ 30 ?_
      exact ⟨tau [], rfl, (by repeat' (first | exact rfl | exact trivial | assumption | refine ⟨?_, ?_⟩)), eS_wk ⟨rfl, trivial⟩, eA_wk rfl, ew, trivial⟩
    -- both lists
    refine W_seq (nx := 30) ?_
    refine W_to (nx := 30) [(2, .slice 2000 0 len cap), (7, .int .i64 n), (8, .int .i64 sz), (9, .ptr 1 0 0), (11, .int .i64 j), (12, .int .i64 (sumL m 2 : Nat))] (H7 bS bA s b len z p) 30 ?_ ?_
    · refine vc_sound hE 8 _ _ _ 30 ?_
      refine W_loop (fun r σ h => ∃ (q : Nat) (Q M : Int), r = 2 - q ∧ q ≤ 2 ∧ Q = q ∧ M = (sumL m q : Nat) ∧ σ = [(2, .slice 2000 0 len cap), (7, .int .i64 n), (8, .int .i64 sz), (9, .ptr 1 0 0), (11, .int .i64 j), (12, .int .i64 M), (13, .int .i64 Q)] ∧ h = H7 bS bA s b len z p)
        2 ⟨0, 0, _, rfl, by omega, rfl, rfl, rfl, rfl⟩ (tau []) ⟨rfl, (by repeat' (first | exact rfl | exact trivial | assumption | refine ⟨?_, ?_⟩)), eS_wk ⟨rfl, trivial⟩, eA_wk rfl, ew, trivial⟩ 30 ?_
      rintro r σ h ⟨q, Q, M, rfl, hq, hQ, hM, rfl, rfl⟩
      refine vc_sound hE 1 _ _ _ 30 ?_
      refine W_piece (nx := 30) (fun σ1 h1 _ => q < 2 ∧ ∃ τ, wk τ σ1 h1 [(2, .slice 2000 0 len cap), (7, .int .i64 n), (8, .int .i64 sz), (9, .ptr 1 0 0), (11, .int .i64 j), (12, .int .i64 M), (13, .int .i64 Q)] (H7 bS bA s b len z p)) ?_ ?_
      · refine vc_sound hE 60 _ _ _ 30 ?_
        (refine (?_ : br _ _ _); refine br_dec (fun q => ?_) (fun q => ?_))
        · have q1 : Q < 2 := q
          exact ⟨by omega, tau [], rfl, (by repeat' (first | exact rfl | exact trivial | assumption | refine ⟨?_, ?_⟩)), eS_wk ⟨rfl, trivial⟩, eA_wk rfl, ew, trivial⟩
        · have q1 : ¬ Q < 2 := q
          have e2 : M = (sumL m 2 : Nat) := by rw [hM, show sumL m _ = sumL m 2 from congrArg (sumL m) (by omega)]
          exact ⟨tau [], rfl, (by repeat' (first | exact rfl | exact trivial | assumption | refine ⟨?_, ?_⟩)), eS_wk ⟨rfl, trivial⟩, eA_wk rfl, ew, trivial⟩
      rintro σ1 h1 _ ⟨hq2, τ1, hw1⟩
      refine W_weak (nx' := 30) τ1 hw1 ?_
      clear hw1 σ1 h1 τ1
      refine vc_sound hE 2 _ _ _ 30 ?_
      have hiQ : m.listI Q = m.L q := by rw [hQ]; exact listI_nat hq2
      obtain ⟨l, hl⟩ : ∃ l, l = m.L q := ⟨_, rfl⟩
      have hlq := hll q hq2
      have hnd : l.Nodup := by rw [hl]; exact hi.nq hq2
      rw [← hl] at hiQ hlq
      -- the list
      refine W_seq (nx := 30) ?_
      refine W_ex (nx := 30) (fun (a : Ent × Nat) => lstE a.1 (cI l) a.2) (fun a => [(2, .slice 2000 0 len cap), (7, .int .i64 n), (8, .int .i64 sz), (9, .ptr 1 0 0), (11, .int .i64 j), (12, .int .i64 M), (13, .int .i64 Q), (14, .slice 3 0 (cI l).length a.2)]) (fun a => [(1, eS bS s), (2, eA bA s), (2000, .ro b len 3 (gMix ckA z p)), (3, a.1)]) 30 ?_ ?_
      · refine vc_sound hE 60 _ _ _ 30 ?_
        refine ⟨_, m, Q, rfl, hi.mS rfl rfl, rfl, fun e1 cp1 hl1 => ?_⟩
        rw [hiQ] at hl1 ⊢
        have hl3 : live [(1, eS bS s), (2, eA bA s), (2000, .ro b len 3 (gMix ckA z p)), (3, e1)] 3 := lst_live hl1
        exact ⟨(e1, cp1), hl1, tau [(3, 30)], rfl, (by repeat' (first | exact rfl | exact trivial | assumption | refine ⟨?_, ?_⟩)), eS_wk ⟨rfl, trivial⟩, eA_wk rfl, ew, lst_wk hl1 _ _, trivial⟩
      rintro ⟨e, cp⟩ hl1
      have hl1 : lstE e (cI l) cp := hl1
      have hl3 : live [(1, eS bS s), (2, eA bA s), (2000, .ro b len 3 (gMix ckA z p)), (3, e)] 3 := lst_live hl1
      have hcap : (cI l).length ≤ cp := lst_cap hl1
      have hll' : (cI l).length = l.length := cI_len _
      refine W_seq (nx := 30) ?_
      refine W_to (nx := 30) [(2, .slice 2000 0 len cap), (7, .int .i64 n), (8, .int .i64 sz), (9, .ptr 1 0 0), (11, .int .i64 j), (12, .int .i64 M), (13, .int .i64 Q), (14, .slice 3 0 (cI l).length cp), (15, .int .i64 0)] [(1, eS bS s), (2, eA bA s), (2000, .ro b len 3 (gMix ckA z p)), (3, e)] 30 ?_ ?_
      · refine vc_sound hE 60 _ _ _ 30 ?_
        exact ⟨tau [], rfl, (by repeat' (first | exact rfl | exact trivial | assumption | refine ⟨?_, ?_⟩)), eS_wk ⟨rfl, trivial⟩, eA_wk rfl, ew, lst_wk hl1 _ _, trivial⟩
      -- node by node
      refine W_seq (nx := 30) ?_
      refine W_to (nx := 30) [(2, .slice 2000 0 len cap), (7, .int .i64 n), (8, .int .i64 sz), (9, .ptr 1 0 0), (11, .int .i64 j), (12, .int .i64 M), (13, .int .i64 Q), (14, .slice 3 0 (cI l).length cp), (15, .int .i64 (l.length - (l.length - sz) : Nat))] [(1, eS bS s), (2, eA bA s), (2000, .ro b len 3 (gMix ckA z p)), (3, e)] 30 ?_ ?_
      · refine vc_sound hE 8 _ _ _ 30 ?_
        refine W_loop (fun r σ h => ∃ (i : Nat) (C : Int), r = l.length - i ∧ i ≤ l.length ∧ C = (i - (l.length - sz) : Nat) ∧ σ = [(2, .slice 2000 0 len cap), (7, .int .i64 n), (8, .int .i64 sz), (9, .ptr 1 0 0), (11, .int .i64 j), (12, .int .i64 M), (13, .int .i64 Q), (14, .slice 3 0 (cI l).length cp), (15, .int .i64 C), (16, .int .i64 i)] ∧ h = [(1, eS bS s), (2, eA bA s), (2000, .ro b len 3 (gMix ckA z p)), (3, e)])
          l.length ⟨0, 0, rfl, by omega, by simp, rfl, rfl⟩ (tau []) ⟨rfl, (by repeat' (first | exact rfl | exact trivial | assumption | refine ⟨?_, ?_⟩)), eS_wk ⟨rfl, trivial⟩, eA_wk rfl, ew, lst_wk hl1 _ _, trivial⟩ 30 ?_
        rintro r σ h ⟨i, C, rfl, hil, hC, rfl, rfl⟩
        refine vc_sound hE 1 _ _ _ 30 ?_
        refine W_piece (nx := 30) (fun σ1 h1 _ => i < l.length ∧ ∃ τ, wk τ σ1 h1 [(2, .slice 2000 0 len cap), (7, .int .i64 n), (8, .int .i64 sz), (9, .ptr 1 0 0), (11, .int .i64 j), (12, .int .i64 M), (13, .int .i64 Q), (14, .slice 3 0 (cI l).length cp), (15, .int .i64 C), (16, .int .i64 i)] [(1, eS bS s), (2, eA bA s), (2000, .ro b len 3 (gMix ckA z p)), (3, e)]) ?_ ?_
        · refine vc_sound hE 60 _ _ _ 30 ?_
          (refine (?_ : br _ _ _); refine br_dec (fun q => ?_) (fun q => ?_))
          · have q1 : (i : Int) < ((cI l).length : Int) := q
            exact ⟨by omega, tau [], rfl, (by repeat' (first | exact rfl | exact trivial | assumption | refine ⟨?_, ?_⟩)), eS_wk ⟨rfl, trivial⟩, eA_wk rfl, ew, lst_wk hl1 _ _, trivial⟩
          · have q1 : ¬ (i : Int) < ((cI l).length : Int) := q
            obtain rfl : i = l.length := by omega
            exact ⟨tau [], rfl, (by repeat' (first | exact rfl | exact trivial | assumption | refine ⟨?_, ?_⟩)), eS_wk ⟨rfl, trivial⟩, eA_wk rfl, ew, lst_wk hl1 _ _, trivial⟩
        rintro σ1 h1 _ ⟨hi2, τ1, hw1⟩
        refine W_weak (nx' := 30) τ1 hw1 ?_
        clear hw1 σ1 h1 τ1
        refine vc_sound hE 2 _ _ _ 30 ?_
        obtain ⟨K, hK⟩ : ∃ K : Int, K = (l[i] : Nat) := ⟨_, rfl⟩
        obtain ⟨lw, hlw⟩ : ∃ lw, lw = decide (l.length ≤ i + sz) := ⟨_, rfl⟩
        have hwh : m.whI K = (Q, lw, true) := by
          have h := hi.whAt hq2 (j := i) (by rw [← hl]; exact hi2)
          rw [hmb] at h
          subst hl
          rw [hK, hQ, hlw]; exact h
        have hKg : (cI l).getD i 0 = K := by rw [hK]; simp [cI, List.getD_eq_getElem?_getD, hi2]
        have hfind : findI K ((cI l).take i) = -1 := by
          unfold findI
          rw [if_neg]
          have : (cI l).take i = cI (l.take i) := by simp [cI, List.map_take]
          rw [this, hK]
          exact fun w => not_before hnd hi2 (mem_c.1 w)
        have hzi : addI 0 ((i : Int)).toNat = i := by rw [Int.toNat_natCast, addI_eq, Nat.zero_add]
        obtain ⟨be, g, ty, he, hg, hga⟩ : ∃ be g ty, e = .blk be cp 1 g ty ∧ g (addI 0 ((i : Int)).toNat) 0 = .int .i64 K ∧ ∀ j, j < (cI l).length → g j 0 = .int .i64 ((cI l).getD j 0) := by
          rcases hl1 with ⟨q1, _⟩ | ⟨be, g, ty, he, _, _, hg, _⟩
          · rw [show (cI l).length = 0 by rw [q1]; rfl] at hll'; omega
          · exact ⟨be, g, ty, he, by rw [hzi, hg i (by omega), hKg], hg⟩
        refine W_seq (nx := 30) ?_
        refine W_to (nx := 30) [(2, .slice 2000 0 len cap), (7, .int .i64 n), (8, .int .i64 sz), (9, .ptr 1 0 0), (11, .int .i64 j), (12, .int .i64 M), (13, .int .i64 Q), (14, .slice 3 0 (cI l).length cp), (15, .int .i64 C), (16, .int .i64 i), (17, .int .i64 Q), (18, .bool lw), (19, .bool true)] [(1, eS bS s), (2, eA bA s), (2000, .ro b len 3 (gMix ckA z p)), (3, e)] 30 ?_ ?_
        · subst he
          refine vc_sound hE 60 _ _ _ 30 ?_
          (refine (?_ : chk _ _); refine chk_ok (show (decide ((0 : Int) ≤ (i : Int)) && decide ((i : Int) < ((cI l).length : Int))) = true by simp only [Bool.and_eq_true, decide_eq_true_eq]; omega) ?_)
          (refine (?_ : chk _ _); refine chk_ok rfl ?_)
          (refine (?_ : chk _ _); refine chk_ok (Nat.ble_eq_true_of_le (show addI 0 ((i : Int)).toNat * 1 + 0 + 1 ≤ cp * 1 by rw [hzi]; omega)) ?_)
          (refine (?_ : chk _ _); refine chk_ok rfl ?_)
          refine (?_ : force (g (addI 0 ((i : Int)).toNat) 0) _)
          rw [hg]
          refine ⟨_, m, K, rfl, hi.mS rfl rfl, ?_⟩
          rw [hwh]
          exact ⟨tau [], rfl, (by repeat' (first | exact rfl | exact trivial | assumption | refine ⟨?_, ?_⟩)), eS_wk ⟨rfl, trivial⟩, eA_wk rfl, ew, lst_wk hl1 _ _, trivial⟩
        refine W_seq (nx := 30) ?_
        refine W_to (nx := 30) [(2, .slice 2000 0 len cap), (7, .int .i64 n), (8, .int .i64 sz), (9, .ptr 1 0 0), (11, .int .i64 j), (12, .int .i64 M), (13, .int .i64 Q), (14, .slice 3 0 (cI l).length cp), (15, .int .i64 C), (16, .int .i64 i), (18, .bool lw)] [(1, eS bS s), (2, eA bA s), (2000, .ro b len 3 (gMix ckA z p)), (3, e)] 30 ?_ ?_
        · have hQQ : (Q != Q) = false := by simp
          have hlow : (lw != decide (IntKind.i64.wrap (((cI l).length : Int) - (sz : Int)) ≤ (i : Int))) = false := by
            rw [hlw, hll', show IntKind.i64.wrap ((l.length : Int) - sz) = (l.length : Int) - sz by simp only [IntKind.wrap_i64]; omega]
            rw [show decide (l.length ≤ i + sz) = decide ((l.length : Int) - sz ≤ i) from decide_eq_decide.2 (by omega)]
            simp
          subst he
          refine W_seq (nx := 30) ?_
          refine W_plan (id := 22) hE 30 28 (lineP 0 28 .done) (by rw [hc]; exact mix) (by kernel_rfl) 60 ?_
          repeat' (first | refine ⟨_, ⟨rfl, rfl⟩, ?_⟩ | fail)
          (refine (?_ : br _ _ _); refine br_f hQQ ?_)
          repeat' (first | refine ⟨_, ⟨rfl, rfl⟩, ?_⟩ | fail)
          (refine (?_ : br _ _ _); refine br_f hlow ?_)
          repeat' (first | refine ⟨_, ⟨rfl, rfl⟩, ?_⟩ | fail)
          refine ⟨.slice 3 0 i cp, ?_, ?_⟩
          · (refine (?_ : chk _ _); refine chk_ok ?_ ?_)
            · show (decide ((0 : Int) ≤ 0) && decide ((0 : Int) ≤ (i : Int)) && decide ((i : Int) ≤ (cp : Int))) = true
              simp only [Bool.and_eq_true, decide_eq_true_eq]; omega
            · refine ⟨?_, rfl⟩
              show V.slice 3 (match Nat.beq cp 0 with | true => 0 | false => addI 0 0) (((i : Int)).toNat - 0) (cp - 0) = _
              cases Nat.beq cp 0 <;> simp [addI]
          refine ⟨_, ⟨rfl, rfl⟩, ?_⟩
          refine ⟨_, ⟨rfl, rfl⟩, ?_⟩
          refine ⟨.ptr 3 (addI 0 ((i : Int)).toNat) 0, ?_, ?_⟩
          · (refine (?_ : chk _ _); refine chk_ok (show (decide ((0 : Int) ≤ (i : Int)) && decide ((i : Int) < ((cI l).length : Int))) = true by simp only [Bool.and_eq_true, decide_eq_true_eq]; omega) ?_)
            (refine (?_ : chk _ _); refine chk_ok rfl ?_)
            exact ⟨rfl, rfl⟩
          refine ⟨.int .i64 K, ?_, ?_⟩
          · (refine (?_ : chk _ _); refine chk_ok (Nat.ble_eq_true_of_le (show addI 0 ((i : Int)).toNat * 1 + 0 + 1 ≤ cp * 1 by rw [hzi]; omega)) ?_)
            (refine (?_ : chk _ _); refine chk_ok rfl ?_)
            refine (?_ : force (g (addI 0 ((i : Int)).toNat) 0) _)
            rw [hg]
            exact ⟨rfl, rfl⟩
          refine ⟨.int .i64 (-1), ?_, ?_⟩
          · refine ⟨_, (cI l).take i, K, rfl, rdL.take (n := (cI l).length) (c := cp) (.inr ⟨3, 0, cp, _, cp, g, rfl, rfl, by omega, fun j hj => by rw [Nat.zero_add]; exact hga j hj⟩) i cp (by omega), by rw [List.length_take]; omega, ?_⟩
            rw [hfind]
            exact ⟨rfl, rfl⟩
          repeat' (first | refine ⟨_, ⟨rfl, rfl⟩, ?_⟩ | fail)
          exact ⟨tau [], rfl, (by repeat' (first | exact rfl | exact trivial | assumption | refine ⟨?_, ?_⟩)), eS_wk ⟨rfl, trivial⟩, eA_wk rfl, ew, lst_wk hl1 _ _, trivial⟩
        refine vc_sound hE 60 _ _ _ 30 ?_
        have hw : IntKind.i64.wrap ((i : Int) + 1) = ((i + 1 : Nat) : Int) := by simp [IntKind.wrap_i64]; omega
        (refine (?_ : br _ _ _); refine br_both (fun q => ?_) (fun q => ?_))
        · have q1 : lw = true := q
          have hw2 : IntKind.i64.wrap (C + 1) = ((i + 1 - (l.length - sz) : Nat) : Int) := by
            rw [hlw] at q1
            have q1 := of_decide_eq_true q1
            rw [hC]; simp only [IntKind.wrap_i64]; omega
          exact ⟨l.length - (i + 1), _, _, by omega, ⟨i + 1, _, rfl, by omega, rfl, rfl, rfl⟩, tau [], rfl, (by repeat' (first | exact rfl | exact trivial | assumption | refine ⟨?_, ?_⟩)), eS_wk ⟨rfl, trivial⟩, eA_wk rfl, ew, lst_wk hl1 _ _, trivial⟩
        · have q1 : lw = false := q
          have hw2 : C = ((i + 1 - (l.length - sz) : Nat) : Int) := by
            rw [hlw] at q1
            have q1 := of_decide_eq_false q1
            rw [hC]; omega
          exact ⟨l.length - (i + 1), _, _, by omega, ⟨i + 1, C, rfl, by omega, hw2, rfl, rfl⟩, tau [], rfl, (by repeat' (first | exact rfl | exact trivial | assumption | refine ⟨?_, ?_⟩)), eS_wk ⟨rfl, trivial⟩, eA_wk rfl, ew, lst_wk hl1 _ _, trivial⟩
      -- the last one
      obtain ⟨X, hX⟩ : ∃ X, X = m.lastI Q := ⟨_, rfl⟩
      refine W_seq (nx := 30) ?_
      refine W_to (nx := 30) [(2, .slice 2000 0 len cap), (7, .int .i64 n), (8, .int .i64 sz), (9, .ptr 1 0 0), (11, .int .i64 j), (12, .int .i64 M), (13, .int .i64 Q), (14, .slice 3 0 (cI l).length cp), (15, .int .i64 (l.length - (l.length - sz) : Nat)), (20, .int .i64 X.1), (21, .bool X.2)] [(1, eS bS s), (2, eA bA s), (2000, .ro b len 3 (gMix ckA z p)), (3, e)] 30 ?_ ?_
      · refine vc_sound hE 60 _ _ _ 30 ?_
        refine ⟨_, m, Q, rfl, hi.mS rfl rfl, ?_⟩
        rw [← hX]
        exact ⟨tau [], rfl, (by repeat' (first | exact rfl | exact trivial | assumption | refine ⟨?_, ?_⟩)), eS_wk ⟨rfl, trivial⟩, eA_wk rfl, ew, lst_wk hl1 _ _, trivial⟩
      have hmin : ((l.length - (l.length - sz) : Nat) : Int) = if ((cI l).length : Int) < (sz : Int) then ((cI l).length : Int) else (sz : Int) := by rw [hll']; split <;> omega
      refine W_seq (nx := 30) ?_
      refine W_to (nx := 30) [(2, .slice 2000 0 len cap), (7, .int .i64 n), (8, .int .i64 sz), (9, .ptr 1 0 0), (11, .int .i64 j), (12, .int .i64 M), (13, .int .i64 Q), (14, .slice 3 0 (cI l).length cp)] [(1, eS bS s), (2, eA bA s), (2000, .ro b len 3 (gMix ckA z p)), (3, e)] 30 ?_ ?_
      · generalize ((l.length - (l.length - sz) : Nat) : Int) = Y at hmin ⊢
        obtain ⟨x1, x2⟩ := X
        cases x2 with
        | false =>
          refine vc_sound hE 60 _ _ _ 30 ?_
          refine (?_ : br _ _ _)
          refine br_f (by rw [hmin]; simp) ?_
          exact ⟨tau [], rfl, (by repeat' (first | exact rfl | exact trivial | assumption | refine ⟨?_, ?_⟩)), eS_wk ⟨rfl, trivial⟩, eA_wk rfl, ew, lst_wk hl1 _ _, trivial⟩
        | true =>
          obtain ⟨x, ex, hx1, hx2⟩ := Md.last_ok (m := m) hq2 (by rw [← hQ, ← hX])
          have ex : x1 = (x : Int) := by rw [← ex, ← hQ, ← hX]
          rw [← hl] at hx1
          have hf1 : findI x1 (cI l) = (ixZ x1 (cI l) : Nat) := by unfold findI; rw [if_pos (by rw [ex]; exact mem_c.2 hx1)]
          have hf2 : findI x1 (cI m.held) = -1 := by unfold findI; rw [if_neg (by rw [ex]; exact fun w => hx2 (mem_c.1 w))]
          have hhl : (cI m.held).length ≤ n := by rw [cI_len]; unfold Md.held; have h := List.length_filter_le (fun i => m.H i) (List.range m.n); rw [List.length_range] at h; omega
          refine vc_sound hE 60 _ _ _ 30 ?_
          refine (?_ : br _ _ _)
          refine br_f (by rw [hmin]; simp) ?_
          refine ⟨_, cI l, x1, rfl, hl1.rd rfl, by omega, ?_⟩
          rw [hf1]
          obtain ⟨F, hF⟩ : ∃ F : Int, F = (ixZ x1 (cI l) : Nat) := ⟨_, rfl⟩
          rw [← hF]
          have hF0 : ¬ F < 0 := by omega
          (refine (?_ : br _ _ _); refine br_decF hF0 ?_)
          refine ⟨_, m, rfl, hi.mS rfl rfl, rfl, fun e4 c4 k4 => ?_⟩
          refine ⟨_, cI m.held, x1, rfl, k4.rd rfl, by omega, ?_⟩
          rw [hf2]
          exact ⟨tau [], rfl, (by repeat' (first | exact rfl | exact trivial | assumption | refine ⟨?_, ?_⟩)), eS_wk ⟨rfl, trivial⟩, eA_wk rfl, ew, lst_wk hl1 _ _, trivial⟩
      refine vc_sound hE 60 _ _ _ 30 ?_
      have hs1 := hsle (q + 1) (by omega)
      have hsq : sumL m (q + 1) = sumL m q + l.length := by show sumL m q + (m.L q).length = _; rw [← hl]
      have hwM : IntKind.i64.wrap (M + ((cI l).length : Int)) = (sumL m (q + 1) : Nat) := by rw [hM, hll', hsq]; simp only [IntKind.wrap_i64]; omega
      have hwQ : IntKind.i64.wrap (Q + 1) = ((q + 1 : Nat) : Int) := by rw [hQ]; simp only [IntKind.wrap_i64]; omega
      exact ⟨2 - (q + 1), _, _, by omega, ⟨q + 1, _, _, rfl, by omega, rfl, rfl, rfl, rfl⟩, tau [], rfl, (by repeat' (first | exact rfl | exact trivial | assumption | refine ⟨?_, ?_⟩)), eS_wk ⟨rfl, trivial⟩, eA_wk rfl, ew, trivial⟩
    -- none lies in both, and none elsewhere
    refine W_seq (nx := 30) ?_
    refine W_to (nx := 30) [(2, .slice 2000 0 len cap), (7, .int .i64 n), (8, .int .i64 sz), (9, .ptr 1 0 0), (11, .int .i64 j), (12, .int .i64 0)] (H7 bS bA s b len z p) 30 ?_ ?_
    · refine vc_sound hE 8 _ _ _ 30 ?_
      have hct := hi.cnt
      rw [hmn, ← hs2] at hct
      refine W_loop (fun r σ h => ∃ (i : Nat) (M : Int), r = n - i ∧ i ≤ n ∧ M = (sumL m 2 : Nat) - (cntIn m i : Nat) ∧ σ = [(2, .slice 2000 0 len cap), (7, .int .i64 n), (8, .int .i64 sz), (9, .ptr 1 0 0), (11, .int .i64 j), (12, .int .i64 M), (22, .int .i64 i)] ∧ h = (H7 bS bA s b len z p))
        n ⟨0, ((sumL m 2 : Nat) : Int), rfl, by omega, by simp [cntIn], rfl, rfl⟩ (tau []) ⟨rfl, (by repeat' (first | exact rfl | exact trivial | assumption | refine ⟨?_, ?_⟩)), eS_wk ⟨rfl, trivial⟩, eA_wk rfl, ew, trivial⟩ 30 ?_
      rintro r σ h ⟨i, M, rfl, hin, hM, rfl, rfl⟩
      refine vc_sound hE 1 _ _ _ 30 ?_
      refine W_piece (nx := 30) (fun σ1 h1 _ => i < n ∧ ∃ τ, wk τ σ1 h1 [(2, .slice 2000 0 len cap), (7, .int .i64 n), (8, .int .i64 sz), (9, .ptr 1 0 0), (11, .int .i64 j), (12, .int .i64 M), (22, .int .i64 i)] (H7 bS bA s b len z p)) ?_ ?_
      · refine vc_sound hE 60 _ _ _ 30 ?_
        (refine (?_ : br _ _ _); refine br_dec (fun q => ?_) (fun q => ?_))
        · have q1 : (i : Int) < (n : Int) := q
          exact ⟨by omega, tau [], rfl, (by repeat' (first | exact rfl | exact trivial | assumption | refine ⟨?_, ?_⟩)), eS_wk ⟨rfl, trivial⟩, eA_wk rfl, ew, trivial⟩
        · have q1 : ¬ (i : Int) < (n : Int) := q
          obtain rfl : i = n := by omega
          have hM0 : M = 0 := by rw [hM, hct]; omega
          exact ⟨tau [], rfl, (by repeat' (first | exact rfl | exact trivial | assumption | refine ⟨?_, ?_⟩)), eS_wk ⟨rfl, trivial⟩, eA_wk rfl, ew, trivial⟩
      rintro σ1 h1 _ ⟨hi2, τ1, hw1⟩
      refine W_weak (nx' := 30) τ1 hw1 ?_
      clear hw1 σ1 h1 τ1
      refine vc_sound hE 2 _ _ _ 30 ?_
      have hle : cntIn m (i + 1) ≤ cntIn m n := cntIn_le hi2
      have hs2' := hsle 2 (by omega)
      refine W_seq (nx := 30) ?_
      refine W_to (nx := 30) [(2, .slice 2000 0 len cap), (7, .int .i64 n), (8, .int .i64 sz), (9, .ptr 1 0 0), (11, .int .i64 j), (12, .int .i64 M), (22, .int .i64 i), (25, .bool (inB m i))] (H7 bS bA s b len z p) 30 ?_ ?_
      · refine vc_sound hE 60 _ _ _ 30 ?_
        refine ⟨_, m, i, rfl, hi.mS rfl rfl, ?_⟩
        rw [hi.whIn (by omega)]
        exact ⟨tau [], rfl, (by repeat' (first | exact rfl | exact trivial | assumption | refine ⟨?_, ?_⟩)), eS_wk ⟨rfl, trivial⟩, eA_wk rfl, ew, trivial⟩
      refine vc_sound hE 60 _ _ _ 30 ?_
      have hw : IntKind.i64.wrap ((i : Int) + 1) = ((i + 1 : Nat) : Int) := by simp [IntKind.wrap_i64]; omega
      (refine (?_ : br _ _ _); refine br_both (fun q => ?_) (fun q => ?_))
      · have q1 : inB m i = true := q
        rw [cntIn_yes q1] at hle
        have hwM : IntKind.i64.wrap (M - 1) = (sumL m 2 : Nat) - (cntIn m (i + 1) : Nat) := by rw [hM, cntIn_yes q1]; simp only [IntKind.wrap_i64]; omega
        exact ⟨n - (i + 1), _, _, by omega, ⟨i + 1, _, rfl, by omega, rfl, rfl, rfl⟩, tau [], rfl, (by repeat' (first | exact rfl | exact trivial | assumption | refine ⟨?_, ?_⟩)), eS_wk ⟨rfl, trivial⟩, eA_wk rfl, ew, trivial⟩
      · have q1 : inB m i = false := q
        exact ⟨n - (i + 1), _, _, by omega, ⟨i + 1, M, rfl, by omega, by rw [cntIn_no q1]; exact hM, rfl, rfl⟩, tau [], rfl, (by repeat' (first | exact rfl | exact trivial | assumption | refine ⟨?_, ?_⟩)), eS_wk ⟨rfl, trivial⟩, eA_wk rfl, ew, trivial⟩
    refine vc_sound hE 60 _ _ _ 30 ?_
    have hw : IntKind.i64.wrap ((j : Int) + 1) = ((j + 1 : Nat) : Int) := by simp [IntKind.wrap_i64]; omega
    exact ⟨len - (j + 1), _, _, by omega, ⟨j + 1, s, m, rfl, by omega, hi, hmn, hmb, rfl, rfl⟩, tau [], rfl, (by repeat' (first | exact rfl | exact trivial | assumption | refine ⟨?_, ?_⟩)), eS_wk ⟨rfl, trivial⟩, eA_wk rfl, ew, trivial⟩
  -- no more lie there than there are nodes
  clear hi s
  rintro ⟨s, m⟩ ⟨hi, hmn⟩
  have hi : Inv s m m.n := hi
  have hmn : m.n = n := hmn
  have hsum : (m.L 0).length + (m.L 1).length ≤ n := by rw [← hmn]; exact hi.len
  refine vc_sound hE 100 _ _ _ 30 ?_
  refine ⟨_, m, 0, rfl, hi.mS rfl rfl, ?_⟩
  refine ⟨_, m, 1, rfl, hi.mS rfl rfl, ?_⟩
  have e0 : m.lenI 0 = ((m.L 0).length : Int) := rfl
  have e1 : m.lenI 1 = ((m.L 1).length : Int) := rfl
  rw [e0, e1]
  show Out.ret (V.bool (decide (IntKind.i64.wrap (((m.L 0).length : Int) + ((m.L 1).length : Int)) ≤ (n : Int)))) = _
  rw [show IntKind.i64.wrap (((m.L 0).length : Int) + ((m.L 1).length : Int)) = ((m.L 0).length : Int) + ((m.L 1).length : Int) by simp only [IntKind.wrap_i64]; omega]
  rw [decide_eq_true (by omega)]

def sLaw4 : Spec := fun args h nx K => ∃ (a a2 : Int) (b : Option Addr) (len cap : Nat) (z : Nat → Nat → Int) (p : Nat → Nat → Bool), args = [.int .u8 a, .int .u8 a2, .slice 2000 0 len cap] ∧ fd 2000 (roH h) = .ro b len 3 (gMix ckA z p) ∧ (0 ≤ a ∧ a ≤ 255) ∧ (0 ≤ a2 ∧ a2 ≤ 255) ∧ len ≤ 9223372036854775807 ∧ K (.ret (.bool true)) h nx
theorem sLaw4_ok : SpecOK Try.prog 4 sLaw4 := by
  refine specOK_read (fn := Try.f4) rfl rfl rfl T_ok (SP := SP4) sp4s 0 _ ?_
  rintro args h nx K ⟨a, a2, b, len, cap, z, p, rfl, e, ha, ha2, hlen, hk⟩
  refine ⟨[(2000, .ro b len 3 (gMix ckA z p))], ⟨fun i c hi hc => trivial, trivial⟩, ⟨⟨e, _, _, _, _, rfl⟩, trivial⟩, ⟨trivial, trivial, rfl, trivial⟩, by simp [Try.f4], fun o => o = .ret (.bool true), ?_, ?_⟩
  · rintro o rfl
    exact ⟨trivial, hk⟩
  · intro c hc
    obtain ⟨cd, h1, h2⟩ := law4_walk hc ha ha2 (b := b) (cap := cap) (z := z) (p := p) hlen
    cases h1
    exact h2
end Go.Proofs.Ytdjekplkejkgdaa.Sx

