import Derived.Test.YtkncijljkfpdiaaSxWG
/-
  The walks of this seat's laws: LaneFull.
-/
namespace Go.Proofs.Ytkncijljkfpdiaa.Sx
open Go Go.Proofs
set_option maxRecDepth 100000
set_option linter.unusedSimpArgs false
set_option linter.unusedVariables false

/-! ### Tickets 1, 2, .. pushed one behind the other -/
def stdOf (w : Nat → Nat) (i : Nat) : Std := (List.range i).map fun k => (w k, ((k + 1 : Nat) : Int))
theorem stdOf_succ {w : Nat → Nat} {i : Nat} : stdOf w (i + 1) = stdOf w i ++ [(w i, ((i + 1 : Nat) : Int))] := by
  unfold stdOf; rw [List.range_succ, List.map_append]; rfl
theorem stdOf_len {w : Nat → Nat} {i : Nat} : (stdOf w i).length = i := by unfold stdOf; simp
theorem stdOf_mem {w : Nat → Nat} {i b : Nat} {t : Int} : (b, t) ∈ stdOf w i ↔ ∃ k, k < i ∧ b = w k ∧ t = ((k + 1 : Nat) : Int) := by
  unfold stdOf
  rw [List.mem_map]
  constructor
  · rintro ⟨k, hk, e⟩
    injection e with e1 e2
    exact ⟨k, List.mem_range.1 hk, e1.symm, e2.symm⟩
  · rintro ⟨k, hk, rfl, rfl⟩
    exact ⟨k, List.mem_range.2 hk, rfl⟩
theorem has_mem {S : Std} {t : Int} : hasT S t = true ↔ ∃ b, (b, t) ∈ S := by
  rw [hasT_iff, List.mem_map]
  constructor
  · rintro ⟨⟨b, u⟩, h, rfl⟩; exact ⟨b, h⟩
  · rintro ⟨b, h⟩; exact ⟨_, h, rfl⟩
theorem stdOf_new {w : Nat → Nat} {i : Nat} {t : Int} (h : (i : Int) < t) : hasT (stdOf w i) t = false := by
  cases e : hasT (stdOf w i) t with
  | false => rfl
  | true =>
    obtain ⟨b, hb⟩ := has_mem.1 e
    obtain ⟨k, hk, _, rfl⟩ := stdOf_mem.1 hb
    omega
theorem stdOf_fit {w : Nat → Nat} {n rm i : Nat} (hw : ∀ k, w k < n) (hn : n ≤ 256) (hr : rm ≤ 128) (hi : i ≤ rm) : Fit n rm (stdOf w i) := by
  refine ⟨by rw [stdOf_len]; exact hi, hr, hn, fun p hp => ?_, fun p hp => ?_, ?_⟩
  · obtain ⟨k, _, e, _⟩ := stdOf_mem.1 (show (p.1, p.2) ∈ _ from hp)
    rw [e]; exact hw k
  · obtain ⟨k, _, _, e⟩ := stdOf_mem.1 (show (p.1, p.2) ∈ _ from hp)
    rw [e]; omega
  · unfold stdOf
    rw [List.map_map]
    unfold List.Nodup
    rw [List.pairwise_map]
    exact List.nodup_range.imp fun h e => h (by simp only [Function.comp] at e; omega)
theorem has_pull {S : Std} {t u : Int} (h : hasT (pullS S t) u = true) : hasT S u = true := by
  obtain ⟨b, hb⟩ := has_mem.1 h
  exact has_mem.2 ⟨b, (List.eraseP_sublist).subset hb⟩
theorem gone_pull {n room : Nat} {S : Std} (hF : Fit n room S) {t : Int} : hasT (pullS S t) t = false := by
  cases e : hasT (pullS S t) t with
  | false => rfl
  | true =>
    exfalso
    obtain ⟨b, hb⟩ := has_mem.1 e
    have h1 := mem_lane.2 hb
    by_cases h : hasT S t = true
    · rw [lane_pull h] at h1
      split at h1
      · have hn : (lane S b).Nodup := by unfold lane; exact hF.nd.sublist ((List.filter_sublist).map _)
        exact (hn.mem_erase_iff.1 h1).1 rfl
      · rename_i hb2
        exact hb2 (blkT_at hF.nd (mem_lane.1 h1)).2.symm
    · have h' : hasT S t = false := by simpa using h
      rw [pullS_no h', h'] at e; cases e
theorem pull_len {S : Std} {t : Int} (h : hasT S t = true) : (pullS S t).length + 1 = S.length := by
  obtain ⟨b, hb⟩ := has_mem.1 h
  have h1 := List.length_eraseP_of_mem (p := fun p : Nat × Int => p.2 == t) hb (by simp)
  have : 0 < S.length := List.length_pos_of_mem hb
  unfold pullS
  omega
theorem pushC_of {n room : Nat} {S : Std} {b : Nat} {t : Int} (hb : b < n) (ht : 1 ≤ t) (h1 : hasT S t = false) (h2 : S.length ≠ room) : pushC n room S b t = 0 := by
  unfold pushC
  rw [if_neg, if_neg (by rw [h1]; decide), if_neg h2]
  unfold isI
  simp only [decide_eq_false_iff_not]
  omega
theorem pushC_full {n room : Nat} {S : Std} {b : Nat} {t : Int} (hb : b < n) (ht : 1 ≤ t) (h1 : hasT S t = false) (h2 : S.length = room) : pushC n room S b t = 2 := by
  unfold pushC
  rw [if_neg, if_neg (by rw [h1]; decide), if_pos h2]
  unfold isI
  simp only [decide_eq_false_iff_not]
  omega
theorem blkT_snoc {S : Std} {b : Nat} {t : Int} (h : hasT S t = false) : hasT (S ++ [(b, t)]) t = true ∧ blkT (S ++ [(b, t)]) t = b := by
  refine ⟨by unfold hasT; simp, ?_⟩
  rw [hasT_find] at h
  unfold blkT
  rw [List.find?_append]
  cases e : S.find? (fun p => p.2 == t) with
  | some p => rw [e] at h; cases h
  | none => simp
/-- What is in the law's own row. -/
def wI (w : Nat → Nat) (i : Nat) (k : Nat) : Int := if k < i then (w k : Int) else 0
def gW (w : Nat → Nat) (i : Nat) : Nat → Nat → V := fun k _ => .int .i64 (wI w i k)
def wOf (len : Nat) (z : Nat → Int) (k : Nat) : Nat := if 0 < len then (z (k % len)).toNat else 0

theorem wkH_fdeq {τ : Nat → Nat} {h h2 h' : Hp} (he : ∀ t, fd t h2 = fd t h) : ∀ {G : Hp}, wkH τ h h' G → wkH τ h2 h' G
  | [], _ => trivial
  | (t, e) :: r, ⟨h1, h3⟩ => ⟨by rw [he]; exact h1, wkH_fdeq he h3⟩
theorem rdL_ro {h : Hp} {v : V} {l : List Int} (H : rdL h v l) : rdL (roH h) v l := by
  rcases H with ⟨rfl, rfl⟩ | ⟨t, i, c, b, N, g, rfl, e, h1, h2⟩
  · exact .inl ⟨rfl, rfl⟩
  · refine .inr ⟨t, i, c, b, N, g, rfl, ?_, h1, h2⟩
    rw [fd_roH, e]; rfl
theorem HLw.wkB {bL bM bR n room : Nat} {S : Std} {e : Nat → Ent} {cp : Nat → Nat} (A : Hp) {rest rest' : Hp} {τ : Nat → Nat} (hA : (A.map (·.1)).all (fun t => Nat.blt t 3000) = true) (hl : Low rest) (hl' : Low rest') (he : LsOK n S e cp)
    (f2 : fd (τ 2) (A ++ HLw bL bM bR n room S e cp (gg rest)) = .blk bR n 1 (gR S cp) 58) (f9 : fd (τ 9) (A ++ HLw bL bM bR n room S e cp (gg rest)) = .mp bM (mpS S)) (f8 : fd (τ 8) (A ++ HLw bL bM bR n room S e cp (gg rest)) = .blk bL 1 3 (gLn n room) 55) (hτ : ∀ i, τ (i + 3000) = i + 3000) (t2 : τ 2 = 2) (t9 : τ 9 = 9)
    (hr : wkH τ (A ++ HLw bL bM bR n room S e cp (gg rest)) (HLw bL bM bR n room S e cp (gg rest')) rest') : wkH τ (A ++ HLw bL bM bR n room S e cp (gg rest)) (HLw bL bM bR n room S e cp (gg rest')) (HLw bL bM bR n room S e cp (gg rest')) :=
  HLw.wkA A hA (gg.mid hl) (gg.mid hl') he f2 f9 f8 hτ t2 t9 (wkH_app hr ⟨wk_gone, wk_gone, trivial⟩)
def SP3 : SpT := [(8, sAwake), (9, sNew), (10, sPush), (12, sPull), (13, sBlock), (11, sLen)]
theorem sp3 : ∀ p ∈ SP3, SpecOK Try.prog p.1 p.2 := consSP sAwake_ok (consSP sNew_ok (consSP sPush_ok (consSP sPull_ok (consSP sBlock_ok (consSP sLen_ok noSP)))))
theorem g1_wk {k : IntKind} {b : Option Addr} {n : Nat} {z : Nat → Int} (τ : Nat → Nat) (h' : Hp) : wkE τ h' (.ro b n 1 (g1 k z)) (.ro b n 1 (g1 k z)) := ⟨rfl, rfl, rfl, fun i c hi hc => ⟨rfl, rfl⟩⟩
theorem gW_wk {b n : Nat} {w : Nat → Nat} {i : Nat} (τ : Nat → Nat) (h' : Hp) : wkE τ h' (.blk b n 1 (gW w i) 3) (.blk b n 1 (gW w i) 3) := ⟨rfl, rfl, rfl, rfl, fun j c hi hc => ⟨rfl, rfl⟩⟩
abbrev G6 : Hp := [(60, .gone), (61, .gone), (62, .gone), (63, .gone), (64, .gone)]
abbrev F0 (eX : Ent) : Hp := (100, eX) :: G6
abbrev F1 (eX eW : Ent) : Hp := (100, eX) :: (300, eW) :: G6
set_option maxHeartbeats 4000000 in
theorem full_walk {c : Cx} (hc : c.P = Try.prog) {ub : Option Addr} {len cap : Nat} {z : Nat → Int} {ro pu : Int} (hro : 0 ≤ ro ∧ ro ≤ 255) (hpu : 0 ≤ pu ∧ pu ≤ 255) (hlen : len ≤ 9223372036854775807) (hzz : ∀ i, i < len → 0 ≤ z i ∧ z i ≤ 255) :
    ∃ cd, Try.f3.body = some cd ∧ W ⟨c, Try.f3, T, SP3, fun o _ _ => o = .ret (.bool true)⟩ [.code cd] (argsS [.int .u8 ro, .slice 100 0 len cap, .int .u8 pu] 0) [(100, .ro ub len 1 (g1 .u8 z))] 0 := by
  refine ⟨_, rfl, ?_⟩
  have hE := mkE' (fn := Try.f3) (R := fun o _ _ => o = .ret (.bool true)) hc sp3
  obtain ⟨eX, hX⟩ : ∃ eX : Ent, eX = .ro ub len 1 (g1 .u8 z) := ⟨_, rfl⟩
  have wX : ∀ τ h', wkE τ h' eX eX := fun τ h' => by rw [hX]; exact g1_wk _ _
  rw [← hX]
  have vX : eX.here := by rw [hX]; trivial
  have vX0 : live [(100, eX)] 100 := vX
  have hwk : wkH (tau []) [(100, eX)] [(100, eX)] [(100, eX)] := ⟨wX _ _, trivial⟩
  have wG : ∀ τ h h', wkH τ h h' G6 := fun τ h h' => ⟨wk_gone, wk_gone, wk_gone, wk_gone, wk_gone, trivial⟩
  obtain ⟨n, hn⟩ : ∃ n : Nat, n = 256 := ⟨_, rfl⟩
  obtain ⟨rm, hrm⟩ : ∃ rm : Nat, (rm : Int) = 1 + ro % 128 := ⟨(1 + ro % 128).toNat, by omega⟩
  have hr1 : 1 ≤ rm ∧ rm ≤ 128 := by omega
  obtain ⟨w, hw⟩ : ∃ w : Nat → Nat, w = wOf len z := ⟨_, rfl⟩
  have hwn : ∀ k, w k < n := fun k => by
    rw [hw]; unfold wOf
    split
    · rename_i h
      have := hzz (k % len) (Nat.mod_lt _ h)
      omega
    · omega
  refine W_seq (nx := 0) ?_
  refine W_to (nx := 0) [(0, .int .u8 ro), (1, .slice 100 0 len cap), (2, .int .u8 pu)] [(100, eX)] 30 ?_ ?_
  · refine vc_sound hE 20 _ _ _ 30 ?_
    exact ⟨tau [], rfl, (by repeat' (first | exact rfl | exact trivial | assumption | refine ⟨?_, ?_⟩)), hwk⟩
  refine W_seq (nx := 30) ?_
  refine W_to (nx := 30) [(0, .int .u8 ro), (1, .slice 100 0 len cap), (2, .int .u8 pu)] [(100, eX)] 30 ?_ ?_
  · refine vc_sound hE 60 _ _ _ 30 ?_
    refine ⟨rfl, ?_⟩
    exact ⟨tau [], rfl, (by repeat' (first | exact rfl | exact trivial | assumption | refine ⟨?_, ?_⟩)), hwk⟩
  refine W_seq (nx := 30) ?_
  have e1 : IntKind.i64.wrap (1 + Int.tmod (IntKind.i64.wrap ro) 128) = (rm : Int) := by
    rw [show IntKind.i64.wrap ro = ro by simp only [IntKind.wrap_i64]; omega, Int.tmod_eq_emod_of_nonneg (by omega)]
    simp only [IntKind.wrap_i64]; omega
  refine W_to (nx := 30) [(1, .slice 100 0 len cap), (2, .int .u8 pu), (7, .int .i64 (rm : Int))] [(100, eX)] 30 ?_ ?_
  · refine vc_sound hE 60 _ _ _ 30 ?_
    exact ⟨tau [], rfl, ⟨⟨⟨rfl, vX0⟩, rfl, rfl, rfl⟩, ⟨rfl, rfl⟩, ⟨rfl, e1⟩, trivial⟩, hwk⟩
  refine W_seq (nx := 30) ?_
  have low0 : Low (F0 eX) := rfl
  have hm0 : Mid (gg (F0 eX)) := gg.mid low0
  refine W_ex (nx := 30) (fun (a : (Nat × Nat × Nat) × (Nat → Ent) × (Nat → Nat)) => LsOK n [] a.2.1 a.2.2) (fun a => [(1, .slice 100 0 len cap), (2, .int .u8 pu), (7, .int .i64 (rm : Int)), (8, .ptr 8 0 0)]) (fun a => HLw a.1.1 a.1.2.1 a.1.2.2 n rm [] a.2.1 a.2.2 (gg (F0 eX))) 30 ?_ ?_
  · refine vc_sound hE 40 _ _ _ 30 ?_
    refine ⟨256, rm, rfl, fun q => ?_, fun n' room hm hn' hr => ?_⟩
    · unfold mayB at q
      simp only [decide_eq_false_iff_not] at q
      omega
    obtain rfl : n' = n := by omega
    obtain rfl : room = rm := by omega
    refine ⟨rfl, rfl, rfl, fun i hi => low_gone rfl, fun bL bM bR => ?_⟩
    have hτ := Ren1.id
    obtain ⟨k1, k2⟩ := LnQ.back (h := [(100, eX)]) (rest := F0 eX) (HNew.q (bL := bL) (bM := bM) (bR := bR) (n := n') (room := room) (h := [(100, eX)])) hτ (fun t h1 h2 h3 h4 => HNew.else (by omega) h2 h3 h4) low0 rfl ⟨wX _ _, wk_gone, wk_gone, wk_gone, wk_gone, wk_gone, trivial⟩
    have v : live (HLw bL bM bR n' room [] (fun _ => nilE) (fun _ => 0) (gg (F0 eX))) 100 := vX
    exact ⟨((bL, bM, bR), (fun _ => nilE), (fun _ => 0)), fun i hi => nilL, tau [], k1, (by repeat' (first | exact rfl | exact trivial | exact (hτ.low (by decide)).symm | assumption | refine ⟨?_, ?_⟩)), k2⟩
  rintro ⟨⟨bL, bM, bR⟩, e0, c0⟩ l0
  have l0 : LsOK n [] e0 c0 := l0
  have v0 : live (HLw bL bM bR n rm [] e0 c0 (gg (F0 eX))) 100 := vX
  have r0 := HLw.re (bL := bL) (bM := bM) (bR := bR) (n := n) (room := rm) (S := []) [] (rest := F0 eX) (rest' := F0 eX) (tau []) rfl low0 low0 l0 rfl rfl rfl rfl rfl (fun _ => rfl) rfl rfl ⟨wX _ _, wG _ _ _⟩
  refine W_seq (nx := 30) ?_
  refine W_to (nx := 30) [(1, .slice 100 0 len cap), (2, .int .u8 pu), (7, .int .i64 (rm : Int)), (8, .ptr 8 0 0)] (HLw bL bM bR n rm [] e0 c0 (gg (F0 eX))) 30 ?_ ?_
  · refine vc_sound hE 60 _ _ _ 30 ?_
    exact ⟨tau [], r0.1, (by repeat' (first | exact rfl | exact trivial | assumption | refine ⟨?_, ?_⟩)), r0.2⟩
  refine W_seq (nx := 30) ?_
  have low1 : ∀ eW, Low (F1 eX eW) := fun _ => rfl
  have hm1 : ∀ eW, Mid (gg (F1 eX eW)) := fun eW => gg.mid (low1 eW)
  have v1 : ∀ S e cp eW, live (HLw bL bM bR n rm S e cp (gg (F1 eX eW))) 100 := fun _ _ _ _ => vX
  refine W_ex (nx := 30) (fun (_ : Nat) => True) (fun _ => [(1, .slice 100 0 len cap), (2, .int .u8 pu), (7, .int .i64 (rm : Int)), (8, .ptr 8 0 0), (10, .slice 300 0 rm rm)]) (fun bW => HLw bL bM bR n rm [] e0 c0 (gg (F1 eX (.blk bW rm 1 (gW w 0) 3)))) 30 ?_ ?_
  · refine vc_sound hE 60 _ _ _ 60 ?_
    refine ⟨⟨by omega, by omega, by omega⟩, fun bW => ?_⟩
    have v := v1 [] e0 c0 (.blk bW rm 1 (gW w 0) 3)
    refine ⟨bW, trivial, tau [(300, 60), (60, 300)], keysR rfl (fun _ => rfl) rfl, (by repeat' (first | exact rfl | exact trivial | assumption | refine ⟨?_, ?_⟩)), HLw.wkB [(60, _)] rfl low0 (low1 _) l0 rfl rfl rfl (fun _ => rfl) rfl rfl ⟨wX _ _, ?_, wG _ _ _⟩⟩
    refine ⟨rfl, rfl, rfl, rfl, fun j k hj hk => ?_⟩
    have hk : k < 1 := hk
    obtain rfl : k = 0 := by omega
    show _ ∧ _ = wI w 0 j
    refine ⟨rfl, ?_⟩
    unfold wI
    rw [if_neg (by omega)]
  rintro bW -
  have hback : ∀ (S : Std) (e : Nat → Ent) (cp : Nat → Nat) (i : Nat) (h' : Hp) (g' : Nat → Nat → V) (S' : Std) (e' : Nat → Ent) (cp' : Nat → Nat) (τ : Nat → Nat), Else n (HLw bL bM bR n rm S e cp (gg (F1 eX (.blk bW rm 1 (gW w i) 3)))) h' → LnQ h' bL bM bR n rm g' S' e' cp' τ → Ren1 τ → nodupB (((HLw bL bM bR n rm S' e' cp' (gg (F1 eX (.blk bW rm 1 (gW w i) 3)))).map (·.1)).map τ) = true ∧ wkH τ h' (HLw bL bM bR n rm S' e' cp' (gg (F1 eX (.blk bW rm 1 (gW w i) 3)))) (HLw bL bM bR n rm S' e' cp' (gg (F1 eX (.blk bW rm 1 (gW w i) 3)))) := fun S e cp i h' g' S' e' cp' τ k1 k2 hτ =>
    LnQ.back (h := HLw bL bM bR n rm S e cp (gg (F1 eX (.blk bW rm 1 (gW w i) 3)))) (rest := F1 eX (.blk bW rm 1 (gW w i) 3)) k2 hτ (fun t h1 h2 h3 h4 => k1 t h2 h3 (.inl h1)) (low1 _) rfl ⟨wX _ _, gW_wk _ _, wk_gone, wk_gone, wk_gone, wk_gone, wk_gone, trivial⟩
  have hfit : ∀ i, i ≤ rm → Fit n rm (stdOf w i) := fun i hi => stdOf_fit hwn (by omega) hr1.2 hi
  refine W_seq (nx := 60) ?_
  refine W_ex (nx := 60) (fun (a : (Nat → Ent) × (Nat → Nat)) => LsOK n (stdOf w rm) a.1 a.2) (fun a => [(2, .int .u8 pu), (7, .int .i64 (rm : Int)), (8, .ptr 8 0 0), (10, .slice 300 0 rm rm)]) (fun a => HLw bL bM bR n rm (stdOf w rm) a.1 a.2 (gg (F1 eX (.blk bW rm 1 (gW w rm) 3)))) 60 ?_ ?_
  · refine vc_sound hE 5 _ _ _ 60 ?_
    have v := v1 [] e0 c0 (.blk bW rm 1 (gW w 0) 3)
    refine W_loop (fun q σ h => ∃ (i : Nat) (e : Nat → Ent) (cp : Nat → Nat), q = rm - i ∧ i ≤ rm ∧ LsOK n (stdOf w i) e cp ∧ σ = [(1, .slice 100 0 len cap), (2, .int .u8 pu), (7, .int .i64 (rm : Int)), (8, .ptr 8 0 0), (10, .slice 300 0 rm rm), (11, .int .i64 (i : Int))] ∧ h = HLw bL bM bR n rm (stdOf w i) e cp (gg (F1 eX (.blk bW rm 1 (gW w i) 3))))
      rm ⟨0, e0, c0, rfl, by omega, l0, rfl, rfl⟩ (tau []) ⟨keysR rfl (fun _ => rfl) rfl, (by repeat' (first | exact rfl | exact trivial | assumption | refine ⟨?_, ?_⟩)), HLw.wkB (S := []) [] rfl (low1 _) (low1 _) l0 rfl rfl rfl (fun _ => rfl) rfl rfl ⟨wX _ _, gW_wk _ _, wG _ _ _⟩⟩ 60 ?_
    clear v
    rintro r σ h1 ⟨i, e, cp, rfl, hi, hL, rfl, rfl⟩
    have v := v1 (stdOf w i) e cp (.blk bW rm 1 (gW w i) 3)
    have rr : wkH (tau []) (HLw bL bM bR n rm (stdOf w i) e cp (gg (F1 eX (.blk bW rm 1 (gW w i) 3)))) (HLw bL bM bR n rm (stdOf w i) e cp (gg (F1 eX (.blk bW rm 1 (gW w i) 3)))) (HLw bL bM bR n rm (stdOf w i) e cp (gg (F1 eX (.blk bW rm 1 (gW w i) 3)))) := HLw.wkB [] rfl (low1 _) (low1 _) hL rfl rfl rfl (fun _ => rfl) rfl rfl ⟨wX _ _, gW_wk _ _, wG _ _ _⟩
    refine W_seq (nx := 60) ?_
    refine W_piece (nx := 60) (fun σ1 h1 _ => i < rm ∧ ∃ τ, wk τ σ1 h1 [(1, .slice 100 0 len cap), (2, .int .u8 pu), (7, .int .i64 (rm : Int)), (8, .ptr 8 0 0), (10, .slice 300 0 rm rm), (11, .int .i64 (i : Int))] (HLw bL bM bR n rm (stdOf w i) e cp (gg (F1 eX (.blk bW rm 1 (gW w i) 3))))) ?_ ?_
    · refine vc_sound hE 60 _ _ _ 60 ?_
      (refine (?_ : br _ _ _); refine br_dec (fun q => ?_) (fun q => ?_))
      · have q : (i : Int) < (rm : Int) := q
        exact ⟨by omega, tau [], keysR rfl (fun _ => rfl) rfl, (by repeat' (first | exact rfl | exact trivial | assumption | refine ⟨?_, ?_⟩)), rr⟩
      · have q : ¬ (i : Int) < (rm : Int) := q
        obtain rfl : i = rm := by omega
        exact ⟨(e, cp), hL, tau [], keysR rfl (fun _ => rfl) rfl, (by repeat' (first | exact rfl | exact trivial | assumption | refine ⟨?_, ?_⟩)), rr⟩
    rintro σ1 h1 _ ⟨hir, τ1, hw1⟩
    refine W_weak (nx' := 60) τ1 hw1 ?_
    clear hw1
    have hwi : IntKind.i64.wrap ((i : Int) + 1) = ((i + 1 : Nat) : Int) := by simp only [IntKind.wrap_i64]; omega
    have hz : addI 0 ((i : Int)).toNat = i := by rw [Int.toNat_natCast, addI_eq, Nat.zero_add]
    refine vc_sound hE 2 _ _ _ 60 ?_
    refine W_seq (nx := 60) ?_
    have v2 := v1 (stdOf w i) e cp (.blk bW rm 1 (gW w (i + 1)) 3)
    refine W_to (nx := 60) [(1, .slice 100 0 len cap), (2, .int .u8 pu), (7, .int .i64 (rm : Int)), (8, .ptr 8 0 0), (10, .slice 300 0 rm rm), (11, .int .i64 (i : Int))] (HLw bL bM bR n rm (stdOf w i) e cp (gg (F1 eX (.blk bW rm 1 (gW w (i + 1)) 3)))) 60 ?_ ?_
    · refine vc_sound hE 60 _ _ _ 60 ?_
      (refine (?_ : br _ _ _); refine br_dec (fun q => ?_) (fun q => ?_))
      rotate_left
      · have q : ¬ (len : Int) > 0 := q
        have hwi0 : w i = 0 := by rw [hw]; unfold wOf; rw [if_neg (by omega)]
        refine ⟨tau [], keysR rfl (fun _ => rfl) rfl, (by repeat' (first | exact rfl | exact trivial | assumption | refine ⟨?_, ?_⟩)), HLw.wkB [] rfl (low1 _) (low1 _) hL rfl rfl rfl (fun _ => rfl) rfl rfl ⟨wX _ _, ?_, wG _ _ _⟩⟩
        refine ⟨rfl, rfl, rfl, rfl, fun j k hj hk => ?_⟩
        show _ ∧ wI w i j = wI w (i + 1) j
        refine ⟨rfl, ?_⟩
        unfold wI
        by_cases h1 : j < i
        · rw [if_pos h1, if_pos (by omega)]
        · by_cases h2 : j = i
          · subst h2; rw [if_neg h1, if_pos (by omega), hwi0]; rfl
          · rw [if_neg h1, if_neg (by omega)]
      have q : (len : Int) > 0 := q
      have hl0 : 0 < len := by omega
      have htm : Int.tmod (i : Int) (len : Int) = ((i % len : Nat) : Int) := by rw [Int.tmod_eq_emod_of_nonneg (by omega)]; exact (Int.natCast_emod i len).symm
      have hml := Nat.mod_lt i hl0
      have hzm : addI 0 (Int.tmod (i : Int) (len : Int)).toNat = i % len := by rw [htm, Int.toNat_natCast, addI_eq, Nat.zero_add]
      subst hX
      (refine (?_ : chk _ _); refine chk_ok (show (!(decide ((len : Int) = 0))) = true by simp; omega) ?_)
      (refine (?_ : chk _ _); refine chk_ok (show (decide ((0 : Int) ≤ Int.tmod (i : Int) (len : Int)) && decide (Int.tmod (i : Int) (len : Int) < (len : Int))) = true by rw [htm]; simp only [Bool.and_eq_true, decide_eq_true_eq]; omega) ?_)
      (refine (?_ : chk _ _); refine chk_ok rfl ?_)
      (refine (?_ : chk _ _); refine chk_ok (Nat.ble_eq_true_of_le (show addI 0 (Int.tmod (i : Int) (len : Int)).toNat * 1 + 0 + 1 ≤ len * 1 by rw [hzm]; omega)) ?_)
      (refine (?_ : chk _ _); refine chk_ok rfl ?_)
      (refine (?_ : chk _ _); refine chk_ok (show (decide ((0 : Int) ≤ (i : Int)) && decide ((i : Int) < (rm : Int))) = true by simp only [Bool.and_eq_true, decide_eq_true_eq]; omega) ?_)
      (refine (?_ : chk _ _); refine chk_ok rfl ?_)
      (refine (?_ : chk _ _); refine chk_ok (Nat.ble_eq_true_of_le (show addI 0 ((i : Int)).toNat * 1 + 0 + 1 ≤ rm * 1 by rw [hz]; omega)) ?_)
      have hzb := hzz (i % len) hml
      have hval : IntKind.i64.wrap (z (addI 0 (Int.tmod (i : Int) (len : Int)).toNat + 0 / 1)) = (w i : Int) := by
        rw [hzm, hw]
        unfold wOf
        rw [if_pos hl0]
        show IntKind.i64.wrap (z (i % len)) = _
        simp only [IntKind.wrap_i64]
        omega
      refine ⟨tau [], keysR rfl (fun _ => rfl) rfl, (by repeat' (first | exact rfl | exact trivial | assumption | refine ⟨?_, ?_⟩)), HLw.wkB [(300, _)] rfl (low1 _) (low1 _) hL rfl rfl rfl (fun _ => rfl) rfl rfl ⟨wX _ _, ?_, wG _ _ _⟩⟩
      refine ⟨rfl, rfl, rfl, rfl, fun j k hj hk => ?_⟩
      have hk : k < 1 := hk
      obtain rfl : k = 0 := by omega
      show rn _ _ (putG 1 (gW w i) (addI 0 ((i : Int)).toNat) 0 [.int .i64 (IntKind.i64.wrap (z (addI 0 (Int.tmod (i : Int) (len : Int)).toNat + 0 / 1)))] j 0) (gW w (i + 1) j 0)
      rw [putG_one (by omega) (by omega), hz, hval]
      by_cases h1 : j = i
      · rw [if_pos ⟨h1, rfl⟩]
        refine ⟨rfl, ?_⟩
        unfold wI
        rw [if_pos (by omega), h1]
      · rw [if_neg (fun q => h1 q.1)]
        refine ⟨rfl, ?_⟩
        show wI w i j = wI w (i + 1) j
        unfold wI
        by_cases h2 : j < i
        · rw [if_pos h2, if_pos (by omega)]
        · rw [if_neg h2, if_neg (by omega)]
    have hpc : pushC n rm (stdOf w i) (w i : Int) ((i + 1 : Nat) : Int) = 0 := pushC_of (hwn i) (by omega) (stdOf_new (by omega)) (by rw [stdOf_len]; omega)
    have hps : pushS n rm (stdOf w i) (w i : Int) ((i + 1 : Nat) : Int) = stdOf w (i + 1) := by rw [pushS_of hpc, stdOf_succ]
    have hwi2 : wI w (i + 1) (addI 0 ((i : Int)).toNat + 0 / 1) = (w i : Int) := by
      rw [hz]; show wI w (i + 1) i = _; unfold wI; rw [if_pos (by omega)]
    refine W_ex (nx := 60) (fun (a : (Nat → Ent) × (Nat → Nat)) => LsOK n (stdOf w (i + 1)) a.1 a.2) (fun a => [(1, .slice 100 0 len cap), (2, .int .u8 pu), (7, .int .i64 (rm : Int)), (8, .ptr 8 0 0), (10, .slice 300 0 rm rm), (11, .int .i64 (i : Int))]) (fun a => HLw bL bM bR n rm (stdOf w (i + 1)) a.1 a.2 (gg (F1 eX (.blk bW rm 1 (gW w (i + 1)) 3)))) 60 ?_ ?_
    · refine vc_sound hE 60 _ _ _ 60 ?_
      (refine (?_ : chk _ _); refine chk_ok (show (decide ((0 : Int) ≤ (i : Int)) && decide ((i : Int) < (rm : Int))) = true by simp only [Bool.and_eq_true, decide_eq_true_eq]; omega) ?_)
      (refine (?_ : chk _ _); refine chk_ok rfl ?_)
      (refine (?_ : chk _ _); refine chk_ok (Nat.ble_eq_true_of_le (show addI 0 ((i : Int)).toNat * 1 + 0 + 1 ≤ rm * 1 by rw [hz]; omega)) ?_)
      (refine (?_ : chk _ _); refine chk_ok rfl ?_)
      refine ⟨bL, bM, bR, n, rm, gR (stdOf w i) cp, stdOf w i, e, cp, _, _, rfl, HLw.q (hm1 _) hL, hfit i hi, (gg.gone (low1 _)).1, (gg.gone (low1 _)).2, fun h' g' e' cp' τ kx k1 k2 hτ _ => ?_⟩
      rw [hwi2, hwi, hps] at k2
      rw [hwi2, hwi, hpc]
      refine ⟨n, rm, mpS (stdOf w (i + 1)), rfl, k2.ro, ?_⟩
      (refine (?_ : br _ _ _); refine br_neF (by rw [mpS_len, stdOf_len]; exact hwi.symm) ?_)
      obtain ⟨q1, q2⟩ := hback _ _ _ _ _ _ _ _ _ _ k1 k2 hτ
      have v3 := v1 (stdOf w (i + 1)) e' cp' (.blk bW rm 1 (gW w (i + 1)) 3)
      exact ⟨(e', cp'), k2.is, τ, q1, (by repeat' (first | exact rfl | exact trivial | exact (hτ.low (by decide)).symm | assumption | refine ⟨?_, ?_⟩)), q2⟩
    rintro ⟨e', cp'⟩ hL'
    have v3 := v1 (stdOf w (i + 1)) e' cp' (.blk bW rm 1 (gW w (i + 1)) 3)
    refine vc_sound hE 20 _ _ _ 60 ?_
    exact ⟨rm - (i + 1), _, _, by omega, ⟨i + 1, e', cp', rfl, by omega, hL', rfl, rfl⟩, tau [], keysR rfl (fun _ => rfl) rfl, ⟨⟨⟨rfl, v3⟩, rfl, rfl, rfl⟩, ⟨rfl, rfl⟩, ⟨rfl, rfl⟩, ⟨⟨rfl, trivial⟩, rfl, rfl⟩, ⟨⟨rfl, trivial⟩, rfl, rfl, rfl⟩, ⟨rfl, hwi⟩, trivial⟩, HLw.wkB [] rfl (low1 _) (low1 _) hL' rfl rfl rfl (fun _ => rfl) rfl rfl ⟨wX _ _, gW_wk _ _, wG _ _ _⟩⟩
  rintro ⟨e, cp⟩ hL
  have hL : LsOK n (stdOf w rm) e cp := hL
  have hF := hfit rm (Nat.le_refl _)
  have hlenS : (stdOf w rm).length = rm := stdOf_len
  obtain ⟨k, hk⟩ : ∃ k : Nat, (k : Int) = pu % rm := ⟨(pu % rm).toNat, by have := Int.emod_nonneg pu (show (rm : Int) ≠ 0 by omega); omega⟩
  have hkr : k < rm := by
    have h2 := Int.emod_lt_of_pos pu (show (0 : Int) < rm by omega)
    omega
  have e2 : Int.tmod (IntKind.i64.wrap pu) (rm : Int) = (k : Int) := by
    rw [show IntKind.i64.wrap pu = pu by simp only [IntKind.wrap_i64]; omega, Int.tmod_eq_emod_of_nonneg (by omega)]
    exact hk.symm
  have e3 : IntKind.i64.wrap ((rm : Int) + 1) = ((rm + 1 : Nat) : Int) := by simp only [IntKind.wrap_i64]; omega
  have e4 : IntKind.i64.wrap ((k : Int) + 1) = ((k + 1 : Nat) : Int) := by simp only [IntKind.wrap_i64]; omega
  have e5 : IntKind.i64.wrap ((rm : Int) + 2) = ((rm + 2 : Nat) : Int) := by simp only [IntKind.wrap_i64]; omega
  have rr : ∀ S e cp, LsOK n S e cp → wkH (tau []) (HLw bL bM bR n rm S e cp (gg (F1 eX (.blk bW rm 1 (gW w rm) 3)))) (HLw bL bM bR n rm S e cp (gg (F1 eX (.blk bW rm 1 (gW w rm) 3)))) (HLw bL bM bR n rm S e cp (gg (F1 eX (.blk bW rm 1 (gW w rm) 3)))) := fun S e cp hL => HLw.wkB [] rfl (low1 _) (low1 _) hL rfl rfl rfl (fun _ => rfl) rfl rfl ⟨wX _ _, gW_wk _ _, wG _ _ _⟩
  refine W_seq (nx := 60) ?_
  refine W_to (nx := 60) [(7, .int .i64 (rm : Int)), (8, .ptr 8 0 0), (10, .slice 300 0 rm rm), (12, .int .i64 (k : Int))] (HLw bL bM bR n rm (stdOf w rm) e cp (gg (F1 eX (.blk bW rm 1 (gW w rm) 3)))) 60 ?_ ?_
  · refine vc_sound hE 60 _ _ _ 60 ?_
    (refine (?_ : chk _ _); refine chk_ok (show (!(decide ((rm : Int) = 0))) = true by simp; omega) ?_)
    exact ⟨tau [], keysR rfl (fun _ => rfl) rfl, ⟨⟨rfl, rfl⟩, ⟨⟨rfl, trivial⟩, rfl, rfl⟩, ⟨⟨rfl, trivial⟩, rfl, rfl, rfl⟩, ⟨rfl, e2⟩, trivial⟩, rr _ _ _ hL⟩
  refine W_seq (nx := 60) ?_
  -- one more doesn't stand
  refine W_ex (nx := 60) (fun (a : (Nat → Ent) × (Nat → Nat)) => LsOK n (stdOf w rm) a.1 a.2) (fun a => [(7, .int .i64 (rm : Int)), (8, .ptr 8 0 0), (10, .slice 300 0 rm rm), (12, .int .i64 (k : Int)), (13, .int .i64 2)]) (fun a => HLw bL bM bR n rm (stdOf w rm) a.1 a.2 (gg (F1 eX (.blk bW rm 1 (gW w rm) 3)))) 60 ?_ ?_
  · refine vc_sound hE 60 _ _ _ 60 ?_
    refine ⟨bL, bM, bR, n, rm, gR (stdOf w rm) cp, stdOf w rm, e, cp, _, _, rfl, HLw.q (hm1 _) hL, hF, (gg.gone (low1 _)).1, (gg.gone (low1 _)).2, fun h' g' e' cp' τ kx k1 k2 hτ _ => ?_⟩
    have hpc : pushC n rm (stdOf w rm) 3 ((rm + 1 : Nat) : Int) = 2 := pushC_full (b := 3) (by omega) (by omega) (stdOf_new (by omega)) stdOf_len
    rw [e3, pushS_ne (by rw [hpc]; decide)] at k2
    rw [e3, hpc]
    obtain ⟨q1, q2⟩ := hback _ _ _ _ _ _ _ _ _ _ k1 k2 hτ
    exact ⟨(e', cp'), k2.is, τ, q1, (by repeat' (first | exact rfl | exact trivial | exact (hτ.low (by decide)).symm | assumption | refine ⟨?_, ?_⟩)), q2⟩
  rintro ⟨e, cp⟩ hL
  have hL : LsOK n (stdOf w rm) e cp := hL
  have hmem : (w k, ((k + 1 : Nat) : Int)) ∈ stdOf w rm := stdOf_mem.2 ⟨k, hkr, rfl, rfl⟩
  obtain ⟨hh, hb⟩ := blkT_at hF.nd hmem
  have hF2 := hF.pull ((k + 1 : Nat) : Int)
  have hlen2 := pull_len hh
  have hno := gone_pull hF (t := ((k + 1 : Nat) : Int))
  have hnew : ∀ t : Int, (rm : Int) < t → hasT (pullS (stdOf w rm) ((k + 1 : Nat) : Int)) t = false := fun t ht => by
    cases e : hasT (pullS (stdOf w rm) ((k + 1 : Nat) : Int)) t with
    | false => rfl
    | true => have := has_pull e; rw [stdOf_new ht] at this; cases this
  refine W_seq (nx := 60) ?_
  refine W_ex (nx := 60) (fun (a : (Nat → Ent) × (Nat → Nat)) => LsOK n (pullS (stdOf w rm) ((k + 1 : Nat) : Int)) a.1 a.2) (fun a => [(7, .int .i64 (rm : Int)), (8, .ptr 8 0 0), (10, .slice 300 0 rm rm), (12, .int .i64 (k : Int)), (13, .int .i64 2), (14, .int .i64 (w k : Int)), (15, .int .i64 0)]) (fun a => HLw bL bM bR n rm (pullS (stdOf w rm) ((k + 1 : Nat) : Int)) a.1 a.2 (gg (F1 eX (.blk bW rm 1 (gW w rm) 3)))) 60 ?_ ?_
  · refine vc_sound hE 60 _ _ _ 60 ?_
    refine ⟨bL, bM, bR, n, rm, gR (stdOf w rm) cp, stdOf w rm, e, cp, _, rfl, HLw.q (hm1 _) hL, hF, fun h' g' e' cp' kx k1 k2 => ?_⟩
    have hpc : pullC (stdOf w rm) ((k + 1 : Nat) : Int) = 0 := by unfold pullC; rw [if_pos hh]
    rw [e4] at k2
    rw [e4, hpc, hb]
    have hτ := Ren1.id
    obtain ⟨q1, q2⟩ := hback _ _ _ _ _ _ _ _ _ _ k1 k2 hτ
    exact ⟨(e', cp'), k2.is, tau [], q1, (by repeat' (first | exact rfl | exact trivial | exact (hτ.low (by decide)).symm | assumption | refine ⟨?_, ?_⟩)), q2⟩
  rintro ⟨e, cp⟩ hL
  have hL : LsOK n (pullS (stdOf w rm) ((k + 1 : Nat) : Int)) e cp := hL
  refine W_seq (nx := 60) ?_
  refine W_to (nx := 60) [(7, .int .i64 (rm : Int)), (8, .ptr 8 0 0), (10, .slice 300 0 rm rm), (12, .int .i64 (k : Int)), (13, .int .i64 2), (14, .int .i64 (w k : Int)), (15, .int .i64 0), (17, .bool false)] (HLw bL bM bR n rm (pullS (stdOf w rm) ((k + 1 : Nat) : Int)) e cp (gg (F1 eX (.blk bW rm 1 (gW w rm) 3)))) 60 ?_ ?_
  · refine vc_sound hE 60 _ _ _ 60 ?_
    refine ⟨n, rm, mpS (pullS (stdOf w rm) ((k + 1 : Nat) : Int)), _, rfl, (HLw.q (hm1 _) hL).ro, ?_⟩
    rw [e4, mhas_S, hno]
    exact ⟨tau [], keysR rfl (fun _ => rfl) rfl, (by repeat' (first | exact rfl | exact trivial | assumption | refine ⟨?_, ?_⟩)), rr _ _ _ hL⟩
  refine W_seq (nx := 60) ?_
  have hpc2 : pushC n rm (pullS (stdOf w rm) ((k + 1 : Nat) : Int)) ((3 : Nat) : Int) ((rm + 1 : Nat) : Int) = 0 := pushC_of (by omega) (by omega) (hnew _ (by omega)) (by omega)
  have hps2 := pushS_of hpc2
  have hF3 := hF2.push ((3 : Nat) : Int) ((rm + 1 : Nat) : Int)
  obtain ⟨hh3, hb3⟩ := blkT_snoc (b := 3) (hnew ((rm + 1 : Nat) : Int) (by omega))
  have hlen3 : (pushS n rm (pullS (stdOf w rm) ((k + 1 : Nat) : Int)) ((3 : Nat) : Int) ((rm + 1 : Nat) : Int)).length = rm := by rw [hps2, List.length_append]; simp only [List.length_cons, List.length_nil]; omega
  have hnew3 : hasT (pushS n rm (pullS (stdOf w rm) ((k + 1 : Nat) : Int)) ((3 : Nat) : Int) ((rm + 1 : Nat) : Int)) ((rm + 2 : Nat) : Int) = false := by
    cases e : hasT (pushS n rm (pullS (stdOf w rm) ((k + 1 : Nat) : Int)) ((3 : Nat) : Int) ((rm + 1 : Nat) : Int)) ((rm + 2 : Nat) : Int) with
    | false => rfl
    | true =>
      rw [hps2] at e
      obtain ⟨b, hb⟩ := has_mem.1 e
      rcases List.mem_append.1 hb with hb | hb
      · have := has_mem.2 ⟨b, hb⟩
        rw [hnew _ (by omega)] at this; cases this
      · simp only [List.mem_singleton, Prod.mk.injEq] at hb
        omega
  rw [← hps2] at hh3 hb3
  generalize hS3 : pushS n rm (pullS (stdOf w rm) ((k + 1 : Nat) : Int)) ((3 : Nat) : Int) ((rm + 1 : Nat) : Int) = S3 at hF3 hh3 hb3 hlen3 hnew3
  refine W_ex (nx := 60) (fun (a : (Nat → Ent) × (Nat → Nat)) => LsOK n S3 a.1 a.2) (fun a => [(7, .int .i64 (rm : Int)), (8, .ptr 8 0 0), (10, .slice 300 0 rm rm), (12, .int .i64 (k : Int)), (13, .int .i64 2), (14, .int .i64 (w k : Int)), (15, .int .i64 0), (17, .bool false), (18, .int .i64 0)]) (fun a => HLw bL bM bR n rm S3 a.1 a.2 (gg (F1 eX (.blk bW rm 1 (gW w rm) 3)))) 60 ?_ ?_
  · refine vc_sound hE 60 _ _ _ 60 ?_
    refine ⟨bL, bM, bR, n, rm, gR (pullS (stdOf w rm) ((k + 1 : Nat) : Int)) cp, pullS (stdOf w rm) ((k + 1 : Nat) : Int), e, cp, _, _, rfl, HLw.q (hm1 _) hL, hF2, (gg.gone (low1 _)).1, (gg.gone (low1 _)).2, fun h' g' e' cp' τ kx k1 k2 hτ _ => ?_⟩
    rw [e3] at k2 ⊢
    have k2 : LnQ h' bL bM bR n rm g' (pushS n rm (pullS (stdOf w rm) ((k + 1 : Nat) : Int)) ((3 : Nat) : Int) ((rm + 1 : Nat) : Int)) e' cp' τ := k2
    rw [hS3] at k2
    have hpc2 : pushC n rm (pullS (stdOf w rm) ((k + 1 : Nat) : Int)) 3 ((rm + 1 : Nat) : Int) = 0 := hpc2
    rw [hpc2]
    obtain ⟨q1, q2⟩ := hback _ _ _ _ _ _ _ _ _ _ k1 k2 hτ
    exact ⟨(e', cp'), k2.is, τ, q1, (by repeat' (first | exact rfl | exact trivial | exact (hτ.low (by decide)).symm | assumption | refine ⟨?_, ?_⟩)), q2⟩
  rintro ⟨e, cp⟩ hL
  have hL : LsOK n S3 e cp := hL
  refine W_seq (nx := 60) ?_
  refine W_to (nx := 60) [(7, .int .i64 (rm : Int)), (8, .ptr 8 0 0), (10, .slice 300 0 rm rm), (12, .int .i64 (k : Int)), (13, .int .i64 2), (14, .int .i64 (w k : Int)), (15, .int .i64 0), (17, .bool false), (18, .int .i64 0), (19, .int .i64 3), (20, .bool true)] (HLw bL bM bR n rm S3 e cp (gg (F1 eX (.blk bW rm 1 (gW w rm) 3)))) 60 ?_ ?_
  · refine vc_sound hE 60 _ _ _ 60 ?_
    refine ⟨n, rm, mpS S3, _, rfl, (HLw.q (hm1 _) hL).ro, ?_⟩
    rw [e3, mhas_S, mget_S, hh3, hb3]
    exact ⟨tau [], keysR rfl (fun _ => rfl) rfl, (by repeat' (first | exact rfl | exact trivial | assumption | refine ⟨?_, ?_⟩)), rr _ _ _ hL⟩
  refine vc_sound hE 200 _ _ _ 60 ?_
  have hzk : addI 0 ((k : Int)).toNat = k := by rw [Int.toNat_natCast, addI_eq, Nat.zero_add]
  have hwk : wI w rm (addI 0 ((k : Int)).toNat + 0 / 1) = (w k : Int) := by
    rw [hzk]; show wI w rm k = _; unfold wI; rw [if_pos hkr]
  (refine (?_ : chk _ _); refine chk_ok (show (decide ((0 : Int) ≤ (k : Int)) && decide ((k : Int) < (rm : Int))) = true by simp only [Bool.and_eq_true, decide_eq_true_eq]; omega) ?_)
  (refine (?_ : chk _ _); refine chk_ok rfl ?_)
  (refine (?_ : chk _ _); refine chk_ok (Nat.ble_eq_true_of_le (show addI 0 ((k : Int)).toNat * 1 + 0 + 1 ≤ rm * 1 by rw [hzk]; omega)) ?_)
  (refine (?_ : chk _ _); refine chk_ok rfl ?_)
  (refine (?_ : br _ _ _); refine br_eqT hwk.symm ?_)
  refine ⟨n, rm, mpS S3, rfl, (HLw.q (hm1 _) hL).ro, ?_⟩
  (refine (?_ : br _ _ _); refine br_eqT (by rw [mpS_len, hlen3]) ?_)
  refine ⟨bL, bM, bR, n, rm, gR S3 cp, S3, e, cp, _, _, rfl, HLw.q (hm1 _) hL, hF3, (gg.gone (low1 _)).1, (gg.gone (low1 _)).2, fun h' g' e' cp' τ kx k1 k2 hτ _ => ?_⟩
  have hpc3 : pushC n rm S3 3 ((rm + 2 : Nat) : Int) = 2 := pushC_full (b := 3) (by omega) (by omega) hnew3 hlen3
  rw [e5, hpc3]
  rfl
theorem u8_has {n : Int} (h : IntKind.u8.has n) : 0 ≤ n ∧ n ≤ 255 := by simpa [IntKind.has, IntKind.min, IntKind.max, IntKind.signed, IntKind.bits] using h
def sLaw3 : Spec := fun args h nx K => ∃ (ub : Option Addr) (len cap : Nat) (z : Nat → Int) (ro pu : Int), args = [.int .u8 ro, .slice 100 0 len cap, .int .u8 pu] ∧ h = [(100, .ro ub len 1 (g1 .u8 z))] ∧ len ≤ 9223372036854775807 ∧ (0 ≤ ro ∧ ro ≤ 255) ∧ (0 ≤ pu ∧ pu ≤ 255) ∧ (∀ i, i < len → IntKind.u8.has (z i)) ∧ K (.ret (.bool true)) h nx
theorem sLaw3_ok : SpecOK Try.prog 3 sLaw3 := by
  refine specOK_read (fn := Try.f3) rfl rfl rfl T_ok (SP := SP3) sp3 0 _ ?_
  rintro args h nx K ⟨ub, len, cap, z, ro, pu, rfl, rfl, hlen, hro, hpu, hz, hk⟩
  refine ⟨[(100, .ro ub len 1 (g1 .u8 z))], ⟨fun i c hi hc => trivial, trivial⟩, ⟨⟨rfl, _, _, _, _, rfl⟩, trivial⟩, ⟨trivial, rfl, trivial, trivial⟩, by simp [Try.f3], fun o => o = .ret (.bool true), ?_, ?_⟩
  · rintro o rfl
    exact ⟨trivial, hk⟩
  · intro c hc
    obtain ⟨cd, h1, h2⟩ := full_walk hc (ub := ub) (cap := cap) (z := z) hro hpu hlen (fun i hi => u8_has (hz i hi))
    cases h1
    exact h2
end Go.Proofs.Ytkncijljkfpdiaa.Sx
