import Derived.Test.YtkncijljkfpdiaaSxDA
/-
  The walks of this seat's laws: LanePlays.
-/
namespace Go.Proofs.Ytkncijljkfpdiaa.Sx
open Go Go.Proofs
set_option maxRecDepth 100000
set_option linter.unusedSimpArgs false
set_option linter.unusedVariables false

def gA (k b t : Int) : Nat → Nat → V := fun _ c => match c with | 0 => .int .i64 k | 1 => .int .i64 b | _ => .int .i64 t
theorem gA_wk {bx : Nat} {k b t : Int} (τ : Nat → Nat) (h' : Hp) : wkE τ h' (.blk bx 1 3 (gA k b t) 38) (.blk bx 1 3 (gA k b t) 38) := ⟨rfl, rfl, rfl, rfl, fun i c hi hc => match c, hc with | 0, _ => ⟨rfl, rfl⟩ | 1, _ => ⟨rfl, rfl⟩ | 2, _ => ⟨rfl, rfl⟩⟩
theorem e4_wk {bF n room m cp : Nat} {τ : Nat → Nat} {h' : Hp} (t41 : τ 41 = 41) (v : live h' 41) : wkE τ h' (e4 bF n room m cp) (e4 bF n room m cp) := by
  refine ⟨rfl, rfl, rfl, rfl, fun i c hi hc => ?_⟩
  obtain rfl : i = 0 := by omega
  match c, hc with
  | 0, _ => exact ⟨rfl, rfl⟩
  | 1, _ => exact ⟨rfl, rfl⟩
  | 2, _ => exact ⟨⟨t41.symm, v⟩, rfl, rfl, rfl⟩
def SP7 : SpT := [(8, sAwake), (9, sNew), (10, sPush), (12, sPull), (13, sBlock), (11, sLen), (14, sHd false), (15, sHd true), (17, sLane), (18, sHeads), (16, sInts), (19, sMay), (20, sRNew), (21, sRPush2), (22, sRPull2), (23, sRHd false), (24, sRHd true), (25, sRBlock), (26, sRLane), (27, sRHeads)]
theorem sp7 : ∀ p ∈ SP7, SpecOK Try.prog p.1 p.2 := consSP sAwake_ok (consSP sNew_ok (consSP sPush_ok (consSP sPull_ok (consSP sBlock_ok (consSP sLen_ok (consSP sHead_ok (consSP sLast_ok (consSP sLane_ok (consSP sHeads_ok (consSP sInts_ok (consSP sMay_ok (consSP sRNew_ok (consSP sRPush2_ok (consSP sRPull2_ok (consSP sRHead_ok (consSP sRLast_ok (consSP sRBlock_ok (consSP sRLane_ok (consSP sRHeads_ok noSP)))))))))))))))))))
theorem HLw.rf {bL bM bR bF n room : Nat} {S : Std} {e : Nat → Ent} {cp : Nat → Nat} {eX eD eA : Ent} {cD : Nat} (hs : stE eD S cD) : RfW (HLw bL bM bR n room S e cp (gg (RB eX (e4 bF n room S.length cD) eD eA))) bF n room S eD cD := ⟨rfl, rfl, hs⟩
set_option maxHeartbeats 4000000 in
theorem plays_walk {c : Cx} (hc : c.P = Try.prog) {a b : Int} {ub : Option Addr} {len cap : Nat} {z : Nat → Nat → Int} (hlen : len ≤ 9223372036854775807) :
    ∃ cd, Try.f7.body = some cd ∧ W ⟨c, Try.f7, T, SP7, fun o _ _ => o = .ret (.bool true)⟩ [.code cd] (argsS [.int .i64 a, .int .i64 b, .slice 100 0 len cap] 0) [(100, .ro ub len 3 (gT z))] 0 := by
  refine ⟨_, rfl, ?_⟩
  have hE := mkE' (fn := Try.f7) (R := fun o _ _ => o = .ret (.bool true)) hc sp7
  obtain ⟨eX, hX⟩ : ∃ eX : Ent, eX = .ro ub len 3 (gT z) := ⟨_, rfl⟩
  have wX : ∀ τ h', wkE τ h' eX eX := fun τ h' => by rw [hX]; exact gT_wk _ _
  rw [← hX]
  have vX : eX.here := by rw [hX]; trivial
  have vX0 : live [(100, eX)] 100 := vX
  have hwk : wkH (tau []) [(100, eX)] [(100, eX)] [(100, eX)] := ⟨wX _ _, trivial⟩
  have wG : ∀ τ h h', wkH τ h h' GG := fun τ h h' => ⟨wk_gone, wk_gone, wk_gone, wk_gone, wk_gone, wk_gone, wk_gone, wk_gone, wk_gone, trivial⟩
  refine W_seq (nx := 0) ?_
  refine W_to (nx := 0) [(0, .int .i64 a), (1, .int .i64 b), (2, .slice 100 0 len cap)] [(100, eX)] 30 ?_ ?_
  · refine vc_sound hE 20 _ _ _ 30 ?_
    exact ⟨tau [], rfl, (by repeat' (first | exact rfl | exact trivial | assumption | refine ⟨?_, ?_⟩)), hwk⟩
  refine W_seq (nx := 30) ?_
  refine W_to (nx := 30) [(0, .int .i64 a), (1, .int .i64 b), (2, .slice 100 0 len cap)] [(100, eX)] 30 ?_ ?_
  · refine vc_sound hE 60 _ _ _ 30 ?_
    refine ⟨rfl, ?_⟩
    exact ⟨tau [], rfl, (by repeat' (first | exact rfl | exact trivial | assumption | refine ⟨?_, ?_⟩)), hwk⟩
  refine W_seq (nx := 30) ?_
  by_cases hm : mayB a b = true
  rotate_left
  · have hm' : mayB a b = false := by simpa using hm
    refine W_to (nx := 30) [(0, .int .i64 a), (1, .int .i64 b), (7, .nilp), (8, .int .i64 1)] [(100, eX)] 30 ?_ ?_
    · refine vc_sound hE 60 _ _ _ 30 ?_
      refine ⟨a, b, rfl, fun _ => ?_, fun n room q => absurd q hm⟩
      exact ⟨tau [], rfl, (by repeat' (first | exact rfl | exact trivial | assumption | refine ⟨?_, ?_⟩)), hwk⟩
    refine vc_sound hE 100 _ _ _ 30 ?_
    refine ⟨a, b, rfl, ?_⟩
    rw [hm']
    rfl
  obtain ⟨n, hn⟩ : ∃ n : Nat, a = (n : Int) := ⟨a.toNat, by unfold mayB at hm; simp only [decide_eq_true_eq] at hm; omega⟩
  obtain ⟨room, hr⟩ : ∃ r : Nat, b = (r : Int) := ⟨b.toNat, by unfold mayB at hm; simp only [decide_eq_true_eq] at hm; omega⟩
  have hbd : 1 ≤ n ∧ n ≤ 256 ∧ 1 ≤ room ∧ room ≤ 128 := by unfold mayB at hm; simp only [decide_eq_true_eq] at hm; omega
  subst hn hr
  have lowP : ∀ e40 e41, Low (RP eX e40 e41) := fun _ _ => rfl
  refine W_ex (nx := 30) (fun (a : (Nat × Nat × Nat) × (Nat → Ent) × (Nat → Nat)) => LsOK n [] a.2.1 a.2.2) (fun a => [(0, .int .i64 (n : Int)), (1, .int .i64 (room : Int)), (2, .slice 100 0 len cap), (7, .ptr 8 0 0), (8, .int .i64 0)]) (fun a => HLw a.1.1 a.1.2.1 a.1.2.2 n room [] a.2.1 a.2.2 (gg (RP eX .gone .gone))) 30 ?_ ?_
  · refine vc_sound hE 40 _ _ _ 30 ?_
    refine ⟨(n : Int), (room : Int), rfl, fun q => absurd hm (by rw [q]; decide), fun n' room' _ hn' hr' => ?_⟩
    obtain rfl : n = n' := by omega
    obtain rfl : room = room' := by omega
    refine ⟨rfl, rfl, rfl, fun i hi => low_gone rfl, fun bL bM bR => ?_⟩
    have hτ := Ren1.id
    obtain ⟨k1, k2⟩ := LnQ.back (h := [(100, eX)]) (rest := RP eX .gone .gone) (HNew.q (bL := bL) (bM := bM) (bR := bR) (n := n) (room := room) (h := [(100, eX)])) hτ (fun t h1 h2 h3 h4 => HNew.else (by omega) h2 h3 h4) (lowP _ _) rfl ⟨wX _ _, wk_gone, wk_gone, wk_gone, wk_gone, wk_gone, wk_gone, wk_gone, wk_gone, wk_gone, wk_gone, wk_gone, trivial⟩
    have v : live (HLw bL bM bR n room [] (fun _ => nilE) (fun _ => 0) (gg (RP eX .gone .gone))) 100 := vX
    exact ⟨((bL, bM, bR), (fun _ => nilE), (fun _ => 0)), fun i hi => nilL, tau [], k1, (by repeat' (first | exact rfl | exact trivial | exact (hτ.low (by decide)).symm | assumption | refine ⟨?_, ?_⟩)), k2⟩
  rintro ⟨⟨bL, bM, bR⟩, e0, c0⟩ l0
  have l0 : LsOK n [] e0 c0 := l0
  have v0 : live (HLw bL bM bR n room [] e0 c0 (gg (RP eX .gone .gone))) 100 := vX
  have r0 := HLw.re (bL := bL) (bM := bM) (bR := bR) (n := n) (room := room) (S := []) [] (rest := RP eX .gone .gone) (rest' := RP eX .gone .gone) (tau []) rfl (lowP _ _) (lowP _ _) l0 rfl rfl rfl rfl rfl (fun _ => rfl) rfl rfl ⟨wX _ _, wk_gone, wk_gone, wG _ _ _⟩
  refine W_seq (nx := 30) ?_
  refine W_to (nx := 30) [(0, .int .i64 (n : Int)), (1, .int .i64 (room : Int)), (2, .slice 100 0 len cap), (7, .ptr 8 0 0), (8, .int .i64 0)] (HLw bL bM bR n room [] e0 c0 (gg (RP eX .gone .gone))) 30 ?_ ?_
  · refine vc_sound hE 60 _ _ _ 30 ?_
    refine ⟨(n : Int), (room : Int), rfl, ?_⟩
    rw [hm]
    exact ⟨tau [], r0.1, (by repeat' (first | exact rfl | exact trivial | assumption | refine ⟨?_, ?_⟩)), r0.2⟩
  refine W_seq (nx := 30) ?_
  refine W_to (nx := 30) [(0, .int .i64 (n : Int)), (1, .int .i64 (room : Int)), (2, .slice 100 0 len cap), (7, .ptr 8 0 0)] (HLw bL bM bR n room [] e0 c0 (gg (RP eX .gone .gone))) 30 ?_ ?_
  · refine vc_sound hE 60 _ _ _ 30 ?_
    exact ⟨tau [], r0.1, (by repeat' (first | exact rfl | exact trivial | assumption | refine ⟨?_, ?_⟩)), r0.2⟩
  refine W_seq (nx := 30) ?_
  refine W_ex (nx := 30) (fun (_ : Nat) => True) (fun _ => [(2, .slice 100 0 len cap), (7, .ptr 8 0 0), (9, .ptr 40 0 0)]) (fun bF => HLw bL bM bR n room [] e0 c0 (gg (RP eX (e4 bF n room 0 0) nilP))) 30 ?_ ?_
  · refine vc_sound hE 40 _ _ _ 30 ?_
    refine ⟨n, room, rfl, rfl, rfl, fun bF => ?_⟩
    have v : live (HLw bL bM bR n room [] e0 c0 (gg (RP eX (e4 bF n room 0 0) nilP))) 100 := vX
    have v41 : live (HLw bL bM bR n room [] e0 c0 (gg (RP eX (e4 bF n room 0 0) nilP))) 41 := trivial
    exact ⟨bF, trivial, tau [], keysR rfl (fun _ => rfl) rfl, (by repeat' (first | exact rfl | exact trivial | assumption | refine ⟨?_, ?_⟩)), HLw.wkA (S := []) [(40, _), (41, _)] rfl (gg.mid (lowP _ _)) (gg.mid (lowP _ _)) l0 rfl rfl rfl (fun _ => rfl) rfl rfl (wkH_app (A := RP eX (e4 bF n room 0 0) nilP) ⟨wX _ _, e4_wk rfl v41, nilPE.wk _ _, wG _ _ _⟩ ⟨wk_gone, wk_gone, trivial⟩)⟩
  rintro bF -
  refine W_seq (nx := 30) ?_
  refine W_piece (nx := 30) (fun _ _ _ => True) ?_ ?_
  rotate_left
  · intro σ1 h1 _ _
    refine vc_sound hE 60 _ _ _ 30 ?_
    rfl
  have hfit0 : Fit n room [] := ⟨by simp, hbd.2.2.2, hbd.2.1, by simp, by simp, by simp⟩
  have vP : ∀ S e cp eD cD, live (HLw bL bM bR n room S e cp (gg (RP eX (e4 bF n room S.length cD) eD))) 100 := fun _ _ _ _ _ => vX
  have vF : ∀ S e cp eD cD, live (HLw bL bM bR n room S e cp (gg (RP eX (e4 bF n room S.length cD) eD))) 40 := fun _ _ _ _ _ => trivial
  have reP : ∀ (S : Std) (e : Nat → Ent) (cp : Nat → Nat) (eD : Ent) (cD : Nat), LsOK n S e cp → stE eD S cD → nodupB (((HLw bL bM bR n room S e cp (gg (RP eX (e4 bF n room S.length cD) eD))).map (·.1)).map (tau [])) = true ∧ wkH (tau []) (HLw bL bM bR n room S e cp (gg (RP eX (e4 bF n room S.length cD) eD))) (HLw bL bM bR n room S e cp (gg (RP eX (e4 bF n room S.length cD) eD))) (HLw bL bM bR n room S e cp (gg (RP eX (e4 bF n room S.length cD) eD))) := fun S e cp eD cD hL hs => HLw.re [] (tau []) rfl (lowP _ _) (lowP _ _) hL rfl rfl rfl rfl rfl (fun _ => rfl) rfl rfl ⟨wX _ _, e4_wk rfl hs.here, hs.wk _ _, wG _ _ _⟩
  refine vc_sound hE 5 _ _ _ 30 ?_
  have v := vP [] e0 c0 nilP 0
  have w := vF [] e0 c0 nilP 0
  have rr := reP [] e0 c0 nilP 0 l0 nilPE
  refine W_loop (fun q σ h => ∃ (i : Nat) (S : Std) (e : Nat → Ent) (cp : Nat → Nat) (eD : Ent) (cD : Nat), q = len - i ∧ i ≤ len ∧ i ≤ 150 ∧ Fit n room S ∧ LsOK n S e cp ∧ stE eD S cD ∧ σ = [(2, .slice 100 0 len cap), (7, .ptr 8 0 0), (9, .ptr 40 0 0), (10, .int .i64 (i : Int))] ∧ h = HLw bL bM bR n room S e cp (gg (RP eX (e4 bF n room S.length cD) eD)))
    len ⟨0, [], e0, c0, nilP, 0, rfl, by omega, by omega, hfit0, l0, nilPE, rfl, rfl⟩ (tau []) ⟨rr.1, (by repeat' (first | exact rfl | exact trivial | assumption | refine ⟨?_, ?_⟩)), rr.2⟩ 60 ?_
  clear v w rr v0 r0
  rintro q σ h1 ⟨i, S, e, cp, eD, cD, rfl, hi, hi150, hF, hL, hD, rfl, rfl⟩
  have v := vP S e cp eD cD
  have w := vF S e cp eD cD
  have rr := reP S e cp eD cD hL hD
  refine W_seq (nx := 60) ?_
  refine W_piece (nx := 60) (fun σ1 h1 _ => (i < len ∧ i < 150) ∧ ∃ τ, wk τ σ1 h1 [(2, .slice 100 0 len cap), (7, .ptr 8 0 0), (9, .ptr 40 0 0), (10, .int .i64 (i : Int))] (HLw bL bM bR n room S e cp (gg (RP eX (e4 bF n room S.length cD) eD)))) ?_ ?_
  · refine vc_sound hE 60 _ _ _ 60 ?_
    (refine (?_ : br _ _ _); refine br_dec (fun q => ?_) (fun q => ?_))
    · have q1 : (i : Int) < (len : Int) := q
      (refine (?_ : br _ _ _); refine br_dec (fun q => ?_) (fun q => ?_))
      · have q2 : (i : Int) < 150 := q
        exact ⟨⟨by omega, by omega⟩, tau [], rr.1, (by repeat' (first | exact rfl | exact trivial | assumption | refine ⟨?_, ?_⟩)), rr.2⟩
      · exact trivial
    · exact trivial
  rintro σ1 h1 _ ⟨⟨hil, hi3⟩, τ1, hw1⟩
  refine W_weak (nx' := 60) τ1 hw1 ?_
  clear hw1
  have hwi : IntKind.i64.wrap ((i : Int) + 1) = ((i + 1 : Nat) : Int) := by simp only [IntKind.wrap_i64]; omega
  have hz : addI 0 ((i : Int)).toNat = i := by rw [Int.toNat_natCast, addI_eq, Nat.zero_add]
  refine vc_sound hE 2 _ _ _ 60 ?_
  refine W_seq (nx := 60) ?_
  -- the act, in a row of its own
  have lowB : ∀ e40 e41 eA, Low (RB eX e40 e41 eA) := fun _ _ _ => rfl
  refine W_ex (nx := 60) (fun (_ : Nat) => True) (fun _ => [(2, .slice 100 0 len cap), (7, .ptr 8 0 0), (9, .ptr 40 0 0), (10, .int .i64 (i : Int)), (11, .ptr 220 0 0)]) (fun bx => HLw bL bM bR n room S e cp (gg (RB eX (e4 bF n room S.length cD) eD (.blk bx 1 3 (gA (z i 0) (z i 1) (z i 2)) 38)))) 60 ?_ ?_
  · subst hX
    refine vc_sound hE 60 _ _ _ 60 ?_
    (refine (?_ : chk _ _); refine chk_ok (show (decide ((0 : Int) ≤ (i : Int)) && decide ((i : Int) < (len : Int))) = true by simp only [Bool.and_eq_true, decide_eq_true_eq]; omega) ?_)
    (refine (?_ : chk _ _); refine chk_ok rfl ?_)
    (refine (?_ : chk _ _); refine chk_ok (Nat.ble_eq_true_of_le (show addI 0 ((i : Int)).toNat * 3 + 0 + 3 ≤ len * 3 by rw [hz]; omega)) ?_)
    rw [hz]
    intro bx
    refine ⟨bx, trivial, tau [(220, 60), (60, 220)], keysR rfl (fun _ => rfl) rfl, (by repeat' (first | exact rfl | exact trivial | assumption | refine ⟨?_, ?_⟩)), HLw.wkA [(60, _), (60, _)] rfl (gg.mid (lowP _ _)) (gg.mid (lowB _ _ _)) hL rfl rfl rfl (fun _ => rfl) rfl rfl (wkH_app (A := RB (.ro ub len 3 (gT z)) (e4 bF n room S.length cD) eD (.blk bx 1 3 (gA (z i 0) (z i 1) (z i 2)) 38)) ⟨wX _ _, e4_wk rfl hD.here, hD.wk _ _, ?_, wG _ _ _⟩ ⟨wk_gone, wk_gone, trivial⟩)⟩
    refine ⟨rfl, rfl, rfl, rfl, fun j k hj hk => ?_⟩
    have hj : j < 1 := hj
    have hk : k < 3 := hk
    obtain rfl : j = 0 := by omega
    match k, hk with
    | 0, _ => exact ⟨rfl, rfl⟩
    | 1, _ => exact ⟨rfl, rfl⟩
    | 2, _ => exact ⟨rfl, rfl⟩
  rintro bx -
  obtain ⟨eA, hA⟩ : ∃ eA : Ent, eA = .blk bx 1 3 (gA (z i 0) (z i 1) (z i 2)) 38 := ⟨_, rfl⟩
  have wA : ∀ τ h', wkE τ h' eA eA := fun τ h' => by rw [hA]; exact gA_wk _ _
  have vA : eA.here := by rw [hA]; trivial
  rw [← hA]
  have u0 : ∀ S e cp eD cD, live (HLw bL bM bR n room S e cp (gg (RB eX (e4 bF n room S.length cD) eD eA))) 100 := fun _ _ _ _ _ => vX
  have u4 : ∀ S e cp eD cD, live (HLw bL bM bR n room S e cp (gg (RB eX (e4 bF n room S.length cD) eD eA))) 40 := fun _ _ _ _ _ => trivial
  have u2 : ∀ S e cp eD cD, live (HLw bL bM bR n room S e cp (gg (RB eX (e4 bF n room S.length cD) eD eA))) 220 := fun _ _ _ _ _ => vA
  have reB : ∀ (S : Std) (e : Nat → Ent) (cp : Nat → Nat) (eD : Ent) (cD : Nat), LsOK n S e cp → stE eD S cD → nodupB (((HLw bL bM bR n room S e cp (gg (RB eX (e4 bF n room S.length cD) eD eA))).map (·.1)).map (tau [])) = true ∧ wkH (tau []) (HLw bL bM bR n room S e cp (gg (RB eX (e4 bF n room S.length cD) eD eA))) (HLw bL bM bR n room S e cp (gg (RB eX (e4 bF n room S.length cD) eD eA))) (HLw bL bM bR n room S e cp (gg (RB eX (e4 bF n room S.length cD) eD eA))) := fun S e cp eD cD hL hs => HLw.re [] (tau []) rfl (lowB _ _ _) (lowB _ _ _) hL rfl rfl rfl rfl rfl (fun _ => rfl) rfl rfl ⟨wX _ _, e4_wk rfl hs.here, hs.wk _ _, wA _ _, wG _ _ _⟩
  refine W_seq (nx := 60) ?_
  refine W_seq (nx := 60) ?_
  refine W_ex (nx := 60) (fun (a : Std × (Nat → Ent) × (Nat → Nat) × Ent × Nat) => Fit n room a.1 ∧ LsOK n a.1 a.2.1 a.2.2.1 ∧ stE a.2.2.2.1 a.1 a.2.2.2.2) (fun _ => [(2, .slice 100 0 len cap), (7, .ptr 8 0 0), (9, .ptr 40 0 0), (10, .int .i64 (i : Int)), (11, .ptr 220 0 0), (86, .bool false)]) (fun a => HLw bL bM bR n room a.1 a.2.1 a.2.2.1 (gg (RB eX (e4 bF n room a.1.length a.2.2.2.2) a.2.2.2.1 eA))) 60 ?_ ?_
  · have s0 := u0 S e cp eD cD
    have s2 := u2 S e cp eD cD
    have s4 := u4 S e cp eD cD
    subst hA
    have fin : ∀ {h' h'' : Hp} {g' : Nat → Nat → V} {S' : Std} {e' : Nat → Ent} {cp' : Nat → Nat} {τ : Nat → Nat} {e'' : Ent} {cp'' q' : Nat} {σ1 : Sl} {bb : Bool}, Ext (HLw bL bM bR n room S e cp (gg (RB eX (e4 bF n room S.length cD) eD (.blk bx 1 3 (gA (z i 0) (z i 1) (z i 2)) 38)))) h' → Else n (HLw bL bM bR n room S e cp (gg (RB eX (e4 bF n room S.length cD) eD (.blk bx 1 3 (gA (z i 0) (z i 1) (z i 2)) 38)))) h' → LnQ h' bL bM bR n room g' S' e' cp' τ → Ren1 τ → RfQ h' h'' bF n room S' e'' cp'' q' → Fit n room S' → bb = false → lk 2 σ1 = some (.slice 100 0 len cap) → lk 7 σ1 = some (.ptr 8 0 0) → lk 9 σ1 = some (.ptr 40 0 0) → lk 10 σ1 = some (.int .i64 (i : Int)) → lk 11 σ1 = some (.ptr 220 0 0) → lk 86 σ1 = some (.bool bb) →
      ∃ a : Std × (Nat → Ent) × (Nat → Nat) × Ent × Nat, (Fit n room a.1 ∧ LsOK n a.1 a.2.1 a.2.2.1 ∧ stE a.2.2.2.1 a.1 a.2.2.2.2) ∧ ∃ τ, wk τ σ1 h'' [(2, .slice 100 0 len cap), (7, .ptr 8 0 0), (9, .ptr 40 0 0), (10, .int .i64 (i : Int)), (11, .ptr 220 0 0), (86, .bool false)] (HLw bL bM bR n room a.1 a.2.1 a.2.2.1 (gg (RB eX (e4 bF n room a.1.length a.2.2.2.2) a.2.2.2.1 (.blk bx 1 3 (gA (z i 0) (z i 1) (z i 2)) 38)))) := by
      intro h' h'' g' S' e' cp' τ e'' cp'' q' σ1 bb _ k1 k2 hτ k3 hF' hb x2 x7 x9 x10 x11 x86
      obtain ⟨ρ, ⟨q1, q2⟩, r8, r40, r100, r220⟩ := play_back (S := S) (eX := eX) (eA := .blk bx 1 3 (gA (z i 0) (z i 1) (z i 2)) 38) wX (fun τ h' => gA_wk τ h') rfl rfl k1 k2 hτ k3
      have t0 := u0 S' e' cp' e'' cp''
      have t2 := u2 S' e' cp' e'' cp''
      have t4 := u4 S' e' cp' e'' cp''
      refine ⟨(S', e', cp', e'', cp''), ⟨hF', k2.is, k3.is⟩, ρ, q1, ⟨?_, ?_, ?_, ?_, ?_, ?_, trivial⟩, q2⟩
      · rw [x2]; exact ⟨⟨r100.symm, t0⟩, rfl, rfl, rfl⟩
      · rw [x7]; exact ⟨⟨r8.symm, trivial⟩, rfl, rfl⟩
      · rw [x9]; exact ⟨⟨r40.symm, t4⟩, rfl, rfl⟩
      · rw [x10]; exact ⟨rfl, rfl⟩
      · rw [x11]; exact ⟨⟨r220.symm, t2⟩, rfl, rfl⟩
      · rw [x86]; exact hb
    refine W_planw hE 60 [9, 15] (.take 0 (.take 1 (.take 2 (.take 3 (.take 4 (.take 5 (.take 6 (.take 7 (.take 8 (.take 10 (.take 11 (.take 13 (.all (.cons 9 (.all (.cons 12 (.all (.cons 14 (.all (.cons 15 (.take 16 (.all (.cons 17 (.done) (.nil)))) (.nil))) (.nil))) (.cons 14 (.all (.cons 12 (.all (.cons 15 (.take 16 (.all (.cons 17 (.done) (.nil)))) (.nil))) (.nil))) (.nil)))) (.cons 12 (.all (.cons 9 (.all (.cons 14 (.all (.cons 15 (.take 16 (.all (.cons 17 (.done) (.nil)))) (.nil))) (.nil))) (.cons 14 (.all (.cons 9 (.all (.cons 15 (.take 16 (.all (.cons 17 (.done) (.nil)))) (.nil))) (.nil))) (.nil)))) (.cons 14 (.all (.cons 9 (.all (.cons 12 (.all (.cons 15 (.take 16 (.all (.cons 17 (.done) (.nil)))) (.nil))) (.nil))) (.cons 12 (.all (.cons 9 (.all (.cons 15 (.take 16 (.all (.cons 17 (.done) (.nil)))) (.nil))) (.nil))) (.nil)))) (.nil))))))))))))))))) (by rw [hc]; exact mix) (by kernel_rfl) 60 ?_
    iterate 4 (refine ⟨_, ⟨rfl, rfl⟩, ?_⟩)
    (refine (?_ : br _ _ _); refine br_eq (fun q => ?_) (fun q => ?_))
    · iterate 8 (refine ⟨_, ⟨rfl, rfl⟩, ?_⟩)
      refine ⟨⟨trivial, ?_⟩, ⟨trivial, ?_⟩, ⟨trivial, ?_⟩, trivial⟩
      · refine ⟨bL, bM, bR, n, room, gR S cp, S, e, cp, z i 1, z i 2, rfl, HLw.q (gg.mid (lowB _ _ _)) hL, hF, (gg.gone (lowB _ _ _)).1, (gg.gone (lowB _ _ _)).2, fun h' g' e' cp' τ kx k1 k2 hτ _ => ?_⟩
        refine putS_some rfl ?_
        have f220 : fd 220 h' = .blk bx 1 3 (gA (z i 0) (z i 1) (z i 2)) 38 := k1 220 (by decide) (by decide) (.inl (by decide))
        refine ⟨⟨?_, ?_⟩, ⟨?_, ?_⟩, trivial⟩
        · (refine (?_ : getM _ _ _); refine getM_of (by rw [fd_roH, fd_roH, f220]; rfl) ?_)
          trivial
        · (refine (?_ : getM _ _ _); refine getM_of (by rw [fd_roH, f220]; rfl) ?_)
          (refine (?_ : chk _ _); refine chk_ok rfl ?_)
          (refine (?_ : chk _ _); refine chk_ok rfl ?_)
          refine Eq.mpr (force_eq _ _) ?_
          refine putS_some rfl ?_
          refine ⟨⟨?_, ?_⟩, trivial⟩
          · (refine (?_ : getM _ _ _); refine getM_of (by rw [fd_roH, fd_roH, f220]; rfl) ?_)
            trivial
          · (refine (?_ : getM _ _ _); refine getM_of (by rw [fd_roH, f220]; rfl) ?_)
            (refine (?_ : chk _ _); refine chk_ok rfl ?_)
            (refine (?_ : chk _ _); refine chk_ok rfl ?_)
            refine Eq.mpr (force_eq _ _) ?_
            refine putS_some rfl ?_
            refine ⟨⟨trivial, ?_⟩, trivial⟩
            · refine ⟨bF, n, room, S, eD, cD, z i 1, z i 2, rfl, ⟨k1 40 (by decide) (by decide) (.inl (by decide)), k1 41 (by decide) (by decide) (.inl (by decide)), hD⟩, hF, fun k w1 w2 => (k1 k (by omega) (by omega) (.inl (by omega))).trans (by rcases (show k = 2850 ∨ k = 2851 ∨ k = 2852 ∨ k = 2853 by omega) with rfl | rfl | rfl | rfl <;> rfl), fun h'' e'' cp'' q' kx2 k3 => ?_⟩
              refine putS_some rfl ?_
              refine ⟨_, ⟨rfl, rfl⟩, ?_⟩
              refine ⟨⟨trivial, ?_⟩, trivial⟩
              exact fin kx k1 k2 hτ k3 (hF.push _ _) (by simp) rfl rfl rfl rfl rfl rfl
        · (refine (?_ : getM _ _ _); refine getM_of (by rw [fd_roH, fd_roH, f220]; rfl) ?_)
          trivial
        · (refine (?_ : getM _ _ _); refine getM_of (by rw [fd_roH, f220]; rfl) ?_)
          (refine (?_ : chk _ _); refine chk_ok rfl ?_)
          (refine (?_ : chk _ _); refine chk_ok rfl ?_)
          refine Eq.mpr (force_eq _ _) ?_
          refine putS_some rfl ?_
          refine ⟨⟨?_, ?_⟩, trivial⟩
          · (refine (?_ : getM _ _ _); refine getM_of (by rw [fd_roH, fd_roH, f220]; rfl) ?_)
            trivial
          · (refine (?_ : getM _ _ _); refine getM_of (by rw [fd_roH, f220]; rfl) ?_)
            (refine (?_ : chk _ _); refine chk_ok rfl ?_)
            (refine (?_ : chk _ _); refine chk_ok rfl ?_)
            refine Eq.mpr (force_eq _ _) ?_
            refine putS_some rfl ?_
            refine ⟨⟨trivial, ?_⟩, trivial⟩
            · refine ⟨bF, n, room, S, eD, cD, z i 1, z i 2, rfl, ⟨k1 40 (by decide) (by decide) (.inl (by decide)), k1 41 (by decide) (by decide) (.inl (by decide)), hD⟩, hF, fun k w1 w2 => (k1 k (by omega) (by omega) (.inl (by omega))).trans (by rcases (show k = 2850 ∨ k = 2851 ∨ k = 2852 ∨ k = 2853 by omega) with rfl | rfl | rfl | rfl <;> rfl), fun h'' e'' cp'' q' kx2 k3 => ?_⟩
              refine putS_some rfl ?_
              refine ⟨_, ⟨rfl, rfl⟩, ?_⟩
              refine ⟨⟨trivial, ?_⟩, trivial⟩
              exact fin kx k1 k2 hτ k3 (hF.push _ _) (by simp) rfl rfl rfl rfl rfl rfl
      · skip
        refine ⟨⟨trivial, ?_⟩, ⟨trivial, ?_⟩, trivial⟩
        · refine ⟨bL, bM, bR, n, room, gR S cp, S, e, cp, z i 1, z i 2, rfl, HLw.q (gg.mid (lowB _ _ _)) hL, hF, (gg.gone (lowB _ _ _)).1, (gg.gone (lowB _ _ _)).2, fun h' g' e' cp' τ kx k1 k2 hτ _ => ?_⟩
          refine putS_some rfl ?_
          have f220 : fd 220 h' = .blk bx 1 3 (gA (z i 0) (z i 1) (z i 2)) 38 := k1 220 (by decide) (by decide) (.inl (by decide))
          refine ⟨⟨?_, ?_⟩, trivial⟩
          · (refine (?_ : getM _ _ _); refine getM_of (by rw [fd_roH, fd_roH, f220]; rfl) ?_)
            trivial
          · (refine (?_ : getM _ _ _); refine getM_of (by rw [fd_roH, f220]; rfl) ?_)
            (refine (?_ : chk _ _); refine chk_ok rfl ?_)
            (refine (?_ : chk _ _); refine chk_ok rfl ?_)
            refine Eq.mpr (force_eq _ _) ?_
            refine putS_some rfl ?_
            refine ⟨⟨trivial, ?_⟩, trivial⟩
            · refine ⟨bF, n, room, S, eD, cD, z i 1, z i 2, rfl, ⟨k1 40 (by decide) (by decide) (.inl (by decide)), k1 41 (by decide) (by decide) (.inl (by decide)), hD⟩, hF, fun k w1 w2 => (k1 k (by omega) (by omega) (.inl (by omega))).trans (by rcases (show k = 2850 ∨ k = 2851 ∨ k = 2852 ∨ k = 2853 by omega) with rfl | rfl | rfl | rfl <;> rfl), fun h'' e'' cp'' q' kx2 k3 => ?_⟩
              refine putS_some rfl ?_
              refine ⟨_, ⟨rfl, rfl⟩, ?_⟩
              refine ⟨⟨trivial, ?_⟩, trivial⟩
              exact fin kx k1 k2 hτ k3 (hF.push _ _) (by simp) rfl rfl rfl rfl rfl rfl
        · skip
          refine ⟨⟨trivial, ?_⟩, trivial⟩
          · refine ⟨bL, bM, bR, n, room, gR S cp, S, e, cp, z i 1, z i 2, rfl, HLw.q (gg.mid (lowB _ _ _)) hL, hF, (gg.gone (lowB _ _ _)).1, (gg.gone (lowB _ _ _)).2, fun h' g' e' cp' τ kx k1 k2 hτ _ => ?_⟩
            refine putS_some rfl ?_
            have f220 : fd 220 h' = .blk bx 1 3 (gA (z i 0) (z i 1) (z i 2)) 38 := k1 220 (by decide) (by decide) (.inl (by decide))
            refine ⟨⟨trivial, ?_⟩, trivial⟩
            · refine ⟨bF, n, room, S, eD, cD, z i 1, z i 2, rfl, ⟨k1 40 (by decide) (by decide) (.inl (by decide)), k1 41 (by decide) (by decide) (.inl (by decide)), hD⟩, hF, fun k w1 w2 => (k1 k (by omega) (by omega) (.inl (by omega))).trans (by rcases (show k = 2850 ∨ k = 2851 ∨ k = 2852 ∨ k = 2853 by omega) with rfl | rfl | rfl | rfl <;> rfl), fun h'' e'' cp'' q' kx2 k3 => ?_⟩
              refine putS_some rfl ?_
              refine ⟨_, ⟨rfl, rfl⟩, ?_⟩
              refine ⟨⟨trivial, ?_⟩, trivial⟩
              exact fin kx k1 k2 hτ k3 (hF.push _ _) (by simp) rfl rfl rfl rfl rfl rfl
      · skip
        refine ⟨⟨trivial, ?_⟩, ⟨trivial, ?_⟩, trivial⟩
        · refine ⟨bL, bM, bR, n, room, gR S cp, S, e, cp, z i 1, z i 2, rfl, HLw.q (gg.mid (lowB _ _ _)) hL, hF, (gg.gone (lowB _ _ _)).1, (gg.gone (lowB _ _ _)).2, fun h' g' e' cp' τ kx k1 k2 hτ _ => ?_⟩
          refine putS_some rfl ?_
          have f220 : fd 220 h' = .blk bx 1 3 (gA (z i 0) (z i 1) (z i 2)) 38 := k1 220 (by decide) (by decide) (.inl (by decide))
          refine ⟨⟨?_, ?_⟩, trivial⟩
          · (refine (?_ : getM _ _ _); refine getM_of (by rw [fd_roH, fd_roH, f220]; rfl) ?_)
            trivial
          · (refine (?_ : getM _ _ _); refine getM_of (by rw [fd_roH, f220]; rfl) ?_)
            (refine (?_ : chk _ _); refine chk_ok rfl ?_)
            (refine (?_ : chk _ _); refine chk_ok rfl ?_)
            refine Eq.mpr (force_eq _ _) ?_
            refine putS_some rfl ?_
            refine ⟨⟨trivial, ?_⟩, trivial⟩
            · refine ⟨bF, n, room, S, eD, cD, z i 1, z i 2, rfl, ⟨k1 40 (by decide) (by decide) (.inl (by decide)), k1 41 (by decide) (by decide) (.inl (by decide)), hD⟩, hF, fun k w1 w2 => (k1 k (by omega) (by omega) (.inl (by omega))).trans (by rcases (show k = 2850 ∨ k = 2851 ∨ k = 2852 ∨ k = 2853 by omega) with rfl | rfl | rfl | rfl <;> rfl), fun h'' e'' cp'' q' kx2 k3 => ?_⟩
              refine putS_some rfl ?_
              refine ⟨_, ⟨rfl, rfl⟩, ?_⟩
              refine ⟨⟨trivial, ?_⟩, trivial⟩
              exact fin kx k1 k2 hτ k3 (hF.push _ _) (by simp) rfl rfl rfl rfl rfl rfl
        · skip
          refine ⟨⟨trivial, ?_⟩, trivial⟩
          · refine ⟨bL, bM, bR, n, room, gR S cp, S, e, cp, z i 1, z i 2, rfl, HLw.q (gg.mid (lowB _ _ _)) hL, hF, (gg.gone (lowB _ _ _)).1, (gg.gone (lowB _ _ _)).2, fun h' g' e' cp' τ kx k1 k2 hτ _ => ?_⟩
            refine putS_some rfl ?_
            have f220 : fd 220 h' = .blk bx 1 3 (gA (z i 0) (z i 1) (z i 2)) 38 := k1 220 (by decide) (by decide) (.inl (by decide))
            refine ⟨⟨trivial, ?_⟩, trivial⟩
            · refine ⟨bF, n, room, S, eD, cD, z i 1, z i 2, rfl, ⟨k1 40 (by decide) (by decide) (.inl (by decide)), k1 41 (by decide) (by decide) (.inl (by decide)), hD⟩, hF, fun k w1 w2 => (k1 k (by omega) (by omega) (.inl (by omega))).trans (by rcases (show k = 2850 ∨ k = 2851 ∨ k = 2852 ∨ k = 2853 by omega) with rfl | rfl | rfl | rfl <;> rfl), fun h'' e'' cp'' q' kx2 k3 => ?_⟩
              refine putS_some rfl ?_
              refine ⟨_, ⟨rfl, rfl⟩, ?_⟩
              refine ⟨⟨trivial, ?_⟩, trivial⟩
              exact fin kx k1 k2 hτ k3 (hF.push _ _) (by simp) rfl rfl rfl rfl rfl rfl
    · skip
      refine ⟨?_, ?_, ?_, trivial⟩
      · skip
        refine ⟨?_, ?_, trivial⟩
        · skip
          refine ⟨?_, trivial⟩
          · skip
            refine ⟨?_, trivial⟩
            · refine ⟨⟨trivial, ?_⟩, trivial⟩
              exact fin (Ext.refl _) (fun _ _ _ _ => rfl) (HLw.q (gg.mid (lowB _ _ _)) hL) Ren1.id (RfW.q (HLw.rf hD) (fun _ => rfl)) hF rfl rfl rfl rfl rfl rfl rfl
        · skip
          refine ⟨?_, trivial⟩
          · skip
            refine ⟨?_, trivial⟩
            · refine ⟨⟨trivial, ?_⟩, trivial⟩
              exact fin (Ext.refl _) (fun _ _ _ _ => rfl) (HLw.q (gg.mid (lowB _ _ _)) hL) Ren1.id (RfW.q (HLw.rf hD) (fun _ => rfl)) hF rfl rfl rfl rfl rfl rfl rfl
      · skip
        refine ⟨?_, ?_, trivial⟩
        · skip
          refine ⟨?_, trivial⟩
          · skip
            refine ⟨?_, trivial⟩
            · refine ⟨⟨trivial, ?_⟩, trivial⟩
              exact fin (Ext.refl _) (fun _ _ _ _ => rfl) (HLw.q (gg.mid (lowB _ _ _)) hL) Ren1.id (RfW.q (HLw.rf hD) (fun _ => rfl)) hF rfl rfl rfl rfl rfl rfl rfl
        · skip
          refine ⟨?_, trivial⟩
          · skip
            refine ⟨?_, trivial⟩
            · refine ⟨⟨trivial, ?_⟩, trivial⟩
              exact fin (Ext.refl _) (fun _ _ _ _ => rfl) (HLw.q (gg.mid (lowB _ _ _)) hL) Ren1.id (RfW.q (HLw.rf hD) (fun _ => rfl)) hF rfl rfl rfl rfl rfl rfl rfl
      · skip
        refine ⟨?_, ?_, trivial⟩
        · skip
          refine ⟨?_, trivial⟩
          · skip
            refine ⟨?_, trivial⟩
            · refine ⟨⟨trivial, ?_⟩, trivial⟩
              exact fin (Ext.refl _) (fun _ _ _ _ => rfl) (HLw.q (gg.mid (lowB _ _ _)) hL) Ren1.id (RfW.q (HLw.rf hD) (fun _ => rfl)) hF rfl rfl rfl rfl rfl rfl rfl
        · skip
          refine ⟨?_, trivial⟩
          · skip
            refine ⟨?_, trivial⟩
            · refine ⟨⟨trivial, ?_⟩, trivial⟩
              exact fin (Ext.refl _) (fun _ _ _ _ => rfl) (HLw.q (gg.mid (lowB _ _ _)) hL) Ren1.id (RfW.q (HLw.rf hD) (fun _ => rfl)) hF rfl rfl rfl rfl rfl rfl rfl
  rintro ⟨S', e', cp', eD', cD'⟩ ⟨hF', hL', hD'⟩
  have hF' : Fit n room S' := hF'
  have hL' : LsOK n S' e' cp' := hL'
  have hD' : stE eD' S' cD' := hD'
  clear v w rr hF hL hD
  clear S e cp eD cD
  have s0 := u0 S' e' cp' eD' cD'
  have s2 := u2 S' e' cp' eD' cD'
  have s4 := u4 S' e' cp' eD' cD'
  have rb := reB S' e' cp' eD' cD' hL' hD'
  refine W_to (nx := 60) [(2, .slice 100 0 len cap), (7, .ptr 8 0 0), (9, .ptr 40 0 0), (10, .int .i64 (i : Int)), (11, .ptr 220 0 0)] (HLw bL bM bR n room S' e' cp' (gg (RB eX (e4 bF n room S'.length cD') eD' eA))) 60 ?_ ?_
  · refine vc_sound hE 60 _ _ _ 60 ?_
    exact ⟨tau [], rb.1, (by repeat' (first | exact rfl | exact trivial | assumption | refine ⟨?_, ?_⟩)), rb.2⟩
  refine W_seq (nx := 60) ?_
  refine W_ex (nx := 60) (fun (a : Std × (Nat → Ent) × (Nat → Nat) × Ent × Nat) => Fit n room a.1 ∧ LsOK n a.1 a.2.1 a.2.2.1 ∧ stE a.2.2.2.1 a.1 a.2.2.2.2) (fun _ => [(2, .slice 100 0 len cap), (7, .ptr 8 0 0), (9, .ptr 40 0 0), (10, .int .i64 (i : Int)), (11, .ptr 220 0 0)]) (fun a => HLw bL bM bR n room a.1 a.2.1 a.2.2.1 (gg (RB eX (e4 bF n room a.1.length a.2.2.2.2) a.2.2.2.1 eA))) 60 ?_ ?_
  · subst hA
    refine vc_sound hE 200 _ _ _ 60 ?_
    (refine (?_ : br _ _ _); refine br_eq (fun q => ?_) (fun q => ?_))
    · refine ⟨bL, bM, bR, n, room, gR S' cp', S', e', cp', z i 2, rfl, HLw.q (gg.mid (lowB _ _ _)) hL', hF', fun h1 g1 e1 cp1 kx k1 k2 => ?_⟩
      have f220 : fd 220 h1 = .blk bx 1 3 (gA (z i 0) (z i 1) (z i 2)) 38 := k1 220 (by decide) (by decide) (.inl (by decide))
      (refine (?_ : getM _ _ _); refine getM_of (by rw [fd_roH, f220]; rfl) ?_)
      (refine (?_ : chk _ _); refine chk_ok rfl ?_)
      (refine (?_ : chk _ _); refine chk_ok rfl ?_)
      refine Eq.mpr (force_eq _ _) ?_
      refine ⟨bF, n, room, S', eD', cD', z i 2, rfl, ⟨k1 40 (by decide) (by decide) (.inl (by decide)), k1 41 (by decide) (by decide) (.inl (by decide)), hD'⟩, hF', fun k w1 w2 => (k1 k (by omega) (by omega) (.inl (by omega))).trans (by rcases (show k = 2850 ∨ k = 2851 ∨ k = 2852 ∨ k = 2853 by omega) with rfl | rfl | rfl | rfl <;> rfl), fun h2 e2 cp2 q2 kx2 k3 => ?_⟩
      repeat (refine (?_ : br _ _ _); refine br_neF rfl ?_)
      obtain ⟨ρ, ⟨y1, y2⟩, r8, r40, r100, r220⟩ := play_back (S := S') (eX := eX) (eA := .blk bx 1 3 (gA (z i 0) (z i 1) (z i 2)) 38) wX (fun τ h' => gA_wk τ h') rfl rfl k1 k2 Ren1.id k3
      exact ⟨(pullS S' (z i 2), e1, cp1, e2, cp2), ⟨hF'.pull _, k2.is, k3.is⟩, ρ, y1, ⟨⟨⟨r100.symm, u0 _ _ _ _ _⟩, rfl, rfl, rfl⟩, ⟨⟨r8.symm, trivial⟩, rfl, rfl⟩, ⟨⟨r40.symm, u4 _ _ _ _ _⟩, rfl, rfl⟩, ⟨rfl, rfl⟩, ⟨⟨r220.symm, u2 _ _ _ _ _⟩, rfl, rfl⟩, trivial⟩, y2⟩
    · exact ⟨(S', e', cp', eD', cD'), ⟨hF', hL', hD'⟩, tau [], rb.1, (by repeat' (first | exact rfl | exact trivial | assumption | refine ⟨?_, ?_⟩)), rb.2⟩
  rintro ⟨S, e, cp, eD, cD⟩ ⟨hF, hL, hD⟩
  have hF : Fit n room S := hF
  have hL : LsOK n S e cp := hL
  have hD : stE eD S cD := hD
  have s0 := u0 S e cp eD cD
  have s2 := u2 S e cp eD cD
  have s4 := u4 S e cp eD cD
  have rb := reB S e cp eD cD hL hD
  have hI : laneB S (z i 1) = laneI n S (z i 1) := (laneB_I hF).symm
  have hEL : ∀ last, endI (laneI n S (z i 1)) last = endL n S (z i 1) last := fun last => by
    unfold laneI endL
    by_cases q : isI n (z i 1) = true
    · rw [if_pos q, if_pos q]
    · rw [if_neg q, if_neg q]; rfl
  have hlenS : S.length ≤ 100000 := by have := hF.len; have := hF.room; omega
  refine W_seq (nx := 60) ?_
  refine W_to (nx := 60) [(2, .slice 100 0 len cap), (7, .ptr 8 0 0), (9, .ptr 40 0 0), (10, .int .i64 (i : Int)), (11, .ptr 220 0 0), (16, .int .i64 (endL n S (z i 1) false).1), (17, .bool (endL n S (z i 1) false).2)] (HLw bL bM bR n room S e cp (gg (RB eX (e4 bF n room S.length cD) eD eA))) 60 ?_ ?_
  · subst hA
    refine vc_sound hE 30 _ _ _ 60 ?_
    refine ⟨bL, bM, bR, n, room, gR S cp, S, _, cp, z i 1, rfl, (HLw.q (gg.mid (lowB _ _ _)) hL).rd Ren1.id, hF, ?_⟩
    exact ⟨tau [], rb.1, (by repeat' (first | exact rfl | exact trivial | assumption | refine ⟨?_, ?_⟩)), rb.2⟩
  refine W_seq (nx := 60) ?_
  refine W_to (nx := 60) [(2, .slice 100 0 len cap), (7, .ptr 8 0 0), (9, .ptr 40 0 0), (10, .int .i64 (i : Int)), (11, .ptr 220 0 0), (16, .int .i64 (endL n S (z i 1) false).1), (17, .bool (endL n S (z i 1) false).2), (18, .int .i64 (endL n S (z i 1) false).1), (19, .bool (endL n S (z i 1) false).2)] (HLw bL bM bR n room S e cp (gg (RB eX (e4 bF n room S.length cD) eD eA))) 60 ?_ ?_
  · subst hA
    refine vc_sound hE 30 _ _ _ 60 ?_
    refine ⟨bF, n, room, S, _, cD, z i 1, rfl, (HLw.rf hD).rd, hlenS, ?_⟩
    rw [hI, hEL]
    exact ⟨tau [], rb.1, (by repeat' (first | exact rfl | exact trivial | assumption | refine ⟨?_, ?_⟩)), rb.2⟩
  refine W_seq (nx := 60) ?_
  refine W_to (nx := 60) [(2, .slice 100 0 len cap), (7, .ptr 8 0 0), (9, .ptr 40 0 0), (10, .int .i64 (i : Int)), (11, .ptr 220 0 0), (16, .int .i64 (endL n S (z i 1) false).1), (17, .bool (endL n S (z i 1) false).2), (18, .int .i64 (endL n S (z i 1) false).1), (19, .bool (endL n S (z i 1) false).2), (20, .int .i64 (endL n S (z i 1) true).1), (21, .bool (endL n S (z i 1) true).2)] (HLw bL bM bR n room S e cp (gg (RB eX (e4 bF n room S.length cD) eD eA))) 60 ?_ ?_
  · subst hA
    refine vc_sound hE 30 _ _ _ 60 ?_
    refine ⟨bL, bM, bR, n, room, gR S cp, S, _, cp, z i 1, rfl, (HLw.q (gg.mid (lowB _ _ _)) hL).rd Ren1.id, hF, ?_⟩
    exact ⟨tau [], rb.1, (by repeat' (first | exact rfl | exact trivial | assumption | refine ⟨?_, ?_⟩)), rb.2⟩
  refine W_seq (nx := 60) ?_
  refine W_to (nx := 60) [(2, .slice 100 0 len cap), (7, .ptr 8 0 0), (9, .ptr 40 0 0), (10, .int .i64 (i : Int)), (11, .ptr 220 0 0), (16, .int .i64 (endL n S (z i 1) false).1), (17, .bool (endL n S (z i 1) false).2), (18, .int .i64 (endL n S (z i 1) false).1), (19, .bool (endL n S (z i 1) false).2), (20, .int .i64 (endL n S (z i 1) true).1), (21, .bool (endL n S (z i 1) true).2), (22, .int .i64 (endL n S (z i 1) true).1), (23, .bool (endL n S (z i 1) true).2)] (HLw bL bM bR n room S e cp (gg (RB eX (e4 bF n room S.length cD) eD eA))) 60 ?_ ?_
  · subst hA
    refine vc_sound hE 30 _ _ _ 60 ?_
    refine ⟨bF, n, room, S, _, cD, z i 1, rfl, (HLw.rf hD).rd, hlenS, ?_⟩
    rw [hI, hEL]
    exact ⟨tau [], rb.1, (by repeat' (first | exact rfl | exact trivial | assumption | refine ⟨?_, ?_⟩)), rb.2⟩
  refine W_seq (nx := 60) ?_
  refine W_to (nx := 60) [(2, .slice 100 0 len cap), (7, .ptr 8 0 0), (9, .ptr 40 0 0), (10, .int .i64 (i : Int)), (11, .ptr 220 0 0), (16, .int .i64 (endL n S (z i 1) false).1), (17, .bool (endL n S (z i 1) false).2), (18, .int .i64 (endL n S (z i 1) false).1), (19, .bool (endL n S (z i 1) false).2), (20, .int .i64 (endL n S (z i 1) true).1), (21, .bool (endL n S (z i 1) true).2), (22, .int .i64 (endL n S (z i 1) true).1), (23, .bool (endL n S (z i 1) true).2), (24, .int .i64 (blkT S (z i 2))), (25, .bool (hasT S (z i 2)))] (HLw bL bM bR n room S e cp (gg (RB eX (e4 bF n room S.length cD) eD eA))) 60 ?_ ?_
  · subst hA
    refine vc_sound hE 30 _ _ _ 60 ?_
    refine ⟨n, room, mpS S, z i 2, rfl, (HLw.q (gg.mid (lowB _ _ _)) hL).ro, ?_⟩
    rw [mget_S, mhas_S]
    exact ⟨tau [], rb.1, (by repeat' (first | exact rfl | exact trivial | assumption | refine ⟨?_, ?_⟩)), rb.2⟩
  refine W_seq (nx := 60) ?_
  refine W_to (nx := 60) [(2, .slice 100 0 len cap), (7, .ptr 8 0 0), (9, .ptr 40 0 0), (10, .int .i64 (i : Int)), (11, .ptr 220 0 0), (16, .int .i64 (endL n S (z i 1) false).1), (17, .bool (endL n S (z i 1) false).2), (18, .int .i64 (endL n S (z i 1) false).1), (19, .bool (endL n S (z i 1) false).2), (20, .int .i64 (endL n S (z i 1) true).1), (21, .bool (endL n S (z i 1) true).2), (22, .int .i64 (endL n S (z i 1) true).1), (23, .bool (endL n S (z i 1) true).2), (24, .int .i64 (blkT S (z i 2))), (25, .bool (hasT S (z i 2))), (26, .int .i64 (blkT S (z i 2))), (27, .bool (hasT S (z i 2)))] (HLw bL bM bR n room S e cp (gg (RB eX (e4 bF n room S.length cD) eD eA))) 60 ?_ ?_
  · subst hA
    refine vc_sound hE 30 _ _ _ 60 ?_
    refine ⟨bF, n, room, S, _, cD, z i 2, rfl, (HLw.rf hD).rd, hlenS, ?_⟩
    exact ⟨tau [], rb.1, (by repeat' (first | exact rfl | exact trivial | assumption | refine ⟨?_, ?_⟩)), rb.2⟩
  generalize (endL n S (z i 1) false).1 = x1
  generalize (endL n S (z i 1) false).2 = y1
  generalize (endL n S (z i 1) true).1 = x2
  generalize (endL n S (z i 1) true).2 = y2
  generalize blkT S (z i 2) = x3
  generalize hasT S (z i 2) = y3
  refine W_seq (nx := 60) ?_
  refine W_to (nx := 60) [(2, .slice 100 0 len cap), (7, .ptr 8 0 0), (9, .ptr 40 0 0), (10, .int .i64 (i : Int)), (11, .ptr 220 0 0), (211, .bool false)] (HLw bL bM bR n room S e cp (gg (RB eX (e4 bF n room S.length cD) eD eA))) 60 ?_ ?_
  · subst hA
    refine W_planw hE 60 [] (.take 0 (.take 1 (.take 2 (.take 3 (.take 4 (.take 5 (.take 6 (.take 7 (.take 8 (.take 9 (.take 10 (.take 11 (.take 12 (.take 13 (.take 14 (.take 15 (.take 16 (.take 17 (.take 18 (.take 19 (.take 20 (.take 21 (.take 22 (.take 23 (.take 24 (.take 25 (.take 26 (.take 27 (.take 28 (.take 29 (.take 30 (.take 31 (.take 32 (.take 33 (.take 34 (.take 35 (.take 36 (.take 37 (.take 38 (.take 39 (.take 40 (.take 41 (.take 43 (.take 44 (.take 45 (.all (.cons 42 (.all (.cons 46 (.take 47 (.take 48 (.take 49 (.take 50 (.take 51 (.take 53 (.all (.cons 52 (.all (.cons 54 (.take 55 (.take 56 (.take 57 (.done)))) (.nil))) (.nil))))))))) (.nil))) (.nil)))))))))))))))))))))))))))))))))))))))))))))))) (by rw [hc]; exact mix) (by kernel_rfl) 60 ?_
    have hlS2 : (((mpS S).length : Nat) : Int) = ((S.length : Nat) : Int) := by rw [mpS_len]
    have hLB : (laneB S (z i 1)).length ≤ 100000 := by unfold laneB; rw [List.length_map]; exact Nat.le_trans (List.length_filter_le _ _) hlenS
    have hLI : (laneI n S (z i 1)).length ≤ 100000 := by rw [← hI]; exact hLB
    have hHL := headsN_len (S := S) (j := n)
    have hLB2 : (!(decide (laneI n S (z i 1) = laneB S (z i 1)))) = false := by rw [hI]; simp
    repeat (first | refine ⟨_, ⟨rfl, rfl⟩, ?_⟩ | (refine (?_ : br _ _ _); refine br_neF rfl ?_) | (refine (?_ : br _ _ _); refine br_neF hlS2 ?_) | (refine (?_ : br _ _ _); refine br_f hLB2 ?_) | (refine (?_ : br _ _ _); refine br_f (by simp) ?_))
    refine putS_some rfl ?_
    refine ⟨_, ⟨n, room, mpS S, rfl, (((HLw.q (gg.mid (lowB _ _ _)) hL).rd Ren1.id).roH).ro, rfl, rfl⟩, ?_⟩
    repeat (first | refine ⟨_, ⟨rfl, rfl⟩, ?_⟩ | (refine (?_ : br _ _ _); refine br_neF rfl ?_) | (refine (?_ : br _ _ _); refine br_neF hlS2 ?_) | (refine (?_ : br _ _ _); refine br_f hLB2 ?_) | (refine (?_ : br _ _ _); refine br_f (by simp) ?_))
    refine putS_some rfl ?_
    refine ⟨⟨bL, bM, bR, n, room, gR S cp, S, _, cp, z i 1, rfl, ((HLw.q (gg.mid (lowB _ _ _)) hL).rd Ren1.id).roH, hF, rfl, fun e1 cap1 hl1 => oneNew_lst hl1 rfl ?_⟩, trivial⟩
    refine putS_some rfl ?_
    refine ⟨⟨bF, n, room, S, _, cD, z i 1, rfl, (RfW.rd (⟨rfl, rfl, hD⟩ : RfW _ bF n room S eD cD)).roH, hlenS, rfl, fun e2 cap2 hl2 => oneNew_lst hl2 rfl ?_⟩, trivial⟩
    refine putS_some rfl ?_
    refine ⟨_, ⟨_, _, laneI n S (z i 1), laneB S (z i 1), rfl, rdL_ro (hl1.rd rfl), rdL_ro (hl2.rd rfl), by omega, by omega, rfl, rfl⟩, ?_⟩
    repeat (first | refine ⟨_, ⟨rfl, rfl⟩, ?_⟩ | (refine (?_ : br _ _ _); refine br_neF rfl ?_) | (refine (?_ : br _ _ _); refine br_neF hlS2 ?_) | (refine (?_ : br _ _ _); refine br_f hLB2 ?_) | (refine (?_ : br _ _ _); refine br_f (by simp) ?_))
    refine putS_some rfl ?_
    refine ⟨⟨bL, bM, bR, n, room, gR S cp, S, _, cp, rfl, (((HLw.q (gg.mid (lowB _ _ _)) hL).cons (t := 60) (by decide)).cons (t := 61) (by decide)).rd Ren1.id |>.roH, hF, rfl, fun e3 cap3 hl3 => oneNew_lst hl3 rfl ?_⟩, trivial⟩
    refine putS_some rfl ?_
    refine ⟨⟨bF, n, room, S, _, cD, rfl, (RfW.rd (⟨rfl, rfl, hD⟩ : RfW _ bF n room S eD cD)).roH, hlenS, hbd.2.1, rfl, fun e5 cap5 hl5 => oneNew_lst hl5 rfl ?_⟩, trivial⟩
    refine putS_some rfl ?_
    refine ⟨_, ⟨_, _, headsN S n, headsN S n, rfl, rdL_ro (hl3.rd rfl), rdL_ro (hl5.rd rfl), by omega, by omega, rfl, rfl⟩, ?_⟩
    repeat (first | refine ⟨_, ⟨rfl, rfl⟩, ?_⟩ | (refine (?_ : br _ _ _); refine br_neF rfl ?_) | (refine (?_ : br _ _ _); refine br_neF hlS2 ?_) | (refine (?_ : br _ _ _); refine br_f hLB2 ?_) | (refine (?_ : br _ _ _); refine br_f (by simp) ?_))
    obtain ⟨q1, q2⟩ := HLw.re (bL := bL) (bM := bM) (bR := bR) (n := n) (room := room) (S := S) [(63, e5), (62, e3), (61, e2), (60, e1)] (rest := RB eX (e4 bF n room S.length cD) eD (.blk bx 1 3 (gA (z i 0) (z i 1) (z i 2)) 38)) (rest' := RB eX (e4 bF n room S.length cD) eD (.blk bx 1 3 (gA (z i 0) (z i 1) (z i 2)) 38)) (tau []) rfl (lowB _ _ _) (lowB _ _ _) hL rfl rfl rfl rfl rfl (fun _ => rfl) rfl rfl ⟨wX _ _, e4_wk rfl hD.here, hD.wk _ _, wA _ _, wG _ _ _⟩
    have hHH : (!(decide (headsN S n = headsN S n))) = false := by simp
    exact ⟨tau [], q1, (by repeat' (first | exact rfl | exact trivial | assumption | refine ⟨?_, ?_⟩)), q2⟩
  have v := vP S e cp eD cD
  have w := vF S e cp eD cD
  obtain ⟨q1, q2⟩ := HLw.re (bL := bL) (bM := bM) (bR := bR) (n := n) (room := room) (S := S) [] (rest := RB eX (e4 bF n room S.length cD) eD eA) (rest' := RP eX (e4 bF n room S.length cD) eD) (tau []) rfl (lowB _ _ _) (lowP _ _) hL rfl rfl rfl rfl rfl (fun _ => rfl) rfl rfl ⟨wX _ _, e4_wk rfl hD.here, hD.wk _ _, wG _ _ _⟩
  refine vc_sound hE 60 _ _ _ 60 ?_
  exact ⟨len - (i + 1), _, _, by omega, ⟨i + 1, S, e, cp, eD, cD, rfl, by omega, by omega, hF, hL, hD, rfl, rfl⟩, tau [], q1, ⟨⟨⟨rfl, v⟩, rfl, rfl, rfl⟩, ⟨⟨rfl, trivial⟩, rfl, rfl⟩, ⟨⟨rfl, w⟩, rfl, rfl⟩, ⟨rfl, hwi⟩, trivial⟩, q2⟩
def sLaw7 : Spec := fun args h nx K => ∃ (ub : Option Addr) (len cap : Nat) (z : Nat → Nat → Int) (a b : Int), args = [.int .i64 a, .int .i64 b, .slice 100 0 len cap] ∧ h = [(100, .ro ub len 3 (gT z))] ∧ len ≤ 9223372036854775807 ∧ K (.ret (.bool true)) h nx
theorem sLaw7_ok : SpecOK Try.prog 7 sLaw7 := by
  refine specOK_read (fn := Try.f7) rfl rfl rfl T_ok (SP := SP7) sp7 0 _ ?_
  rintro args h nx K ⟨ub, len, cap, z, a, b, rfl, rfl, hlen, hk⟩
  refine ⟨[(100, .ro ub len 3 (gT z))], ⟨fun i c hi hc => trivial, trivial⟩, ⟨⟨rfl, _, _, _, _, rfl⟩, trivial⟩, ⟨trivial, trivial, rfl, trivial⟩, by simp [Try.f7], fun o => o = .ret (.bool true), ?_, ?_⟩
  · rintro o rfl
    exact ⟨trivial, hk⟩
  · intro c hc
    obtain ⟨cd, h1, h2⟩ := plays_walk hc (ub := ub) (cap := cap) (z := z) (a := a) (b := b) hlen
    cases h1
    exact h2
end Go.Proofs.Ytkncijljkfpdiaa.Sx
