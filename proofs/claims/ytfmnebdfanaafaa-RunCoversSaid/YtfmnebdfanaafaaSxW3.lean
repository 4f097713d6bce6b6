import Derived.Test.YtfmnebdfanaafaaSxW2
/-
  The walks of this seat's functions, third part: run.Around.
-/
namespace Go.Proofs.Ytfmnebdfanaafaa.Sx
open Go Go.Proofs
set_option maxRecDepth 100000
set_option linter.unusedSimpArgs false
set_option linter.unusedVariables false
set_option linter.unnecessarySimpa false

/-- What a block costs. -/
def cst (nd : Int → Bool) (x : Int) : Int := if nd x = true then 1 else 0
/-- The next block: upwards, or downwards. -/
def nxt (w : Bool) (lo cnt : Int) : Int := match w with | false => lo + cnt | true => lo - 1
def stopB (rd nd : Int → Bool) (most : Int) (w : Bool) (lo cnt room : Int) : Bool := decide (cnt = most) || (!isB (nxt w lo cnt) || (!rd (nxt w lo cnt) || decide (room < cst nd (nxt w lo cnt))))
def low (w : Bool) (lo : Int) : Int := match w with | false => lo | true => lo - 1
/-- A run that goes on as far as it may. -/
def ext (rd nd : Int → Bool) (most : Int) (w : Bool) : Nat → Int × Int × Int → Int × Int × Int
  | 0, s => s
  | k + 1, (lo, cnt, room) => match stopB rd nd most w lo cnt room with
    | true => (lo, cnt, room)
    | false => ext rd nd most w k (low w lo, cnt + 1, room - cst nd (nxt w lo cnt))
theorem ext_stop {rd nd : Int → Bool} {most : Int} {w : Bool} {lo cnt room : Int} (h : stopB rd nd most w lo cnt room = true) (k : Nat) : ext rd nd most w k (lo, cnt, room) = (lo, cnt, room) := by
  cases k with
  | zero => rfl
  | succ k => unfold ext; rw [h]
theorem ext_step {rd nd : Int → Bool} {most : Int} {w : Bool} {lo cnt room : Int} (h : stopB rd nd most w lo cnt room = false) (k : Nat) : ext rd nd most w (k + 1) (lo, cnt, room) = ext rd nd most w k (low w lo, cnt + 1, room - cst nd (nxt w lo cnt)) := by
  rw [ext, h]
/-- What is left to do at the head of way number w. -/
def rem (rd nd : Int → Bool) (most : Int) (m : Nat) : Nat → Int × Int × Int → Int × Int × Int
  | 0, s => ext rd nd most true m (ext rd nd most false m s)
  | 1, s => ext rd nd most true m s
  | _, s => s
def around (rd nd : Int → Bool) (block most room : Int) : Int × Int × Int :=
  if most < 1 ∨ 8 < most ∨ room < 0 ∨ isB block = false ∨ rd block = false then (0, 0, 1)
  else if room - cst nd block < 0 then (0, 0, 2)
  else ((rem rd nd most most.toNat 0 (block, 1, room - cst nd block)).1, (rem rd nd most most.toNat 0 (block, 1, room - cst nd block)).2.1, 0)
def outA (x : Int × Int × Int) : Out := .ret (.tup [.agg [.int .i64 x.1, .int .i64 x.2.1], .int .i64 x.2.2])

def sAround : Spec := fun args h nx K => ∃ v v' block most room n n' f f', args = [v, v', .int .i64 block, .int .i64 most, .int .i64 room] ∧ rdI h v n f ∧ rdI h v' n' f' ∧ n ≤ 1000000000 ∧ n' ≤ 1000000000 ∧ i64 block ∧ i64 most ∧ i64 room ∧
  K (outA (around (hasB n f) (hasB n' f') block most room)) h nx
theorem cost_cst (n : Nat) (f : Nat → Int) (x : Int) : costI n f x = cst (hasB n f) x := rfl
theorem cst_01 (nd : Int → Bool) (x : Int) : 0 ≤ cst nd x ∧ cst nd x ≤ 1 := by unfold cst; split <;> omega

def SPR : SpT := [(21, sIs), (22, sIn), (23, sCost)]
theorem spr : ∀ p ∈ SPR, SpecOK Try.prog p.1 p.2 := consSP sIs_ok (consSP sContains_ok (consSP sCost_ok noSP))

section
variable (rd nd : Int → Bool) (most : Int) (m : Nat) (fin : Int × Int × Int) (i n c i' n' c' : Nat) (b0 b1 : Nat) (g0 : Nat → Nat → V) (G : Hp)
def okS (lo cnt room : Int) (most : Int) : Prop := 0 ≤ lo ∧ lo ≤ 255 ∧ 1 ≤ cnt ∧ cnt ≤ most ∧ lo + cnt ≤ 256 ∧ 0 ≤ room ∧ room ≤ 9223372036854775807
def JO : Nat → Sl → Hp → Prop := fun r σ h => ∃ (w : Nat) (lo cnt room : Int), r = 2 - w ∧ w ≤ 2 ∧ okS lo cnt room most ∧ rem rd nd most m w (lo, cnt, room) = fin ∧
  σ = [(0, .slice 2000 i n c), (1, .slice 2001 i' n' c'), (3, .int .i64 most), (4, .int .i64 room), (10, .ptr 0 0 0), (12, .ptr 1 0 0), (47, .int .i64 w)] ∧
  h = (0, .blk b0 1 2 g0 27) :: (1, .blk b1 1 2 (gOf 2 [.int .i64 lo, .int .i64 cnt]) 27) :: G
def JI (w : Nat) (wb : Bool) (t : Int × Int × Int) : Nat → Sl → Hp → Prop := fun r σ h => ∃ (k : Nat) (lo cnt room : Int), r = m - k ∧ (k : Int) + 1 ≤ cnt ∧ okS lo cnt room most ∧ ext rd nd most wb (m - k) (lo, cnt, room) = t ∧
  σ = [(0, .slice 2000 i n c), (1, .slice 2001 i' n' c'), (3, .int .i64 most), (4, .int .i64 room), (10, .ptr 0 0 0), (12, .ptr 1 0 0), (47, .int .i64 w), (13, .int .i64 w), (50, .int .i64 most), (51, .int .i64 k)] ∧
  h = (0, .blk b0 1 2 g0 27) :: (1, .blk b1 1 2 (gOf 2 [.int .i64 lo, .int .i64 cnt]) 27) :: G
end

set_option maxHeartbeats 4000000 in
theorem sAround_ok : SpecOK Try.prog 8 sAround := by
  refine specOK_read2 (fn := Try.f8) rfl rfl rfl T_ok (SP := SPR) spr 300 _ ?_
  rintro args h nx K ⟨v, v', block, most, room, n, n', f, f', rfl, hv, hv', hn, hn', ib, im, ir, hk⟩
  obtain ⟨b, N, i, c, F, b', N', i', c', F', hN, hF, hN', hF', told⟩ := told_two (rest := [.int .i64 block, .int .i64 most, .int .i64 room]) hv hv' ⟨trivial, trivial, trivial, trivial⟩
  refine ⟨_, _, told, by simp [Try.f8], fun o => o = outA (around (hasB n f) (hasB n' f') block most room), ?_, ?_⟩
  · rintro o rfl; exact ⟨by repeat constructor, hk⟩
  intro cx hcx
  clear hk told hv hv'
  unfold i64 at ib im ir
  have bad : (most < 1 ∨ 8 < most ∨ room < 0 ∨ isB block = false ∨ hasB n f block = false) → around (hasB n f) (hasB n' f') block most room = (0, 0, 1) := fun q => by unfold around; rw [if_pos q]
  intro b0
  (refine (?_ : br _ _ _); refine br_dec (fun a1 => ?_) (fun a1 => ?_))
  · rw [bad (.inl a1)]; rfl
  (refine (?_ : br _ _ _); refine br_dec (fun a2 => ?_) (fun a2 => ?_))
  · rw [bad (.inr (.inl a2))]; rfl
  (refine (?_ : br _ _ _); refine br_dec (fun a3 => ?_) (fun a3 => ?_))
  · rw [bad (.inr (.inr (.inl a3)))]; rfl
  (refine (?_ : br _ _ _); refine br_both (fun a4 => ?_) (fun a4 => ?_))
  · rw [bad (.inr (.inr (.inr (.inl (by simpa using a4)))))]; rfl
  refine ⟨_, _, n, f, rfl, .inr ⟨2000, i, c, b, N, _, rfl, rfl, hN, F, fun _ _ => rfl, hF⟩, hn, ?_⟩
  (refine (?_ : br _ _ _); refine br_both (fun a5 => ?_) (fun a5 => ?_))
  · rw [bad (.inr (.inr (.inr (.inr (by simpa using a5)))))]; rfl
  have a1 : ¬ most < 1 := a1
  have a2 : ¬ 8 < most := a2
  have a3 : ¬ room < 0 := a3
  have a4 : isB block = true := by simpa using a4
  have a5 : hasB n f block = true := by simpa using a5
  have good : ¬ (most < 1 ∨ 8 < most ∨ room < 0 ∨ isB block = false ∨ hasB n f block = false) := by simp [a4, a5]; omega
  refine ⟨_, _, n', f', rfl, .inr ⟨2001, i', c', b', N', _, rfl, rfl, hN', F', fun _ _ => rfl, hF'⟩, hn', ?_⟩
  have c0 := cst_01 (hasB n' f') block
  have w0 : IntKind.i64.wrap (room - costI n' f' block) = room - cst (hasB n' f') block := by rw [cost_cst]; simp only [IntKind.wrap_i64]; omega
  (refine (?_ : br _ _ _); refine br_dec (fun a6 => ?_) (fun a6 => ?_))
  · have a6 : IntKind.i64.wrap (room - costI n' f' block) < 0 := a6
    rw [w0] at a6
    have : around (hasB n f) (hasB n' f') block most room = (0, 0, 2) := by unfold around; rw [if_neg good, if_pos a6]
    rw [this]; rfl
  have a6 : ¬ IntKind.i64.wrap (room - costI n' f' block) < 0 := a6
  rw [w0] at a6
  intro b1
  obtain ⟨m, hm⟩ : ∃ m : Nat, most = m := ⟨most.toNat, by omega⟩
  obtain ⟨fin, hfin⟩ : ∃ fin, rem (hasB n f) (hasB n' f') most m 0 (block, 1, room - cst (hasB n' f') block) = fin := ⟨_, rfl⟩
  have hres : around (hasB n f) (hasB n' f') block most room = (fin.1, fin.2.1, 0) := by
    unfold around
    have : most.toNat = m := by omega
    rw [if_neg good, if_neg a6, this, hfin]
  have hib : 0 ≤ block ∧ block < 256 := by simpa [isB] using a4
  refine W_loop (JO (hasB n f) (hasB n' f') most m fin i n c i' n' c' b0 b1 (gOf 2 [.int .i64 0, .int .i64 0]) [(2000, .ro b N 1 (g1 .i64 F)), (2001, .ro b' N' 1 (g1 .i64 F'))]) 2 ⟨0, block, 1, room - cst (hasB n' f') block, rfl, by omega, ⟨by omega, by omega, by omega, by omega, by omega, by omega, by omega⟩, hfin, rfl, rfl⟩ (tau []) ⟨rfl, ?_, ?_⟩ 30 ?_
  · repeat' (first | exact rfl | exact trivial | exact w0 | refine ⟨?_, ?_⟩)
  · refine ⟨⟨rfl, rfl, rfl, rfl, fun i c hi hc => ?_⟩, ⟨rfl, rfl, rfl, rfl, fun i c hi hc => ?_⟩, ⟨rfl, rfl, rfl, fun i c hi hc => ⟨rfl, rfl⟩⟩, ⟨rfl, rfl, rfl, fun i c hi hc => ⟨rfl, rfl⟩⟩, trivial⟩
    · have hi : i < 1 := hi
      obtain rfl : i = 0 := by omega
      match c, hc with
      | 0, _ | 1, _ => exact ⟨rfl, rfl⟩
    · have hi : i < 1 := hi
      obtain rfl : i = 0 := by omega
      match c, hc with
      | 0, _ => exact ⟨rfl, rfl⟩
      | 1, _ => exact ⟨rfl, rfl⟩
  rintro r σ h1 ⟨w, lo, cnt, room, rfl, hw, ok, hx0, rfl, rfl⟩
  have o3 : 1 ≤ cnt := ok.2.2.1
  have hw3 : w = 0 ∨ w = 1 ∨ w = 2 := by omega
  rcases hw3 with rfl | rfl | rfl
  · refine vc_sound (mkE hcx T_ok spr) 300 _ _ _ 30 ?_
    skip
    refine W_loop (JI (hasB n f) (hasB n' f') most m i n c i' n' c' b0 b1 (gOf 2 [.int .i64 0, .int .i64 0]) [(2000, .ro b N 1 (g1 .i64 F)), (2001, .ro b' N' 1 (g1 .i64 F'))] 0 false _) m ⟨0, lo, cnt, room, rfl, by omega, ok, rfl, rfl, rfl⟩ (tau []) ⟨rfl, ?_, ?_⟩ 60 ?_
    · repeat' (first | exact rfl | exact trivial | refine ⟨?_, ?_⟩)
    · refine ⟨⟨rfl, rfl, rfl, rfl, fun i c hi hc => ?_⟩, ⟨rfl, rfl, rfl, rfl, fun i c hi hc => ?_⟩, ⟨rfl, rfl, rfl, fun i c hi hc => ⟨rfl, rfl⟩⟩, ⟨rfl, rfl, rfl, fun i c hi hc => ⟨rfl, rfl⟩⟩, trivial⟩
      · have hi : i < 1 := hi
        obtain rfl : i = 0 := by omega
        match c, hc with
        | 0, _ | 1, _ => exact ⟨rfl, rfl⟩
      · have hi : i < 1 := hi
        obtain rfl : i = 0 := by omega
        match c, hc with
        | 0, _ => exact ⟨rfl, rfl⟩
        | 1, _ => exact ⟨rfl, rfl⟩
    clear ok
    rintro r2 σ2 h2 ⟨k, lo, cnt, room, rfl, hk, ok, hx, rfl, rfl⟩
    obtain ⟨o1, o2, o3, o4, o5, o6, o7⟩ := ok
    have ok : okS lo cnt room most := ⟨o1, o2, o3, o4, o5, o6, o7⟩
    refine vc_sound (mkE hcx T_ok spr) 300 _ _ _ 60 ?_
    (refine (?_ : br _ _ _); refine br_decT (show (k : Int) < most by omega) ?_)
    have wn : IntKind.i64.wrap (lo + cnt) = lo + cnt := by simp [IntKind.wrap_i64]; omega
    have wc : IntKind.i64.wrap (lo + cnt) = lo + cnt := by simp [IntKind.wrap_i64]; omega
    have wk1 : IntKind.i64.wrap ((k : Int) + 1) = ((k + 1 : Nat) : Int) := by simp [IntKind.wrap_i64]; omega
    (refine (?_ : br _ _ _); refine br_eq (fun e1 => ?_) (fun e1 => ?_))
    · have e1 : cnt = most := e1
      have st : stopB (hasB n f) (hasB n' f') most false lo cnt room = true := by simp [stopB, e1]
      rw [ext_stop st] at hx
      refine ⟨2 - (0 + 1), _, _, by omega, ⟨1, lo, cnt, room, rfl, by omega, ok, (congrArg (rem (hasB n f) (hasB n' f') most m (0 + 1)) hx).trans hx0, rfl, rfl⟩, tau [], rfl, ?_, ?_⟩
      · repeat' (first | exact rfl | exact trivial | refine ⟨?_, ?_⟩)
      · refine ⟨⟨rfl, rfl, rfl, rfl, fun i c hi hc => ?_⟩, ⟨rfl, rfl, rfl, rfl, fun i c hi hc => ?_⟩, ⟨rfl, rfl, rfl, fun i c hi hc => ⟨rfl, rfl⟩⟩, ⟨rfl, rfl, rfl, fun i c hi hc => ⟨rfl, rfl⟩⟩, trivial⟩
        · have hi : i < 1 := hi
          obtain rfl : i = 0 := by omega
          match c, hc with
          | 0, _ | 1, _ => exact ⟨rfl, rfl⟩
        · have hi : i < 1 := hi
          obtain rfl : i = 0 := by omega
          match c, hc with
          | 0, _ => exact ⟨rfl, rfl⟩
          | 1, _ => exact ⟨rfl, rfl⟩
    have e1 : cnt ≠ most := e1
    (refine (?_ : br _ _ _); refine br_both (fun e2 => ?_) (fun e2 => ?_))
    · have e2 : (!isB (IntKind.i64.wrap (lo + cnt))) = true := e2
      rw [wn] at e2
      have st : stopB (hasB n f) (hasB n' f') most false lo cnt room = true := by simp only [stopB, nxt, e2, Bool.true_or, Bool.or_true]
      rw [ext_stop st] at hx
      refine ⟨2 - (0 + 1), _, _, by omega, ⟨1, lo, cnt, room, rfl, by omega, ok, (congrArg (rem (hasB n f) (hasB n' f') most m (0 + 1)) hx).trans hx0, rfl, rfl⟩, tau [], rfl, ?_, ?_⟩
      · repeat' (first | exact rfl | exact trivial | refine ⟨?_, ?_⟩)
      · refine ⟨⟨rfl, rfl, rfl, rfl, fun i c hi hc => ?_⟩, ⟨rfl, rfl, rfl, rfl, fun i c hi hc => ?_⟩, ⟨rfl, rfl, rfl, fun i c hi hc => ⟨rfl, rfl⟩⟩, ⟨rfl, rfl, rfl, fun i c hi hc => ⟨rfl, rfl⟩⟩, trivial⟩
        · have hi : i < 1 := hi
          obtain rfl : i = 0 := by omega
          match c, hc with
          | 0, _ | 1, _ => exact ⟨rfl, rfl⟩
        · have hi : i < 1 := hi
          obtain rfl : i = 0 := by omega
          match c, hc with
          | 0, _ => exact ⟨rfl, rfl⟩
          | 1, _ => exact ⟨rfl, rfl⟩
    have e2 : (!isB (IntKind.i64.wrap (lo + cnt))) = false := e2
    rw [wn] at e2
    refine ⟨_, _, n, f, rfl, .inr ⟨2000, i, c, b, N, _, rfl, rfl, hN, F, fun _ _ => rfl, hF⟩, hn, ?_⟩
    (refine (?_ : br _ _ _); refine br_both (fun e3 => ?_) (fun e3 => ?_))
    · have e3 : (!hasB n f (IntKind.i64.wrap (lo + cnt))) = true := e3
      rw [wn] at e3
      have st : stopB (hasB n f) (hasB n' f') most false lo cnt room = true := by simp only [stopB, nxt, e3, Bool.true_or, Bool.or_true]
      rw [ext_stop st] at hx
      refine ⟨2 - (0 + 1), _, _, by omega, ⟨1, lo, cnt, room, rfl, by omega, ok, (congrArg (rem (hasB n f) (hasB n' f') most m (0 + 1)) hx).trans hx0, rfl, rfl⟩, tau [], rfl, ?_, ?_⟩
      · repeat' (first | exact rfl | exact trivial | refine ⟨?_, ?_⟩)
      · refine ⟨⟨rfl, rfl, rfl, rfl, fun i c hi hc => ?_⟩, ⟨rfl, rfl, rfl, rfl, fun i c hi hc => ?_⟩, ⟨rfl, rfl, rfl, fun i c hi hc => ⟨rfl, rfl⟩⟩, ⟨rfl, rfl, rfl, fun i c hi hc => ⟨rfl, rfl⟩⟩, trivial⟩
        · have hi : i < 1 := hi
          obtain rfl : i = 0 := by omega
          match c, hc with
          | 0, _ | 1, _ => exact ⟨rfl, rfl⟩
        · have hi : i < 1 := hi
          obtain rfl : i = 0 := by omega
          match c, hc with
          | 0, _ => exact ⟨rfl, rfl⟩
          | 1, _ => exact ⟨rfl, rfl⟩
    have e3 : (!hasB n f (IntKind.i64.wrap (lo + cnt))) = false := e3
    rw [wn] at e3
    refine ⟨_, _, n', f', rfl, .inr ⟨2001, i', c', b', N', _, rfl, rfl, hN', F', fun _ _ => rfl, hF'⟩, hn', ?_⟩
    (refine (?_ : br _ _ _); refine br_dec (fun e4 => ?_) (fun e4 => ?_))
    · have e4 : room < costI n' f' (IntKind.i64.wrap (lo + cnt)) := e4
      rw [wn, cost_cst] at e4
      have st : stopB (hasB n f) (hasB n' f') most false lo cnt room = true := by unfold stopB; rw [show decide (room < cst (hasB n' f') (nxt false lo cnt)) = true from decide_eq_true e4]; simp
      rw [ext_stop st] at hx
      refine ⟨2 - (0 + 1), _, _, by omega, ⟨1, lo, cnt, room, rfl, by omega, ok, (congrArg (rem (hasB n f) (hasB n' f') most m (0 + 1)) hx).trans hx0, rfl, rfl⟩, tau [], rfl, ?_, ?_⟩
      · repeat' (first | exact rfl | exact trivial | refine ⟨?_, ?_⟩)
      · refine ⟨⟨rfl, rfl, rfl, rfl, fun i c hi hc => ?_⟩, ⟨rfl, rfl, rfl, rfl, fun i c hi hc => ?_⟩, ⟨rfl, rfl, rfl, fun i c hi hc => ⟨rfl, rfl⟩⟩, ⟨rfl, rfl, rfl, fun i c hi hc => ⟨rfl, rfl⟩⟩, trivial⟩
        · have hi : i < 1 := hi
          obtain rfl : i = 0 := by omega
          match c, hc with
          | 0, _ | 1, _ => exact ⟨rfl, rfl⟩
        · have hi : i < 1 := hi
          obtain rfl : i = 0 := by omega
          match c, hc with
          | 0, _ => exact ⟨rfl, rfl⟩
          | 1, _ => exact ⟨rfl, rfl⟩
    have e4 : ¬ room < costI n' f' (IntKind.i64.wrap (lo + cnt)) := e4
    rw [wn, cost_cst] at e4
    have st : stopB (hasB n f) (hasB n' f') most false lo cnt room = false := by unfold stopB; rw [show decide (room < cst (hasB n' f') (nxt false lo cnt)) = false from decide_eq_false e4]; simp only [nxt, e2, e3, decide_eq_false e1, Bool.or_self]
    refine ⟨_, _, n', f', rfl, .inr ⟨2001, i', c', b', N', _, rfl, rfl, hN', F', fun _ _ => rfl, hF'⟩, hn', ?_⟩
    have c01 := cst_01 (hasB n' f') (lo + cnt)
    have hi2 : isB (lo + cnt) = true := by simpa using e2
    have hi3 : 0 ≤ lo + cnt ∧ lo + cnt < 256 := by simpa [isB] using hi2
    have wr : IntKind.i64.wrap (room - costI n' f' (IntKind.i64.wrap (lo + cnt))) = room - cst (hasB n' f') (lo + cnt) := by rw [wn, cost_cst]; simp only [IntKind.wrap_i64]; omega
    have wt : IntKind.i64.wrap (cnt + 1) = cnt + 1 := by simp [IntKind.wrap_i64]; omega
    have hm1 : m - k = m - (k + 1) + 1 := by omega
    rw [hm1, ext_step st] at hx
    refine ⟨m - (k + 1), _, _, by omega, ⟨k + 1, low false lo, cnt + 1, room - cst (hasB n' f') (lo + cnt), rfl, by omega, ⟨by simp only [low]; omega, by simp only [low]; omega, by omega, by omega, by simp only [low]; omega, by omega, by omega⟩, hx, rfl, rfl⟩, tau [], rfl, ?_, ?_⟩
    · repeat' (first | exact rfl | exact trivial | exact wk1 | exact wr | refine ⟨?_, ?_⟩)
    · refine ⟨⟨rfl, rfl, rfl, rfl, fun i c hi hc => ?_⟩, ⟨rfl, rfl, rfl, rfl, fun i c hi hc => ?_⟩, ⟨rfl, rfl, rfl, fun i c hi hc => ⟨rfl, rfl⟩⟩, ⟨rfl, rfl, rfl, fun i c hi hc => ⟨rfl, rfl⟩⟩, trivial⟩
      · have hi : i < 1 := hi
        obtain rfl : i = 0 := by omega
        match c, hc with
        | 0, _ | 1, _ => exact ⟨rfl, rfl⟩
      · have hi : i < 1 := hi
        obtain rfl : i = 0 := by omega
        match c, hc with
        | 0, _ => exact ⟨rfl, (show (if IntKind.i64.wrap (lo + cnt) < lo then IntKind.i64.wrap (lo + cnt) else lo) = low false lo by rw [wn]; simp only [low]; split <;> omega)⟩
        | 1, _ => exact ⟨rfl, wt⟩

  · refine vc_sound (mkE hcx T_ok spr) 300 _ _ _ 30 ?_
    skip
    refine W_loop (JI (hasB n f) (hasB n' f') most m i n c i' n' c' b0 b1 (gOf 2 [.int .i64 0, .int .i64 0]) [(2000, .ro b N 1 (g1 .i64 F)), (2001, .ro b' N' 1 (g1 .i64 F'))] 1 true _) m ⟨0, lo, cnt, room, rfl, by omega, ok, rfl, rfl, rfl⟩ (tau []) ⟨rfl, ?_, ?_⟩ 60 ?_
    · repeat' (first | exact rfl | exact trivial | refine ⟨?_, ?_⟩)
    · refine ⟨⟨rfl, rfl, rfl, rfl, fun i c hi hc => ?_⟩, ⟨rfl, rfl, rfl, rfl, fun i c hi hc => ?_⟩, ⟨rfl, rfl, rfl, fun i c hi hc => ⟨rfl, rfl⟩⟩, ⟨rfl, rfl, rfl, fun i c hi hc => ⟨rfl, rfl⟩⟩, trivial⟩
      · have hi : i < 1 := hi
        obtain rfl : i = 0 := by omega
        match c, hc with
        | 0, _ | 1, _ => exact ⟨rfl, rfl⟩
      · have hi : i < 1 := hi
        obtain rfl : i = 0 := by omega
        match c, hc with
        | 0, _ => exact ⟨rfl, rfl⟩
        | 1, _ => exact ⟨rfl, rfl⟩
    clear ok
    rintro r2 σ2 h2 ⟨k, lo, cnt, room, rfl, hk, ok, hx, rfl, rfl⟩
    obtain ⟨o1, o2, o3, o4, o5, o6, o7⟩ := ok
    have ok : okS lo cnt room most := ⟨o1, o2, o3, o4, o5, o6, o7⟩
    refine vc_sound (mkE hcx T_ok spr) 300 _ _ _ 60 ?_
    (refine (?_ : br _ _ _); refine br_decT (show (k : Int) < most by omega) ?_)
    have wn : IntKind.i64.wrap (lo - 1) = lo - 1 := by simp [IntKind.wrap_i64]; omega
    have wc : IntKind.i64.wrap (lo + cnt) = lo + cnt := by simp [IntKind.wrap_i64]; omega
    have wk1 : IntKind.i64.wrap ((k : Int) + 1) = ((k + 1 : Nat) : Int) := by simp [IntKind.wrap_i64]; omega
    (refine (?_ : br _ _ _); refine br_eq (fun e1 => ?_) (fun e1 => ?_))
    · have e1 : cnt = most := e1
      have st : stopB (hasB n f) (hasB n' f') most true lo cnt room = true := by simp [stopB, e1]
      rw [ext_stop st] at hx
      refine ⟨2 - (1 + 1), _, _, by omega, ⟨2, lo, cnt, room, rfl, by omega, ok, (congrArg (rem (hasB n f) (hasB n' f') most m (1 + 1)) hx).trans hx0, rfl, rfl⟩, tau [], rfl, ?_, ?_⟩
      · repeat' (first | exact rfl | exact trivial | refine ⟨?_, ?_⟩)
      · refine ⟨⟨rfl, rfl, rfl, rfl, fun i c hi hc => ?_⟩, ⟨rfl, rfl, rfl, rfl, fun i c hi hc => ?_⟩, ⟨rfl, rfl, rfl, fun i c hi hc => ⟨rfl, rfl⟩⟩, ⟨rfl, rfl, rfl, fun i c hi hc => ⟨rfl, rfl⟩⟩, trivial⟩
        · have hi : i < 1 := hi
          obtain rfl : i = 0 := by omega
          match c, hc with
          | 0, _ | 1, _ => exact ⟨rfl, rfl⟩
        · have hi : i < 1 := hi
          obtain rfl : i = 0 := by omega
          match c, hc with
          | 0, _ => exact ⟨rfl, rfl⟩
          | 1, _ => exact ⟨rfl, rfl⟩
    have e1 : cnt ≠ most := e1
    (refine (?_ : br _ _ _); refine br_both (fun e2 => ?_) (fun e2 => ?_))
    · have e2 : (!isB (IntKind.i64.wrap (lo - 1))) = true := e2
      rw [wn] at e2
      have st : stopB (hasB n f) (hasB n' f') most true lo cnt room = true := by simp only [stopB, nxt, e2, Bool.true_or, Bool.or_true]
      rw [ext_stop st] at hx
      refine ⟨2 - (1 + 1), _, _, by omega, ⟨2, lo, cnt, room, rfl, by omega, ok, (congrArg (rem (hasB n f) (hasB n' f') most m (1 + 1)) hx).trans hx0, rfl, rfl⟩, tau [], rfl, ?_, ?_⟩
      · repeat' (first | exact rfl | exact trivial | refine ⟨?_, ?_⟩)
      · refine ⟨⟨rfl, rfl, rfl, rfl, fun i c hi hc => ?_⟩, ⟨rfl, rfl, rfl, rfl, fun i c hi hc => ?_⟩, ⟨rfl, rfl, rfl, fun i c hi hc => ⟨rfl, rfl⟩⟩, ⟨rfl, rfl, rfl, fun i c hi hc => ⟨rfl, rfl⟩⟩, trivial⟩
        · have hi : i < 1 := hi
          obtain rfl : i = 0 := by omega
          match c, hc with
          | 0, _ | 1, _ => exact ⟨rfl, rfl⟩
        · have hi : i < 1 := hi
          obtain rfl : i = 0 := by omega
          match c, hc with
          | 0, _ => exact ⟨rfl, rfl⟩
          | 1, _ => exact ⟨rfl, rfl⟩
    have e2 : (!isB (IntKind.i64.wrap (lo - 1))) = false := e2
    rw [wn] at e2
    refine ⟨_, _, n, f, rfl, .inr ⟨2000, i, c, b, N, _, rfl, rfl, hN, F, fun _ _ => rfl, hF⟩, hn, ?_⟩
    (refine (?_ : br _ _ _); refine br_both (fun e3 => ?_) (fun e3 => ?_))
    · have e3 : (!hasB n f (IntKind.i64.wrap (lo - 1))) = true := e3
      rw [wn] at e3
      have st : stopB (hasB n f) (hasB n' f') most true lo cnt room = true := by simp only [stopB, nxt, e3, Bool.true_or, Bool.or_true]
      rw [ext_stop st] at hx
      refine ⟨2 - (1 + 1), _, _, by omega, ⟨2, lo, cnt, room, rfl, by omega, ok, (congrArg (rem (hasB n f) (hasB n' f') most m (1 + 1)) hx).trans hx0, rfl, rfl⟩, tau [], rfl, ?_, ?_⟩
      · repeat' (first | exact rfl | exact trivial | refine ⟨?_, ?_⟩)
      · refine ⟨⟨rfl, rfl, rfl, rfl, fun i c hi hc => ?_⟩, ⟨rfl, rfl, rfl, rfl, fun i c hi hc => ?_⟩, ⟨rfl, rfl, rfl, fun i c hi hc => ⟨rfl, rfl⟩⟩, ⟨rfl, rfl, rfl, fun i c hi hc => ⟨rfl, rfl⟩⟩, trivial⟩
        · have hi : i < 1 := hi
          obtain rfl : i = 0 := by omega
          match c, hc with
          | 0, _ | 1, _ => exact ⟨rfl, rfl⟩
        · have hi : i < 1 := hi
          obtain rfl : i = 0 := by omega
          match c, hc with
          | 0, _ => exact ⟨rfl, rfl⟩
          | 1, _ => exact ⟨rfl, rfl⟩
    have e3 : (!hasB n f (IntKind.i64.wrap (lo - 1))) = false := e3
    rw [wn] at e3
    refine ⟨_, _, n', f', rfl, .inr ⟨2001, i', c', b', N', _, rfl, rfl, hN', F', fun _ _ => rfl, hF'⟩, hn', ?_⟩
    (refine (?_ : br _ _ _); refine br_dec (fun e4 => ?_) (fun e4 => ?_))
    · have e4 : room < costI n' f' (IntKind.i64.wrap (lo - 1)) := e4
      rw [wn, cost_cst] at e4
      have st : stopB (hasB n f) (hasB n' f') most true lo cnt room = true := by unfold stopB; rw [show decide (room < cst (hasB n' f') (nxt true lo cnt)) = true from decide_eq_true e4]; simp
      rw [ext_stop st] at hx
      refine ⟨2 - (1 + 1), _, _, by omega, ⟨2, lo, cnt, room, rfl, by omega, ok, (congrArg (rem (hasB n f) (hasB n' f') most m (1 + 1)) hx).trans hx0, rfl, rfl⟩, tau [], rfl, ?_, ?_⟩
      · repeat' (first | exact rfl | exact trivial | refine ⟨?_, ?_⟩)
      · refine ⟨⟨rfl, rfl, rfl, rfl, fun i c hi hc => ?_⟩, ⟨rfl, rfl, rfl, rfl, fun i c hi hc => ?_⟩, ⟨rfl, rfl, rfl, fun i c hi hc => ⟨rfl, rfl⟩⟩, ⟨rfl, rfl, rfl, fun i c hi hc => ⟨rfl, rfl⟩⟩, trivial⟩
        · have hi : i < 1 := hi
          obtain rfl : i = 0 := by omega
          match c, hc with
          | 0, _ | 1, _ => exact ⟨rfl, rfl⟩
        · have hi : i < 1 := hi
          obtain rfl : i = 0 := by omega
          match c, hc with
          | 0, _ => exact ⟨rfl, rfl⟩
          | 1, _ => exact ⟨rfl, rfl⟩
    have e4 : ¬ room < costI n' f' (IntKind.i64.wrap (lo - 1)) := e4
    rw [wn, cost_cst] at e4
    have st : stopB (hasB n f) (hasB n' f') most true lo cnt room = false := by unfold stopB; rw [show decide (room < cst (hasB n' f') (nxt true lo cnt)) = false from decide_eq_false e4]; simp only [nxt, e2, e3, decide_eq_false e1, Bool.or_self]
    refine ⟨_, _, n', f', rfl, .inr ⟨2001, i', c', b', N', _, rfl, rfl, hN', F', fun _ _ => rfl, hF'⟩, hn', ?_⟩
    have c01 := cst_01 (hasB n' f') (lo - 1)
    have hi2 : isB (lo - 1) = true := by simpa using e2
    have hi3 : 0 ≤ lo - 1 ∧ lo - 1 < 256 := by simpa [isB] using hi2
    have wr : IntKind.i64.wrap (room - costI n' f' (IntKind.i64.wrap (lo - 1))) = room - cst (hasB n' f') (lo - 1) := by rw [wn, cost_cst]; simp only [IntKind.wrap_i64]; omega
    have wt : IntKind.i64.wrap (cnt + 1) = cnt + 1 := by simp [IntKind.wrap_i64]; omega
    have hm1 : m - k = m - (k + 1) + 1 := by omega
    rw [hm1, ext_step st] at hx
    refine ⟨m - (k + 1), _, _, by omega, ⟨k + 1, low true lo, cnt + 1, room - cst (hasB n' f') (lo - 1), rfl, by omega, ⟨by simp only [low]; omega, by simp only [low]; omega, by omega, by omega, by simp only [low]; omega, by omega, by omega⟩, hx, rfl, rfl⟩, tau [], rfl, ?_, ?_⟩
    · repeat' (first | exact rfl | exact trivial | exact wk1 | exact wr | refine ⟨?_, ?_⟩)
    · refine ⟨⟨rfl, rfl, rfl, rfl, fun i c hi hc => ?_⟩, ⟨rfl, rfl, rfl, rfl, fun i c hi hc => ?_⟩, ⟨rfl, rfl, rfl, fun i c hi hc => ⟨rfl, rfl⟩⟩, ⟨rfl, rfl, rfl, fun i c hi hc => ⟨rfl, rfl⟩⟩, trivial⟩
      · have hi : i < 1 := hi
        obtain rfl : i = 0 := by omega
        match c, hc with
        | 0, _ | 1, _ => exact ⟨rfl, rfl⟩
      · have hi : i < 1 := hi
        obtain rfl : i = 0 := by omega
        match c, hc with
        | 0, _ => exact ⟨rfl, (show (if IntKind.i64.wrap (lo - 1) < lo then IntKind.i64.wrap (lo - 1) else lo) = low true lo by rw [wn]; simp only [low]; split <;> omega)⟩
        | 1, _ => exact ⟨rfl, wt⟩

  · refine vc_sound (mkE hcx T_ok spr) 300 _ _ _ 30 ?_
    have hx : (lo, cnt, room) = fin := hx0
    rw [hres, ← hx]
    rfl

end Go.Proofs.Ytfmnebdfanaafaa.Sx
