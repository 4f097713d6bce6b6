import Derived.Test.YtdjekplkejkgdaaSxW3
/-
  The walks of this seat's functions: a node is taken out of its list.
-/
namespace Go.Proofs.Ytdjekplkejkgdaa.Sx
open Go Go.Proofs
set_option maxRecDepth 100000
set_option linter.unusedSimpArgs false
set_option linter.unusedVariables false

def Sh.setE (s : Sh) (c : Nat) (v : Int) : Sh := { s with E := updI s.E c v }
/-- A node's neighbours know of each other. -/
def unl (s : Sh) (n : Nat) : Sh := { s with u := updI s.u (s.d n).toNat (s.u n), d := updI s.d (s.u n).toNat (s.d n) }
def out1 (s : Sh) (n q : Nat) : Sh := (unl s n).setE (3 * q) (IntKind.i64.wrap (s.E (3 * q) - 1))
def out2 (s : Sh) (n q : Nat) : Sh := let t := out1 s n q; if t.E (3 * q + 2) = n then t.setE (3 * q + 2) (s.d n) else t
def out3 (s : Sh) (n q : Nat) : Sh := let t := out2 s n q; t.setE (3 * q + 1) (IntKind.i64.wrap (t.E (3 * q + 1) - 1))
def edgeUp (t : Sh) (q : Nat) : Int := t.u (t.E (3 * q + 2)).toNat
def out4 (s : Sh) (n q : Nat) : Sh := let t := out3 s n q; if t.E (3 * q + 1) < t.E (3 * q) then (let e := edgeUp t q; { t with E := updI (updI t.E (3 * q + 2) e) (3 * q + 1) (IntKind.i64.wrap (t.E (3 * q + 1) + 1)), lo := updB t.lo e.toNat true }) else t
def outS (s : Sh) (n q : Nat) : Sh := if s.lo n = false then out1 s n q else out4 s n q

theorem gA_eq {τ : Nat → Nat} {h' : Hp} {v : V} {u d l : Nat → Int} {lo he : Nat → Bool} {i c : Nat} (e : v = gA u d l lo he i c) (hc : c < 5) : rn τ h' v (gA u d l lo he i c) := by rw [e]; exact gA_rn hc
/-- A node's copy. -/
def gX (a b c : Int) (p r : Bool) : Nat → Nat → V := fun _ k => match k with
  | 0 => .int .i64 a
  | 1 => .int .i64 b
  | 2 => .int .i64 c
  | 3 => .bool p
  | _ => .bool r
theorem box_rn {τ : Nat → Nat} {h' : Hp} {g : Nat → Nat → V} {a b c : Int} {p r : Bool} {i k : Nat} (hi : i < 1) (hk : k < 5) : rn τ h' (putG 5 g 0 0 [.int .i64 a, .int .i64 b, .int .i64 c, .bool p, .bool r] i k) (gX a b c p r i k) := by
  obtain rfl : i = 0 := by omega
  match k, hk with
  | 0, _ | 1, _ | 2, _ => exact ⟨rfl, rfl⟩
  | 3, _ | 4, _ => rfl
theorem putE {g : Nat → Nat → V} {t N : Nat} {bot : Int} {E : Nat → Int} (hg : ∀ c, c < 8 → g 0 c = gS t N bot E 0 c) (m : Nat) (v : Int) (hm : m < 6) : ∀ c, c < 8 → putG 8 g 0 (2 + m) [.int .i64 v] 0 c = gS t N bot (updI E m v) 0 c := by
  intro c hc
  rw [putG_one (by omega) hc, hg c hc]
  match c with
  | 0 => rw [if_neg (by omega)]; rfl
  | 1 => rw [if_neg (by omega)]; rfl
  | c + 2 =>
    by_cases e : c = m
    · subst e
      rw [if_pos ⟨rfl, by omega⟩]
      simp [gS, updI]
    · rw [if_neg (by omega)]
      simp [gS, updI, e]
def preOut : List V → Sh → Sh → V → Prop := fun rest s s' v => ∃ (n q : Nat), rest = [.int .i64 (n : Int)] ∧ q < 2 ∧ s.l n = q ∧ n < s.N ∧ (0 ≤ s.u n ∧ s.u n < s.N) ∧ (0 ≤ s.d n ∧ s.d n < s.N) ∧
  (s.lo n = true → (out3 s n q).E (3 * q + 1) < (out3 s n q).E (3 * q) → (0 ≤ (out3 s n q).E (3 * q + 2) ∧ (out3 s n q).E (3 * q + 2) < s.N) ∧ (0 ≤ edgeUp (out3 s n q) q ∧ edgeUp (out3 s n q) q < s.N)) ∧ s' = outS s n q ∧ v = .tup []
theorem outS_N (s : Sh) (n q : Nat) : (outS s n q).N = s.N := by
  unfold outS out4 out3 out2 out1 unl Sh.setE
  simp only
  repeat' split
  all_goals rfl
theorem out_ok : SpecOK Try.prog 37 (fun args h nx K => ∃ p rest s s' v, args = p :: rest ∧ preOut rest s s' v ∧ sMut h nx K p s s' v) := by
  refine specOK_shelf (fn := Try.f37) rfl rfl rfl T_ok (SP := []) noSP preOut ?_ ?_
  · rintro rest s s' v ⟨n, q, rfl, _, _, _, _, _, _, rfl, rfl⟩
    exact ⟨⟨trivial, trivial⟩, trivial, outS_N s n q, by simp [Try.f37]⟩
  · rintro rest s s' v bS bA c ⟨n, q, rfl, hq, hl, hn, hu, hd, hE, rfl, rfl⟩ hc
    have ru : (decide (0 ≤ s.u n) && decide (s.u n < (s.N : Int))) = true := by simp only [Bool.and_eq_true, decide_eq_true_eq]; omega
    have rd : (decide (0 ≤ s.d n) && decide (s.d n < (s.N : Int))) = true := by simp only [Bool.and_eq_true, decide_eq_true_eq]; omega
    have hq2 : q = 0 ∨ q = 1 := by omega
    rcases hq2 with rfl | rfl
    · -- list 0
      have hl : s.l n = 0 := hl
      refine vc_sound (mkE' hc noSP) 100 _ _ _ 2 ?_
      (refine (?_ : chk _ _); refine chk_ok (show (decide ((0 : Int) ≤ (n : Int)) && decide ((n : Int) < (s.N : Int))) = true by simp only [Bool.and_eq_true, decide_eq_true_eq]; omega) ?_)
      (refine (?_ : chk _ _); refine chk_ok rfl ?_)
      (refine (?_ : chk _ _); refine chk_ok (Nat.ble_eq_true_of_le (show n * 5 + 0 + 5 ≤ s.N * 5 by omega)) ?_)
      intro b0
      refine W_plan (mkE' hc noSP) 3 6 (lineP 0 6 (oneP 6 .done)) (by rw [hc]; exact mix) (by kernel_rfl) 0 ?_
      refine ⟨_, ⟨rfl, rfl⟩, ?_⟩
      refine ⟨_, ⟨rfl, rfl⟩, ?_⟩
      refine ⟨.int .i64 0, ⟨congrArg (V.int .i64) hl, rfl⟩, ?_⟩
      refine ⟨_, ⟨rfl, rfl⟩, ?_⟩
      refine ⟨_, ⟨rfl, rfl⟩, ?_⟩
      refine ⟨_, ⟨rfl, rfl⟩, ?_⟩
      refine ⟨⟨trivial, ?_⟩, trivial⟩
      refine W_seq (nx := 0) ?_
      refine W_to (nx := 0) [(0, .ptr 2000 0 0), (1, .int .i64 (n : Int)), (4, .ptr 2002 0 0), (5, .ptr 2000 0 2)] [(2000, .blk bS 1 8 (gS 2001 s.N s.bot s.E) 61), (2001, .blk bA s.N 5 (gA (unl s n).u (unl s n).d s.l s.lo s.he) 63), (2002, .blk b0 1 5 (gX (s.u n) (s.d n) (s.l n) (s.lo n) (s.he n)) 63)] 30 ?_ ?_
      · refine W_plan (mkE' hc noSP) 3 18 (.take 0 (.take 1 (.take 2 (.take 3 (.take 4 (.take 5 (.take 6 (.take 7 (.take 8 (.take 9 (.take 10 (.take 12 (.take 13 (.take 14 (.take 16 (.take 17 (.all (.cons 11 (.all (.cons 15 (oneP 18 (oneP 19 (oneP 20 (oneP 21 .done)))) (.cons 18 (oneP 15 (oneP 19 (oneP 20 (oneP 21 .done)))) .nil))) (.cons 15 (.all (.cons 11 (oneP 18 (oneP 19 (oneP 20 (oneP 21 .done)))) (.cons 18 (oneP 11 (oneP 19 (oneP 20 (oneP 21 .done)))) .nil))) (.cons 18 (.all (.cons 11 (oneP 15 (oneP 19 (oneP 20 (oneP 21 .done)))) (.cons 15 (oneP 11 (oneP 19 (oneP 20 (oneP 21 .done)))) .nil))) .nil)))))))))))))))))))) (by rw [hc]; exact mix) (by kernel_rfl) 10 ?_
        refine ⟨_, ⟨rfl, rfl⟩, ?_⟩
        refine ⟨_, ⟨rfl, rfl⟩, ?_⟩
        refine ⟨_, ⟨rfl, rfl⟩, ?_⟩
        refine ⟨_, ⟨rfl, rfl⟩, ?_⟩
        refine ⟨_, ⟨rfl, rfl⟩, ?_⟩
        refine ⟨_, ⟨rfl, rfl⟩, ?_⟩
        refine ⟨_, ⟨rfl, rfl⟩, ?_⟩
        refine ⟨_, ⟨rfl, rfl⟩, ?_⟩
        refine ⟨_, ⟨rfl, rfl⟩, ?_⟩
        refine ⟨_, ⟨rfl, rfl⟩, ?_⟩
        refine ⟨_, ⟨rfl, rfl⟩, ?_⟩
        refine ⟨_, ⟨rfl, rfl⟩, ?_⟩
        refine ⟨_, ⟨rfl, rfl⟩, ?_⟩
        refine ⟨_, ⟨rfl, rfl⟩, ?_⟩
        refine ⟨.ptr 2001 (s.u n).toNat 0, (show chk _ _ from chk_ok ru (show chk _ _ from chk_ok rfl ⟨rfl, rfl⟩)), ?_⟩
        refine ⟨_, ⟨rfl, rfl⟩, ?_⟩
        refine ⟨⟨trivial, ?_⟩, ⟨trivial, ?_⟩, ⟨trivial, ?_⟩, trivial⟩
        · skip
          refine ⟨⟨trivial, ?_⟩, ⟨trivial, ?_⟩, trivial⟩
          · skip
            refine ⟨⟨trivial, ?_⟩, trivial⟩
            (refine (?_ : chk _ _); refine chk_ok (Nat.ble_eq_true_of_le (show (s.u n).toNat * 5 + (0 + 1) + 1 ≤ s.N * 5 by omega)) ?_)
            refine ⟨⟨trivial, ?_⟩, trivial⟩
            (refine (?_ : chk _ _); refine chk_ok rd ?_)
            (refine (?_ : chk _ _); refine chk_ok rfl ?_)
            refine ⟨⟨trivial, ?_⟩, trivial⟩
            refine ⟨⟨trivial, ?_⟩, trivial⟩
            (refine (?_ : chk _ _); refine chk_ok (Nat.ble_eq_true_of_le (show (s.d n).toNat * 5 + (0 + 0) + 1 ≤ s.N * 5 by omega)) ?_)
            refine ⟨tau [(2002, 2)], rfl, ?_, ?_⟩
            · repeat' (first | exact rfl | exact trivial | refine ⟨?_, ?_⟩)
            · exact ⟨⟨rfl, rfl, rfl, rfl, fun i c hi hc => by obtain rfl : i = 0 := (by omega); exact gS_rn ⟨rfl, trivial⟩⟩, ⟨rfl, rfl, rfl, rfl, fun i c hi hc => gA_eq (put0 (N := s.N) (put1 (N := s.N) gA_self (s.u n).toNat (s.d n)) (s.d n).toNat (s.u n) i c hi hc) hc⟩, ⟨rfl, rfl, rfl, rfl, fun i c hi hc => box_rn hi hc⟩, trivial⟩
          · skip
            (refine (?_ : chk _ _); refine chk_ok (Nat.ble_eq_true_of_le (show (s.u n).toNat * 5 + (0 + 1) + 1 ≤ s.N * 5 by omega)) ?_)
            refine ⟨⟨trivial, ?_⟩, trivial⟩
            refine ⟨⟨trivial, ?_⟩, trivial⟩
            (refine (?_ : chk _ _); refine chk_ok rd ?_)
            (refine (?_ : chk _ _); refine chk_ok rfl ?_)
            refine ⟨⟨trivial, ?_⟩, trivial⟩
            refine ⟨⟨trivial, ?_⟩, trivial⟩
            (refine (?_ : chk _ _); refine chk_ok (Nat.ble_eq_true_of_le (show (s.d n).toNat * 5 + (0 + 0) + 1 ≤ s.N * 5 by omega)) ?_)
            refine ⟨tau [(2002, 2)], rfl, ?_, ?_⟩
            · repeat' (first | exact rfl | exact trivial | refine ⟨?_, ?_⟩)
            · exact ⟨⟨rfl, rfl, rfl, rfl, fun i c hi hc => by obtain rfl : i = 0 := (by omega); exact gS_rn ⟨rfl, trivial⟩⟩, ⟨rfl, rfl, rfl, rfl, fun i c hi hc => gA_eq (put0 (N := s.N) (put1 (N := s.N) gA_self (s.u n).toNat (s.d n)) (s.d n).toNat (s.u n) i c hi hc) hc⟩, ⟨rfl, rfl, rfl, rfl, fun i c hi hc => box_rn hi hc⟩, trivial⟩
        · skip
          refine ⟨⟨trivial, ?_⟩, ⟨trivial, ?_⟩, trivial⟩
          · skip
            refine ⟨⟨trivial, ?_⟩, trivial⟩
            (refine (?_ : chk _ _); refine chk_ok (Nat.ble_eq_true_of_le (show (s.u n).toNat * 5 + (0 + 1) + 1 ≤ s.N * 5 by omega)) ?_)
            refine ⟨⟨trivial, ?_⟩, trivial⟩
            (refine (?_ : chk _ _); refine chk_ok rd ?_)
            (refine (?_ : chk _ _); refine chk_ok rfl ?_)
            refine ⟨⟨trivial, ?_⟩, trivial⟩
            refine ⟨⟨trivial, ?_⟩, trivial⟩
            (refine (?_ : chk _ _); refine chk_ok (Nat.ble_eq_true_of_le (show (s.d n).toNat * 5 + (0 + 0) + 1 ≤ s.N * 5 by omega)) ?_)
            refine ⟨tau [(2002, 2)], rfl, ?_, ?_⟩
            · repeat' (first | exact rfl | exact trivial | refine ⟨?_, ?_⟩)
            · exact ⟨⟨rfl, rfl, rfl, rfl, fun i c hi hc => by obtain rfl : i = 0 := (by omega); exact gS_rn ⟨rfl, trivial⟩⟩, ⟨rfl, rfl, rfl, rfl, fun i c hi hc => gA_eq (put0 (N := s.N) (put1 (N := s.N) gA_self (s.u n).toNat (s.d n)) (s.d n).toNat (s.u n) i c hi hc) hc⟩, ⟨rfl, rfl, rfl, rfl, fun i c hi hc => box_rn hi hc⟩, trivial⟩
          · skip
            (refine (?_ : chk _ _); refine chk_ok (Nat.ble_eq_true_of_le (show (s.u n).toNat * 5 + (0 + 1) + 1 ≤ s.N * 5 by omega)) ?_)
            refine ⟨⟨trivial, ?_⟩, trivial⟩
            refine ⟨⟨trivial, ?_⟩, trivial⟩
            (refine (?_ : chk _ _); refine chk_ok rd ?_)
            (refine (?_ : chk _ _); refine chk_ok rfl ?_)
            refine ⟨⟨trivial, ?_⟩, trivial⟩
            refine ⟨⟨trivial, ?_⟩, trivial⟩
            (refine (?_ : chk _ _); refine chk_ok (Nat.ble_eq_true_of_le (show (s.d n).toNat * 5 + (0 + 0) + 1 ≤ s.N * 5 by omega)) ?_)
            refine ⟨tau [(2002, 2)], rfl, ?_, ?_⟩
            · repeat' (first | exact rfl | exact trivial | refine ⟨?_, ?_⟩)
            · exact ⟨⟨rfl, rfl, rfl, rfl, fun i c hi hc => by obtain rfl : i = 0 := (by omega); exact gS_rn ⟨rfl, trivial⟩⟩, ⟨rfl, rfl, rfl, rfl, fun i c hi hc => gA_eq (put0 (N := s.N) (put1 (N := s.N) gA_self (s.u n).toNat (s.d n)) (s.d n).toNat (s.u n) i c hi hc) hc⟩, ⟨rfl, rfl, rfl, rfl, fun i c hi hc => box_rn hi hc⟩, trivial⟩
        · skip
          (refine (?_ : chk _ _); refine chk_ok (Nat.ble_eq_true_of_le (show (s.u n).toNat * 5 + (0 + 1) + 1 ≤ s.N * 5 by omega)) ?_)
          refine ⟨⟨trivial, ?_⟩, ⟨trivial, ?_⟩, trivial⟩
          · skip
            refine ⟨⟨trivial, ?_⟩, trivial⟩
            refine ⟨⟨trivial, ?_⟩, trivial⟩
            (refine (?_ : chk _ _); refine chk_ok rd ?_)
            (refine (?_ : chk _ _); refine chk_ok rfl ?_)
            refine ⟨⟨trivial, ?_⟩, trivial⟩
            refine ⟨⟨trivial, ?_⟩, trivial⟩
            (refine (?_ : chk _ _); refine chk_ok (Nat.ble_eq_true_of_le (show (s.d n).toNat * 5 + (0 + 0) + 1 ≤ s.N * 5 by omega)) ?_)
            refine ⟨tau [(2002, 2)], rfl, ?_, ?_⟩
            · repeat' (first | exact rfl | exact trivial | refine ⟨?_, ?_⟩)
            · exact ⟨⟨rfl, rfl, rfl, rfl, fun i c hi hc => by obtain rfl : i = 0 := (by omega); exact gS_rn ⟨rfl, trivial⟩⟩, ⟨rfl, rfl, rfl, rfl, fun i c hi hc => gA_eq (put0 (N := s.N) (put1 (N := s.N) gA_self (s.u n).toNat (s.d n)) (s.d n).toNat (s.u n) i c hi hc) hc⟩, ⟨rfl, rfl, rfl, rfl, fun i c hi hc => box_rn hi hc⟩, trivial⟩
          · skip
            refine ⟨⟨trivial, ?_⟩, trivial⟩
            refine ⟨⟨trivial, ?_⟩, trivial⟩
            (refine (?_ : chk _ _); refine chk_ok rd ?_)
            (refine (?_ : chk _ _); refine chk_ok rfl ?_)
            refine ⟨⟨trivial, ?_⟩, trivial⟩
            refine ⟨⟨trivial, ?_⟩, trivial⟩
            (refine (?_ : chk _ _); refine chk_ok (Nat.ble_eq_true_of_le (show (s.d n).toNat * 5 + (0 + 0) + 1 ≤ s.N * 5 by omega)) ?_)
            refine ⟨tau [(2002, 2)], rfl, ?_, ?_⟩
            · repeat' (first | exact rfl | exact trivial | refine ⟨?_, ?_⟩)
            · exact ⟨⟨rfl, rfl, rfl, rfl, fun i c hi hc => by obtain rfl : i = 0 := (by omega); exact gS_rn ⟨rfl, trivial⟩⟩, ⟨rfl, rfl, rfl, rfl, fun i c hi hc => gA_eq (put0 (N := s.N) (put1 (N := s.N) gA_self (s.u n).toNat (s.d n)) (s.d n).toNat (s.u n) i c hi hc) hc⟩, ⟨rfl, rfl, rfl, rfl, fun i c hi hc => box_rn hi hc⟩, trivial⟩
      · refine vc_sound (mkE' hc noSP) 100 _ _ _ 30 ?_
        have GS0 : ∀ c, c < 8 → gS 2001 s.N s.bot s.E 0 c = gS 2001 s.N s.bot s.E 0 c := fun _ _ => rfl
        (refine (?_ : br _ _ _); refine br_not (br_both (fun hlo => ?_) (fun hlo => ?_)))
        · have hlo : s.lo n = true := hlo
          (refine (?_ : br _ _ _); refine br_eq (fun e => ?_) (fun e => ?_))
          · have e : s.E 2 = n := e
            have o2 : out2 s n 0 = (out1 s n 0).setE 2 (s.d n) := if_pos e
            have o3 : out3 s n 0 = ((out1 s n 0).setE 2 (s.d n)).setE 1 (IntKind.i64.wrap (s.E 1 - 1)) := by unfold out3; rw [o2]; rfl
            refine W_plan (mkE' hc noSP) 30 9 (lineP 0 9 .done) (by rw [hc]; exact mix) (by kernel_rfl) 100 ?_
            repeat' (first | refine ⟨_, ⟨rfl, rfl⟩, ?_⟩ | fail)
            (refine (?_ : br _ _ _); refine br_dec (fun g => ?_) (fun g => ?_))
            · have g : (IntKind.i64.wrap (s.E 1 - 1)) < (IntKind.i64.wrap (s.E 0 - 1)) := g
              have hE' := hE hlo (by rw [o3]; exact g)
              rw [o3] at hE'
              have re : 0 ≤ s.d n ∧ s.d n < s.N := hE'.1
              obtain ⟨e2, he2⟩ : ∃ e2, e2 = (unl s n).u (s.d n).toNat := ⟨_, rfl⟩
              have rf : 0 ≤ e2 ∧ e2 < s.N := by rw [he2]; exact hE'.2
              have re' : (decide (0 ≤ s.d n) && decide (s.d n < (s.N : Int))) = true := by simp only [Bool.and_eq_true, decide_eq_true_eq]; omega
              have rf' : (decide (0 ≤ e2) && decide (e2 < (s.N : Int))) = true := by simp only [Bool.and_eq_true, decide_eq_true_eq]; omega
              refine W_plan (mkE' hc noSP) 30 14 (lineP 0 14 (oneP 14 .done)) (by rw [hc]; exact mix) (by kernel_rfl) 100 ?_
              refine ⟨_, ⟨rfl, rfl⟩, ?_⟩
              refine ⟨_, ⟨rfl, rfl⟩, ?_⟩
              refine ⟨_, ⟨rfl, rfl⟩, ?_⟩
              refine ⟨_, ⟨rfl, rfl⟩, ?_⟩
              refine ⟨_, ⟨rfl, rfl⟩, ?_⟩
              refine ⟨_, ⟨rfl, rfl⟩, ?_⟩
              refine ⟨_, ⟨rfl, rfl⟩, ?_⟩
              refine ⟨_, ⟨rfl, rfl⟩, ?_⟩
              refine ⟨_, ⟨rfl, rfl⟩, ?_⟩
              refine ⟨.ptr 2001 (s.d n).toNat 0, (show chk _ _ from chk_ok re' (show chk _ _ from chk_ok rfl ⟨rfl, rfl⟩)), ?_⟩
              refine ⟨_, ⟨rfl, rfl⟩, ?_⟩
              refine ⟨.int .i64 e2, (show chk _ _ from chk_ok (Nat.ble_eq_true_of_le (show (s.d n).toNat * 5 + (0 + 0) + 1 ≤ s.N * 5 by omega)) ⟨by rw [he2]; rfl, rfl⟩), ?_⟩
              refine ⟨_, ⟨rfl, rfl⟩, ?_⟩
              refine ⟨_, ⟨rfl, rfl⟩, ?_⟩
              refine ⟨⟨trivial, ?_⟩, trivial⟩
              refine W_plan (mkE' hc noSP) 30 10 (lineP 0 10 (oneP 10 .done)) (by rw [hc]; exact mix) (by kernel_rfl) 100 ?_
              refine ⟨_, ⟨rfl, rfl⟩, ?_⟩
              refine ⟨_, ⟨rfl, rfl⟩, ?_⟩
              refine ⟨_, ⟨rfl, rfl⟩, ?_⟩
              refine ⟨_, ⟨rfl, rfl⟩, ?_⟩
              refine ⟨_, ⟨rfl, rfl⟩, ?_⟩
              refine ⟨_, ⟨rfl, rfl⟩, ?_⟩
              refine ⟨_, ⟨rfl, rfl⟩, ?_⟩
              refine ⟨_, ⟨rfl, rfl⟩, ?_⟩
              refine ⟨.ptr 2001 e2.toNat 0, (show chk _ _ from chk_ok rf' (show chk _ _ from chk_ok rfl ⟨rfl, rfl⟩)), ?_⟩
              refine ⟨_, ⟨rfl, rfl⟩, ?_⟩
              refine ⟨⟨trivial, ?_⟩, trivial⟩
              (refine (?_ : chk _ _); refine chk_ok (Nat.ble_eq_true_of_le (show e2.toNat * 5 + (0 + 3) + 1 ≤ s.N * 5 by omega)) ?_)
              refine ⟨rfl, _, _, rfl, rfl, ?_⟩
              have o4 : outS s n 0 = { out3 s n 0 with E := updI (updI (out3 s n 0).E 2 e2) 1 (IntKind.i64.wrap ((IntKind.i64.wrap (s.E 1 - 1)) + 1)), lo := updB s.lo e2.toNat true } := by
                rw [outS, if_neg (by rw [hlo]; decide)]
                unfold out4
                simp only
                rw [if_pos (by rw [o3]; exact g), he2, o3]
                rfl
              rw [o4, o3]
              exact ⟨putE (putE (putE (putE (putE GS0 0 (IntKind.i64.wrap (s.E 0 - 1)) (by omega)) 2 (s.d n) (by omega)) 1 (IntKind.i64.wrap (s.E 1 - 1)) (by omega)) 2 e2 (by omega)) 1 _ (by omega), fun i c hi hc => put3 (N := s.N) gA_self e2.toNat true i c hi hc⟩
            · have g : ¬ (IntKind.i64.wrap (s.E 1 - 1)) < (IntKind.i64.wrap (s.E 0 - 1)) := g
              refine ⟨rfl, _, _, rfl, rfl, ?_⟩
              have o4 : outS s n 0 = out3 s n 0 := by
                rw [outS, if_neg (by rw [hlo]; decide)]
                unfold out4
                simp only
                rw [if_neg (by rw [o3]; exact g)]
              rw [o4, o3]
              exact ⟨putE (putE (putE GS0 0 (IntKind.i64.wrap (s.E 0 - 1)) (by omega)) 2 (s.d n) (by omega)) 1 (IntKind.i64.wrap (s.E 1 - 1)) (by omega), fun i c hi hc => rfl⟩
          · have e : s.E 2 ≠ n := e
            have o2 : out2 s n 0 = out1 s n 0 := if_neg e
            have o3 : out3 s n 0 = (out1 s n 0).setE 1 (IntKind.i64.wrap (s.E 1 - 1)) := by unfold out3; rw [o2]; rfl
            refine W_plan (mkE' hc noSP) 30 9 (lineP 0 9 .done) (by rw [hc]; exact mix) (by kernel_rfl) 100 ?_
            repeat' (first | refine ⟨_, ⟨rfl, rfl⟩, ?_⟩ | fail)
            (refine (?_ : br _ _ _); refine br_dec (fun g => ?_) (fun g => ?_))
            · have g : (IntKind.i64.wrap (s.E 1 - 1)) < (IntKind.i64.wrap (s.E 0 - 1)) := g
              have hE' := hE hlo (by rw [o3]; exact g)
              rw [o3] at hE'
              have re : 0 ≤ s.E 2 ∧ s.E 2 < s.N := hE'.1
              obtain ⟨e2, he2⟩ : ∃ e2, e2 = (unl s n).u (s.E 2).toNat := ⟨_, rfl⟩
              have rf : 0 ≤ e2 ∧ e2 < s.N := by rw [he2]; exact hE'.2
              have re' : (decide (0 ≤ s.E 2) && decide (s.E 2 < (s.N : Int))) = true := by simp only [Bool.and_eq_true, decide_eq_true_eq]; omega
              have rf' : (decide (0 ≤ e2) && decide (e2 < (s.N : Int))) = true := by simp only [Bool.and_eq_true, decide_eq_true_eq]; omega
              refine W_plan (mkE' hc noSP) 30 14 (lineP 0 14 (oneP 14 .done)) (by rw [hc]; exact mix) (by kernel_rfl) 100 ?_
              refine ⟨_, ⟨rfl, rfl⟩, ?_⟩
              refine ⟨_, ⟨rfl, rfl⟩, ?_⟩
              refine ⟨_, ⟨rfl, rfl⟩, ?_⟩
              refine ⟨_, ⟨rfl, rfl⟩, ?_⟩
              refine ⟨_, ⟨rfl, rfl⟩, ?_⟩
              refine ⟨_, ⟨rfl, rfl⟩, ?_⟩
              refine ⟨_, ⟨rfl, rfl⟩, ?_⟩
              refine ⟨_, ⟨rfl, rfl⟩, ?_⟩
              refine ⟨_, ⟨rfl, rfl⟩, ?_⟩
              refine ⟨.ptr 2001 (s.E 2).toNat 0, (show chk _ _ from chk_ok re' (show chk _ _ from chk_ok rfl ⟨rfl, rfl⟩)), ?_⟩
              refine ⟨_, ⟨rfl, rfl⟩, ?_⟩
              refine ⟨.int .i64 e2, (show chk _ _ from chk_ok (Nat.ble_eq_true_of_le (show (s.E 2).toNat * 5 + (0 + 0) + 1 ≤ s.N * 5 by omega)) ⟨by rw [he2]; rfl, rfl⟩), ?_⟩
              refine ⟨_, ⟨rfl, rfl⟩, ?_⟩
              refine ⟨_, ⟨rfl, rfl⟩, ?_⟩
              refine ⟨⟨trivial, ?_⟩, trivial⟩
              refine W_plan (mkE' hc noSP) 30 10 (lineP 0 10 (oneP 10 .done)) (by rw [hc]; exact mix) (by kernel_rfl) 100 ?_
              refine ⟨_, ⟨rfl, rfl⟩, ?_⟩
              refine ⟨_, ⟨rfl, rfl⟩, ?_⟩
              refine ⟨_, ⟨rfl, rfl⟩, ?_⟩
              refine ⟨_, ⟨rfl, rfl⟩, ?_⟩
              refine ⟨_, ⟨rfl, rfl⟩, ?_⟩
              refine ⟨_, ⟨rfl, rfl⟩, ?_⟩
              refine ⟨_, ⟨rfl, rfl⟩, ?_⟩
              refine ⟨_, ⟨rfl, rfl⟩, ?_⟩
              refine ⟨.ptr 2001 e2.toNat 0, (show chk _ _ from chk_ok rf' (show chk _ _ from chk_ok rfl ⟨rfl, rfl⟩)), ?_⟩
              refine ⟨_, ⟨rfl, rfl⟩, ?_⟩
              refine ⟨⟨trivial, ?_⟩, trivial⟩
              (refine (?_ : chk _ _); refine chk_ok (Nat.ble_eq_true_of_le (show e2.toNat * 5 + (0 + 3) + 1 ≤ s.N * 5 by omega)) ?_)
              refine ⟨rfl, _, _, rfl, rfl, ?_⟩
              have o4 : outS s n 0 = { out3 s n 0 with E := updI (updI (out3 s n 0).E 2 e2) 1 (IntKind.i64.wrap ((IntKind.i64.wrap (s.E 1 - 1)) + 1)), lo := updB s.lo e2.toNat true } := by
                rw [outS, if_neg (by rw [hlo]; decide)]
                unfold out4
                simp only
                rw [if_pos (by rw [o3]; exact g), he2, o3]
                rfl
              rw [o4, o3]
              exact ⟨putE (putE (putE (putE GS0 0 (IntKind.i64.wrap (s.E 0 - 1)) (by omega)) 1 (IntKind.i64.wrap (s.E 1 - 1)) (by omega)) 2 e2 (by omega)) 1 _ (by omega), fun i c hi hc => put3 (N := s.N) gA_self e2.toNat true i c hi hc⟩
            · have g : ¬ (IntKind.i64.wrap (s.E 1 - 1)) < (IntKind.i64.wrap (s.E 0 - 1)) := g
              refine ⟨rfl, _, _, rfl, rfl, ?_⟩
              have o4 : outS s n 0 = out3 s n 0 := by
                rw [outS, if_neg (by rw [hlo]; decide)]
                unfold out4
                simp only
                rw [if_neg (by rw [o3]; exact g)]
              rw [o4, o3]
              exact ⟨putE (putE GS0 0 (IntKind.i64.wrap (s.E 0 - 1)) (by omega)) 1 (IntKind.i64.wrap (s.E 1 - 1)) (by omega), fun i c hi hc => rfl⟩
        · have hlo : s.lo n = false := hlo
          refine ⟨rfl, _, _, rfl, rfl, ?_⟩
          rw [outS, if_pos hlo]
          exact ⟨putE GS0 0 _ (by omega), fun i c hi hc => rfl⟩
    · -- list 1
      have hl : s.l n = 1 := hl
      refine vc_sound (mkE' hc noSP) 100 _ _ _ 2 ?_
      (refine (?_ : chk _ _); refine chk_ok (show (decide ((0 : Int) ≤ (n : Int)) && decide ((n : Int) < (s.N : Int))) = true by simp only [Bool.and_eq_true, decide_eq_true_eq]; omega) ?_)
      (refine (?_ : chk _ _); refine chk_ok rfl ?_)
      (refine (?_ : chk _ _); refine chk_ok (Nat.ble_eq_true_of_le (show n * 5 + 0 + 5 ≤ s.N * 5 by omega)) ?_)
      intro b0
      refine W_plan (mkE' hc noSP) 3 6 (lineP 0 6 (oneP 6 .done)) (by rw [hc]; exact mix) (by kernel_rfl) 0 ?_
      refine ⟨_, ⟨rfl, rfl⟩, ?_⟩
      refine ⟨_, ⟨rfl, rfl⟩, ?_⟩
      refine ⟨.int .i64 1, ⟨congrArg (V.int .i64) hl, rfl⟩, ?_⟩
      refine ⟨_, ⟨rfl, rfl⟩, ?_⟩
      refine ⟨_, ⟨rfl, rfl⟩, ?_⟩
      refine ⟨_, ⟨rfl, rfl⟩, ?_⟩
      refine ⟨⟨trivial, ?_⟩, trivial⟩
      refine W_seq (nx := 0) ?_
      refine W_to (nx := 0) [(0, .ptr 2000 0 0), (1, .int .i64 (n : Int)), (4, .ptr 2002 0 0), (5, .ptr 2000 0 5)] [(2000, .blk bS 1 8 (gS 2001 s.N s.bot s.E) 61), (2001, .blk bA s.N 5 (gA (unl s n).u (unl s n).d s.l s.lo s.he) 63), (2002, .blk b0 1 5 (gX (s.u n) (s.d n) (s.l n) (s.lo n) (s.he n)) 63)] 30 ?_ ?_
      · refine W_plan (mkE' hc noSP) 3 18 (.take 0 (.take 1 (.take 2 (.take 3 (.take 4 (.take 5 (.take 6 (.take 7 (.take 8 (.take 9 (.take 10 (.take 12 (.take 13 (.take 14 (.take 16 (.take 17 (.all (.cons 11 (.all (.cons 15 (oneP 18 (oneP 19 (oneP 20 (oneP 21 .done)))) (.cons 18 (oneP 15 (oneP 19 (oneP 20 (oneP 21 .done)))) .nil))) (.cons 15 (.all (.cons 11 (oneP 18 (oneP 19 (oneP 20 (oneP 21 .done)))) (.cons 18 (oneP 11 (oneP 19 (oneP 20 (oneP 21 .done)))) .nil))) (.cons 18 (.all (.cons 11 (oneP 15 (oneP 19 (oneP 20 (oneP 21 .done)))) (.cons 15 (oneP 11 (oneP 19 (oneP 20 (oneP 21 .done)))) .nil))) .nil)))))))))))))))))))) (by rw [hc]; exact mix) (by kernel_rfl) 10 ?_
        refine ⟨_, ⟨rfl, rfl⟩, ?_⟩
        refine ⟨_, ⟨rfl, rfl⟩, ?_⟩
        refine ⟨_, ⟨rfl, rfl⟩, ?_⟩
        refine ⟨_, ⟨rfl, rfl⟩, ?_⟩
        refine ⟨_, ⟨rfl, rfl⟩, ?_⟩
        refine ⟨_, ⟨rfl, rfl⟩, ?_⟩
        refine ⟨_, ⟨rfl, rfl⟩, ?_⟩
        refine ⟨_, ⟨rfl, rfl⟩, ?_⟩
        refine ⟨_, ⟨rfl, rfl⟩, ?_⟩
        refine ⟨_, ⟨rfl, rfl⟩, ?_⟩
        refine ⟨_, ⟨rfl, rfl⟩, ?_⟩
        refine ⟨_, ⟨rfl, rfl⟩, ?_⟩
        refine ⟨_, ⟨rfl, rfl⟩, ?_⟩
        refine ⟨_, ⟨rfl, rfl⟩, ?_⟩
        refine ⟨.ptr 2001 (s.u n).toNat 0, (show chk _ _ from chk_ok ru (show chk _ _ from chk_ok rfl ⟨rfl, rfl⟩)), ?_⟩
        refine ⟨_, ⟨rfl, rfl⟩, ?_⟩
        refine ⟨⟨trivial, ?_⟩, ⟨trivial, ?_⟩, ⟨trivial, ?_⟩, trivial⟩
        · skip
          refine ⟨⟨trivial, ?_⟩, ⟨trivial, ?_⟩, trivial⟩
          · skip
            refine ⟨⟨trivial, ?_⟩, trivial⟩
            (refine (?_ : chk _ _); refine chk_ok (Nat.ble_eq_true_of_le (show (s.u n).toNat * 5 + (0 + 1) + 1 ≤ s.N * 5 by omega)) ?_)
            refine ⟨⟨trivial, ?_⟩, trivial⟩
            (refine (?_ : chk _ _); refine chk_ok rd ?_)
            (refine (?_ : chk _ _); refine chk_ok rfl ?_)
            refine ⟨⟨trivial, ?_⟩, trivial⟩
            refine ⟨⟨trivial, ?_⟩, trivial⟩
            (refine (?_ : chk _ _); refine chk_ok (Nat.ble_eq_true_of_le (show (s.d n).toNat * 5 + (0 + 0) + 1 ≤ s.N * 5 by omega)) ?_)
            refine ⟨tau [(2002, 2)], rfl, ?_, ?_⟩
            · repeat' (first | exact rfl | exact trivial | refine ⟨?_, ?_⟩)
            · exact ⟨⟨rfl, rfl, rfl, rfl, fun i c hi hc => by obtain rfl : i = 0 := (by omega); exact gS_rn ⟨rfl, trivial⟩⟩, ⟨rfl, rfl, rfl, rfl, fun i c hi hc => gA_eq (put0 (N := s.N) (put1 (N := s.N) gA_self (s.u n).toNat (s.d n)) (s.d n).toNat (s.u n) i c hi hc) hc⟩, ⟨rfl, rfl, rfl, rfl, fun i c hi hc => box_rn hi hc⟩, trivial⟩
          · skip
            (refine (?_ : chk _ _); refine chk_ok (Nat.ble_eq_true_of_le (show (s.u n).toNat * 5 + (0 + 1) + 1 ≤ s.N * 5 by omega)) ?_)
            refine ⟨⟨trivial, ?_⟩, trivial⟩
            refine ⟨⟨trivial, ?_⟩, trivial⟩
            (refine (?_ : chk _ _); refine chk_ok rd ?_)
            (refine (?_ : chk _ _); refine chk_ok rfl ?_)
            refine ⟨⟨trivial, ?_⟩, trivial⟩
            refine ⟨⟨trivial, ?_⟩, trivial⟩
            (refine (?_ : chk _ _); refine chk_ok (Nat.ble_eq_true_of_le (show (s.d n).toNat * 5 + (0 + 0) + 1 ≤ s.N * 5 by omega)) ?_)
            refine ⟨tau [(2002, 2)], rfl, ?_, ?_⟩
            · repeat' (first | exact rfl | exact trivial | refine ⟨?_, ?_⟩)
            · exact ⟨⟨rfl, rfl, rfl, rfl, fun i c hi hc => by obtain rfl : i = 0 := (by omega); exact gS_rn ⟨rfl, trivial⟩⟩, ⟨rfl, rfl, rfl, rfl, fun i c hi hc => gA_eq (put0 (N := s.N) (put1 (N := s.N) gA_self (s.u n).toNat (s.d n)) (s.d n).toNat (s.u n) i c hi hc) hc⟩, ⟨rfl, rfl, rfl, rfl, fun i c hi hc => box_rn hi hc⟩, trivial⟩
        · skip
          refine ⟨⟨trivial, ?_⟩, ⟨trivial, ?_⟩, trivial⟩
          · skip
            refine ⟨⟨trivial, ?_⟩, trivial⟩
            (refine (?_ : chk _ _); refine chk_ok (Nat.ble_eq_true_of_le (show (s.u n).toNat * 5 + (0 + 1) + 1 ≤ s.N * 5 by omega)) ?_)
            refine ⟨⟨trivial, ?_⟩, trivial⟩
            (refine (?_ : chk _ _); refine chk_ok rd ?_)
            (refine (?_ : chk _ _); refine chk_ok rfl ?_)
            refine ⟨⟨trivial, ?_⟩, trivial⟩
            refine ⟨⟨trivial, ?_⟩, trivial⟩
            (refine (?_ : chk _ _); refine chk_ok (Nat.ble_eq_true_of_le (show (s.d n).toNat * 5 + (0 + 0) + 1 ≤ s.N * 5 by omega)) ?_)
            refine ⟨tau [(2002, 2)], rfl, ?_, ?_⟩
            · repeat' (first | exact rfl | exact trivial | refine ⟨?_, ?_⟩)
            · exact ⟨⟨rfl, rfl, rfl, rfl, fun i c hi hc => by obtain rfl : i = 0 := (by omega); exact gS_rn ⟨rfl, trivial⟩⟩, ⟨rfl, rfl, rfl, rfl, fun i c hi hc => gA_eq (put0 (N := s.N) (put1 (N := s.N) gA_self (s.u n).toNat (s.d n)) (s.d n).toNat (s.u n) i c hi hc) hc⟩, ⟨rfl, rfl, rfl, rfl, fun i c hi hc => box_rn hi hc⟩, trivial⟩
          · skip
            (refine (?_ : chk _ _); refine chk_ok (Nat.ble_eq_true_of_le (show (s.u n).toNat * 5 + (0 + 1) + 1 ≤ s.N * 5 by omega)) ?_)
            refine ⟨⟨trivial, ?_⟩, trivial⟩
            refine ⟨⟨trivial, ?_⟩, trivial⟩
            (refine (?_ : chk _ _); refine chk_ok rd ?_)
            (refine (?_ : chk _ _); refine chk_ok rfl ?_)
            refine ⟨⟨trivial, ?_⟩, trivial⟩
            refine ⟨⟨trivial, ?_⟩, trivial⟩
            (refine (?_ : chk _ _); refine chk_ok (Nat.ble_eq_true_of_le (show (s.d n).toNat * 5 + (0 + 0) + 1 ≤ s.N * 5 by omega)) ?_)
            refine ⟨tau [(2002, 2)], rfl, ?_, ?_⟩
            · repeat' (first | exact rfl | exact trivial | refine ⟨?_, ?_⟩)
            · exact ⟨⟨rfl, rfl, rfl, rfl, fun i c hi hc => by obtain rfl : i = 0 := (by omega); exact gS_rn ⟨rfl, trivial⟩⟩, ⟨rfl, rfl, rfl, rfl, fun i c hi hc => gA_eq (put0 (N := s.N) (put1 (N := s.N) gA_self (s.u n).toNat (s.d n)) (s.d n).toNat (s.u n) i c hi hc) hc⟩, ⟨rfl, rfl, rfl, rfl, fun i c hi hc => box_rn hi hc⟩, trivial⟩
        · skip
          (refine (?_ : chk _ _); refine chk_ok (Nat.ble_eq_true_of_le (show (s.u n).toNat * 5 + (0 + 1) + 1 ≤ s.N * 5 by omega)) ?_)
          refine ⟨⟨trivial, ?_⟩, ⟨trivial, ?_⟩, trivial⟩
          · skip
            refine ⟨⟨trivial, ?_⟩, trivial⟩
            refine ⟨⟨trivial, ?_⟩, trivial⟩
            (refine (?_ : chk _ _); refine chk_ok rd ?_)
            (refine (?_ : chk _ _); refine chk_ok rfl ?_)
            refine ⟨⟨trivial, ?_⟩, trivial⟩
            refine ⟨⟨trivial, ?_⟩, trivial⟩
            (refine (?_ : chk _ _); refine chk_ok (Nat.ble_eq_true_of_le (show (s.d n).toNat * 5 + (0 + 0) + 1 ≤ s.N * 5 by omega)) ?_)
            refine ⟨tau [(2002, 2)], rfl, ?_, ?_⟩
            · repeat' (first | exact rfl | exact trivial | refine ⟨?_, ?_⟩)
            · exact ⟨⟨rfl, rfl, rfl, rfl, fun i c hi hc => by obtain rfl : i = 0 := (by omega); exact gS_rn ⟨rfl, trivial⟩⟩, ⟨rfl, rfl, rfl, rfl, fun i c hi hc => gA_eq (put0 (N := s.N) (put1 (N := s.N) gA_self (s.u n).toNat (s.d n)) (s.d n).toNat (s.u n) i c hi hc) hc⟩, ⟨rfl, rfl, rfl, rfl, fun i c hi hc => box_rn hi hc⟩, trivial⟩
          · skip
            refine ⟨⟨trivial, ?_⟩, trivial⟩
            refine ⟨⟨trivial, ?_⟩, trivial⟩
            (refine (?_ : chk _ _); refine chk_ok rd ?_)
            (refine (?_ : chk _ _); refine chk_ok rfl ?_)
            refine ⟨⟨trivial, ?_⟩, trivial⟩
            refine ⟨⟨trivial, ?_⟩, trivial⟩
            (refine (?_ : chk _ _); refine chk_ok (Nat.ble_eq_true_of_le (show (s.d n).toNat * 5 + (0 + 0) + 1 ≤ s.N * 5 by omega)) ?_)
            refine ⟨tau [(2002, 2)], rfl, ?_, ?_⟩
            · repeat' (first | exact rfl | exact trivial | refine ⟨?_, ?_⟩)
            · exact ⟨⟨rfl, rfl, rfl, rfl, fun i c hi hc => by obtain rfl : i = 0 := (by omega); exact gS_rn ⟨rfl, trivial⟩⟩, ⟨rfl, rfl, rfl, rfl, fun i c hi hc => gA_eq (put0 (N := s.N) (put1 (N := s.N) gA_self (s.u n).toNat (s.d n)) (s.d n).toNat (s.u n) i c hi hc) hc⟩, ⟨rfl, rfl, rfl, rfl, fun i c hi hc => box_rn hi hc⟩, trivial⟩
      · refine vc_sound (mkE' hc noSP) 100 _ _ _ 30 ?_
        have GS0 : ∀ c, c < 8 → gS 2001 s.N s.bot s.E 0 c = gS 2001 s.N s.bot s.E 0 c := fun _ _ => rfl
        (refine (?_ : br _ _ _); refine br_not (br_both (fun hlo => ?_) (fun hlo => ?_)))
        · have hlo : s.lo n = true := hlo
          (refine (?_ : br _ _ _); refine br_eq (fun e => ?_) (fun e => ?_))
          · have e : s.E 5 = n := e
            have o2 : out2 s n 1 = (out1 s n 1).setE 5 (s.d n) := if_pos e
            have o3 : out3 s n 1 = ((out1 s n 1).setE 5 (s.d n)).setE 4 (IntKind.i64.wrap (s.E 4 - 1)) := by unfold out3; rw [o2]; rfl
            refine W_plan (mkE' hc noSP) 30 9 (lineP 0 9 .done) (by rw [hc]; exact mix) (by kernel_rfl) 100 ?_
            repeat' (first | refine ⟨_, ⟨rfl, rfl⟩, ?_⟩ | fail)
            (refine (?_ : br _ _ _); refine br_dec (fun g => ?_) (fun g => ?_))
            · have g : (IntKind.i64.wrap (s.E 4 - 1)) < (IntKind.i64.wrap (s.E 3 - 1)) := g
              have hE' := hE hlo (by rw [o3]; exact g)
              rw [o3] at hE'
              have re : 0 ≤ s.d n ∧ s.d n < s.N := hE'.1
              obtain ⟨e2, he2⟩ : ∃ e2, e2 = (unl s n).u (s.d n).toNat := ⟨_, rfl⟩
              have rf : 0 ≤ e2 ∧ e2 < s.N := by rw [he2]; exact hE'.2
              have re' : (decide (0 ≤ s.d n) && decide (s.d n < (s.N : Int))) = true := by simp only [Bool.and_eq_true, decide_eq_true_eq]; omega
              have rf' : (decide (0 ≤ e2) && decide (e2 < (s.N : Int))) = true := by simp only [Bool.and_eq_true, decide_eq_true_eq]; omega
              refine W_plan (mkE' hc noSP) 30 14 (lineP 0 14 (oneP 14 .done)) (by rw [hc]; exact mix) (by kernel_rfl) 100 ?_
              refine ⟨_, ⟨rfl, rfl⟩, ?_⟩
              refine ⟨_, ⟨rfl, rfl⟩, ?_⟩
              refine ⟨_, ⟨rfl, rfl⟩, ?_⟩
              refine ⟨_, ⟨rfl, rfl⟩, ?_⟩
              refine ⟨_, ⟨rfl, rfl⟩, ?_⟩
              refine ⟨_, ⟨rfl, rfl⟩, ?_⟩
              refine ⟨_, ⟨rfl, rfl⟩, ?_⟩
              refine ⟨_, ⟨rfl, rfl⟩, ?_⟩
              refine ⟨_, ⟨rfl, rfl⟩, ?_⟩
              refine ⟨.ptr 2001 (s.d n).toNat 0, (show chk _ _ from chk_ok re' (show chk _ _ from chk_ok rfl ⟨rfl, rfl⟩)), ?_⟩
              refine ⟨_, ⟨rfl, rfl⟩, ?_⟩
              refine ⟨.int .i64 e2, (show chk _ _ from chk_ok (Nat.ble_eq_true_of_le (show (s.d n).toNat * 5 + (0 + 0) + 1 ≤ s.N * 5 by omega)) ⟨by rw [he2]; rfl, rfl⟩), ?_⟩
              refine ⟨_, ⟨rfl, rfl⟩, ?_⟩
              refine ⟨_, ⟨rfl, rfl⟩, ?_⟩
              refine ⟨⟨trivial, ?_⟩, trivial⟩
              refine W_plan (mkE' hc noSP) 30 10 (lineP 0 10 (oneP 10 .done)) (by rw [hc]; exact mix) (by kernel_rfl) 100 ?_
              refine ⟨_, ⟨rfl, rfl⟩, ?_⟩
              refine ⟨_, ⟨rfl, rfl⟩, ?_⟩
              refine ⟨_, ⟨rfl, rfl⟩, ?_⟩
              refine ⟨_, ⟨rfl, rfl⟩, ?_⟩
              refine ⟨_, ⟨rfl, rfl⟩, ?_⟩
              refine ⟨_, ⟨rfl, rfl⟩, ?_⟩
              refine ⟨_, ⟨rfl, rfl⟩, ?_⟩
              refine ⟨_, ⟨rfl, rfl⟩, ?_⟩
              refine ⟨.ptr 2001 e2.toNat 0, (show chk _ _ from chk_ok rf' (show chk _ _ from chk_ok rfl ⟨rfl, rfl⟩)), ?_⟩
              refine ⟨_, ⟨rfl, rfl⟩, ?_⟩
              refine ⟨⟨trivial, ?_⟩, trivial⟩
              (refine (?_ : chk _ _); refine chk_ok (Nat.ble_eq_true_of_le (show e2.toNat * 5 + (0 + 3) + 1 ≤ s.N * 5 by omega)) ?_)
              refine ⟨rfl, _, _, rfl, rfl, ?_⟩
              have o4 : outS s n 1 = { out3 s n 1 with E := updI (updI (out3 s n 1).E 5 e2) 4 (IntKind.i64.wrap ((IntKind.i64.wrap (s.E 4 - 1)) + 1)), lo := updB s.lo e2.toNat true } := by
                rw [outS, if_neg (by rw [hlo]; decide)]
                unfold out4
                simp only
                rw [if_pos (by rw [o3]; exact g), he2, o3]
                rfl
              rw [o4, o3]
              exact ⟨putE (putE (putE (putE (putE GS0 3 (IntKind.i64.wrap (s.E 3 - 1)) (by omega)) 5 (s.d n) (by omega)) 4 (IntKind.i64.wrap (s.E 4 - 1)) (by omega)) 5 e2 (by omega)) 4 _ (by omega), fun i c hi hc => put3 (N := s.N) gA_self e2.toNat true i c hi hc⟩
            · have g : ¬ (IntKind.i64.wrap (s.E 4 - 1)) < (IntKind.i64.wrap (s.E 3 - 1)) := g
              refine ⟨rfl, _, _, rfl, rfl, ?_⟩
              have o4 : outS s n 1 = out3 s n 1 := by
                rw [outS, if_neg (by rw [hlo]; decide)]
                unfold out4
                simp only
                rw [if_neg (by rw [o3]; exact g)]
              rw [o4, o3]
              exact ⟨putE (putE (putE GS0 3 (IntKind.i64.wrap (s.E 3 - 1)) (by omega)) 5 (s.d n) (by omega)) 4 (IntKind.i64.wrap (s.E 4 - 1)) (by omega), fun i c hi hc => rfl⟩
          · have e : s.E 5 ≠ n := e
            have o2 : out2 s n 1 = out1 s n 1 := if_neg e
            have o3 : out3 s n 1 = (out1 s n 1).setE 4 (IntKind.i64.wrap (s.E 4 - 1)) := by unfold out3; rw [o2]; rfl
            refine W_plan (mkE' hc noSP) 30 9 (lineP 0 9 .done) (by rw [hc]; exact mix) (by kernel_rfl) 100 ?_
            repeat' (first | refine ⟨_, ⟨rfl, rfl⟩, ?_⟩ | fail)
            (refine (?_ : br _ _ _); refine br_dec (fun g => ?_) (fun g => ?_))
            · have g : (IntKind.i64.wrap (s.E 4 - 1)) < (IntKind.i64.wrap (s.E 3 - 1)) := g
              have hE' := hE hlo (by rw [o3]; exact g)
              rw [o3] at hE'
              have re : 0 ≤ s.E 5 ∧ s.E 5 < s.N := hE'.1
              obtain ⟨e2, he2⟩ : ∃ e2, e2 = (unl s n).u (s.E 5).toNat := ⟨_, rfl⟩
              have rf : 0 ≤ e2 ∧ e2 < s.N := by rw [he2]; exact hE'.2
              have re' : (decide (0 ≤ s.E 5) && decide (s.E 5 < (s.N : Int))) = true := by simp only [Bool.and_eq_true, decide_eq_true_eq]; omega
              have rf' : (decide (0 ≤ e2) && decide (e2 < (s.N : Int))) = true := by simp only [Bool.and_eq_true, decide_eq_true_eq]; omega
              refine W_plan (mkE' hc noSP) 30 14 (lineP 0 14 (oneP 14 .done)) (by rw [hc]; exact mix) (by kernel_rfl) 100 ?_
              refine ⟨_, ⟨rfl, rfl⟩, ?_⟩
              refine ⟨_, ⟨rfl, rfl⟩, ?_⟩
              refine ⟨_, ⟨rfl, rfl⟩, ?_⟩
              refine ⟨_, ⟨rfl, rfl⟩, ?_⟩
              refine ⟨_, ⟨rfl, rfl⟩, ?_⟩
              refine ⟨_, ⟨rfl, rfl⟩, ?_⟩
              refine ⟨_, ⟨rfl, rfl⟩, ?_⟩
              refine ⟨_, ⟨rfl, rfl⟩, ?_⟩
              refine ⟨_, ⟨rfl, rfl⟩, ?_⟩
              refine ⟨.ptr 2001 (s.E 5).toNat 0, (show chk _ _ from chk_ok re' (show chk _ _ from chk_ok rfl ⟨rfl, rfl⟩)), ?_⟩
              refine ⟨_, ⟨rfl, rfl⟩, ?_⟩
              refine ⟨.int .i64 e2, (show chk _ _ from chk_ok (Nat.ble_eq_true_of_le (show (s.E 5).toNat * 5 + (0 + 0) + 1 ≤ s.N * 5 by omega)) ⟨by rw [he2]; rfl, rfl⟩), ?_⟩
              refine ⟨_, ⟨rfl, rfl⟩, ?_⟩
              refine ⟨_, ⟨rfl, rfl⟩, ?_⟩
              refine ⟨⟨trivial, ?_⟩, trivial⟩
              refine W_plan (mkE' hc noSP) 30 10 (lineP 0 10 (oneP 10 .done)) (by rw [hc]; exact mix) (by kernel_rfl) 100 ?_
              refine ⟨_, ⟨rfl, rfl⟩, ?_⟩
              refine ⟨_, ⟨rfl, rfl⟩, ?_⟩
              refine ⟨_, ⟨rfl, rfl⟩, ?_⟩
              refine ⟨_, ⟨rfl, rfl⟩, ?_⟩
              refine ⟨_, ⟨rfl, rfl⟩, ?_⟩
              refine ⟨_, ⟨rfl, rfl⟩, ?_⟩
              refine ⟨_, ⟨rfl, rfl⟩, ?_⟩
              refine ⟨_, ⟨rfl, rfl⟩, ?_⟩
              refine ⟨.ptr 2001 e2.toNat 0, (show chk _ _ from chk_ok rf' (show chk _ _ from chk_ok rfl ⟨rfl, rfl⟩)), ?_⟩
              refine ⟨_, ⟨rfl, rfl⟩, ?_⟩
              refine ⟨⟨trivial, ?_⟩, trivial⟩
              (refine (?_ : chk _ _); refine chk_ok (Nat.ble_eq_true_of_le (show e2.toNat * 5 + (0 + 3) + 1 ≤ s.N * 5 by omega)) ?_)
              refine ⟨rfl, _, _, rfl, rfl, ?_⟩
              have o4 : outS s n 1 = { out3 s n 1 with E := updI (updI (out3 s n 1).E 5 e2) 4 (IntKind.i64.wrap ((IntKind.i64.wrap (s.E 4 - 1)) + 1)), lo := updB s.lo e2.toNat true } := by
                rw [outS, if_neg (by rw [hlo]; decide)]
                unfold out4
                simp only
                rw [if_pos (by rw [o3]; exact g), he2, o3]
                rfl
              rw [o4, o3]
              exact ⟨putE (putE (putE (putE GS0 3 (IntKind.i64.wrap (s.E 3 - 1)) (by omega)) 4 (IntKind.i64.wrap (s.E 4 - 1)) (by omega)) 5 e2 (by omega)) 4 _ (by omega), fun i c hi hc => put3 (N := s.N) gA_self e2.toNat true i c hi hc⟩
            · have g : ¬ (IntKind.i64.wrap (s.E 4 - 1)) < (IntKind.i64.wrap (s.E 3 - 1)) := g
              refine ⟨rfl, _, _, rfl, rfl, ?_⟩
              have o4 : outS s n 1 = out3 s n 1 := by
                rw [outS, if_neg (by rw [hlo]; decide)]
                unfold out4
                simp only
                rw [if_neg (by rw [o3]; exact g)]
              rw [o4, o3]
              exact ⟨putE (putE GS0 3 (IntKind.i64.wrap (s.E 3 - 1)) (by omega)) 4 (IntKind.i64.wrap (s.E 4 - 1)) (by omega), fun i c hi hc => rfl⟩
        · have hlo : s.lo n = false := hlo
          refine ⟨rfl, _, _, rfl, rfl, ?_⟩
          rw [outS, if_pos hlo]
          exact ⟨putE GS0 3 _ (by omega), fun i c hi hc => rfl⟩
end Go.Proofs.Ytdjekplkejkgdaa.Sx
