import Derived.Test.YtdjekplkejkgdaaSxW4
/-
  The walks of this seat's functions: a node is put in front of a list.
-/
namespace Go.Proofs.Ytdjekplkejkgdaa.Sx
open Go Go.Proofs
set_option maxRecDepth 100000
set_option linter.unusedSimpArgs false
set_option linter.unusedVariables false

def gd (s : Sh) (q : Nat) : Nat := s.N - 2 + q
/-- A node in front of list q. -/
def inS (s : Sh) (q n : Nat) : Sh :=
  let f := s.d (gd s q); let low := decide (s.E (3 * q + 1) < s.bot); let E1 := updI s.E (3 * q) (IntKind.i64.wrap (s.E (3 * q) + 1))
  { s with u := updI (updI s.u n (gd s q)) f.toNat n, d := updI (updI s.d n f) (gd s q) n, l := updI s.l n q, lo := updB s.lo n low, E := if low = true then updI (updI E1 (3 * q + 1) (IntKind.i64.wrap (E1 (3 * q + 1) + 1))) (3 * q + 2) n else E1 }
def preIn : List V → Sh → Sh → V → Prop := fun rest s s' v => ∃ (q n : Nat), rest = [.int .i64 (q : Int), .int .i64 (n : Int)] ∧ q < 2 ∧ n < s.N ∧ 3 ≤ s.N ∧ s.N ≤ 1000 ∧ (0 ≤ s.d (gd s q) ∧ s.d (gd s q) < s.N) ∧ s' = inS s q n ∧ v = .tup []
theorem gd_wrap {s : Sh} {q : Nat} (h3 : 3 ≤ s.N) (h1 : s.N ≤ 1000) (hq : q < 2) : IntKind.i64.wrap (s.n + (q : Int)) = ((gd s q : Nat) : Int) := by
  unfold Sh.n gd
  simp only [IntKind.wrap_i64]
  omega
theorem in_ok : SpecOK Try.prog 38 (fun args h nx K => ∃ p rest s s' v, args = p :: rest ∧ preIn rest s s' v ∧ sMut h nx K p s s' v) := by
  refine specOK_shelf (fn := Try.f38) rfl rfl rfl T_ok (SP := [(25, sGuard)]) (consSP sGuard_ok noSP) preIn ?_ ?_
  · rintro rest s s' v ⟨q, n, rfl, _, _, _, _, _, rfl, rfl⟩
    exact ⟨⟨trivial, trivial, trivial⟩, trivial, rfl, by simp [Try.f38]⟩
  · rintro rest s s' v bS bA c ⟨q, n, rfl, hq, hn, h3, h1, hd, rfl, rfl⟩ hc
    have hq2 : q = 0 ∨ q = 1 := by omega
    rcases hq2 with rfl | rfl
    · -- list 0
      have hG := gd_wrap (q := 0) h3 h1 (by omega)
      obtain ⟨G, hGe⟩ : ∃ G, G = gd s 0 := ⟨_, rfl⟩
      have hGN : G < s.N := by rw [hGe]; unfold gd; omega
      rw [← hGe] at hG hd
      have rG : (decide ((0 : Int) ≤ (G : Int)) && decide ((G : Int) < (s.N : Int))) = true := by simp only [Bool.and_eq_true, decide_eq_true_eq]; omega
      have rn' : (decide ((0 : Int) ≤ (n : Int)) && decide ((n : Int) < (s.N : Int))) = true := by simp only [Bool.and_eq_true, decide_eq_true_eq]; omega
      have rf : (decide ((0 : Int) ≤ s.d G) && decide (s.d G < (s.N : Int))) = true := by simp only [Bool.and_eq_true, decide_eq_true_eq]; omega
      have eS : ∀ {τ : Nat → Nat} {hh : Hp}, (2001 = τ 2001 ∧ live hh 2001) → ∀ i c, i < 1 → c < 8 → rn τ hh (gS 2001 s.N s.bot s.E i c) (gS 2001 s.N s.bot s.E i c) := fun ht i c hi hc => gS_rn ht
      refine W_seq (nx := 0) ?_
      refine W_to (nx := 0) [(0, .ptr 2000 0 0), (1, .int .i64 0), (2, .int .i64 (n : Int)), (6, .int .i64 (G : Int))] [(2000, .blk bS 1 8 (gS 2001 s.N s.bot s.E) 61), (2001, .blk bA s.N 5 (gA s.u s.d s.l s.lo s.he) 63)] 30 ?_ ?_
      · refine vc_sound (mkE' hc (consSP sGuard_ok noSP)) 20 _ _ _ 0 ?_
        refine ⟨_, s, _, rfl, ⟨2000, 2001, bS, bA, _, _, rfl, by decide, rfl, rfl, fun c hc => rfl, fun i c hi hc => rfl⟩, ?_⟩
        rw [hG]
        refine ⟨tau [], rfl, ?_, ⟨rfl, rfl, rfl, rfl, eS ⟨rfl, trivial⟩⟩, ⟨rfl, rfl, rfl, rfl, fun i c hi hc => gA_rn hc⟩, trivial⟩
        repeat' (first | exact rfl | exact trivial | refine ⟨?_, ?_⟩)
      refine W_seq (nx := 0) ?_
      refine W_to (nx := 0) [(0, .ptr 2000 0 0), (1, .int .i64 0), (2, .int .i64 (n : Int)), (6, .int .i64 (G : Int)), (7, .ptr 2000 0 2)] [(2000, .blk bS 1 8 (gS 2001 s.N s.bot s.E) 61), (2001, .blk bA s.N 5 (gA s.u s.d s.l s.lo s.he) 63)] 30 ?_ ?_
      · refine vc_sound (mkE' hc (consSP sGuard_ok noSP)) 20 _ _ _ 0 ?_
        refine ⟨tau [], rfl, ?_, ⟨rfl, rfl, rfl, rfl, eS ⟨rfl, trivial⟩⟩, ⟨rfl, rfl, rfl, rfl, fun i c hi hc => gA_rn hc⟩, trivial⟩
        repeat' (first | exact rfl | exact trivial | refine ⟨?_, ?_⟩)
      refine W_seq (nx := 0) ?_
      refine W_to (nx := 0) [(0, .ptr 2000 0 0), (1, .int .i64 0), (2, .int .i64 (n : Int)), (6, .int .i64 (G : Int)), (7, .ptr 2000 0 2), (8, .int .i64 (s.d G))] [(2000, .blk bS 1 8 (gS 2001 s.N s.bot s.E) 61), (2001, .blk bA s.N 5 (gA s.u s.d s.l s.lo s.he) 63)] 30 ?_ ?_
      · refine vc_sound (mkE' hc (consSP sGuard_ok noSP)) 20 _ _ _ 0 ?_
        (refine (?_ : chk _ _); refine chk_ok rG ?_)
        (refine (?_ : chk _ _); refine chk_ok rfl ?_)
        (refine (?_ : chk _ _); refine chk_ok (Nat.ble_eq_true_of_le (show G * 5 + (0 + 1) + 1 ≤ s.N * 5 by omega)) ?_)
        refine ⟨tau [], rfl, ?_, ⟨rfl, rfl, rfl, rfl, eS ⟨rfl, trivial⟩⟩, ⟨rfl, rfl, rfl, rfl, fun i c hi hc => gA_rn hc⟩, trivial⟩
        repeat' (first | exact rfl | exact trivial | refine ⟨?_, ?_⟩)
      refine W_seq (nx := 0) ?_
      refine W_to (nx := 0) [(0, .ptr 2000 0 0), (1, .int .i64 0), (2, .int .i64 (n : Int)), (6, .int .i64 (G : Int)), (7, .ptr 2000 0 2), (8, .int .i64 (s.d G)), (9, .ptr 2001 n 0)] [(2000, .blk bS 1 8 (gS 2001 s.N s.bot s.E) 61), (2001, .blk bA s.N 5 (gA s.u s.d s.l s.lo s.he) 63)] 30 ?_ ?_
      · refine vc_sound (mkE' hc (consSP sGuard_ok noSP)) 20 _ _ _ 0 ?_
        (refine (?_ : chk _ _); refine chk_ok rn' ?_)
        (refine (?_ : chk _ _); refine chk_ok rfl ?_)
        refine ⟨tau [], rfl, ?_, ⟨rfl, rfl, rfl, rfl, eS ⟨rfl, trivial⟩⟩, ⟨rfl, rfl, rfl, rfl, fun i c hi hc => gA_rn hc⟩, trivial⟩
        repeat' (first | exact rfl | exact trivial | refine ⟨?_, ?_⟩)
      refine W_seq (nx := 0) ?_
      refine W_to (nx := 0) [(0, .ptr 2000 0 0), (1, .int .i64 0), (2, .int .i64 (n : Int)), (6, .int .i64 (G : Int)), (7, .ptr 2000 0 2), (8, .int .i64 (s.d G)), (9, .ptr 2001 n 0)] [(2000, .blk bS 1 8 (gS 2001 s.N s.bot s.E) 61), (2001, .blk bA s.N 5 (gA (updI s.u n G) (updI s.d n (s.d G)) (updI s.l n 0) (updB s.lo n (decide (s.E 1 < s.bot))) s.he) 63)] 30 ?_ ?_
      · refine W_plan (mkE' hc (consSP sGuard_ok noSP)) 3 18 (lineP 0 18 (oneP 18 (oneP 19 (oneP 20 (oneP 21 (oneP 22 (oneP 23 (oneP 24 (oneP 25 (oneP 26 (oneP 27 (.done)))))))))))) (by rw [hc]; exact mix) (by kernel_rfl) 10 ?_
        repeat' (first | refine ⟨_, ⟨rfl, rfl⟩, ?_⟩ | fail)
        refine ⟨⟨trivial, ?_⟩, trivial⟩
        (refine (?_ : chk _ _); refine chk_ok (Nat.ble_eq_true_of_le (show n * 5 + (0 + 0) + 1 ≤ s.N * 5 by omega)) ?_)
        refine ⟨⟨trivial, ?_⟩, trivial⟩
        refine ⟨⟨trivial, ?_⟩, trivial⟩
        refine ⟨⟨trivial, ?_⟩, trivial⟩
        (refine (?_ : chk _ _); refine chk_ok (Nat.ble_eq_true_of_le (show n * 5 + (0 + 1) + 1 ≤ s.N * 5 by omega)) ?_)
        refine ⟨⟨trivial, ?_⟩, trivial⟩
        refine ⟨⟨trivial, ?_⟩, trivial⟩
        refine ⟨⟨trivial, ?_⟩, trivial⟩
        (refine (?_ : chk _ _); refine chk_ok (Nat.ble_eq_true_of_le (show n * 5 + (0 + 2) + 1 ≤ s.N * 5 by omega)) ?_)
        refine ⟨⟨trivial, ?_⟩, trivial⟩
        refine ⟨⟨trivial, ?_⟩, trivial⟩
        refine ⟨⟨trivial, ?_⟩, trivial⟩
        (refine (?_ : chk _ _); refine chk_ok (Nat.ble_eq_true_of_le (show n * 5 + (0 + 3) + 1 ≤ s.N * 5 by omega)) ?_)
        refine ⟨tau [], rfl, ?_, ?_⟩
        · repeat' (first | exact rfl | exact trivial | refine ⟨?_, ?_⟩)
        · exact ⟨⟨rfl, rfl, rfl, rfl, eS ⟨rfl, trivial⟩⟩, ⟨rfl, rfl, rfl, rfl, fun i c hi hc => gA_eq (put3 (N := s.N) (put2 (N := s.N) (put1 (N := s.N) (put0 (N := s.N) (gA_self (u := s.u) (d := s.d) (l := s.l) (lo := s.lo) (he := s.he)) n (G : Int)) n (s.d G)) n 0) n (decide (s.E 1 < s.bot)) i c hi hc) hc⟩, trivial⟩
      refine W_seq (nx := 0) ?_
      refine W_to (nx := 0) [(0, .ptr 2000 0 0), (2, .int .i64 (n : Int)), (7, .ptr 2000 0 2), (9, .ptr 2001 n 0)] [(2000, .blk bS 1 8 (gS 2001 s.N s.bot s.E) 61), (2001, .blk bA s.N 5 (gA (inS s 0 n).u (inS s 0 n).d (inS s 0 n).l (inS s 0 n).lo s.he) 63)] 30 ?_ ?_
      · refine W_plan (mkE' hc (consSP sGuard_ok noSP)) 3 14 (lineP 0 14 (oneP 14 (oneP 15 (oneP 16 (oneP 17 .done))))) (by rw [hc]; exact mix) (by kernel_rfl) 10 ?_
        refine ⟨_, ⟨rfl, rfl⟩, ?_⟩
        refine ⟨_, ⟨rfl, rfl⟩, ?_⟩
        refine ⟨_, ⟨rfl, rfl⟩, ?_⟩
        refine ⟨_, ⟨rfl, rfl⟩, ?_⟩
        refine ⟨_, ⟨rfl, rfl⟩, ?_⟩
        refine ⟨_, ⟨rfl, rfl⟩, ?_⟩
        refine ⟨_, ⟨rfl, rfl⟩, ?_⟩
        refine ⟨_, ⟨rfl, rfl⟩, ?_⟩
        refine ⟨_, ⟨rfl, rfl⟩, ?_⟩
        refine ⟨_, ⟨rfl, rfl⟩, ?_⟩
        refine ⟨_, ⟨rfl, rfl⟩, ?_⟩
        refine ⟨_, ⟨rfl, rfl⟩, ?_⟩
        refine ⟨.ptr 2001 G 0, (show chk _ _ from chk_ok rG (show chk _ _ from chk_ok rfl ⟨rfl, rfl⟩)), ?_⟩
        refine ⟨_, ⟨rfl, rfl⟩, ?_⟩
        refine ⟨⟨trivial, ?_⟩, trivial⟩
        (refine (?_ : chk _ _); refine chk_ok (Nat.ble_eq_true_of_le (show G * 5 + (0 + 1) + 1 ≤ s.N * 5 by omega)) ?_)
        refine ⟨⟨trivial, ?_⟩, trivial⟩
        (refine (?_ : chk _ _); refine chk_ok rf ?_)
        (refine (?_ : chk _ _); refine chk_ok rfl ?_)
        refine ⟨⟨trivial, ?_⟩, trivial⟩
        refine ⟨⟨trivial, ?_⟩, trivial⟩
        (refine (?_ : chk _ _); refine chk_ok (Nat.ble_eq_true_of_le (show (s.d G).toNat * 5 + (0 + 0) + 1 ≤ s.N * 5 by omega)) ?_)
        refine ⟨tau [], rfl, ?_, ?_⟩
        · repeat' (first | exact rfl | exact trivial | refine ⟨?_, ?_⟩)
        · refine ⟨⟨rfl, rfl, rfl, rfl, eS ⟨rfl, trivial⟩⟩, ⟨rfl, rfl, rfl, rfl, fun i c hi hc => ?_⟩, trivial⟩
          have := put0 (N := s.N) (put1 (N := s.N) (gA_self (u := updI s.u n G) (d := updI s.d n (s.d G)) (l := updI s.l n 0) (lo := updB s.lo n (decide (s.E 1 < s.bot))) (he := s.he)) G n) (s.d G).toNat n i c hi hc
          refine gA_eq (this.trans ?_) hc
          rw [hGe]
          rfl
      · refine vc_sound (mkE' hc (consSP sGuard_ok noSP)) 100 _ _ _ 30 ?_
        have hlow : (inS s 0 n).lo n = decide (s.E 1 < s.bot) := by simp [inS, updB]
        (refine (?_ : chk _ _); refine chk_ok (Nat.ble_eq_true_of_le (show n * 5 + (0 + 3) + 1 ≤ s.N * 5 by omega)) ?_)
        (refine (?_ : br _ _ _); refine br_both (fun e => ?_) (fun e => ?_))
        · have e : (inS s 0 n).lo n = true := e
          rw [hlow] at e
          refine ⟨rfl, _, _, rfl, rfl, ?_, fun i c hi hc => rfl⟩
          have hE : (inS s 0 n).E = updI (updI (updI s.E 0 (IntKind.i64.wrap (s.E 0 + 1))) 1 (IntKind.i64.wrap (s.E 1 + 1))) 2 n := by
            show (if decide (s.E 1 < s.bot) = true then _ else _) = _
            rw [if_pos e]
            rfl
          intro c hc
          rw [hE]
          exact putE (putE (putE (fun _ _ => rfl) 0 _ (by omega)) 1 _ (by omega)) 2 _ (by omega) c hc
        · have e : (inS s 0 n).lo n = false := e
          rw [hlow] at e
          refine ⟨rfl, _, _, rfl, rfl, ?_, fun i c hi hc => rfl⟩
          have hE : (inS s 0 n).E = updI s.E 0 (IntKind.i64.wrap (s.E 0 + 1)) := by
            show (if decide (s.E 1 < s.bot) = true then _ else _) = _
            rw [if_neg (by rw [e]; decide)]
          intro c hc
          rw [hE]
          exact putE (fun _ _ => rfl) 0 _ (by omega) c hc
    · -- list 1
      have hG := gd_wrap (q := 1) h3 h1 (by omega)
      obtain ⟨G, hGe⟩ : ∃ G, G = gd s 1 := ⟨_, rfl⟩
      have hGN : G < s.N := by rw [hGe]; unfold gd; omega
      rw [← hGe] at hG hd
      have rG : (decide ((0 : Int) ≤ (G : Int)) && decide ((G : Int) < (s.N : Int))) = true := by simp only [Bool.and_eq_true, decide_eq_true_eq]; omega
      have rn' : (decide ((0 : Int) ≤ (n : Int)) && decide ((n : Int) < (s.N : Int))) = true := by simp only [Bool.and_eq_true, decide_eq_true_eq]; omega
      have rf : (decide ((0 : Int) ≤ s.d G) && decide (s.d G < (s.N : Int))) = true := by simp only [Bool.and_eq_true, decide_eq_true_eq]; omega
      have eS : ∀ {τ : Nat → Nat} {hh : Hp}, (2001 = τ 2001 ∧ live hh 2001) → ∀ i c, i < 1 → c < 8 → rn τ hh (gS 2001 s.N s.bot s.E i c) (gS 2001 s.N s.bot s.E i c) := fun ht i c hi hc => gS_rn ht
      refine W_seq (nx := 0) ?_
      refine W_to (nx := 0) [(0, .ptr 2000 0 0), (1, .int .i64 1), (2, .int .i64 (n : Int)), (6, .int .i64 (G : Int))] [(2000, .blk bS 1 8 (gS 2001 s.N s.bot s.E) 61), (2001, .blk bA s.N 5 (gA s.u s.d s.l s.lo s.he) 63)] 30 ?_ ?_
      · refine vc_sound (mkE' hc (consSP sGuard_ok noSP)) 20 _ _ _ 0 ?_
        refine ⟨_, s, _, rfl, ⟨2000, 2001, bS, bA, _, _, rfl, by decide, rfl, rfl, fun c hc => rfl, fun i c hi hc => rfl⟩, ?_⟩
        rw [hG]
        refine ⟨tau [], rfl, ?_, ⟨rfl, rfl, rfl, rfl, eS ⟨rfl, trivial⟩⟩, ⟨rfl, rfl, rfl, rfl, fun i c hi hc => gA_rn hc⟩, trivial⟩
        repeat' (first | exact rfl | exact trivial | refine ⟨?_, ?_⟩)
      refine W_seq (nx := 0) ?_
      refine W_to (nx := 0) [(0, .ptr 2000 0 0), (1, .int .i64 1), (2, .int .i64 (n : Int)), (6, .int .i64 (G : Int)), (7, .ptr 2000 0 5)] [(2000, .blk bS 1 8 (gS 2001 s.N s.bot s.E) 61), (2001, .blk bA s.N 5 (gA s.u s.d s.l s.lo s.he) 63)] 30 ?_ ?_
      · refine vc_sound (mkE' hc (consSP sGuard_ok noSP)) 20 _ _ _ 0 ?_
        refine ⟨tau [], rfl, ?_, ⟨rfl, rfl, rfl, rfl, eS ⟨rfl, trivial⟩⟩, ⟨rfl, rfl, rfl, rfl, fun i c hi hc => gA_rn hc⟩, trivial⟩
        repeat' (first | exact rfl | exact trivial | refine ⟨?_, ?_⟩)
      refine W_seq (nx := 0) ?_
      refine W_to (nx := 0) [(0, .ptr 2000 0 0), (1, .int .i64 1), (2, .int .i64 (n : Int)), (6, .int .i64 (G : Int)), (7, .ptr 2000 0 5), (8, .int .i64 (s.d G))] [(2000, .blk bS 1 8 (gS 2001 s.N s.bot s.E) 61), (2001, .blk bA s.N 5 (gA s.u s.d s.l s.lo s.he) 63)] 30 ?_ ?_
      · refine vc_sound (mkE' hc (consSP sGuard_ok noSP)) 20 _ _ _ 0 ?_
        (refine (?_ : chk _ _); refine chk_ok rG ?_)
        (refine (?_ : chk _ _); refine chk_ok rfl ?_)
        (refine (?_ : chk _ _); refine chk_ok (Nat.ble_eq_true_of_le (show G * 5 + (0 + 1) + 1 ≤ s.N * 5 by omega)) ?_)
        refine ⟨tau [], rfl, ?_, ⟨rfl, rfl, rfl, rfl, eS ⟨rfl, trivial⟩⟩, ⟨rfl, rfl, rfl, rfl, fun i c hi hc => gA_rn hc⟩, trivial⟩
        repeat' (first | exact rfl | exact trivial | refine ⟨?_, ?_⟩)
      refine W_seq (nx := 0) ?_
      refine W_to (nx := 0) [(0, .ptr 2000 0 0), (1, .int .i64 1), (2, .int .i64 (n : Int)), (6, .int .i64 (G : Int)), (7, .ptr 2000 0 5), (8, .int .i64 (s.d G)), (9, .ptr 2001 n 0)] [(2000, .blk bS 1 8 (gS 2001 s.N s.bot s.E) 61), (2001, .blk bA s.N 5 (gA s.u s.d s.l s.lo s.he) 63)] 30 ?_ ?_
      · refine vc_sound (mkE' hc (consSP sGuard_ok noSP)) 20 _ _ _ 0 ?_
        (refine (?_ : chk _ _); refine chk_ok rn' ?_)
        (refine (?_ : chk _ _); refine chk_ok rfl ?_)
        refine ⟨tau [], rfl, ?_, ⟨rfl, rfl, rfl, rfl, eS ⟨rfl, trivial⟩⟩, ⟨rfl, rfl, rfl, rfl, fun i c hi hc => gA_rn hc⟩, trivial⟩
        repeat' (first | exact rfl | exact trivial | refine ⟨?_, ?_⟩)
      refine W_seq (nx := 0) ?_
      refine W_to (nx := 0) [(0, .ptr 2000 0 0), (1, .int .i64 1), (2, .int .i64 (n : Int)), (6, .int .i64 (G : Int)), (7, .ptr 2000 0 5), (8, .int .i64 (s.d G)), (9, .ptr 2001 n 0)] [(2000, .blk bS 1 8 (gS 2001 s.N s.bot s.E) 61), (2001, .blk bA s.N 5 (gA (updI s.u n G) (updI s.d n (s.d G)) (updI s.l n 1) (updB s.lo n (decide (s.E 4 < s.bot))) s.he) 63)] 30 ?_ ?_
      · refine W_plan (mkE' hc (consSP sGuard_ok noSP)) 3 18 (lineP 0 18 (oneP 18 (oneP 19 (oneP 20 (oneP 21 (oneP 22 (oneP 23 (oneP 24 (oneP 25 (oneP 26 (oneP 27 (.done)))))))))))) (by rw [hc]; exact mix) (by kernel_rfl) 10 ?_
        repeat' (first | refine ⟨_, ⟨rfl, rfl⟩, ?_⟩ | fail)
        refine ⟨⟨trivial, ?_⟩, trivial⟩
        (refine (?_ : chk _ _); refine chk_ok (Nat.ble_eq_true_of_le (show n * 5 + (0 + 0) + 1 ≤ s.N * 5 by omega)) ?_)
        refine ⟨⟨trivial, ?_⟩, trivial⟩
        refine ⟨⟨trivial, ?_⟩, trivial⟩
        refine ⟨⟨trivial, ?_⟩, trivial⟩
        (refine (?_ : chk _ _); refine chk_ok (Nat.ble_eq_true_of_le (show n * 5 + (0 + 1) + 1 ≤ s.N * 5 by omega)) ?_)
        refine ⟨⟨trivial, ?_⟩, trivial⟩
        refine ⟨⟨trivial, ?_⟩, trivial⟩
        refine ⟨⟨trivial, ?_⟩, trivial⟩
        (refine (?_ : chk _ _); refine chk_ok (Nat.ble_eq_true_of_le (show n * 5 + (0 + 2) + 1 ≤ s.N * 5 by omega)) ?_)
        refine ⟨⟨trivial, ?_⟩, trivial⟩
        refine ⟨⟨trivial, ?_⟩, trivial⟩
        refine ⟨⟨trivial, ?_⟩, trivial⟩
        (refine (?_ : chk _ _); refine chk_ok (Nat.ble_eq_true_of_le (show n * 5 + (0 + 3) + 1 ≤ s.N * 5 by omega)) ?_)
        refine ⟨tau [], rfl, ?_, ?_⟩
        · repeat' (first | exact rfl | exact trivial | refine ⟨?_, ?_⟩)
        · exact ⟨⟨rfl, rfl, rfl, rfl, eS ⟨rfl, trivial⟩⟩, ⟨rfl, rfl, rfl, rfl, fun i c hi hc => gA_eq (put3 (N := s.N) (put2 (N := s.N) (put1 (N := s.N) (put0 (N := s.N) (gA_self (u := s.u) (d := s.d) (l := s.l) (lo := s.lo) (he := s.he)) n (G : Int)) n (s.d G)) n 1) n (decide (s.E 4 < s.bot)) i c hi hc) hc⟩, trivial⟩
      refine W_seq (nx := 0) ?_
      refine W_to (nx := 0) [(0, .ptr 2000 0 0), (2, .int .i64 (n : Int)), (7, .ptr 2000 0 5), (9, .ptr 2001 n 0)] [(2000, .blk bS 1 8 (gS 2001 s.N s.bot s.E) 61), (2001, .blk bA s.N 5 (gA (inS s 1 n).u (inS s 1 n).d (inS s 1 n).l (inS s 1 n).lo s.he) 63)] 30 ?_ ?_
      · refine W_plan (mkE' hc (consSP sGuard_ok noSP)) 3 14 (lineP 0 14 (oneP 14 (oneP 15 (oneP 16 (oneP 17 .done))))) (by rw [hc]; exact mix) (by kernel_rfl) 10 ?_
        refine ⟨_, ⟨rfl, rfl⟩, ?_⟩
        refine ⟨_, ⟨rfl, rfl⟩, ?_⟩
        refine ⟨_, ⟨rfl, rfl⟩, ?_⟩
        refine ⟨_, ⟨rfl, rfl⟩, ?_⟩
        refine ⟨_, ⟨rfl, rfl⟩, ?_⟩
        refine ⟨_, ⟨rfl, rfl⟩, ?_⟩
        refine ⟨_, ⟨rfl, rfl⟩, ?_⟩
        refine ⟨_, ⟨rfl, rfl⟩, ?_⟩
        refine ⟨_, ⟨rfl, rfl⟩, ?_⟩
        refine ⟨_, ⟨rfl, rfl⟩, ?_⟩
        refine ⟨_, ⟨rfl, rfl⟩, ?_⟩
        refine ⟨_, ⟨rfl, rfl⟩, ?_⟩
        refine ⟨.ptr 2001 G 0, (show chk _ _ from chk_ok rG (show chk _ _ from chk_ok rfl ⟨rfl, rfl⟩)), ?_⟩
        refine ⟨_, ⟨rfl, rfl⟩, ?_⟩
        refine ⟨⟨trivial, ?_⟩, trivial⟩
        (refine (?_ : chk _ _); refine chk_ok (Nat.ble_eq_true_of_le (show G * 5 + (0 + 1) + 1 ≤ s.N * 5 by omega)) ?_)
        refine ⟨⟨trivial, ?_⟩, trivial⟩
        (refine (?_ : chk _ _); refine chk_ok rf ?_)
        (refine (?_ : chk _ _); refine chk_ok rfl ?_)
        refine ⟨⟨trivial, ?_⟩, trivial⟩
        refine ⟨⟨trivial, ?_⟩, trivial⟩
        (refine (?_ : chk _ _); refine chk_ok (Nat.ble_eq_true_of_le (show (s.d G).toNat * 5 + (0 + 0) + 1 ≤ s.N * 5 by omega)) ?_)
        refine ⟨tau [], rfl, ?_, ?_⟩
        · repeat' (first | exact rfl | exact trivial | refine ⟨?_, ?_⟩)
        · refine ⟨⟨rfl, rfl, rfl, rfl, eS ⟨rfl, trivial⟩⟩, ⟨rfl, rfl, rfl, rfl, fun i c hi hc => ?_⟩, trivial⟩
          have := put0 (N := s.N) (put1 (N := s.N) (gA_self (u := updI s.u n G) (d := updI s.d n (s.d G)) (l := updI s.l n 1) (lo := updB s.lo n (decide (s.E 4 < s.bot))) (he := s.he)) G n) (s.d G).toNat n i c hi hc
          refine gA_eq (this.trans ?_) hc
          rw [hGe]
          rfl
      · refine vc_sound (mkE' hc (consSP sGuard_ok noSP)) 100 _ _ _ 30 ?_
        have hlow : (inS s 1 n).lo n = decide (s.E 4 < s.bot) := by simp [inS, updB]
        (refine (?_ : chk _ _); refine chk_ok (Nat.ble_eq_true_of_le (show n * 5 + (0 + 3) + 1 ≤ s.N * 5 by omega)) ?_)
        (refine (?_ : br _ _ _); refine br_both (fun e => ?_) (fun e => ?_))
        · have e : (inS s 1 n).lo n = true := e
          rw [hlow] at e
          refine ⟨rfl, _, _, rfl, rfl, ?_, fun i c hi hc => rfl⟩
          have hE : (inS s 1 n).E = updI (updI (updI s.E 3 (IntKind.i64.wrap (s.E 3 + 1))) 4 (IntKind.i64.wrap (s.E 4 + 1))) 5 n := by
            show (if decide (s.E 4 < s.bot) = true then _ else _) = _
            rw [if_pos e]
            rfl
          intro c hc
          rw [hE]
          exact putE (putE (putE (fun _ _ => rfl) 3 _ (by omega)) 4 _ (by omega)) 5 _ (by omega) c hc
        · have e : (inS s 1 n).lo n = false := e
          rw [hlow] at e
          refine ⟨rfl, _, _, rfl, rfl, ?_, fun i c hi hc => rfl⟩
          have hE : (inS s 1 n).E = updI s.E 3 (IntKind.i64.wrap (s.E 3 + 1)) := by
            show (if decide (s.E 4 < s.bot) = true then _ else _) = _
            rw [if_neg (by rw [e]; decide)]
          intro c hc
          rw [hE]
          exact putE (fun _ _ => rfl) 3 _ (by omega) c hc
end Go.Proofs.Ytdjekplkejkgdaa.Sx
