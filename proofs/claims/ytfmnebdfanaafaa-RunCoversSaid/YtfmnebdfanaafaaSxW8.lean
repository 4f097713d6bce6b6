import Derived.Test.YtfmnebdfanaafaaSxW7
import Derived.Test.YtfmnebdfanaafaaSxW4
/-
  The walks of this seat's functions, eighth part: awake.
-/
namespace Go.Proofs.Ytfmnebdfanaafaa.Sx
open Go Go.Proofs
set_option maxRecDepth 100000
set_option linter.unusedSimpArgs false
set_option linter.unusedVariables false
set_option linter.unnecessarySimpa false

theorem rdI_lit {h : Hp} {t b ty : Nat} {l : List Int} (e : fd t h = .blk b l.length 1 (gOf 1 (l.map fun x => .int .i64 x)) ty ∨ fd t h = .ro (some ⟨b, 0, none⟩) l.length 1 (gOf 1 (l.map fun x => .int .i64 x))) : rdI h (.slice t 0 l.length l.length) l.length (fun j => l.getD j 0) := by
  refine .inr ⟨t, 0, l.length, some ⟨b, 0, none⟩, l.length, gOf 1 (l.map fun x => .int .i64 x), rfl, ?_, by omega, fun j => l.getD j 0, fun j hj => ?_, fun j hj => by rw [Nat.zero_add]⟩
  · rw [fd_roH]
    rcases e with e | e <;> rw [e] <;> rfl
  · unfold gOf
    rw [Nat.mul_one, Nat.add_zero, List.getElem?_map, List.getElem?_eq_getElem hj]
    simp [List.getD_eq_getElem?_getD, hj]
theorem rdI_nil {h : Hp} : rdI h .nils 0 (fun _ => 0) := .inl ⟨rfl, rfl⟩
theorem rdR_lit {h : Hp} {t b ty : Nat} {l : List (Int × Int)} (e : fd t h = .blk b l.length 2 (gOf 2 (l.flatMap fun x => [.int .i64 x.1, .int .i64 x.2])) ty ∨ fd t h = .ro (some ⟨b, 0, none⟩) l.length 2 (gOf 2 (l.flatMap fun x => [.int .i64 x.1, .int .i64 x.2])))
    (hl : ∀ j, j < l.length → gOf 2 (l.flatMap fun x => [.int .i64 x.1, .int .i64 x.2]) j 0 = .int .i64 (l.getD j (0, 0)).1 ∧ gOf 2 (l.flatMap fun x => [.int .i64 x.1, .int .i64 x.2]) j 1 = .int .i64 (l.getD j (0, 0)).2) : rdR h (.slice t 0 l.length l.length) l.length (fun j => (l.getD j (0, 0)).1) (fun j => (l.getD j (0, 0)).2) := by
  refine .inr ⟨t, 0, l.length, some ⟨b, 0, none⟩, l.length, _, rfl, ?_, by omega, _, _, hl, fun j hj => by rw [Nat.zero_add]; exact ⟨rfl, rfl⟩⟩
  rw [fd_roH]
  rcases e with e | e <;> rw [e] <;> rfl

def SPW : SpT := [(8, sAround), (10, sCover), (12, sSame), (13, sMeet), (15, sInts), (16, sBlocks)]
theorem spw : ∀ p ∈ SPW, SpecOK Try.prog p.1 p.2 := consSP sAround_ok (consSP sCover_ok (consSP sSame_ok (consSP sMeet_ok (consSP sInts_ok (consSP sBlocks_ok noSP)))))

def sAwake : Spec := fun args h nx K => match args with
  | [] => K (.ret (.bool true)) h nx
  | _ => False

def L1 : List Int := [3, 4, 5, 7]
theorem aw1 : around (hasB 4 (fun j => [3, 4, 5, 7].getD j 0)) (hasB 0 (fun _ => 0)) 4 3 0 = (3, 3, 0) := by decide +kernel
theorem aw2 : around (hasB 4 (fun j => [3, 4, 5, 7].getD j 0)) (hasB 1 (fun j => [5].getD j 0)) 4 2 0 = (3, 2, 0) := by decide +kernel
theorem aw3 : around (hasB 1 (fun j => [3].getD j 0)) (hasB 1 (fun j => [3].getD j 0)) 3 2 0 = (0, 0, 2) := by decide +kernel
theorem aw4 : cov 2 (hasB 4 (fun j => [7, 3, 1, 2].getD j 0)) 256 = [(1, 2), (3, 1), (7, 1)] := by decide +kernel
theorem aw5 : covBad 2 4 (fun j => [7, 3, 1, 2].getD j 0) = false := by decide +kernel
theorem aw6 : covBad 2 1 (fun j => [256].getD j 0) = true := by decide +kernel
theorem i64s : ∀ {a : Int}, -1000 ≤ a → a ≤ 1000 → i64 a := fun h k => ⟨by omega, by omega⟩
def planA : Plan := lineP 0 29 (.all (.cons 29 (lineP 30 15 (.all (.cons 45 (oneP 46 (lineP 47 3 .done)) (.cons 46 (oneP 45 (lineP 47 3 .done)) .nil)))) .nil))

set_option maxHeartbeats 2000000 in
theorem sAwake_ok : SpecOK Try.prog 7 sAwake := by
  refine specOK_pure (fn := Try.f7) rfl rfl rfl T_ok (SP := SPW) spw [] trivial 400 _ ?_
  intro args h nx K hs
  unfold sAwake at hs
  split at hs
  rotate_left
  · exact hs.elim
  refine ⟨trivial, trivial, by simp [Try.f7], fun o => o = .ret (.bool true), ?_, ?_⟩
  · rintro o rfl; exact ⟨trivial, hs⟩
  intro cx hcx
  clear hs
  intro b0
  refine ⟨_, _, _, _, _, 4, 0, _, _, rfl, rdI_lit (l := [3, 4, 5, 7]) (.inl rfl), rdI_nil, by omega, by omega, i64s (by decide) (by decide), i64s (by decide) (by decide), i64s (by decide) (by decide), ?_⟩
  rw [aw1]
  intro b1 b2 b3
  refine ⟨_, _, _, _, _, 4, 1, _, _, rfl, rdI_lit (l := [3, 4, 5, 7]) (.inl rfl), rdI_lit (l := [5]) (.inl rfl), by omega, by omega, i64s (by decide) (by decide), i64s (by decide) (by decide), i64s (by decide) (by decide), ?_⟩
  rw [aw2]
  intro b4 b5 b6
  refine ⟨_, _, _, _, _, 1, 1, _, _, rfl, rdI_lit (l := [3]) (.inl rfl), rdI_lit (l := [3]) (.inl rfl), by omega, by omega, i64s (by decide) (by decide), i64s (by decide) (by decide), i64s (by decide) (by decide), ?_⟩
  rw [aw3]
  intro b7 b8
  refine ⟨_, 4, _, _, rfl, rdI_lit (l := [7, 3, 1, 2]) (.inl rfl), by omega, i64s (by decide) (by decide), fun e => absurd e (by rw [aw5]; decide), fun _ => ⟨fun e => absurd e (by rw [aw4]; decide), fun p bb cap F F' e hcap => ⟨rfl, ?_⟩⟩⟩
  rw [aw4] at e
  obtain rfl : p = 2 := by have := congrArg List.length e; simp [rowsL] at this; omega
  have e : (F 0 = 1 ∧ F' 0 = 2) ∧ (F 1 = 3 ∧ F' 1 = 1) ∧ (F 2 = 7 ∧ F' 2 = 1) := by
    simp [rowsL, List.range_succ] at e
    omega
  obtain ⟨⟨f0, g0⟩, ⟨f1, g1⟩, f2, g2⟩ := e
  intro b9
  refine ⟨_, 1, _, _, rfl, rdI_lit (l := [256]) (.inl rfl), by omega, i64s (by decide) (by decide), fun _ => ?_, fun e => absurd e (by rw [aw6]; decide)⟩
  refine W_plan (id := 6) (mkE hcx T_ok spw) 60 50 planA (by rw [hcx]; exact mix) (by kernel_rfl) 200 ?_
  repeat' (first | refine ⟨_, ⟨rfl, rfl⟩, ?_⟩ | fail)
  refine ⟨⟨fun _ => trivial, fun b10 => ?_⟩, trivial⟩
  refine ⟨_, ⟨_, _, 3, 3, F, F', _, _, rfl, .inr ⟨_, 0, cap, _, cap, _, rfl, rfl, by omega, F, F', fun _ _ => ⟨rfl, rfl⟩, fun j hj => by rw [Nat.zero_add]; exact ⟨rfl, rfl⟩⟩, rdR_lit (ty := 0) (l := [(1, 2), (3, 1), (7, 1)]) (.inr rfl) (fun j hj => ?_), by omega, by omega, rfl, rfl⟩, ?_⟩
  · match j, hj with
    | 0, _ | 1, _ | 2, _ => exact ⟨rfl, rfl⟩
  refine ⟨_, ⟨rfl, rfl⟩, ?_⟩
  refine ⟨_, ⟨rfl, rfl⟩, ?_⟩
  have hsame : (decide (3 = 3) && (sameB 3 F (fun j => ([(1, 2), (3, 1), (7, 1)].getD j ((0 : Int), (0 : Int))).1) && sameB 3 F' (fun j => ([(1, 2), (3, 1), (7, 1)].getD j ((0 : Int), (0 : Int))).2))) = true := by
    rw [sameB_iff.2 fun j hj => ?_, sameB_iff.2 fun j hj => ?_]
    · rfl
    · match j, hj with
      | 0, _ => exact g0
      | 1, _ => exact g1
      | 2, _ => exact g2
    · match j, hj with
      | 0, _ => exact f0
      | 1, _ => exact f1
      | 2, _ => exact f2
  (refine (?_ : br _ _ _); refine br_t hsame ?_)
  repeat' (first | refine ⟨_, ⟨rfl, rfl⟩, ?_⟩ | fail)
  refine ⟨_, ⟨i64s (by decide) (by decide), i64s (by decide) (by decide), i64s (by decide) (by decide), i64s (by decide) (by decide), rfl, rfl⟩, ?_⟩
  refine ⟨_, ⟨rfl, rfl⟩, ?_⟩
  refine ⟨_, ⟨rfl, rfl⟩, ?_⟩
  refine ⟨_, ⟨rfl, rfl⟩, ?_⟩
  refine ⟨_, ⟨rfl, rfl⟩, ?_⟩
  have hints : ∀ G : Nat → Int, (∀ j : Nat, j < 2 → G j = 3 + j) → (decide (2 = 2) && sameB 2 G (fun j => [3, 4].getD j 0)) = true := fun G hG => by
    rw [sameB_iff.2 fun j hj => ?_]
    · rfl
    · rw [hG j hj]
      match j, hj with
      | 0, _ | 1, _ => rfl
  refine ⟨_, ⟨rfl, rfl⟩, ?_⟩
  refine ⟨?_, ?_, trivial⟩
  · refine ⟨i64s (by decide) (by decide), i64s (by decide) (by decide), rfl, fun bb2 cap2 G hcap2 hG => ⟨rfl, rfl, fun i c _ _ => trivial, ?_⟩⟩
    refine ⟨⟨fun _ => trivial, fun b11 => ?_⟩, trivial⟩
    have hcap2 : 2 ≤ cap2 := hcap2
    have hG : ∀ j : Nat, j < 2 → G j = 3 + j := hG
    refine ⟨_, ⟨_, _, 2, 2, G, _, rfl, .inr ⟨_, 0, cap2, _, cap2, _, rfl, rfl, by omega, G, fun _ _ => rfl, fun j hj => by rw [Nat.zero_add]⟩, rdI_lit (ty := 0) (l := [3, 4]) (.inr rfl), by omega, by omega, rfl, rfl⟩, ?_⟩
    refine ⟨_, ⟨rfl, rfl⟩, ?_⟩
    refine ⟨_, ⟨rfl, rfl⟩, ?_⟩
    refine outB ?_
    exact hints G hG
  · refine ⟨fun _ => trivial, fun b11 => ?_⟩
    refine ⟨?_, trivial⟩
    refine ⟨i64s (by decide) (by decide), i64s (by decide) (by decide), rfl, fun bb2 cap2 G hcap2 hG => ⟨rfl, rfl, fun i c _ _ => trivial, ?_⟩⟩
    have hcap2 : 2 ≤ cap2 := hcap2
    have hG : ∀ j : Nat, j < 2 → G j = 3 + j := hG
    refine ⟨_, ⟨_, _, 2, 2, G, _, rfl, .inr ⟨_, 0, cap2, _, cap2, _, rfl, rfl, by omega, G, fun _ _ => rfl, fun j hj => by rw [Nat.zero_add]⟩, rdI_lit (ty := 0) (l := [3, 4]) (.inr rfl), by omega, by omega, rfl, rfl⟩, ?_⟩
    refine ⟨_, ⟨rfl, rfl⟩, ?_⟩
    refine ⟨_, ⟨rfl, rfl⟩, ?_⟩
    refine outB ?_
    exact hints G hG
end Go.Proofs.Ytfmnebdfanaafaa.Sx
