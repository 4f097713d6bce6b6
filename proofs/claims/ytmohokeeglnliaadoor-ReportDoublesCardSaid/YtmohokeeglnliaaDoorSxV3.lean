import Derived.Test.YtmohokeeglnliaaDoorSxV2
/-
  The walks of this seat's functions: a number as text by the document, and its line.
-/
namespace Go.Proofs.YtmohokeeglnliaaDoor.Sx
open Go Go.Proofs Go.RowKit Go.Sort
set_option maxRecDepth 100000
set_option linter.unusedSimpArgs false
set_option linter.unusedVariables false

def digs (u : Nat) : List UInt8 := if u = 0 then [] else Lib.decDigits u
theorem digs_step {u : Nat} (h : u ≠ 0) : digs u = digs (u / 10) ++ [UInt8.ofNat (48 + u % 10)] := by
  unfold digs
  rw [if_neg h]
  rw [Lib.decDigits]
  split
  · rename_i q
    rw [if_pos (by omega), Nat.mod_eq_of_lt q]
    rfl
  · rename_i q
    rw [if_neg (by omega)]
theorem ba_ext {a b : ByteArray} (h : a.data.toList = b.data.toList) : a = b := by
  cases a; cases b
  congr 1
  exact Array.toList_inj.1 h
theorem ba_list (a b : ByteArray) : (a ++ b).data.toList = a.data.toList ++ b.data.toList := by simp
theorem enc_digit {d : Nat} (h : d < 10) : (Utf8.encode ((48 : Int) + d)).data.toList = [UInt8.ofNat (48 + d)] := by
  have : d = 0 ∨ d = 1 ∨ d = 2 ∨ d = 3 ∨ d = 4 ∨ d = 5 ∨ d = 6 ∨ d = 7 ∨ d = 8 ∨ d = 9 := by omega
  rcases this with rfl | rfl | rfl | rfl | rfl | rfl | rfl | rfl | rfl | rfl <;> rfl

def sDigits : Spec := fun args h nx K => match args with
  | [.int .i64 n] => rng n ∧ ∀ s, s = itoaB n → K (.ret (.str s)) h nx
  | _ => False
theorem sDigits_ok : SpecOK Tryd.prog 32 sDigits := by
  refine specOK_pure (fn := Tryd.f32) rfl rfl rfl T_ok (SP := []) noSP [] trivial 200 _ ?_
  intro args h nx K hs
  unfold sDigits at hs
  split at hs
  · rename_i n
    obtain ⟨hn, hk⟩ := hs
    refine ⟨trivial, by repeat constructor, by simp [Tryd.f32], fun o => o = .ret (.str (itoaB n)), ?_, ?_⟩
    · rintro o rfl; exact ⟨trivial, hk _ rfl⟩
    intro c hc
    clear hk
    refine br_eq (fun e => ?_) (fun e => ?_)
    · have e : n = 0 := e
      subst e
      exact outS (by decide +kernel)
    · have e : n ≠ 0 := e
      refine W_loop (fun r σ h => ∃ (k : Int) (out : ByteArray), r = k.natAbs ∧ rng k ∧ digs k.natAbs ++ out.data.toList = Lib.decDigits n.natAbs ∧
        σ = [(0, .int .i64 n), (2, .str ⟨#[]⟩), (3, .str out), (4, .int .i64 k)] ∧ h = []) n.natAbs ⟨n, ⟨#[]⟩, rfl, hn, ?_, rfl, rfl⟩ (tau []) ⟨rfl, ?_, ?_⟩ 30 ?_
      · rw [digs, if_neg (by omega)]; simp
      · repeat' (first | exact rfl | exact trivial | refine ⟨?_, ?_⟩)
      · exact trivial
      rintro r σ h1 ⟨k, out, rfl, hk, hd, rfl, rfl⟩
      refine vc_sound (mkE hc T_ok noSP) 200 _ _ _ 30 ?_
      have hlen : out.size ≤ 19 := by
        have h1 := congrArg List.length hd
        have h2 := decDigits_len 18 n.natAbs (by unfold rng at hn; omega)
        rw [List.length_append] at h1
        have h3 : out.data.toList.length = out.size := rfl
        omega
      (refine (?_ : br _ _ _); refine br_ne (fun e0 => ?_) (fun e0 => ?_))
      · have e0 : k ≠ 0 := e0
        have hq : (k.tdiv 10).natAbs = k.natAbs / 10 := by rw [Int.natAbs_tdiv]; rfl
        have hm : (k.tmod 10).natAbs = k.natAbs % 10 := by rw [Int.natAbs_tmod]; rfl
        have hw : IntKind.i64.wrap (k.tdiv 10) = k.tdiv 10 := IntWalk.i64_in _ (by unfold rng at hk; omega)
        have step : ∀ d : Int, d = (k.natAbs % 10 : Nat) → Utf8.encode (IntKind.i32.wrap (IntKind.i64.wrap (48 + d))) = ⟨#[UInt8.ofNat (48 + k.natAbs % 10)]⟩ := by
          rintro d rfl
          rw [IntWalk.i64_in _ (by omega), IntWalk.i32_in _ (by omega)]
          refine ba_ext ?_
          rw [enc_digit (Nat.mod_lt _ (by omega))]
        have fin : ∀ d : Int, d = (k.natAbs % 10 : Nat) → digs (IntKind.i64.wrap (k.tdiv 10)).natAbs ++ (Utf8.encode (IntKind.i32.wrap (IntKind.i64.wrap (48 + d))) ++ out).data.toList = Lib.decDigits n.natAbs := by
          intro d hd'
          rw [step d hd', hw, ba_list, hq, ← hd, digs_step (u := k.natAbs) (by omega)]
          simp
        have sz : ∀ d : Int, d = (k.natAbs % 10 : Nat) → (Utf8.encode (IntKind.i32.wrap (IntKind.i64.wrap (48 + d)))).size + out.size ≤ 9223372036854775807 := by
          intro d hd'
          rw [step d hd']
          show 1 + out.size ≤ _
          omega
        have hk' : rng (IntKind.i64.wrap (k.tdiv 10)) := by rw [hw]; unfold rng at *; omega
        (refine (?_ : br _ _ _); refine br_dec (fun e1 => ?_) (fun e1 => ?_))
        · have e1 : k.tmod 10 < 0 := e1
          have hd' : IntKind.i64.wrap (0 - k.tmod 10) = (k.natAbs % 10 : Nat) := by rw [IntWalk.i64_in _ (by omega)]; omega
          refine ⟨sz _ hd', fun s hs => ?_⟩
          refine ⟨(IntKind.i64.wrap (k.tdiv 10)).natAbs, _, _, by rw [hw, hq]; omega, ⟨IntKind.i64.wrap (k.tdiv 10), s, rfl, hk', by rw [hs]; exact fin _ hd', rfl, rfl⟩, tau [], rfl, ?_, trivial⟩
          repeat' (first | exact rfl | exact trivial | refine ⟨?_, ?_⟩)
        · have e1 : ¬ k.tmod 10 < 0 := e1
          have hd' : k.tmod 10 = (k.natAbs % 10 : Nat) := by omega
          refine ⟨sz _ hd', fun s hs => ?_⟩
          refine ⟨(IntKind.i64.wrap (k.tdiv 10)).natAbs, _, _, by rw [hw, hq]; omega, ⟨IntKind.i64.wrap (k.tdiv 10), s, rfl, hk', by rw [hs]; exact fin _ hd', rfl, rfl⟩, tau [], rfl, ?_, trivial⟩
          repeat' (first | exact rfl | exact trivial | refine ⟨?_, ?_⟩)
      · have e0 : k = 0 := e0
        subst e0
        have hd : out.data.toList = Lib.decDigits n.natAbs := by rw [← hd]; rfl
        (refine (?_ : br _ _ _); refine br_dec (fun e1 => ?_) (fun e1 => ?_))
        · have e1 : n < 0 := e1
          refine ⟨(show 1 + out.size ≤ _ by omega), fun s hs => ?_⟩
          refine outS (ba_ext ?_)
          rw [hs, ba_list, hd]
          show _ = (Lib.itoa n).toArray.toList
          rw [Lib.itoa, if_pos e1]
          rfl
        · have e1 : ¬ n < 0 := e1
          refine outS (ba_ext ?_)
          rw [hd]
          show _ = (Lib.itoa n).toArray.toList
          rw [Lib.itoa, if_neg e1, show n.natAbs = n.toNat from by omega]
  · exact hs.elim

theorem lit_size (a : Array UInt8) : (⟨a⟩ : ByteArray).size = a.size := rfl
theorem line_list (g0 g1 n3 n4 n5 : Int) : (lineS g0 g1 n3 n4 n5).data.toList = [104, 105, 116, 32] ++ (partS g0 n3).data.toList ++ [32, 117, 115, 101, 32] ++ (partS g1 n4).data.toList ++ [32, 108, 111, 115, 116, 32] ++ (itoaB n5).data.toList ++ [37] := by
  show (Lib.join _ _).toArray.toList = _
  unfold Lib.join
  simp [List.intercalate]
/-- The document's line of these parts. -/
def lineR (p q : ByteArray) (n : Int) : ByteArray := (⟨#[104, 105, 116, 32]⟩ ++ p) ++ ⟨#[32, 117, 115, 101, 32]⟩ ++ q ++ ⟨#[32, 108, 111, 115, 116, 32]⟩ ++ itoaB n ++ ⟨#[37]⟩
theorem line_same {g0 g1 n3 n4 n5 : Int} {p q : ByteArray} (hp : p = partS g0 n3) (hq : q = partS g1 n4) : lineR p q n5 = lineS g0 g1 n3 n4 n5 := by
  subst hp hq
  refine ba_ext ?_
  rw [line_list]
  simp [lineR]
def SPR : SpT := [(22, sIsNaN), (32, sDigits)]
theorem spr : ∀ p ∈ SPR, SpecOK Tryd.prog p.1 p.2 := consSP sIsNaN_ok (consSP sDigits_ok noSP)
def sRefLine : Spec := fun args h nx K => match args with
  | [.agg [.int .u64 g0, .int .u64 g1, .int .u64 g2, .int .i64 n3, .int .i64 n4, .int .i64 n5]] => bnd g0 ∧ bnd g1 ∧ rng n3 ∧ rng n4 ∧ rng n5 ∧ ∀ s, s = lineS g0 g1 n3 n4 n5 → K (.ret (.str s)) h nx
  | _ => False
theorem sRefLine_ok : SpecOK Tryd.prog 12 sRefLine := by
  refine specOK_pure (fn := Tryd.f12) rfl rfl rfl T_ok (SP := SPR) spr [] trivial 300 _ ?_
  intro args h nx K hs
  unfold sRefLine at hs
  split at hs
  · rename_i g0 g1 g2 n3 n4 n5
    obtain ⟨b0, b1, h3, h4, h5, hk⟩ := hs
    refine ⟨trivial, by repeat constructor, by simp [Tryd.f12], fun o => o = .ret (.str (lineS g0 g1 n3 n4 n5)), ?_, ?_⟩
    · rintro o rfl; exact ⟨trivial, hk _ rfl⟩
    intro c hc
    clear hk
    intro bb
    have l3 := itoa_len h3
    have l4 := itoa_len h4
    have l5 := itoa_len h5
    have p3 := part_len (g := g0) h3
    have p4 := part_len (g := g1) h4
    refine ⟨b0, ?_⟩
    (refine (?_ : br _ _ _); refine br_not (br_both (fun i0 => ?_) (fun i0 => ?_)))
    · have i0 : isN g0.toNat = true := i0
      refine ⟨b1, ?_⟩
      have e1 : (⟨#[110, 111, 110, 101]⟩ : ByteArray) = partS g0 n3 := by unfold partS; rw [if_pos i0]
      (refine (?_ : br _ _ _); refine br_not (br_both (fun i1 => ?_) (fun i1 => ?_)))
      · have i1 : isN g1.toNat = true := i1
        have e2 : (⟨#[110, 111, 110, 101]⟩ : ByteArray) = partS g1 n4 := by unfold partS; rw [if_pos i1]
        refine ⟨?_, fun s1 h1 => ?_⟩
        · rw [e1]; simp only [lit_size, List.size_toArray, List.length_cons, List.length_nil]; omega
        refine ⟨?_, fun s2 h2 => ?_⟩
        · rw [h1, e1]; simp only [ba_app, lit_size, List.size_toArray, List.length_cons, List.length_nil]; omega
        refine ⟨?_, fun s3 h3 => ?_⟩
        · first | rw [h2, h1, e1, e2] | rw [h2, h1, e1]
          simp only [ba_app, lit_size, List.size_toArray, List.length_cons, List.length_nil]; omega
        refine ⟨?_, fun s4 h4 => ?_⟩
        · first | rw [h3, h2, h1, e1, e2] | rw [h3, h2, h1, e1]
          simp only [ba_app, lit_size, List.size_toArray, List.length_cons, List.length_nil]; omega
        refine ⟨h5, fun d5 hd5 => ?_⟩
        refine ⟨?_, fun s5 h5 => ?_⟩
        · first | rw [hd5, h4, h3, h2, h1, e1, e2] | rw [hd5, h4, h3, h2, h1, e1]
          simp only [ba_app, lit_size, List.size_toArray, List.length_cons, List.length_nil]; omega
        refine ⟨?_, fun s6 h6 => ?_⟩
        · first | rw [h5, hd5, h4, h3, h2, h1, e1, e2] | rw [h5, hd5, h4, h3, h2, h1, e1]
          simp only [ba_app, lit_size, List.size_toArray, List.length_cons, List.length_nil]; omega
        exact outS (by rw [h6, h5, hd5, h4, h3, h2, h1]; exact line_same e1 e2)
      · have i1 : isN g1.toNat = false := i1
        refine ⟨h4, fun d4 hd4 => ?_⟩
        refine ⟨by rw [hd4]; have s1 : (⟨#[37]⟩ : ByteArray).size = 1 := rfl; omega, fun q hq => ?_⟩
        have e2 : q = partS g1 n4 := by rw [hq, hd4]; unfold partS; rw [i1]; rfl
        refine ⟨?_, fun s1 h1 => ?_⟩
        · rw [e1]; simp only [lit_size, List.size_toArray, List.length_cons, List.length_nil]; omega
        refine ⟨?_, fun s2 h2 => ?_⟩
        · rw [h1, e1]; simp only [ba_app, lit_size, List.size_toArray, List.length_cons, List.length_nil]; omega
        refine ⟨?_, fun s3 h3 => ?_⟩
        · first | rw [h2, h1, e1, e2] | rw [h2, h1, e1]
          simp only [ba_app, lit_size, List.size_toArray, List.length_cons, List.length_nil]; omega
        refine ⟨?_, fun s4 h4 => ?_⟩
        · first | rw [h3, h2, h1, e1, e2] | rw [h3, h2, h1, e1]
          simp only [ba_app, lit_size, List.size_toArray, List.length_cons, List.length_nil]; omega
        refine ⟨h5, fun d5 hd5 => ?_⟩
        refine ⟨?_, fun s5 h5 => ?_⟩
        · first | rw [hd5, h4, h3, h2, h1, e1, e2] | rw [hd5, h4, h3, h2, h1, e1]
          simp only [ba_app, lit_size, List.size_toArray, List.length_cons, List.length_nil]; omega
        refine ⟨?_, fun s6 h6 => ?_⟩
        · first | rw [h5, hd5, h4, h3, h2, h1, e1, e2] | rw [h5, hd5, h4, h3, h2, h1, e1]
          simp only [ba_app, lit_size, List.size_toArray, List.length_cons, List.length_nil]; omega
        exact outS (by rw [h6, h5, hd5, h4, h3, h2, h1]; exact line_same e1 e2)
    · have i0 : isN g0.toNat = false := i0
      refine ⟨h3, fun d3 hd3 => ?_⟩
      refine ⟨by rw [hd3]; have s1 : (⟨#[37]⟩ : ByteArray).size = 1 := rfl; omega, fun p hp => ?_⟩
      refine ⟨b1, ?_⟩
      have e1 : p = partS g0 n3 := by rw [hp, hd3]; unfold partS; rw [i0]; rfl
      (refine (?_ : br _ _ _); refine br_not (br_both (fun i1 => ?_) (fun i1 => ?_)))
      · have i1 : isN g1.toNat = true := i1
        have e2 : (⟨#[110, 111, 110, 101]⟩ : ByteArray) = partS g1 n4 := by unfold partS; rw [if_pos i1]
        refine ⟨?_, fun s1 h1 => ?_⟩
        · rw [e1]; simp only [lit_size, List.size_toArray, List.length_cons, List.length_nil]; omega
        refine ⟨?_, fun s2 h2 => ?_⟩
        · rw [h1, e1]; simp only [ba_app, lit_size, List.size_toArray, List.length_cons, List.length_nil]; omega
        refine ⟨?_, fun s3 h3 => ?_⟩
        · first | rw [h2, h1, e1, e2] | rw [h2, h1, e1]
          simp only [ba_app, lit_size, List.size_toArray, List.length_cons, List.length_nil]; omega
        refine ⟨?_, fun s4 h4 => ?_⟩
        · first | rw [h3, h2, h1, e1, e2] | rw [h3, h2, h1, e1]
          simp only [ba_app, lit_size, List.size_toArray, List.length_cons, List.length_nil]; omega
        refine ⟨h5, fun d5 hd5 => ?_⟩
        refine ⟨?_, fun s5 h5 => ?_⟩
        · first | rw [hd5, h4, h3, h2, h1, e1, e2] | rw [hd5, h4, h3, h2, h1, e1]
          simp only [ba_app, lit_size, List.size_toArray, List.length_cons, List.length_nil]; omega
        refine ⟨?_, fun s6 h6 => ?_⟩
        · first | rw [h5, hd5, h4, h3, h2, h1, e1, e2] | rw [h5, hd5, h4, h3, h2, h1, e1]
          simp only [ba_app, lit_size, List.size_toArray, List.length_cons, List.length_nil]; omega
        exact outS (by rw [h6, h5, hd5, h4, h3, h2, h1]; exact line_same e1 e2)
      · have i1 : isN g1.toNat = false := i1
        refine ⟨h4, fun d4 hd4 => ?_⟩
        refine ⟨by rw [hd4]; have s1 : (⟨#[37]⟩ : ByteArray).size = 1 := rfl; omega, fun q hq => ?_⟩
        have e2 : q = partS g1 n4 := by rw [hq, hd4]; unfold partS; rw [i1]; rfl
        refine ⟨?_, fun s1 h1 => ?_⟩
        · rw [e1]; simp only [lit_size, List.size_toArray, List.length_cons, List.length_nil]; omega
        refine ⟨?_, fun s2 h2 => ?_⟩
        · rw [h1, e1]; simp only [ba_app, lit_size, List.size_toArray, List.length_cons, List.length_nil]; omega
        refine ⟨?_, fun s3 h3 => ?_⟩
        · first | rw [h2, h1, e1, e2] | rw [h2, h1, e1]
          simp only [ba_app, lit_size, List.size_toArray, List.length_cons, List.length_nil]; omega
        refine ⟨?_, fun s4 h4 => ?_⟩
        · first | rw [h3, h2, h1, e1, e2] | rw [h3, h2, h1, e1]
          simp only [ba_app, lit_size, List.size_toArray, List.length_cons, List.length_nil]; omega
        refine ⟨h5, fun d5 hd5 => ?_⟩
        refine ⟨?_, fun s5 h5 => ?_⟩
        · first | rw [hd5, h4, h3, h2, h1, e1, e2] | rw [hd5, h4, h3, h2, h1, e1]
          simp only [ba_app, lit_size, List.size_toArray, List.length_cons, List.length_nil]; omega
        refine ⟨?_, fun s6 h6 => ?_⟩
        · first | rw [h5, hd5, h4, h3, h2, h1, e1, e2] | rw [h5, hd5, h4, h3, h2, h1, e1]
          simp only [ba_app, lit_size, List.size_toArray, List.length_cons, List.length_nil]; omega
        exact outS (by rw [h6, h5, hd5, h4, h3, h2, h1]; exact line_same e1 e2)
  · exact hs.elim
end Go.Proofs.YtmohokeeglnliaaDoor.Sx
