import Derived.Test.YtmohokeeglnliaaDoorSxV7
/-
  Whether the package is awake.
-/
namespace Go.Proofs.YtmohokeeglnliaaDoor.Sx
open Go Go.Proofs Go.RowKit Go.Sort
set_option maxRecDepth 100000
set_option linter.unusedSimpArgs false
set_option linter.unusedVariables false

theorem gOf_map {k : IntKind} {sz : Nat} {l : List Int} {i c : Nat} (h : i * sz + c < l.length) : gOf sz (l.map (V.int k)) i c = .int k (l.getD (i * sz + c) 0) := by
  unfold gOf
  rw [List.getElem?_map, List.getElem?_eq_getElem h]
  simp [List.getD, List.getElem?_eq_getElem h]
def aw3 : List Int := [0, 0, 0, 0, 0, 0, 0, 0, 0, 0, 4, 3, 0, 1, 0, 0, 0, 0, 0, 0, 4, 3, 0, 1, 0, 0, 0, 0, 0, 0]
theorem aw_best : bestN (fun j => hitV fun k => aw3.getD (0 + j * 10 + k) 0) 3 = 1 := by decide +kernel
theorem aw_hit : percV (rateV 3 (subV 4 0)).toNat = 75 := by decide +kernel
theorem aw_use : percV (rateV 0 0).toNat = 0 := by decide +kernel
theorem aw_nan : isN (rateV 0 0).toNat = true := by decide +kernel
theorem aw_num : isN (rateV 3 (subV 4 0)).toNat = false := by decide +kernel
theorem aw_b1 : btrV 4 3 0 0 0 0 0 0 0 0 = 1 := by decide +kernel
theorem aw_b2 : btrV 4 3 0 0 0 4 3 0 0 0 = 0 := by decide +kernel
theorem itoa75 : Lib.itoa 75 = [55, 53] := by simp [Lib.itoa, Lib.decDigits]
theorem itoa0 : Lib.itoa 0 = [48] := by simp [Lib.itoa, Lib.decDigits]
theorem aw_line : lineS (rateV 3 (subV 4 0)) (rateV 0 0) 75 0 0 = ⟨#[104, 105, 116, 32, 55, 53, 37, 32, 117, 115, 101, 32, 110, 111, 110, 101, 32, 108, 111, 115, 116, 32, 48, 37]⟩ := by
  refine ba_ext ?_
  rw [line_list, partS, partS, aw_nan, aw_num]
  show _ ++ (itoaB 75 ++ ⟨#[37]⟩).data.toList ++ _ ++ _ ++ _ ++ (itoaB 0).data.toList ++ _ = _
  rw [ba_list]
  show _ ++ (Lib.itoa 75 ++ _) ++ _ ++ _ ++ _ ++ Lib.itoa 0 ++ _ = _
  rw [itoa75, itoa0]
  rfl

theorem perc_mem (a : Nat) : 0 ≤ percV a ∧ percV a ≤ 100 := by
  by_cases h : isN a = true
  · unfold percV; rw [if_pos h]; decide
  · have h : isN a = false := by simpa using h
    rw [percV_val h]
    have hU : 0 < (U : Int) := by have := U_pos; omega
    split
    · decide
    · split
      · decide
      · rename_i h1 h2
        exact ⟨Int.ediv_nonneg (by omega) (by omega), by
          have := Int.ediv_lt_of_lt_mul hU (Int.not_le.1 h2)
          omega⟩
instance (n : Int) : Decidable (rng n) := inferInstanceAs (Decidable (_ ∧ _))
theorem perc_rng (a : Nat) : rng (percV a) := by have := perc_mem a; unfold rng; omega

def sAwake : Spec := fun args h nx K => args = [] ∧ K (.ret (.bool true)) h nx
def SPW : SpT := [(9, sOf), (13, sBestR), (15, sMeanR), (11, sLine), (17, sBetter)]
theorem spw : ∀ p ∈ SPW, SpecOK Tryd.prog p.1 p.2 := consSP sOf_ok (consSP sBestR_ok (consSP sMeanR_ok (consSP sLine_ok (consSP sBetter_ok noSP))))
theorem bd (n : Nat) (h : n < 100 := by decide) : bnd (n : Int) := by unfold bnd; omega
theorem aw_bnd : ∀ j k, j < 3 → k < 10 → bnd (aw3.getD (0 + j * 10 + k) 0) := by
  intro j k hj hk
  have : ∀ m : Fin 30, (0 ≤ aw3.getD m.1 0 ∧ aw3.getD m.1 0 ≤ 18446744073709551615) := by decide
  have e : 0 + j * 10 + k = (⟨0 + j * 10 + k, by omega⟩ : Fin 30).1 := rfl
  rw [e]
  exact this _
theorem sAwake_ok : SpecOK Tryd.prog 8 sAwake := by
  refine specOK_pure (fn := Tryd.f8) rfl rfl rfl T_ok (SP := SPW) spw [] trivial 400 _ ?_
  rintro args h nx K ⟨rfl, hk⟩
  refine ⟨trivial, by repeat constructor, by simp [Tryd.f8], fun o => o = .ret (.bool true), ?_, ?_⟩
  · rintro o rfl; exact ⟨trivial, hk⟩
  intro c hc
  clear hk
  intro b0
  refine ⟨bd 4, bd 0, ?_⟩
  obtain ⟨u, hu⟩ : ∃ u, u = rateV 3 (subV 4 0) := ⟨_, rfl⟩
  obtain ⟨v, hv⟩ : ∃ v, v = rateV 0 0 := ⟨_, rfl⟩
  obtain ⟨w, hw⟩ : ∃ w, w = rateV 0 (subV 4 0) := ⟨_, rfl⟩
  have eL : ofL 4 3 0 0 0 0 0 = [.int .u64 u, .int .u64 v, .int .u64 w, .int .i64 75, .int .i64 0, .int .i64 0] := by
    rw [hu, hv, hw, ofL, aw_hit, aw_use]
  rw [eL]
  intro b1 b2
  refine ⟨_, 3, fun j k => aw3.getD (0 + j * 10 + k) 0, rfl, .inr ⟨_, 0, 3, some ⟨b2, 0, none⟩, 3, _, rfl, rfl, by omega, fun j k => aw3.getD (0 + j * 10 + k) 0, fun j k hj hk => ?_, fun j k _ _ => ?_⟩, aw_bnd, by omega, ?_⟩
  · have h30 : aw3.length = 30 := rfl
    exact (gOf_map (k := .u64) (sz := 10) (l := aw3) (i := j) (c := k) (by omega)).trans (by show V.int .u64 (aw3.getD (j * 10 + k) 0) = V.int .u64 (aw3.getD (0 + j * 10 + k) 0); rw [Nat.zero_add])
  · show aw3.getD (0 + j * 10 + k) 0 = aw3.getD (0 + (0 + j) * 10 + k) 0
    rw [Nat.zero_add j]
  rw [aw_best]
  refine ⟨.nils, 0, fun _ _ => 0, rfl, .inl ⟨rfl, rfl⟩, fun j k hj => by omega, by omega, ?_⟩
  refine ⟨.nils, 0, fun _ _ => 0, rfl, .inl ⟨rfl, rfl⟩, by omega, ?_⟩
  rw [meanO_zero]
  refine ⟨by decide, by decide, by decide, fun s hs => ?_⟩
  rw [hu, hv, aw_line] at hs
  refine br_t (by rw [hs]; decide +kernel) ?_
  refine ⟨bd 4, bd 0, bd 0, bd 0, ?_⟩
  rw [aw_b1]
  refine ⟨bd 4, bd 0, bd 4, bd 0, ?_⟩
  rw [aw_b2]
  exact outB rfl
end Go.Proofs.YtmohokeeglnliaaDoor.Sx
