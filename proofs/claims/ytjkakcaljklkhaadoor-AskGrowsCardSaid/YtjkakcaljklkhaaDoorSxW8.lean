import Derived.Test.YtjkakcaljklkhaaDoorSxW7
/-
  The walks of this seat's functions, eighth part: the laws AskOptions, AskOps, AskFrames.
-/
namespace Go.Proofs.YtjkakcaljklkhaaDoor.Sx
open Go Go.Proofs
set_option maxRecDepth 100000
set_option linter.unusedSimpArgs false
set_option linter.unusedVariables false

theorem br_inB {lo hi v : Int} {A B : Prop} (h : lo ≤ v ∧ v ≤ hi → A) (k : ¬ (lo ≤ v ∧ v ≤ hi) → B) : br (inB lo hi v) A B :=
  br_both (fun e => h (by simpa [inB] using e)) (fun e => k (by simpa [inB] using e))
theorem br_inBT {lo hi v : Int} {A B : Prop} (hp : lo ≤ v ∧ v ≤ hi) (h : A) : br (inB lo hi v) A B := br_t (by simpa [inB] using hp) h
theorem br_inBF {lo hi v : Int} {A B : Prop} (hp : ¬ (lo ≤ v ∧ v ≤ hi)) (h : B) : br (inB lo hi v) A B := br_f (by simpa [inB] using hp) h

def SPL : SpT := (8, sAwake) :: SPA
theorem spl_ok : ∀ p ∈ SPL, SpecOK Tryd.prog p.1 p.2 := by
  intro p hp
  rcases List.mem_cons.1 hp with rfl | hp
  · exact sAwake_ok
  · exact spa p hp

def sLaw3 : Spec := fun args h nx K => match args with
  | [.agg [.int .i64 a0, .int .i64 a1, .int .i64 a2, .int .i64 a3, .int .i64 a4, .int .i64 a5, .int .i64 a6, .int .i64 a7, .int .i64 a8, .int .i64 a9, .int .i64 a10, .int .i64 a11, .int .i64 a12, .int .i64 a13], .int .i64 bl] => Has h G ∧ K (.ret (.bool true)) h nx
  | _ => False

set_option maxHeartbeats 1000000 in
theorem sLaw3_ok : SpecOK Tryd.prog 3 sLaw3 := by
  refine specOK_pure (fn := Tryd.f3) rfl rfl rfl T_ok (SP := SPL) spl_ok G G_ok 300 _ ?_
  intro args h nx K hs
  unfold sLaw3 at hs
  split at hs
  · rename_i a0 a1 a2 a3 a4 a5 a6 a7 a8 a9 a10 a11 a12 a13 bl
    refine ⟨hs.1, by repeat constructor, by simp [Tryd.f3], fun o => o = .ret (.bool true), ?_, ?_⟩
    · rintro o rfl; exact ⟨trivial, hs.2⟩
    intro c hc
    clear hs
    intro b0
    repeat' (first
      | (refine (?_ : br _ _ _); first
        | refine br_decT (by omega) ?_ | refine br_decF (by omega) ?_ | refine br_dec (fun _ => ?_) (fun _ => ?_)
        | refine br_inBT (by omega) ?_ | refine br_inBF (by omega) ?_ | refine br_inB (fun _ => ?_) (fun _ => ?_)
        | refine br_eqT (by omega) ?_ | refine br_eqF (by omega) ?_ | refine br_eq (fun _ => ?_) (fun _ => ?_)
        | refine br_neT (by omega) ?_ | refine br_neF (by omega) ?_ | refine br_ne (fun _ => ?_) (fun _ => ?_)
        | refine br_both (fun _ => ?_) (fun _ => ?_))
      | refine ⟨_, ⟨rfl, rfl⟩, ?_⟩
      | refine ⟨⟨⟨rfl, _, _, _, _, rfl⟩, trivial⟩, ?_⟩
      | refine ⟨_, ⟨⟨⟨rfl, _, _, _, _, rfl⟩, trivial⟩, rfl, rfl⟩, ?_⟩
      | refine W_drawn (mkE hc T_ok spl_ok) 20 1000 (by rw [hc]; exact mix) (by kernel_rfl) (by kernel_rfl) 100 ?_
      | intro _
      | fail)
    all_goals refine outB ?_
    all_goals simp_all [okI, may_usual, inB]
  · exact hs.elim

def sLaw4 : Spec := fun args h nx K => match args with
  | [.int .i64 bl, .agg [.int .i64 k, .int .i64 id, .int .i64 fi, .int .i64 co, vs, .bool we]] => (match lenV vs with
    | some n => n ≤ 9223372036854775807 ∧ Has h G ∧ K (.ret (.bool true)) h nx
    | none => False)
  | _ => False

set_option maxHeartbeats 1000000 in
theorem sLaw4_ok : SpecOK Tryd.prog 4 sLaw4 := by
  refine specOK_pure' (fn := Tryd.f4) rfl rfl rfl T_ok (SP := SPL) spl_ok G G_ok 300 _ ?_
  intro args h nx K hs
  unfold sLaw4 at hs
  split at hs
  · rename_i bl k id fi co vs we
    split at hs
    · rename_i n e
      refine ⟨hs.2.1, fun xs hv => ?_⟩
      obtain ⟨x0, xs0, rfl, r0, x, xs', rfl, r, rfl⟩ := hv
      obtain ⟨b, cp, r⟩ := opRaw (h' := G) e r
      refine ⟨[.int .i64 bl, .agg [.int .i64 k, .int .i64 id, .int .i64 fi, .int .i64 co, .raw (.slice b n cp), .bool we]], ⟨_, _, rfl, r0, _, _, rfl, r, rfl⟩, by simp [Tryd.f4], fun o => o = .ret (.bool true), ?_, ?_⟩
      · rintro o rfl; exact ⟨trivial, hs.2.2⟩
      intro c hc
      have hn := hs.1
      clear hs r e
      intro b0
      repeat' (first
        | (refine (?_ : br _ _ _); first
          | refine br_decT (by omega) ?_ | refine br_decF (by omega) ?_ | refine br_dec (fun _ => ?_) (fun _ => ?_)
          | refine br_inBT (by omega) ?_ | refine br_inBF (by omega) ?_ | refine br_inB (fun _ => ?_) (fun _ => ?_)
          | refine br_eqT (by omega) ?_ | refine br_eqF (by omega) ?_ | refine br_eq (fun _ => ?_) (fun _ => ?_)
          | refine br_neT (by omega) ?_ | refine br_neF (by omega) ?_ | refine br_ne (fun _ => ?_) (fun _ => ?_)
          | refine br_both (fun _ => ?_) (fun _ => ?_))
        | refine ⟨_, ⟨rfl, rfl⟩, ?_⟩
        | refine ⟨⟨⟨rfl, _, _, _, _, rfl⟩, trivial⟩, ?_⟩
        | refine ⟨_, ⟨⟨⟨rfl, _, _, _, _, rfl⟩, trivial⟩, rfl, rfl⟩, ?_⟩
        | refine ⟨hn, ⟨⟨rfl, _, _, _, _, rfl⟩, trivial⟩, ?_⟩
        | refine ⟨hn, ?_⟩
        | refine ⟨_, ⟨hn, ⟨⟨rfl, _, _, _, _, rfl⟩, trivial⟩, rfl, rfl⟩, ?_⟩
        | refine ⟨_, ⟨hn, rfl, rfl⟩, ?_⟩
        | refine W_drawn (mkE hc T_ok spl_ok) 20 1000 (by rw [hc]; exact mix) (by kernel_rfl) (by kernel_rfl) 100 ?_
        | intro _
        | fail)
      all_goals refine outB ?_
      all_goals simp_all
    · exact hs.elim
  · exact hs.elim

theorem may7 (fr bo : Int) : (okI (mayB 100 fr bo 16 8 4 4 3 8 32 4 8 16 4) == 0) = decide (1 ≤ fr ∧ fr ≤ 64 ∧ 1 ≤ bo ∧ bo ≤ fr) := by
  have e : mayB 100 fr bo 16 8 4 4 3 8 32 4 8 16 4 = decide (1 ≤ fr ∧ fr ≤ 64 ∧ 1 ≤ bo ∧ bo ≤ fr) := by
    simp [mayB, inB]
    grind
  rw [e]
  cases decide (1 ≤ fr ∧ fr ≤ 64 ∧ 1 ≤ bo ∧ bo ≤ fr) <;> rfl

def sLaw7 : Spec := fun args h nx K => match args with
  | [.int .i64 fr, .int .i64 bo] => Has h G ∧ K (.ret (.bool true)) h nx
  | _ => False

set_option maxHeartbeats 1000000 in
theorem sLaw7_ok : SpecOK Tryd.prog 7 sLaw7 := by
  refine specOK_pure (fn := Tryd.f7) rfl rfl rfl T_ok (SP := SPL) spl_ok G G_ok 300 _ ?_
  intro args h nx K hs
  unfold sLaw7 at hs
  split at hs
  · rename_i fr bo
    refine ⟨hs.1, by repeat constructor, by simp [Tryd.f7], fun o => o = .ret (.bool true), ?_, ?_⟩
    · rintro o rfl; exact ⟨trivial, hs.2⟩
    intro c hc
    clear hs
    repeat' (first
      | (refine (?_ : br _ _ _); first
        | refine br_decT (by omega) ?_ | refine br_decF (by omega) ?_ | refine br_dec (fun _ => ?_) (fun _ => ?_)
        | refine br_inBT (by omega) ?_ | refine br_inBF (by omega) ?_ | refine br_inB (fun _ => ?_) (fun _ => ?_)
        | refine br_eqT (by omega) ?_ | refine br_eqF (by omega) ?_ | refine br_eq (fun _ => ?_) (fun _ => ?_)
        | refine br_neT (by omega) ?_ | refine br_neF (by omega) ?_ | refine br_ne (fun _ => ?_) (fun _ => ?_)
        | refine br_both (fun _ => ?_) (fun _ => ?_))
      | refine ⟨_, ⟨rfl, rfl⟩, ?_⟩
      | refine ⟨⟨⟨rfl, _, _, _, _, rfl⟩, trivial⟩, ?_⟩
      | refine ⟨_, ⟨⟨⟨rfl, _, _, _, _, rfl⟩, trivial⟩, rfl, rfl⟩, ?_⟩
      | refine W_drawn (mkE hc T_ok spl_ok) 20 1000 (by rw [hc]; exact mix) (by kernel_rfl) (by kernel_rfl) 100 ?_
      | intro _
      | fail)
    all_goals refine outB ?_
    all_goals rw [may7]
    all_goals grind
  · exact hs.elim

end Go.Proofs.YtjkakcaljklkhaaDoor.Sx
