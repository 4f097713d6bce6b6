import Derived.Test.YtjkakcaljklkhaaDoorSxW8
/-
  The walks of this seat's functions, ninth part: the laws AskGrows, AskReads.
-/
namespace Go.Proofs.YtjkakcaljklkhaaDoor.Sx
open Go Go.Proofs
set_option maxRecDepth 100000
set_option linter.unusedSimpArgs false
set_option linter.unusedVariables false

theorem u8_of {n : Int} (h : IntKind.u8.has n) : 0 ≤ n ∧ n ≤ 255 := h

/-- What Op says, told by cases. -/
theorem op_cases (bl k id fi co : Int) (n : Nat) (we : Bool) (h : 1 ≤ bl ∧ bl ≤ 256) :
    (opC bl k id fi co n we = 1 ∧ (sizeB k id fi co n we = false ∨ k ≠ 4 ∧ k ≠ 5 ∧ ¬ (1 ≤ sizeN k co n ∧ sizeN k co n ≤ 8))) ∨
    (opC bl k id fi co n we = 6 ∧ sizeB k id fi co n we = true ∧ k ≠ 4 ∧ k ≠ 5 ∧ (1 ≤ sizeN k co n ∧ sizeN k co n ≤ 8) ∧ (fi < 0 ∨ fi > bl - sizeN k co n)) ∨
    (opC bl k id fi co n we = 0 ∧ sizeB k id fi co n we = true ∧ ((k = 4 ∨ k = 5) ∨ (1 ≤ sizeN k co n ∧ sizeN k co n ≤ 8) ∧ 0 ≤ fi ∧ fi ≤ bl - sizeN k co n)) := by
  unfold opC
  generalize sizeN k co n = s
  generalize sizeB k id fi co n we = z
  have e1 : inB 1 256 bl = true := by simp [inB, h.1, h.2]
  have e2 : inB 1 8 s = decide (1 ≤ s ∧ s ≤ 8) := by simp [inB]
  rw [e1, e2]
  cases z <;> simp <;> grind
theorem size_kinds (k id fi co : Int) (n : Nat) (we : Bool) : (sizeB k id fi co n we = true → 1 ≤ k ∧ k ≤ 5) ∧ (k = 4 ∨ k = 5 → sizeN k co n = 0) := by
  unfold sizeB sizeN
  grind

def sLaw5 : Spec := fun args h nx K => match args with
  | [.int .u8 p, .int .u8 q, .agg [.int .i64 k, .int .i64 id, .int .i64 fi, .int .i64 co, vs, .bool we]] => (match lenV vs with
    | some n => (0 ≤ p ∧ p ≤ 255) ∧ (0 ≤ q ∧ q ≤ 255) ∧ n ≤ 9223372036854775807 ∧ Has h G ∧ K (.ret (.bool true)) h nx
    | none => False)
  | _ => False

set_option maxHeartbeats 2000000 in
theorem sLaw5_ok : SpecOK Tryd.prog 5 sLaw5 := by
  refine specOK_pure' (fn := Tryd.f5) rfl rfl rfl T_ok (SP := SPL) spl_ok G G_ok 300 _ ?_
  intro args h nx K hs
  unfold sLaw5 at hs
  split at hs
  · rename_i p q k id fi co vs we
    split at hs
    · rename_i n e
      refine ⟨hs.2.2.2.1, fun xs hv => ?_⟩
      obtain ⟨x0, xs0, rfl, r0, x1, xs1, rfl, r1, x, xs', rfl, r, rfl⟩ := hv
      obtain ⟨b, cp, r⟩ := opRaw (h' := G) e r
      refine ⟨[.int .u8 p, .int .u8 q, .agg [.int .i64 k, .int .i64 id, .int .i64 fi, .int .i64 co, .raw (.slice b n cp), .bool we]], ⟨_, _, rfl, r0, _, _, rfl, r1, _, _, rfl, r, rfl⟩, by simp [Tryd.f5], fun o => o = .ret (.bool true), ?_, ?_⟩
      · rintro o rfl; exact ⟨trivial, hs.2.2.2.2⟩
      intro c hc
      obtain ⟨hp, hq, hn, _⟩ := hs
      clear r e
      intro b0
      repeat' (first
        | (refine (?_ : br _ _ _); first
          | refine br_decT (by omega) ?_ | refine br_decF (by omega) ?_ | refine br_dec (fun _ => ?_) (fun _ => ?_)
          | refine br_inBT (by omega) ?_ | refine br_inBF (by omega) ?_ | refine br_inB (fun _ => ?_) (fun _ => ?_)
          | refine br_eqT (by omega) ?_ | refine br_eqF (by omega) ?_ | refine br_eq (fun _ => ?_) (fun _ => ?_)
          | refine br_neT (by omega) ?_ | refine br_neF (by omega) ?_ | refine br_ne (fun _ => ?_) (fun _ => ?_)
          | refine br_both (fun _ => ?_) (fun _ => ?_))
        | refine ⟨_, ⟨rfl, rfl⟩, ?_⟩
        | refine ⟨⟨⟨rfl, _, _, _, _, rfl⟩, trivial⟩, ?_⟩
        | refine ⟨_, ⟨⟨⟨rfl, _, _, _, _, rfl⟩, trivial⟩, rfl, rfl⟩, ?_⟩
        | refine ⟨hn, ⟨⟨rfl, _, _, _, _, rfl⟩, trivial⟩, ?_⟩
        | refine ⟨hn, ?_⟩
        | refine ⟨_, ⟨hn, ⟨⟨rfl, _, _, _, _, rfl⟩, trivial⟩, rfl, rfl⟩, ?_⟩
        | refine ⟨_, ⟨hn, rfl, rfl⟩, ?_⟩
        | refine W_drawn (mkE hc T_ok spl_ok) 20 1000 (by rw [hc]; exact mix) (by kernel_rfl) (by kernel_rfl) 100 ?_
        | intro _
        | fail)
      all_goals refine outB ?_
      all_goals have ep : IntKind.i64.wrap p = p := by simp only [IntKind.wrap_i64]; omega
      all_goals have eq : IntKind.i64.wrap q = q := by simp only [IntKind.wrap_i64]; omega
      all_goals have e1 : IntKind.i64.wrap (1 + p) = 1 + p := by simp only [IntKind.wrap_i64]; omega
      all_goals have e2 : IntKind.i64.wrap (1 + p + q) = 1 + p + q := by simp only [IntKind.wrap_i64]; omega
      all_goals clear hn r0 r1 r
      all_goals (try dsimp only at *)
      all_goals (try simp only [ep, eq, e1, e2] at *)
      all_goals generalize hm : (if 256 < 1 + p + q then 256 else 1 + p + q) = m at *
      all_goals have hm' : 1 + p ≤ m ∧ m ≤ 256 := by split at hm <;> omega
      all_goals have c1 := op_cases (1 + p) k id fi co n we (by omega)
      all_goals have c2 := op_cases m k id fi co n we (by omega)
      all_goals have c3 := op_cases 256 k id fi co n we (by omega)
      all_goals obtain ⟨z1, z2⟩ := size_kinds k id fi co n we
      all_goals (try simp only [runF, runC, IntKind.wrap_i64] at *)
      all_goals generalize sizeN k co n = s at *
      all_goals generalize sizeB k id fi co n we = z at *
      all_goals generalize opC (1 + p) k id fi co n we = o1 at *
      all_goals generalize opC m k id fi co n we = o2 at *
      all_goals generalize opC 256 k id fi co n we = o3 at *
      all_goals (rcases c1 with c1 | c1 | c1 <;> rcases c2 with c2 | c2 | c2 <;> rcases c3 with c3 | c3 | c3 <;> first | omega | grind)
    · exact hs.elim
  · exact hs.elim

/-- What Op says of a run of blocks. -/
def opS (bl at1 co : Int) : Int := if 1 ≤ co ∧ co ≤ 8 then (if at1 < 0 ∨ at1 > bl - co then 6 else 0) else 1
theorem op_read (bl at1 co : Int) (h : 1 ≤ bl ∧ bl ≤ 256) : opC bl 1 7 at1 co 0 false = opS bl at1 co := by
  have c := op_cases bl 1 7 at1 co 0 false h
  have e1 : sizeB 1 7 at1 co 0 false = true := by simp [sizeB]
  have e2 : sizeN 1 co 0 = co := by simp [sizeN]
  rw [e1, e2] at c
  unfold opS
  grind
theorem op_write (bl at1 co : Int) (h : 1 ≤ bl ∧ bl ≤ 256) (hc : 1 ≤ co) : opC bl 2 7 at1 0 co.toNat false = opS bl at1 co := by
  have c := op_cases bl 2 7 at1 0 co.toNat false h
  have e1 : sizeB 2 7 at1 0 co.toNat false = true := by simp [sizeB]
  have e2 : sizeN 2 0 co.toNat = co := by simp [sizeN]; omega
  rw [e1, e2] at c
  unfold opS
  grind
theorem op_drop (bl at1 co : Int) (h : 1 ≤ bl ∧ bl ≤ 256) : opC bl 3 0 at1 co 0 false = opS bl at1 co := by
  have c := op_cases bl 3 0 at1 co 0 false h
  have e1 : sizeB 3 0 at1 co 0 false = true := by simp [sizeB]
  have e2 : sizeN 3 co 0 = co := by simp [sizeN]
  rw [e1, e2] at c
  unfold opS
  grind
theorem op_none (bl at1 co : Int) (h : 1 ≤ bl ∧ bl ≤ 256) : opC bl 1 0 at1 co 0 false = 1 := by
  have c := op_cases bl 1 0 at1 co 0 false h
  have e1 : sizeB 1 0 at1 co 0 false = false := by simp [sizeB]
  rw [e1] at c
  grind
theorem run_read (at1 co : Int) : runF 1 7 at1 co 0 false = (if opS 256 at1 co = 0 then at1 else 0) ∧ runC 1 7 at1 co 0 false = (if opS 256 at1 co = 0 then co else 0) := by
  have e2 : sizeN 1 co 0 = co := by simp [sizeN]
  unfold runF runC
  rw [op_read 256 at1 co (by omega), e2]
  unfold opS
  grind

def sLaw6 : Spec := fun args h nx K => match args with
  | [.int .u8 p, .int .i64 at1, .int .i64 co] => (0 ≤ p ∧ p ≤ 255) ∧ Has h G ∧ K (.ret (.bool true)) h nx
  | _ => False

set_option maxHeartbeats 2000000 in
theorem sLaw6_ok : SpecOK Tryd.prog 6 sLaw6 := by
  refine specOK_pure (fn := Tryd.f6) rfl rfl rfl T_ok (SP := SPL) spl_ok G G_ok 300 _ ?_
  intro args h nx K hs
  unfold sLaw6 at hs
  split at hs
  · rename_i p at1 co
    obtain ⟨hp, hG, hK⟩ := hs
    refine ⟨hG, by repeat constructor, by simp [Tryd.f6], fun o => o = .ret (.bool true), ?_, ?_⟩
    · rintro o rfl; exact ⟨trivial, hK⟩
    intro c hc
    clear hK hG
    repeat' (first
      | (refine (?_ : br _ _ _); first
        | refine br_decT (by omega) ?_ | refine br_decF (by omega) ?_ | refine br_dec (fun _ => ?_) (fun _ => ?_)
        | refine br_inBT (by omega) ?_ | refine br_inBF (by omega) ?_ | refine br_inB (fun _ => ?_) (fun _ => ?_)
        | refine br_eqT (by omega) ?_ | refine br_eqF (by omega) ?_ | refine br_eq (fun _ => ?_) (fun _ => ?_)
        | refine br_neT (by omega) ?_ | refine br_neF (by omega) ?_ | refine br_ne (fun _ => ?_) (fun _ => ?_)
        | refine br_both (fun _ => ?_) (fun _ => ?_))
      | refine ⟨_, ⟨rfl, rfl⟩, ?_⟩
      | refine ⟨⟨⟨rfl, _, _, _, _, rfl⟩, trivial⟩, ?_⟩
      | refine ⟨_, ⟨⟨⟨rfl, _, _, _, _, rfl⟩, trivial⟩, rfl, rfl⟩, ?_⟩
      | refine ⟨by decide, ⟨⟨rfl, _, _, _, _, rfl⟩, trivial⟩, ?_⟩
      | refine ⟨_, ⟨by decide, ⟨⟨rfl, _, _, _, _, rfl⟩, trivial⟩, rfl, rfl⟩, ?_⟩
      | refine W_drawn (mkE hc T_ok spl_ok) 20 1000 (by rw [hc]; exact mix) (by kernel_rfl) (by kernel_rfl) 100 ?_
      | refine ⟨⟨by omega, by omega, by omega⟩, ?_⟩
      | intro _
      | fail)
    all_goals refine outB ?_
    all_goals have ep : IntKind.i64.wrap p = p := by simp only [IntKind.wrap_i64]; omega
    all_goals have e1 : IntKind.i64.wrap (1 + p) = 1 + p := by simp only [IntKind.wrap_i64]; omega
    all_goals (try dsimp only at *)
    all_goals (try simp only [ep, e1] at *)
    all_goals have c1 := op_read (1 + p) at1 co (by omega)
    all_goals have c2 := fun hc => op_write (1 + p) at1 co (by omega) hc
    all_goals have c3 := op_drop (1 + p) at1 co (by omega)
    all_goals have c4 := op_none (1 + p) at1 co (by omega)
    all_goals obtain ⟨c5, c6⟩ := run_read at1 co
    all_goals simp only [opS, IntKind.wrap_i64] at *
    all_goals grind
  · exact hs.elim

end Go.Proofs.YtjkakcaljklkhaaDoor.Sx
