import Derived.Test.YtjkakcaljklkhaaDoorSxW1
/-
  The walks of this seat's functions, second part: what an operation is for, and whether it may be.
-/
namespace Go.Proofs.YtjkakcaljklkhaaDoor.Sx
open Go Go.Proofs
set_option maxRecDepth 100000
set_option linter.unusedSimpArgs false
set_option linter.unusedVariables false

theorem mix : Tryd.prog.follows .mixedOrders = true := by kernel_rfl

theorem opRaw {h h' : Hp} {vs : V} {n : Nat} (e : lenV vs = some n) {k id fi co : Int} {we : Bool} {x : Value} (r : vrel h (.agg [.int .i64 k, .int .i64 id, .int .i64 fi, .int .i64 co, vs, .bool we]) x) :
    ∃ b c, vrel h' (.agg [.int .i64 k, .int .i64 id, .int .i64 fi, .int .i64 co, .raw (.slice b n c), .bool we]) x := by
  obtain ⟨xs, rfl, y0, ys0, rfl, r0, y1, ys1, rfl, r1, y2, ys2, rfl, r2, y3, ys3, rfl, r3, y4, ys4, rfl, r4, y5, ys5, rfl, r5, rfl⟩ := r
  obtain ⟨b, c, rfl⟩ := lenV_raw e r4
  exact ⟨b, c, _, rfl, _, _, rfl, r0, _, _, rfl, r1, _, _, rfl, r2, _, _, rfl, r3, _, _, rfl, rfl, _, _, rfl, r5, rfl⟩

/-- How many blocks, and whether it has just what its kind has. -/
def sizeN (k co : Int) (n : Nat) : Int := if k = 2 then (n : Int) else if k = 3 then co else if k = 1 then co else 0
def sizeB (k id fi co : Int) (n : Nat) (we : Bool) : Bool :=
  if k = 2 then decide (id ≥ 1) && (decide (co = 0) && !we)
  else if k = 3 then decide (id = 0) && (decide ((n : Int) = 0) && !we)
  else if k = 1 then decide (id ≥ 1) && (decide ((n : Int) = 0) && !we)
  else if k = 4 then decide (id ≥ 1) && (!we && (decide ((n : Int) = 0) && (decide (co = 0) && decide (fi = 0))))
  else if k = 5 then decide (id ≥ 1) && (decide ((n : Int) = 0) && (decide (co = 0) && decide (fi = 0)))
  else false

def sSize : Spec := fun args h nx K => match args with
  | [.agg [.int .i64 k, .int .i64 id, .int .i64 fi, .int .i64 co, vs, .bool we]] => (match lenV vs with
    | some n => K (.ret (.tup [.int .i64 (sizeN k co n), .bool (sizeB k id fi co n we)])) h nx
    | none => False)
  | _ => False

theorem sSize_ok : SpecOK Tryd.prog 18 sSize := by
  refine specOK_pure' (fn := Tryd.f18) rfl rfl rfl T_ok (SP := []) noSP [] trivial 200 _ ?_
  intro args h nx K hs
  unfold sSize at hs
  split at hs
  · rename_i k id fi co vs we
    split at hs
    · rename_i n e
      refine ⟨trivial, fun xs hv => ?_⟩
      obtain ⟨x, xs', rfl, r, rfl⟩ := hv
      obtain ⟨b, cp, r⟩ := opRaw (h' := []) e r
      refine ⟨[.agg [.int .i64 k, .int .i64 id, .int .i64 fi, .int .i64 co, .raw (.slice b n cp), .bool we]], ⟨_, _, rfl, r, rfl⟩, by simp [Tryd.f18], fun o => o = .ret (.tup [.int .i64 (sizeN k co n), .bool (sizeB k id fi co n we)]), ?_, ?_⟩
      · rintro o rfl; exact ⟨⟨trivial, trivial, trivial⟩, hs⟩
      intro c hc
      clear hs r
      intro bb
      repeat' (first
        | refine br_both (fun _ => ?_) (fun _ => ?_)
        | refine ⟨_, ⟨rfl, rfl⟩, ?_⟩
        | refine W_drawn (mkE hc T_ok noSP) 10 1000 (by rw [hc]; exact mix) (by kernel_rfl) (by kernel_rfl) 100 ?_)
      all_goals refine outIB ?_ ?_
      all_goals simp_all [sizeN, sizeB]
      all_goals (first | (intros; omega) | grind)
    · exact hs.elim
  · exact hs.elim
end Go.Proofs.YtjkakcaljklkhaaDoor.Sx
