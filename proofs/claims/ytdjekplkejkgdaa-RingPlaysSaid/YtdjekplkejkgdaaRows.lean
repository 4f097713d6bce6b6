/-
  No cell of these rows narrows 'for every input' (looked for: loops, veiled, ifaces, maps, wideKeys, modest, calm, conditions, laid).
  DERIVED. THE GIVEN ROWS OF THIS SEAT. 5 by the template 'for every input the law returns true; each argument reads behind the call as it read before'; 0 by the template 'total and deterministic' (their statements: YtdjekplkejkgdaaTotals.lean).
  GIVEN WITH THE SEED: the statements are not yours to turn. If you find one false, say at which input.
  Laid BY PROGRAM, IN A SANDBOX (cutbox-rows.mjs): the forced cells as the released guide's own fill.sh prints them over the translation b2c1ac9440019ec5… (all of the seat's roots in one cut). By AI agents, Wed Nov 11 2026. No macro, syntax, notation, axiom, sorry.
-/
import Derived.Test.YtdjekplkejkgdaaChecked
import GoSem.Claim
import GoSem.ClaimJoined
import GoSem.ClaimMapViews
import Derived.JoinedTies
import Derived.KernelRfl
namespace Go.Proofs.Ytdjekplkejkgdaa
/- THE CELL 'sum', in the pinned program and in every row, IS THE sha256 OF THE DUMP (.gsa) THAT YtdjekplkejkgdaaProg.lean LOADS. Nothing in Lean hashes anything: it is a label: what it is worth is what the hold of that sum in a sandbox is worth. -/
noncomputable def Try.pinned : Pinned := { name := "ytdjekplkejkgdaa", sum := "b2c1ac9440019ec5074be3d9e2518205b89112f5517b9817b61510f396f9d9cb", checked := Try.checked }
namespace Rows
def none {H : Type} : Left H := { results := [], args := [] }

/-- 'forerunnerlaw06.RingPlays': WHATEVER THE INPUT: true; the input reads as it did. -/
def ringPlaysSpec : ChangeSpec := { name := "ringPlays", fn := fun _ => fun
  | [d1, d2, d3] => { results := [.lit (.bool true)], args := [d1, d2, d3] }
  | _ => none }
def ringPlaysRow : OpenClaim := { program := "ytdjekplkejkgdaa", sum := "b2c1ac9440019ec5074be3d9e2518205b89112f5517b9817b61510f396f9d9cb", func := "forerunner/forerunnerlaw06.RingPlays", spec := "ringPlays", unfollowed := true, recurses := true, apart := false }
def RingPlaysSaid : Prop := ringPlaysRow.holds Try.pinned (OpenSpec.ofChange ringPlaysSpec)

/-- ITS FALSE NEIGHBOUR: 'it returns false'. Refute it at one input. -/
def ringPlaysWrong : ChangeSpec := { name := "ringPlays", fn := fun _ => fun
  | [d1, d2, d3] => { results := [.lit (.bool false)], args := [d1, d2, d3] }
  | _ => none }
def RingPlaysWrongFalsely : Prop := ringPlaysRow.holds Try.pinned (OpenSpec.ofChange ringPlaysWrong)

/-- 'forerunnerlaw06.RingHolds': WHATEVER THE INPUT: true; the input reads as it did. -/
def ringHoldsSpec : ChangeSpec := { name := "ringHolds", fn := fun _ => fun
  | [d1, d2, d3] => { results := [.lit (.bool true)], args := [d1, d2, d3] }
  | _ => none }
def ringHoldsRow : OpenClaim := { program := "ytdjekplkejkgdaa", sum := "b2c1ac9440019ec5074be3d9e2518205b89112f5517b9817b61510f396f9d9cb", func := "forerunner/forerunnerlaw06.RingHolds", spec := "ringHolds", unfollowed := true, recurses := true, apart := false }
def RingHoldsSaid : Prop := ringHoldsRow.holds Try.pinned (OpenSpec.ofChange ringHoldsSpec)

/-- ITS FALSE NEIGHBOUR: 'it returns false'. Refute it at one input. -/
def ringHoldsWrong : ChangeSpec := { name := "ringHolds", fn := fun _ => fun
  | [d1, d2, d3] => { results := [.lit (.bool false)], args := [d1, d2, d3] }
  | _ => none }
def RingHoldsWrongFalsely : Prop := ringHoldsRow.holds Try.pinned (OpenSpec.ofChange ringHoldsWrong)

/-- 'forerunnerlaw06.RingReverse': WHATEVER THE INPUT: true; the input reads as it did. -/
def ringReverseSpec : ChangeSpec := { name := "ringReverse", fn := fun _ => fun
  | [d1, d2] => { results := [.lit (.bool true)], args := [d1, d2] }
  | _ => none }
def ringReverseRow : OpenClaim := { program := "ytdjekplkejkgdaa", sum := "b2c1ac9440019ec5074be3d9e2518205b89112f5517b9817b61510f396f9d9cb", func := "forerunner/forerunnerlaw06.RingReverse", spec := "ringReverse", unfollowed := true, recurses := true, apart := false }
def RingReverseSaid : Prop := ringReverseRow.holds Try.pinned (OpenSpec.ofChange ringReverseSpec)

/-- ITS FALSE NEIGHBOUR: 'it returns false'. Refute it at one input. -/
def ringReverseWrong : ChangeSpec := { name := "ringReverse", fn := fun _ => fun
  | [d1, d2] => { results := [.lit (.bool false)], args := [d1, d2] }
  | _ => none }
def RingReverseWrongFalsely : Prop := ringReverseRow.holds Try.pinned (OpenSpec.ofChange ringReverseWrong)

/-- 'forerunnerlaw06.RingHeld': WHATEVER THE INPUT: true; the input reads as it did. -/
def ringHeldSpec : ChangeSpec := { name := "ringHeld", fn := fun _ => fun
  | [d1, d2] => { results := [.lit (.bool true)], args := [d1, d2] }
  | _ => none }
def ringHeldRow : OpenClaim := { program := "ytdjekplkejkgdaa", sum := "b2c1ac9440019ec5074be3d9e2518205b89112f5517b9817b61510f396f9d9cb", func := "forerunner/forerunnerlaw06.RingHeld", spec := "ringHeld", unfollowed := true, recurses := true, apart := false }
def RingHeldSaid : Prop := ringHeldRow.holds Try.pinned (OpenSpec.ofChange ringHeldSpec)

/-- ITS FALSE NEIGHBOUR: 'it returns false'. Refute it at one input. -/
def ringHeldWrong : ChangeSpec := { name := "ringHeld", fn := fun _ => fun
  | [d1, d2] => { results := [.lit (.bool false)], args := [d1, d2] }
  | _ => none }
def RingHeldWrongFalsely : Prop := ringHeldRow.holds Try.pinned (OpenSpec.ofChange ringHeldWrong)

/-- 'forerunnerlaw06.RingMoves': WHATEVER THE INPUT: true; the input reads as it did. -/
def ringMovesSpec : ChangeSpec := { name := "ringMoves", fn := fun _ => fun
  | [d1, d2, d3] => { results := [.lit (.bool true)], args := [d1, d2, d3] }
  | _ => none }
def ringMovesRow : OpenClaim := { program := "ytdjekplkejkgdaa", sum := "b2c1ac9440019ec5074be3d9e2518205b89112f5517b9817b61510f396f9d9cb", func := "forerunner/forerunnerlaw06.RingMoves", spec := "ringMoves", unfollowed := true, recurses := true, apart := false }
def RingMovesSaid : Prop := ringMovesRow.holds Try.pinned (OpenSpec.ofChange ringMovesSpec)

/-- ITS FALSE NEIGHBOUR: 'it returns false'. Refute it at one input. -/
def ringMovesWrong : ChangeSpec := { name := "ringMoves", fn := fun _ => fun
  | [d1, d2, d3] => { results := [.lit (.bool false)], args := [d1, d2, d3] }
  | _ => none }
def RingMovesWrongFalsely : Prop := ringMovesRow.holds Try.pinned (OpenSpec.ofChange ringMovesWrong)

/- THE SECOND FORM. 'bulk': how many values and letters a reading holds, each counted each time it is reached (what is shared counts as often as it is met; a slice's spare places count too). A statement '..UptoSaid' is the law's where the arguments, and the package variables that the reading takes, are together of bulk at most 1048576: NARROWER than '..Said'. Prove '..Said' where nothing that the law and all that it calls make is longer than what came in: it says more and counts as full. Else prove '..UptoSaid'. A law counts once. -/
mutual
def uptoBulk {H : Type} : DataW H → Nat
  | .lit (.string bytes) => bytes.length + 1
  | .lit _ => 1
  | .nil => 1
  | .ptr d => uptoBulk d + 1
  | .slice elems spare => uptoBulkAll elems + uptoBulkAll spare + 1
  | .agg parts => uptoBulkAll parts + 1
  | .iface _ d => uptoBulk d + 1
  | .map entries => uptoBulkEntries entries + 1
  | .held _ => 1
def uptoBulkAll {H : Type} : List (DataW H) → Nat
  | [] => 0
  | d :: r => uptoBulk d + uptoBulkAll r
def uptoBulkEntries {H : Type} : List (Lit × DataW H) → Nat
  | [] => 0
  | x :: r => uptoBulkEntry x + uptoBulkEntries r
def uptoBulkEntry {H : Type} : Lit × DataW H → Nat
  | (.string bytes, d) => bytes.length + uptoBulk d + 1
  | (_, d) => uptoBulk d + 1
 end
def uptoSmall : (H : Type) → List (DataW H) → Bool := fun _ ds => decide (uptoBulkAll ds ≤ 1048576)
def OpenSpec.upto (s : _root_.Go.ChangeSpec) : _root_.Go.OpenSpec := { _root_.Go.OpenSpec.ofChange s with cond := some uptoSmall }

/-- 'forerunnerlaw06.RingPlays', WHERE WHAT IT READS IS OF BULK AT MOST 1048576: true; the input reads as it did. -/
def ringPlaysUptoRow : OpenClaim := { program := "ytdjekplkejkgdaa", sum := "b2c1ac9440019ec5074be3d9e2518205b89112f5517b9817b61510f396f9d9cb", func := "forerunner/forerunnerlaw06.RingPlays", spec := "ringPlays", unfollowed := true, recurses := true, apart := false, narrowed := true }
def RingPlaysUptoSaid : Prop := ringPlaysUptoRow.holds Try.pinned (OpenSpec.upto ringPlaysSpec)

/-- 'forerunnerlaw06.RingHolds', WHERE WHAT IT READS IS OF BULK AT MOST 1048576: true; the input reads as it did. -/
def ringHoldsUptoRow : OpenClaim := { program := "ytdjekplkejkgdaa", sum := "b2c1ac9440019ec5074be3d9e2518205b89112f5517b9817b61510f396f9d9cb", func := "forerunner/forerunnerlaw06.RingHolds", spec := "ringHolds", unfollowed := true, recurses := true, apart := false, narrowed := true }
def RingHoldsUptoSaid : Prop := ringHoldsUptoRow.holds Try.pinned (OpenSpec.upto ringHoldsSpec)

/-- 'forerunnerlaw06.RingReverse', WHERE WHAT IT READS IS OF BULK AT MOST 1048576: true; the input reads as it did. -/
def ringReverseUptoRow : OpenClaim := { program := "ytdjekplkejkgdaa", sum := "b2c1ac9440019ec5074be3d9e2518205b89112f5517b9817b61510f396f9d9cb", func := "forerunner/forerunnerlaw06.RingReverse", spec := "ringReverse", unfollowed := true, recurses := true, apart := false, narrowed := true }
def RingReverseUptoSaid : Prop := ringReverseUptoRow.holds Try.pinned (OpenSpec.upto ringReverseSpec)

/-- 'forerunnerlaw06.RingHeld', WHERE WHAT IT READS IS OF BULK AT MOST 1048576: true; the input reads as it did. -/
def ringHeldUptoRow : OpenClaim := { program := "ytdjekplkejkgdaa", sum := "b2c1ac9440019ec5074be3d9e2518205b89112f5517b9817b61510f396f9d9cb", func := "forerunner/forerunnerlaw06.RingHeld", spec := "ringHeld", unfollowed := true, recurses := true, apart := false, narrowed := true }
def RingHeldUptoSaid : Prop := ringHeldUptoRow.holds Try.pinned (OpenSpec.upto ringHeldSpec)

/-- 'forerunnerlaw06.RingMoves', WHERE WHAT IT READS IS OF BULK AT MOST 1048576: true; the input reads as it did. -/
def ringMovesUptoRow : OpenClaim := { program := "ytdjekplkejkgdaa", sum := "b2c1ac9440019ec5074be3d9e2518205b89112f5517b9817b61510f396f9d9cb", func := "forerunner/forerunnerlaw06.RingMoves", spec := "ringMoves", unfollowed := true, recurses := true, apart := false, narrowed := true }
def RingMovesUptoSaid : Prop := ringMovesUptoRow.holds Try.pinned (OpenSpec.upto ringMovesSpec)

end Rows
end Go.Proofs.Ytdjekplkejkgdaa
