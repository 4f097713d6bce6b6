/-
  No cell of these rows narrows 'for every input' (looked for: loops, veiled, ifaces, maps, wideKeys, modest, calm, conditions, laid).
  DERIVED. THE GIVEN ROWS OF THIS SEAT. 5 by the template 'for every input the law returns true; each argument reads behind the call as it read before'; 0 by the template 'total and deterministic' (their statements: YtkncijljkfpdiaaTotals.lean).
  GIVEN WITH THE SEED: the statements are not yours to turn. If you find one false, say at which input.
  Laid BY PROGRAM, IN A SANDBOX (cutbox-rows.mjs): the forced cells as the released guide's own fill.sh prints them over the translation 9da37ad77a8175c2… (all of the seat's roots in one cut). By AI agents, Wed Nov 11 2026. No macro, syntax, notation, axiom, sorry.
-/
import Derived.Test.YtkncijljkfpdiaaChecked
import GoSem.Claim
import GoSem.ClaimJoined
import GoSem.ClaimMapViews
import Derived.JoinedTies
import Derived.KernelRfl
namespace Go.Proofs.Ytkncijljkfpdiaa
/- THE CELL 'sum', in the pinned program and in every row, IS THE sha256 OF THE DUMP (.gsa) THAT YtkncijljkfpdiaaProg.lean LOADS. Nothing in Lean hashes anything: it is a label: what it is worth is what the hold of that sum in a sandbox is worth. -/
noncomputable def Try.pinned : Pinned := { name := "ytkncijljkfpdiaa", sum := "9da37ad77a8175c2dbebc5a0018ffd0039e64249afac698e6367e6f97d04389d", checked := Try.checked }
namespace Rows
def none {H : Type} : Left H := { results := [], args := [] }

/-- 'forerunnerlaw11.LaneFull': WHATEVER THE INPUT: true; the input reads as it did. -/
def laneFullSpec : ChangeSpec := { name := "laneFull", fn := fun _ => fun
  | [d1, d2, d3] => { results := [.lit (.bool true)], args := [d1, d2, d3] }
  | _ => none }
def laneFullRow : OpenClaim := { program := "ytkncijljkfpdiaa", sum := "9da37ad77a8175c2dbebc5a0018ffd0039e64249afac698e6367e6f97d04389d", func := "forerunner/forerunnerlaw11.LaneFull", spec := "laneFull", apart := false }
def LaneFullSaid : Prop := laneFullRow.holds Try.pinned (OpenSpec.ofChange laneFullSpec)

/-- ITS FALSE NEIGHBOUR: 'it returns false'. Refute it at one input. -/
def laneFullWrong : ChangeSpec := { name := "laneFull", fn := fun _ => fun
  | [d1, d2, d3] => { results := [.lit (.bool false)], args := [d1, d2, d3] }
  | _ => none }
def LaneFullWrongFalsely : Prop := laneFullRow.holds Try.pinned (OpenSpec.ofChange laneFullWrong)

/-- 'forerunnerlaw11.LaneOrder': WHATEVER THE INPUT: true; the input reads as it did. -/
def laneOrderSpec : ChangeSpec := { name := "laneOrder", fn := fun _ => fun
  | [d1, d2] => { results := [.lit (.bool true)], args := [d1, d2] }
  | _ => none }
def laneOrderRow : OpenClaim := { program := "ytkncijljkfpdiaa", sum := "9da37ad77a8175c2dbebc5a0018ffd0039e64249afac698e6367e6f97d04389d", func := "forerunner/forerunnerlaw11.LaneOrder", spec := "laneOrder", apart := false }
def LaneOrderSaid : Prop := laneOrderRow.holds Try.pinned (OpenSpec.ofChange laneOrderSpec)

/-- ITS FALSE NEIGHBOUR: 'it returns false'. Refute it at one input. -/
def laneOrderWrong : ChangeSpec := { name := "laneOrder", fn := fun _ => fun
  | [d1, d2] => { results := [.lit (.bool false)], args := [d1, d2] }
  | _ => none }
def LaneOrderWrongFalsely : Prop := laneOrderRow.holds Try.pinned (OpenSpec.ofChange laneOrderWrong)

/-- 'forerunnerlaw11.LaneApart': WHATEVER THE INPUT: true; the input reads as it did. -/
def laneApartSpec : ChangeSpec := { name := "laneApart", fn := fun _ => fun
  | [d1, d2] => { results := [.lit (.bool true)], args := [d1, d2] }
  | _ => none }
def laneApartRow : OpenClaim := { program := "ytkncijljkfpdiaa", sum := "9da37ad77a8175c2dbebc5a0018ffd0039e64249afac698e6367e6f97d04389d", func := "forerunner/forerunnerlaw11.LaneApart", spec := "laneApart", apart := false }
def LaneApartSaid : Prop := laneApartRow.holds Try.pinned (OpenSpec.ofChange laneApartSpec)

/-- ITS FALSE NEIGHBOUR: 'it returns false'. Refute it at one input. -/
def laneApartWrong : ChangeSpec := { name := "laneApart", fn := fun _ => fun
  | [d1, d2] => { results := [.lit (.bool false)], args := [d1, d2] }
  | _ => none }
def LaneApartWrongFalsely : Prop := laneApartRow.holds Try.pinned (OpenSpec.ofChange laneApartWrong)

/-- 'forerunnerlaw11.LaneHeads': WHATEVER THE INPUT: true; the input reads as it did. -/
def laneHeadsSpec : ChangeSpec := { name := "laneHeads", fn := fun _ => fun
  | [d] => { results := [.lit (.bool true)], args := [d] }
  | _ => none }
def laneHeadsRow : OpenClaim := { program := "ytkncijljkfpdiaa", sum := "9da37ad77a8175c2dbebc5a0018ffd0039e64249afac698e6367e6f97d04389d", func := "forerunner/forerunnerlaw11.LaneHeads", spec := "laneHeads", apart := false }
def LaneHeadsSaid : Prop := laneHeadsRow.holds Try.pinned (OpenSpec.ofChange laneHeadsSpec)

/-- ITS FALSE NEIGHBOUR: 'it returns false'. Refute it at one input. -/
def laneHeadsWrong : ChangeSpec := { name := "laneHeads", fn := fun _ => fun
  | [d] => { results := [.lit (.bool false)], args := [d] }
  | _ => none }
def LaneHeadsWrongFalsely : Prop := laneHeadsRow.holds Try.pinned (OpenSpec.ofChange laneHeadsWrong)

/-- 'forerunnerlaw11.LanePlays': WHATEVER THE INPUT: true; the input reads as it did. -/
def lanePlaysSpec : ChangeSpec := { name := "lanePlays", fn := fun _ => fun
  | [d1, d2, d3] => { results := [.lit (.bool true)], args := [d1, d2, d3] }
  | _ => none }
def lanePlaysRow : OpenClaim := { program := "ytkncijljkfpdiaa", sum := "9da37ad77a8175c2dbebc5a0018ffd0039e64249afac698e6367e6f97d04389d", func := "forerunner/forerunnerlaw11.LanePlays", spec := "lanePlays", apart := false }
def LanePlaysSaid : Prop := lanePlaysRow.holds Try.pinned (OpenSpec.ofChange lanePlaysSpec)

/-- ITS FALSE NEIGHBOUR: 'it returns false'. Refute it at one input. -/
def lanePlaysWrong : ChangeSpec := { name := "lanePlays", fn := fun _ => fun
  | [d1, d2, d3] => { results := [.lit (.bool false)], args := [d1, d2, d3] }
  | _ => none }
def LanePlaysWrongFalsely : Prop := lanePlaysRow.holds Try.pinned (OpenSpec.ofChange lanePlaysWrong)

/- THE SECOND FORM. 'bulk': how many values and letters a reading holds, each counted each time it is reached (what is shared counts as often as it is met; a slice's spare places count too). A statement '..UptoSaid' is the law's where the arguments, and the package variables that the reading takes, are together of bulk at most 1048576: NARROWER than '..Said'. Prove '..Said' where nothing that the law and all that it calls make is longer than what came in: it says more and counts as full. Else prove '..UptoSaid'. A law counts once. -/
mutual
def uptoBulk {H : Type} : DataW H → Nat
  | .lit (.string bytes) => bytes.length + 1
  | .lit _ => 1
  | .nil => 1
  | .ptr d => uptoBulk d + 1
  | .slice elems spare => uptoBulkAll elems + uptoBulkAll spare + 1
  | .agg parts => uptoBulkAll parts + 1
  | .iface _ d => uptoBulk d + 1
  | .map entries => uptoBulkEntries entries + 1
  | .held _ => 1
def uptoBulkAll {H : Type} : List (DataW H) → Nat
  | [] => 0
  | d :: r => uptoBulk d + uptoBulkAll r
def uptoBulkEntries {H : Type} : List (Lit × DataW H) → Nat
  | [] => 0
  | x :: r => uptoBulkEntry x + uptoBulkEntries r
def uptoBulkEntry {H : Type} : Lit × DataW H → Nat
  | (.string bytes, d) => bytes.length + uptoBulk d + 1
  | (_, d) => uptoBulk d + 1
 end
def uptoSmall : (H : Type) → List (DataW H) → Bool := fun _ ds => decide (uptoBulkAll ds ≤ 1048576)
def OpenSpec.upto (s : _root_.Go.ChangeSpec) : _root_.Go.OpenSpec := { _root_.Go.OpenSpec.ofChange s with cond := some uptoSmall }

/-- 'forerunnerlaw11.LaneFull', WHERE WHAT IT READS IS OF BULK AT MOST 1048576: true; the input reads as it did. -/
def laneFullUptoRow : OpenClaim := { program := "ytkncijljkfpdiaa", sum := "9da37ad77a8175c2dbebc5a0018ffd0039e64249afac698e6367e6f97d04389d", func := "forerunner/forerunnerlaw11.LaneFull", spec := "laneFull", apart := false, narrowed := true }
def LaneFullUptoSaid : Prop := laneFullUptoRow.holds Try.pinned (OpenSpec.upto laneFullSpec)

/-- 'forerunnerlaw11.LaneOrder', WHERE WHAT IT READS IS OF BULK AT MOST 1048576: true; the input reads as it did. -/
def laneOrderUptoRow : OpenClaim := { program := "ytkncijljkfpdiaa", sum := "9da37ad77a8175c2dbebc5a0018ffd0039e64249afac698e6367e6f97d04389d", func := "forerunner/forerunnerlaw11.LaneOrder", spec := "laneOrder", apart := false, narrowed := true }
def LaneOrderUptoSaid : Prop := laneOrderUptoRow.holds Try.pinned (OpenSpec.upto laneOrderSpec)

/-- 'forerunnerlaw11.LaneApart', WHERE WHAT IT READS IS OF BULK AT MOST 1048576: true; the input reads as it did. -/
def laneApartUptoRow : OpenClaim := { program := "ytkncijljkfpdiaa", sum := "9da37ad77a8175c2dbebc5a0018ffd0039e64249afac698e6367e6f97d04389d", func := "forerunner/forerunnerlaw11.LaneApart", spec := "laneApart", apart := false, narrowed := true }
def LaneApartUptoSaid : Prop := laneApartUptoRow.holds Try.pinned (OpenSpec.upto laneApartSpec)

/-- 'forerunnerlaw11.LaneHeads', WHERE WHAT IT READS IS OF BULK AT MOST 1048576: true; the input reads as it did. -/
def laneHeadsUptoRow : OpenClaim := { program := "ytkncijljkfpdiaa", sum := "9da37ad77a8175c2dbebc5a0018ffd0039e64249afac698e6367e6f97d04389d", func := "forerunner/forerunnerlaw11.LaneHeads", spec := "laneHeads", apart := false, narrowed := true }
def LaneHeadsUptoSaid : Prop := laneHeadsUptoRow.holds Try.pinned (OpenSpec.upto laneHeadsSpec)

/-- 'forerunnerlaw11.LanePlays', WHERE WHAT IT READS IS OF BULK AT MOST 1048576: true; the input reads as it did. -/
def lanePlaysUptoRow : OpenClaim := { program := "ytkncijljkfpdiaa", sum := "9da37ad77a8175c2dbebc5a0018ffd0039e64249afac698e6367e6f97d04389d", func := "forerunner/forerunnerlaw11.LanePlays", spec := "lanePlays", apart := false, narrowed := true }
def LanePlaysUptoSaid : Prop := lanePlaysUptoRow.holds Try.pinned (OpenSpec.upto lanePlaysSpec)

end Rows
end Go.Proofs.Ytkncijljkfpdiaa
