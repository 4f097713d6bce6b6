/-
  No cell of these rows narrows 'for every input' (looked for: loops, veiled, ifaces, maps, wideKeys, modest, calm, conditions, laid).
  DERIVED. THE GIVEN ROWS OF THIS SEAT. 5 by the template 'for every input the law returns true; each argument reads behind the call as it read before'; 0 by the template 'total and deterministic' (their statements: YtgcnknhfphgfnaaTotals.lean).
  GIVEN WITH THE SEED: the statements are not yours to turn. If you find one false, say at which input.
  Laid BY PROGRAM, IN A SANDBOX (cutbox-rows.mjs): the forced cells as the released guide's own fill.sh prints them over the translation d59f014f9891e311… (all of the seat's roots in one cut). By AI agents, Wed Nov 11 2026. No macro, syntax, notation, axiom, sorry.
-/
import Derived.Test.YtgcnknhfphgfnaaChecked
import GoSem.Claim
import GoSem.ClaimJoined
import GoSem.ClaimMapViews
import Derived.JoinedTies
import Derived.KernelRfl
namespace Go.Proofs.Ytgcnknhfphgfnaa
/- THE CELL 'sum', in the pinned program and in every row, IS THE sha256 OF THE DUMP (.gsa) THAT YtgcnknhfphgfnaaProg.lean LOADS. Nothing in Lean hashes anything: it is a label: what it is worth is what the hold of that sum in a sandbox is worth. -/
noncomputable def Try.pinned : Pinned := { name := "ytgcnknhfphgfnaa", sum := "d59f014f9891e311fe9829d2b41ac431a85174376ee3db1440e61e689f96538b", checked := Try.checked }
namespace Rows
def none {H : Type} : Left H := { results := [], args := [] }

/-- 'forerunnerlaw12.TurnKeeps': WHATEVER THE INPUT: true; the input reads as it did. -/
def turnKeepsSpec : ChangeSpec := { name := "turnKeeps", fn := fun _ => fun
  | [d1, d2] => { results := [.lit (.bool true)], args := [d1, d2] }
  | _ => none }
def turnKeepsRow : OpenClaim := { program := "ytgcnknhfphgfnaa", sum := "d59f014f9891e311fe9829d2b41ac431a85174376ee3db1440e61e689f96538b", func := "forerunner/forerunnerlaw12.TurnKeeps", spec := "turnKeeps", unfollowed := true, recurses := true, apart := false }
def TurnKeepsSaid : Prop := turnKeepsRow.holds Try.pinned (OpenSpec.ofChange turnKeepsSpec)

/-- ITS FALSE NEIGHBOUR: 'it returns false'. Refute it at one input. -/
def turnKeepsWrong : ChangeSpec := { name := "turnKeeps", fn := fun _ => fun
  | [d1, d2] => { results := [.lit (.bool false)], args := [d1, d2] }
  | _ => none }
def TurnKeepsWrongFalsely : Prop := turnKeepsRow.holds Try.pinned (OpenSpec.ofChange turnKeepsWrong)

/-- 'forerunnerlaw12.TurnPromotes': WHATEVER THE INPUT: true; the input reads as it did. -/
def turnPromotesSpec : ChangeSpec := { name := "turnPromotes", fn := fun _ => fun
  | [d] => { results := [.lit (.bool true)], args := [d] }
  | _ => none }
def turnPromotesRow : OpenClaim := { program := "ytgcnknhfphgfnaa", sum := "d59f014f9891e311fe9829d2b41ac431a85174376ee3db1440e61e689f96538b", func := "forerunner/forerunnerlaw12.TurnPromotes", spec := "turnPromotes", unfollowed := true, recurses := true, apart := false }
def TurnPromotesSaid : Prop := turnPromotesRow.holds Try.pinned (OpenSpec.ofChange turnPromotesSpec)

/-- ITS FALSE NEIGHBOUR: 'it returns false'. Refute it at one input. -/
def turnPromotesWrong : ChangeSpec := { name := "turnPromotes", fn := fun _ => fun
  | [d] => { results := [.lit (.bool false)], args := [d] }
  | _ => none }
def TurnPromotesWrongFalsely : Prop := turnPromotesRow.holds Try.pinned (OpenSpec.ofChange turnPromotesWrong)

/-- 'forerunnerlaw12.TurnPlays': WHATEVER THE INPUT: true; the input reads as it did. -/
def turnPlaysSpec : ChangeSpec := { name := "turnPlays", fn := fun _ => fun
  | [d1, d2, d3] => { results := [.lit (.bool true)], args := [d1, d2, d3] }
  | _ => none }
def turnPlaysRow : OpenClaim := { program := "ytgcnknhfphgfnaa", sum := "d59f014f9891e311fe9829d2b41ac431a85174376ee3db1440e61e689f96538b", func := "forerunner/forerunnerlaw12.TurnPlays", spec := "turnPlays", unfollowed := true, recurses := true, apart := false }
def TurnPlaysSaid : Prop := turnPlaysRow.holds Try.pinned (OpenSpec.ofChange turnPlaysSpec)

/-- ITS FALSE NEIGHBOUR: 'it returns false'. Refute it at one input. -/
def turnPlaysWrong : ChangeSpec := { name := "turnPlays", fn := fun _ => fun
  | [d1, d2, d3] => { results := [.lit (.bool false)], args := [d1, d2, d3] }
  | _ => none }
def TurnPlaysWrongFalsely : Prop := turnPlaysRow.holds Try.pinned (OpenSpec.ofChange turnPlaysWrong)

/-- 'forerunnerlaw12.TurnRows': WHATEVER THE INPUT: true; the input reads as it did. -/
def turnRowsSpec : ChangeSpec := { name := "turnRows", fn := fun _ => fun
  | [d] => { results := [.lit (.bool true)], args := [d] }
  | _ => none }
def turnRowsRow : OpenClaim := { program := "ytgcnknhfphgfnaa", sum := "d59f014f9891e311fe9829d2b41ac431a85174376ee3db1440e61e689f96538b", func := "forerunner/forerunnerlaw12.TurnRows", spec := "turnRows", unfollowed := true, recurses := true, apart := false }
def TurnRowsSaid : Prop := turnRowsRow.holds Try.pinned (OpenSpec.ofChange turnRowsSpec)

/-- ITS FALSE NEIGHBOUR: 'it returns false'. Refute it at one input. -/
def turnRowsWrong : ChangeSpec := { name := "turnRows", fn := fun _ => fun
  | [d] => { results := [.lit (.bool false)], args := [d] }
  | _ => none }
def TurnRowsWrongFalsely : Prop := turnRowsRow.holds Try.pinned (OpenSpec.ofChange turnRowsWrong)

/-- 'forerunnerlaw12.TurnCounts': WHATEVER THE INPUT: true; the input reads as it did. -/
def turnCountsSpec : ChangeSpec := { name := "turnCounts", fn := fun _ => fun
  | [d1, d2] => { results := [.lit (.bool true)], args := [d1, d2] }
  | _ => none }
def turnCountsRow : OpenClaim := { program := "ytgcnknhfphgfnaa", sum := "d59f014f9891e311fe9829d2b41ac431a85174376ee3db1440e61e689f96538b", func := "forerunner/forerunnerlaw12.TurnCounts", spec := "turnCounts", unfollowed := true, recurses := true, apart := false }
def TurnCountsSaid : Prop := turnCountsRow.holds Try.pinned (OpenSpec.ofChange turnCountsSpec)

/-- ITS FALSE NEIGHBOUR: 'it returns false'. Refute it at one input. -/
def turnCountsWrong : ChangeSpec := { name := "turnCounts", fn := fun _ => fun
  | [d1, d2] => { results := [.lit (.bool false)], args := [d1, d2] }
  | _ => none }
def TurnCountsWrongFalsely : Prop := turnCountsRow.holds Try.pinned (OpenSpec.ofChange turnCountsWrong)

/- THE SECOND FORM. 'bulk': how many values and letters a reading holds, each counted each time it is reached (what is shared counts as often as it is met; a slice's spare places count too). A statement '..UptoSaid' is the law's where the arguments, and the package variables that the reading takes, are together of bulk at most 1048576: NARROWER than '..Said'. Prove '..Said' where nothing that the law and all that it calls make is longer than what came in: it says more and counts as full. Else prove '..UptoSaid'. A law counts once. -/
mutual
def uptoBulk {H : Type} : DataW H → Nat
  | .lit (.string bytes) => bytes.length + 1
  | .lit _ => 1
  | .nil => 1
  | .ptr d => uptoBulk d + 1
  | .slice elems spare => uptoBulkAll elems + uptoBulkAll spare + 1
  | .agg parts => uptoBulkAll parts + 1
  | .iface _ d => uptoBulk d + 1
  | .map entries => uptoBulkEntries entries + 1
  | .held _ => 1
def uptoBulkAll {H : Type} : List (DataW H) → Nat
  | [] => 0
  | d :: r => uptoBulk d + uptoBulkAll r
def uptoBulkEntries {H : Type} : List (Lit × DataW H) → Nat
  | [] => 0
  | x :: r => uptoBulkEntry x + uptoBulkEntries r
def uptoBulkEntry {H : Type} : Lit × DataW H → Nat
  | (.string bytes, d) => bytes.length + uptoBulk d + 1
  | (_, d) => uptoBulk d + 1
 end
def uptoSmall : (H : Type) → List (DataW H) → Bool := fun _ ds => decide (uptoBulkAll ds ≤ 1048576)
def OpenSpec.upto (s : _root_.Go.ChangeSpec) : _root_.Go.OpenSpec := { _root_.Go.OpenSpec.ofChange s with cond := some uptoSmall }

/-- 'forerunnerlaw12.TurnKeeps', WHERE WHAT IT READS IS OF BULK AT MOST 1048576: true; the input reads as it did. -/
def turnKeepsUptoRow : OpenClaim := { program := "ytgcnknhfphgfnaa", sum := "d59f014f9891e311fe9829d2b41ac431a85174376ee3db1440e61e689f96538b", func := "forerunner/forerunnerlaw12.TurnKeeps", spec := "turnKeeps", unfollowed := true, recurses := true, apart := false, narrowed := true }
def TurnKeepsUptoSaid : Prop := turnKeepsUptoRow.holds Try.pinned (OpenSpec.upto turnKeepsSpec)

/-- 'forerunnerlaw12.TurnPromotes', WHERE WHAT IT READS IS OF BULK AT MOST 1048576: true; the input reads as it did. -/
def turnPromotesUptoRow : OpenClaim := { program := "ytgcnknhfphgfnaa", sum := "d59f014f9891e311fe9829d2b41ac431a85174376ee3db1440e61e689f96538b", func := "forerunner/forerunnerlaw12.TurnPromotes", spec := "turnPromotes", unfollowed := true, recurses := true, apart := false, narrowed := true }
def TurnPromotesUptoSaid : Prop := turnPromotesUptoRow.holds Try.pinned (OpenSpec.upto turnPromotesSpec)

/-- 'forerunnerlaw12.TurnPlays', WHERE WHAT IT READS IS OF BULK AT MOST 1048576: true; the input reads as it did. -/
def turnPlaysUptoRow : OpenClaim := { program := "ytgcnknhfphgfnaa", sum := "d59f014f9891e311fe9829d2b41ac431a85174376ee3db1440e61e689f96538b", func := "forerunner/forerunnerlaw12.TurnPlays", spec := "turnPlays", unfollowed := true, recurses := true, apart := false, narrowed := true }
def TurnPlaysUptoSaid : Prop := turnPlaysUptoRow.holds Try.pinned (OpenSpec.upto turnPlaysSpec)

/-- 'forerunnerlaw12.TurnRows', WHERE WHAT IT READS IS OF BULK AT MOST 1048576: true; the input reads as it did. -/
def turnRowsUptoRow : OpenClaim := { program := "ytgcnknhfphgfnaa", sum := "d59f014f9891e311fe9829d2b41ac431a85174376ee3db1440e61e689f96538b", func := "forerunner/forerunnerlaw12.TurnRows", spec := "turnRows", unfollowed := true, recurses := true, apart := false, narrowed := true }
def TurnRowsUptoSaid : Prop := turnRowsUptoRow.holds Try.pinned (OpenSpec.upto turnRowsSpec)

/-- 'forerunnerlaw12.TurnCounts', WHERE WHAT IT READS IS OF BULK AT MOST 1048576: true; the input reads as it did. -/
def turnCountsUptoRow : OpenClaim := { program := "ytgcnknhfphgfnaa", sum := "d59f014f9891e311fe9829d2b41ac431a85174376ee3db1440e61e689f96538b", func := "forerunner/forerunnerlaw12.TurnCounts", spec := "turnCounts", unfollowed := true, recurses := true, apart := false, narrowed := true }
def TurnCountsUptoSaid : Prop := turnCountsUptoRow.holds Try.pinned (OpenSpec.upto turnCountsSpec)

end Rows
end Go.Proofs.Ytgcnknhfphgfnaa
