/-
  No cell of these rows narrows 'for every input' (looked for: loops, veiled, ifaces, maps, wideKeys, modest, calm, conditions, laid).
  DERIVED. THE GIVEN ROWS OF THIS SEAT. 4 by the template 'for every input the law returns true; each argument reads behind the call as it read before'; 0 by the template 'total and deterministic' (their statements: YtfmnebdfanaafaaTotals.lean).
  GIVEN WITH THE SEED: the statements are not yours to turn. If you find one false, say at which input.
  Laid BY PROGRAM, IN A SANDBOX (cutbox-rows.mjs): the forced cells as the released guide's own fill.sh prints them over the translation 857410bcb0663654… (all of the seat's roots in one cut). By AI agents, Wed Nov 11 2026. No macro, syntax, notation, axiom, sorry.
-/
import Derived.Test.YtfmnebdfanaafaaChecked
import GoSem.Claim
import GoSem.ClaimJoined
import GoSem.ClaimMapViews
import Derived.JoinedTies
import Derived.KernelRfl
namespace Go.Proofs.Ytfmnebdfanaafaa
/- THE CELL 'sum', in the pinned program and in every row, IS THE sha256 OF THE DUMP (.gsa) THAT YtfmnebdfanaafaaProg.lean LOADS. Nothing in Lean hashes anything: it is a label: what it is worth is what the hold of that sum in a sandbox is worth. -/
noncomputable def Try.pinned : Pinned := { name := "ytfmnebdfanaafaa", sum := "857410bcb06636542490beb4ec5fa639c7f40b7c5719dd7488d61d73a21e8f5e", checked := Try.checked }
namespace Rows
def none {H : Type} : Left H := { results := [], args := [] }

/-- 'forerunnerlaw13.RunAround': WHATEVER THE INPUT: true; the input reads as it did. -/
def runAroundSpec : ChangeSpec := { name := "runAround", fn := fun _ => fun
  | [d1, d2, d3] => { results := [.lit (.bool true)], args := [d1, d2, d3] }
  | _ => none }
def runAroundRow : OpenClaim := { program := "ytfmnebdfanaafaa", sum := "857410bcb06636542490beb4ec5fa639c7f40b7c5719dd7488d61d73a21e8f5e", func := "forerunner/forerunnerlaw13.RunAround", spec := "runAround", unfollowed := true, recurses := true, apart := false }
def RunAroundSaid : Prop := runAroundRow.holds Try.pinned (OpenSpec.ofChange runAroundSpec)

/-- ITS FALSE NEIGHBOUR: 'it returns false'. Refute it at one input. -/
def runAroundWrong : ChangeSpec := { name := "runAround", fn := fun _ => fun
  | [d1, d2, d3] => { results := [.lit (.bool false)], args := [d1, d2, d3] }
  | _ => none }
def RunAroundWrongFalsely : Prop := runAroundRow.holds Try.pinned (OpenSpec.ofChange runAroundWrong)

/-- 'forerunnerlaw13.RunCovers': WHATEVER THE INPUT: true; the input reads as it did. -/
def runCoversSpec : ChangeSpec := { name := "runCovers", fn := fun _ => fun
  | [d1, d2, d3] => { results := [.lit (.bool true)], args := [d1, d2, d3] }
  | _ => none }
def runCoversRow : OpenClaim := { program := "ytfmnebdfanaafaa", sum := "857410bcb06636542490beb4ec5fa639c7f40b7c5719dd7488d61d73a21e8f5e", func := "forerunner/forerunnerlaw13.RunCovers", spec := "runCovers", unfollowed := true, recurses := true, apart := false }
def RunCoversSaid : Prop := runCoversRow.holds Try.pinned (OpenSpec.ofChange runCoversSpec)

/-- ITS FALSE NEIGHBOUR: 'it returns false'. Refute it at one input. -/
def runCoversWrong : ChangeSpec := { name := "runCovers", fn := fun _ => fun
  | [d1, d2, d3] => { results := [.lit (.bool false)], args := [d1, d2, d3] }
  | _ => none }
def RunCoversWrongFalsely : Prop := runCoversRow.holds Try.pinned (OpenSpec.ofChange runCoversWrong)

/-- 'forerunnerlaw13.RunHas': WHATEVER THE INPUT: true; the input reads as it did. -/
def runHasSpec : ChangeSpec := { name := "runHas", fn := fun _ => fun
  | [d1, d2, d3] => { results := [.lit (.bool true)], args := [d1, d2, d3] }
  | _ => none }
def runHasRow : OpenClaim := { program := "ytfmnebdfanaafaa", sum := "857410bcb06636542490beb4ec5fa639c7f40b7c5719dd7488d61d73a21e8f5e", func := "forerunner/forerunnerlaw13.RunHas", spec := "runHas", unfollowed := true, recurses := true, apart := false }
def RunHasSaid : Prop := runHasRow.holds Try.pinned (OpenSpec.ofChange runHasSpec)

/-- ITS FALSE NEIGHBOUR: 'it returns false'. Refute it at one input. -/
def runHasWrong : ChangeSpec := { name := "runHas", fn := fun _ => fun
  | [d1, d2, d3] => { results := [.lit (.bool false)], args := [d1, d2, d3] }
  | _ => none }
def RunHasWrongFalsely : Prop := runHasRow.holds Try.pinned (OpenSpec.ofChange runHasWrong)

/-- 'forerunnerlaw13.RunMeets': WHATEVER THE INPUT: true; the input reads as it did. -/
def runMeetsSpec : ChangeSpec := { name := "runMeets", fn := fun _ => fun
  | [d1, d2, d3] => { results := [.lit (.bool true)], args := [d1, d2, d3] }
  | _ => none }
def runMeetsRow : OpenClaim := { program := "ytfmnebdfanaafaa", sum := "857410bcb06636542490beb4ec5fa639c7f40b7c5719dd7488d61d73a21e8f5e", func := "forerunner/forerunnerlaw13.RunMeets", spec := "runMeets", unfollowed := true, recurses := true, apart := false }
def RunMeetsSaid : Prop := runMeetsRow.holds Try.pinned (OpenSpec.ofChange runMeetsSpec)

/-- ITS FALSE NEIGHBOUR: 'it returns false'. Refute it at one input. -/
def runMeetsWrong : ChangeSpec := { name := "runMeets", fn := fun _ => fun
  | [d1, d2, d3] => { results := [.lit (.bool false)], args := [d1, d2, d3] }
  | _ => none }
def RunMeetsWrongFalsely : Prop := runMeetsRow.holds Try.pinned (OpenSpec.ofChange runMeetsWrong)

/- THE SECOND FORM. 'bulk': how many values and letters a reading holds, each counted each time it is reached (what is shared counts as often as it is met; a slice's spare places count too). A statement '..UptoSaid' is the law's where the arguments, and the package variables that the reading takes, are together of bulk at most 1048576: NARROWER than '..Said'. Prove '..Said' where nothing that the law and all that it calls make is longer than what came in: it says more and counts as full. Else prove '..UptoSaid'. A law counts once. -/
mutual
def uptoBulk {H : Type} : DataW H → Nat
  | .lit (.string bytes) => bytes.length + 1
  | .lit _ => 1
  | .nil => 1
  | .ptr d => uptoBulk d + 1
  | .slice elems spare => uptoBulkAll elems + uptoBulkAll spare + 1
  | .agg parts => uptoBulkAll parts + 1
  | .iface _ d => uptoBulk d + 1
  | .map entries => uptoBulkEntries entries + 1
  | .held _ => 1
def uptoBulkAll {H : Type} : List (DataW H) → Nat
  | [] => 0
  | d :: r => uptoBulk d + uptoBulkAll r
def uptoBulkEntries {H : Type} : List (Lit × DataW H) → Nat
  | [] => 0
  | x :: r => uptoBulkEntry x + uptoBulkEntries r
def uptoBulkEntry {H : Type} : Lit × DataW H → Nat
  | (.string bytes, d) => bytes.length + uptoBulk d + 1
  | (_, d) => uptoBulk d + 1
 end
def uptoSmall : (H : Type) → List (DataW H) → Bool := fun _ ds => decide (uptoBulkAll ds ≤ 1048576)
def OpenSpec.upto (s : _root_.Go.ChangeSpec) : _root_.Go.OpenSpec := { _root_.Go.OpenSpec.ofChange s with cond := some uptoSmall }

/-- 'forerunnerlaw13.RunAround', WHERE WHAT IT READS IS OF BULK AT MOST 1048576: true; the input reads as it did. -/
def runAroundUptoRow : OpenClaim := { program := "ytfmnebdfanaafaa", sum := "857410bcb06636542490beb4ec5fa639c7f40b7c5719dd7488d61d73a21e8f5e", func := "forerunner/forerunnerlaw13.RunAround", spec := "runAround", unfollowed := true, recurses := true, apart := false, narrowed := true }
def RunAroundUptoSaid : Prop := runAroundUptoRow.holds Try.pinned (OpenSpec.upto runAroundSpec)

/-- 'forerunnerlaw13.RunCovers', WHERE WHAT IT READS IS OF BULK AT MOST 1048576: true; the input reads as it did. -/
def runCoversUptoRow : OpenClaim := { program := "ytfmnebdfanaafaa", sum := "857410bcb06636542490beb4ec5fa639c7f40b7c5719dd7488d61d73a21e8f5e", func := "forerunner/forerunnerlaw13.RunCovers", spec := "runCovers", unfollowed := true, recurses := true, apart := false, narrowed := true }
def RunCoversUptoSaid : Prop := runCoversUptoRow.holds Try.pinned (OpenSpec.upto runCoversSpec)

/-- 'forerunnerlaw13.RunHas', WHERE WHAT IT READS IS OF BULK AT MOST 1048576: true; the input reads as it did. -/
def runHasUptoRow : OpenClaim := { program := "ytfmnebdfanaafaa", sum := "857410bcb06636542490beb4ec5fa639c7f40b7c5719dd7488d61d73a21e8f5e", func := "forerunner/forerunnerlaw13.RunHas", spec := "runHas", unfollowed := true, recurses := true, apart := false, narrowed := true }
def RunHasUptoSaid : Prop := runHasUptoRow.holds Try.pinned (OpenSpec.upto runHasSpec)

/-- 'forerunnerlaw13.RunMeets', WHERE WHAT IT READS IS OF BULK AT MOST 1048576: true; the input reads as it did. -/
def runMeetsUptoRow : OpenClaim := { program := "ytfmnebdfanaafaa", sum := "857410bcb06636542490beb4ec5fa639c7f40b7c5719dd7488d61d73a21e8f5e", func := "forerunner/forerunnerlaw13.RunMeets", spec := "runMeets", unfollowed := true, recurses := true, apart := false, narrowed := true }
def RunMeetsUptoSaid : Prop := runMeetsUptoRow.holds Try.pinned (OpenSpec.upto runMeetsSpec)

end Rows
end Go.Proofs.Ytfmnebdfanaafaa
