/-
  No cell of these rows narrows 'for every input' (looked for: loops, veiled, ifaces, maps, wideKeys, modest, calm, conditions, laid).
  DERIVED. THE GIVEN ROWS OF THIS SEAT. 5 by the template 'for every input the law returns true; each argument reads behind the call as it read before'; 0 by the template 'total and deterministic' (their statements: YtfepdagknnoblaaTotals.lean).
  GIVEN WITH THE SEED: the statements are not yours to turn. If you find one false, say at which input.
  Laid BY PROGRAM, IN A SANDBOX (cutbox-rows.mjs): the forced cells as the released guide's own fill.sh prints them over the translation e924d80a6d257322… (all of the seat's roots in one cut). By AI agents, Wed Nov 11 2026. No macro, syntax, notation, axiom, sorry.
-/
import Derived.Test.YtfepdagknnoblaaChecked
import GoSem.Claim
import GoSem.ClaimJoined
import GoSem.ClaimMapViews
import Derived.JoinedTies
import Derived.KernelRfl
namespace Go.Proofs.Ytfepdagknnoblaa
/- THE CELL 'sum', in the pinned program and in every row, IS THE sha256 OF THE DUMP (.gsa) THAT YtfepdagknnoblaaProg.lean LOADS. Nothing in Lean hashes anything: it is a label: what it is worth is what the hold of that sum in a sandbox is worth. -/
noncomputable def Try.pinned : Pinned := { name := "ytfepdagknnoblaa", sum := "e924d80a6d2573224c4262c64b36aa24619f1d2db05b05a548d3519f99cf7d77", checked := Try.checked }
namespace Rows
def none {H : Type} : Left H := { results := [], args := [] }

/-- 'forerunnerlaw18.TallyAdds': WHATEVER THE INPUT: true; the input reads as it did. -/
def tallyAddsSpec : ChangeSpec := { name := "tallyAdds", fn := fun _ => fun
  | [d1, d2] => { results := [.lit (.bool true)], args := [d1, d2] }
  | _ => none }
def tallyAddsRow : OpenClaim := { program := "ytfepdagknnoblaa", sum := "e924d80a6d2573224c4262c64b36aa24619f1d2db05b05a548d3519f99cf7d77", func := "forerunner/forerunnerlaw18.TallyAdds", spec := "tallyAdds", inPlace := ["math/bits.Add64"], unfollowed := true, recurses := true, apart := false }
def TallyAddsSaid : Prop := tallyAddsRow.holds Try.pinned (OpenSpec.ofChange tallyAddsSpec)

/-- ITS FALSE NEIGHBOUR: 'it returns false'. Refute it at one input. -/
def tallyAddsWrong : ChangeSpec := { name := "tallyAdds", fn := fun _ => fun
  | [d1, d2] => { results := [.lit (.bool false)], args := [d1, d2] }
  | _ => none }
def TallyAddsWrongFalsely : Prop := tallyAddsRow.holds Try.pinned (OpenSpec.ofChange tallyAddsWrong)

/-- 'forerunnerlaw18.TallySums': WHATEVER THE INPUT: true; the input reads as it did. -/
def tallySumsSpec : ChangeSpec := { name := "tallySums", fn := fun _ => fun
  | [d1, d2, d3] => { results := [.lit (.bool true)], args := [d1, d2, d3] }
  | _ => none }
def tallySumsRow : OpenClaim := { program := "ytfepdagknnoblaa", sum := "e924d80a6d2573224c4262c64b36aa24619f1d2db05b05a548d3519f99cf7d77", func := "forerunner/forerunnerlaw18.TallySums", spec := "tallySums", inPlace := ["math/bits.Add64"], unfollowed := true, recurses := true, apart := false }
def TallySumsSaid : Prop := tallySumsRow.holds Try.pinned (OpenSpec.ofChange tallySumsSpec)

/-- ITS FALSE NEIGHBOUR: 'it returns false'. Refute it at one input. -/
def tallySumsWrong : ChangeSpec := { name := "tallySums", fn := fun _ => fun
  | [d1, d2, d3] => { results := [.lit (.bool false)], args := [d1, d2, d3] }
  | _ => none }
def TallySumsWrongFalsely : Prop := tallySumsRow.holds Try.pinned (OpenSpec.ofChange tallySumsWrong)

/-- 'forerunnerlaw18.TallyGrows': WHATEVER THE INPUT: true; the input reads as it did. -/
def tallyGrowsSpec : ChangeSpec := { name := "tallyGrows", fn := fun _ => fun
  | [d] => { results := [.lit (.bool true)], args := [d] }
  | _ => none }
def tallyGrowsRow : OpenClaim := { program := "ytfepdagknnoblaa", sum := "e924d80a6d2573224c4262c64b36aa24619f1d2db05b05a548d3519f99cf7d77", func := "forerunner/forerunnerlaw18.TallyGrows", spec := "tallyGrows", inPlace := ["math/bits.Add64"], unfollowed := true, recurses := true, apart := false }
def TallyGrowsSaid : Prop := tallyGrowsRow.holds Try.pinned (OpenSpec.ofChange tallyGrowsSpec)

/-- ITS FALSE NEIGHBOUR: 'it returns false'. Refute it at one input. -/
def tallyGrowsWrong : ChangeSpec := { name := "tallyGrows", fn := fun _ => fun
  | [d] => { results := [.lit (.bool false)], args := [d] }
  | _ => none }
def TallyGrowsWrongFalsely : Prop := tallyGrowsRow.holds Try.pinned (OpenSpec.ofChange tallyGrowsWrong)

/-- 'forerunnerlaw18.TallyNothing': WHATEVER THE INPUT: true; the input reads as it did. -/
def tallyNothingSpec : ChangeSpec := { name := "tallyNothing", fn := fun _ => fun
  | [d1, d2] => { results := [.lit (.bool true)], args := [d1, d2] }
  | _ => none }
def tallyNothingRow : OpenClaim := { program := "ytfepdagknnoblaa", sum := "e924d80a6d2573224c4262c64b36aa24619f1d2db05b05a548d3519f99cf7d77", func := "forerunner/forerunnerlaw18.TallyNothing", spec := "tallyNothing", inPlace := ["math/bits.Add64"], unfollowed := true, recurses := true, apart := false }
def TallyNothingSaid : Prop := tallyNothingRow.holds Try.pinned (OpenSpec.ofChange tallyNothingSpec)

/-- ITS FALSE NEIGHBOUR: 'it returns false'. Refute it at one input. -/
def tallyNothingWrong : ChangeSpec := { name := "tallyNothing", fn := fun _ => fun
  | [d1, d2] => { results := [.lit (.bool false)], args := [d1, d2] }
  | _ => none }
def TallyNothingWrongFalsely : Prop := tallyNothingRow.holds Try.pinned (OpenSpec.ofChange tallyNothingWrong)

/-- 'forerunnerlaw18.TallyTwice': WHATEVER THE INPUT: true; the input reads as it did. -/
def tallyTwiceSpec : ChangeSpec := { name := "tallyTwice", fn := fun _ => fun
  | [d1, d2, d3] => { results := [.lit (.bool true)], args := [d1, d2, d3] }
  | _ => none }
def tallyTwiceRow : OpenClaim := { program := "ytfepdagknnoblaa", sum := "e924d80a6d2573224c4262c64b36aa24619f1d2db05b05a548d3519f99cf7d77", func := "forerunner/forerunnerlaw18.TallyTwice", spec := "tallyTwice", inPlace := ["math/bits.Add64"], unfollowed := true, recurses := true, apart := false }
def TallyTwiceSaid : Prop := tallyTwiceRow.holds Try.pinned (OpenSpec.ofChange tallyTwiceSpec)

/-- ITS FALSE NEIGHBOUR: 'it returns false'. Refute it at one input. -/
def tallyTwiceWrong : ChangeSpec := { name := "tallyTwice", fn := fun _ => fun
  | [d1, d2, d3] => { results := [.lit (.bool false)], args := [d1, d2, d3] }
  | _ => none }
def TallyTwiceWrongFalsely : Prop := tallyTwiceRow.holds Try.pinned (OpenSpec.ofChange tallyTwiceWrong)

/- THE SECOND FORM. 'bulk': how many values and letters a reading holds, each counted each time it is reached (what is shared counts as often as it is met; a slice's spare places count too). A statement '..UptoSaid' is the law's where the arguments, and the package variables that the reading takes, are together of bulk at most 1048576: NARROWER than '..Said'. Prove '..Said' where nothing that the law and all that it calls make is longer than what came in: it says more and counts as full. Else prove '..UptoSaid'. A law counts once. -/
mutual
def uptoBulk {H : Type} : DataW H → Nat
  | .lit (.string bytes) => bytes.length + 1
  | .lit _ => 1
  | .nil => 1
  | .ptr d => uptoBulk d + 1
  | .slice elems spare => uptoBulkAll elems + uptoBulkAll spare + 1
  | .agg parts => uptoBulkAll parts + 1
  | .iface _ d => uptoBulk d + 1
  | .map entries => uptoBulkEntries entries + 1
  | .held _ => 1
def uptoBulkAll {H : Type} : List (DataW H) → Nat
  | [] => 0
  | d :: r => uptoBulk d + uptoBulkAll r
def uptoBulkEntries {H : Type} : List (Lit × DataW H) → Nat
  | [] => 0
  | x :: r => uptoBulkEntry x + uptoBulkEntries r
def uptoBulkEntry {H : Type} : Lit × DataW H → Nat
  | (.string bytes, d) => bytes.length + uptoBulk d + 1
  | (_, d) => uptoBulk d + 1
 end
def uptoSmall : (H : Type) → List (DataW H) → Bool := fun _ ds => decide (uptoBulkAll ds ≤ 1048576)
def OpenSpec.upto (s : _root_.Go.ChangeSpec) : _root_.Go.OpenSpec := { _root_.Go.OpenSpec.ofChange s with cond := some uptoSmall }

/-- 'forerunnerlaw18.TallyAdds', WHERE WHAT IT READS IS OF BULK AT MOST 1048576: true; the input reads as it did. -/
def tallyAddsUptoRow : OpenClaim := { program := "ytfepdagknnoblaa", sum := "e924d80a6d2573224c4262c64b36aa24619f1d2db05b05a548d3519f99cf7d77", func := "forerunner/forerunnerlaw18.TallyAdds", spec := "tallyAdds", inPlace := ["math/bits.Add64"], unfollowed := true, recurses := true, apart := false, narrowed := true }
def TallyAddsUptoSaid : Prop := tallyAddsUptoRow.holds Try.pinned (OpenSpec.upto tallyAddsSpec)

/-- 'forerunnerlaw18.TallySums', WHERE WHAT IT READS IS OF BULK AT MOST 1048576: true; the input reads as it did. -/
def tallySumsUptoRow : OpenClaim := { program := "ytfepdagknnoblaa", sum := "e924d80a6d2573224c4262c64b36aa24619f1d2db05b05a548d3519f99cf7d77", func := "forerunner/forerunnerlaw18.TallySums", spec := "tallySums", inPlace := ["math/bits.Add64"], unfollowed := true, recurses := true, apart := false, narrowed := true }
def TallySumsUptoSaid : Prop := tallySumsUptoRow.holds Try.pinned (OpenSpec.upto tallySumsSpec)

/-- 'forerunnerlaw18.TallyGrows', WHERE WHAT IT READS IS OF BULK AT MOST 1048576: true; the input reads as it did. -/
def tallyGrowsUptoRow : OpenClaim := { program := "ytfepdagknnoblaa", sum := "e924d80a6d2573224c4262c64b36aa24619f1d2db05b05a548d3519f99cf7d77", func := "forerunner/forerunnerlaw18.TallyGrows", spec := "tallyGrows", inPlace := ["math/bits.Add64"], unfollowed := true, recurses := true, apart := false, narrowed := true }
def TallyGrowsUptoSaid : Prop := tallyGrowsUptoRow.holds Try.pinned (OpenSpec.upto tallyGrowsSpec)

/-- 'forerunnerlaw18.TallyNothing', WHERE WHAT IT READS IS OF BULK AT MOST 1048576: true; the input reads as it did. -/
def tallyNothingUptoRow : OpenClaim := { program := "ytfepdagknnoblaa", sum := "e924d80a6d2573224c4262c64b36aa24619f1d2db05b05a548d3519f99cf7d77", func := "forerunner/forerunnerlaw18.TallyNothing", spec := "tallyNothing", inPlace := ["math/bits.Add64"], unfollowed := true, recurses := true, apart := false, narrowed := true }
def TallyNothingUptoSaid : Prop := tallyNothingUptoRow.holds Try.pinned (OpenSpec.upto tallyNothingSpec)

/-- 'forerunnerlaw18.TallyTwice', WHERE WHAT IT READS IS OF BULK AT MOST 1048576: true; the input reads as it did. -/
def tallyTwiceUptoRow : OpenClaim := { program := "ytfepdagknnoblaa", sum := "e924d80a6d2573224c4262c64b36aa24619f1d2db05b05a548d3519f99cf7d77", func := "forerunner/forerunnerlaw18.TallyTwice", spec := "tallyTwice", inPlace := ["math/bits.Add64"], unfollowed := true, recurses := true, apart := false, narrowed := true }
def TallyTwiceUptoSaid : Prop := tallyTwiceUptoRow.holds Try.pinned (OpenSpec.upto tallyTwiceSpec)

end Rows
end Go.Proofs.Ytfepdagknnoblaa
