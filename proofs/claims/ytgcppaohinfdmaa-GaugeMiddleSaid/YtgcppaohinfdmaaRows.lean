/-
  No cell of these rows narrows 'for every input' (looked for: loops, veiled, ifaces, maps, wideKeys, modest, calm, conditions, laid).
  DERIVED. THE GIVEN ROWS OF THIS SEAT. 5 by the template 'for every input the law returns true; each argument reads behind the call as it read before'; 0 by the template 'total and deterministic' (their statements: YtgcppaohinfdmaaTotals.lean).
  GIVEN WITH THE SEED: the statements are not yours to turn. If you find one false, say at which input.
  Laid BY PROGRAM, IN A SANDBOX (cutbox-rows.mjs): the forced cells as the released guide's own fill.sh prints them over the translation df76225b490d160a… (all of the seat's roots in one cut). By AI agents, Wed Nov 11 2026. No macro, syntax, notation, axiom, sorry.
-/
import Derived.Test.YtgcppaohinfdmaaChecked
import GoSem.Claim
import GoSem.ClaimJoined
import GoSem.ClaimMapViews
import Derived.JoinedTies
import Derived.KernelRfl
namespace Go.Proofs.Ytgcppaohinfdmaa
/- THE CELL 'sum', in the pinned program and in every row, IS THE sha256 OF THE DUMP (.gsa) THAT YtgcppaohinfdmaaProg.lean LOADS. Nothing in Lean hashes anything: it is a label: what it is worth is what the hold of that sum in a sandbox is worth. -/
noncomputable def Try.pinned : Pinned := { name := "ytgcppaohinfdmaa", sum := "df76225b490d160a498c89a6da188d4dd245770f2b19e7f28956879582888e54", checked := Try.checked }
namespace Rows
def none {H : Type} : Left H := { results := [], args := [] }

/-- 'forerunnerlaw02.GaugeOrders': WHATEVER THE INPUT: true; the input reads as it did. -/
def gaugeOrdersSpec : ChangeSpec := { name := "gaugeOrders", fn := fun _ => fun
  | [d1, d2, d3] => { results := [.lit (.bool true)], args := [d1, d2, d3] }
  | _ => none }
def gaugeOrdersRow : OpenClaim := { program := "ytgcppaohinfdmaa", sum := "df76225b490d160a498c89a6da188d4dd245770f2b19e7f28956879582888e54", func := "forerunner/forerunnerlaw02.GaugeOrders", spec := "gaugeOrders", inPlace := ["math.Float64frombits", "math.Float64bits"], unfollowed := true, recurses := true, apart := false }
def GaugeOrdersSaid : Prop := gaugeOrdersRow.holds Try.pinned (OpenSpec.ofChange gaugeOrdersSpec)

/-- ITS FALSE NEIGHBOUR: 'it returns false'. Refute it at one input. -/
def gaugeOrdersWrong : ChangeSpec := { name := "gaugeOrders", fn := fun _ => fun
  | [d1, d2, d3] => { results := [.lit (.bool false)], args := [d1, d2, d3] }
  | _ => none }
def GaugeOrdersWrongFalsely : Prop := gaugeOrdersRow.holds Try.pinned (OpenSpec.ofChange gaugeOrdersWrong)

/-- 'forerunnerlaw02.GaugeMeans': WHATEVER THE INPUT: true; the input reads as it did. -/
def gaugeMeansSpec : ChangeSpec := { name := "gaugeMeans", fn := fun _ => fun
  | [d1, d2] => { results := [.lit (.bool true)], args := [d1, d2] }
  | _ => none }
def gaugeMeansRow : OpenClaim := { program := "ytgcppaohinfdmaa", sum := "df76225b490d160a498c89a6da188d4dd245770f2b19e7f28956879582888e54", func := "forerunner/forerunnerlaw02.GaugeMeans", spec := "gaugeMeans", inPlace := ["math.Float64frombits", "math.Float64bits"], unfollowed := true, recurses := true, apart := false }
def GaugeMeansSaid : Prop := gaugeMeansRow.holds Try.pinned (OpenSpec.ofChange gaugeMeansSpec)

/-- ITS FALSE NEIGHBOUR: 'it returns false'. Refute it at one input. -/
def gaugeMeansWrong : ChangeSpec := { name := "gaugeMeans", fn := fun _ => fun
  | [d1, d2] => { results := [.lit (.bool false)], args := [d1, d2] }
  | _ => none }
def GaugeMeansWrongFalsely : Prop := gaugeMeansRow.holds Try.pinned (OpenSpec.ofChange gaugeMeansWrong)

/-- 'forerunnerlaw02.GaugeWhole': WHATEVER THE INPUT: true; the input reads as it did. -/
def gaugeWholeSpec : ChangeSpec := { name := "gaugeWhole", fn := fun _ => fun
  | [d1, d2] => { results := [.lit (.bool true)], args := [d1, d2] }
  | _ => none }
def gaugeWholeRow : OpenClaim := { program := "ytgcppaohinfdmaa", sum := "df76225b490d160a498c89a6da188d4dd245770f2b19e7f28956879582888e54", func := "forerunner/forerunnerlaw02.GaugeWhole", spec := "gaugeWhole", inPlace := ["math.Float64frombits", "math.Float64bits"], unfollowed := true, recurses := true, apart := false }
def GaugeWholeSaid : Prop := gaugeWholeRow.holds Try.pinned (OpenSpec.ofChange gaugeWholeSpec)

/-- ITS FALSE NEIGHBOUR: 'it returns false'. Refute it at one input. -/
def gaugeWholeWrong : ChangeSpec := { name := "gaugeWhole", fn := fun _ => fun
  | [d1, d2] => { results := [.lit (.bool false)], args := [d1, d2] }
  | _ => none }
def GaugeWholeWrongFalsely : Prop := gaugeWholeRow.holds Try.pinned (OpenSpec.ofChange gaugeWholeWrong)

/-- 'forerunnerlaw02.GaugeNaNs': WHATEVER THE INPUT: true; the input reads as it did. -/
def gaugeNaNsSpec : ChangeSpec := { name := "gaugeNaNs", fn := fun _ => fun
  | [d] => { results := [.lit (.bool true)], args := [d] }
  | _ => none }
def gaugeNaNsRow : OpenClaim := { program := "ytgcppaohinfdmaa", sum := "df76225b490d160a498c89a6da188d4dd245770f2b19e7f28956879582888e54", func := "forerunner/forerunnerlaw02.GaugeNaNs", spec := "gaugeNaNs", inPlace := ["math.Float64frombits", "math.Float64bits"], unfollowed := true, recurses := true, apart := false }
def GaugeNaNsSaid : Prop := gaugeNaNsRow.holds Try.pinned (OpenSpec.ofChange gaugeNaNsSpec)

/-- ITS FALSE NEIGHBOUR: 'it returns false'. Refute it at one input. -/
def gaugeNaNsWrong : ChangeSpec := { name := "gaugeNaNs", fn := fun _ => fun
  | [d] => { results := [.lit (.bool false)], args := [d] }
  | _ => none }
def GaugeNaNsWrongFalsely : Prop := gaugeNaNsRow.holds Try.pinned (OpenSpec.ofChange gaugeNaNsWrong)

/-- 'forerunnerlaw02.GaugeMiddle': WHATEVER THE INPUT: true; the input reads as it did. -/
def gaugeMiddleSpec : ChangeSpec := { name := "gaugeMiddle", fn := fun _ => fun
  | [d1, d2] => { results := [.lit (.bool true)], args := [d1, d2] }
  | _ => none }
def gaugeMiddleRow : OpenClaim := { program := "ytgcppaohinfdmaa", sum := "df76225b490d160a498c89a6da188d4dd245770f2b19e7f28956879582888e54", func := "forerunner/forerunnerlaw02.GaugeMiddle", spec := "gaugeMiddle", inPlace := ["math.Float64frombits", "math.Float64bits"], unfollowed := true, recurses := true, apart := false }
def GaugeMiddleSaid : Prop := gaugeMiddleRow.holds Try.pinned (OpenSpec.ofChange gaugeMiddleSpec)

/-- ITS FALSE NEIGHBOUR: 'it returns false'. Refute it at one input. -/
def gaugeMiddleWrong : ChangeSpec := { name := "gaugeMiddle", fn := fun _ => fun
  | [d1, d2] => { results := [.lit (.bool false)], args := [d1, d2] }
  | _ => none }
def GaugeMiddleWrongFalsely : Prop := gaugeMiddleRow.holds Try.pinned (OpenSpec.ofChange gaugeMiddleWrong)

/- THE SECOND FORM. 'bulk': how many values and letters a reading holds, each counted each time it is reached (what is shared counts as often as it is met; a slice's spare places count too). A statement '..UptoSaid' is the law's where the arguments, and the package variables that the reading takes, are together of bulk at most 1048576: NARROWER than '..Said'. Prove '..Said' where nothing that the law and all that it calls make is longer than what came in: it says more and counts as full. Else prove '..UptoSaid'. A law counts once. -/
mutual
def uptoBulk {H : Type} : DataW H → Nat
  | .lit (.string bytes) => bytes.length + 1
  | .lit _ => 1
  | .nil => 1
  | .ptr d => uptoBulk d + 1
  | .slice elems spare => uptoBulkAll elems + uptoBulkAll spare + 1
  | .agg parts => uptoBulkAll parts + 1
  | .iface _ d => uptoBulk d + 1
  | .map entries => uptoBulkEntries entries + 1
  | .held _ => 1
def uptoBulkAll {H : Type} : List (DataW H) → Nat
  | [] => 0
  | d :: r => uptoBulk d + uptoBulkAll r
def uptoBulkEntries {H : Type} : List (Lit × DataW H) → Nat
  | [] => 0
  | x :: r => uptoBulkEntry x + uptoBulkEntries r
def uptoBulkEntry {H : Type} : Lit × DataW H → Nat
  | (.string bytes, d) => bytes.length + uptoBulk d + 1
  | (_, d) => uptoBulk d + 1
 end
def uptoSmall : (H : Type) → List (DataW H) → Bool := fun _ ds => decide (uptoBulkAll ds ≤ 1048576)
def OpenSpec.upto (s : _root_.Go.ChangeSpec) : _root_.Go.OpenSpec := { _root_.Go.OpenSpec.ofChange s with cond := some uptoSmall }

/-- 'forerunnerlaw02.GaugeOrders', WHERE WHAT IT READS IS OF BULK AT MOST 1048576: true; the input reads as it did. -/
def gaugeOrdersUptoRow : OpenClaim := { program := "ytgcppaohinfdmaa", sum := "df76225b490d160a498c89a6da188d4dd245770f2b19e7f28956879582888e54", func := "forerunner/forerunnerlaw02.GaugeOrders", spec := "gaugeOrders", inPlace := ["math.Float64frombits", "math.Float64bits"], unfollowed := true, recurses := true, apart := false, narrowed := true }
def GaugeOrdersUptoSaid : Prop := gaugeOrdersUptoRow.holds Try.pinned (OpenSpec.upto gaugeOrdersSpec)

/-- 'forerunnerlaw02.GaugeMeans', WHERE WHAT IT READS IS OF BULK AT MOST 1048576: true; the input reads as it did. -/
def gaugeMeansUptoRow : OpenClaim := { program := "ytgcppaohinfdmaa", sum := "df76225b490d160a498c89a6da188d4dd245770f2b19e7f28956879582888e54", func := "forerunner/forerunnerlaw02.GaugeMeans", spec := "gaugeMeans", inPlace := ["math.Float64frombits", "math.Float64bits"], unfollowed := true, recurses := true, apart := false, narrowed := true }
def GaugeMeansUptoSaid : Prop := gaugeMeansUptoRow.holds Try.pinned (OpenSpec.upto gaugeMeansSpec)

/-- 'forerunnerlaw02.GaugeWhole', WHERE WHAT IT READS IS OF BULK AT MOST 1048576: true; the input reads as it did. -/
def gaugeWholeUptoRow : OpenClaim := { program := "ytgcppaohinfdmaa", sum := "df76225b490d160a498c89a6da188d4dd245770f2b19e7f28956879582888e54", func := "forerunner/forerunnerlaw02.GaugeWhole", spec := "gaugeWhole", inPlace := ["math.Float64frombits", "math.Float64bits"], unfollowed := true, recurses := true, apart := false, narrowed := true }
def GaugeWholeUptoSaid : Prop := gaugeWholeUptoRow.holds Try.pinned (OpenSpec.upto gaugeWholeSpec)

/-- 'forerunnerlaw02.GaugeNaNs', WHERE WHAT IT READS IS OF BULK AT MOST 1048576: true; the input reads as it did. -/
def gaugeNaNsUptoRow : OpenClaim := { program := "ytgcppaohinfdmaa", sum := "df76225b490d160a498c89a6da188d4dd245770f2b19e7f28956879582888e54", func := "forerunner/forerunnerlaw02.GaugeNaNs", spec := "gaugeNaNs", inPlace := ["math.Float64frombits", "math.Float64bits"], unfollowed := true, recurses := true, apart := false, narrowed := true }
def GaugeNaNsUptoSaid : Prop := gaugeNaNsUptoRow.holds Try.pinned (OpenSpec.upto gaugeNaNsSpec)

/-- 'forerunnerlaw02.GaugeMiddle', WHERE WHAT IT READS IS OF BULK AT MOST 1048576: true; the input reads as it did. -/
def gaugeMiddleUptoRow : OpenClaim := { program := "ytgcppaohinfdmaa", sum := "df76225b490d160a498c89a6da188d4dd245770f2b19e7f28956879582888e54", func := "forerunner/forerunnerlaw02.GaugeMiddle", spec := "gaugeMiddle", inPlace := ["math.Float64frombits", "math.Float64bits"], unfollowed := true, recurses := true, apart := false, narrowed := true }
def GaugeMiddleUptoSaid : Prop := gaugeMiddleUptoRow.holds Try.pinned (OpenSpec.upto gaugeMiddleSpec)

end Rows
end Go.Proofs.Ytgcppaohinfdmaa
