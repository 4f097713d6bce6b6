/-
  NARROWER THAN 'FOR EVERY INPUT', by the rows' own cells (each row's printed sentence says how): AskOptions: laid · AskOps: laid · AskGrows: laid · AskReads: laid · AskFrames: laid.
  DERIVED. THE GIVEN ROWS OF THIS SEAT. 5 by the template 'for every input the law returns true; each argument reads behind the call as it read before'; 0 by the template 'total and deterministic' (their statements: YtjkakcaljklkhaaDoorTotals.lean).
  GIVEN WITH THE SEED: the statements are not yours to turn. If you find one false, say at which input.
  Laid BY PROGRAM, IN A SANDBOX (cutbox-rows.mjs): the forced cells as the released guide's own fill.sh prints them over the translation 8418b14aa871caed… (all of the seat's roots in one cut). By AI agents, Wed Nov 11 2026. No macro, syntax, notation, axiom, sorry.
-/
import Derived.Test.YtjkakcaljklkhaaDoorChecked
import GoSem.Claim
import GoSem.ClaimJoined
import GoSem.ClaimMapViews
import Derived.JoinedTies
import Derived.KernelRfl
namespace Go.Proofs.YtjkakcaljklkhaaDoor
/- THE CELL 'sum', in the pinned program and in every row, IS THE sha256 OF THE DUMP (.gsa) THAT YtjkakcaljklkhaaDoorProg.lean LOADS. Nothing in Lean hashes anything: it is a label: what it is worth is what the hold of that sum in a sandbox is worth. -/
noncomputable def Tryd.pinned : Pinned := { name := "ytjkakcaljklkhaadoor", sum := "8418b14aa871caed55d8da34305bbf00f5a15525c0cbaa0165f4a37913f5f113", checked := Tryd.checked }
namespace Rows
def none {H : Type} : Left H := { results := [], args := [] }

/- WHAT THE LISTED PACKAGE-LEVEL VARIABLES READ AS WHEN THE CALL BEGINS. Each datum BY PROGRAM (the guide's laid-datum.mjs) off the statement by which the dump's own 'gosem.cut.vars' lays the variable. In a bare row this is a premise. The card (YtjkakcaljklkhaaDoorCards.lean) ties it to the program's text. -/
def laid_forerunner_ask_may {H : Type} : DataW H := .agg [.agg [.lit (.int .i64 1), .lit (.int .i64 256)], .agg [.lit (.int .i64 1), .lit (.int .i64 64)], .agg [.lit (.int .i64 1), .lit (.int .i64 64)], .agg [.lit (.int .i64 1), .lit (.int .i64 64)], .agg [.lit (.int .i64 0), .lit (.int .i64 64)], .agg [.lit (.int .i64 1), .lit (.int .i64 16)], .agg [.lit (.int .i64 1), .lit (.int .i64 8)], .agg [.lit (.int .i64 1), .lit (.int .i64 8)], .agg [.lit (.int .i64 1), .lit (.int .i64 16)], .agg [.lit (.int .i64 1), .lit (.int .i64 64)], .agg [.lit (.int .i64 1), .lit (.int .i64 16)], .agg [.lit (.int .i64 1), .lit (.int .i64 32)], .agg [.lit (.int .i64 1), .lit (.int .i64 64)], .agg [.lit (.int .i64 1), .lit (.int .i64 16)]]

/-- 'forerunnerlaw15.AskOptions': WHATEVER THE INPUT: true; the input reads as it did. -/
def askOptionsSpec : ChangeSpec := { name := "askOptions", fn := fun _ => fun
  | [d1, d2] => { results := [.lit (.bool true)], args := [d1, d2] }
  | _ => none }
def askOptionsRow : OpenClaim := { program := "ytjkakcaljklkhaadoor", sum := "8418b14aa871caed55d8da34305bbf00f5a15525c0cbaa0165f4a37913f5f113", func := "forerunner/forerunnerlaw15.AskOptions", spec := "askOptions", named := ["forerunner/ask.may"], apart := false, laid := [("forerunner/ask.may", laid_forerunner_ask_may)] }
def AskOptionsSaid : Prop := askOptionsRow.holds Tryd.pinned (OpenSpec.ofChange askOptionsSpec)

/-- ITS FALSE NEIGHBOUR: 'it returns false'. Refute it at one input. -/
def askOptionsWrong : ChangeSpec := { name := "askOptions", fn := fun _ => fun
  | [d1, d2] => { results := [.lit (.bool false)], args := [d1, d2] }
  | _ => none }
def AskOptionsWrongFalsely : Prop := askOptionsRow.holds Tryd.pinned (OpenSpec.ofChange askOptionsWrong)

/-- 'forerunnerlaw15.AskOps': WHATEVER THE INPUT: true; the input reads as it did. -/
def askOpsSpec : ChangeSpec := { name := "askOps", fn := fun _ => fun
  | [d1, d2] => { results := [.lit (.bool true)], args := [d1, d2] }
  | _ => none }
def askOpsRow : OpenClaim := { program := "ytjkakcaljklkhaadoor", sum := "8418b14aa871caed55d8da34305bbf00f5a15525c0cbaa0165f4a37913f5f113", func := "forerunner/forerunnerlaw15.AskOps", spec := "askOps", named := ["forerunner/ask.may"], apart := false, laid := [("forerunner/ask.may", laid_forerunner_ask_may)] }
def AskOpsSaid : Prop := askOpsRow.holds Tryd.pinned (OpenSpec.ofChange askOpsSpec)

/-- ITS FALSE NEIGHBOUR: 'it returns false'. Refute it at one input. -/
def askOpsWrong : ChangeSpec := { name := "askOps", fn := fun _ => fun
  | [d1, d2] => { results := [.lit (.bool false)], args := [d1, d2] }
  | _ => none }
def AskOpsWrongFalsely : Prop := askOpsRow.holds Tryd.pinned (OpenSpec.ofChange askOpsWrong)

/-- 'forerunnerlaw15.AskGrows': WHATEVER THE INPUT: true; the input reads as it did. -/
def askGrowsSpec : ChangeSpec := { name := "askGrows", fn := fun _ => fun
  | [d1, d2, d3] => { results := [.lit (.bool true)], args := [d1, d2, d3] }
  | _ => none }
def askGrowsRow : OpenClaim := { program := "ytjkakcaljklkhaadoor", sum := "8418b14aa871caed55d8da34305bbf00f5a15525c0cbaa0165f4a37913f5f113", func := "forerunner/forerunnerlaw15.AskGrows", spec := "askGrows", named := ["forerunner/ask.may"], apart := false, laid := [("forerunner/ask.may", laid_forerunner_ask_may)] }
def AskGrowsSaid : Prop := askGrowsRow.holds Tryd.pinned (OpenSpec.ofChange askGrowsSpec)

/-- ITS FALSE NEIGHBOUR: 'it returns false'. Refute it at one input. -/
def askGrowsWrong : ChangeSpec := { name := "askGrows", fn := fun _ => fun
  | [d1, d2, d3] => { results := [.lit (.bool false)], args := [d1, d2, d3] }
  | _ => none }
def AskGrowsWrongFalsely : Prop := askGrowsRow.holds Tryd.pinned (OpenSpec.ofChange askGrowsWrong)

/-- 'forerunnerlaw15.AskReads': WHATEVER THE INPUT: true; the input reads as it did. -/
def askReadsSpec : ChangeSpec := { name := "askReads", fn := fun _ => fun
  | [d1, d2, d3] => { results := [.lit (.bool true)], args := [d1, d2, d3] }
  | _ => none }
def askReadsRow : OpenClaim := { program := "ytjkakcaljklkhaadoor", sum := "8418b14aa871caed55d8da34305bbf00f5a15525c0cbaa0165f4a37913f5f113", func := "forerunner/forerunnerlaw15.AskReads", spec := "askReads", named := ["forerunner/ask.may"], apart := false, laid := [("forerunner/ask.may", laid_forerunner_ask_may)] }
def AskReadsSaid : Prop := askReadsRow.holds Tryd.pinned (OpenSpec.ofChange askReadsSpec)

/-- ITS FALSE NEIGHBOUR: 'it returns false'. Refute it at one input. -/
def askReadsWrong : ChangeSpec := { name := "askReads", fn := fun _ => fun
  | [d1, d2, d3] => { results := [.lit (.bool false)], args := [d1, d2, d3] }
  | _ => none }
def AskReadsWrongFalsely : Prop := askReadsRow.holds Tryd.pinned (OpenSpec.ofChange askReadsWrong)

/-- 'forerunnerlaw15.AskFrames': WHATEVER THE INPUT: true; the input reads as it did. -/
def askFramesSpec : ChangeSpec := { name := "askFrames", fn := fun _ => fun
  | [d1, d2] => { results := [.lit (.bool true)], args := [d1, d2] }
  | _ => none }
def askFramesRow : OpenClaim := { program := "ytjkakcaljklkhaadoor", sum := "8418b14aa871caed55d8da34305bbf00f5a15525c0cbaa0165f4a37913f5f113", func := "forerunner/forerunnerlaw15.AskFrames", spec := "askFrames", named := ["forerunner/ask.may"], apart := false, laid := [("forerunner/ask.may", laid_forerunner_ask_may)] }
def AskFramesSaid : Prop := askFramesRow.holds Tryd.pinned (OpenSpec.ofChange askFramesSpec)

/-- ITS FALSE NEIGHBOUR: 'it returns false'. Refute it at one input. -/
def askFramesWrong : ChangeSpec := { name := "askFrames", fn := fun _ => fun
  | [d1, d2] => { results := [.lit (.bool false)], args := [d1, d2] }
  | _ => none }
def AskFramesWrongFalsely : Prop := askFramesRow.holds Tryd.pinned (OpenSpec.ofChange askFramesWrong)

/- THE SECOND FORM. 'bulk': how many values and letters a reading holds, each counted each time it is reached (what is shared counts as often as it is met; a slice's spare places count too). A statement '..UptoSaid' is the law's where the arguments, and the package variables that the reading takes, are together of bulk at most 1048576: NARROWER than '..Said'. Prove '..Said' where nothing that the law and all that it calls make is longer than what came in: it says more and counts as full. Else prove '..UptoSaid'. A law counts once. -/
mutual
def uptoBulk {H : Type} : DataW H → Nat
  | .lit (.string bytes) => bytes.length + 1
  | .lit _ => 1
  | .nil => 1
  | .ptr d => uptoBulk d + 1
  | .slice elems spare => uptoBulkAll elems + uptoBulkAll spare + 1
  | .agg parts => uptoBulkAll parts + 1
  | .iface _ d => uptoBulk d + 1
  | .map entries => uptoBulkEntries entries + 1
  | .held _ => 1
def uptoBulkAll {H : Type} : List (DataW H) → Nat
  | [] => 0
  | d :: r => uptoBulk d + uptoBulkAll r
def uptoBulkEntries {H : Type} : List (Lit × DataW H) → Nat
  | [] => 0
  | x :: r => uptoBulkEntry x + uptoBulkEntries r
def uptoBulkEntry {H : Type} : Lit × DataW H → Nat
  | (.string bytes, d) => bytes.length + uptoBulk d + 1
  | (_, d) => uptoBulk d + 1
 end
def uptoSmall : (H : Type) → List (DataW H) → Bool := fun _ ds => decide (uptoBulkAll ds ≤ 1048576)
def OpenSpec.upto (s : _root_.Go.ChangeSpec) : _root_.Go.OpenSpec := { _root_.Go.OpenSpec.ofChange s with cond := some uptoSmall }

/-- 'forerunnerlaw15.AskOptions', WHERE WHAT IT READS IS OF BULK AT MOST 1048576: true; the input reads as it did. -/
def askOptionsUptoRow : OpenClaim := { program := "ytjkakcaljklkhaadoor", sum := "8418b14aa871caed55d8da34305bbf00f5a15525c0cbaa0165f4a37913f5f113", func := "forerunner/forerunnerlaw15.AskOptions", spec := "askOptions", named := ["forerunner/ask.may"], apart := false, laid := [("forerunner/ask.may", laid_forerunner_ask_may)], narrowed := true }
def AskOptionsUptoSaid : Prop := askOptionsUptoRow.holds Tryd.pinned (OpenSpec.upto askOptionsSpec)

/-- 'forerunnerlaw15.AskOps', WHERE WHAT IT READS IS OF BULK AT MOST 1048576: true; the input reads as it did. -/
def askOpsUptoRow : OpenClaim := { program := "ytjkakcaljklkhaadoor", sum := "8418b14aa871caed55d8da34305bbf00f5a15525c0cbaa0165f4a37913f5f113", func := "forerunner/forerunnerlaw15.AskOps", spec := "askOps", named := ["forerunner/ask.may"], apart := false, laid := [("forerunner/ask.may", laid_forerunner_ask_may)], narrowed := true }
def AskOpsUptoSaid : Prop := askOpsUptoRow.holds Tryd.pinned (OpenSpec.upto askOpsSpec)

/-- 'forerunnerlaw15.AskGrows', WHERE WHAT IT READS IS OF BULK AT MOST 1048576: true; the input reads as it did. -/
def askGrowsUptoRow : OpenClaim := { program := "ytjkakcaljklkhaadoor", sum := "8418b14aa871caed55d8da34305bbf00f5a15525c0cbaa0165f4a37913f5f113", func := "forerunner/forerunnerlaw15.AskGrows", spec := "askGrows", named := ["forerunner/ask.may"], apart := false, laid := [("forerunner/ask.may", laid_forerunner_ask_may)], narrowed := true }
def AskGrowsUptoSaid : Prop := askGrowsUptoRow.holds Tryd.pinned (OpenSpec.upto askGrowsSpec)

/-- 'forerunnerlaw15.AskReads', WHERE WHAT IT READS IS OF BULK AT MOST 1048576: true; the input reads as it did. -/
def askReadsUptoRow : OpenClaim := { program := "ytjkakcaljklkhaadoor", sum := "8418b14aa871caed55d8da34305bbf00f5a15525c0cbaa0165f4a37913f5f113", func := "forerunner/forerunnerlaw15.AskReads", spec := "askReads", named := ["forerunner/ask.may"], apart := false, laid := [("forerunner/ask.may", laid_forerunner_ask_may)], narrowed := true }
def AskReadsUptoSaid : Prop := askReadsUptoRow.holds Tryd.pinned (OpenSpec.upto askReadsSpec)

/-- 'forerunnerlaw15.AskFrames', WHERE WHAT IT READS IS OF BULK AT MOST 1048576: true; the input reads as it did. -/
def askFramesUptoRow : OpenClaim := { program := "ytjkakcaljklkhaadoor", sum := "8418b14aa871caed55d8da34305bbf00f5a15525c0cbaa0165f4a37913f5f113", func := "forerunner/forerunnerlaw15.AskFrames", spec := "askFrames", named := ["forerunner/ask.may"], apart := false, laid := [("forerunner/ask.may", laid_forerunner_ask_may)], narrowed := true }
def AskFramesUptoSaid : Prop := askFramesUptoRow.holds Tryd.pinned (OpenSpec.upto askFramesSpec)

end Rows
end Go.Proofs.YtjkakcaljklkhaaDoor
