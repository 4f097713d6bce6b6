/-
  NARROWER THAN 'FOR EVERY INPUT', by the rows' own cells (each row's printed sentence says how): SarcPlays: laid · SarcSafe: laid · SarcPulls: laid · SarcOldest: laid · SarcFronts: laid · SarcFalls: laid.
  DERIVED. THE GIVEN ROWS OF THIS SEAT. 6 by the template 'for every input the law returns true; each argument reads behind the call as it read before'; 0 by the template 'total and deterministic' (their statements: YtiihiifcnkfjoaaDoorTotals.lean).
  GIVEN WITH THE SEED: the statements are not yours to turn. If you find one false, say at which input.
  Laid BY PROGRAM, IN A SANDBOX (cutbox-rows.mjs): the forced cells as the released guide's own fill.sh prints them over the translation cbd7de1e934e9c3e… (all of the seat's roots in one cut). By AI agents, Wed Nov 11 2026. No macro, syntax, notation, axiom, sorry.
-/
import Derived.Test.YtiihiifcnkfjoaaDoorChecked
import GoSem.Claim
import GoSem.ClaimJoined
import GoSem.ClaimMapViews
import Derived.JoinedTies
import Derived.KernelRfl
namespace Go.Proofs.YtiihiifcnkfjoaaDoor
/- THE CELL 'sum', in the pinned program and in every row, IS THE sha256 OF THE DUMP (.gsa) THAT YtiihiifcnkfjoaaDoorProg.lean LOADS. Nothing in Lean hashes anything: it is a label: what it is worth is what the hold of that sum in a sandbox is worth. -/
noncomputable def Tryd.pinned : Pinned := { name := "ytiihiifcnkfjoaadoor", sum := "cbd7de1e934e9c3ee3f876fed1e41532fbcd6aeb1c606ff676bd1def1b659acd", checked := Tryd.checked }
namespace Rows
def none {H : Type} : Left H := { results := [], args := [] }

/- WHAT THE LISTED PACKAGE-LEVEL VARIABLES READ AS WHEN THE CALL BEGINS. Each datum BY PROGRAM (the guide's laid-datum.mjs) off the statement by which the dump's own 'gosem.cut.vars' lays the variable. In a bare row this is a premise. The card (YtiihiifcnkfjoaaDoorCards.lean) ties it to the program's text. -/
def laid_forerunner_sarc_both {H : Type} : DataW H := .agg [.lit (.int .i64 0), .lit (.int .i64 1)]

/-- 'forerunnerlaw07.SarcPlays': WHATEVER THE INPUT: true; the input reads as it did. -/
def sarcPlaysSpec : ChangeSpec := { name := "sarcPlays", fn := fun _ => fun
  | [d1, d2, d3] => { results := [.lit (.bool true)], args := [d1, d2, d3] }
  | _ => none }
def sarcPlaysRow : OpenClaim := { program := "ytiihiifcnkfjoaadoor", sum := "cbd7de1e934e9c3ee3f876fed1e41532fbcd6aeb1c606ff676bd1def1b659acd", func := "forerunner/forerunnerlaw07.SarcPlays", spec := "sarcPlays", inPlace := ["math/bits.Add64"], unfollowed := true, recurses := true, named := ["forerunner/sarc.both"], apart := false, laid := [("forerunner/sarc.both", laid_forerunner_sarc_both)] }
def SarcPlaysSaid : Prop := sarcPlaysRow.holds Tryd.pinned (OpenSpec.ofChange sarcPlaysSpec)

/-- ITS FALSE NEIGHBOUR: 'it returns false'. Refute it at one input. -/
def sarcPlaysWrong : ChangeSpec := { name := "sarcPlays", fn := fun _ => fun
  | [d1, d2, d3] => { results := [.lit (.bool false)], args := [d1, d2, d3] }
  | _ => none }
def SarcPlaysWrongFalsely : Prop := sarcPlaysRow.holds Tryd.pinned (OpenSpec.ofChange sarcPlaysWrong)

/-- 'forerunnerlaw07.SarcSafe': WHATEVER THE INPUT: true; the input reads as it did. -/
def sarcSafeSpec : ChangeSpec := { name := "sarcSafe", fn := fun _ => fun
  | [d1, d2, d3] => { results := [.lit (.bool true)], args := [d1, d2, d3] }
  | _ => none }
def sarcSafeRow : OpenClaim := { program := "ytiihiifcnkfjoaadoor", sum := "cbd7de1e934e9c3ee3f876fed1e41532fbcd6aeb1c606ff676bd1def1b659acd", func := "forerunner/forerunnerlaw07.SarcSafe", spec := "sarcSafe", inPlace := ["math/bits.Add64"], unfollowed := true, recurses := true, named := ["forerunner/sarc.both"], apart := false, laid := [("forerunner/sarc.both", laid_forerunner_sarc_both)] }
def SarcSafeSaid : Prop := sarcSafeRow.holds Tryd.pinned (OpenSpec.ofChange sarcSafeSpec)

/-- ITS FALSE NEIGHBOUR: 'it returns false'. Refute it at one input. -/
def sarcSafeWrong : ChangeSpec := { name := "sarcSafe", fn := fun _ => fun
  | [d1, d2, d3] => { results := [.lit (.bool false)], args := [d1, d2, d3] }
  | _ => none }
def SarcSafeWrongFalsely : Prop := sarcSafeRow.holds Tryd.pinned (OpenSpec.ofChange sarcSafeWrong)

/-- 'forerunnerlaw07.SarcPulls': WHATEVER THE INPUT: true; the input reads as it did. -/
def sarcPullsSpec : ChangeSpec := { name := "sarcPulls", fn := fun _ => fun
  | [d1, d2, d3] => { results := [.lit (.bool true)], args := [d1, d2, d3] }
  | _ => none }
def sarcPullsRow : OpenClaim := { program := "ytiihiifcnkfjoaadoor", sum := "cbd7de1e934e9c3ee3f876fed1e41532fbcd6aeb1c606ff676bd1def1b659acd", func := "forerunner/forerunnerlaw07.SarcPulls", spec := "sarcPulls", inPlace := ["math/bits.Add64"], unfollowed := true, recurses := true, named := ["forerunner/sarc.both"], apart := false, laid := [("forerunner/sarc.both", laid_forerunner_sarc_both)] }
def SarcPullsSaid : Prop := sarcPullsRow.holds Tryd.pinned (OpenSpec.ofChange sarcPullsSpec)

/-- ITS FALSE NEIGHBOUR: 'it returns false'. Refute it at one input. -/
def sarcPullsWrong : ChangeSpec := { name := "sarcPulls", fn := fun _ => fun
  | [d1, d2, d3] => { results := [.lit (.bool false)], args := [d1, d2, d3] }
  | _ => none }
def SarcPullsWrongFalsely : Prop := sarcPullsRow.holds Tryd.pinned (OpenSpec.ofChange sarcPullsWrong)

/-- 'forerunnerlaw07.SarcOldest': WHATEVER THE INPUT: true; the input reads as it did. -/
def sarcOldestSpec : ChangeSpec := { name := "sarcOldest", fn := fun _ => fun
  | [d1, d2, d3] => { results := [.lit (.bool true)], args := [d1, d2, d3] }
  | _ => none }
def sarcOldestRow : OpenClaim := { program := "ytiihiifcnkfjoaadoor", sum := "cbd7de1e934e9c3ee3f876fed1e41532fbcd6aeb1c606ff676bd1def1b659acd", func := "forerunner/forerunnerlaw07.SarcOldest", spec := "sarcOldest", inPlace := ["math/bits.Add64"], unfollowed := true, recurses := true, named := ["forerunner/sarc.both"], apart := false, laid := [("forerunner/sarc.both", laid_forerunner_sarc_both)] }
def SarcOldestSaid : Prop := sarcOldestRow.holds Tryd.pinned (OpenSpec.ofChange sarcOldestSpec)

/-- ITS FALSE NEIGHBOUR: 'it returns false'. Refute it at one input. -/
def sarcOldestWrong : ChangeSpec := { name := "sarcOldest", fn := fun _ => fun
  | [d1, d2, d3] => { results := [.lit (.bool false)], args := [d1, d2, d3] }
  | _ => none }
def SarcOldestWrongFalsely : Prop := sarcOldestRow.holds Tryd.pinned (OpenSpec.ofChange sarcOldestWrong)

/-- 'forerunnerlaw07.SarcFronts': WHATEVER THE INPUT: true; the input reads as it did. -/
def sarcFrontsSpec : ChangeSpec := { name := "sarcFronts", fn := fun _ => fun
  | [d1, d2, d3] => { results := [.lit (.bool true)], args := [d1, d2, d3] }
  | _ => none }
def sarcFrontsRow : OpenClaim := { program := "ytiihiifcnkfjoaadoor", sum := "cbd7de1e934e9c3ee3f876fed1e41532fbcd6aeb1c606ff676bd1def1b659acd", func := "forerunner/forerunnerlaw07.SarcFronts", spec := "sarcFronts", inPlace := ["math/bits.Add64"], unfollowed := true, recurses := true, named := ["forerunner/sarc.both"], apart := false, laid := [("forerunner/sarc.both", laid_forerunner_sarc_both)] }
def SarcFrontsSaid : Prop := sarcFrontsRow.holds Tryd.pinned (OpenSpec.ofChange sarcFrontsSpec)

/-- ITS FALSE NEIGHBOUR: 'it returns false'. Refute it at one input. -/
def sarcFrontsWrong : ChangeSpec := { name := "sarcFronts", fn := fun _ => fun
  | [d1, d2, d3] => { results := [.lit (.bool false)], args := [d1, d2, d3] }
  | _ => none }
def SarcFrontsWrongFalsely : Prop := sarcFrontsRow.holds Tryd.pinned (OpenSpec.ofChange sarcFrontsWrong)

/-- 'forerunnerlaw07.SarcFalls': WHATEVER THE INPUT: true; the input reads as it did. -/
def sarcFallsSpec : ChangeSpec := { name := "sarcFalls", fn := fun _ => fun
  | [d1, d2, d3] => { results := [.lit (.bool true)], args := [d1, d2, d3] }
  | _ => none }
def sarcFallsRow : OpenClaim := { program := "ytiihiifcnkfjoaadoor", sum := "cbd7de1e934e9c3ee3f876fed1e41532fbcd6aeb1c606ff676bd1def1b659acd", func := "forerunner/forerunnerlaw07.SarcFalls", spec := "sarcFalls", inPlace := ["math/bits.Add64"], unfollowed := true, recurses := true, named := ["forerunner/sarc.both"], apart := false, laid := [("forerunner/sarc.both", laid_forerunner_sarc_both)] }
def SarcFallsSaid : Prop := sarcFallsRow.holds Tryd.pinned (OpenSpec.ofChange sarcFallsSpec)

/-- ITS FALSE NEIGHBOUR: 'it returns false'. Refute it at one input. -/
def sarcFallsWrong : ChangeSpec := { name := "sarcFalls", fn := fun _ => fun
  | [d1, d2, d3] => { results := [.lit (.bool false)], args := [d1, d2, d3] }
  | _ => none }
def SarcFallsWrongFalsely : Prop := sarcFallsRow.holds Tryd.pinned (OpenSpec.ofChange sarcFallsWrong)

/- THE SECOND FORM. 'bulk': how many values and letters a reading holds, each counted each time it is reached (what is shared counts as often as it is met; a slice's spare places count too). A statement '..UptoSaid' is the law's where the arguments, and the package variables that the reading takes, are together of bulk at most 1048576: NARROWER than '..Said'. Prove '..Said' where nothing that the law and all that it calls make is longer than what came in: it says more and counts as full. Else prove '..UptoSaid'. A law counts once. -/
mutual
def uptoBulk {H : Type} : DataW H → Nat
  | .lit (.string bytes) => bytes.length + 1
  | .lit _ => 1
  | .nil => 1
  | .ptr d => uptoBulk d + 1
  | .slice elems spare => uptoBulkAll elems + uptoBulkAll spare + 1
  | .agg parts => uptoBulkAll parts + 1
  | .iface _ d => uptoBulk d + 1
  | .map entries => uptoBulkEntries entries + 1
  | .held _ => 1
def uptoBulkAll {H : Type} : List (DataW H) → Nat
  | [] => 0
  | d :: r => uptoBulk d + uptoBulkAll r
def uptoBulkEntries {H : Type} : List (Lit × DataW H) → Nat
  | [] => 0
  | x :: r => uptoBulkEntry x + uptoBulkEntries r
def uptoBulkEntry {H : Type} : Lit × DataW H → Nat
  | (.string bytes, d) => bytes.length + uptoBulk d + 1
  | (_, d) => uptoBulk d + 1
 end
def uptoSmall : (H : Type) → List (DataW H) → Bool := fun _ ds => decide (uptoBulkAll ds ≤ 1048576)
def OpenSpec.upto (s : _root_.Go.ChangeSpec) : _root_.Go.OpenSpec := { _root_.Go.OpenSpec.ofChange s with cond := some uptoSmall }

/-- 'forerunnerlaw07.SarcPlays', WHERE WHAT IT READS IS OF BULK AT MOST 1048576: true; the input reads as it did. -/
def sarcPlaysUptoRow : OpenClaim := { program := "ytiihiifcnkfjoaadoor", sum := "cbd7de1e934e9c3ee3f876fed1e41532fbcd6aeb1c606ff676bd1def1b659acd", func := "forerunner/forerunnerlaw07.SarcPlays", spec := "sarcPlays", inPlace := ["math/bits.Add64"], unfollowed := true, recurses := true, named := ["forerunner/sarc.both"], apart := false, laid := [("forerunner/sarc.both", laid_forerunner_sarc_both)], narrowed := true }
def SarcPlaysUptoSaid : Prop := sarcPlaysUptoRow.holds Tryd.pinned (OpenSpec.upto sarcPlaysSpec)

/-- 'forerunnerlaw07.SarcSafe', WHERE WHAT IT READS IS OF BULK AT MOST 1048576: true; the input reads as it did. -/
def sarcSafeUptoRow : OpenClaim := { program := "ytiihiifcnkfjoaadoor", sum := "cbd7de1e934e9c3ee3f876fed1e41532fbcd6aeb1c606ff676bd1def1b659acd", func := "forerunner/forerunnerlaw07.SarcSafe", spec := "sarcSafe", inPlace := ["math/bits.Add64"], unfollowed := true, recurses := true, named := ["forerunner/sarc.both"], apart := false, laid := [("forerunner/sarc.both", laid_forerunner_sarc_both)], narrowed := true }
def SarcSafeUptoSaid : Prop := sarcSafeUptoRow.holds Tryd.pinned (OpenSpec.upto sarcSafeSpec)

/-- 'forerunnerlaw07.SarcPulls', WHERE WHAT IT READS IS OF BULK AT MOST 1048576: true; the input reads as it did. -/
def sarcPullsUptoRow : OpenClaim := { program := "ytiihiifcnkfjoaadoor", sum := "cbd7de1e934e9c3ee3f876fed1e41532fbcd6aeb1c606ff676bd1def1b659acd", func := "forerunner/forerunnerlaw07.SarcPulls", spec := "sarcPulls", inPlace := ["math/bits.Add64"], unfollowed := true, recurses := true, named := ["forerunner/sarc.both"], apart := false, laid := [("forerunner/sarc.both", laid_forerunner_sarc_both)], narrowed := true }
def SarcPullsUptoSaid : Prop := sarcPullsUptoRow.holds Tryd.pinned (OpenSpec.upto sarcPullsSpec)

/-- 'forerunnerlaw07.SarcOldest', WHERE WHAT IT READS IS OF BULK AT MOST 1048576: true; the input reads as it did. -/
def sarcOldestUptoRow : OpenClaim := { program := "ytiihiifcnkfjoaadoor", sum := "cbd7de1e934e9c3ee3f876fed1e41532fbcd6aeb1c606ff676bd1def1b659acd", func := "forerunner/forerunnerlaw07.SarcOldest", spec := "sarcOldest", inPlace := ["math/bits.Add64"], unfollowed := true, recurses := true, named := ["forerunner/sarc.both"], apart := false, laid := [("forerunner/sarc.both", laid_forerunner_sarc_both)], narrowed := true }
def SarcOldestUptoSaid : Prop := sarcOldestUptoRow.holds Tryd.pinned (OpenSpec.upto sarcOldestSpec)

/-- 'forerunnerlaw07.SarcFronts', WHERE WHAT IT READS IS OF BULK AT MOST 1048576: true; the input reads as it did. -/
def sarcFrontsUptoRow : OpenClaim := { program := "ytiihiifcnkfjoaadoor", sum := "cbd7de1e934e9c3ee3f876fed1e41532fbcd6aeb1c606ff676bd1def1b659acd", func := "forerunner/forerunnerlaw07.SarcFronts", spec := "sarcFronts", inPlace := ["math/bits.Add64"], unfollowed := true, recurses := true, named := ["forerunner/sarc.both"], apart := false, laid := [("forerunner/sarc.both", laid_forerunner_sarc_both)], narrowed := true }
def SarcFrontsUptoSaid : Prop := sarcFrontsUptoRow.holds Tryd.pinned (OpenSpec.upto sarcFrontsSpec)

/-- 'forerunnerlaw07.SarcFalls', WHERE WHAT IT READS IS OF BULK AT MOST 1048576: true; the input reads as it did. -/
def sarcFallsUptoRow : OpenClaim := { program := "ytiihiifcnkfjoaadoor", sum := "cbd7de1e934e9c3ee3f876fed1e41532fbcd6aeb1c606ff676bd1def1b659acd", func := "forerunner/forerunnerlaw07.SarcFalls", spec := "sarcFalls", inPlace := ["math/bits.Add64"], unfollowed := true, recurses := true, named := ["forerunner/sarc.both"], apart := false, laid := [("forerunner/sarc.both", laid_forerunner_sarc_both)], narrowed := true }
def SarcFallsUptoSaid : Prop := sarcFallsUptoRow.holds Tryd.pinned (OpenSpec.upto sarcFallsSpec)

end Rows
end Go.Proofs.YtiihiifcnkfjoaaDoor
