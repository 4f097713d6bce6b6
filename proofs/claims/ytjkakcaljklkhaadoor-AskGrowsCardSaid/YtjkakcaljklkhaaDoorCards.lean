/-
  DERIVED. GIVEN WITH THE SEED: THE CARDS: each row of YtjkakcaljklkhaaDoorRows.lean that lists a variable, with what it lists TIED to the program's text (the seventh form; the later family's looks); each row that meets fmt, with fmt's text TOLD by the authors' own Lean function (tested against real Go, not proved from fmt's source: count such statements apart). THE CARD IS WHAT COUNTS. Prove the row's statement (the work); the ties are given (YtjkakcaljklkhaaDoorTie.lean); close each card by the builder's one call (the guide's Derived/Test/ToyasCard.lean, 'card_holds'). Laid BY PROGRAM, IN A SANDBOX (cutbox-door.mjs). By AI agents, Wed Nov 11 2026. No macro, syntax, notation, axiom, sorry.
-/
import Derived.Test.YtjkakcaljklkhaaDoorRows
import GoSem.ClaimSeven
namespace Go.Proofs.YtjkakcaljklkhaaDoor
namespace Rows

/-- THE TIED CARD OF 'forerunnerlaw15.AskOptions'. -/
def askOptionsCard : Claim7 := { stood := { row := askOptionsRow, standIns := [], harness := (true, "ffaf86822ef19d5ae19bd89969a39f6907919f4d08cef1e4c25f54df3748d345"), looks := false }, kinds := [], alts := [], laidByText := true, laidKinds := [.wider], laidTests := true, laidLooks := .later }
def AskOptionsCardSaid : Prop := Claim7.holds Tryd.pinned (.plain (OpenSpec.ofChange askOptionsSpec)) askOptionsCard

/-- THE TIED CARD OF 'forerunnerlaw15.AskOps'. -/
def askOpsCard : Claim7 := { stood := { row := askOpsRow, standIns := [], harness := (true, "ffaf86822ef19d5ae19bd89969a39f6907919f4d08cef1e4c25f54df3748d345"), looks := false }, kinds := [], alts := [], laidByText := true, laidKinds := [.wider], laidTests := true, laidLooks := .later }
def AskOpsCardSaid : Prop := Claim7.holds Tryd.pinned (.plain (OpenSpec.ofChange askOpsSpec)) askOpsCard

/-- THE TIED CARD OF 'forerunnerlaw15.AskGrows'. -/
def askGrowsCard : Claim7 := { stood := { row := askGrowsRow, standIns := [], harness := (true, "ffaf86822ef19d5ae19bd89969a39f6907919f4d08cef1e4c25f54df3748d345"), looks := false }, kinds := [], alts := [], laidByText := true, laidKinds := [.wider], laidTests := true, laidLooks := .later }
def AskGrowsCardSaid : Prop := Claim7.holds Tryd.pinned (.plain (OpenSpec.ofChange askGrowsSpec)) askGrowsCard

/-- THE TIED CARD OF 'forerunnerlaw15.AskReads'. -/
def askReadsCard : Claim7 := { stood := { row := askReadsRow, standIns := [], harness := (true, "ffaf86822ef19d5ae19bd89969a39f6907919f4d08cef1e4c25f54df3748d345"), looks := false }, kinds := [], alts := [], laidByText := true, laidKinds := [.wider], laidTests := true, laidLooks := .later }
def AskReadsCardSaid : Prop := Claim7.holds Tryd.pinned (.plain (OpenSpec.ofChange askReadsSpec)) askReadsCard

/-- THE TIED CARD OF 'forerunnerlaw15.AskFrames'. -/
def askFramesCard : Claim7 := { stood := { row := askFramesRow, standIns := [], harness := (true, "ffaf86822ef19d5ae19bd89969a39f6907919f4d08cef1e4c25f54df3748d345"), looks := false }, kinds := [], alts := [], laidByText := true, laidKinds := [.wider], laidTests := true, laidLooks := .later }
def AskFramesCardSaid : Prop := Claim7.holds Tryd.pinned (.plain (OpenSpec.ofChange askFramesSpec)) askFramesCard

/-- THE SECOND FORM's CARD OF 'forerunnerlaw15.AskOptions'. -/
def askOptionsUptoCard : Claim7 := { stood := { row := askOptionsUptoRow, standIns := [], harness := (true, "ffaf86822ef19d5ae19bd89969a39f6907919f4d08cef1e4c25f54df3748d345"), looks := false }, kinds := [], alts := [], laidByText := true, laidKinds := [.wider], laidTests := true, laidLooks := .later }
def AskOptionsUptoCardSaid : Prop := Claim7.holds Tryd.pinned (.plain (OpenSpec.upto askOptionsSpec)) askOptionsUptoCard

/-- THE SECOND FORM's CARD OF 'forerunnerlaw15.AskOps'. -/
def askOpsUptoCard : Claim7 := { stood := { row := askOpsUptoRow, standIns := [], harness := (true, "ffaf86822ef19d5ae19bd89969a39f6907919f4d08cef1e4c25f54df3748d345"), looks := false }, kinds := [], alts := [], laidByText := true, laidKinds := [.wider], laidTests := true, laidLooks := .later }
def AskOpsUptoCardSaid : Prop := Claim7.holds Tryd.pinned (.plain (OpenSpec.upto askOpsSpec)) askOpsUptoCard

/-- THE SECOND FORM's CARD OF 'forerunnerlaw15.AskGrows'. -/
def askGrowsUptoCard : Claim7 := { stood := { row := askGrowsUptoRow, standIns := [], harness := (true, "ffaf86822ef19d5ae19bd89969a39f6907919f4d08cef1e4c25f54df3748d345"), looks := false }, kinds := [], alts := [], laidByText := true, laidKinds := [.wider], laidTests := true, laidLooks := .later }
def AskGrowsUptoCardSaid : Prop := Claim7.holds Tryd.pinned (.plain (OpenSpec.upto askGrowsSpec)) askGrowsUptoCard

/-- THE SECOND FORM's CARD OF 'forerunnerlaw15.AskReads'. -/
def askReadsUptoCard : Claim7 := { stood := { row := askReadsUptoRow, standIns := [], harness := (true, "ffaf86822ef19d5ae19bd89969a39f6907919f4d08cef1e4c25f54df3748d345"), looks := false }, kinds := [], alts := [], laidByText := true, laidKinds := [.wider], laidTests := true, laidLooks := .later }
def AskReadsUptoCardSaid : Prop := Claim7.holds Tryd.pinned (.plain (OpenSpec.upto askReadsSpec)) askReadsUptoCard

/-- THE SECOND FORM's CARD OF 'forerunnerlaw15.AskFrames'. -/
def askFramesUptoCard : Claim7 := { stood := { row := askFramesUptoRow, standIns := [], harness := (true, "ffaf86822ef19d5ae19bd89969a39f6907919f4d08cef1e4c25f54df3748d345"), looks := false }, kinds := [], alts := [], laidByText := true, laidKinds := [.wider], laidTests := true, laidLooks := .later }
def AskFramesUptoCardSaid : Prop := Claim7.holds Tryd.pinned (.plain (OpenSpec.upto askFramesSpec)) askFramesUptoCard
end Rows
end Go.Proofs.YtjkakcaljklkhaaDoor
