/-
  DERIVED. GIVEN WITH THE SEED: THE CARDS: each row of YtiihiifcnkfjoaaDoorRows.lean that lists a variable, with what it lists TIED to the program's text (the seventh form; the later family's looks); each row that meets fmt, with fmt's text TOLD by the authors' own Lean function (tested against real Go, not proved from fmt's source: count such statements apart). THE CARD IS WHAT COUNTS. Prove the row's statement (the work); the ties are given (YtiihiifcnkfjoaaDoorTie.lean); close each card by the builder's one call (the guide's Derived/Test/ToyasCard.lean, 'card_holds'). Laid BY PROGRAM, IN A SANDBOX (cutbox-door.mjs). By AI agents, Wed Nov 11 2026. No macro, syntax, notation, axiom, sorry.
-/
import Derived.Test.YtiihiifcnkfjoaaDoorRows
import GoSem.ClaimSeven
namespace Go.Proofs.YtiihiifcnkfjoaaDoor
namespace Rows

/-- THE TIED CARD OF 'forerunnerlaw07.SarcPlays'. -/
def sarcPlaysCard : Claim7 := { stood := { row := sarcPlaysRow, standIns := [], harness := (true, "bded18de5e0559bd92a24c1a791a88c2bf0d71ae8070b2551b2903b664b4d58c"), looks := false }, kinds := [], alts := [], laidByText := true, laidKinds := [.widerDeep], laidTests := true, laidLooks := .later }
def SarcPlaysCardSaid : Prop := Claim7.holds Tryd.pinned (.plain (OpenSpec.ofChange sarcPlaysSpec)) sarcPlaysCard

/-- THE TIED CARD OF 'forerunnerlaw07.SarcSafe'. -/
def sarcSafeCard : Claim7 := { stood := { row := sarcSafeRow, standIns := [], harness := (true, "bded18de5e0559bd92a24c1a791a88c2bf0d71ae8070b2551b2903b664b4d58c"), looks := false }, kinds := [], alts := [], laidByText := true, laidKinds := [.widerDeep], laidTests := true, laidLooks := .later }
def SarcSafeCardSaid : Prop := Claim7.holds Tryd.pinned (.plain (OpenSpec.ofChange sarcSafeSpec)) sarcSafeCard

/-- THE TIED CARD OF 'forerunnerlaw07.SarcPulls'. -/
def sarcPullsCard : Claim7 := { stood := { row := sarcPullsRow, standIns := [], harness := (true, "bded18de5e0559bd92a24c1a791a88c2bf0d71ae8070b2551b2903b664b4d58c"), looks := false }, kinds := [], alts := [], laidByText := true, laidKinds := [.widerDeep], laidTests := true, laidLooks := .later }
def SarcPullsCardSaid : Prop := Claim7.holds Tryd.pinned (.plain (OpenSpec.ofChange sarcPullsSpec)) sarcPullsCard

/-- THE TIED CARD OF 'forerunnerlaw07.SarcOldest'. -/
def sarcOldestCard : Claim7 := { stood := { row := sarcOldestRow, standIns := [], harness := (true, "bded18de5e0559bd92a24c1a791a88c2bf0d71ae8070b2551b2903b664b4d58c"), looks := false }, kinds := [], alts := [], laidByText := true, laidKinds := [.widerDeep], laidTests := true, laidLooks := .later }
def SarcOldestCardSaid : Prop := Claim7.holds Tryd.pinned (.plain (OpenSpec.ofChange sarcOldestSpec)) sarcOldestCard

/-- THE TIED CARD OF 'forerunnerlaw07.SarcFronts'. -/
def sarcFrontsCard : Claim7 := { stood := { row := sarcFrontsRow, standIns := [], harness := (true, "bded18de5e0559bd92a24c1a791a88c2bf0d71ae8070b2551b2903b664b4d58c"), looks := false }, kinds := [], alts := [], laidByText := true, laidKinds := [.widerDeep], laidTests := true, laidLooks := .later }
def SarcFrontsCardSaid : Prop := Claim7.holds Tryd.pinned (.plain (OpenSpec.ofChange sarcFrontsSpec)) sarcFrontsCard

/-- THE TIED CARD OF 'forerunnerlaw07.SarcFalls'. -/
def sarcFallsCard : Claim7 := { stood := { row := sarcFallsRow, standIns := [], harness := (true, "bded18de5e0559bd92a24c1a791a88c2bf0d71ae8070b2551b2903b664b4d58c"), looks := false }, kinds := [], alts := [], laidByText := true, laidKinds := [.widerDeep], laidTests := true, laidLooks := .later }
def SarcFallsCardSaid : Prop := Claim7.holds Tryd.pinned (.plain (OpenSpec.ofChange sarcFallsSpec)) sarcFallsCard

/-- THE SECOND FORM's CARD OF 'forerunnerlaw07.SarcPlays'. -/
def sarcPlaysUptoCard : Claim7 := { stood := { row := sarcPlaysUptoRow, standIns := [], harness := (true, "bded18de5e0559bd92a24c1a791a88c2bf0d71ae8070b2551b2903b664b4d58c"), looks := false }, kinds := [], alts := [], laidByText := true, laidKinds := [.widerDeep], laidTests := true, laidLooks := .later }
def SarcPlaysUptoCardSaid : Prop := Claim7.holds Tryd.pinned (.plain (OpenSpec.upto sarcPlaysSpec)) sarcPlaysUptoCard

/-- THE SECOND FORM's CARD OF 'forerunnerlaw07.SarcSafe'. -/
def sarcSafeUptoCard : Claim7 := { stood := { row := sarcSafeUptoRow, standIns := [], harness := (true, "bded18de5e0559bd92a24c1a791a88c2bf0d71ae8070b2551b2903b664b4d58c"), looks := false }, kinds := [], alts := [], laidByText := true, laidKinds := [.widerDeep], laidTests := true, laidLooks := .later }
def SarcSafeUptoCardSaid : Prop := Claim7.holds Tryd.pinned (.plain (OpenSpec.upto sarcSafeSpec)) sarcSafeUptoCard

/-- THE SECOND FORM's CARD OF 'forerunnerlaw07.SarcPulls'. -/
def sarcPullsUptoCard : Claim7 := { stood := { row := sarcPullsUptoRow, standIns := [], harness := (true, "bded18de5e0559bd92a24c1a791a88c2bf0d71ae8070b2551b2903b664b4d58c"), looks := false }, kinds := [], alts := [], laidByText := true, laidKinds := [.widerDeep], laidTests := true, laidLooks := .later }
def SarcPullsUptoCardSaid : Prop := Claim7.holds Tryd.pinned (.plain (OpenSpec.upto sarcPullsSpec)) sarcPullsUptoCard

/-- THE SECOND FORM's CARD OF 'forerunnerlaw07.SarcOldest'. -/
def sarcOldestUptoCard : Claim7 := { stood := { row := sarcOldestUptoRow, standIns := [], harness := (true, "bded18de5e0559bd92a24c1a791a88c2bf0d71ae8070b2551b2903b664b4d58c"), looks := false }, kinds := [], alts := [], laidByText := true, laidKinds := [.widerDeep], laidTests := true, laidLooks := .later }
def SarcOldestUptoCardSaid : Prop := Claim7.holds Tryd.pinned (.plain (OpenSpec.upto sarcOldestSpec)) sarcOldestUptoCard

/-- THE SECOND FORM's CARD OF 'forerunnerlaw07.SarcFronts'. -/
def sarcFrontsUptoCard : Claim7 := { stood := { row := sarcFrontsUptoRow, standIns := [], harness := (true, "bded18de5e0559bd92a24c1a791a88c2bf0d71ae8070b2551b2903b664b4d58c"), looks := false }, kinds := [], alts := [], laidByText := true, laidKinds := [.widerDeep], laidTests := true, laidLooks := .later }
def SarcFrontsUptoCardSaid : Prop := Claim7.holds Tryd.pinned (.plain (OpenSpec.upto sarcFrontsSpec)) sarcFrontsUptoCard

/-- THE SECOND FORM's CARD OF 'forerunnerlaw07.SarcFalls'. -/
def sarcFallsUptoCard : Claim7 := { stood := { row := sarcFallsUptoRow, standIns := [], harness := (true, "bded18de5e0559bd92a24c1a791a88c2bf0d71ae8070b2551b2903b664b4d58c"), looks := false }, kinds := [], alts := [], laidByText := true, laidKinds := [.widerDeep], laidTests := true, laidLooks := .later }
def SarcFallsUptoCardSaid : Prop := Claim7.holds Tryd.pinned (.plain (OpenSpec.upto sarcFallsSpec)) sarcFallsUptoCard
end Rows
end Go.Proofs.YtiihiifcnkfjoaaDoor
