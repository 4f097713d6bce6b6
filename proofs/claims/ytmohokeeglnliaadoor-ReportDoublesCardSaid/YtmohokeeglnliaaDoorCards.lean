/-
  DERIVED. GIVEN WITH THE SEED: THE CARDS: each row of YtmohokeeglnliaaDoorRows.lean that lists a variable, with what it lists TIED to the program's text (the seventh form; the later family's looks); each row that meets fmt, with fmt's text TOLD by the authors' own Lean function (tested against real Go, not proved from fmt's source: count such statements apart). THE CARD IS WHAT COUNTS. Prove the row's statement (the work); the ties are given (YtmohokeeglnliaaDoorTie.lean); close each card by the builder's one call (the guide's Derived/Test/ToyasCard.lean, 'card_holds'). Laid BY PROGRAM, IN A SANDBOX (cutbox-door.mjs). By AI agents, Wed Nov 11 2026. No macro, syntax, notation, axiom, sorry.
-/
import Derived.Test.YtmohokeeglnliaaDoorRows
import GoSem.ClaimSeven
namespace Go.Proofs.YtmohokeeglnliaaDoor
namespace Rows

/-- THE TIED CARD OF 'forerunnerlaw23.ReportTells'. -/
def reportTellsCard : Claim7 := { stood := { row := reportTellsRow, standIns := [], harness := (true, "74b7bc4644e6ea76f62c657737d2bdc435bbc950bf8cb1f3e808bcaba1e75bb0"), looks := true }, kinds := [], alts := [], laidByText := true, laidKinds := [.data, .data, .data], laidTests := true, laidLooks := .later }
def ReportTellsCardSaid : Prop := Claim7.holds Tryd.pinned (.plain (OpenSpec.ofChange reportTellsSpec)) reportTellsCard

/-- THE TIED CARD OF 'forerunnerlaw23.ReportBest'. -/
def reportBestCard : Claim7 := { stood := { row := reportBestRow, standIns := [], harness := (true, "74b7bc4644e6ea76f62c657737d2bdc435bbc950bf8cb1f3e808bcaba1e75bb0"), looks := true }, kinds := [], alts := [], laidByText := true, laidKinds := [.data, .data, .data], laidTests := true, laidLooks := .later }
def ReportBestCardSaid : Prop := Claim7.holds Tryd.pinned (.plain (OpenSpec.ofChange reportBestSpec)) reportBestCard

/-- THE TIED CARD OF 'forerunnerlaw23.ReportSound'. -/
def reportSoundCard : Claim7 := { stood := { row := reportSoundRow, standIns := [], harness := (true, "74b7bc4644e6ea76f62c657737d2bdc435bbc950bf8cb1f3e808bcaba1e75bb0"), looks := true }, kinds := [], alts := [], laidByText := true, laidKinds := [.data, .data, .data], laidTests := true, laidLooks := .later }
def ReportSoundCardSaid : Prop := Claim7.holds Tryd.pinned (.plain (OpenSpec.ofChange reportSoundSpec)) reportSoundCard

/-- THE TIED CARD OF 'forerunnerlaw23.ReportDoubles'. -/
def reportDoublesCard : Claim7 := { stood := { row := reportDoublesRow, standIns := [], harness := (true, "74b7bc4644e6ea76f62c657737d2bdc435bbc950bf8cb1f3e808bcaba1e75bb0"), looks := true }, kinds := [], alts := [], laidByText := true, laidKinds := [.data, .data, .data], laidTests := true, laidLooks := .later }
def ReportDoublesCardSaid : Prop := Claim7.holds Tryd.pinned (.plain (OpenSpec.ofChange reportDoublesSpec)) reportDoublesCard

/-- THE TIED CARD OF 'forerunnerlaw23.ReportOrder'. -/
def reportOrderCard : Claim7 := { stood := { row := reportOrderRow, standIns := [], harness := (true, "74b7bc4644e6ea76f62c657737d2bdc435bbc950bf8cb1f3e808bcaba1e75bb0"), looks := true }, kinds := [], alts := [], laidByText := true, laidKinds := [.data, .data, .data], laidTests := true, laidLooks := .later }
def ReportOrderCardSaid : Prop := Claim7.holds Tryd.pinned (.plain (OpenSpec.ofChange reportOrderSpec)) reportOrderCard

/-- THE SECOND FORM's CARD OF 'forerunnerlaw23.ReportTells'. -/
def reportTellsUptoCard : Claim7 := { stood := { row := reportTellsUptoRow, standIns := [], harness := (true, "74b7bc4644e6ea76f62c657737d2bdc435bbc950bf8cb1f3e808bcaba1e75bb0"), looks := true }, kinds := [], alts := [], laidByText := true, laidKinds := [.data, .data, .data], laidTests := true, laidLooks := .later }
def ReportTellsUptoCardSaid : Prop := Claim7.holds Tryd.pinned (.plain (OpenSpec.upto reportTellsSpec)) reportTellsUptoCard

/-- THE SECOND FORM's CARD OF 'forerunnerlaw23.ReportBest'. -/
def reportBestUptoCard : Claim7 := { stood := { row := reportBestUptoRow, standIns := [], harness := (true, "74b7bc4644e6ea76f62c657737d2bdc435bbc950bf8cb1f3e808bcaba1e75bb0"), looks := true }, kinds := [], alts := [], laidByText := true, laidKinds := [.data, .data, .data], laidTests := true, laidLooks := .later }
def ReportBestUptoCardSaid : Prop := Claim7.holds Tryd.pinned (.plain (OpenSpec.upto reportBestSpec)) reportBestUptoCard

/-- THE SECOND FORM's CARD OF 'forerunnerlaw23.ReportSound'. -/
def reportSoundUptoCard : Claim7 := { stood := { row := reportSoundUptoRow, standIns := [], harness := (true, "74b7bc4644e6ea76f62c657737d2bdc435bbc950bf8cb1f3e808bcaba1e75bb0"), looks := true }, kinds := [], alts := [], laidByText := true, laidKinds := [.data, .data, .data], laidTests := true, laidLooks := .later }
def ReportSoundUptoCardSaid : Prop := Claim7.holds Tryd.pinned (.plain (OpenSpec.upto reportSoundSpec)) reportSoundUptoCard

/-- THE SECOND FORM's CARD OF 'forerunnerlaw23.ReportDoubles'. -/
def reportDoublesUptoCard : Claim7 := { stood := { row := reportDoublesUptoRow, standIns := [], harness := (true, "74b7bc4644e6ea76f62c657737d2bdc435bbc950bf8cb1f3e808bcaba1e75bb0"), looks := true }, kinds := [], alts := [], laidByText := true, laidKinds := [.data, .data, .data], laidTests := true, laidLooks := .later }
def ReportDoublesUptoCardSaid : Prop := Claim7.holds Tryd.pinned (.plain (OpenSpec.upto reportDoublesSpec)) reportDoublesUptoCard

/-- THE SECOND FORM's CARD OF 'forerunnerlaw23.ReportOrder'. -/
def reportOrderUptoCard : Claim7 := { stood := { row := reportOrderUptoRow, standIns := [], harness := (true, "74b7bc4644e6ea76f62c657737d2bdc435bbc950bf8cb1f3e808bcaba1e75bb0"), looks := true }, kinds := [], alts := [], laidByText := true, laidKinds := [.data, .data, .data], laidTests := true, laidLooks := .later }
def ReportOrderUptoCardSaid : Prop := Claim7.holds Tryd.pinned (.plain (OpenSpec.upto reportOrderSpec)) reportOrderUptoCard
end Rows
end Go.Proofs.YtmohokeeglnliaaDoor
