/-
  DERIVED. GIVEN WITH THE SEED: THE CARDS: each row of YtmpmgmmcaghacaaGreatDoorRows.lean that lists a variable, with what it lists TIED to the program's text (the seventh form; the later family's looks); each row that meets fmt, with fmt's text TOLD by the authors' own Lean function (tested against real Go, not proved from fmt's source: count such statements apart). THE CARD IS WHAT COUNTS. Prove the row's statement (the work); the ties are given (YtmpmgmmcaghacaaGreatDoorTie.lean); close each card by the builder's one call (the guide's Derived/Test/ToyasCard.lean, 'card_holds'). Laid BY PROGRAM, IN A SANDBOX (cutbox-door.mjs). By AI agents, Wed Nov 11 2026. No macro, syntax, notation, axiom, sorry.
-/
import Derived.Test.YtmpmgmmcaghacaaGreatDoorRows
import GoSem.ClaimSeven
namespace Go.Proofs.YtmpmgmmcaghacaaGreatDoor
namespace Rows

/-- THE TIED CARD OF 'tellaw13.IrValidate'. -/
def irValidateCard : Claim7 := { stood := { row := irValidateRow, standIns := [], harness := (true, "f4feaf285048a85df468004140171a9e845346e81b17ac4d66b7e187fa7f2db4"), looks := false }, kinds := [], alts := [], laidByText := true, laidKinds := [.data, .data, .data, .widerDeep, .data, .data, .data, .data, .data, .data], laidTests := true, laidLooks := .later }
def IrValidateCardSaid : Prop := Claim7.holds Tryz.pinned (.plain (OpenSpec.ofChange irValidateSpec)) irValidateCard

/-- THE TIED CARD OF 'tellaw13.IrClosed'. -/
def irClosedCard : Claim7 := { stood := { row := irClosedRow, standIns := [], harness := (true, "f4feaf285048a85df468004140171a9e845346e81b17ac4d66b7e187fa7f2db4"), looks := false }, kinds := [], alts := [], laidByText := true, laidKinds := [.data, .data, .data, .widerDeep, .data, .data, .data, .data, .data], laidTests := true, laidLooks := .later }
def IrClosedCardSaid : Prop := Claim7.holds Tryz.pinned (.plain (OpenSpec.ofChange irClosedSpec)) irClosedCard

/-- THE TIED CARD OF 'tellaw13.IrFormat'. -/
def irFormatCard : Claim7 := { stood := { row := irFormatRow, standIns := [], harness := (true, "f4feaf285048a85df468004140171a9e845346e81b17ac4d66b7e187fa7f2db4"), looks := false }, kinds := [], alts := [], laidByText := true, laidKinds := [.data, .data, .data, .widerDeep, .data, .data, .data, .data, .data, .data], laidTests := true, laidLooks := .later }
def IrFormatCardSaid : Prop := Claim7.holds Tryz.pinned (.plain (OpenSpec.ofChange irFormatSpec)) irFormatCard

/-- THE TIED CARD OF 'tellaw13.IrExamples'. -/
def irExamplesCard : Claim7 := { stood := { row := irExamplesRow, standIns := [], harness := (true, "f4feaf285048a85df468004140171a9e845346e81b17ac4d66b7e187fa7f2db4"), looks := false }, kinds := [], alts := [], laidByText := true, laidKinds := [.data, .data, .data, .widerDeep, .data], laidTests := true, laidLooks := .later }
def IrExamplesCardSaid : Prop := Claim7.holds Tryz.pinned (.plain (OpenSpec.ofChange irExamplesSpec)) irExamplesCard

/-- THE TIED CARD OF 'tellaw13.IrLive'. -/
def irLiveCard : Claim7 := { stood := { row := irLiveRow, standIns := [], harness := (true, "f4feaf285048a85df468004140171a9e845346e81b17ac4d66b7e187fa7f2db4"), looks := false }, kinds := [], alts := [], laidByText := true, laidKinds := [.data, .data, .data, .widerDeep, .data, .data, .data, .data, .data], laidTests := true, laidLooks := .later }
def IrLiveCardSaid : Prop := Claim7.holds Tryz.pinned (.plain (OpenSpec.ofChange irLiveSpec)) irLiveCard

/-- THE TIED CARD OF 'tellaw13.IrAnalyses'. -/
def irAnalysesCard : Claim7 := { stood := { row := irAnalysesRow, standIns := [], harness := (true, "f4feaf285048a85df468004140171a9e845346e81b17ac4d66b7e187fa7f2db4"), looks := false }, kinds := [], alts := [], laidByText := true, laidKinds := [.data, .data, .data, .widerDeep, .data, .data, .data, .data, .data, .data], laidTests := true, laidLooks := .later }
def IrAnalysesCardSaid : Prop := Claim7.holds Tryz.pinned (.plain (OpenSpec.ofChange irAnalysesSpec)) irAnalysesCard

/-- THE SECOND FORM's CARD OF 'tellaw13.IrValidate'. -/
def irValidateUptoCard : Claim7 := { stood := { row := irValidateUptoRow, standIns := [], harness := (true, "f4feaf285048a85df468004140171a9e845346e81b17ac4d66b7e187fa7f2db4"), looks := false }, kinds := [], alts := [], laidByText := true, laidKinds := [.data, .data, .data, .widerDeep, .data, .data, .data, .data, .data, .data], laidTests := true, laidLooks := .later }
def IrValidateUptoCardSaid : Prop := Claim7.holds Tryz.pinned (.plain (OpenSpec.upto irValidateSpec)) irValidateUptoCard

/-- THE SECOND FORM's CARD OF 'tellaw13.IrClosed'. -/
def irClosedUptoCard : Claim7 := { stood := { row := irClosedUptoRow, standIns := [], harness := (true, "f4feaf285048a85df468004140171a9e845346e81b17ac4d66b7e187fa7f2db4"), looks := false }, kinds := [], alts := [], laidByText := true, laidKinds := [.data, .data, .data, .widerDeep, .data, .data, .data, .data, .data], laidTests := true, laidLooks := .later }
def IrClosedUptoCardSaid : Prop := Claim7.holds Tryz.pinned (.plain (OpenSpec.upto irClosedSpec)) irClosedUptoCard

/-- THE SECOND FORM's CARD OF 'tellaw13.IrFormat'. -/
def irFormatUptoCard : Claim7 := { stood := { row := irFormatUptoRow, standIns := [], harness := (true, "f4feaf285048a85df468004140171a9e845346e81b17ac4d66b7e187fa7f2db4"), looks := false }, kinds := [], alts := [], laidByText := true, laidKinds := [.data, .data, .data, .widerDeep, .data, .data, .data, .data, .data, .data], laidTests := true, laidLooks := .later }
def IrFormatUptoCardSaid : Prop := Claim7.holds Tryz.pinned (.plain (OpenSpec.upto irFormatSpec)) irFormatUptoCard

/-- THE SECOND FORM's CARD OF 'tellaw13.IrExamples'. -/
def irExamplesUptoCard : Claim7 := { stood := { row := irExamplesUptoRow, standIns := [], harness := (true, "f4feaf285048a85df468004140171a9e845346e81b17ac4d66b7e187fa7f2db4"), looks := false }, kinds := [], alts := [], laidByText := true, laidKinds := [.data, .data, .data, .widerDeep, .data], laidTests := true, laidLooks := .later }
def IrExamplesUptoCardSaid : Prop := Claim7.holds Tryz.pinned (.plain (OpenSpec.upto irExamplesSpec)) irExamplesUptoCard

/-- THE SECOND FORM's CARD OF 'tellaw13.IrLive'. -/
def irLiveUptoCard : Claim7 := { stood := { row := irLiveUptoRow, standIns := [], harness := (true, "f4feaf285048a85df468004140171a9e845346e81b17ac4d66b7e187fa7f2db4"), looks := false }, kinds := [], alts := [], laidByText := true, laidKinds := [.data, .data, .data, .widerDeep, .data, .data, .data, .data, .data], laidTests := true, laidLooks := .later }
def IrLiveUptoCardSaid : Prop := Claim7.holds Tryz.pinned (.plain (OpenSpec.upto irLiveSpec)) irLiveUptoCard

/-- THE SECOND FORM's CARD OF 'tellaw13.IrAnalyses'. -/
def irAnalysesUptoCard : Claim7 := { stood := { row := irAnalysesUptoRow, standIns := [], harness := (true, "f4feaf285048a85df468004140171a9e845346e81b17ac4d66b7e187fa7f2db4"), looks := false }, kinds := [], alts := [], laidByText := true, laidKinds := [.data, .data, .data, .widerDeep, .data, .data, .data, .data, .data, .data], laidTests := true, laidLooks := .later }
def IrAnalysesUptoCardSaid : Prop := Claim7.holds Tryz.pinned (.plain (OpenSpec.upto irAnalysesSpec)) irAnalysesUptoCard
end Rows
end Go.Proofs.YtmpmgmmcaghacaaGreatDoor
