/-
  DERIVED. GIVEN WITH THE SEED: THE CARDS: each row of YtohkjddpblocoaaGreatDoorRows.lean that lists a variable, with what it lists TIED to the program's text (the seventh form; the later family's looks); each row that meets fmt, with fmt's text TOLD by the authors' own Lean function (tested against real Go, not proved from fmt's source: count such statements apart). THE CARD IS WHAT COUNTS. Prove the row's statement (the work); the ties are given (YtohkjddpblocoaaGreatDoorTie.lean); close each card by the builder's one call (the guide's Derived/Test/ToyasCard.lean, 'card_holds'). Laid BY PROGRAM, IN A SANDBOX (cutbox-door.mjs). By AI agents, Wed Nov 11 2026. No macro, syntax, notation, axiom, sorry.
-/
import Derived.Test.YtohkjddpblocoaaGreatDoorRows
import GoSem.ClaimSeven
namespace Go.Proofs.YtohkjddpblocoaaGreatDoor
namespace Rows

/-- THE TIED CARD OF 'tellaw19.LowerExamples'. -/
def lowerExamplesCard : Claim7 := { stood := { row := lowerExamplesRow, standIns := [], harness := (true, "bcaadc31e4aed4431c4cb2b282d1827761610e177574bb859b59c0f03379d557"), looks := true }, kinds := [], alts := [], laidByText := true, laidKinds := [.data, .data, .data, .widerDeep, .data, .widerDeep], laidTests := true, laidLooks := .later }
def LowerExamplesCardSaid : Prop := Claim7.holds Tryz.pinned (.plain (OpenSpec.ofChange lowerExamplesSpec)) lowerExamplesCard

/-- THE SECOND FORM's CARD OF 'tellaw19.LowerExamples'. -/
def lowerExamplesUptoCard : Claim7 := { stood := { row := lowerExamplesUptoRow, standIns := [], harness := (true, "bcaadc31e4aed4431c4cb2b282d1827761610e177574bb859b59c0f03379d557"), looks := true }, kinds := [], alts := [], laidByText := true, laidKinds := [.data, .data, .data, .widerDeep, .data, .widerDeep], laidTests := true, laidLooks := .later }
def LowerExamplesUptoCardSaid : Prop := Claim7.holds Tryz.pinned (.plain (OpenSpec.upto lowerExamplesSpec)) lowerExamplesUptoCard
end Rows
end Go.Proofs.YtohkjddpblocoaaGreatDoor
