/-
  DERIVED. GIVEN WITH THE SEED: THE CARDS: each row of YtmclhadhncbdhaaGreatDoorRows.lean that lists a variable, with what it lists TIED to the program's text (the seventh form; the later family's looks); each row that meets fmt, with fmt's text TOLD by the authors' own Lean function (tested against real Go, not proved from fmt's source: count such statements apart). THE CARD IS WHAT COUNTS. Prove the row's statement (the work); the ties are given (YtmclhadhncbdhaaGreatDoorTie.lean); close each card by the builder's one call (the guide's Derived/Test/ToyasCard.lean, 'card_holds'). Laid BY PROGRAM, IN A SANDBOX (cutbox-door.mjs). By AI agents, Wed Nov 11 2026. No macro, syntax, notation, axiom, sorry.
-/
import Derived.Test.YtmclhadhncbdhaaGreatDoorRows
import GoSem.ClaimSeven
namespace Go.Proofs.YtmclhadhncbdhaaGreatDoor
namespace Rows

/-- THE TIED CARD OF 'tellaw15.DispatchExamples'. -/
def dispatchExamplesCard : Claim7 := { stood := { row := dispatchExamplesRow, standIns := [], harness := (true, "ed2a0a0bb8a979689958226d6ce20373b30d0169e64fbee6fb58c902850a28db"), looks := true }, kinds := [], alts := [], laidByText := true, laidKinds := [.data, .data, .data, .sentinel, .sentinel, .widerDeep, .widerDeep], laidTests := true, laidLooks := .later }
def DispatchExamplesCardSaid : Prop := Claim7.holds Tryz.pinned (.plain (OpenSpec.ofChange dispatchExamplesSpec)) dispatchExamplesCard

/-- THE SECOND FORM's CARD OF 'tellaw15.DispatchExamples'. -/
def dispatchExamplesUptoCard : Claim7 := { stood := { row := dispatchExamplesUptoRow, standIns := [], harness := (true, "ed2a0a0bb8a979689958226d6ce20373b30d0169e64fbee6fb58c902850a28db"), looks := true }, kinds := [], alts := [], laidByText := true, laidKinds := [.data, .data, .data, .sentinel, .sentinel, .widerDeep, .widerDeep], laidTests := true, laidLooks := .later }
def DispatchExamplesUptoCardSaid : Prop := Claim7.holds Tryz.pinned (.plain (OpenSpec.upto dispatchExamplesSpec)) dispatchExamplesUptoCard
end Rows
end Go.Proofs.YtmclhadhncbdhaaGreatDoor
