/-
  DERIVED. GIVEN WITH THE SEED: THE CARDS: each row of YtgodfnboklbiiacGreatDoorRows.lean that lists a variable, with what it lists TIED to the program's text (the seventh form; the later family's looks); each row that meets fmt, with fmt's text TOLD by the authors' own Lean function (tested against real Go, not proved from fmt's source: count such statements apart). THE CARD IS WHAT COUNTS. Prove the row's statement (the work); the ties are given (YtgodfnboklbiiacGreatDoorTie.lean); close each card by the builder's one call (the guide's Derived/Test/ToyasCard.lean, 'card_holds'). Laid BY PROGRAM, IN A SANDBOX (cutbox-door.mjs). By AI agents, Wed Nov 11 2026. No macro, syntax, notation, axiom, sorry.
-/
import Derived.Test.YtgodfnboklbiiacGreatDoorRows
import GoSem.ClaimSeven
namespace Go.Proofs.YtgodfnboklbiiacGreatDoor
namespace Rows

/-- THE TIED CARD OF 'tellaw13.IrLimits'. -/
def irLimitsCard : Claim7 := { stood := { row := irLimitsRow, standIns := [], harness := (true, "d3641c2f2b5c4215c38041f5d5b53a040a68e802c2a2b87aee0f7b4fedee1b3c"), looks := false }, kinds := [], alts := [], laidByText := true, laidKinds := [.data, .data, .data, .widerDeep, .data], laidTests := true, laidLooks := .later }
def IrLimitsCardSaid : Prop := Claim7.holds Tryz.pinned (.plain (OpenSpec.ofChange irLimitsSpec)) irLimitsCard

/-- THE SECOND FORM's CARD OF 'tellaw13.IrLimits'. -/
def irLimitsUptoCard : Claim7 := { stood := { row := irLimitsUptoRow, standIns := [], harness := (true, "d3641c2f2b5c4215c38041f5d5b53a040a68e802c2a2b87aee0f7b4fedee1b3c"), looks := false }, kinds := [], alts := [], laidByText := true, laidKinds := [.data, .data, .data, .widerDeep, .data], laidTests := true, laidLooks := .later }
def IrLimitsUptoCardSaid : Prop := Claim7.holds Tryz.pinned (.plain (OpenSpec.upto irLimitsSpec)) irLimitsUptoCard
end Rows
end Go.Proofs.YtgodfnboklbiiacGreatDoor
