/-
  DERIVED. GIVEN WITH THE SEED: THE CARDS: each row of YtiopfepnbbepdaaGreatDoorRows.lean that lists a variable, with what it lists TIED to the program's text (the seventh form; the later family's looks); each row that meets fmt, with fmt's text TOLD by the authors' own Lean function (tested against real Go, not proved from fmt's source: count such statements apart). THE CARD IS WHAT COUNTS. Prove the row's statement (the work); the ties are given (YtiopfepnbbepdaaGreatDoorTie.lean); close each card by the builder's one call (the guide's Derived/Test/ToyasCard.lean, 'card_holds'). Laid BY PROGRAM, IN A SANDBOX (cutbox-door.mjs). By AI agents, Wed Nov 11 2026. No macro, syntax, notation, axiom, sorry.
-/
import Derived.Test.YtiopfepnbbepdaaGreatDoorRows
import GoSem.ClaimSeven
namespace Go.Proofs.YtiopfepnbbepdaaGreatDoor
namespace Rows

/-- THE TIED CARD OF 'tellaw3.HierarchyExamples'. -/
def hierarchyExamplesCard : Claim7 := { stood := { row := hierarchyExamplesRow, standIns := [], harness := (true, "e0463fe912f339858aa02a438d17808e672bc5339f9306be508a94b86a5297f4"), looks := false }, kinds := [], alts := [], laidByText := true, laidKinds := [.data, .data, .data, .widerDeep, .widerDeep], laidTests := true, laidLooks := .later }
def HierarchyExamplesCardSaid : Prop := Claim7.holds Tryz.pinned (.plain (OpenSpec.ofChange hierarchyExamplesSpec)) hierarchyExamplesCard

/-- THE SECOND FORM's CARD OF 'tellaw3.HierarchyExamples'. -/
def hierarchyExamplesUptoCard : Claim7 := { stood := { row := hierarchyExamplesUptoRow, standIns := [], harness := (true, "e0463fe912f339858aa02a438d17808e672bc5339f9306be508a94b86a5297f4"), looks := false }, kinds := [], alts := [], laidByText := true, laidKinds := [.data, .data, .data, .widerDeep, .widerDeep], laidTests := true, laidLooks := .later }
def HierarchyExamplesUptoCardSaid : Prop := Claim7.holds Tryz.pinned (.plain (OpenSpec.upto hierarchyExamplesSpec)) hierarchyExamplesUptoCard
end Rows
end Go.Proofs.YtiopfepnbbepdaaGreatDoor
