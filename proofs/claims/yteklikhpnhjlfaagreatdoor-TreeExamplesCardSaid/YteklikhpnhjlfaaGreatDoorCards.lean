/-
  DERIVED. GIVEN WITH THE SEED: THE CARDS: each row of YteklikhpnhjlfaaGreatDoorRows.lean that lists a variable, with what it lists TIED to the program's text (the seventh form; the later family's looks); each row that meets fmt, with fmt's text TOLD by the authors' own Lean function (tested against real Go, not proved from fmt's source: count such statements apart). THE CARD IS WHAT COUNTS. Prove the row's statement (the work); the ties are given (YteklikhpnhjlfaaGreatDoorTie.lean); close each card by the builder's one call (the guide's Derived/Test/ToyasCard.lean, 'card_holds'). Laid BY PROGRAM, IN A SANDBOX (cutbox-door.mjs). By AI agents, Wed Nov 11 2026. No macro, syntax, notation, axiom, sorry.
-/
import Derived.Test.YteklikhpnhjlfaaGreatDoorRows
import GoSem.ClaimSeven
namespace Go.Proofs.YteklikhpnhjlfaaGreatDoor
namespace Rows

/-- THE TIED CARD OF 'tellaw16.TreeExamples'. -/
def treeExamplesCard : Claim7 := { stood := { row := treeExamplesRow, standIns := [], harness := (true, "1ac65434b92d7fb23e5c227f62a52baf5ef05da1fcea80e6844fdb51ba09414d"), looks := true }, kinds := [], alts := [], laidByText := true, laidKinds := [.data, .data, .data, .sentinel, .sentinel, .widerDeep, .widerDeep], laidTests := true, laidLooks := .later }
def TreeExamplesCardSaid : Prop := Claim7.holds Tryz.pinned (.plain (OpenSpec.ofChange treeExamplesSpec)) treeExamplesCard

/-- THE SECOND FORM's CARD OF 'tellaw16.TreeExamples'. -/
def treeExamplesUptoCard : Claim7 := { stood := { row := treeExamplesUptoRow, standIns := [], harness := (true, "1ac65434b92d7fb23e5c227f62a52baf5ef05da1fcea80e6844fdb51ba09414d"), looks := true }, kinds := [], alts := [], laidByText := true, laidKinds := [.data, .data, .data, .sentinel, .sentinel, .widerDeep, .widerDeep], laidTests := true, laidLooks := .later }
def TreeExamplesUptoCardSaid : Prop := Claim7.holds Tryz.pinned (.plain (OpenSpec.upto treeExamplesSpec)) treeExamplesUptoCard
end Rows
end Go.Proofs.YteklikhpnhjlfaaGreatDoor
