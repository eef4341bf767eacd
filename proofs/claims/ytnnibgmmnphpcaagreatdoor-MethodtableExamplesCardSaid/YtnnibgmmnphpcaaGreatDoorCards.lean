/-
  DERIVED. GIVEN WITH THE SEED: THE CARDS: each row of YtnnibgmmnphpcaaGreatDoorRows.lean that lists a variable, with what it lists TIED to the program's text (the seventh form; the later family's looks); each row that meets fmt, with fmt's text TOLD by the authors' own Lean function (tested against real Go, not proved from fmt's source: count such statements apart). THE CARD IS WHAT COUNTS. Prove the row's statement (the work); the ties are given (YtnnibgmmnphpcaaGreatDoorTie.lean); close each card by the builder's one call (the guide's Derived/Test/ToyasCard.lean, 'card_holds'). Laid BY PROGRAM, IN A SANDBOX (cutbox-door.mjs). By AI agents, Wed Nov 11 2026. No macro, syntax, notation, axiom, sorry.
-/
import Derived.Test.YtnnibgmmnphpcaaGreatDoorRows
import GoSem.ClaimSeven
namespace Go.Proofs.YtnnibgmmnphpcaaGreatDoor
namespace Rows

/-- THE TIED CARD OF 'tellaw14.MethodtableExamples'. -/
def methodtableExamplesCard : Claim7 := { stood := { row := methodtableExamplesRow, standIns := [], harness := (true, "ef6f55cd04d7303ead6b466ec776b2cc09e502a01456851f51af382909f4c16f"), looks := true }, kinds := [], alts := [], laidByText := true, laidKinds := [.data, .data, .data, .sentinel, .sentinel, .widerDeep, .widerDeep], laidTests := true, laidLooks := .later }
def MethodtableExamplesCardSaid : Prop := Claim7.holds Tryz.pinned (.plain (OpenSpec.ofChange methodtableExamplesSpec)) methodtableExamplesCard

/-- THE SECOND FORM's CARD OF 'tellaw14.MethodtableExamples'. -/
def methodtableExamplesUptoCard : Claim7 := { stood := { row := methodtableExamplesUptoRow, standIns := [], harness := (true, "ef6f55cd04d7303ead6b466ec776b2cc09e502a01456851f51af382909f4c16f"), looks := true }, kinds := [], alts := [], laidByText := true, laidKinds := [.data, .data, .data, .sentinel, .sentinel, .widerDeep, .widerDeep], laidTests := true, laidLooks := .later }
def MethodtableExamplesUptoCardSaid : Prop := Claim7.holds Tryz.pinned (.plain (OpenSpec.upto methodtableExamplesSpec)) methodtableExamplesUptoCard
end Rows
end Go.Proofs.YtnnibgmmnphpcaaGreatDoor
