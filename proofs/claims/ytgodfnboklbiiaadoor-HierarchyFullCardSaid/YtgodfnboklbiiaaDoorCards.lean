/-
  DERIVED. GIVEN WITH THE SEED: THE CARDS: each row of YtgodfnboklbiiaaDoorRows.lean that lists a variable, with what it lists TIED to the program's text (the seventh form; the later family's looks); each row that meets fmt, with fmt's text TOLD by the authors' own Lean function (tested against real Go, not proved from fmt's source: count such statements apart). THE CARD IS WHAT COUNTS. Prove the row's statement (the work); the ties are given (YtgodfnboklbiiaaDoorTie.lean); close each card by the builder's one call (the guide's Derived/Test/ToyasCard.lean, 'card_holds'). Laid BY PROGRAM, IN A SANDBOX (cutbox-door.mjs). By AI agents, Wed Nov 11 2026. No macro, syntax, notation, axiom, sorry.
-/
import Derived.Test.YtgodfnboklbiiaaDoorRows
import GoSem.ClaimSeven
namespace Go.Proofs.YtgodfnboklbiiaaDoor
namespace Rows

/-- THE TIED CARD OF 'tellaw3.HierarchyFull'. -/
def hierarchyFullCard : Claim7 := { stood := { row := hierarchyFullRow, standIns := [], harness := (true, "049a32eebf49d32d47fa9088d87700ea16f032b75b2f0aea64486814f9203373"), looks := false }, kinds := [], alts := [], laidByText := true, laidKinds := [.widerDeep, .widerDeep], laidTests := true, laidLooks := .later }
def HierarchyFullCardSaid : Prop := Claim7.holds Tryd.pinned (.plain (OpenSpec.ofChange hierarchyFullSpec)) hierarchyFullCard

/-- THE SECOND FORM's CARD OF 'tellaw3.HierarchyFull'. -/
def hierarchyFullUptoCard : Claim7 := { stood := { row := hierarchyFullUptoRow, standIns := [], harness := (true, "049a32eebf49d32d47fa9088d87700ea16f032b75b2f0aea64486814f9203373"), looks := false }, kinds := [], alts := [], laidByText := true, laidKinds := [.widerDeep, .widerDeep], laidTests := true, laidLooks := .later }
def HierarchyFullUptoCardSaid : Prop := Claim7.holds Tryd.pinned (.plain (OpenSpec.upto hierarchyFullSpec)) hierarchyFullUptoCard
end Rows
end Go.Proofs.YtgodfnboklbiiaaDoor
