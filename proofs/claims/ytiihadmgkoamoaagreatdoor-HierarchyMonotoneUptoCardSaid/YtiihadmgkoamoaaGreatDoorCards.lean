/-
  DERIVED. GIVEN WITH THE SEED: THE CARDS: each row of YtiihadmgkoamoaaGreatDoorRows.lean that lists a variable, with what it lists TIED to the program's text (the seventh form; the later family's looks); each row that meets fmt, with fmt's text TOLD by the authors' own Lean function (tested against real Go, not proved from fmt's source: count such statements apart). THE CARD IS WHAT COUNTS. Prove the row's statement (the work); the ties are given (YtiihadmgkoamoaaGreatDoorTie.lean); close each card by the builder's one call (the guide's Derived/Test/ToyasCard.lean, 'card_holds'). Laid BY PROGRAM, IN A SANDBOX (cutbox-door.mjs). By AI agents, Wed Nov 11 2026. No macro, syntax, notation, axiom, sorry.
-/
import Derived.Test.YtiihadmgkoamoaaGreatDoorRows
import GoSem.ClaimSeven
namespace Go.Proofs.YtiihadmgkoamoaaGreatDoor
namespace Rows

/-- THE TIED CARD OF 'tellaw3.HierarchyDeclare'. -/
def hierarchyDeclareCard : Claim7 := { stood := { row := hierarchyDeclareRow, standIns := [], harness := (true, "61c9698ba2e7590fca53ea46a0f8dabbc57a2eb5a337d861df48731f5d3646c5"), looks := true }, kinds := [], alts := [], laidByText := true, laidKinds := [.widerDeep, .widerDeep, .data, .data], laidTests := true, laidLooks := .later }
def HierarchyDeclareCardSaid : Prop := Claim7.holds Tryz.pinned (.plain (OpenSpec.ofChange hierarchyDeclareSpec)) hierarchyDeclareCard

/-- THE TIED CARD OF 'tellaw3.HierarchyTree'. -/
def hierarchyTreeCard : Claim7 := { stood := { row := hierarchyTreeRow, standIns := [], harness := (true, "61c9698ba2e7590fca53ea46a0f8dabbc57a2eb5a337d861df48731f5d3646c5"), looks := true }, kinds := [], alts := [], laidByText := true, laidKinds := [.widerDeep, .widerDeep, .data, .data], laidTests := true, laidLooks := .later }
def HierarchyTreeCardSaid : Prop := Claim7.holds Tryz.pinned (.plain (OpenSpec.ofChange hierarchyTreeSpec)) hierarchyTreeCard

/-- THE TIED CARD OF 'tellaw3.HierarchyClone'. -/
def hierarchyCloneCard : Claim7 := { stood := { row := hierarchyCloneRow, standIns := [], harness := (true, "61c9698ba2e7590fca53ea46a0f8dabbc57a2eb5a337d861df48731f5d3646c5"), looks := true }, kinds := [], alts := [], laidByText := true, laidKinds := [.widerDeep, .widerDeep, .data, .data], laidTests := true, laidLooks := .later }
def HierarchyCloneCardSaid : Prop := Claim7.holds Tryz.pinned (.plain (OpenSpec.ofChange hierarchyCloneSpec)) hierarchyCloneCard

/-- THE TIED CARD OF 'tellaw3.HierarchySupertype'. -/
def hierarchySupertypeCard : Claim7 := { stood := { row := hierarchySupertypeRow, standIns := [], harness := (true, "61c9698ba2e7590fca53ea46a0f8dabbc57a2eb5a337d861df48731f5d3646c5"), looks := true }, kinds := [], alts := [], laidByText := true, laidKinds := [.widerDeep, .widerDeep, .data, .data], laidTests := true, laidLooks := .later }
def HierarchySupertypeCardSaid : Prop := Claim7.holds Tryz.pinned (.plain (OpenSpec.ofChange hierarchySupertypeSpec)) hierarchySupertypeCard

/-- THE TIED CARD OF 'tellaw3.HierarchyLookup'. -/
def hierarchyLookupCard : Claim7 := { stood := { row := hierarchyLookupRow, standIns := [], harness := (true, "61c9698ba2e7590fca53ea46a0f8dabbc57a2eb5a337d861df48731f5d3646c5"), looks := true }, kinds := [], alts := [], laidByText := true, laidKinds := [.data, .data, .data, .widerDeep, .widerDeep, .data, .data], laidTests := true, laidLooks := .later }
def HierarchyLookupCardSaid : Prop := Claim7.holds Tryz.pinned (.plain (OpenSpec.ofChange hierarchyLookupSpec)) hierarchyLookupCard

/-- THE TIED CARD OF 'tellaw3.HierarchyMonotone'. -/
def hierarchyMonotoneCard : Claim7 := { stood := { row := hierarchyMonotoneRow, standIns := [], harness := (true, "61c9698ba2e7590fca53ea46a0f8dabbc57a2eb5a337d861df48731f5d3646c5"), looks := true }, kinds := [], alts := [], laidByText := true, laidKinds := [.data, .data, .data, .widerDeep, .widerDeep, .data, .data], laidTests := true, laidLooks := .later }
def HierarchyMonotoneCardSaid : Prop := Claim7.holds Tryz.pinned (.plain (OpenSpec.ofChange hierarchyMonotoneSpec)) hierarchyMonotoneCard

/-- THE SECOND FORM's CARD OF 'tellaw3.HierarchyDeclare'. -/
def hierarchyDeclareUptoCard : Claim7 := { stood := { row := hierarchyDeclareUptoRow, standIns := [], harness := (true, "61c9698ba2e7590fca53ea46a0f8dabbc57a2eb5a337d861df48731f5d3646c5"), looks := true }, kinds := [], alts := [], laidByText := true, laidKinds := [.widerDeep, .widerDeep, .data, .data], laidTests := true, laidLooks := .later }
def HierarchyDeclareUptoCardSaid : Prop := Claim7.holds Tryz.pinned (.plain (OpenSpec.upto hierarchyDeclareSpec)) hierarchyDeclareUptoCard

/-- THE SECOND FORM's CARD OF 'tellaw3.HierarchyTree'. -/
def hierarchyTreeUptoCard : Claim7 := { stood := { row := hierarchyTreeUptoRow, standIns := [], harness := (true, "61c9698ba2e7590fca53ea46a0f8dabbc57a2eb5a337d861df48731f5d3646c5"), looks := true }, kinds := [], alts := [], laidByText := true, laidKinds := [.widerDeep, .widerDeep, .data, .data], laidTests := true, laidLooks := .later }
def HierarchyTreeUptoCardSaid : Prop := Claim7.holds Tryz.pinned (.plain (OpenSpec.upto hierarchyTreeSpec)) hierarchyTreeUptoCard

/-- THE SECOND FORM's CARD OF 'tellaw3.HierarchyClone'. -/
def hierarchyCloneUptoCard : Claim7 := { stood := { row := hierarchyCloneUptoRow, standIns := [], harness := (true, "61c9698ba2e7590fca53ea46a0f8dabbc57a2eb5a337d861df48731f5d3646c5"), looks := true }, kinds := [], alts := [], laidByText := true, laidKinds := [.widerDeep, .widerDeep, .data, .data], laidTests := true, laidLooks := .later }
def HierarchyCloneUptoCardSaid : Prop := Claim7.holds Tryz.pinned (.plain (OpenSpec.upto hierarchyCloneSpec)) hierarchyCloneUptoCard

/-- THE SECOND FORM's CARD OF 'tellaw3.HierarchySupertype'. -/
def hierarchySupertypeUptoCard : Claim7 := { stood := { row := hierarchySupertypeUptoRow, standIns := [], harness := (true, "61c9698ba2e7590fca53ea46a0f8dabbc57a2eb5a337d861df48731f5d3646c5"), looks := true }, kinds := [], alts := [], laidByText := true, laidKinds := [.widerDeep, .widerDeep, .data, .data], laidTests := true, laidLooks := .later }
def HierarchySupertypeUptoCardSaid : Prop := Claim7.holds Tryz.pinned (.plain (OpenSpec.upto hierarchySupertypeSpec)) hierarchySupertypeUptoCard

/-- THE SECOND FORM's CARD OF 'tellaw3.HierarchyLookup'. -/
def hierarchyLookupUptoCard : Claim7 := { stood := { row := hierarchyLookupUptoRow, standIns := [], harness := (true, "61c9698ba2e7590fca53ea46a0f8dabbc57a2eb5a337d861df48731f5d3646c5"), looks := true }, kinds := [], alts := [], laidByText := true, laidKinds := [.data, .data, .data, .widerDeep, .widerDeep, .data, .data], laidTests := true, laidLooks := .later }
def HierarchyLookupUptoCardSaid : Prop := Claim7.holds Tryz.pinned (.plain (OpenSpec.upto hierarchyLookupSpec)) hierarchyLookupUptoCard

/-- THE SECOND FORM's CARD OF 'tellaw3.HierarchyMonotone'. -/
def hierarchyMonotoneUptoCard : Claim7 := { stood := { row := hierarchyMonotoneUptoRow, standIns := [], harness := (true, "61c9698ba2e7590fca53ea46a0f8dabbc57a2eb5a337d861df48731f5d3646c5"), looks := true }, kinds := [], alts := [], laidByText := true, laidKinds := [.data, .data, .data, .widerDeep, .widerDeep, .data, .data], laidTests := true, laidLooks := .later }
def HierarchyMonotoneUptoCardSaid : Prop := Claim7.holds Tryz.pinned (.plain (OpenSpec.upto hierarchyMonotoneSpec)) hierarchyMonotoneUptoCard
end Rows
end Go.Proofs.YtiihadmgkoamoaaGreatDoor
