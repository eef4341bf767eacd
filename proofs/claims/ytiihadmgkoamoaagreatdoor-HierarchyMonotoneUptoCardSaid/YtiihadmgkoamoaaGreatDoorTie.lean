/-
  DERIVED. GIVEN WITH THE SEED: THE PROGRAM's TIES (one call each: nine closed facts by the kernel) AND EACH ROW's TIE, after the 31st guide's Derived/Test/Toyas{Tie, Card}.lean. No idea stands in it: it is a product of the set-up. Laid BY PROGRAM, IN A SANDBOX (cutbox-door.mjs). By AI agents, Wed Nov 11 2026. No macro, syntax, notation, axiom, sorry.
-/
import Derived.Test.YtiihadmgkoamoaaGreatDoorRows
import Derived.LaidByTextLater
import Derived.SevenTiedAt
import Derived.LaidSub
import Derived.LaidOnce
namespace Go.Proofs.YtiihadmgkoamoaaGreatDoor
open Go
set_option maxRecDepth 100000
theorem seatTie1 : Tryz.prog.laidByTextLater [("math/bits.deBruijn32tab", Rows.laid_math_bits_deBruijn32tab), ("math/bits.deBruijn64tab", Rows.laid_math_bits_deBruijn64tab), ("internal/strconv.uint64pow10", Rows.laid_internal_strconv_uint64pow10), ("telpher/typeterm.reserved", Rows.laid_telpher_typeterm_reserved), ("telpher/hierarchy.reserved", Rows.laid_telpher_hierarchy_reserved), ("telpher/telmake.extraNames", Rows.laid_telpher_telmake_extraNames), ("telpher/telmake.leafNames", Rows.laid_telpher_telmake_leafNames)] [.data, .data, .data, .widerDeep, .widerDeep, .data, .data] true :=
  Program.laidByTextLater_by_one 44 8 65 (by kernel_rfl) (by kernel_rfl) (by kernel_rfl) (by kernel_rfl) (by kernel_rfl) (by kernel_rfl) (fun _ _ => by kernel_rfl)
theorem noOwnUnsafe : Tryz.pinned.checked.prog.headLifts.contains "ownunsafe" = false := by kernel_rfl
theorem tie : Tryz.prog.laidByTextLater [("telpher/typeterm.reserved", Rows.laid_telpher_typeterm_reserved), ("telpher/hierarchy.reserved", Rows.laid_telpher_hierarchy_reserved), ("telpher/telmake.extraNames", Rows.laid_telpher_telmake_extraNames), ("telpher/telmake.leafNames", Rows.laid_telpher_telmake_leafNames)] [.widerDeep, .widerDeep, .data, .data] true :=
  Program.laidByTextLater.sub seatTie1 ["telpher/typeterm.reserved", "telpher/hierarchy.reserved", "telpher/telmake.extraNames", "telpher/telmake.leafNames"] (by kernel_rfl) (by kernel_rfl)
theorem hierarchyDeclare_row_tie : Rows.hierarchyDeclareRow.laidByTextAt .later Tryz.pinned [.widerDeep, .widerDeep, .data, .data] true :=
  OpenClaim.laidByTextAt_later rfl rfl tie noOwnUnsafe
theorem hierarchyTree_row_tie : Rows.hierarchyTreeRow.laidByTextAt .later Tryz.pinned [.widerDeep, .widerDeep, .data, .data] true :=
  OpenClaim.laidByTextAt_later rfl rfl tie noOwnUnsafe
theorem hierarchyClone_row_tie : Rows.hierarchyCloneRow.laidByTextAt .later Tryz.pinned [.widerDeep, .widerDeep, .data, .data] true :=
  OpenClaim.laidByTextAt_later rfl rfl tie noOwnUnsafe
theorem hierarchySupertype_row_tie : Rows.hierarchySupertypeRow.laidByTextAt .later Tryz.pinned [.widerDeep, .widerDeep, .data, .data] true :=
  OpenClaim.laidByTextAt_later rfl rfl tie noOwnUnsafe
theorem tie2 : Tryz.prog.laidByTextLater [("math/bits.deBruijn32tab", Rows.laid_math_bits_deBruijn32tab), ("math/bits.deBruijn64tab", Rows.laid_math_bits_deBruijn64tab), ("internal/strconv.uint64pow10", Rows.laid_internal_strconv_uint64pow10), ("telpher/typeterm.reserved", Rows.laid_telpher_typeterm_reserved), ("telpher/hierarchy.reserved", Rows.laid_telpher_hierarchy_reserved), ("telpher/telmake.extraNames", Rows.laid_telpher_telmake_extraNames), ("telpher/telmake.leafNames", Rows.laid_telpher_telmake_leafNames)] [.data, .data, .data, .widerDeep, .widerDeep, .data, .data] true :=
  Program.laidByTextLater.sub seatTie1 ["math/bits.deBruijn32tab", "math/bits.deBruijn64tab", "internal/strconv.uint64pow10", "telpher/typeterm.reserved", "telpher/hierarchy.reserved", "telpher/telmake.extraNames", "telpher/telmake.leafNames"] (by kernel_rfl) (by kernel_rfl)
theorem hierarchyLookup_row_tie : Rows.hierarchyLookupRow.laidByTextAt .later Tryz.pinned [.data, .data, .data, .widerDeep, .widerDeep, .data, .data] true :=
  OpenClaim.laidByTextAt_later rfl rfl tie2 noOwnUnsafe
theorem hierarchyMonotone_row_tie : Rows.hierarchyMonotoneRow.laidByTextAt .later Tryz.pinned [.data, .data, .data, .widerDeep, .widerDeep, .data, .data] true :=
  OpenClaim.laidByTextAt_later rfl rfl tie2 noOwnUnsafe
theorem hierarchyDeclareUpto_row_tie : Rows.hierarchyDeclareUptoRow.laidByTextAt .later Tryz.pinned [.widerDeep, .widerDeep, .data, .data] true :=
  OpenClaim.laidByTextAt_later rfl rfl tie noOwnUnsafe
theorem hierarchyTreeUpto_row_tie : Rows.hierarchyTreeUptoRow.laidByTextAt .later Tryz.pinned [.widerDeep, .widerDeep, .data, .data] true :=
  OpenClaim.laidByTextAt_later rfl rfl tie noOwnUnsafe
theorem hierarchyCloneUpto_row_tie : Rows.hierarchyCloneUptoRow.laidByTextAt .later Tryz.pinned [.widerDeep, .widerDeep, .data, .data] true :=
  OpenClaim.laidByTextAt_later rfl rfl tie noOwnUnsafe
theorem hierarchySupertypeUpto_row_tie : Rows.hierarchySupertypeUptoRow.laidByTextAt .later Tryz.pinned [.widerDeep, .widerDeep, .data, .data] true :=
  OpenClaim.laidByTextAt_later rfl rfl tie noOwnUnsafe
theorem hierarchyLookupUpto_row_tie : Rows.hierarchyLookupUptoRow.laidByTextAt .later Tryz.pinned [.data, .data, .data, .widerDeep, .widerDeep, .data, .data] true :=
  OpenClaim.laidByTextAt_later rfl rfl tie2 noOwnUnsafe
theorem hierarchyMonotoneUpto_row_tie : Rows.hierarchyMonotoneUptoRow.laidByTextAt .later Tryz.pinned [.data, .data, .data, .widerDeep, .widerDeep, .data, .data] true :=
  OpenClaim.laidByTextAt_later rfl rfl tie2 noOwnUnsafe
end Go.Proofs.YtiihadmgkoamoaaGreatDoor
