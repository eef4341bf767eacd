/-
  DERIVED. GIVEN WITH THE SEED: THE PROGRAM's TIES (one call each: nine closed facts by the kernel) AND EACH ROW's TIE, after the 31st guide's Derived/Test/Toyas{Tie, Card}.lean. No idea stands in it: it is a product of the set-up. Laid BY PROGRAM, IN A SANDBOX (cutbox-door.mjs). By AI agents, Wed Nov 11 2026. No macro, syntax, notation, axiom, sorry.
-/
import Derived.Test.YtmpmgmmcaghacaaGreatDoorRows
import Derived.LaidByTextLater
import Derived.SevenTiedAt
import Derived.LaidSub
import Derived.LaidOnce
namespace Go.Proofs.YtmpmgmmcaghacaaGreatDoor
open Go
set_option maxRecDepth 100000
theorem seatTie1 : Tryz.prog.laidByTextLater [("math/bits.deBruijn32tab", Rows.laid_math_bits_deBruijn32tab), ("math/bits.deBruijn64tab", Rows.laid_math_bits_deBruijn64tab), ("internal/strconv.uint64pow10", Rows.laid_internal_strconv_uint64pow10), ("telpher/typeterm.reserved", Rows.laid_telpher_typeterm_reserved), ("telpher/ir.primitives", Rows.laid_telpher_ir_primitives), ("telpher/telmake.Funcs", Rows.laid_telpher_telmake_Funcs), ("telpher/telmake.fieldNames", Rows.laid_telpher_telmake_fieldNames), ("telpher/telmake.strings", Rows.laid_telpher_telmake_strings), ("telpher/telmake.leafNames", Rows.laid_telpher_telmake_leafNames), ("telpher/telmake.anyNames", Rows.laid_telpher_telmake_anyNames)] [.data, .data, .data, .widerDeep, .data, .data, .data, .data, .data, .data] true :=
  Program.laidByTextLater_by_one 59 8 65 (by kernel_rfl) (by kernel_rfl) (by kernel_rfl) (by kernel_rfl) (by kernel_rfl) (by kernel_rfl) (fun _ _ => by kernel_rfl)
theorem noOwnUnsafe : Tryz.pinned.checked.prog.headLifts.contains "ownunsafe" = false := by kernel_rfl
theorem tie : Tryz.prog.laidByTextLater [("math/bits.deBruijn32tab", Rows.laid_math_bits_deBruijn32tab), ("math/bits.deBruijn64tab", Rows.laid_math_bits_deBruijn64tab), ("internal/strconv.uint64pow10", Rows.laid_internal_strconv_uint64pow10), ("telpher/typeterm.reserved", Rows.laid_telpher_typeterm_reserved), ("telpher/ir.primitives", Rows.laid_telpher_ir_primitives), ("telpher/telmake.Funcs", Rows.laid_telpher_telmake_Funcs), ("telpher/telmake.fieldNames", Rows.laid_telpher_telmake_fieldNames), ("telpher/telmake.strings", Rows.laid_telpher_telmake_strings), ("telpher/telmake.leafNames", Rows.laid_telpher_telmake_leafNames), ("telpher/telmake.anyNames", Rows.laid_telpher_telmake_anyNames)] [.data, .data, .data, .widerDeep, .data, .data, .data, .data, .data, .data] true :=
  Program.laidByTextLater.sub seatTie1 ["math/bits.deBruijn32tab", "math/bits.deBruijn64tab", "internal/strconv.uint64pow10", "telpher/typeterm.reserved", "telpher/ir.primitives", "telpher/telmake.Funcs", "telpher/telmake.fieldNames", "telpher/telmake.strings", "telpher/telmake.leafNames", "telpher/telmake.anyNames"] (by kernel_rfl) (by kernel_rfl)
theorem irValidate_row_tie : Rows.irValidateRow.laidByTextAt .later Tryz.pinned [.data, .data, .data, .widerDeep, .data, .data, .data, .data, .data, .data] true :=
  OpenClaim.laidByTextAt_later rfl rfl tie noOwnUnsafe
theorem irFormat_row_tie : Rows.irFormatRow.laidByTextAt .later Tryz.pinned [.data, .data, .data, .widerDeep, .data, .data, .data, .data, .data, .data] true :=
  OpenClaim.laidByTextAt_later rfl rfl tie noOwnUnsafe
theorem irAnalyses_row_tie : Rows.irAnalysesRow.laidByTextAt .later Tryz.pinned [.data, .data, .data, .widerDeep, .data, .data, .data, .data, .data, .data] true :=
  OpenClaim.laidByTextAt_later rfl rfl tie noOwnUnsafe
theorem tie2 : Tryz.prog.laidByTextLater [("math/bits.deBruijn32tab", Rows.laid_math_bits_deBruijn32tab), ("math/bits.deBruijn64tab", Rows.laid_math_bits_deBruijn64tab), ("internal/strconv.uint64pow10", Rows.laid_internal_strconv_uint64pow10), ("telpher/typeterm.reserved", Rows.laid_telpher_typeterm_reserved), ("telpher/ir.primitives", Rows.laid_telpher_ir_primitives), ("telpher/telmake.Funcs", Rows.laid_telpher_telmake_Funcs), ("telpher/telmake.fieldNames", Rows.laid_telpher_telmake_fieldNames), ("telpher/telmake.strings", Rows.laid_telpher_telmake_strings), ("telpher/telmake.leafNames", Rows.laid_telpher_telmake_leafNames)] [.data, .data, .data, .widerDeep, .data, .data, .data, .data, .data] true :=
  Program.laidByTextLater.sub seatTie1 ["math/bits.deBruijn32tab", "math/bits.deBruijn64tab", "internal/strconv.uint64pow10", "telpher/typeterm.reserved", "telpher/ir.primitives", "telpher/telmake.Funcs", "telpher/telmake.fieldNames", "telpher/telmake.strings", "telpher/telmake.leafNames"] (by kernel_rfl) (by kernel_rfl)
theorem irClosed_row_tie : Rows.irClosedRow.laidByTextAt .later Tryz.pinned [.data, .data, .data, .widerDeep, .data, .data, .data, .data, .data] true :=
  OpenClaim.laidByTextAt_later rfl rfl tie2 noOwnUnsafe
theorem irLive_row_tie : Rows.irLiveRow.laidByTextAt .later Tryz.pinned [.data, .data, .data, .widerDeep, .data, .data, .data, .data, .data] true :=
  OpenClaim.laidByTextAt_later rfl rfl tie2 noOwnUnsafe
theorem tie3 : Tryz.prog.laidByTextLater [("math/bits.deBruijn32tab", Rows.laid_math_bits_deBruijn32tab), ("math/bits.deBruijn64tab", Rows.laid_math_bits_deBruijn64tab), ("internal/strconv.uint64pow10", Rows.laid_internal_strconv_uint64pow10), ("telpher/typeterm.reserved", Rows.laid_telpher_typeterm_reserved), ("telpher/ir.primitives", Rows.laid_telpher_ir_primitives)] [.data, .data, .data, .widerDeep, .data] true :=
  Program.laidByTextLater.sub seatTie1 ["math/bits.deBruijn32tab", "math/bits.deBruijn64tab", "internal/strconv.uint64pow10", "telpher/typeterm.reserved", "telpher/ir.primitives"] (by kernel_rfl) (by kernel_rfl)
theorem irExamples_row_tie : Rows.irExamplesRow.laidByTextAt .later Tryz.pinned [.data, .data, .data, .widerDeep, .data] true :=
  OpenClaim.laidByTextAt_later rfl rfl tie3 noOwnUnsafe
theorem irValidateUpto_row_tie : Rows.irValidateUptoRow.laidByTextAt .later Tryz.pinned [.data, .data, .data, .widerDeep, .data, .data, .data, .data, .data, .data] true :=
  OpenClaim.laidByTextAt_later rfl rfl tie noOwnUnsafe
theorem irClosedUpto_row_tie : Rows.irClosedUptoRow.laidByTextAt .later Tryz.pinned [.data, .data, .data, .widerDeep, .data, .data, .data, .data, .data] true :=
  OpenClaim.laidByTextAt_later rfl rfl tie2 noOwnUnsafe
theorem irFormatUpto_row_tie : Rows.irFormatUptoRow.laidByTextAt .later Tryz.pinned [.data, .data, .data, .widerDeep, .data, .data, .data, .data, .data, .data] true :=
  OpenClaim.laidByTextAt_later rfl rfl tie noOwnUnsafe
theorem irExamplesUpto_row_tie : Rows.irExamplesUptoRow.laidByTextAt .later Tryz.pinned [.data, .data, .data, .widerDeep, .data] true :=
  OpenClaim.laidByTextAt_later rfl rfl tie3 noOwnUnsafe
theorem irLiveUpto_row_tie : Rows.irLiveUptoRow.laidByTextAt .later Tryz.pinned [.data, .data, .data, .widerDeep, .data, .data, .data, .data, .data] true :=
  OpenClaim.laidByTextAt_later rfl rfl tie2 noOwnUnsafe
theorem irAnalysesUpto_row_tie : Rows.irAnalysesUptoRow.laidByTextAt .later Tryz.pinned [.data, .data, .data, .widerDeep, .data, .data, .data, .data, .data, .data] true :=
  OpenClaim.laidByTextAt_later rfl rfl tie noOwnUnsafe
end Go.Proofs.YtmpmgmmcaghacaaGreatDoor
