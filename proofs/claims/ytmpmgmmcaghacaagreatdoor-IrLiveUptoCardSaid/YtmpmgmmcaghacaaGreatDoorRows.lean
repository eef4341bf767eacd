/-
  NARROWER THAN 'FOR EVERY INPUT', by the rows' own cells (each row's printed sentence says how): IrValidate: laid · IrClosed: laid · IrFormat: laid · IrExamples: laid · IrLive: laid · IrAnalyses: laid.
  DERIVED. THE GIVEN ROWS OF THIS SEAT. 6 by the template 'for every input the law returns true; each argument reads behind the call as it read before'; 0 by the template 'total and deterministic' (their statements: YtmpmgmmcaghacaaGreatDoorTotals.lean).
  GIVEN WITH THE SEED: the statements are not yours to turn. If you find one false, say at which input.
  Laid BY PROGRAM, IN A SANDBOX (cutbox-rows.mjs): the forced cells as the released guide's own fill.sh prints them over the translation 70c18beb083aef94… (all of the seat's roots in one cut). By AI agents, Wed Nov 11 2026. No macro, syntax, notation, axiom, sorry.
-/
import Derived.Test.YtmpmgmmcaghacaaGreatDoorChecked
import GoSem.Claim
import GoSem.ClaimJoined
import GoSem.ClaimMapViews
import Derived.JoinedTies
import Derived.KernelRfl
namespace Go.Proofs.YtmpmgmmcaghacaaGreatDoor
/- THE CELL 'sum', in the pinned program and in every row, IS THE sha256 OF THE DUMP (.gsa) THAT YtmpmgmmcaghacaaGreatDoorProg.lean LOADS. Nothing in Lean hashes anything: it is a label: what it is worth is what the hold of that sum in a sandbox is worth. -/
noncomputable def Tryz.pinned : Pinned := { name := "ytmpmgmmcaghacaagreatdoor", sum := "70c18beb083aef94bf7829db355e86f2e98cbe5c4731ff92893284a99b0c2487", checked := Tryz.checked }
namespace Rows
def none {H : Type} : Left H := { results := [], args := [] }

/- WHAT THE LISTED PACKAGE-LEVEL VARIABLES READ AS WHEN THE CALL BEGINS. Each datum BY PROGRAM (the guide's laid-datum.mjs) off the statement by which the dump's own 'gosem.cut.vars' lays the variable. In a bare row this is a premise. The card (YtmpmgmmcaghacaaGreatDoorCards.lean) ties it to the program's text. -/
def laid_math_bits_deBruijn32tab {H : Type} : DataW H := .agg [.lit (.int .u8 0), .lit (.int .u8 1), .lit (.int .u8 28), .lit (.int .u8 2), .lit (.int .u8 29), .lit (.int .u8 14), .lit (.int .u8 24), .lit (.int .u8 3), .lit (.int .u8 30), .lit (.int .u8 22), .lit (.int .u8 20), .lit (.int .u8 15), .lit (.int .u8 25), .lit (.int .u8 17), .lit (.int .u8 4), .lit (.int .u8 8), .lit (.int .u8 31), .lit (.int .u8 27), .lit (.int .u8 13), .lit (.int .u8 23), .lit (.int .u8 21), .lit (.int .u8 19), .lit (.int .u8 16), .lit (.int .u8 7), .lit (.int .u8 26), .lit (.int .u8 12), .lit (.int .u8 18), .lit (.int .u8 6), .lit (.int .u8 11), .lit (.int .u8 5), .lit (.int .u8 10), .lit (.int .u8 9)]
def laid_math_bits_deBruijn64tab {H : Type} : DataW H := .agg [.lit (.int .u8 0), .lit (.int .u8 1), .lit (.int .u8 56), .lit (.int .u8 2), .lit (.int .u8 57), .lit (.int .u8 49), .lit (.int .u8 28), .lit (.int .u8 3), .lit (.int .u8 61), .lit (.int .u8 58), .lit (.int .u8 42), .lit (.int .u8 50), .lit (.int .u8 38), .lit (.int .u8 29), .lit (.int .u8 17), .lit (.int .u8 4), .lit (.int .u8 62), .lit (.int .u8 47), .lit (.int .u8 59), .lit (.int .u8 36), .lit (.int .u8 45), .lit (.int .u8 43), .lit (.int .u8 51), .lit (.int .u8 22), .lit (.int .u8 53), .lit (.int .u8 39), .lit (.int .u8 33), .lit (.int .u8 30), .lit (.int .u8 24), .lit (.int .u8 18), .lit (.int .u8 12), .lit (.int .u8 5), .lit (.int .u8 63), .lit (.int .u8 55), .lit (.int .u8 48), .lit (.int .u8 27), .lit (.int .u8 60), .lit (.int .u8 41), .lit (.int .u8 37), .lit (.int .u8 16), .lit (.int .u8 46), .lit (.int .u8 35), .lit (.int .u8 44), .lit (.int .u8 21), .lit (.int .u8 52), .lit (.int .u8 32), .lit (.int .u8 23), .lit (.int .u8 11), .lit (.int .u8 54), .lit (.int .u8 26), .lit (.int .u8 40), .lit (.int .u8 15), .lit (.int .u8 34), .lit (.int .u8 20), .lit (.int .u8 31), .lit (.int .u8 10), .lit (.int .u8 25), .lit (.int .u8 14), .lit (.int .u8 19), .lit (.int .u8 9), .lit (.int .u8 13), .lit (.int .u8 8), .lit (.int .u8 7), .lit (.int .u8 6)]
def laid_internal_strconv_uint64pow10 {H : Type} : DataW H := .agg [.lit (.int .u64 1), .lit (.int .u64 10), .lit (.int .u64 100), .lit (.int .u64 1000), .lit (.int .u64 10000), .lit (.int .u64 100000), .lit (.int .u64 1000000), .lit (.int .u64 10000000), .lit (.int .u64 100000000), .lit (.int .u64 1000000000), .lit (.int .u64 10000000000), .lit (.int .u64 100000000000), .lit (.int .u64 1000000000000), .lit (.int .u64 10000000000000), .lit (.int .u64 100000000000000), .lit (.int .u64 1000000000000000), .lit (.int .u64 10000000000000000), .lit (.int .u64 100000000000000000), .lit (.int .u64 1000000000000000000), .lit (.int .u64 10000000000000000000)]
def laid_telpher_typeterm_reserved {H : Type} : DataW H := .slice [.lit (.string [65, 110, 121]), .lit (.string [78, 101, 118, 101, 114]), .lit (.string [116, 117, 112, 108, 101]), .lit (.string [117, 110, 105, 111, 110]), .lit (.string [101, 120, 105, 115, 116, 115])] []
def laid_telpher_ir_primitives {H : Type} : DataW H := .slice [.lit (.string []), .lit (.string [97, 100, 100]), .lit (.string [115, 117, 98]), .lit (.string [109, 117, 108]), .lit (.string [108, 101, 115, 115]), .lit (.string [110, 111, 116]), .lit (.string [99, 111, 110, 99, 97, 116]), .lit (.string [115, 97, 109, 101])] []
def laid_telpher_telmake_Funcs {H : Type} : DataW H := .slice [.lit (.string [102]), .lit (.string [103]), .lit (.string [104])] []
def laid_telpher_telmake_fieldNames {H : Type} : DataW H := .slice [.lit (.string [105, 116, 101, 109]), .lit (.string [114, 97, 100, 105, 117, 115]), .lit (.string [102, 105, 114, 115, 116]), .lit (.string [105, 110, 110, 101, 114]), .lit (.string [112, 97, 114, 116]), .lit (.string [110, 111, 110, 101])] []
def laid_telpher_telmake_strings {H : Type} : DataW H := .slice [.lit (.string []), .lit (.string [97, 32, 98]), .lit (.string [113, 117, 111, 116, 101, 32, 34, 32, 97, 110, 100, 32, 92]), .lit (.string [126]), .lit (.string [40, 110, 111, 116, 32, 97, 32, 108, 105, 115, 116, 41]), .lit (.string [59, 32, 110, 111, 32, 99, 111, 109, 109, 101, 110, 116])] []
def laid_telpher_telmake_leafNames {H : Type} : DataW H := .slice [.lit (.string [73, 110, 116]), .lit (.string [66, 111, 111, 108]), .lit (.string [83, 116, 114, 105, 110, 103]), .lit (.string [78, 105, 108])] []
def laid_telpher_telmake_anyNames {H : Type} : DataW H := .slice [.lit (.string [66, 111, 120]), .lit (.string [73, 110, 116]), .lit (.string [80, 97, 105, 114]), .lit (.string [65]), .lit (.string [120, 95, 49]), .lit (.string []), .lit (.string [116, 117, 112, 108, 101]), .lit (.string [65, 110, 121]), .lit (.string [49, 120]), .lit (.string [97, 45, 98]), .lit (.string [97, 98, 99, 100, 101, 102, 103, 104, 105, 106, 107, 108, 109, 110, 111, 112, 113, 114, 115, 116, 117, 118, 119, 120, 121])] []

/-- 'tellaw13.IrValidate': WHATEVER THE INPUT: true; the input reads as it did. -/
def irValidateSpec : ChangeSpec := { name := "irValidate", fn := fun _ => fun
  | [d1, d2] => { results := [.lit (.bool true)], args := [d1, d2] }
  | _ => none }
def irValidateRow : OpenClaim := { program := "ytmpmgmmcaghacaagreatdoor", sum := "70c18beb083aef94bf7829db355e86f2e98cbe5c4731ff92893284a99b0c2487", func := "telpher/tellaw13.IrValidate", spec := "irValidate", inPlace := ["slices.overlaps[int]", "internal/abi.NoEscape", "internal/bytealg.MakeNoZero"], unfollowed := true, recurses := true, named := ["telpher/telmake.Funcs", "telpher/telmake.leafNames", "telpher/telmake.fieldNames", "telpher/telmake.strings", "telpher/telmake.anyNames", "telpher/typeterm.reserved", "internal/strconv.uint64pow10", "math/bits.deBruijn32tab", "math/bits.deBruijn64tab", "telpher/ir.primitives"], apart := false, laid := [("math/bits.deBruijn32tab", laid_math_bits_deBruijn32tab), ("math/bits.deBruijn64tab", laid_math_bits_deBruijn64tab), ("internal/strconv.uint64pow10", laid_internal_strconv_uint64pow10), ("telpher/typeterm.reserved", laid_telpher_typeterm_reserved), ("telpher/ir.primitives", laid_telpher_ir_primitives), ("telpher/telmake.Funcs", laid_telpher_telmake_Funcs), ("telpher/telmake.fieldNames", laid_telpher_telmake_fieldNames), ("telpher/telmake.strings", laid_telpher_telmake_strings), ("telpher/telmake.leafNames", laid_telpher_telmake_leafNames), ("telpher/telmake.anyNames", laid_telpher_telmake_anyNames)] }
def IrValidateSaid : Prop := irValidateRow.holds Tryz.pinned (OpenSpec.ofChange irValidateSpec)

/-- ITS FALSE NEIGHBOUR: 'it returns false'. Refute it at one input. -/
def irValidateWrong : ChangeSpec := { name := "irValidate", fn := fun _ => fun
  | [d1, d2] => { results := [.lit (.bool false)], args := [d1, d2] }
  | _ => none }
def IrValidateWrongFalsely : Prop := irValidateRow.holds Tryz.pinned (OpenSpec.ofChange irValidateWrong)

/-- 'tellaw13.IrClosed': WHATEVER THE INPUT: true; the input reads as it did. -/
def irClosedSpec : ChangeSpec := { name := "irClosed", fn := fun _ => fun
  | [d] => { results := [.lit (.bool true)], args := [d] }
  | _ => none }
def irClosedRow : OpenClaim := { program := "ytmpmgmmcaghacaagreatdoor", sum := "70c18beb083aef94bf7829db355e86f2e98cbe5c4731ff92893284a99b0c2487", func := "telpher/tellaw13.IrClosed", spec := "irClosed", inPlace := ["slices.overlaps[int]", "internal/abi.NoEscape", "internal/bytealg.MakeNoZero"], unfollowed := true, recurses := true, named := ["telpher/telmake.Funcs", "telpher/telmake.leafNames", "telpher/telmake.fieldNames", "telpher/telmake.strings", "telpher/typeterm.reserved", "internal/strconv.uint64pow10", "math/bits.deBruijn32tab", "math/bits.deBruijn64tab", "telpher/ir.primitives"], apart := false, laid := [("math/bits.deBruijn32tab", laid_math_bits_deBruijn32tab), ("math/bits.deBruijn64tab", laid_math_bits_deBruijn64tab), ("internal/strconv.uint64pow10", laid_internal_strconv_uint64pow10), ("telpher/typeterm.reserved", laid_telpher_typeterm_reserved), ("telpher/ir.primitives", laid_telpher_ir_primitives), ("telpher/telmake.Funcs", laid_telpher_telmake_Funcs), ("telpher/telmake.fieldNames", laid_telpher_telmake_fieldNames), ("telpher/telmake.strings", laid_telpher_telmake_strings), ("telpher/telmake.leafNames", laid_telpher_telmake_leafNames)] }
def IrClosedSaid : Prop := irClosedRow.holds Tryz.pinned (OpenSpec.ofChange irClosedSpec)

/-- ITS FALSE NEIGHBOUR: 'it returns false'. Refute it at one input. -/
def irClosedWrong : ChangeSpec := { name := "irClosed", fn := fun _ => fun
  | [d] => { results := [.lit (.bool false)], args := [d] }
  | _ => none }
def IrClosedWrongFalsely : Prop := irClosedRow.holds Tryz.pinned (OpenSpec.ofChange irClosedWrong)

/-- 'tellaw13.IrFormat': WHATEVER THE INPUT: true; the input reads as it did. -/
def irFormatSpec : ChangeSpec := { name := "irFormat", fn := fun _ => fun
  | [d1, d2] => { results := [.lit (.bool true)], args := [d1, d2] }
  | _ => none }
def irFormatRow : OpenClaim := { program := "ytmpmgmmcaghacaagreatdoor", sum := "70c18beb083aef94bf7829db355e86f2e98cbe5c4731ff92893284a99b0c2487", func := "telpher/tellaw13.IrFormat", spec := "irFormat", inPlace := ["slices.overlaps[int]", "internal/abi.NoEscape", "internal/bytealg.MakeNoZero"], unfollowed := true, recurses := true, named := ["telpher/telmake.Funcs", "telpher/telmake.leafNames", "telpher/telmake.fieldNames", "telpher/telmake.strings", "telpher/telmake.anyNames", "telpher/typeterm.reserved", "internal/strconv.uint64pow10", "math/bits.deBruijn32tab", "math/bits.deBruijn64tab", "telpher/ir.primitives"], apart := false, laid := [("math/bits.deBruijn32tab", laid_math_bits_deBruijn32tab), ("math/bits.deBruijn64tab", laid_math_bits_deBruijn64tab), ("internal/strconv.uint64pow10", laid_internal_strconv_uint64pow10), ("telpher/typeterm.reserved", laid_telpher_typeterm_reserved), ("telpher/ir.primitives", laid_telpher_ir_primitives), ("telpher/telmake.Funcs", laid_telpher_telmake_Funcs), ("telpher/telmake.fieldNames", laid_telpher_telmake_fieldNames), ("telpher/telmake.strings", laid_telpher_telmake_strings), ("telpher/telmake.leafNames", laid_telpher_telmake_leafNames), ("telpher/telmake.anyNames", laid_telpher_telmake_anyNames)] }
def IrFormatSaid : Prop := irFormatRow.holds Tryz.pinned (OpenSpec.ofChange irFormatSpec)

/-- ITS FALSE NEIGHBOUR: 'it returns false'. Refute it at one input. -/
def irFormatWrong : ChangeSpec := { name := "irFormat", fn := fun _ => fun
  | [d1, d2] => { results := [.lit (.bool false)], args := [d1, d2] }
  | _ => none }
def IrFormatWrongFalsely : Prop := irFormatRow.holds Tryz.pinned (OpenSpec.ofChange irFormatWrong)

/-- 'tellaw13.IrExamples': WHATEVER THE INPUT: true; the input reads as it did. -/
def irExamplesSpec : ChangeSpec := { name := "irExamples", fn := fun _ => fun
  | [] => { results := [.lit (.bool true)], args := [] }
  | _ => none }
def irExamplesRow : OpenClaim := { program := "ytmpmgmmcaghacaagreatdoor", sum := "70c18beb083aef94bf7829db355e86f2e98cbe5c4731ff92893284a99b0c2487", func := "telpher/tellaw13.IrExamples", spec := "irExamples", inPlace := ["slices.overlaps[int]", "internal/abi.NoEscape", "internal/bytealg.MakeNoZero"], unfollowed := true, recurses := true, named := ["telpher/typeterm.reserved", "internal/strconv.uint64pow10", "math/bits.deBruijn32tab", "math/bits.deBruijn64tab", "telpher/ir.primitives"], apart := false, laid := [("math/bits.deBruijn32tab", laid_math_bits_deBruijn32tab), ("math/bits.deBruijn64tab", laid_math_bits_deBruijn64tab), ("internal/strconv.uint64pow10", laid_internal_strconv_uint64pow10), ("telpher/typeterm.reserved", laid_telpher_typeterm_reserved), ("telpher/ir.primitives", laid_telpher_ir_primitives)] }
def IrExamplesSaid : Prop := irExamplesRow.holds Tryz.pinned (OpenSpec.ofChange irExamplesSpec)

/-- ITS FALSE NEIGHBOUR: 'it returns false'. Refute it at one input. -/
def irExamplesWrong : ChangeSpec := { name := "irExamples", fn := fun _ => fun
  | [] => { results := [.lit (.bool false)], args := [] }
  | _ => none }
def IrExamplesWrongFalsely : Prop := irExamplesRow.holds Tryz.pinned (OpenSpec.ofChange irExamplesWrong)

/-- 'tellaw13.IrLive': WHATEVER THE INPUT: true; the input reads as it did. -/
def irLiveSpec : ChangeSpec := { name := "irLive", fn := fun _ => fun
  | [d] => { results := [.lit (.bool true)], args := [d] }
  | _ => none }
def irLiveRow : OpenClaim := { program := "ytmpmgmmcaghacaagreatdoor", sum := "70c18beb083aef94bf7829db355e86f2e98cbe5c4731ff92893284a99b0c2487", func := "telpher/tellaw13.IrLive", spec := "irLive", inPlace := ["slices.overlaps[int]", "internal/abi.NoEscape", "internal/bytealg.MakeNoZero"], unfollowed := true, recurses := true, named := ["telpher/telmake.Funcs", "telpher/telmake.leafNames", "telpher/telmake.fieldNames", "telpher/telmake.strings", "telpher/typeterm.reserved", "internal/strconv.uint64pow10", "math/bits.deBruijn32tab", "math/bits.deBruijn64tab", "telpher/ir.primitives"], apart := false, laid := [("math/bits.deBruijn32tab", laid_math_bits_deBruijn32tab), ("math/bits.deBruijn64tab", laid_math_bits_deBruijn64tab), ("internal/strconv.uint64pow10", laid_internal_strconv_uint64pow10), ("telpher/typeterm.reserved", laid_telpher_typeterm_reserved), ("telpher/ir.primitives", laid_telpher_ir_primitives), ("telpher/telmake.Funcs", laid_telpher_telmake_Funcs), ("telpher/telmake.fieldNames", laid_telpher_telmake_fieldNames), ("telpher/telmake.strings", laid_telpher_telmake_strings), ("telpher/telmake.leafNames", laid_telpher_telmake_leafNames)] }
def IrLiveSaid : Prop := irLiveRow.holds Tryz.pinned (OpenSpec.ofChange irLiveSpec)

/-- ITS FALSE NEIGHBOUR: 'it returns false'. Refute it at one input. -/
def irLiveWrong : ChangeSpec := { name := "irLive", fn := fun _ => fun
  | [d] => { results := [.lit (.bool false)], args := [d] }
  | _ => none }
def IrLiveWrongFalsely : Prop := irLiveRow.holds Tryz.pinned (OpenSpec.ofChange irLiveWrong)

/-- 'tellaw13.IrAnalyses': WHATEVER THE INPUT: true; the input reads as it did. -/
def irAnalysesSpec : ChangeSpec := { name := "irAnalyses", fn := fun _ => fun
  | [d1, d2, d3] => { results := [.lit (.bool true)], args := [d1, d2, d3] }
  | _ => none }
def irAnalysesRow : OpenClaim := { program := "ytmpmgmmcaghacaagreatdoor", sum := "70c18beb083aef94bf7829db355e86f2e98cbe5c4731ff92893284a99b0c2487", func := "telpher/tellaw13.IrAnalyses", spec := "irAnalyses", inPlace := ["slices.overlaps[int]", "internal/abi.NoEscape", "internal/bytealg.MakeNoZero"], unfollowed := true, recurses := true, named := ["telpher/telmake.Funcs", "telpher/telmake.leafNames", "telpher/telmake.fieldNames", "telpher/telmake.strings", "telpher/telmake.anyNames", "telpher/typeterm.reserved", "internal/strconv.uint64pow10", "math/bits.deBruijn32tab", "math/bits.deBruijn64tab", "telpher/ir.primitives"], apart := false, laid := [("math/bits.deBruijn32tab", laid_math_bits_deBruijn32tab), ("math/bits.deBruijn64tab", laid_math_bits_deBruijn64tab), ("internal/strconv.uint64pow10", laid_internal_strconv_uint64pow10), ("telpher/typeterm.reserved", laid_telpher_typeterm_reserved), ("telpher/ir.primitives", laid_telpher_ir_primitives), ("telpher/telmake.Funcs", laid_telpher_telmake_Funcs), ("telpher/telmake.fieldNames", laid_telpher_telmake_fieldNames), ("telpher/telmake.strings", laid_telpher_telmake_strings), ("telpher/telmake.leafNames", laid_telpher_telmake_leafNames), ("telpher/telmake.anyNames", laid_telpher_telmake_anyNames)] }
def IrAnalysesSaid : Prop := irAnalysesRow.holds Tryz.pinned (OpenSpec.ofChange irAnalysesSpec)

/-- ITS FALSE NEIGHBOUR: 'it returns false'. Refute it at one input. -/
def irAnalysesWrong : ChangeSpec := { name := "irAnalyses", fn := fun _ => fun
  | [d1, d2, d3] => { results := [.lit (.bool false)], args := [d1, d2, d3] }
  | _ => none }
def IrAnalysesWrongFalsely : Prop := irAnalysesRow.holds Tryz.pinned (OpenSpec.ofChange irAnalysesWrong)

/- THE SECOND FORM. 'bulk': how many values and letters a reading holds, each counted each time it is reached (what is shared counts as often as it is met; a slice's spare places count too). A statement '..UptoSaid' is the law's where the arguments, and the package variables that the reading takes, are together of bulk at most 1048576: NARROWER than '..Said'. Prove '..Said' where nothing that the law and all that it calls make is longer than what came in: it says more and counts as full. Else prove '..UptoSaid'. A law counts once. -/
mutual
def uptoBulk {H : Type} : DataW H → Nat
  | .lit (.string bytes) => bytes.length + 1
  | .lit _ => 1
  | .nil => 1
  | .ptr d => uptoBulk d + 1
  | .slice elems spare => uptoBulkAll elems + uptoBulkAll spare + 1
  | .agg parts => uptoBulkAll parts + 1
  | .iface _ d => uptoBulk d + 1
  | .map entries => uptoBulkEntries entries + 1
  | .held _ => 1
def uptoBulkAll {H : Type} : List (DataW H) → Nat
  | [] => 0
  | d :: r => uptoBulk d + uptoBulkAll r
def uptoBulkEntries {H : Type} : List (Lit × DataW H) → Nat
  | [] => 0
  | x :: r => uptoBulkEntry x + uptoBulkEntries r
def uptoBulkEntry {H : Type} : Lit × DataW H → Nat
  | (.string bytes, d) => bytes.length + uptoBulk d + 1
  | (_, d) => uptoBulk d + 1
 end
def uptoSmall : (H : Type) → List (DataW H) → Bool := fun _ ds => decide (uptoBulkAll ds ≤ 1048576)
def OpenSpec.upto (s : _root_.Go.ChangeSpec) : _root_.Go.OpenSpec := { _root_.Go.OpenSpec.ofChange s with cond := some uptoSmall }

/-- 'tellaw13.IrValidate', WHERE WHAT IT READS IS OF BULK AT MOST 1048576: true; the input reads as it did. -/
def irValidateUptoRow : OpenClaim := { program := "ytmpmgmmcaghacaagreatdoor", sum := "70c18beb083aef94bf7829db355e86f2e98cbe5c4731ff92893284a99b0c2487", func := "telpher/tellaw13.IrValidate", spec := "irValidate", inPlace := ["slices.overlaps[int]", "internal/abi.NoEscape", "internal/bytealg.MakeNoZero"], unfollowed := true, recurses := true, named := ["telpher/telmake.Funcs", "telpher/telmake.leafNames", "telpher/telmake.fieldNames", "telpher/telmake.strings", "telpher/telmake.anyNames", "telpher/typeterm.reserved", "internal/strconv.uint64pow10", "math/bits.deBruijn32tab", "math/bits.deBruijn64tab", "telpher/ir.primitives"], apart := false, laid := [("math/bits.deBruijn32tab", laid_math_bits_deBruijn32tab), ("math/bits.deBruijn64tab", laid_math_bits_deBruijn64tab), ("internal/strconv.uint64pow10", laid_internal_strconv_uint64pow10), ("telpher/typeterm.reserved", laid_telpher_typeterm_reserved), ("telpher/ir.primitives", laid_telpher_ir_primitives), ("telpher/telmake.Funcs", laid_telpher_telmake_Funcs), ("telpher/telmake.fieldNames", laid_telpher_telmake_fieldNames), ("telpher/telmake.strings", laid_telpher_telmake_strings), ("telpher/telmake.leafNames", laid_telpher_telmake_leafNames), ("telpher/telmake.anyNames", laid_telpher_telmake_anyNames)], narrowed := true }
def IrValidateUptoSaid : Prop := irValidateUptoRow.holds Tryz.pinned (OpenSpec.upto irValidateSpec)

/-- 'tellaw13.IrClosed', WHERE WHAT IT READS IS OF BULK AT MOST 1048576: true; the input reads as it did. -/
def irClosedUptoRow : OpenClaim := { program := "ytmpmgmmcaghacaagreatdoor", sum := "70c18beb083aef94bf7829db355e86f2e98cbe5c4731ff92893284a99b0c2487", func := "telpher/tellaw13.IrClosed", spec := "irClosed", inPlace := ["slices.overlaps[int]", "internal/abi.NoEscape", "internal/bytealg.MakeNoZero"], unfollowed := true, recurses := true, named := ["telpher/telmake.Funcs", "telpher/telmake.leafNames", "telpher/telmake.fieldNames", "telpher/telmake.strings", "telpher/typeterm.reserved", "internal/strconv.uint64pow10", "math/bits.deBruijn32tab", "math/bits.deBruijn64tab", "telpher/ir.primitives"], apart := false, laid := [("math/bits.deBruijn32tab", laid_math_bits_deBruijn32tab), ("math/bits.deBruijn64tab", laid_math_bits_deBruijn64tab), ("internal/strconv.uint64pow10", laid_internal_strconv_uint64pow10), ("telpher/typeterm.reserved", laid_telpher_typeterm_reserved), ("telpher/ir.primitives", laid_telpher_ir_primitives), ("telpher/telmake.Funcs", laid_telpher_telmake_Funcs), ("telpher/telmake.fieldNames", laid_telpher_telmake_fieldNames), ("telpher/telmake.strings", laid_telpher_telmake_strings), ("telpher/telmake.leafNames", laid_telpher_telmake_leafNames)], narrowed := true }
def IrClosedUptoSaid : Prop := irClosedUptoRow.holds Tryz.pinned (OpenSpec.upto irClosedSpec)

/-- 'tellaw13.IrFormat', WHERE WHAT IT READS IS OF BULK AT MOST 1048576: true; the input reads as it did. -/
def irFormatUptoRow : OpenClaim := { program := "ytmpmgmmcaghacaagreatdoor", sum := "70c18beb083aef94bf7829db355e86f2e98cbe5c4731ff92893284a99b0c2487", func := "telpher/tellaw13.IrFormat", spec := "irFormat", inPlace := ["slices.overlaps[int]", "internal/abi.NoEscape", "internal/bytealg.MakeNoZero"], unfollowed := true, recurses := true, named := ["telpher/telmake.Funcs", "telpher/telmake.leafNames", "telpher/telmake.fieldNames", "telpher/telmake.strings", "telpher/telmake.anyNames", "telpher/typeterm.reserved", "internal/strconv.uint64pow10", "math/bits.deBruijn32tab", "math/bits.deBruijn64tab", "telpher/ir.primitives"], apart := false, laid := [("math/bits.deBruijn32tab", laid_math_bits_deBruijn32tab), ("math/bits.deBruijn64tab", laid_math_bits_deBruijn64tab), ("internal/strconv.uint64pow10", laid_internal_strconv_uint64pow10), ("telpher/typeterm.reserved", laid_telpher_typeterm_reserved), ("telpher/ir.primitives", laid_telpher_ir_primitives), ("telpher/telmake.Funcs", laid_telpher_telmake_Funcs), ("telpher/telmake.fieldNames", laid_telpher_telmake_fieldNames), ("telpher/telmake.strings", laid_telpher_telmake_strings), ("telpher/telmake.leafNames", laid_telpher_telmake_leafNames), ("telpher/telmake.anyNames", laid_telpher_telmake_anyNames)], narrowed := true }
def IrFormatUptoSaid : Prop := irFormatUptoRow.holds Tryz.pinned (OpenSpec.upto irFormatSpec)

/-- 'tellaw13.IrExamples', WHERE WHAT IT READS IS OF BULK AT MOST 1048576: true; the input reads as it did. -/
def irExamplesUptoRow : OpenClaim := { program := "ytmpmgmmcaghacaagreatdoor", sum := "70c18beb083aef94bf7829db355e86f2e98cbe5c4731ff92893284a99b0c2487", func := "telpher/tellaw13.IrExamples", spec := "irExamples", inPlace := ["slices.overlaps[int]", "internal/abi.NoEscape", "internal/bytealg.MakeNoZero"], unfollowed := true, recurses := true, named := ["telpher/typeterm.reserved", "internal/strconv.uint64pow10", "math/bits.deBruijn32tab", "math/bits.deBruijn64tab", "telpher/ir.primitives"], apart := false, laid := [("math/bits.deBruijn32tab", laid_math_bits_deBruijn32tab), ("math/bits.deBruijn64tab", laid_math_bits_deBruijn64tab), ("internal/strconv.uint64pow10", laid_internal_strconv_uint64pow10), ("telpher/typeterm.reserved", laid_telpher_typeterm_reserved), ("telpher/ir.primitives", laid_telpher_ir_primitives)], narrowed := true }
def IrExamplesUptoSaid : Prop := irExamplesUptoRow.holds Tryz.pinned (OpenSpec.upto irExamplesSpec)

/-- 'tellaw13.IrLive', WHERE WHAT IT READS IS OF BULK AT MOST 1048576: true; the input reads as it did. -/
def irLiveUptoRow : OpenClaim := { program := "ytmpmgmmcaghacaagreatdoor", sum := "70c18beb083aef94bf7829db355e86f2e98cbe5c4731ff92893284a99b0c2487", func := "telpher/tellaw13.IrLive", spec := "irLive", inPlace := ["slices.overlaps[int]", "internal/abi.NoEscape", "internal/bytealg.MakeNoZero"], unfollowed := true, recurses := true, named := ["telpher/telmake.Funcs", "telpher/telmake.leafNames", "telpher/telmake.fieldNames", "telpher/telmake.strings", "telpher/typeterm.reserved", "internal/strconv.uint64pow10", "math/bits.deBruijn32tab", "math/bits.deBruijn64tab", "telpher/ir.primitives"], apart := false, laid := [("math/bits.deBruijn32tab", laid_math_bits_deBruijn32tab), ("math/bits.deBruijn64tab", laid_math_bits_deBruijn64tab), ("internal/strconv.uint64pow10", laid_internal_strconv_uint64pow10), ("telpher/typeterm.reserved", laid_telpher_typeterm_reserved), ("telpher/ir.primitives", laid_telpher_ir_primitives), ("telpher/telmake.Funcs", laid_telpher_telmake_Funcs), ("telpher/telmake.fieldNames", laid_telpher_telmake_fieldNames), ("telpher/telmake.strings", laid_telpher_telmake_strings), ("telpher/telmake.leafNames", laid_telpher_telmake_leafNames)], narrowed := true }
def IrLiveUptoSaid : Prop := irLiveUptoRow.holds Tryz.pinned (OpenSpec.upto irLiveSpec)

/-- 'tellaw13.IrAnalyses', WHERE WHAT IT READS IS OF BULK AT MOST 1048576: true; the input reads as it did. -/
def irAnalysesUptoRow : OpenClaim := { program := "ytmpmgmmcaghacaagreatdoor", sum := "70c18beb083aef94bf7829db355e86f2e98cbe5c4731ff92893284a99b0c2487", func := "telpher/tellaw13.IrAnalyses", spec := "irAnalyses", inPlace := ["slices.overlaps[int]", "internal/abi.NoEscape", "internal/bytealg.MakeNoZero"], unfollowed := true, recurses := true, named := ["telpher/telmake.Funcs", "telpher/telmake.leafNames", "telpher/telmake.fieldNames", "telpher/telmake.strings", "telpher/telmake.anyNames", "telpher/typeterm.reserved", "internal/strconv.uint64pow10", "math/bits.deBruijn32tab", "math/bits.deBruijn64tab", "telpher/ir.primitives"], apart := false, laid := [("math/bits.deBruijn32tab", laid_math_bits_deBruijn32tab), ("math/bits.deBruijn64tab", laid_math_bits_deBruijn64tab), ("internal/strconv.uint64pow10", laid_internal_strconv_uint64pow10), ("telpher/typeterm.reserved", laid_telpher_typeterm_reserved), ("telpher/ir.primitives", laid_telpher_ir_primitives), ("telpher/telmake.Funcs", laid_telpher_telmake_Funcs), ("telpher/telmake.fieldNames", laid_telpher_telmake_fieldNames), ("telpher/telmake.strings", laid_telpher_telmake_strings), ("telpher/telmake.leafNames", laid_telpher_telmake_leafNames), ("telpher/telmake.anyNames", laid_telpher_telmake_anyNames)], narrowed := true }
def IrAnalysesUptoSaid : Prop := irAnalysesUptoRow.holds Tryz.pinned (OpenSpec.upto irAnalysesSpec)

end Rows
end Go.Proofs.YtmpmgmmcaghacaaGreatDoor
