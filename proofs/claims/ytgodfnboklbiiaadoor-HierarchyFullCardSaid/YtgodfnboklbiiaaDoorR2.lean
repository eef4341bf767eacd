/- HierarchyFull: rounds of the loop. Printed by a program. -/
import Derived.Test.YtgodfnboklbiiaaDoorH1
namespace Go.Proofs.YtgodfnboklbiiaaDoor
open Go.Tp
set_option maxRecDepth 100000
theorem seg39 (c : Int) : run cRest (S6 (Int.ofNat 39) c (heapS 39) true) = some (.normal, SS (Int.ofNat 40) c (heapS 40)) := by kernel_rfl
theorem seg40 (c : Int) : run cRest (S6 (Int.ofNat 40) c (heapS 40) true) = some (.normal, SS (Int.ofNat 41) c (heapS 41)) := by kernel_rfl
theorem seg41 (c : Int) : run cRest (S6 (Int.ofNat 41) c (heapS 41) true) = some (.normal, SS (Int.ofNat 42) c (heapS 42)) := by kernel_rfl
theorem seg42 (c : Int) : run cRest (S6 (Int.ofNat 42) c (heapS 42) true) = some (.normal, SS (Int.ofNat 43) c (heapS 43)) := by kernel_rfl
theorem seg43 (c : Int) : run cRest (S6 (Int.ofNat 43) c (heapS 43) true) = some (.normal, SS (Int.ofNat 44) c (heapS 44)) := by kernel_rfl
theorem seg44 (c : Int) : run cRest (S6 (Int.ofNat 44) c (heapS 44) true) = some (.normal, SS (Int.ofNat 45) c (heapS 45)) := by kernel_rfl
theorem seg45 (c : Int) : run cRest (S6 (Int.ofNat 45) c (heapS 45) true) = some (.normal, SS (Int.ofNat 46) c (heapS 46)) := by kernel_rfl
theorem seg46 (c : Int) : run cRest (S6 (Int.ofNat 46) c (heapS 46) true) = some (.normal, SS (Int.ofNat 47) c (heapS 47)) := by kernel_rfl
theorem seg47 (c : Int) : run cRest (S6 (Int.ofNat 47) c (heapS 47) true) = some (.normal, SS (Int.ofNat 48) c (heapS 48)) := by kernel_rfl
theorem seg48 (c : Int) : run cRest (S6 (Int.ofNat 48) c (heapS 48) true) = some (.normal, SS (Int.ofNat 49) c (heapS 49)) := by kernel_rfl
theorem seg49 (c : Int) : run cRest (S6 (Int.ofNat 49) c (heapS 49) true) = some (.normal, SS (Int.ofNat 50) c (heapS 50)) := by kernel_rfl
theorem seg50 (c : Int) : run cRest (S6 (Int.ofNat 50) c (heapS 50) true) = some (.normal, SS (Int.ofNat 51) c (heapS 51)) := by kernel_rfl
theorem seg51 (c : Int) : run cRest (S6 (Int.ofNat 51) c (heapS 51) true) = some (.normal, SS (Int.ofNat 52) c (heapS 52)) := by kernel_rfl
theorem seg52 (c : Int) : run cRest (S6 (Int.ofNat 52) c (heapS 52) true) = some (.normal, SS (Int.ofNat 53) c (heapS 53)) := by kernel_rfl
theorem seg53 (c : Int) : run cRest (S6 (Int.ofNat 53) c (heapS 53) true) = some (.normal, SS (Int.ofNat 54) c (heapS 54)) := by kernel_rfl
theorem seg54 (c : Int) : run cRest (S6 (Int.ofNat 54) c (heapS 54) true) = some (.normal, SS (Int.ofNat 55) c (heapS 55)) := by kernel_rfl
theorem seg55 (c : Int) : run cRest (S6 (Int.ofNat 55) c (heapS 55) true) = some (.normal, SS (Int.ofNat 56) c (heapS 56)) := by kernel_rfl
theorem seg56 (c : Int) : run cRest (S6 (Int.ofNat 56) c (heapS 56) true) = some (.normal, SS (Int.ofNat 57) c (heapS 56)) := by kernel_rfl
theorem seg57 (c : Int) : run cRest (S6 (Int.ofNat 57) c (heapS 56) true) = some (.normal, SS (Int.ofNat 58) c (heapS 56)) := by kernel_rfl
end Go.Proofs.YtgodfnboklbiiaaDoor
