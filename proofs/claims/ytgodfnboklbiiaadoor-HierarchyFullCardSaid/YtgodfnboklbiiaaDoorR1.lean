/- HierarchyFull: rounds of the loop. Printed by a program. -/
import Derived.Test.YtgodfnboklbiiaaDoorH1
namespace Go.Proofs.YtgodfnboklbiiaaDoor
open Go.Tp
set_option maxRecDepth 100000
theorem seg20 (c : Int) : run cRest (S6 (Int.ofNat 20) c (heapS 20) true) = some (.normal, SS (Int.ofNat 21) c (heapS 21)) := by kernel_rfl
theorem seg21 (c : Int) : run cRest (S6 (Int.ofNat 21) c (heapS 21) true) = some (.normal, SS (Int.ofNat 22) c (heapS 22)) := by kernel_rfl
theorem seg22 (c : Int) : run cRest (S6 (Int.ofNat 22) c (heapS 22) true) = some (.normal, SS (Int.ofNat 23) c (heapS 23)) := by kernel_rfl
theorem seg23 (c : Int) : run cRest (S6 (Int.ofNat 23) c (heapS 23) true) = some (.normal, SS (Int.ofNat 24) c (heapS 24)) := by kernel_rfl
theorem seg24 (c : Int) : run cRest (S6 (Int.ofNat 24) c (heapS 24) true) = some (.normal, SS (Int.ofNat 25) c (heapS 25)) := by kernel_rfl
theorem seg25 (c : Int) : run cRest (S6 (Int.ofNat 25) c (heapS 25) true) = some (.normal, SS (Int.ofNat 26) c (heapS 26)) := by kernel_rfl
theorem seg26 (c : Int) : run cRest (S6 (Int.ofNat 26) c (heapS 26) true) = some (.normal, SS (Int.ofNat 27) c (heapS 27)) := by kernel_rfl
theorem seg27 (c : Int) : run cRest (S6 (Int.ofNat 27) c (heapS 27) true) = some (.normal, SS (Int.ofNat 28) c (heapS 28)) := by kernel_rfl
theorem seg28 (c : Int) : run cRest (S6 (Int.ofNat 28) c (heapS 28) true) = some (.normal, SS (Int.ofNat 29) c (heapS 29)) := by kernel_rfl
theorem seg29 (c : Int) : run cRest (S6 (Int.ofNat 29) c (heapS 29) true) = some (.normal, SS (Int.ofNat 30) c (heapS 30)) := by kernel_rfl
theorem seg30 (c : Int) : run cRest (S6 (Int.ofNat 30) c (heapS 30) true) = some (.normal, SS (Int.ofNat 31) c (heapS 31)) := by kernel_rfl
theorem seg31 (c : Int) : run cRest (S6 (Int.ofNat 31) c (heapS 31) true) = some (.normal, SS (Int.ofNat 32) c (heapS 32)) := by kernel_rfl
theorem seg32 (c : Int) : run cRest (S6 (Int.ofNat 32) c (heapS 32) true) = some (.normal, SS (Int.ofNat 33) c (heapS 33)) := by kernel_rfl
theorem seg33 (c : Int) : run cRest (S6 (Int.ofNat 33) c (heapS 33) true) = some (.normal, SS (Int.ofNat 34) c (heapS 34)) := by kernel_rfl
theorem seg34 (c : Int) : run cRest (S6 (Int.ofNat 34) c (heapS 34) true) = some (.normal, SS (Int.ofNat 35) c (heapS 35)) := by kernel_rfl
theorem seg35 (c : Int) : run cRest (S6 (Int.ofNat 35) c (heapS 35) true) = some (.normal, SS (Int.ofNat 36) c (heapS 36)) := by kernel_rfl
theorem seg36 (c : Int) : run cRest (S6 (Int.ofNat 36) c (heapS 36) true) = some (.normal, SS (Int.ofNat 37) c (heapS 37)) := by kernel_rfl
theorem seg37 (c : Int) : run cRest (S6 (Int.ofNat 37) c (heapS 37) true) = some (.normal, SS (Int.ofNat 38) c (heapS 38)) := by kernel_rfl
theorem seg38 (c : Int) : run cRest (S6 (Int.ofNat 38) c (heapS 38) true) = some (.normal, SS (Int.ofNat 39) c (heapS 39)) := by kernel_rfl
end Go.Proofs.YtgodfnboklbiiaaDoor
