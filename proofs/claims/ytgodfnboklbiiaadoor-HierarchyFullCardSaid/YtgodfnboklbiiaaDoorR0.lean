/- HierarchyFull: rounds of the loop. Printed by a program. -/
import Derived.Test.YtgodfnboklbiiaaDoorH1
namespace Go.Proofs.YtgodfnboklbiiaaDoor
open Go.Tp
set_option maxRecDepth 100000
theorem seg0 (c : Int) : run cRest (S6 (Int.ofNat 0) c (heapS 0) true) = some (.normal, SS (Int.ofNat 1) c (heapS 1)) := by kernel_rfl
theorem seg1 (c : Int) : run cRest (S6 (Int.ofNat 1) c (heapS 1) true) = some (.normal, SS (Int.ofNat 2) c (heapS 2)) := by kernel_rfl
theorem seg2 (c : Int) : run cRest (S6 (Int.ofNat 2) c (heapS 2) true) = some (.normal, SS (Int.ofNat 3) c (heapS 3)) := by kernel_rfl
theorem seg3 (c : Int) : run cRest (S6 (Int.ofNat 3) c (heapS 3) true) = some (.normal, SS (Int.ofNat 4) c (heapS 4)) := by kernel_rfl
theorem seg4 (c : Int) : run cRest (S6 (Int.ofNat 4) c (heapS 4) true) = some (.normal, SS (Int.ofNat 5) c (heapS 5)) := by kernel_rfl
theorem seg5 (c : Int) : run cRest (S6 (Int.ofNat 5) c (heapS 5) true) = some (.normal, SS (Int.ofNat 6) c (heapS 6)) := by kernel_rfl
theorem seg6 (c : Int) : run cRest (S6 (Int.ofNat 6) c (heapS 6) true) = some (.normal, SS (Int.ofNat 7) c (heapS 7)) := by kernel_rfl
theorem seg7 (c : Int) : run cRest (S6 (Int.ofNat 7) c (heapS 7) true) = some (.normal, SS (Int.ofNat 8) c (heapS 8)) := by kernel_rfl
theorem seg8 (c : Int) : run cRest (S6 (Int.ofNat 8) c (heapS 8) true) = some (.normal, SS (Int.ofNat 9) c (heapS 9)) := by kernel_rfl
theorem seg9 (c : Int) : run cRest (S6 (Int.ofNat 9) c (heapS 9) true) = some (.normal, SS (Int.ofNat 10) c (heapS 10)) := by kernel_rfl
theorem seg10 (c : Int) : run cRest (S6 (Int.ofNat 10) c (heapS 10) true) = some (.normal, SS (Int.ofNat 11) c (heapS 11)) := by kernel_rfl
theorem seg11 (c : Int) : run cRest (S6 (Int.ofNat 11) c (heapS 11) true) = some (.normal, SS (Int.ofNat 12) c (heapS 12)) := by kernel_rfl
theorem seg12 (c : Int) : run cRest (S6 (Int.ofNat 12) c (heapS 12) true) = some (.normal, SS (Int.ofNat 13) c (heapS 13)) := by kernel_rfl
theorem seg13 (c : Int) : run cRest (S6 (Int.ofNat 13) c (heapS 13) true) = some (.normal, SS (Int.ofNat 14) c (heapS 14)) := by kernel_rfl
theorem seg14 (c : Int) : run cRest (S6 (Int.ofNat 14) c (heapS 14) true) = some (.normal, SS (Int.ofNat 15) c (heapS 15)) := by kernel_rfl
theorem seg15 (c : Int) : run cRest (S6 (Int.ofNat 15) c (heapS 15) true) = some (.normal, SS (Int.ofNat 16) c (heapS 16)) := by kernel_rfl
theorem seg16 (c : Int) : run cRest (S6 (Int.ofNat 16) c (heapS 16) true) = some (.normal, SS (Int.ofNat 17) c (heapS 17)) := by kernel_rfl
theorem seg17 (c : Int) : run cRest (S6 (Int.ofNat 17) c (heapS 17) true) = some (.normal, SS (Int.ofNat 18) c (heapS 18)) := by kernel_rfl
theorem seg18 (c : Int) : run cRest (S6 (Int.ofNat 18) c (heapS 18) true) = some (.normal, SS (Int.ofNat 19) c (heapS 19)) := by kernel_rfl
theorem seg19 (c : Int) : run cRest (S6 (Int.ofNat 19) c (heapS 19) true) = some (.normal, SS (Int.ofNat 20) c (heapS 20)) := by kernel_rfl
end Go.Proofs.YtgodfnboklbiiaaDoor
