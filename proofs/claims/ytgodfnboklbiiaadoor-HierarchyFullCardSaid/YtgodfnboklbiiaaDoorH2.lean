/- HierarchyFull: up to the loop. -/
import Derived.Test.YtgodfnboklbiiaaDoorH1
namespace Go.Proofs.YtgodfnboklbiiaaDoor
open Go.Tp
set_option maxRecDepth 100000
theorem head_run (i c : Int) (h : Heap) : run cHead (SS i c h) = some (.normal, S6 i c h (ltF i c)) := by kernel_rfl
theorem test_true (i c : Int) (h : Heap) : run cTest (S6 i c h true) = some (.normal, S6 i c h true) := by kernel_rfl
theorem test_false (i c : Int) (h : Heap) : run cTest (S6 i c h false) = some (.exit 0, S6 i c h false) := by kernel_rfl
theorem pre_run (n : Int) : run cPre ⟨[(0, iv n)], [], [], 0⟩ = some (.normal, SS 0 (wrapF .i64 (54 + modZ n)) (heapS 0)) := by kernel_rfl
end Go.Proofs.YtgodfnboklbiiaaDoor
