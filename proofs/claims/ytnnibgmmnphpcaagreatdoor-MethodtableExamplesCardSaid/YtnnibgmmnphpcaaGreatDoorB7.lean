/- MethodtableExamples: a call that is reckoned apart. -/
import Derived.Test.YtnnibgmmnphpcaaGreatDoorD
namespace Go.Proofs.YtnnibgmmnphpcaaGreatDoor
open Go.Tp
set_option maxRecDepth 100000
set_option maxHeartbeats 1000000
theorem memo7_run : X1 memo7.fn memo7.args memo7.heap memo7.next = some memo7.res := by kernel_rfl
theorem memo7_ok : ACalls Tryz.prog xglobs memo7.fn memo7.args memo7.heap memo7.next (XQ memo7.res) := X1_ok _ _ _ _ _ memo7_run
end Go.Proofs.YtnnibgmmnphpcaaGreatDoor
