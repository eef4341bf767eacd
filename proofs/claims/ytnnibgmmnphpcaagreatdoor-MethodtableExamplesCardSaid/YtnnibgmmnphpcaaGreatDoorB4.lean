/- MethodtableExamples: a call that is reckoned apart. -/
import Derived.Test.YtnnibgmmnphpcaaGreatDoorD
namespace Go.Proofs.YtnnibgmmnphpcaaGreatDoor
open Go.Tp
set_option maxRecDepth 100000
set_option maxHeartbeats 1000000
theorem memo4_run : X1 memo4.fn memo4.args memo4.heap memo4.next = some memo4.res := by kernel_rfl
theorem memo4_ok : ACalls Tryz.prog xglobs memo4.fn memo4.args memo4.heap memo4.next (XQ memo4.res) := X1_ok _ _ _ _ _ memo4_run
end Go.Proofs.YtnnibgmmnphpcaaGreatDoor
