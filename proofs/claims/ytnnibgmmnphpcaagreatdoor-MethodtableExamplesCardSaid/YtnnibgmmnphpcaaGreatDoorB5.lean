/- MethodtableExamples: a call that is reckoned apart. -/
import Derived.Test.YtnnibgmmnphpcaaGreatDoorD
namespace Go.Proofs.YtnnibgmmnphpcaaGreatDoor
open Go.Tp
set_option maxRecDepth 100000
set_option maxHeartbeats 1000000
theorem memo5_run : X1 memo5.fn memo5.args memo5.heap memo5.next = some memo5.res := by kernel_rfl
theorem memo5_ok : ACalls Tryz.prog xglobs memo5.fn memo5.args memo5.heap memo5.next (XQ memo5.res) := X1_ok _ _ _ _ _ memo5_run
end Go.Proofs.YtnnibgmmnphpcaaGreatDoor
