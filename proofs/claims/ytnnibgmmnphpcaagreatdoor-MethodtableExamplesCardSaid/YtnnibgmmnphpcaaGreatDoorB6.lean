/- MethodtableExamples: a call that is reckoned apart. -/
import Derived.Test.YtnnibgmmnphpcaaGreatDoorD
namespace Go.Proofs.YtnnibgmmnphpcaaGreatDoor
open Go.Tp
set_option maxRecDepth 100000
set_option maxHeartbeats 1000000
theorem memo6_run : X1 memo6.fn memo6.args memo6.heap memo6.next = some memo6.res := by kernel_rfl
theorem memo6_ok : ACalls Tryz.prog xglobs memo6.fn memo6.args memo6.heap memo6.next (XQ memo6.res) := X1_ok _ _ _ _ _ memo6_run
end Go.Proofs.YtnnibgmmnphpcaaGreatDoor
