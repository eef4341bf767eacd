/- MethodtableExamples: a call that is reckoned apart. -/
import Derived.Test.YtnnibgmmnphpcaaGreatDoorMemo
namespace Go.Proofs.YtnnibgmmnphpcaaGreatDoor
open Go.Tp
set_option maxRecDepth 100000
set_option maxHeartbeats 1000000
theorem memo2_run : X memo2.fn memo2.args memo2.heap memo2.next = some memo2.res := by kernel_rfl
theorem memo2_ok : ACalls Tryz.prog xglobs memo2.fn memo2.args memo2.heap memo2.next (XQ memo2.res) := X_ok _ _ _ _ _ memo2_run
end Go.Proofs.YtnnibgmmnphpcaaGreatDoor
