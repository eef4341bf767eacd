/- MethodtableExamples: a call that is reckoned apart. -/
import Derived.Test.YtnnibgmmnphpcaaGreatDoorMemo
namespace Go.Proofs.YtnnibgmmnphpcaaGreatDoor
open Go.Tp
set_option maxRecDepth 100000
set_option maxHeartbeats 1000000
theorem memo3_run : X memo3.fn memo3.args memo3.heap memo3.next = some memo3.res := by kernel_rfl
theorem memo3_ok : ACalls Tryz.prog xglobs memo3.fn memo3.args memo3.heap memo3.next (XQ memo3.res) := X_ok _ _ _ _ _ memo3_run
end Go.Proofs.YtnnibgmmnphpcaaGreatDoor
