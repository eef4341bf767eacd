/- DispatchExamples: calls that are reckoned apart. -/
import Derived.Test.YtmclhadhncbdhaaGreatDoorPB1
namespace Go.Proofs.YtmclhadhncbdhaaGreatDoor
open Go.Tp
set_option maxRecDepth 100000
set_option maxHeartbeats 1000000
theorem memo13_run : X2 memo13.fn memo13.args memo13.heap memo13.next = some memo13.res := by kernel_rfl
theorem memo13_ok : ACalls Tryz.prog xglobs memo13.fn memo13.args memo13.heap memo13.next (XQ memo13.res) := X2_ok _ _ _ _ _ memo13_run
theorem memo14_run : X2 memo14.fn memo14.args memo14.heap memo14.next = some memo14.res := by kernel_rfl
theorem memo14_ok : ACalls Tryz.prog xglobs memo14.fn memo14.args memo14.heap memo14.next (XQ memo14.res) := X2_ok _ _ _ _ _ memo14_run
theorem memo15_run : X2 memo15.fn memo15.args memo15.heap memo15.next = some memo15.res := by kernel_rfl
theorem memo15_ok : ACalls Tryz.prog xglobs memo15.fn memo15.args memo15.heap memo15.next (XQ memo15.res) := X2_ok _ _ _ _ _ memo15_run
end Go.Proofs.YtmclhadhncbdhaaGreatDoor
