/- DispatchExamples: calls that are reckoned apart. -/
import Derived.Test.YtmclhadhncbdhaaGreatDoorPB1
namespace Go.Proofs.YtmclhadhncbdhaaGreatDoor
open Go.Tp
set_option maxRecDepth 100000
set_option maxHeartbeats 1000000
theorem memo8_run : X2 memo8.fn memo8.args memo8.heap memo8.next = some memo8.res := by kernel_rfl
theorem memo8_ok : ACalls Tryz.prog xglobs memo8.fn memo8.args memo8.heap memo8.next (XQ memo8.res) := X2_ok _ _ _ _ _ memo8_run
end Go.Proofs.YtmclhadhncbdhaaGreatDoor
