/- DispatchExamples: calls that are reckoned apart. -/
import Derived.Test.YtmclhadhncbdhaaGreatDoorPB1
namespace Go.Proofs.YtmclhadhncbdhaaGreatDoor
open Go.Tp
set_option maxRecDepth 100000
set_option maxHeartbeats 1000000
theorem memo0_run : X2 memo0.fn memo0.args memo0.heap memo0.next = some memo0.res := by kernel_rfl
theorem memo0_ok : ACalls Tryz.prog xglobs memo0.fn memo0.args memo0.heap memo0.next (XQ memo0.res) := X2_ok _ _ _ _ _ memo0_run
theorem memo1_run : X2 memo1.fn memo1.args memo1.heap memo1.next = some memo1.res := by kernel_rfl
theorem memo1_ok : ACalls Tryz.prog xglobs memo1.fn memo1.args memo1.heap memo1.next (XQ memo1.res) := X2_ok _ _ _ _ _ memo1_run
theorem memo2_run : X2 memo2.fn memo2.args memo2.heap memo2.next = some memo2.res := by kernel_rfl
theorem memo2_ok : ACalls Tryz.prog xglobs memo2.fn memo2.args memo2.heap memo2.next (XQ memo2.res) := X2_ok _ _ _ _ _ memo2_run
theorem memo3_run : X2 memo3.fn memo3.args memo3.heap memo3.next = some memo3.res := by kernel_rfl
theorem memo3_ok : ACalls Tryz.prog xglobs memo3.fn memo3.args memo3.heap memo3.next (XQ memo3.res) := X2_ok _ _ _ _ _ memo3_run
end Go.Proofs.YtmclhadhncbdhaaGreatDoor
