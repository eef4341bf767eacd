/- DispatchExamples: calls that are reckoned apart. -/
import Derived.Test.YtmclhadhncbdhaaGreatDoorE1
namespace Go.Proofs.YtmclhadhncbdhaaGreatDoor
open Go.Tp
set_option maxRecDepth 100000
set_option maxHeartbeats 1000000
theorem memo9_run : X3 memo9.fn memo9.args memo9.heap memo9.next = some memo9.res := by kernel_rfl
theorem memo9_ok : ACalls Tryz.prog xglobs memo9.fn memo9.args memo9.heap memo9.next (XQ memo9.res) := X3_ok _ _ _ _ _ memo9_run
theorem memo10_run : X3 memo10.fn memo10.args memo10.heap memo10.next = some memo10.res := by kernel_rfl
theorem memo10_ok : ACalls Tryz.prog xglobs memo10.fn memo10.args memo10.heap memo10.next (XQ memo10.res) := X3_ok _ _ _ _ _ memo10_run
theorem memo11_run : X3 memo11.fn memo11.args memo11.heap memo11.next = some memo11.res := by kernel_rfl
theorem memo11_ok : ACalls Tryz.prog xglobs memo11.fn memo11.args memo11.heap memo11.next (XQ memo11.res) := X3_ok _ _ _ _ _ memo11_run
theorem memo12_run : X3 memo12.fn memo12.args memo12.heap memo12.next = some memo12.res := by kernel_rfl
theorem memo12_ok : ACalls Tryz.prog xglobs memo12.fn memo12.args memo12.heap memo12.next (XQ memo12.res) := X3_ok _ _ _ _ _ memo12_run
end Go.Proofs.YtmclhadhncbdhaaGreatDoor
