/- DispatchExamples: calls that are reckoned apart. -/
import Derived.Test.YtmclhadhncbdhaaGreatDoorE0
namespace Go.Proofs.YtmclhadhncbdhaaGreatDoor
open Go.Tp
set_option maxRecDepth 100000
set_option maxHeartbeats 1000000
theorem memo4_run : X2 memo4.fn memo4.args memo4.heap memo4.next = some memo4.res := by kernel_rfl
theorem memo4_ok : ACalls Tryz.prog xglobs memo4.fn memo4.args memo4.heap memo4.next (XQ memo4.res) := X2_ok _ _ _ _ _ memo4_run
theorem memo5_run : X2 memo5.fn memo5.args memo5.heap memo5.next = some memo5.res := by kernel_rfl
theorem memo5_ok : ACalls Tryz.prog xglobs memo5.fn memo5.args memo5.heap memo5.next (XQ memo5.res) := X2_ok _ _ _ _ _ memo5_run
theorem memo6_run : X2 memo6.fn memo6.args memo6.heap memo6.next = some memo6.res := by kernel_rfl
theorem memo6_ok : ACalls Tryz.prog xglobs memo6.fn memo6.args memo6.heap memo6.next (XQ memo6.res) := X2_ok _ _ _ _ _ memo6_run
theorem memo7_run : X2 memo7.fn memo7.args memo7.heap memo7.next = some memo7.res := by kernel_rfl
theorem memo7_ok : ACalls Tryz.prog xglobs memo7.fn memo7.args memo7.heap memo7.next (XQ memo7.res) := X2_ok _ _ _ _ _ memo7_run

noncomputable def LX3 : XCalls := orX LX2 (memoX [memo0, memo1, memo2, memo3, memo4, memo5, memo6, memo7])
theorem LX3_ok : XOk Tryz.prog xglobs LX3 := orX_ok LX2_ok (memoX_ok (by
  intro m hm
  simp only [List.mem_cons, List.not_mem_nil, or_false] at hm
  rcases hm with rfl | rfl | rfl | rfl | rfl | rfl | rfl | rfl
  · exact memo0_ok
  · exact memo1_ok
  · exact memo2_ok
  · exact memo3_ok
  · exact memo4_ok
  · exact memo5_ok
  · exact memo6_ok
  · exact memo7_ok))
noncomputable def X3 : XCalls := fcall (env Prims.fast) xglobs xmoves xcaps ftab.find LX3 3000 60
theorem X3_ok : XOk Tryz.prog xglobs X3 := fun f args heap next r h => fcall_sound 3000 envF ftab_ok (M := LX3) LX3_ok 60 f args heap next r h
end Go.Proofs.YtmclhadhncbdhaaGreatDoor
