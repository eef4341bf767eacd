/- MethodtableExamples: calls that others make. -/
import Derived.Test.YtnnibgmmnphpcaaGreatDoorB0
import Derived.Test.YtnnibgmmnphpcaaGreatDoorB1
import Derived.Test.YtnnibgmmnphpcaaGreatDoorB2
import Derived.Test.YtnnibgmmnphpcaaGreatDoorB3
namespace Go.Proofs.YtnnibgmmnphpcaaGreatDoor
open Go.Tp
set_option maxRecDepth 100000
set_option maxHeartbeats 1000000

noncomputable def LX1 : XCalls := orX libR (memoX [memo0, memo1, memo2, memo3])
theorem LX1_ok : XOk Tryz.prog xglobs LX1 := orX_ok libR_ok (memoX_ok (by
  intro m hm
  simp only [List.mem_cons, List.not_mem_nil, or_false] at hm
  rcases hm with rfl | rfl | rfl | rfl
  · exact memo0_ok
  · exact memo1_ok
  · exact memo2_ok
  · exact memo3_ok))
noncomputable def X1 : XCalls := fcall (env Prims.fast) xglobs xmoves xcaps ftab.find LX1 3000 60
theorem X1_ok : XOk Tryz.prog xglobs X1 := fun f args heap next r h => fcall_sound 3000 envF ftab_ok (M := LX1) LX1_ok 60 f args heap next r h
end Go.Proofs.YtnnibgmmnphpcaaGreatDoor
