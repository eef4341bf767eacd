/- MethodtableLimits: a call of the check that is reckoned apart. -/
import Derived.Test.YteanmfacikjjhaaGreatDoorB0
import Derived.Test.YteanmfacikjjhaaGreatDoorB1
namespace Go.Proofs.YteanmfacikjjhaaGreatDoor
open Go.Tp
set_option maxRecDepth 100000
set_option maxHeartbeats 1000000

noncomputable def LX1 : XCalls := orX libR (memoX [memo0, memo1])
theorem LX1_ok : XOk Tryz.prog xglobs LX1 := orX_ok libR_ok (memoX_ok (by
  intro m hm
  simp only [List.mem_cons, List.not_mem_nil, or_false] at hm
  rcases hm with rfl | rfl
  · exact memo0_ok
  · exact memo1_ok))
noncomputable def X1 : XCalls := fcall (env Prims.fast) xglobs xmoves xcaps ftab.find LX1 3000 60
theorem X1_ok : XOk Tryz.prog xglobs X1 := fun f args heap next r h => fcall_sound 3000 envF ftab_ok (M := LX1) LX1_ok 60 f args heap next r h
end Go.Proofs.YteanmfacikjjhaaGreatDoor
namespace Go.Proofs.YteanmfacikjjhaaGreatDoor
open Go.Tp
set_option maxRecDepth 100000
set_option maxHeartbeats 1000000
theorem memo2_run : X1 memo2.fn memo2.args memo2.heap memo2.next = some memo2.res := by kernel_rfl
theorem memo2_ok : ACalls Tryz.prog xglobs memo2.fn memo2.args memo2.heap memo2.next (XQ memo2.res) := X1_ok _ _ _ _ _ memo2_run
end Go.Proofs.YteanmfacikjjhaaGreatDoor
