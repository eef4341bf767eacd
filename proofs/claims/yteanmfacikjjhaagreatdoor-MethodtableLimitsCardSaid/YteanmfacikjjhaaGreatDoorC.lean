/- MethodtableLimits: the check. -/
import Derived.Test.YteanmfacikjjhaaGreatDoorB0
import Derived.Test.YteanmfacikjjhaaGreatDoorB1
import Derived.Test.YteanmfacikjjhaaGreatDoorB2
namespace Go.Proofs.YteanmfacikjjhaaGreatDoor
open Go.Tp
set_option maxRecDepth 100000
set_option maxHeartbeats 1000000

noncomputable def LXM : XCalls := orX libR (memoX [memo0, memo1, memo2])
theorem LXM_ok : XOk Tryz.prog xglobs LXM := orX_ok libR_ok (memoX_ok (by
  intro m hm
  simp only [List.mem_cons, List.not_mem_nil, or_false] at hm
  rcases hm with rfl | rfl | rfl
  · exact memo0_ok
  · exact memo1_ok
  · exact memo2_ok))
noncomputable def XM : XCalls := fcall (env Prims.fast) xglobs xmoves xcaps ftab.find LXM 3000 60
theorem XM_ok : XOk Tryz.prog xglobs XM := fun f args heap next r h => fcall_sound 3000 envF ftab_ok (M := LXM) LXM_ok 60 f args heap next r h

theorem check_run : XM 5 [] [] 0 = some ⟨bv true, [], 0⟩ := by kernel_rfl
theorem check_ok : ACalls Tryz.prog xglobs 5 [] [] 0 (XQ ⟨bv true, [], 0⟩) := XM_ok _ _ _ _ _ check_run
end Go.Proofs.YteanmfacikjjhaaGreatDoor
