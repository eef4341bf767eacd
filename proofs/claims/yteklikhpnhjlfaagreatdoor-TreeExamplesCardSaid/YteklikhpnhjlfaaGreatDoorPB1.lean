/- TreeExamples: calls that look at no object, reckoned apart. -/
import Derived.Test.YteklikhpnhjlfaaGreatDoorPB0
namespace Go.Proofs.YteklikhpnhjlfaaGreatDoor
open Go.Tp
set_option maxRecDepth 100000
set_option maxHeartbeats 1000000

theorem pm19_run : X1 pm19.fn pm19.args [] 0 = some ⟨pm19.val, [], 0⟩ := by kernel_rfl
theorem pm19_ok : pm19.ok = true ∧ ACalls Tryz.prog xglobs pm19.fn pm19.args [] 0 (XQ ⟨pm19.val, [], 0⟩) := ⟨by kernel_rfl, X1_ok _ _ _ _ _ pm19_run⟩
theorem pm20_run : X1 pm20.fn pm20.args [] 0 = some ⟨pm20.val, [], 0⟩ := by kernel_rfl
theorem pm20_ok : pm20.ok = true ∧ ACalls Tryz.prog xglobs pm20.fn pm20.args [] 0 (XQ ⟨pm20.val, [], 0⟩) := ⟨by kernel_rfl, X1_ok _ _ _ _ _ pm20_run⟩
theorem pm21_run : X1 pm21.fn pm21.args [] 0 = some ⟨pm21.val, [], 0⟩ := by kernel_rfl
theorem pm21_ok : pm21.ok = true ∧ ACalls Tryz.prog xglobs pm21.fn pm21.args [] 0 (XQ ⟨pm21.val, [], 0⟩) := ⟨by kernel_rfl, X1_ok _ _ _ _ _ pm21_run⟩

noncomputable def LX2 : XCalls := orX LX1 (pmemoX [pm19, pm20, pm21])
theorem LX2_ok : XOk Tryz.prog xglobs LX2 := orX_ok LX1_ok (pmemoX_ok (by
  intro m hm
  simp only [List.mem_cons, List.not_mem_nil, or_false] at hm
  rcases hm with rfl | rfl | rfl
  · exact pm19_ok
  · exact pm20_ok
  · exact pm21_ok))
noncomputable def X2 : XCalls := fcall (env Prims.fast) xglobs xmoves xcaps ftab.find LX2 3000 60
theorem X2_ok : XOk Tryz.prog xglobs X2 := fun f args heap next r h => fcall_sound 3000 envF ftab_ok (M := LX2) LX2_ok 60 f args heap next r h
end Go.Proofs.YteklikhpnhjlfaaGreatDoor
