/- DispatchExamples: calls that look at no object, reckoned apart. -/
import Derived.Test.YtmclhadhncbdhaaGreatDoorPB0
namespace Go.Proofs.YtmclhadhncbdhaaGreatDoor
open Go.Tp
set_option maxRecDepth 100000
set_option maxHeartbeats 1000000

theorem pm38_run : X1 pm38.fn pm38.args [] 0 = some ⟨pm38.val, [], 0⟩ := by kernel_rfl
theorem pm38_ok : pm38.ok = true ∧ ACalls Tryz.prog xglobs pm38.fn pm38.args [] 0 (XQ ⟨pm38.val, [], 0⟩) := ⟨by kernel_rfl, X1_ok _ _ _ _ _ pm38_run⟩
theorem pm39_run : X1 pm39.fn pm39.args [] 0 = some ⟨pm39.val, [], 0⟩ := by kernel_rfl
theorem pm39_ok : pm39.ok = true ∧ ACalls Tryz.prog xglobs pm39.fn pm39.args [] 0 (XQ ⟨pm39.val, [], 0⟩) := ⟨by kernel_rfl, X1_ok _ _ _ _ _ pm39_run⟩
theorem pm40_run : X1 pm40.fn pm40.args [] 0 = some ⟨pm40.val, [], 0⟩ := by kernel_rfl
theorem pm40_ok : pm40.ok = true ∧ ACalls Tryz.prog xglobs pm40.fn pm40.args [] 0 (XQ ⟨pm40.val, [], 0⟩) := ⟨by kernel_rfl, X1_ok _ _ _ _ _ pm40_run⟩
theorem pm41_run : X1 pm41.fn pm41.args [] 0 = some ⟨pm41.val, [], 0⟩ := by kernel_rfl
theorem pm41_ok : pm41.ok = true ∧ ACalls Tryz.prog xglobs pm41.fn pm41.args [] 0 (XQ ⟨pm41.val, [], 0⟩) := ⟨by kernel_rfl, X1_ok _ _ _ _ _ pm41_run⟩
theorem pm42_run : X1 pm42.fn pm42.args [] 0 = some ⟨pm42.val, [], 0⟩ := by kernel_rfl
theorem pm42_ok : pm42.ok = true ∧ ACalls Tryz.prog xglobs pm42.fn pm42.args [] 0 (XQ ⟨pm42.val, [], 0⟩) := ⟨by kernel_rfl, X1_ok _ _ _ _ _ pm42_run⟩
theorem pm43_run : X1 pm43.fn pm43.args [] 0 = some ⟨pm43.val, [], 0⟩ := by kernel_rfl
theorem pm43_ok : pm43.ok = true ∧ ACalls Tryz.prog xglobs pm43.fn pm43.args [] 0 (XQ ⟨pm43.val, [], 0⟩) := ⟨by kernel_rfl, X1_ok _ _ _ _ _ pm43_run⟩
theorem pm44_run : X1 pm44.fn pm44.args [] 0 = some ⟨pm44.val, [], 0⟩ := by kernel_rfl
theorem pm44_ok : pm44.ok = true ∧ ACalls Tryz.prog xglobs pm44.fn pm44.args [] 0 (XQ ⟨pm44.val, [], 0⟩) := ⟨by kernel_rfl, X1_ok _ _ _ _ _ pm44_run⟩
theorem pm45_run : X1 pm45.fn pm45.args [] 0 = some ⟨pm45.val, [], 0⟩ := by kernel_rfl
theorem pm45_ok : pm45.ok = true ∧ ACalls Tryz.prog xglobs pm45.fn pm45.args [] 0 (XQ ⟨pm45.val, [], 0⟩) := ⟨by kernel_rfl, X1_ok _ _ _ _ _ pm45_run⟩

noncomputable def LX2 : XCalls := orX LX1 (pmemoX [pm38, pm39, pm40, pm41, pm42, pm43, pm44, pm45])
theorem LX2_ok : XOk Tryz.prog xglobs LX2 := orX_ok LX1_ok (pmemoX_ok (by
  intro m hm
  simp only [List.mem_cons, List.not_mem_nil, or_false] at hm
  rcases hm with rfl | rfl | rfl | rfl | rfl | rfl | rfl | rfl
  · exact pm38_ok
  · exact pm39_ok
  · exact pm40_ok
  · exact pm41_ok
  · exact pm42_ok
  · exact pm43_ok
  · exact pm44_ok
  · exact pm45_ok))
noncomputable def X2 : XCalls := fcall (env Prims.fast) xglobs xmoves xcaps ftab.find LX2 3000 60
theorem X2_ok : XOk Tryz.prog xglobs X2 := fun f args heap next r h => fcall_sound 3000 envF ftab_ok (M := LX2) LX2_ok 60 f args heap next r h
end Go.Proofs.YtmclhadhncbdhaaGreatDoor
