/- TreeExamples: calls that look at no object, reckoned apart. -/
import Derived.Test.YteklikhpnhjlfaaGreatDoorMemo
namespace Go.Proofs.YteklikhpnhjlfaaGreatDoor
open Go.Tp
set_option maxRecDepth 100000
set_option maxHeartbeats 1000000

theorem pm0_run : X pm0.fn pm0.args [] 0 = some ⟨pm0.val, [], 0⟩ := by kernel_rfl
theorem pm0_ok : pm0.ok = true ∧ ACalls Tryz.prog xglobs pm0.fn pm0.args [] 0 (XQ ⟨pm0.val, [], 0⟩) := ⟨by kernel_rfl, X_ok _ _ _ _ _ pm0_run⟩
theorem pm1_run : X pm1.fn pm1.args [] 0 = some ⟨pm1.val, [], 0⟩ := by kernel_rfl
theorem pm1_ok : pm1.ok = true ∧ ACalls Tryz.prog xglobs pm1.fn pm1.args [] 0 (XQ ⟨pm1.val, [], 0⟩) := ⟨by kernel_rfl, X_ok _ _ _ _ _ pm1_run⟩
theorem pm2_run : X pm2.fn pm2.args [] 0 = some ⟨pm2.val, [], 0⟩ := by kernel_rfl
theorem pm2_ok : pm2.ok = true ∧ ACalls Tryz.prog xglobs pm2.fn pm2.args [] 0 (XQ ⟨pm2.val, [], 0⟩) := ⟨by kernel_rfl, X_ok _ _ _ _ _ pm2_run⟩
theorem pm3_run : X pm3.fn pm3.args [] 0 = some ⟨pm3.val, [], 0⟩ := by kernel_rfl
theorem pm3_ok : pm3.ok = true ∧ ACalls Tryz.prog xglobs pm3.fn pm3.args [] 0 (XQ ⟨pm3.val, [], 0⟩) := ⟨by kernel_rfl, X_ok _ _ _ _ _ pm3_run⟩
theorem pm4_run : X pm4.fn pm4.args [] 0 = some ⟨pm4.val, [], 0⟩ := by kernel_rfl
theorem pm4_ok : pm4.ok = true ∧ ACalls Tryz.prog xglobs pm4.fn pm4.args [] 0 (XQ ⟨pm4.val, [], 0⟩) := ⟨by kernel_rfl, X_ok _ _ _ _ _ pm4_run⟩
theorem pm5_run : X pm5.fn pm5.args [] 0 = some ⟨pm5.val, [], 0⟩ := by kernel_rfl
theorem pm5_ok : pm5.ok = true ∧ ACalls Tryz.prog xglobs pm5.fn pm5.args [] 0 (XQ ⟨pm5.val, [], 0⟩) := ⟨by kernel_rfl, X_ok _ _ _ _ _ pm5_run⟩
theorem pm6_run : X pm6.fn pm6.args [] 0 = some ⟨pm6.val, [], 0⟩ := by kernel_rfl
theorem pm6_ok : pm6.ok = true ∧ ACalls Tryz.prog xglobs pm6.fn pm6.args [] 0 (XQ ⟨pm6.val, [], 0⟩) := ⟨by kernel_rfl, X_ok _ _ _ _ _ pm6_run⟩
theorem pm7_run : X pm7.fn pm7.args [] 0 = some ⟨pm7.val, [], 0⟩ := by kernel_rfl
theorem pm7_ok : pm7.ok = true ∧ ACalls Tryz.prog xglobs pm7.fn pm7.args [] 0 (XQ ⟨pm7.val, [], 0⟩) := ⟨by kernel_rfl, X_ok _ _ _ _ _ pm7_run⟩
theorem pm8_run : X pm8.fn pm8.args [] 0 = some ⟨pm8.val, [], 0⟩ := by kernel_rfl
theorem pm8_ok : pm8.ok = true ∧ ACalls Tryz.prog xglobs pm8.fn pm8.args [] 0 (XQ ⟨pm8.val, [], 0⟩) := ⟨by kernel_rfl, X_ok _ _ _ _ _ pm8_run⟩
theorem pm9_run : X pm9.fn pm9.args [] 0 = some ⟨pm9.val, [], 0⟩ := by kernel_rfl
theorem pm9_ok : pm9.ok = true ∧ ACalls Tryz.prog xglobs pm9.fn pm9.args [] 0 (XQ ⟨pm9.val, [], 0⟩) := ⟨by kernel_rfl, X_ok _ _ _ _ _ pm9_run⟩
theorem pm10_run : X pm10.fn pm10.args [] 0 = some ⟨pm10.val, [], 0⟩ := by kernel_rfl
theorem pm10_ok : pm10.ok = true ∧ ACalls Tryz.prog xglobs pm10.fn pm10.args [] 0 (XQ ⟨pm10.val, [], 0⟩) := ⟨by kernel_rfl, X_ok _ _ _ _ _ pm10_run⟩
theorem pm11_run : X pm11.fn pm11.args [] 0 = some ⟨pm11.val, [], 0⟩ := by kernel_rfl
theorem pm11_ok : pm11.ok = true ∧ ACalls Tryz.prog xglobs pm11.fn pm11.args [] 0 (XQ ⟨pm11.val, [], 0⟩) := ⟨by kernel_rfl, X_ok _ _ _ _ _ pm11_run⟩
theorem pm12_run : X pm12.fn pm12.args [] 0 = some ⟨pm12.val, [], 0⟩ := by kernel_rfl
theorem pm12_ok : pm12.ok = true ∧ ACalls Tryz.prog xglobs pm12.fn pm12.args [] 0 (XQ ⟨pm12.val, [], 0⟩) := ⟨by kernel_rfl, X_ok _ _ _ _ _ pm12_run⟩
theorem pm13_run : X pm13.fn pm13.args [] 0 = some ⟨pm13.val, [], 0⟩ := by kernel_rfl
theorem pm13_ok : pm13.ok = true ∧ ACalls Tryz.prog xglobs pm13.fn pm13.args [] 0 (XQ ⟨pm13.val, [], 0⟩) := ⟨by kernel_rfl, X_ok _ _ _ _ _ pm13_run⟩
theorem pm14_run : X pm14.fn pm14.args [] 0 = some ⟨pm14.val, [], 0⟩ := by kernel_rfl
theorem pm14_ok : pm14.ok = true ∧ ACalls Tryz.prog xglobs pm14.fn pm14.args [] 0 (XQ ⟨pm14.val, [], 0⟩) := ⟨by kernel_rfl, X_ok _ _ _ _ _ pm14_run⟩
theorem pm15_run : X pm15.fn pm15.args [] 0 = some ⟨pm15.val, [], 0⟩ := by kernel_rfl
theorem pm15_ok : pm15.ok = true ∧ ACalls Tryz.prog xglobs pm15.fn pm15.args [] 0 (XQ ⟨pm15.val, [], 0⟩) := ⟨by kernel_rfl, X_ok _ _ _ _ _ pm15_run⟩
theorem pm16_run : X pm16.fn pm16.args [] 0 = some ⟨pm16.val, [], 0⟩ := by kernel_rfl
theorem pm16_ok : pm16.ok = true ∧ ACalls Tryz.prog xglobs pm16.fn pm16.args [] 0 (XQ ⟨pm16.val, [], 0⟩) := ⟨by kernel_rfl, X_ok _ _ _ _ _ pm16_run⟩
theorem pm17_run : X pm17.fn pm17.args [] 0 = some ⟨pm17.val, [], 0⟩ := by kernel_rfl
theorem pm17_ok : pm17.ok = true ∧ ACalls Tryz.prog xglobs pm17.fn pm17.args [] 0 (XQ ⟨pm17.val, [], 0⟩) := ⟨by kernel_rfl, X_ok _ _ _ _ _ pm17_run⟩
theorem pm18_run : X pm18.fn pm18.args [] 0 = some ⟨pm18.val, [], 0⟩ := by kernel_rfl
theorem pm18_ok : pm18.ok = true ∧ ACalls Tryz.prog xglobs pm18.fn pm18.args [] 0 (XQ ⟨pm18.val, [], 0⟩) := ⟨by kernel_rfl, X_ok _ _ _ _ _ pm18_run⟩

noncomputable def LX1 : XCalls := orX libR (pmemoX [pm0, pm1, pm2, pm3, pm4, pm5, pm6, pm7, pm8, pm9, pm10, pm11, pm12, pm13, pm14, pm15, pm16, pm17, pm18])
theorem LX1_ok : XOk Tryz.prog xglobs LX1 := orX_ok libR_ok (pmemoX_ok (by
  intro m hm
  simp only [List.mem_cons, List.not_mem_nil, or_false] at hm
  rcases hm with rfl | rfl | rfl | rfl | rfl | rfl | rfl | rfl | rfl | rfl | rfl | rfl | rfl | rfl | rfl | rfl | rfl | rfl | rfl
  · exact pm0_ok
  · exact pm1_ok
  · exact pm2_ok
  · exact pm3_ok
  · exact pm4_ok
  · exact pm5_ok
  · exact pm6_ok
  · exact pm7_ok
  · exact pm8_ok
  · exact pm9_ok
  · exact pm10_ok
  · exact pm11_ok
  · exact pm12_ok
  · exact pm13_ok
  · exact pm14_ok
  · exact pm15_ok
  · exact pm16_ok
  · exact pm17_ok
  · exact pm18_ok))
noncomputable def X1 : XCalls := fcall (env Prims.fast) xglobs xmoves xcaps ftab.find LX1 3000 60
theorem X1_ok : XOk Tryz.prog xglobs X1 := fun f args heap next r h => fcall_sound 3000 envF ftab_ok (M := LX1) LX1_ok 60 f args heap next r h
end Go.Proofs.YteklikhpnhjlfaaGreatDoor
