/- DispatchExamples: calls that look at no object, reckoned apart. -/
import Derived.Test.YtmclhadhncbdhaaGreatDoorMemo
namespace Go.Proofs.YtmclhadhncbdhaaGreatDoor
open Go.Tp
set_option maxRecDepth 100000
set_option maxHeartbeats 1000000

theorem pm0_run : X pm0.fn pm0.args [] 0 = some ⟨pm0.val, [], 0⟩ := by kernel_rfl
theorem pm0_ok : pm0.ok = true ∧ ACalls Tryz.prog xglobs pm0.fn pm0.args [] 0 (XQ ⟨pm0.val, [], 0⟩) := ⟨by kernel_rfl, X_ok _ _ _ _ _ pm0_run⟩
theorem pm1_run : X pm1.fn pm1.args [] 0 = some ⟨pm1.val, [], 0⟩ := by kernel_rfl
theorem pm1_ok : pm1.ok = true ∧ ACalls Tryz.prog xglobs pm1.fn pm1.args [] 0 (XQ ⟨pm1.val, [], 0⟩) := ⟨by kernel_rfl, X_ok _ _ _ _ _ pm1_run⟩
theorem pm2_run : X pm2.fn pm2.args [] 0 = some ⟨pm2.val, [], 0⟩ := by kernel_rfl
theorem pm2_ok : pm2.ok = true ∧ ACalls Tryz.prog xglobs pm2.fn pm2.args [] 0 (XQ ⟨pm2.val, [], 0⟩) := ⟨by kernel_rfl, X_ok _ _ _ _ _ pm2_run⟩
theorem pm3_run : X pm3.fn pm3.args [] 0 = some ⟨pm3.val, [], 0⟩ := by kernel_rfl
theorem pm3_ok : pm3.ok = true ∧ ACalls Tryz.prog xglobs pm3.fn pm3.args [] 0 (XQ ⟨pm3.val, [], 0⟩) := ⟨by kernel_rfl, X_ok _ _ _ _ _ pm3_run⟩
theorem pm4_run : X pm4.fn pm4.args [] 0 = some ⟨pm4.val, [], 0⟩ := by kernel_rfl
theorem pm4_ok : pm4.ok = true ∧ ACalls Tryz.prog xglobs pm4.fn pm4.args [] 0 (XQ ⟨pm4.val, [], 0⟩) := ⟨by kernel_rfl, X_ok _ _ _ _ _ pm4_run⟩
theorem pm5_run : X pm5.fn pm5.args [] 0 = some ⟨pm5.val, [], 0⟩ := by kernel_rfl
theorem pm5_ok : pm5.ok = true ∧ ACalls Tryz.prog xglobs pm5.fn pm5.args [] 0 (XQ ⟨pm5.val, [], 0⟩) := ⟨by kernel_rfl, X_ok _ _ _ _ _ pm5_run⟩
theorem pm6_run : X pm6.fn pm6.args [] 0 = some ⟨pm6.val, [], 0⟩ := by kernel_rfl
theorem pm6_ok : pm6.ok = true ∧ ACalls Tryz.prog xglobs pm6.fn pm6.args [] 0 (XQ ⟨pm6.val, [], 0⟩) := ⟨by kernel_rfl, X_ok _ _ _ _ _ pm6_run⟩
theorem pm7_run : X pm7.fn pm7.args [] 0 = some ⟨pm7.val, [], 0⟩ := by kernel_rfl
theorem pm7_ok : pm7.ok = true ∧ ACalls Tryz.prog xglobs pm7.fn pm7.args [] 0 (XQ ⟨pm7.val, [], 0⟩) := ⟨by kernel_rfl, X_ok _ _ _ _ _ pm7_run⟩
theorem pm8_run : X pm8.fn pm8.args [] 0 = some ⟨pm8.val, [], 0⟩ := by kernel_rfl
theorem pm8_ok : pm8.ok = true ∧ ACalls Tryz.prog xglobs pm8.fn pm8.args [] 0 (XQ ⟨pm8.val, [], 0⟩) := ⟨by kernel_rfl, X_ok _ _ _ _ _ pm8_run⟩
theorem pm9_run : X pm9.fn pm9.args [] 0 = some ⟨pm9.val, [], 0⟩ := by kernel_rfl
theorem pm9_ok : pm9.ok = true ∧ ACalls Tryz.prog xglobs pm9.fn pm9.args [] 0 (XQ ⟨pm9.val, [], 0⟩) := ⟨by kernel_rfl, X_ok _ _ _ _ _ pm9_run⟩
theorem pm10_run : X pm10.fn pm10.args [] 0 = some ⟨pm10.val, [], 0⟩ := by kernel_rfl
theorem pm10_ok : pm10.ok = true ∧ ACalls Tryz.prog xglobs pm10.fn pm10.args [] 0 (XQ ⟨pm10.val, [], 0⟩) := ⟨by kernel_rfl, X_ok _ _ _ _ _ pm10_run⟩
theorem pm11_run : X pm11.fn pm11.args [] 0 = some ⟨pm11.val, [], 0⟩ := by kernel_rfl
theorem pm11_ok : pm11.ok = true ∧ ACalls Tryz.prog xglobs pm11.fn pm11.args [] 0 (XQ ⟨pm11.val, [], 0⟩) := ⟨by kernel_rfl, X_ok _ _ _ _ _ pm11_run⟩
theorem pm12_run : X pm12.fn pm12.args [] 0 = some ⟨pm12.val, [], 0⟩ := by kernel_rfl
theorem pm12_ok : pm12.ok = true ∧ ACalls Tryz.prog xglobs pm12.fn pm12.args [] 0 (XQ ⟨pm12.val, [], 0⟩) := ⟨by kernel_rfl, X_ok _ _ _ _ _ pm12_run⟩
theorem pm13_run : X pm13.fn pm13.args [] 0 = some ⟨pm13.val, [], 0⟩ := by kernel_rfl
theorem pm13_ok : pm13.ok = true ∧ ACalls Tryz.prog xglobs pm13.fn pm13.args [] 0 (XQ ⟨pm13.val, [], 0⟩) := ⟨by kernel_rfl, X_ok _ _ _ _ _ pm13_run⟩
theorem pm14_run : X pm14.fn pm14.args [] 0 = some ⟨pm14.val, [], 0⟩ := by kernel_rfl
theorem pm14_ok : pm14.ok = true ∧ ACalls Tryz.prog xglobs pm14.fn pm14.args [] 0 (XQ ⟨pm14.val, [], 0⟩) := ⟨by kernel_rfl, X_ok _ _ _ _ _ pm14_run⟩
theorem pm15_run : X pm15.fn pm15.args [] 0 = some ⟨pm15.val, [], 0⟩ := by kernel_rfl
theorem pm15_ok : pm15.ok = true ∧ ACalls Tryz.prog xglobs pm15.fn pm15.args [] 0 (XQ ⟨pm15.val, [], 0⟩) := ⟨by kernel_rfl, X_ok _ _ _ _ _ pm15_run⟩
theorem pm16_run : X pm16.fn pm16.args [] 0 = some ⟨pm16.val, [], 0⟩ := by kernel_rfl
theorem pm16_ok : pm16.ok = true ∧ ACalls Tryz.prog xglobs pm16.fn pm16.args [] 0 (XQ ⟨pm16.val, [], 0⟩) := ⟨by kernel_rfl, X_ok _ _ _ _ _ pm16_run⟩
theorem pm17_run : X pm17.fn pm17.args [] 0 = some ⟨pm17.val, [], 0⟩ := by kernel_rfl
theorem pm17_ok : pm17.ok = true ∧ ACalls Tryz.prog xglobs pm17.fn pm17.args [] 0 (XQ ⟨pm17.val, [], 0⟩) := ⟨by kernel_rfl, X_ok _ _ _ _ _ pm17_run⟩
theorem pm18_run : X pm18.fn pm18.args [] 0 = some ⟨pm18.val, [], 0⟩ := by kernel_rfl
theorem pm18_ok : pm18.ok = true ∧ ACalls Tryz.prog xglobs pm18.fn pm18.args [] 0 (XQ ⟨pm18.val, [], 0⟩) := ⟨by kernel_rfl, X_ok _ _ _ _ _ pm18_run⟩
theorem pm19_run : X pm19.fn pm19.args [] 0 = some ⟨pm19.val, [], 0⟩ := by kernel_rfl
theorem pm19_ok : pm19.ok = true ∧ ACalls Tryz.prog xglobs pm19.fn pm19.args [] 0 (XQ ⟨pm19.val, [], 0⟩) := ⟨by kernel_rfl, X_ok _ _ _ _ _ pm19_run⟩
theorem pm20_run : X pm20.fn pm20.args [] 0 = some ⟨pm20.val, [], 0⟩ := by kernel_rfl
theorem pm20_ok : pm20.ok = true ∧ ACalls Tryz.prog xglobs pm20.fn pm20.args [] 0 (XQ ⟨pm20.val, [], 0⟩) := ⟨by kernel_rfl, X_ok _ _ _ _ _ pm20_run⟩
theorem pm21_run : X pm21.fn pm21.args [] 0 = some ⟨pm21.val, [], 0⟩ := by kernel_rfl
theorem pm21_ok : pm21.ok = true ∧ ACalls Tryz.prog xglobs pm21.fn pm21.args [] 0 (XQ ⟨pm21.val, [], 0⟩) := ⟨by kernel_rfl, X_ok _ _ _ _ _ pm21_run⟩
theorem pm22_run : X pm22.fn pm22.args [] 0 = some ⟨pm22.val, [], 0⟩ := by kernel_rfl
theorem pm22_ok : pm22.ok = true ∧ ACalls Tryz.prog xglobs pm22.fn pm22.args [] 0 (XQ ⟨pm22.val, [], 0⟩) := ⟨by kernel_rfl, X_ok _ _ _ _ _ pm22_run⟩
theorem pm23_run : X pm23.fn pm23.args [] 0 = some ⟨pm23.val, [], 0⟩ := by kernel_rfl
theorem pm23_ok : pm23.ok = true ∧ ACalls Tryz.prog xglobs pm23.fn pm23.args [] 0 (XQ ⟨pm23.val, [], 0⟩) := ⟨by kernel_rfl, X_ok _ _ _ _ _ pm23_run⟩
theorem pm24_run : X pm24.fn pm24.args [] 0 = some ⟨pm24.val, [], 0⟩ := by kernel_rfl
theorem pm24_ok : pm24.ok = true ∧ ACalls Tryz.prog xglobs pm24.fn pm24.args [] 0 (XQ ⟨pm24.val, [], 0⟩) := ⟨by kernel_rfl, X_ok _ _ _ _ _ pm24_run⟩
theorem pm25_run : X pm25.fn pm25.args [] 0 = some ⟨pm25.val, [], 0⟩ := by kernel_rfl
theorem pm25_ok : pm25.ok = true ∧ ACalls Tryz.prog xglobs pm25.fn pm25.args [] 0 (XQ ⟨pm25.val, [], 0⟩) := ⟨by kernel_rfl, X_ok _ _ _ _ _ pm25_run⟩
theorem pm26_run : X pm26.fn pm26.args [] 0 = some ⟨pm26.val, [], 0⟩ := by kernel_rfl
theorem pm26_ok : pm26.ok = true ∧ ACalls Tryz.prog xglobs pm26.fn pm26.args [] 0 (XQ ⟨pm26.val, [], 0⟩) := ⟨by kernel_rfl, X_ok _ _ _ _ _ pm26_run⟩
theorem pm27_run : X pm27.fn pm27.args [] 0 = some ⟨pm27.val, [], 0⟩ := by kernel_rfl
theorem pm27_ok : pm27.ok = true ∧ ACalls Tryz.prog xglobs pm27.fn pm27.args [] 0 (XQ ⟨pm27.val, [], 0⟩) := ⟨by kernel_rfl, X_ok _ _ _ _ _ pm27_run⟩
theorem pm28_run : X pm28.fn pm28.args [] 0 = some ⟨pm28.val, [], 0⟩ := by kernel_rfl
theorem pm28_ok : pm28.ok = true ∧ ACalls Tryz.prog xglobs pm28.fn pm28.args [] 0 (XQ ⟨pm28.val, [], 0⟩) := ⟨by kernel_rfl, X_ok _ _ _ _ _ pm28_run⟩
theorem pm29_run : X pm29.fn pm29.args [] 0 = some ⟨pm29.val, [], 0⟩ := by kernel_rfl
theorem pm29_ok : pm29.ok = true ∧ ACalls Tryz.prog xglobs pm29.fn pm29.args [] 0 (XQ ⟨pm29.val, [], 0⟩) := ⟨by kernel_rfl, X_ok _ _ _ _ _ pm29_run⟩
theorem pm30_run : X pm30.fn pm30.args [] 0 = some ⟨pm30.val, [], 0⟩ := by kernel_rfl
theorem pm30_ok : pm30.ok = true ∧ ACalls Tryz.prog xglobs pm30.fn pm30.args [] 0 (XQ ⟨pm30.val, [], 0⟩) := ⟨by kernel_rfl, X_ok _ _ _ _ _ pm30_run⟩
theorem pm31_run : X pm31.fn pm31.args [] 0 = some ⟨pm31.val, [], 0⟩ := by kernel_rfl
theorem pm31_ok : pm31.ok = true ∧ ACalls Tryz.prog xglobs pm31.fn pm31.args [] 0 (XQ ⟨pm31.val, [], 0⟩) := ⟨by kernel_rfl, X_ok _ _ _ _ _ pm31_run⟩
theorem pm32_run : X pm32.fn pm32.args [] 0 = some ⟨pm32.val, [], 0⟩ := by kernel_rfl
theorem pm32_ok : pm32.ok = true ∧ ACalls Tryz.prog xglobs pm32.fn pm32.args [] 0 (XQ ⟨pm32.val, [], 0⟩) := ⟨by kernel_rfl, X_ok _ _ _ _ _ pm32_run⟩
theorem pm33_run : X pm33.fn pm33.args [] 0 = some ⟨pm33.val, [], 0⟩ := by kernel_rfl
theorem pm33_ok : pm33.ok = true ∧ ACalls Tryz.prog xglobs pm33.fn pm33.args [] 0 (XQ ⟨pm33.val, [], 0⟩) := ⟨by kernel_rfl, X_ok _ _ _ _ _ pm33_run⟩
theorem pm34_run : X pm34.fn pm34.args [] 0 = some ⟨pm34.val, [], 0⟩ := by kernel_rfl
theorem pm34_ok : pm34.ok = true ∧ ACalls Tryz.prog xglobs pm34.fn pm34.args [] 0 (XQ ⟨pm34.val, [], 0⟩) := ⟨by kernel_rfl, X_ok _ _ _ _ _ pm34_run⟩
theorem pm35_run : X pm35.fn pm35.args [] 0 = some ⟨pm35.val, [], 0⟩ := by kernel_rfl
theorem pm35_ok : pm35.ok = true ∧ ACalls Tryz.prog xglobs pm35.fn pm35.args [] 0 (XQ ⟨pm35.val, [], 0⟩) := ⟨by kernel_rfl, X_ok _ _ _ _ _ pm35_run⟩
theorem pm36_run : X pm36.fn pm36.args [] 0 = some ⟨pm36.val, [], 0⟩ := by kernel_rfl
theorem pm36_ok : pm36.ok = true ∧ ACalls Tryz.prog xglobs pm36.fn pm36.args [] 0 (XQ ⟨pm36.val, [], 0⟩) := ⟨by kernel_rfl, X_ok _ _ _ _ _ pm36_run⟩
theorem pm37_run : X pm37.fn pm37.args [] 0 = some ⟨pm37.val, [], 0⟩ := by kernel_rfl
theorem pm37_ok : pm37.ok = true ∧ ACalls Tryz.prog xglobs pm37.fn pm37.args [] 0 (XQ ⟨pm37.val, [], 0⟩) := ⟨by kernel_rfl, X_ok _ _ _ _ _ pm37_run⟩

noncomputable def LX1 : XCalls := orX libR (pmemoX [pm0, pm1, pm2, pm3, pm4, pm5, pm6, pm7, pm8, pm9, pm10, pm11, pm12, pm13, pm14, pm15, pm16, pm17, pm18, pm19, pm20, pm21, pm22, pm23, pm24, pm25, pm26, pm27, pm28, pm29, pm30, pm31, pm32, pm33, pm34, pm35, pm36, pm37])
theorem LX1_ok : XOk Tryz.prog xglobs LX1 := orX_ok libR_ok (pmemoX_ok (by
  intro m hm
  simp only [List.mem_cons, List.not_mem_nil, or_false] at hm
  rcases hm with rfl | rfl | rfl | rfl | rfl | rfl | rfl | rfl | rfl | rfl | rfl | rfl | rfl | rfl | rfl | rfl | rfl | rfl | rfl | rfl | rfl | rfl | rfl | rfl | rfl | rfl | rfl | rfl | rfl | rfl | rfl | rfl | rfl | rfl | rfl | rfl | rfl | rfl
  · exact pm0_ok
  · exact pm1_ok
  · exact pm2_ok
  · exact pm3_ok
  · exact pm4_ok
  · exact pm5_ok
  · exact pm6_ok
  · exact pm7_ok
  · exact pm8_ok
  · exact pm9_ok
  · exact pm10_ok
  · exact pm11_ok
  · exact pm12_ok
  · exact pm13_ok
  · exact pm14_ok
  · exact pm15_ok
  · exact pm16_ok
  · exact pm17_ok
  · exact pm18_ok
  · exact pm19_ok
  · exact pm20_ok
  · exact pm21_ok
  · exact pm22_ok
  · exact pm23_ok
  · exact pm24_ok
  · exact pm25_ok
  · exact pm26_ok
  · exact pm27_ok
  · exact pm28_ok
  · exact pm29_ok
  · exact pm30_ok
  · exact pm31_ok
  · exact pm32_ok
  · exact pm33_ok
  · exact pm34_ok
  · exact pm35_ok
  · exact pm36_ok
  · exact pm37_ok))
noncomputable def X1 : XCalls := fcall (env Prims.fast) xglobs xmoves xcaps ftab.find LX1 3000 60
theorem X1_ok : XOk Tryz.prog xglobs X1 := fun f args heap next r h => fcall_sound 3000 envF ftab_ok (M := LX1) LX1_ok 60 f args heap next r h
end Go.Proofs.YtmclhadhncbdhaaGreatDoor
