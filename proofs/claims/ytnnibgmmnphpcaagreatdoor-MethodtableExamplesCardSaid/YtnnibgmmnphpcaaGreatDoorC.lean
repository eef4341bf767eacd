/- MethodtableExamples: the run. -/
import Derived.Test.YtnnibgmmnphpcaaGreatDoorD
import Derived.Test.YtnnibgmmnphpcaaGreatDoorB4
import Derived.Test.YtnnibgmmnphpcaaGreatDoorB5
import Derived.Test.YtnnibgmmnphpcaaGreatDoorB6
import Derived.Test.YtnnibgmmnphpcaaGreatDoorB7
namespace Go.Proofs.YtnnibgmmnphpcaaGreatDoor
open Go.Tp
set_option maxRecDepth 100000
set_option maxHeartbeats 1000000

noncomputable def LXM : XCalls := orX libR (memoX [memo0, memo1, memo2, memo3, memo4, memo5, memo6, memo7])
theorem LXM_ok : XOk Tryz.prog xglobs LXM := orX_ok libR_ok (memoX_ok (by
  intro m hm
  simp only [List.mem_cons, List.not_mem_nil, or_false] at hm
  rcases hm with rfl | rfl | rfl | rfl | rfl | rfl | rfl | rfl
  · exact memo0_ok
  · exact memo1_ok
  · exact memo2_ok
  · exact memo3_ok
  · exact memo4_ok
  · exact memo5_ok
  · exact memo6_ok
  · exact memo7_ok))
noncomputable def XM : XCalls := fcall (env Prims.fast) xglobs xmoves xcaps ftab.find LXM 3000 60
theorem XM_ok : XOk Tryz.prog xglobs XM := fun f args heap next r h => fcall_sound 3000 envF ftab_ok (M := LXM) LXM_ok 60 f args heap next r h

def okR : Option XRes → Option Bool
  | some r => some (match r.val with | .dat (.flat (.bool b)) => b | _ => false)
  | none => none
theorem law_ok : okR (XM 3 [] [] 0) = some true := by kernel_rfl
end Go.Proofs.YtnnibgmmnphpcaaGreatDoor
