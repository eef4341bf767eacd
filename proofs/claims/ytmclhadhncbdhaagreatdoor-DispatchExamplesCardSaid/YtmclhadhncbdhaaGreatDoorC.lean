/- DispatchExamples: the run. -/
import Derived.Test.YtmclhadhncbdhaaGreatDoorB0
import Derived.Test.YtmclhadhncbdhaaGreatDoorB1
import Derived.Test.YtmclhadhncbdhaaGreatDoorB2
namespace Go.Proofs.YtmclhadhncbdhaaGreatDoor
open Go.Tp
set_option maxRecDepth 100000
set_option maxHeartbeats 1000000

noncomputable def LXM : XCalls := orX LX3 (memoX [memo8, memo9, memo10, memo11, memo12, memo13, memo14, memo15])
theorem LXM_ok : XOk Tryz.prog xglobs LXM := orX_ok LX3_ok (memoX_ok (by
  intro m hm
  simp only [List.mem_cons, List.not_mem_nil, or_false] at hm
  rcases hm with rfl | rfl | rfl | rfl | rfl | rfl | rfl | rfl
  · exact memo8_ok
  · exact memo9_ok
  · exact memo10_ok
  · exact memo11_ok
  · exact memo12_ok
  · exact memo13_ok
  · exact memo14_ok
  · exact memo15_ok))
noncomputable def XM : XCalls := fcall (env Prims.fast) xglobs xmoves xcaps ftab.find LXM 3000 60
theorem XM_ok : XOk Tryz.prog xglobs XM := fun f args heap next r h => fcall_sound 3000 envF ftab_ok (M := LXM) LXM_ok 60 f args heap next r h

def okR : Option XRes → Option Bool
  | some r => some (match r.val with | .dat (.flat (.bool b)) => b | _ => false)
  | none => none
theorem law_ok : okR (XM 3 [] [] 0) = some true := by kernel_rfl
end Go.Proofs.YtmclhadhncbdhaaGreatDoor
