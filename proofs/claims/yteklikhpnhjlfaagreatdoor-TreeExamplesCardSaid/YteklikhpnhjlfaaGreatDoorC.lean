/- TreeExamples: the run. -/
import Derived.Test.YteklikhpnhjlfaaGreatDoorB0
namespace Go.Proofs.YteklikhpnhjlfaaGreatDoor
open Go.Tp
set_option maxRecDepth 100000
set_option maxHeartbeats 1000000

noncomputable def LXM : XCalls := orX LX2 (memoX [memo0])
theorem LXM_ok : XOk Tryz.prog xglobs LXM := orX_ok LX2_ok (memoX_ok (by
  intro m hm
  simp only [List.mem_cons, List.not_mem_nil, or_false] at hm
  rcases hm with rfl
  · exact memo0_ok))
noncomputable def XM : XCalls := fcall (env Prims.fast) xglobs xmoves xcaps ftab.find LXM 3000 60
theorem XM_ok : XOk Tryz.prog xglobs XM := fun f args heap next r h => fcall_sound 3000 envF ftab_ok (M := LXM) LXM_ok 60 f args heap next r h

def okR : Option XRes → Option Bool
  | some r => some (match r.val with | .dat (.flat (.bool b)) => b | _ => false)
  | none => none
theorem law_ok : okR (XM 3 [] [] 0) = some true := by kernel_rfl
end Go.Proofs.YteklikhpnhjlfaaGreatDoor
