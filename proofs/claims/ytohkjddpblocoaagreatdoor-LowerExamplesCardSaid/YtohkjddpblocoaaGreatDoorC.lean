/- LowerExamples: the run. -/
import Derived.Test.YtohkjddpblocoaaGreatDoorB0
import Derived.Test.YtohkjddpblocoaaGreatDoorB1
import Derived.Test.YtohkjddpblocoaaGreatDoorB2
namespace Go.Proofs.YtohkjddpblocoaaGreatDoor
open Go.Tp
set_option maxRecDepth 100000
set_option maxHeartbeats 1000000

def M : XCalls := orX libX (memoX [memo0, memo1, memo2])
theorem M_ok : XOk Tryz.prog xglobs M := orX_ok libX_ok (memoX_ok (by
  intro m hm
  simp only [List.mem_cons, List.not_mem_nil, or_false] at hm
  rcases hm with rfl | rfl | rfl
  · exact memo0_ok
  · exact memo1_ok
  · exact memo2_ok))
noncomputable def XM : XCalls := fcall (env Prims.fast) xglobs xmoves xcaps ftab.find M 3000 60
theorem XM_ok : XOk Tryz.prog xglobs XM := fun f args heap next r h => fcall_sound 3000 envF ftab_ok (M := M) M_ok 60 f args heap next r h

def okR : Option XRes → Option Bool
  | some r => some (match r.val with | .dat (.flat (.bool b)) => b | _ => false)
  | none => none
theorem law_ok : okR (XM 3 [] [] 0) = some true := by kernel_rfl
end Go.Proofs.YtohkjddpblocoaaGreatDoor
