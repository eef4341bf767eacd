/- HierarchyExamples: the run, by the kernel. -/
import Derived.Test.YtiopfepnbbepdaaGreatDoorA
namespace Go.Proofs.YtiopfepnbbepdaaGreatDoor
open Go.Tp
set_option maxRecDepth 100000
set_option maxHeartbeats 1000000

def okR : Option XRes → Option Bool
  | some r => some (match r.val with | .dat (.flat (.bool b)) => b | _ => false)
  | none => none
theorem law_ok : okR (X 3 [] [] 0) = some true := by kernel_rfl
end Go.Proofs.YtiopfepnbbepdaaGreatDoor
