/- MethodtableLimits: a call of the check that is reckoned apart. -/
import Derived.Test.YteanmfacikjjhaaGreatDoorMemo
namespace Go.Proofs.YteanmfacikjjhaaGreatDoor
open Go.Tp
set_option maxRecDepth 100000
set_option maxHeartbeats 1000000
theorem memo1_run : X memo1.fn memo1.args memo1.heap memo1.next = some memo1.res := by kernel_rfl
theorem memo1_ok : ACalls Tryz.prog xglobs memo1.fn memo1.args memo1.heap memo1.next (XQ memo1.res) := X_ok _ _ _ _ _ memo1_run
end Go.Proofs.YteanmfacikjjhaaGreatDoor
