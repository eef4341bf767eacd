/- MethodtableLimits: a call of the check that is reckoned apart. -/
import Derived.Test.YteanmfacikjjhaaGreatDoorMemo
namespace Go.Proofs.YteanmfacikjjhaaGreatDoor
open Go.Tp
set_option maxRecDepth 100000
set_option maxHeartbeats 1000000
theorem memo0_run : X memo0.fn memo0.args memo0.heap memo0.next = some memo0.res := by kernel_rfl
theorem memo0_ok : ACalls Tryz.prog xglobs memo0.fn memo0.args memo0.heap memo0.next (XQ memo0.res) := X_ok _ _ _ _ _ memo0_run
end Go.Proofs.YteanmfacikjjhaaGreatDoor
