/- IrLimits: the small cases. Printed by a program. -/
import Derived.Test.YtgodfnboklbiiacGreatDoorB
namespace Go.Proofs.YtgodfnboklbiiacGreatDoor
open Go.Tp
set_option maxRecDepth 100000
theorem case0_0 : okR (ending (.seq cSw cPost) (SP (-1) 0)) = some true := by kernel_rfl
theorem case0_1 : okR (ending (.seq cSw cPost) (SP (0) 0)) = some true := by kernel_rfl
theorem case0_2 : okR (ending (.seq cSw cPost) (SP (1) 0)) = some true := by kernel_rfl
end Go.Proofs.YtgodfnboklbiiacGreatDoor
namespace Go.Proofs.YtgodfnboklbiiacGreatDoor
open Go.Tp
set_option maxRecDepth 100000
theorem case2_0 : okR (ending (.seq cSw cPost) (SP (-1) 2)) = some true := by kernel_rfl
theorem case2_1 : okR (ending (.seq cSw cPost) (SP (0) 2)) = some true := by kernel_rfl
theorem case2_2 : okR (ending (.seq cSw cPost) (SP (1) 2)) = some true := by kernel_rfl
end Go.Proofs.YtgodfnboklbiiacGreatDoor
namespace Go.Proofs.YtgodfnboklbiiacGreatDoor
open Go.Tp
set_option maxRecDepth 100000
theorem case3_0 : okR (ending (.seq cSw cPost) (SP (-1) 3)) = some true := by kernel_rfl
theorem case3_1 : okR (ending (.seq cSw cPost) (SP (0) 3)) = some true := by kernel_rfl
theorem case3_2 : okR (ending (.seq cSw cPost) (SP (1) 3)) = some true := by kernel_rfl
end Go.Proofs.YtgodfnboklbiiacGreatDoor
