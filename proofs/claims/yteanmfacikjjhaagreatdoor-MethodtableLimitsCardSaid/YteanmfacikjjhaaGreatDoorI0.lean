/- MethodtableLimits: the functions' names are words. -/
import Derived.Test.YteanmfacikjjhaaGreatDoorS7
namespace Go.Proofs.YteanmfacikjjhaaGreatDoor
open Go.Tp
set_option maxRecDepth 100000
set_option maxHeartbeats 4000000
theorem ident0 : allB (fun i => identR (Y 53 [.dat (str (nmB (0 + i)))] [] 0)) 25 = true := by kernel_rfl
theorem ident25 : allB (fun i => identR (Y 53 [.dat (str (nmB (25 + i)))] [] 0)) 25 = true := by kernel_rfl
theorem ident50 : allB (fun i => identR (Y 53 [.dat (str (nmB (50 + i)))] [] 0)) 25 = true := by kernel_rfl
theorem ident75 : allB (fun i => identR (Y 53 [.dat (str (nmB (75 + i)))] [] 0)) 25 = true := by kernel_rfl
end Go.Proofs.YteanmfacikjjhaaGreatDoor
