/- MethodtableLimits: the functions' names are words. -/
import Derived.Test.YteanmfacikjjhaaGreatDoorS7
namespace Go.Proofs.YteanmfacikjjhaaGreatDoor
open Go.Tp
set_option maxRecDepth 100000
set_option maxHeartbeats 4000000
theorem ident100 : allB (fun i => identR (Y 53 [.dat (str (nmB (100 + i)))] [] 0)) 25 = true := by kernel_rfl
theorem ident125 : allB (fun i => identR (Y 53 [.dat (str (nmB (125 + i)))] [] 0)) 25 = true := by kernel_rfl
theorem ident150 : allB (fun i => identR (Y 53 [.dat (str (nmB (150 + i)))] [] 0)) 25 = true := by kernel_rfl
theorem ident175 : allB (fun i => identR (Y 53 [.dat (str (nmB (175 + i)))] [] 0)) 25 = true := by kernel_rfl
end Go.Proofs.YteanmfacikjjhaaGreatDoor
