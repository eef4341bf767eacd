/- HierarchyFull: behind the loop. -/
import Derived.Test.YtgodfnboklbiiaaDoorH1
namespace Go.Proofs.YtgodfnboklbiiaaDoor
open Go.Tp
set_option maxRecDepth 100000
noncomputable def ending (c : Code) (f : FState) : Option XRes := match run c f with | some (.ret, f) => fret (env Prims.fast) 52 Tryd.f3.results.toList f | _ => none
theorem post0 : (ending cPost (S6 (Int.ofNat 54) (Int.ofNat 54) (heapS 54) false)).map (fun r => (match r.val with | .dat (.flat (.bool b)) => b | _ => false)) = some true := by kernel_rfl
theorem post1 : (ending cPost (S6 (Int.ofNat 55) (Int.ofNat 55) (heapS 55) false)).map (fun r => (match r.val with | .dat (.flat (.bool b)) => b | _ => false)) = some true := by kernel_rfl
theorem post2 : (ending cPost (S6 (Int.ofNat 56) (Int.ofNat 56) (heapS 56) false)).map (fun r => (match r.val with | .dat (.flat (.bool b)) => b | _ => false)) = some true := by kernel_rfl
theorem post3 : (ending cPost (S6 (Int.ofNat 57) (Int.ofNat 57) (heapS 56) false)).map (fun r => (match r.val with | .dat (.flat (.bool b)) => b | _ => false)) = some true := by kernel_rfl
theorem post4 : (ending cPost (S6 (Int.ofNat 58) (Int.ofNat 58) (heapS 56) false)).map (fun r => (match r.val with | .dat (.flat (.bool b)) => b | _ => false)) = some true := by kernel_rfl
end Go.Proofs.YtgodfnboklbiiaaDoor
