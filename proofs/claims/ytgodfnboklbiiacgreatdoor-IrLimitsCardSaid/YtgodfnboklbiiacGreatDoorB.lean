/- IrLimits: up to the switch. -/
import Derived.Test.YtgodfnboklbiiacGreatDoorA
namespace Go.Proofs.YtgodfnboklbiiacGreatDoor
open Go.Tp
set_option maxRecDepth 100000
noncomputable def cPre : Code := .seq (fstC code3) (.seq (fstC (sndC code3)) (.seq (fstC (sndC (sndC code3))) (.seq (fstC (sndC (sndC (sndC code3)))) (fstC (fstC (sndC (sndC (sndC (sndC code3)))))))))
noncomputable def cSw : Code := sndC (fstC (sndC (sndC (sndC (sndC code3)))))
noncomputable def cPost : Code := sndC (sndC (sndC (sndC (sndC code3))))
theorem code3_eq : code3 = .seq (fstC code3) (.seq (fstC (sndC code3)) (.seq (fstC (sndC (sndC code3))) (.seq (fstC (sndC (sndC (sndC code3)))) (.seq (.seq (fstC (fstC (sndC (sndC (sndC (sndC code3)))))) cSw) cPost)))) := by kernel_rfl

def instrD (op : Int) : Dat := .agg [.flat (.int .i64 op), .flat (.int .i64 0), .flat (.int .i64 0), .flat (.int .i64 0), .flat (.int .i64 0), .flat (.string ⟨⟨[]⟩⟩), .flat (.slice none 0 0), .flat (.int .i64 0), .flat (.string ⟨⟨[]⟩⟩), .flat (.int .i64 0), .flat (.slice none 0 0),
  .flat (.int .i64 0), .flat (.int .i64 0), .flat (.string ⟨⟨[]⟩⟩), .flat (.slice none 0 0)]
/-- At the switch: the number, the case. -/
def SP (n w : Int) : FState := ⟨[(16, iv w), (6, iv 4), (5, .ptr (.loc 5) 0), (1, iv n)],
  [(.loc 5, .cells [iv 0, iv 1, .dat (.slice [instrD 19]), .dat (.flat (.slice none 0 0))])], [], 0⟩
theorem pre_run (which n : Int) : run cPre ⟨[(0, iv which), (1, iv n)], [], [], 0⟩ = some (.normal, SP (wrapF .i64 (modZ n 3 - 1)) (modZ which 4)) := by kernel_rfl

noncomputable def ending (c : Code) (f : FState) : Option XRes := match run c f with | some (.ret, f) => fret (env Prims.fast) 88 Tryz.f3.results.toList f | _ => none
def okR (r : Option XRes) : Option Bool := r.map (fun r => (match r.val with | .dat (.flat (.bool b)) => b | _ => false))
end Go.Proofs.YtgodfnboklbiiacGreatDoor
