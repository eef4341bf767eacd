/- IrLimits: the long cases. -/
import Derived.Test.YtgodfnboklbiiacGreatDoorT
namespace Go.Proofs.YtgodfnboklbiiacGreatDoor
open Go.Tp
set_option maxRecDepth 100000
theorem XT_ok : XOk Tryz.prog xglobs XT := by
  intro f args heap next r h
  unfold XT at h
  split at h
  · rename_i r' hr'
    simp at h
    subst h
    exact knownT_ok _ _ _ _ _ hr'
  · exact XM_ok f args heap next r h
theorem t_true {t : Nat} {x y : Code} {f : FState} (h : feval xglobs 88 f (.tmp t) = bv true) : rt3 (.cond (.tmp t) x y) f = rt3 x f := by
  unfold rt3
  rw [fcode_cond, h]
theorem t_false {t : Nat} {x y : Code} {f : FState} (h : feval xglobs 88 f (.tmp t) = bv false) : rt3 (.cond (.tmp t) x y) f = rt3 y f := by
  unfold rt3
  rw [fcode_cond, h]
def lo5 : Heap := [(.loc 5, .cells [iv 0, iv 1, .dat (.slice [instrD 19]), .dat (.flat (.slice none 0 0))])]
theorem t_13 (n : Int) : rt3 (fstC (elseC (sndC sw1))) ⟨[(38, bv false), (16, iv 1), (6, iv 4), (5, .ptr (.loc 5) 0), (1, iv n)], lo5, [], 0⟩ = some (.normal, ⟨[(43, bv true), (16, iv 1), (6, iv 4), (5, .ptr (.loc 5) 0), (1, iv n)], lo5, [], 0⟩) := by kernel_rfl
theorem t_sw1 {n : Int} {m : Nat} (hn : wrapF .i64 (2000 + n) = Int.ofNat (m + 1 + 1)) (hm : m + 1 < 2500) : rt3 cSw (SP n 1) = some (.normal, PB [] n (.own (esN (m + 1)))) := by
  rw [cSw_eq]
  refine fblock_norm ?_
  refine (fseq_norm (t_sw n)).trans ?_
  refine (t_false (by kernel_rfl)).trans ?_
  refine (fseq_norm (t_13 n)).trans ?_
  refine (t_true (by kernel_rfl)).trans ?_
  rw [cA_eq]
  have e : ∀ f, rt3 (.seq a14 (.seq (.seq a15 (.block 3 (.loop aBody))) a19)) f = rt3 (.seq (.seq a14 a15) (.seq (.block 3 (.loop aBody)) a19)) f := by
    intro f
    unfold rt3
    rw [fseq_assoc a14 a15]
    exact fseq_congr (fun f => fseq_assoc _ _ _ f) f
  rw [e]
  refine (fseq_norm (t_cA0 n)).trans ?_
  refine (fseq_norm (t_loop hn hm)).trans ?_
  exact t_19r n _ (es := ticks (m + 1)) (r := esN (m + 1)) rfl (app_tick (by omega) 19) rfl
noncomputable def endT (f : FState) : Option XRes := match rt3 cPost f with | some (.ret, f) => fret (env Prims.fast) 88 Tryz.f3.results.toList f | _ => none
theorem t_end8 : okR (endT (PB [] (-1) (.own (esN 1998)))) = some true := by kernel_rfl
theorem t_end9 : okR (endT (PB [] 0 (.own (esN 1999)))) = some true := by kernel_rfl
theorem t_end0 : okR (endT (PB [] 1 (.own (esN 2000)))) = some true := by kernel_rfl
theorem t_pre (which n : Int) : rt3 cPre ⟨[(0, iv which), (1, iv n)], [], [], 0⟩ = some (.normal, SP (wrapF .i64 (modZ n 3 - 1)) (modZ which 4)) := by kernel_rfl
end Go.Proofs.YtgodfnboklbiiacGreatDoor
