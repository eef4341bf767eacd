/- IrLimits: hasFreeCycle and validate, whole. -/
import Derived.Test.YtgodfnboklbiiacGreatDoorW
namespace Go.Proofs.YtgodfnboklbiiacGreatDoor
open Go.Tp
set_option maxRecDepth 100000

section
variable {X : XCalls} {E : TEnv} {G : Globs} {H : Hints} {n : Nat} {live : Nat → Nat} {fuel : Nat}
theorem fseq_mid (a b c d e : Code) (f : FState) : fcode X E G H n live fuel (.seq a (.seq b (.seq (.seq c d) e))) f = fcode X E G H n live fuel (.seq (.seq a (.seq b c)) (.seq d e)) f := by
  rw [fseq_assoc]
  refine (fseq_congr (fun f => ?_) f).trans (fseq_congr (fun f => (fseq_assoc b c (.seq d e) f).symm) f)
  exact fseq_congr (fun f => fseq_assoc c d e f) f
end

noncomputable def fin18 (n : Nat) (f : FState) : Option XRes := match floop (rl18 body18) n f with
  | some (.exit 0, f) => (match rl18 post18 f with | some (.ret, f) => (match fret (env Prims.fast) 135 Tryz.f18.results.toList f with | some r => some (gcR 0 r) | none => none) | _ => none)
  | _ => none
theorem e_pre8 : rl18 pre18 ⟨[(0, codeA (esN 1998))], [], [], 0⟩ = some (.normal, SR 1998 0) := by kernel_rfl
theorem e_pre9 : rl18 pre18 ⟨[(0, codeA (esN 1999))], [], [], 0⟩ = some (.normal, SR 1999 0) := by kernel_rfl
theorem e_fin8 : fin18 (3000 - 1998) (SR 1998 1998) = some ⟨bv false, [], 0⟩ := by kernel_rfl
theorem e_fin9 : fin18 (3000 - 1999) (SR 1999 1999) = some ⟨bv false, [], 0⟩ := by kernel_rfl

theorem c_hfc {k : Nat} (hk : k < 2900) (hp : rl18 pre18 ⟨[(0, codeA (esN k))], [], [], 0⟩ = some (.normal, SR k 0)) (hf : fin18 (3000 - k) (SR k k) = some ⟨bv false, [], 0⟩) : ACalls Tryz.prog xglobs 18 [codeA (esN k)] [] 0 (XQ ⟨bv false, [], 0⟩) := by
  unfold fin18 at hf
  rw [← e_loop hk] at hf
  split at hf
  · rename_i f1 h1
    split at hf
    · rename_i f2 h2
      split at hf
      · rename_i r hr
        simp at hf
        rw [← hf]
        refine acalls_of_run (fn := Tryz.f18) (c := code18) (moves := xmoves) (caps := xcaps) (ord := ord18) (live := live18) (fuel := 3000) (X := XL) (fs := f2) envF XL_ok Tryz.func18 (by kernel_rfl) (by kernel_rfl) (of_decide_eq_true (by kernel_rfl)) ?_ hr
        have e : code18 = .seq (fstC code18) (.seq (fstC (sndC code18)) (.seq (.seq (fstC (fstC (sndC (sndC code18)))) (.block 0 (.loop body18))) post18)) := code18_eq
        rw [e, fseq_mid]
        refine (fseq_norm (x := pre18) hp).trans ?_
        refine (fseq_norm (x := .block 0 (.loop body18)) (f1 := f1) ?_).trans h2
        exact fblock_exit h1
      · simp at hf
    · simp at hf
  · simp at hf
theorem c_hfc8 : ACalls Tryz.prog xglobs 18 [codeA (esN 1998)] [] 0 (XQ ⟨bv false, [], 0⟩) := c_hfc (by decide) e_pre8 e_fin8
theorem c_hfc9 : ACalls Tryz.prog xglobs 18 [codeA (esN 1999)] [] 0 (XQ ⟨bv false, [], 0⟩) := c_hfc (by decide) e_pre9 e_fin9

theorem XV_ok : XOk Tryz.prog xglobs XV := by
  intro f args heap next r h
  unfold XV at h
  split at h
  · rename_i r' hr'
    simp at h
    subst h
    unfold knownV at hr'
    split at hr'
    · rename_i c
      split at hr'
      · rename_i es hc
        split at hr'
        · rename_i k hk
          obtain rfl := codeOf_eq hc
          obtain rfl := esOf_eq hk
          split at hr'
          · rename_i hb
            simp at hr'
            subst hr'
            rw [Bool.or_eq_true, Nat.beq_eq, Nat.beq_eq] at hb
            rcases hb with rfl | rfl
            · exact c_hfc8
            · exact c_hfc9
          · simp at hr'
        · simp at hr'
      · simp at hr'
    · simp at hr'
  · exact XL_ok f args heap next r h
end Go.Proofs.YtgodfnboklbiiacGreatDoor
