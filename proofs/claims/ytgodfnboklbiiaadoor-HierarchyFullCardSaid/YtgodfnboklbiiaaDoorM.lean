/- HierarchyFull: the remainder. -/
import Derived.Test.YtgodfnboklbiiaaDoorH1
import Derived.Test.YtgodfnboklbiiaaDoorTpLast
namespace Go.Proofs.YtgodfnboklbiiaaDoor
open Go.Tp
set_option maxRecDepth 100000

theorem modZ_eq (n : Int) : modZ n = n % 5 := by
  unfold modZ
  rw [Int.tmod_eq_emod]
  split <;> split <;> omega
theorem envF : (env Prims.fast).Ok Tryd.prog := by rw [fast_std]; exact env_ok

noncomputable def code6 : Code := match Tryd.f6.body with | some c => c | none => .skip
noncomputable def run6 (c : Code) (f : FState) : Option (Exit × FState) := fcode (fun _ _ _ _ => none) (env Prims.fast) xglobs ⟨xmoves, ord6, xcaps⟩ 14 live6 1000 c f
noncomputable def mHead : Code := .seq (fstC code6) (.seq (fstC (sndC code6)) (fstC (fstC (sndC (sndC code6)))))
noncomputable def mTest : Code := sndC (fstC (sndC (sndC code6)))
noncomputable def mEnd : Code := sndC (sndC (sndC code6))
theorem code6_eq : code6 = .seq (fstC code6) (.seq (fstC (sndC code6)) (.seq (.seq (fstC (fstC (sndC (sndC code6)))) mTest) mEnd)) := by kernel_rfl
def sM (r : Int) (h : Heap) (k : Nat) (b : Bool) : FState := ⟨[(9, bv b), (0, iv r), (1, iv 5)], [], h, k⟩
theorem m_head (a : Int) (h : Heap) (k : Nat) : run6 mHead ⟨[(0, iv a), (1, iv 5)], [], h, k⟩ = some (.normal, sM (a.tmod 5) h k (ltF (a.tmod 5) 0)) := by kernel_rfl
theorem m_true (r : Int) (h : Heap) (k : Nat) : (match run6 (.seq mTest mEnd) (sM r h k true) with | some (.ret, f) => fret (env Prims.fast) 14 Tryd.f6.results.toList f | _ => none) = some ⟨iv (wrapF .i64 (r + 5)), h, k⟩ := by kernel_rfl
theorem m_false (r : Int) (h : Heap) (k : Nat) : (match run6 (.seq mTest mEnd) (sM r h k false) with | some (.ret, f) => fret (env Prims.fast) 14 Tryd.f6.results.toList f | _ => none) = some ⟨iv r, h, k⟩ := by kernel_rfl

theorem m_run (a : Int) (h : Heap) (k : Nat) : ∃ f, run6 code6 ⟨[(0, iv a), (1, iv 5)], [], h, k⟩ = some (.ret, f) ∧ fret (env Prims.fast) 14 Tryd.f6.results.toList f = some ⟨iv (modZ a), h, k⟩ := by
  have key : ∃ f, run6 (.seq mTest mEnd) (sM (a.tmod 5) h k (ltF (a.tmod 5) 0)) = some (.ret, f) ∧ fret (env Prims.fast) 14 Tryd.f6.results.toList f = some ⟨iv (modZ a), h, k⟩ := by
    have hz : (match run6 (.seq mTest mEnd) (sM (a.tmod 5) h k (ltF (a.tmod 5) 0)) with | some (.ret, f) => fret (env Prims.fast) 14 Tryd.f6.results.toList f | _ => none) = some ⟨iv (modZ a), h, k⟩ := by
      cases hlt : ltF (a.tmod 5) 0 with
      | true =>
        rw [m_true, wrapF_eq]
        rw [ltF_eq] at hlt
        simp at hlt
        have hb : (a.tmod 5) = if a < 0 then -((-a) % 5) else a % 5 := by
          rw [Int.tmod_eq_emod]
          split <;> split <;> omega
        have e : IntKind.i64.wrap (a.tmod 5 + 5) = modZ a := by
          unfold modZ
          rw [if_pos hlt]
          apply wrap_i64 <;> (rw [hb] at hlt ⊢; split at hlt <;> split <;> omega)
        rw [e]
      | false =>
        rw [m_false]
        rw [ltF_eq] at hlt
        simp at hlt
        have e : a.tmod 5 = modZ a := by unfold modZ; rw [if_neg (by omega)]
        rw [e]
    split at hz
    · rename_i f hf; exact ⟨f, hf, hz⟩
    · simp at hz
  obtain ⟨f, h1, h2⟩ := key
  refine ⟨f, ?_, h2⟩
  have hm := m_head a h k
  rw [code6_eq]
  unfold mHead at hm
  unfold run6 at hm h1 ⊢
  have e : ∀ (a b c d z : Code) (f : FState), fcode (fun _ _ _ _ => none) (env Prims.fast) xglobs ⟨xmoves, ord6, xcaps⟩ 14 live6 1000 (.seq a (.seq b (.seq (.seq c d) z))) f =
      fcode (fun _ _ _ _ => none) (env Prims.fast) xglobs ⟨xmoves, ord6, xcaps⟩ 14 live6 1000 (.seq (.seq a (.seq b c)) (.seq d z)) f := by
    intro a b c d z f
    rw [fseq_assoc]
    refine fseq_congr (fun f => ?_) f
    rw [fseq_assoc]
    refine fseq_congr (fun f => ?_) f
    exact fseq_assoc _ _ _ f
  rw [e, fseq_norm hm]
  exact h1

theorem c_mod (a : Int) (heap : Heap) (next : Nat) : ACalls Tryd.prog xglobs 6 [iv a, iv 5] heap next (XQ (gcR next ⟨iv (modZ a), heap, next⟩)) := by
  obtain ⟨f, h1, h2⟩ := m_run a heap next
  exact acalls_of_run (fn := Tryd.f6) (c := code6) (moves := xmoves) (caps := xcaps) (ord := ord6) (live := live6) (fuel := 1000) envF (X := fun _ _ _ _ => none) (by intro f args heap next r h; simp at h) Tryd.func6 (by kernel_rfl) (by kernel_rfl) (of_decide_eq_true (by kernel_rfl)) h1 h2
end Go.Proofs.YtgodfnboklbiiaaDoor
