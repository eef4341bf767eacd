/- IrLimits: the remainder. -/
import Derived.Test.YtgodfnboklbiiacGreatDoorA
import Derived.Test.YtgodfnboklbiiacGreatDoorTpLast
namespace Go.Proofs.YtgodfnboklbiiacGreatDoor
open Go.Tp
set_option maxRecDepth 100000

noncomputable def code4 : Code := match Tryz.f4.body with | some c => c | none => .skip
noncomputable def run4 (c : Code) (f : FState) : Option (Exit × FState) := fcode (fun _ _ _ _ => none) (env Prims.fast) xglobs ⟨xmoves, ord4, xcaps, rowsOf xcaps 4⟩ 14 live4 1000 c f
noncomputable def mHead : Code := .seq (fstC code4) (.seq (fstC (sndC code4)) (fstC (fstC (sndC (sndC code4)))))
noncomputable def mTest : Code := sndC (fstC (sndC (sndC code4)))
noncomputable def mEnd : Code := sndC (sndC (sndC code4))
theorem code4_eq : code4 = .seq (fstC code4) (.seq (fstC (sndC code4)) (.seq (.seq (fstC (fstC (sndC (sndC code4)))) mTest) mEnd)) := by kernel_rfl
def sM3 (r : Int) (h : Heap) (k : Nat) (b : Bool) : FState := ⟨[(9, bv b), (0, iv r), (1, iv 3)], [], h, k⟩
theorem m_head3 (a : Int) (h : Heap) (k : Nat) : run4 mHead ⟨[(0, iv a), (1, iv 3)], [], h, k⟩ = some (.normal, sM3 (a.tmod 3) h k (ltF (a.tmod 3) 0)) := by kernel_rfl
theorem m_true3 (r : Int) (h : Heap) (k : Nat) : (match run4 (.seq mTest mEnd) (sM3 r h k true) with | some (.ret, f) => fret (env Prims.fast) 14 Tryz.f4.results.toList f | _ => none) = some ⟨iv (wrapF .i64 (r + 3)), h, k⟩ := by kernel_rfl
theorem m_false3 (r : Int) (h : Heap) (k : Nat) : (match run4 (.seq mTest mEnd) (sM3 r h k false) with | some (.ret, f) => fret (env Prims.fast) 14 Tryz.f4.results.toList f | _ => none) = some ⟨iv r, h, k⟩ := by kernel_rfl

theorem m_run3 (a : Int) (h : Heap) (k : Nat) : ∃ f, run4 code4 ⟨[(0, iv a), (1, iv 3)], [], h, k⟩ = some (.ret, f) ∧ fret (env Prims.fast) 14 Tryz.f4.results.toList f = some ⟨iv (modZ a 3), h, k⟩ := by
  have key : ∃ f, run4 (.seq mTest mEnd) (sM3 (a.tmod 3) h k (ltF (a.tmod 3) 0)) = some (.ret, f) ∧ fret (env Prims.fast) 14 Tryz.f4.results.toList f = some ⟨iv (modZ a 3), h, k⟩ := by
    have hz : (match run4 (.seq mTest mEnd) (sM3 (a.tmod 3) h k (ltF (a.tmod 3) 0)) with | some (.ret, f) => fret (env Prims.fast) 14 Tryz.f4.results.toList f | _ => none) = some ⟨iv (modZ a 3), h, k⟩ := by
      cases hlt : ltF (a.tmod 3) 0 with
      | true =>
        rw [m_true3, wrapF_eq]
        rw [ltF_eq] at hlt
        simp at hlt
        have hb : (a.tmod 3) = if a < 0 then -((-a) % 3) else a % 3 := by
          rw [Int.tmod_eq_emod]
          split <;> split <;> omega
        have e : IntKind.i64.wrap (a.tmod 3 + 3) = modZ a 3 := by
          unfold modZ
          rw [if_pos hlt]
          apply wrap_i64 <;> (rw [hb] at hlt ⊢; split at hlt <;> split <;> omega)
        rw [e]
      | false =>
        rw [m_false3]
        rw [ltF_eq] at hlt
        simp at hlt
        have e : a.tmod 3 = modZ a 3 := by unfold modZ; rw [if_neg (by omega)]
        rw [e]
    split at hz
    · rename_i f hf; exact ⟨f, hf, hz⟩
    · simp at hz
  obtain ⟨f, h1, h2⟩ := key
  refine ⟨f, ?_, h2⟩
  have hm := m_head3 a h k
  rw [code4_eq]
  unfold mHead at hm
  unfold run4 at hm h1 ⊢
  have e : ∀ (a b c d z : Code) (f : FState), fcode (fun _ _ _ _ => none) (env Prims.fast) xglobs ⟨xmoves, ord4, xcaps, rowsOf xcaps 4⟩ 14 live4 1000 (.seq a (.seq b (.seq (.seq c d) z))) f =
      fcode (fun _ _ _ _ => none) (env Prims.fast) xglobs ⟨xmoves, ord4, xcaps, rowsOf xcaps 4⟩ 14 live4 1000 (.seq (.seq a (.seq b c)) (.seq d z)) f := by
    intro a b c d z f
    rw [fseq_assoc]
    refine fseq_congr (fun f => ?_) f
    rw [fseq_assoc]
    refine fseq_congr (fun f => ?_) f
    exact fseq_assoc _ _ _ f
  rw [e, fseq_norm hm]
  exact h1

theorem c_mod3 (a : Int) (heap : Heap) (next : Nat) : ACalls Tryz.prog xglobs 4 [iv a, iv 3] heap next (XQ (gcR next ⟨iv (modZ a 3), heap, next⟩)) := by
  obtain ⟨f, h1, h2⟩ := m_run3 a heap next
  exact acalls_of_run (fn := Tryz.f4) (c := code4) (moves := xmoves) (caps := xcaps) (ord := ord4) (live := live4) (fuel := 1000) envF (X := fun _ _ _ _ => none) (by intro f args heap next r h; simp at h) Tryz.func4 (by kernel_rfl) (by kernel_rfl) (of_decide_eq_true (by kernel_rfl)) h1 h2

theorem modZ_eq3 (n : Int) : modZ n 3 = n % 3 := by
  unfold modZ
  rw [Int.tmod_eq_emod]
  split <;> split <;> omega

def sM4 (r : Int) (h : Heap) (k : Nat) (b : Bool) : FState := ⟨[(9, bv b), (0, iv r), (1, iv 4)], [], h, k⟩
theorem m_head4 (a : Int) (h : Heap) (k : Nat) : run4 mHead ⟨[(0, iv a), (1, iv 4)], [], h, k⟩ = some (.normal, sM4 (a.tmod 4) h k (ltF (a.tmod 4) 0)) := by kernel_rfl
theorem m_true4 (r : Int) (h : Heap) (k : Nat) : (match run4 (.seq mTest mEnd) (sM4 r h k true) with | some (.ret, f) => fret (env Prims.fast) 14 Tryz.f4.results.toList f | _ => none) = some ⟨iv (wrapF .i64 (r + 4)), h, k⟩ := by kernel_rfl
theorem m_false4 (r : Int) (h : Heap) (k : Nat) : (match run4 (.seq mTest mEnd) (sM4 r h k false) with | some (.ret, f) => fret (env Prims.fast) 14 Tryz.f4.results.toList f | _ => none) = some ⟨iv r, h, k⟩ := by kernel_rfl

theorem m_run4 (a : Int) (h : Heap) (k : Nat) : ∃ f, run4 code4 ⟨[(0, iv a), (1, iv 4)], [], h, k⟩ = some (.ret, f) ∧ fret (env Prims.fast) 14 Tryz.f4.results.toList f = some ⟨iv (modZ a 4), h, k⟩ := by
  have key : ∃ f, run4 (.seq mTest mEnd) (sM4 (a.tmod 4) h k (ltF (a.tmod 4) 0)) = some (.ret, f) ∧ fret (env Prims.fast) 14 Tryz.f4.results.toList f = some ⟨iv (modZ a 4), h, k⟩ := by
    have hz : (match run4 (.seq mTest mEnd) (sM4 (a.tmod 4) h k (ltF (a.tmod 4) 0)) with | some (.ret, f) => fret (env Prims.fast) 14 Tryz.f4.results.toList f | _ => none) = some ⟨iv (modZ a 4), h, k⟩ := by
      cases hlt : ltF (a.tmod 4) 0 with
      | true =>
        rw [m_true4, wrapF_eq]
        rw [ltF_eq] at hlt
        simp at hlt
        have hb : (a.tmod 4) = if a < 0 then -((-a) % 4) else a % 4 := by
          rw [Int.tmod_eq_emod]
          split <;> split <;> omega
        have e : IntKind.i64.wrap (a.tmod 4 + 4) = modZ a 4 := by
          unfold modZ
          rw [if_pos hlt]
          apply wrap_i64 <;> (rw [hb] at hlt ⊢; split at hlt <;> split <;> omega)
        rw [e]
      | false =>
        rw [m_false4]
        rw [ltF_eq] at hlt
        simp at hlt
        have e : a.tmod 4 = modZ a 4 := by unfold modZ; rw [if_neg (by omega)]
        rw [e]
    split at hz
    · rename_i f hf; exact ⟨f, hf, hz⟩
    · simp at hz
  obtain ⟨f, h1, h2⟩ := key
  refine ⟨f, ?_, h2⟩
  have hm := m_head4 a h k
  rw [code4_eq]
  unfold mHead at hm
  unfold run4 at hm h1 ⊢
  have e : ∀ (a b c d z : Code) (f : FState), fcode (fun _ _ _ _ => none) (env Prims.fast) xglobs ⟨xmoves, ord4, xcaps, rowsOf xcaps 4⟩ 14 live4 1000 (.seq a (.seq b (.seq (.seq c d) z))) f =
      fcode (fun _ _ _ _ => none) (env Prims.fast) xglobs ⟨xmoves, ord4, xcaps, rowsOf xcaps 4⟩ 14 live4 1000 (.seq (.seq a (.seq b c)) (.seq d z)) f := by
    intro a b c d z f
    rw [fseq_assoc]
    refine fseq_congr (fun f => ?_) f
    rw [fseq_assoc]
    refine fseq_congr (fun f => ?_) f
    exact fseq_assoc _ _ _ f
  rw [e, fseq_norm hm]
  exact h1

theorem c_mod4 (a : Int) (heap : Heap) (next : Nat) : ACalls Tryz.prog xglobs 4 [iv a, iv 4] heap next (XQ (gcR next ⟨iv (modZ a 4), heap, next⟩)) := by
  obtain ⟨f, h1, h2⟩ := m_run4 a heap next
  exact acalls_of_run (fn := Tryz.f4) (c := code4) (moves := xmoves) (caps := xcaps) (ord := ord4) (live := live4) (fuel := 1000) envF (X := fun _ _ _ _ => none) (by intro f args heap next r h; simp at h) Tryz.func4 (by kernel_rfl) (by kernel_rfl) (of_decide_eq_true (by kernel_rfl)) h1 h2

theorem modZ_eq4 (n : Int) : modZ n 4 = n % 4 := by
  unfold modZ
  rw [Int.tmod_eq_emod]
  split <;> split <;> omega

theorem known_ok : XOk Tryz.prog xglobs known := by
  intro f args heap next r h
  unfold known at h
  split at h
  · rename_i a b
    split at h
    · rename_i hb
      simp at h
      subst h
      rw [eqF_eq] at hb
      obtain rfl : b = 3 := by simpa using hb
      exact c_mod3 a heap next
    · split at h
      · rename_i hb
        simp at h
        subst h
        rw [eqF_eq] at hb
        obtain rfl : b = 4 := by simpa using hb
        exact c_mod4 a heap next
      · simp at h
  · simp at h

theorem XM_ok : XOk Tryz.prog xglobs XM := by
  intro f args heap next r h
  unfold XM at h
  split at h
  · rename_i r' hr'
    simp at h
    subst h
    exact known_ok _ _ _ _ _ hr'
  · exact X_ok f args heap next r h
end Go.Proofs.YtgodfnboklbiiacGreatDoor
