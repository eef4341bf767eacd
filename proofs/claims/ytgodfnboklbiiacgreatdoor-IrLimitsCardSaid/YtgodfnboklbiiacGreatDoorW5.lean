/- IrLimits: validate, whole. -/
import Derived.Test.YtgodfnboklbiiacGreatDoorW4
namespace Go.Proofs.YtgodfnboklbiiacGreatDoor
open Go.Tp
set_option maxRecDepth 100000
noncomputable def fin10 (f : FState) : Option XRes := match rv10 post10 f with | some (.ret, f) => (match fret (env Prims.fast) 109 Tryz.f10.results.toList f with | some r => some (gcR 0 r) | none => none) | _ => none
noncomputable def whole10 (es : List Dat) : Option XRes := match rv10 code10 ⟨[(0, codeA es), (1, iv 1)], [], [], 0⟩ with | some (.ret, f) => (match fret (env Prims.fast) 109 Tryz.f10.results.toList f with | some r => some (gcR 0 r) | none => none) | _ => none
theorem v_pre8 : rv10 pre10 ⟨[(0, codeA (esN 1998)), (1, iv 1)], [], [], 0⟩ = some (.normal, SV (esN 1998) 1999 0) := by kernel_rfl
theorem v_pre9 : rv10 pre10 ⟨[(0, codeA (esN 1999)), (1, iv 1)], [], [], 0⟩ = some (.normal, SV (esN 1999) 2000 0) := by kernel_rfl
theorem v_fin8 : fin10 (V6 (esN 1998) 1999 1999 false [tickO 19, codeO (esN 1998)]) = some ⟨iv 0, [], 0⟩ := by kernel_rfl
theorem v_fin9 : fin10 (V6 (esN 1999) 2000 2000 false [tickO 19, codeO (esN 1999)]) = some ⟨iv 0, [], 0⟩ := by kernel_rfl
theorem v_whole0 : whole10 (esN 2000) = some ⟨iv 4, [], 0⟩ := by kernel_rfl

theorem c_val {k : Nat} (h0 : 0 < k) (hk : k < 2900) (hp : rv10 pre10 ⟨[(0, codeA (esN k)), (1, iv 1)], [], [], 0⟩ = some (.normal, SV (esN k) (k + 1) 0)) (hf : fin10 (V6 (esN k) (Int.ofNat (k + 1)) (Int.ofNat (k + 1)) false [tickO 19, codeO (esN k)]) = some ⟨iv 0, [], 0⟩) : ACalls Tryz.prog xglobs 10 [codeA (esN k), iv 1] [] 0 (XQ ⟨iv 0, [], 0⟩) := by
  unfold fin10 at hf
  split at hf
  · rename_i f2 h2
    split at hf
    · rename_i r hr
      have hf := Option.some.inj hf
      rw [← hf]
      refine acalls_of_run (fn := Tryz.f10) (c := code10) (moves := xmoves) (caps := xcaps) (ord := ord10) (live := live10) (fuel := 3000) (X := XV) (fs := f2) envF XV_ok Tryz.func10 (by kernel_rfl) (by kernel_rfl) (of_decide_eq_true (by kernel_rfl)) ?_ hr
      have e : code10 = .seq (fstC code10) (.seq (fstC (sndC code10)) (.seq (.seq (fstC (fstC (sndC (sndC code10)))) (.block 1 (.loop body10))) post10)) := code10_eq
      rw [e, fseq_mid]
      refine (fseq_norm (x := pre10) hp).trans ?_
      exact (fseq_norm (x := .block 1 (.loop body10)) (v_loop h0 hk)).trans h2
    · simp at hf
  · simp at hf
theorem c_val8 : ACalls Tryz.prog xglobs 10 [codeA (esN 1998), iv 1] [] 0 (XQ ⟨iv 0, [], 0⟩) := c_val (by decide) (by decide) v_pre8 v_fin8
theorem c_val9 : ACalls Tryz.prog xglobs 10 [codeA (esN 1999), iv 1] [] 0 (XQ ⟨iv 0, [], 0⟩) := c_val (by decide) (by decide) v_pre9 v_fin9
theorem c_val0 : ACalls Tryz.prog xglobs 10 [codeA (esN 2000), iv 1] [] 0 (XQ ⟨iv 4, [], 0⟩) := by
  have hf := v_whole0
  unfold whole10 at hf
  split at hf
  · rename_i f2 h2
    split at hf
    · rename_i r hr
      have hf := Option.some.inj hf
      rw [← hf]
      exact acalls_of_run (fn := Tryz.f10) (c := code10) (moves := xmoves) (caps := xcaps) (ord := ord10) (live := live10) (fuel := 3000) (X := XV) (fs := f2) envF XV_ok Tryz.func10 (by kernel_rfl) (by kernel_rfl) (of_decide_eq_true (by kernel_rfl)) h2 hr
    · simp at hf
  · simp at hf

/-! ### Validate -/
def answer (k : Nat) : Option Int := match Nat.beq k 1998 || Nat.beq k 1999 with | true => some 0 | false => (match Nat.beq k 2000 with | true => some 4 | false => none)
def known10 : XCalls := fun g args heap next =>
  match g, args, heap, next with
  | 10, [c, .dat (.flat (.int .i64 (.ofNat 1)))], [], 0 => (match codeOf c with
    | some es => (match esOf es with
      | some k => (match answer k with | some a => some ⟨iv a, [], 0⟩ | none => none)
      | none => none)
    | none => none)
  | _, _, _, _ => none
theorem known10_ok : XOk Tryz.prog xglobs known10 := by
  intro f args heap next r h
  unfold known10 at h
  split at h
  · split at h
    · rename_i es hc
      split at h
      · rename_i k hk
        obtain rfl := codeOf_eq hc
        obtain rfl := esOf_eq hk
        split at h
        · rename_i a ha
          simp at h
          subst h
          unfold answer at ha
          split at ha
          · rename_i hb
            have ha := Option.some.inj ha
            subst ha
            rw [Bool.or_eq_true, Nat.beq_eq, Nat.beq_eq] at hb
            rcases hb with rfl | rfl
            · exact c_val8
            · exact c_val9
          · split at ha
            · rename_i hb
              have ha := Option.some.inj ha
              subst ha
              rw [Nat.beq_eq] at hb
              subst hb
              exact c_val0
            · simp at ha
        · simp at h
      · simp at h
    · simp at h
  · simp at h
noncomputable def code6 : Code := match Tryz.f6.body with | some c => c | none => .skip
noncomputable def run6 (f : FState) : Option XRes := match fcode known10 (env Prims.fast) xglobs ⟨xmoves, ord6, xcaps, rowsOf xcaps 6⟩ Tryz.f6.ntmps live6 1000 code6 f with | some (.ret, f) => (match fret (env Prims.fast) Tryz.f6.ntmps Tryz.f6.results.toList f with | some r => some (gcR 0 r) | none => none) | _ => none
theorem r6_8 : run6 ⟨[(0, codeA (esN 1998))], [], [], 0⟩ = some ⟨iv 0, [], 0⟩ := by kernel_rfl
theorem r6_9 : run6 ⟨[(0, codeA (esN 1999))], [], [], 0⟩ = some ⟨iv 0, [], 0⟩ := by kernel_rfl
theorem r6_0 : run6 ⟨[(0, codeA (esN 2000))], [], [], 0⟩ = some ⟨iv 4, [], 0⟩ := by kernel_rfl
theorem c_Val {k : Nat} {r : XRes} (hf : run6 ⟨[(0, codeA (esN k))], [], [], 0⟩ = some r) : ACalls Tryz.prog xglobs 6 [codeA (esN k)] [] 0 (XQ r) := by
  unfold run6 at hf
  split at hf
  · rename_i f2 h2
    split at hf
    · rename_i r hr
      have hf := Option.some.inj hf
      rw [← hf]
      exact acalls_of_run (fn := Tryz.f6) (c := code6) (moves := xmoves) (caps := xcaps) (ord := ord6) (live := live6) (fuel := 1000) (X := known10) (fs := f2) envF known10_ok Tryz.func6 (by kernel_rfl) (by kernel_rfl) (of_decide_eq_true (by kernel_rfl)) h2 hr
    · simp at hf
  · simp at hf
end Go.Proofs.YtgodfnboklbiiacGreatDoor
