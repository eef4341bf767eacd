/- The generic layer: calls. -/
import Derived.Test.YteanmfacikjjhaaGreatDoorTpSound14
namespace Go.Tp

section
variable {P : Program} {E : TEnv} {G : Globs} {H : Hints} {w : World} {R : Own} {N : Name → Option Nat}

theorem prep_sound {fz : Bool} : ∀ {ns : List Name} {s s' : AState} {args args' : List AVal} {R : Own} {N : Name → Option Nat}, prep fz ns s args = (s', args') → ∀ {tmps : List Value} {cargs : List Value} {bsV bsT bsL bsH bsF : List Nat},
    RelB G w R N tmps s (.tuple cargs.toArray) (.tup args) bsV bsT bsL bsH bsF →
    ∃ R' N' bsV' bsT' bsL' bsH', RelB G w R' N' tmps s' (.tuple cargs.toArray) (.tup args') bsV' bsT' bsL' bsH' bsF ∧ Keep w R w R' bsF ∧ (∀ o b, N (.out o) = some b → N' (.out o) = some b) ∧ (∀ i, N' (.loc i) = N (.loc i))
  | [], s, s', args, args', R, N, h, tmps, cargs, bsV, bsT, bsL, bsH, bsF, hr => by
    simp [prep] at h
    obtain ⟨rfl, rfl⟩ := h
    exact ⟨R, N, bsV, bsT, bsL, bsH, hr, keep_refl _, fun _ _ h => h, fun _ => rfl⟩
  | n :: ns, s, s', args, args', R, N, h, tmps, cargs, bsV, bsT, bsL, bsH, bsF, hr => by
    simp only [prep] at h
    split at h
    · rename_i s1 args1 h1
      obtain ⟨R1, N1, v1, t1, l1, g1, hr1, hk1, hN1, hM1⟩ := prep1_sound h1 hr
      obtain ⟨R2, N2, v2, t2, l2, g2, hr2, hk2, hN2, hM2⟩ := prep_sound h hr1
      exact ⟨R2, N2, v2, t2, l2, g2, hr2, ⟨hk1.step.trans hk2.step, fun b hb hlt => ⟨rfl, fun off h => (hk2.same b hb hlt).2 off ((hk1.same b hb hlt).2 off h)⟩⟩, fun o b h => hN2 o b (hN1 o b h), fun i => (hM2 i).trans (hM1 i)⟩
    · exact prep_sound h hr

theorem takeArgs_keeps (G : Globs) : ∀ (xs : List Operand) (s : AState), (takeArgs G s xs).2.locs = s.locs ∧ (takeArgs G s xs).2.heap = s.heap ∧ (takeArgs G s xs).2.next = s.next
  | [], s => ⟨rfl, rfl, rfl⟩
  | x :: r, s => by
    simp only [takeArgs]
    obtain ⟨h1, h2, h3⟩ := takeArgs_keeps G r (dropOwn s (some 0) [x])
    obtain ⟨k1, k2, k3⟩ := drop_locs s (some 0) [x]
    exact ⟨h1.trans k1, h2.trans k2, h3.trans k3⟩

theorem takeArgs_sound {act : Act} (hg : ∀ g cs, G g = some cs → RepAt w R g 0 cs) : ∀ (xs : List Operand) {s : AState} {bsT rest : List Nat}, RepVs w R N s.tmps act.tmps.toList bsT → (bsT ++ rest).Nodup →
    ∃ bsM bsT', RepVs w R N (takeArgs G s xs).1 (xs.map act.eval) bsM ∧ RepVs w R N (takeArgs G s xs).2.tmps act.tmps.toList bsT' ∧ (bsM ++ (bsT' ++ rest)).Nodup
  | [], s, bsT, rest, ht, hnd => ⟨[], bsT, by simpa [takeArgs] using repVs_nil, ht, by simpa using hnd⟩
  | x :: r, s, bsT, rest, ht, hnd => by
    obtain ⟨bM, bT, h1, h2, h3, _⟩ := args_take ht hg (some 0) [x] rest hnd
    obtain ⟨b0, e0, hb0⟩ := repVs_one h1
    simp only [evalArgs, if_true, List.cons.injEq, and_true] at e0
    subst e0
    have hnd2 : (bT ++ (bM ++ rest)).Nodup := by
      have hp : (bT ++ (bM ++ rest)).Perm (bM ++ (bT ++ rest)) := List.perm_append_comm_assoc _ _ _
      exact hp.nodup_iff.2 h3
    obtain ⟨bM2, bT2, k1, k2, k3⟩ := takeArgs_sound hg r h2 hnd2
    simp only [takeArgs]
    refine ⟨bM ++ bM2, bT2, repVs_cons hb0 k1, k2, ?_⟩
    have hp : ((bM ++ bM2) ++ (bT2 ++ rest)).Perm (bM2 ++ (bT2 ++ (bM ++ rest))) := by
      rw [List.perm_iff_count]; intro q; simp only [List.count_append]; omega
    exact hp.nodup_iff.2 k3

/-- The state that a call finds, its arguments in hand. -/
theorem acallee_sound (hE : E.Ok P) {c : Call} {s s2 : AState} {f : FuncId} {args : List AVal} (h : acallee E G H c s = some (f, args, s2)) {act : Act} {bsT bsL bsH bsF : List Nat}
    (hr : RelB G w R N act.tmps.toList s undef .undef [] bsT bsL bsH bsF) (o : Oper) (ho : o.op = .call c) :
    ∃ cargs : List Value, (execOp act.eval o).run P w = .ok (.enter f cargs.toArray) w ∧ ∃ R' N' bsA bsT' bsL' bsH', RelB G w R' N' act.tmps.toList s2 (.tuple cargs.toArray) (.tup args) bsA bsT' bsL' bsH' bsF ∧
      Keep w R w R' bsF ∧ (∀ o b, N (.out o) = some b → N' (.out o) = some b) ∧ noLocL args = true ∧ (∀ i, N' (.loc i) = N (.loc i)) := by
  obtain ⟨callee, cargs0, argTypes⟩ := c
  cases callee with
  | builtin _ => simp [acallee] at h
  | invoke _ _ => simp [acallee] at h
  | value fo =>
    simp only [acallee] at h
    obtain ⟨bf, hfv⟩ := eval_raw hr.tmps hr.glob fo
    generalize haf : aeval G s fo = af at h hfv
    split at h
    · rename_i g first captured
      simp only [RepV] at hfv
      obtain ⟨_, vf, uf, ef, hfirst, hcap⟩ := hfv
      split at h
      · rename_i hfn
        obtain ⟨fn, hf1, hf2, hf3⟩ := hE.fn g hfn
        -- the operands
        have hnd0 : (bsT ++ (bsL ++ (bsH ++ bsF))).Nodup := by simpa using hr.nodup
        have hops : ∃ (vs : List AVal) (s1 : AState) (bsM bsT' : List Nat), (if H.moves g = true then takeArgs G s cargs0.toList else (evalArgs G s none 0 cargs0.toList, s)) = (vs, s1) ∧
            RepVs w R N vs (cargs0.toList.map act.eval) bsM ∧ RepVs w R N s1.tmps act.tmps.toList bsT' ∧ (bsM ++ (bsT' ++ (bsL ++ (bsH ++ bsF)))).Nodup ∧ s1.locs = s.locs ∧ s1.heap = s.heap ∧ s1.next = s.next := by
          split
          · obtain ⟨bsM, bsT', k1, k2, k3⟩ := takeArgs_sound hr.glob cargs0.toList hr.tmps hnd0
            obtain ⟨q1, q2, q3⟩ := takeArgs_keeps G cargs0.toList s
            exact ⟨_, _, bsM, bsT', rfl, k1, k2, k3, q1, q2, q3⟩
          · exact ⟨_, _, [], bsT, rfl, args_copy hr.tmps hr.glob none 0 _ (by simp), hr.tmps, by simpa using hnd0, rfl, rfl, rfl⟩
        obtain ⟨vs, s1, bsM, bsT', hpair, hvs, ht1, hnd1, q1, q2, q3⟩ := hops
        rw [hpair] at h
        simp only at h
        generalize hprep : prep (!H.caps g) (needed s1 (first ++ vs ++ captured)) s1 (first ++ vs ++ captured) = pr at h
        obtain ⟨s3, args3⟩ := pr
        · simp only at h
          split at h
          · rename_i hno
            simp only [Option.some.injEq, Prod.mk.injEq] at h
            obtain ⟨rfl, rfl, rfl⟩ := h
            have hall : RepVs w R N (first ++ vs ++ captured) (vf ++ cargs0.toList.map act.eval ++ uf) bsM := by
              have := repVs_append (repVs_append hfirst hvs) hcap
              simpa using this
            have hr1 : RelB G w R N act.tmps.toList s1 (.tuple (vf ++ cargs0.toList.map act.eval ++ uf).toArray) (.tup (first ++ vs ++ captured)) bsM bsT' bsL bsH bsF :=
              ⟨by simp only [RepV]; exact ⟨_, rfl, hall⟩, ht1, by rw [q1]; exact hr.locs, by rw [q2]; exact hr.heap, hnd1, by rw [q3]; exact hr.next, hr.glob, hr.frame⟩
            obtain ⟨R2, N2, v2, t2, l2, g2, hr2, hk2, hN2, hM2⟩ := prep_sound hprep hr1
            refine ⟨vf ++ cargs0.toList.map act.eval ++ uf, ?_, R2, N2, v2, t2, l2, g2, hr2, hk2, hN2, hno, hM2⟩
            have hbody : fn.body.isNone = false := by cases hb : fn.body <;> simp_all
            have hb2 : ¬ fn.body = none := by intro hb; simp [hb] at hbody
            have hn2 : ¬ fn.name = "runtime.NumGoroutine" := by simpa using hf3
            simp [execOp, ho, resolve, ef, Deferred.ofValue, invoke, callFunc, hf1, hn2, hb2]
          · simp at h
      · simp at h
    · simp at h
end
end Go.Tp
