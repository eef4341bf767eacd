/- The generic layer: functions, loops. -/
import Derived.Test.YteanmfacikjjhaaGreatDoorTpDraw3
namespace Go.Tp

section
variable {P : Program} {E : TEnv} {G : Globs} {H : Hints} {D : List Deferred}

theorem CPost.trans {Q : Exit → AState → Prop} {w w1 : World} {R R1 : Own} {N N1 : Name → Option Nat} {bsF : List Nat} (hk : Keep w R w1 R1 bsF) (hN : ∀ o b, N (.out o) = some b → N1 (.out o) = some b) {e : Exit} {a : Act} {w2 : World}
    (h : CPost G D Q w1 R1 N1 bsF e a w2) : CPost G D Q w R N bsF e a w2 := by
  obtain ⟨s', R', N', bsT, bsL, bsH, hq, hr, hd, hk', hN'⟩ := h
  exact ⟨s', R', N', bsT, bsL, bsH, hq, hr, hd, hk.trans hk', fun o b h => hN' o b (hN o b h)⟩

theorem acode_seq {x y : Code} {Q : Exit → AState → Prop} {s : AState} (h : ACode P G x (fun e s' => match e with | .normal => ACode P G y Q s' | e => Q e s') s) : ACode P G (.seq x y) Q s := by
  intro w R N act bsT bsL bsH bsF hr D hd
  apply wp_seq
  refine wp_mono (h w R N act bsT bsL bsH bsF hr hd) ?_
  rintro e a w' ⟨s', R', N', bsT', bsL', bsH', hq, hr', hd', hk, hN⟩
  cases e with
  | normal => exact wp_mono (hq w' R' N' a bsT' bsL' bsH' bsF hr' hd') (fun e a w h => h.trans hk hN)
  | _ => exact ⟨s', R', N', bsT', bsL', bsH', hq, hr', hd', hk, hN⟩

theorem ACode.mono {c : Code} {Q Q' : Exit → AState → Prop} {s : AState} (h : ACode P G c Q s) (hq : ∀ e s, Q e s → Q' e s) : ACode P G c Q' s := by
  intro w R N act bsT bsL bsH bsF hr D hd
  refine wp_mono (h w R N act bsT bsL bsH bsF hr hd) ?_
  rintro e a w' ⟨s', R', N', bsT', bsL', bsH', hQ, rest⟩
  exact ⟨s', R', N', bsT', bsL', bsH', hq _ _ hQ, rest⟩

theorem acode_here {c : Code} {e : Exit} {Q : Exit → AState → Prop} {s : AState} (hc : ∀ {Q : Exit → Act → World → Prop} {a : Act} {w : World}, Q e a w → c.wp P Q a w) (h : Q e s) : ACode P G c Q s := by
  intro w R N act bsT bsL bsH bsF hr D hd
  exact hc ⟨s, R, N, bsT, bsL, bsH, h, hr, hd, keep_refl _, fun _ _ h => h⟩

theorem awp_sound (hE : E.Ok P) : ∀ (c : Code) (Q : Exit → AState → Prop) (s : AState), chkAll H c = true → awp (ACalls P G) (ACode P G) E G H c Q s → ACode P G c Q s
  | .skip, Q, s, _, h => acode_here wp_skip h
  | .region id ops draw, Q, s, hc, h => by
    cases draw with
    | true =>
      simp only [awp, if_true] at h
      exact acode_draw hE hE.mixed (by simpa [chkAll] using hc) h
    | false => exact acode_region hE (by simpa [awp] using h)
  | .seq x y, Q, s, hc, h => by
    simp only [chkAll, Bool.and_eq_true] at hc
    refine acode_seq ((awp_sound hE x _ s hc.1 (by simpa only [awp] using h)).mono ?_)
    intro e s' hq
    cases e with
    | normal => exact awp_sound hE y Q s' hc.2 hq
    | _ => exact hq
  | .cond c x y, Q, s, hc, h => by
    simp only [chkAll, Bool.and_eq_true] at hc
    intro w R N act bsT bsL bsH bsF hr D hd
    simp only [awp] at h
    split at h
    · rename_i b hb
      obtain ⟨bs, he⟩ := eval_raw hr.tmps hr.glob c
      rw [hb] at he
      obtain ⟨_, he, _⟩ := repV_flat_inv he
      refine wp_cond he ?_
      cases b with
      | true => simp only [if_true] at h ⊢; exact awp_sound hE x Q s hc.1 h w R N act bsT bsL bsH bsF hr hd
      | false => simp only [Bool.false_eq_true, if_false] at h ⊢; exact awp_sound hE y Q s hc.2 h w R N act bsT bsL bsH bsF hr hd
    · exact h.elim
  | .block id c, Q, s, hc, h => by
    simp only [chkAll] at hc
    intro w R N act bsT bsL bsH bsF hr D hd
    apply wp_block
    refine wp_mono (awp_sound hE c _ s hc (by simpa only [awp] using h) w R N act bsT bsL bsH bsF hr hd) ?_
    rintro e a w' ⟨s', R', N', bsT', bsL', bsH', hq, rest⟩
    cases e with
    | exit i =>
      simp only [Exit.inBlock]
      simp only [blockQ, Nat.beq_eq] at hq
      by_cases hi : i = id
      · rw [if_pos hi]
        rw [if_pos hi] at hq
        exact ⟨s', R', N', bsT', bsL', bsH', hq, rest⟩
      · rw [if_neg hi]
        rw [if_neg hi] at hq
        exact ⟨s', R', N', bsT', bsL', bsH', hq, rest⟩
    | _ => exact ⟨s', R', N', bsT', bsL', bsH', hq, rest⟩
  | .exit id, Q, s, _, h => acode_here wp_exit h
  | .ret, Q, s, _, h => acode_here wp_ret h
  | .loop _, _, _, _, h => h
  | .rangeFunc _ _ _ _, _, _, _, h => h
  | .scope _, _, _, _, h => h
  | .label _, _, _, _, h => h
  | .goto _, _, _, _, h => h
  | .refuse _, _, _, _, h => h

/-! #### Results -/
theorem tidy_rep {w : World} {R : Own} {N : Name → Option Nat} {a : AVal} {v : Value} {bs : List Nat} (h : RepV w R N a v bs) : ∃ bs', RepV w R N (tidy a) v bs' ∧ bs'.Sublist bs := by
  unfold tidy
  split
  · exact ⟨[], unOwn_rep h, List.nil_sublist _⟩
  · exact ⟨bs, h, .refl _⟩

theorem tidyL_rep {w : World} {R : Own} {N : Name → Option Nat} : ∀ {as : List AVal} {vs : List Value} {bs : List Nat}, RepVs w R N as vs bs → ∃ bs', RepVs w R N (tidyL as) vs bs' ∧ bs'.Sublist bs
  | [], _, _, h => by obtain ⟨rfl, rfl⟩ := repVs_nil_inv h; exact ⟨[], repVs_nil, .refl _⟩
  | a :: as, _, _, h => by
    obtain ⟨v, vs', b1, b2, rfl, rfl, h1, h2⟩ := repVs_cons_inv h
    obtain ⟨c1, k1, k2⟩ := tidy_rep h1
    obtain ⟨c2, k3, k4⟩ := tidyL_rep h2
    exact ⟨c1 ++ c2, by simpa [tidyL] using repVs_cons k1 k3, List.Sublist.append k2 k4⟩

/-- What one result reads as. -/
def resSem (tmps : Array Value) : ResultVar → Sem Value
  | .tmp t => pure (tmps.getD t undef)
  | .cell a t => do loadVar t (← asAddr (tmps.getD a undef))

theorem retVals_sound (hE : E.Ok P) {w : World} {R : Own} {N : Name → Option Nat} {act : Act} (hg : ∀ g cs, G g = some cs → RepAt w R g 0 cs) : ∀ (rs : List ResultVar) {s : AState} {vs : List AVal} {bsT bsL bsH rest : List Nat}, retVals E s rs = some vs →
    RepVs w R N s.tmps act.tmps.toList bsT → RepObjs w R N s.locs bsL → RepObjs w R (outs N) s.heap bsH → (bsT ++ rest).Nodup →
    ∃ cvs bsM bsT', (rs.mapM (resSem act.tmps)).run P w = .ok cvs w ∧ RepVs w R N vs cvs bsM ∧ cvs.length = rs.length ∧ (bsM ++ (bsT' ++ rest)).Nodup
  | [], s, vs, bsT, bsL, bsH, rest, h, ht, _, _, hnd => by
    simp [retVals] at h
    subst h
    exact ⟨[], [], bsT, by simp, repVs_nil, rfl, by simpa using hnd⟩
  | .tmp t :: rs, s, vs, bsT, bsL, bsH, rest, h, ht, hl, hh, hnd => by
    simp only [retVals] at h
    split at h
    · rename_i vs' hvs
      simp at h
      subst h
      obtain ⟨bM, bT, h1, h2, h3, _⟩ := args_take ht hg (some 0) [.tmp t] rest hnd
      obtain ⟨b0, e0, hb0⟩ := repVs_one h1
      simp only [evalArgs, if_true, List.cons.injEq, and_true] at e0
      subst e0
      obtain ⟨q1, q2, _⟩ := drop_locs s (some 0) [.tmp t]
      have hnd2 : (bT ++ (bM ++ rest)).Nodup := by
        have hp : (bT ++ (bM ++ rest)).Perm (bM ++ (bT ++ rest)) := List.perm_append_comm_assoc _ _ _
        exact hp.nodup_iff.2 h3
      obtain ⟨cvs, bM2, bT2, k1, k2, k3, k4⟩ := retVals_sound hE hg rs hvs h2 (by rw [q1]; exact hl) (by rw [q2]; exact hh) hnd2
      refine ⟨act.eval (.tmp t) :: cvs, bM ++ bM2, bT2, ?_, repVs_cons hb0 k2, by simp [k3], ?_⟩
      · simp only [List.mapM_cons, Sem.run_bind, resSem, Sem.run_pure, Result.andThen_ok, k1]
        rfl
      · have hp : ((bM ++ bM2) ++ (bT2 ++ rest)).Perm (bM2 ++ (bT2 ++ (bM ++ rest))) := by
          rw [List.perm_iff_count]; intro q; simp only [List.count_append]; omega
        exact hp.nodup_iff.2 k4
    · simp at h
  | .cell a t :: rs, s, vs, bsT, bsL, bsH, rest, h, ht, hl, hh, hnd => by
    simp only [retVals] at h
    split at h
    · rename_i v vs' hv hvs
      simp at h
      subst h
      obtain ⟨cvs, bM2, bT2, k1, k2, k3, k4⟩ := retVals_sound hE hg rs hvs ht hl hh hnd
      unfold cellVal at hv
      split at hv
      · rename_i n off hp
        split at hv
        · rename_i cs i hob hty
          have hget : s.tmps[a]? = some (.ptr n off) := by
            unfold getT at hp
            cases hs : s.tmps[a]? with
            | none => rw [hs] at hp; simp at hp
            | some v => rw [hs] at hp; simp at hp; rw [hp]
          obtain ⟨u, b', e1, e2, _⟩ := repVs_get ht hget
          simp only [RepV] at e2
          obtain ⟨_, b, hb, rfl⟩ := e2
          have hobj : ∃ b1, RepObj w R N (.cells cs) b b1 := by
            unfold AState.obj at hob
            cases n with
            | loc j =>
              obtain ⟨pre, c, c1, post, _, f2, f3, _⟩ := RepObjs.split hl hob
              rw [hb] at f2; simp at f2; subst f2; exact ⟨c1, f3⟩
            | out j =>
              obtain ⟨pre, c, c1, post, _, f2, f3, _⟩ := RepObjs.split hh hob
              simp only [outs] at f2
              rw [hb] at f2; simp at f2; subst f2
              refine ⟨c1, f3.reN ?_ (fun _ => rfl)⟩
              obtain ⟨vs, e, sp, _, hrr, _⟩ := f3
              have := hrr.noLoc_of_outs
              rw [noLocL_pad] at this
              exact this
          obtain ⟨b1, vs0, el, sp, hblk, hrr, _⟩ := hobj
          obtain ⟨cv, g1, g2⟩ := run_load_obj (N := N) hE hty hblk hrr (loadCells_pad hv)
          refine ⟨cv :: cvs, [] ++ bM2, bT2, ?_, repVs_cons g2 k2, by simp [k3], by simpa using k4⟩
          have hgd : act.tmps.getD a undef = .pointer (some ⟨b, off, none⟩) := by simp at e1; simp [e1]
          have g1' : (loadVar t ⟨b, off, none⟩).run P w = .ok cv w := by simpa [Instr.loadAt, Instr.sureAddr] using g1
          simp only [List.mapM_cons, Sem.run_bind, resSem, hgd, asAddr, Sem.run_pure, Result.andThen_ok, g1', k1]
        · simp at hv
      · simp at hv
    · simp at h

def packV : List Value → Value
  | [v] => v
  | vs => .tuple vs.toArray

theorem results_run {fn : Func} {act : Act} {w : World} {cvs : List Value} (h : (fn.results.toList.mapM (resSem act.tmps)).run P w = .ok cvs w) :
    (results fn act.tmps).run P w = .ok (packV cvs) w := by
  have hres : results fn act.tmps = (do
      let vs ← fn.results.mapM (resSem act.tmps)
      pure (if h : vs.size = 1 then vs[0] else .tuple vs)) := rfl
  have e : (fn.results.mapM (resSem act.tmps)).run P w = .ok cvs.toArray w := by
    rw [Array.mapM_eq_mapM_toList]
    simp [h]
  rw [hres]
  simp only [Sem.run_bind, e, Result.andThen_ok]
  cases cvs with
  | nil => rfl
  | cons v cvs => cases cvs <;> rfl

theorem expAll_sound {w : World} : ∀ (ns : List Name) {s s' : AState} {args args' : List AVal} {R : Own} {N : Name → Option Nat}, expAll ns s args = (s', args') → ∀ {tmps : List Value} {cargs : List Value} {bsV bsT bsL bsH bsF : List Nat},
    RelB G w R N tmps s (.tuple cargs.toArray) (.tup args) bsV bsT bsL bsH bsF →
    ∃ R' N' bsV' bsT' bsL' bsH', RelB G w R' N' tmps s' (.tuple cargs.toArray) (.tup args') bsV' bsT' bsL' bsH' bsF ∧ Keep w R w R' bsF ∧ (∀ o b, N (.out o) = some b → N' (.out o) = some b)
  | [], s, s', args, args', R, N, h, tmps, cargs, bsV, bsT, bsL, bsH, bsF, hr => by
    simp [expAll] at h
    obtain ⟨rfl, rfl⟩ := h
    exact ⟨R, N, bsV, bsT, bsL, bsH, hr, keep_refl _, fun _ _ h => h⟩
  | n :: ns, s, s', args, args', R, N, h, tmps, cargs, bsV, bsT, bsL, bsH, bsF, hr => by
    simp only [expAll] at h
    split at h
    · split at h
      · rename_i s1 args1 h1
        obtain ⟨R1, N1, v1, t1, l1, g1, hr1, hk1, hN1, _⟩ := prep1_sound h1 hr
        obtain ⟨R2, N2, v2, t2, l2, g2, hr2, hk2, hN2⟩ := expAll_sound ns h hr1
        exact ⟨R2, N2, v2, t2, l2, g2, hr2, hk1.trans hk2, fun o b h => hN2 o b (hN1 o b h)⟩
      · exact expAll_sound ns h hr
    · exact expAll_sound ns h hr

theorem pack_rep {w : World} {R : Own} {N : Name → Option Nat} {vs : List AVal} {cvs : List Value} {bs : List Nat} (h : RepVs w R N vs cvs bs) : RepV w R N (pack vs) (packV cvs) bs := by
  cases vs with
  | nil =>
    obtain ⟨rfl, rfl⟩ := repVs_nil_inv h
    simp only [pack, packV, RepV]
    exact ⟨[], rfl, repVs_nil⟩
  | cons a vs =>
    have hl := h.length
    cases vs with
    | nil =>
      cases cvs with
      | nil => simp at hl
      | cons v cvs =>
        simp at hl
        subst hl
        obtain ⟨a', e, ha⟩ := repVs_one h
        simp at e
        subst e
        exact ha
    | cons a2 vs =>
      cases cvs with
      | nil => simp at hl
      | cons v cvs =>
        cases cvs with
        | nil => simp at hl
        | cons v2 cvs => simp only [pack, packV, RepV]; exact ⟨_, rfl, h⟩

theorem pack_noLoc {vs : List AVal} (h : noLocL vs = true) : noLoc (pack vs) = true := by
  unfold pack
  split
  · simpa [noLocL] using h
  · simpa [noLoc] using h

/-- The end of a function, in the world. -/
theorem aret_sound (hE : E.Ok P) {fn : Func} {Q : AVal → List (Name × AObj) → Nat → Prop} {s : AState} (h : aret E fn.results.toList Q s) {w : World} {R : Own} {N : Name → Option Nat} {act : Act} {bsT bsL bsH bsF : List Nat}
    (hr : RelB G w R N act.tmps.toList s undef .undef [] bsT bsL bsH bsF) :
    ∃ cv, (results fn act.tmps).run P w = .ok cv w ∧ ∃ v heap' next' R' N' bsV bsH', Q v heap' next' ∧ RepV w R' (outs N') v cv bsV ∧ RepObjs w R' (outs N') heap' bsH' ∧ (bsV ++ (bsH' ++ bsF)).Nodup ∧
      (∀ o b, N' (.out o) = some b → o < next') ∧ Keep w R w R' bsF ∧ (∀ o b, N (.out o) = some b → N' (.out o) = some b) := by
  unfold aret at h
  split at h
  · exact h.elim
  · rename_i vs hvs
    have hnd0 : (bsT ++ (bsL ++ (bsH ++ bsF))).Nodup := by simpa using hr.nodup
    obtain ⟨cvs, bsM, bsT', k1, k2, k3, k4⟩ := retVals_sound hE hr.glob fn.results.toList hvs hr.tmps hr.locs hr.heap hnd0
    obtain ⟨bsM', k5, k6⟩ := tidyL_rep k2
    refine ⟨_, results_run k1, ?_⟩
    split at h
    · rename_i hno
      refine ⟨_, _, _, R, N, bsM', bsH, h, (pack_rep k5).to_outs (pack_noLoc hno), hr.heap, ?_, hr.next, keep_refl _, fun _ _ h => h⟩
      refine List.Nodup.sublist ?_ k4
      exact List.Sublist.append k6 ((List.sublist_append_right _ _).trans (List.sublist_append_right _ _))
    · split at h
      rename_i s' vs' hexp
      split at h
      · rename_i hno
        -- the slots are no longer needed: a state without them
        have hr1 : RelB G w R N [] { s with tmps := [] } (.tuple cvs.toArray) (.tup (tidyL vs)) bsM' [] bsL bsH bsF :=
          ⟨by simp only [RepV]; exact ⟨cvs, rfl, k5⟩, repVs_nil, hr.locs, hr.heap, by
            refine List.Nodup.sublist ?_ k4
            exact List.Sublist.append k6 (by simp), hr.next, hr.glob, hr.frame⟩
        have hexp' : ∀ (ns : List Name) (s1 s2 : AState) (a1 a2 : List AVal), expAll ns s1 a1 = (s2, a2) → expAll ns { s1 with tmps := [] } a1 = ({ s2 with tmps := [] }, a2) := by
          intro ns
          induction ns with
          | nil => intro s1 s2 a1 a2 h; simp only [expAll, Prod.mk.injEq] at h ⊢; obtain ⟨rfl, rfl⟩ := h; exact ⟨rfl, rfl⟩
          | cons n ns ih =>
            intro s1 s2 a1 a2 h
            simp only [expAll] at h ⊢
            split at h
            · rename_i hm
              rw [if_pos hm]
              have hp : prep1 true n { s1 with tmps := [] } a1 = (prep1 true n s1 a1).map (fun x => ({ x.1 with tmps := [] }, x.2)) := by
                unfold prep1
                dsimp only
                split
                · split
                  · simp [frzL]
                  · split <;> simp [renL]
                · simp [renL]
                · simp
              rw [hp]
              split at h
              · rename_i s3 a3 h3
                rw [h3]
                exact ih s3 s2 a3 a2 h
              · rename_i h3
                rw [h3]
                exact ih s1 s2 a1 a2 h
            · rename_i hm
              rw [if_neg hm]
              exact ih s1 s2 a1 a2 h
        obtain ⟨R2, N2, v2, t2, l2, g2, hr2, hk2, hN2⟩ := expAll_sound _ (hexp' _ _ _ _ _ hexp) hr1
        have hv := hr2.val
        simp only [RepV] at hv
        obtain ⟨cs0, ec, hargs⟩ := hv
        simp at ec
        subst ec
        refine ⟨_, _, _, R2, N2, v2, g2, h, (pack_rep hargs).to_outs (pack_noLoc hno), hr2.heap, ?_, hr2.next, hk2, hN2⟩
        refine List.Nodup.sublist ?_ hr2.nodup
        exact List.Sublist.append (.refl _) ((List.sublist_append_right _ _).trans (List.sublist_append_right _ _))
      · exact h.elim

theorem repVs_undef {w : World} {R : Own} {N : Name → Option Nat} : ∀ (k : Nat), RepVs w R N (List.replicate k .undef) (List.replicate k undef) []
  | 0 => repVs_nil
  | k + 1 => by simpa [List.replicate_succ] using repVs_cons (b1 := []) (b2 := []) (repV_undef (w := w) (R := R) (N := N) undef) (repVs_undef k)

/-- A function's contract out of its body. -/
theorem acalls_of_acode (hE : E.Ok P) {f : FuncId} {fn : Func} {c : Code} (hf : P.funcs[f]? = some fn) (hb : fn.body = some c) {args : List AVal} {heap : List (Name × AObj)} {next : Nat} {Q : AVal → List (Name × AObj) → Nat → Prop}
    (h : bndL args → bndO heap → ACode P G c (bodyQ E fn.results.toList Q) (enter fn.ntmps args heap next)) : ACalls P G f args heap next Q := by
  intro w R N cargs bsA bsH bsF ha hh hnd hnx hg hF
  replace h := h ha.bnd hh.bnd
  refine calls_of_wp hf hb ?_
  have hlen := ha.length
  have hr : RelB G w R (outs N) ((cargs.toArray ++ Array.replicate (fn.ntmps - cargs.toArray.size) undef).toList) (enter fn.ntmps args heap next) undef .undef [] bsA [] bsH bsF := by
    refine ⟨repV_undef _, ?_, rfl, ?_, by simpa using hnd, ?_, hg, hF⟩
    · have := repVs_append ha (repVs_undef (w := w) (R := R) (N := outs N) (fn.ntmps - args.length))
      simpa [enter, hlen] using this
    · exact hh.ext (fun m b hm => by cases m with | loc i => simp [outs] at hm | out o => exact hm)
    · intro o b ho; exact hnx o b ho
  refine wp_mono (h w R (outs N) _ bsA [] bsH bsF hr rfl) ?_
  rintro e a w' ⟨s', R', N', bsT, bsL, bsH', hq, hr', hd', hk, hN⟩
  have key : aret E fn.results.toList Q s' → a.defers = [] ∧ ∃ v, (results fn a.tmps).run P w' = .ok v w' ∧ (∃ v2 cv heap' next' R'' N'' bsV bsH'', Ending.returned v = .returned cv ∧ Q v2 heap' next' ∧ RepV w' R'' (outs N'') v2 cv bsV ∧ RepObjs w' R'' (outs N'') heap' bsH'' ∧
      (bsV ++ (bsH'' ++ bsF)).Nodup ∧ (∀ o b, N'' (.out o) = some b → o < next') ∧ Keep w R w' R'' bsF ∧ (∀ o b, N (.out o) = some b → N'' (.out o) = some b)) := by
    intro hret
    obtain ⟨cv, g1, v2, heap', next', R'', N'', bsV, bsH'', q1, q2, q3, q4, q5, q6, q7⟩ := aret_sound hE hret hr'
    exact ⟨hd', cv, g1, v2, cv, heap', next', R'', N'', bsV, bsH'', rfl, q1, q2, q3, q4, q5, hk.trans q6, fun o b h => q7 o b (hN o b h)⟩
  cases e with
  | ret => exact key hq
  | normal => exact key hq
  | exit i => exact hq.elim
  | goto l => exact hq.elim
  | panic ch => exact hq.elim
  | outgrown => exact hq.elim

theorem acalls_of_awp (hE : E.Ok P) {f : FuncId} {fn : Func} {c : Code} (hf : P.funcs[f]? = some fn) (hb : fn.body = some c) (hck : chkAll H c = true) {args : List AVal} {heap : List (Name × AObj)} {next : Nat} {Q : AVal → List (Name × AObj) → Nat → Prop}
    (h : bndL args → bndO heap → awp (ACalls P G) (ACode P G) E G H c (bodyQ E fn.results.toList Q) (enter fn.ntmps args heap next)) : ACalls P G f args heap next Q :=
  acalls_of_acode hE hf hb fun h1 h2 => awp_sound hE c _ _ hck (h h1 h2)

/-! #### Tables -/
inductive Tr where
  | nil
  | node (l : Tr) (k : Nat) (v : TI) (r : Tr)

def Tr.find : Tr → Nat → Option TI
  | .nil, _ => none
  | .node l k v r, t => match Nat.blt t k with
    | true => l.find t
    | false => (match Nat.blt k t with | true => r.find t | false => some v)

def Tr.All (P : Program) : Tr → Prop
  | .nil => True
  | .node l k v r => l.All P ∧ v.ok P k ∧ r.All P

theorem Tr.all_nil {P : Program} : Tr.All P .nil := trivial
theorem Tr.all_node {P : Program} {l r : Tr} {k : Nat} {v : TI} (hl : l.All P) (hv : v.ok P k) (hr : r.All P) : Tr.All P (.node l k v r) := ⟨hl, hv, hr⟩

theorem Tr.find_ok {P : Program} : ∀ {tr : Tr}, tr.All P → ∀ {t : Nat} {i : TI}, tr.find t = some i → i.ok P t
  | .nil, _, t, i, h => by simp [Tr.find] at h
  | .node l k v r, ⟨hl, hv, hr⟩, t, i, h => by
    simp only [Tr.find] at h
    cases h1 : Nat.blt t k with
    | true => rw [h1] at h; exact Tr.find_ok hl h
    | false =>
      rw [h1] at h
      cases h2 : Nat.blt k t with
      | true => rw [h2] at h; exact Tr.find_ok hr h
      | false =>
        rw [h2] at h
        have h1' : ¬ t < k := fun h => by rw [← Nat.blt_eq, h1] at h; simp at h
        have h2' : ¬ k < t := fun h => by rw [← Nat.blt_eq, h2] at h; simp at h
        have : t = k := by omega
        subst this
        simp at h
        subst h
        exact hv

def fnOk (P : Program) (f : FuncId) : Bool := match P.funcs[f]? with
  | some g => g.body.isSome && !(g.name == "runtime.NumGoroutine")
  | none => false

/-! #### Forgetting; loops -/

theorem keepT_rep {w : World} {R : Own} {N : Name → Option Nat} (ts : List Nat) : ∀ {as : List AVal} {vs : List Value} {bs : List Nat} (k : Nat), RepVs w R N as vs bs → ∃ bs', RepVs w R N (keepT ts k as) vs bs' ∧ bs'.Sublist bs
  | [], _, _, _, h => by obtain ⟨rfl, rfl⟩ := repVs_nil_inv h; exact ⟨[], repVs_nil, .refl _⟩
  | a :: as, _, _, k, h => by
    obtain ⟨v, vs', b1, b2, rfl, rfl, h1, h2⟩ := repVs_cons_inv h
    obtain ⟨bs', g1, g2⟩ := keepT_rep ts (k + 1) h2
    simp only [keepT]
    split
    · exact ⟨b1 ++ bs', repVs_cons h1 g1, List.Sublist.append (.refl _) g2⟩
    · exact ⟨[] ++ bs', repVs_cons (repV_undef v) g1, by simpa using g2.trans (List.sublist_append_right b1 b2)⟩

theorem keepO_rep {w : World} {R : Own} {N : Name → Option Nat} (ls : List Nat) : ∀ {os : List (Name × AObj)} {bs : List Nat}, RepObjs w R N os bs → ∃ bs', RepObjs w R N (keepO ls os) bs' ∧ bs'.Sublist bs
  | [], _, h => ⟨_, h, .refl _⟩
  | (.loc i, o) :: os, _, ⟨b, b1, b2, e, hn, h1, h2⟩ => by
    subst e
    obtain ⟨bs', g1, g2⟩ := keepO_rep ls h2
    simp only [keepO]
    split
    · exact ⟨b :: (b1 ++ bs'), ⟨b, b1, bs', rfl, hn, h1, g1⟩, (List.Sublist.append (.refl _) g2).cons_cons _⟩
    · exact ⟨bs', g1, g2.trans ((List.sublist_append_right b1 b2).cons _)⟩
  | (.out i, o) :: os, _, ⟨b, b1, b2, e, hn, h1, h2⟩ => by
    subst e
    obtain ⟨bs', g1, g2⟩ := keepO_rep ls h2
    exact ⟨bs', g1, g2.trans ((List.sublist_append_right b1 b2).cons _)⟩

theorem RelB.forget {w : World} {R : Own} {N : Name → Option Nat} {tmps : List Value} {s : AState} {bsT bsL bsH bsF : List Nat} (h : RelB G w R N tmps s undef .undef [] bsT bsL bsH bsF) (ts ls : List Nat) :
    ∃ bsT' bsL', RelB G w R N tmps (s.keep ts ls) undef .undef [] bsT' bsL' bsH bsF := by
  obtain ⟨bsT', k1, k2⟩ := keepT_rep ts 0 h.tmps
  obtain ⟨bsL', k3, k4⟩ := keepO_rep ls h.locs
  exact ⟨bsT', bsL', repV_undef _, k1, k3, h.heap, List.Nodup.sublist (List.Sublist.append (.refl _) (List.Sublist.append k2 (List.Sublist.append k4 (.refl _)))) h.nodup, h.next, h.glob, h.frame⟩

theorem acode_forget {c : Code} {Q : Exit → AState → Prop} {s : AState} (ts ls : List Nat) (h : ACode P G c Q (s.keep ts ls)) : ACode P G c Q s := by
  intro w R N act bsT bsL bsH bsF hr D hd
  obtain ⟨bsT', bsL', hr'⟩ := hr.forget ts ls
  exact h w R N act bsT' bsL' bsH bsF hr' hd

theorem wp_loop_ghost {c : Code} {Q : Exit → Act → World → Prop} (I : Nat → Act → World → Prop) {n0 : Nat} {a : Act} {w : World} (h0 : I n0 a w)
    (round : ∀ n a w, I n a w → c.wp P (Exit.then (fun a' w' => ∃ n', n' < n ∧ I n' a' w') Q) a w) : (Code.loop c).wp P Q a w := by
  intro b k cs
  have key : ∀ n a w, I n a w → ∃ e a' w', Q e a' w' ∧ Arrives P (lone (b.at a (.code c :: .inLoop c :: k)) cs w) b k cs e a' w' := by
    intro n
    induction n using Nat.strongRecOn with
    | _ n ih =>
      intro a w hI
      obtain ⟨e, a1, w1, hq, harr⟩ := round n a w hI b (.inLoop c :: k) cs
      cases e with
      | normal =>
        obtain ⟨n', hlt, hI1⟩ := hq
        obtain ⟨e2, a2, w2, hq2, harr2⟩ := ih n' hlt a1 w1 hI1
        exact ⟨e2, a2, w2, hq2, .of_steps (Steps.trans harr (.one step_inLoop)) harr2⟩
      | exit id => exact ⟨_, a1, w1, hq, .pass (x := .inLoop c) rfl (fun _ _ => .inl (by simp)) harr⟩
      | goto l => exact ⟨_, a1, w1, hq, .pass (x := .inLoop c) rfl (fun _ _ => .inl (by simp)) harr⟩
      | ret => exact ⟨_, a1, w1, hq, .pass (x := .inLoop c) rfl (fun _ _ => .inl (by simp)) harr⟩
      | panic ch => exact ⟨_, a1, w1, hq, .pass (x := .inLoop c) rfl (fun _ _ => .inl (by simp)) harr⟩
      | outgrown => exact ⟨_, a1, w1, hq, .pass (x := .inLoop c) rfl (fun _ _ => .inl (by simp)) harr⟩
  obtain ⟨e, a', w', hq, harr⟩ := key n0 a w h0
  exact ⟨e, a', w', hq, .of_steps (.one step_loop) harr⟩

/-- A loop: st x is the state at a round's head (what is not kept forgotten), μ x goes down. -/
theorem acode_loop {α : Type} {c : Code} {Q : Exit → AState → Prop} {s : AState} (ts ls : List Nat) (st : α → AState) (ok : α → Prop) (μ : α → Nat) (x0 : α) (h0 : ok x0) (hs : s.keep ts ls = st x0)
    (round : ∀ x, ok x → ACode P G c (seqQ (fun s' => ∃ x', ok x' ∧ μ x' < μ x ∧ s'.keep ts ls = st x') Q) (st x)) : ACode P G (.loop c) Q s := by
  intro w R N act bsT bsL bsH bsF hr D hd
  refine wp_loop_ghost (I := fun n a w' => ∃ x R' N' bsT' bsL' bsH', ok x ∧ μ x = n ∧ RelB G w' R' N' a.tmps.toList (st x) undef .undef [] bsT' bsL' bsH' bsF ∧ a.defers = D ∧ Keep w R w' R' bsF ∧ (∀ o b, N (.out o) = some b → N' (.out o) = some b)) (n0 := μ x0) ?_ ?_
  · obtain ⟨bsT', bsL', hr'⟩ := hr.forget ts ls
    rw [hs] at hr'
    exact ⟨x0, R, N, bsT', bsL', bsH, h0, rfl, hr', hd, keep_refl _, fun _ _ h => h⟩
  · rintro n a w' ⟨x, R', N', bsT', bsL', bsH', hok, rfl, hr', hd', hk, hN⟩
    refine wp_mono (round x hok w' R' N' a bsT' bsL' bsH' bsF hr' hd') ?_
    rintro e a2 w2 ⟨s2, R2, N2, bsT2, bsL2, bsH2, hq, hr2, hd2, hk2, hN2⟩
    cases e with
    | normal =>
      obtain ⟨x', hok', hlt, hs'⟩ := hq
      obtain ⟨bsT3, bsL3, hr3⟩ := hr2.forget ts ls
      rw [hs'] at hr3
      exact ⟨μ x', hlt, x', R2, N2, bsT3, bsL3, bsH2, hok', rfl, hr3, hd2, hk.trans hk2, fun o b h => hN2 o b (hN o b h)⟩
    | _ => exact ⟨s2, R2, N2, bsT2, bsL2, bsH2, hq, hr2, hd2, hk.trans hk2, fun o b h => hN2 o b (hN o b h)⟩
end
end Go.Tp
