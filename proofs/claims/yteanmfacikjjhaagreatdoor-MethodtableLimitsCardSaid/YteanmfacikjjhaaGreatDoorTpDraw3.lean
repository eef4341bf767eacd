/- The generic layer: regions that draw their order: the whole region; code. -/
import Derived.Test.YteanmfacikjjhaaGreatDoorTpDraw2
namespace Go.Tp

section
variable {P : Program} {E : TEnv} {G : Globs} {H : Hints} {D : List Deferred}

theorem acalleeD_sound (hE : E.Ok P) {c : Call} {s s2 : AState} {f : FuncId} {args : List AVal} (h : acalleeD E G H c s = some (f, args, s2)) {w : World} {R : Own} {N : Name → Option Nat} {act : Act} {bsT bsL bsH bsF : List Nat}
    (hr : RelB G w R N act.tmps.toList s undef .undef [] bsT bsL bsH bsF) (o : Oper) (ho : o.op = .call c) :
    ∃ cargs : List Value, (execOp act.eval o).run P w = .ok (.enter f cargs.toArray) w ∧ noLocL args = true ∧ ∃ bsA bsT', RelB G w R N act.tmps.toList s2 (.tuple cargs.toArray) (.tup args) bsA bsT' bsL bsH bsF := by
  obtain ⟨callee, cargs0, argTypes⟩ := c
  cases callee with
  | builtin _ => simp [acalleeD] at h
  | invoke _ _ => simp [acalleeD] at h
  | value fo =>
    simp only [acalleeD] at h
    obtain ⟨bf, hfv⟩ := eval_raw hr.tmps hr.glob fo
    generalize haf : aeval G s fo = af at h hfv
    split at h
    · rename_i g first captured
      simp only [RepV] at hfv
      obtain ⟨_, vf, uf, ef, hfirst, hcap⟩ := hfv
      split at h
      · rename_i hfn
        obtain ⟨fn, hf1, hf2, hf3⟩ := hE.fn g hfn
        have hnd0 : (bsT ++ (bsL ++ (bsH ++ bsF))).Nodup := by simpa using hr.nodup
        have hops : ∃ (vs : List AVal) (s1 : AState) (bsM bsT' : List Nat), (if H.moves g = true then takeArgs G s cargs0.toList else (evalArgs G s none 0 cargs0.toList, s)) = (vs, s1) ∧
            RepVs w R N vs (cargs0.toList.map act.eval) bsM ∧ RepVs w R N s1.tmps act.tmps.toList bsT' ∧ (bsM ++ (bsT' ++ (bsL ++ (bsH ++ bsF)))).Nodup ∧ s1.locs = s.locs ∧ s1.heap = s.heap ∧ s1.next = s.next := by
          split
          · obtain ⟨bsM, bsT', k1, k2, k3⟩ := takeArgs_sound hr.glob cargs0.toList hr.tmps hnd0
            obtain ⟨q1, q2, q3⟩ := takeArgs_keeps G cargs0.toList s
            exact ⟨_, _, bsM, bsT', rfl, k1, k2, k3, q1, q2, q3⟩
          · exact ⟨_, _, [], bsT, rfl, args_copy hr.tmps hr.glob none 0 _ (by simp), hr.tmps, by simpa using hnd0, rfl, rfl, rfl⟩
        obtain ⟨vs, s1, bsM, bsT', hpair, hvs, ht1, hnd1, q1, q2, q3⟩ := hops
        rw [hpair] at h
        simp only at h
        split at h
        · rename_i hno
          simp only [Option.some.injEq, Prod.mk.injEq] at h
          obtain ⟨rfl, rfl, rfl⟩ := h
          have hall : RepVs w R N (first ++ vs ++ captured) (vf ++ cargs0.toList.map act.eval ++ uf) bsM := by
            have := repVs_append (repVs_append hfirst hvs) hcap
            simpa using this
          refine ⟨vf ++ cargs0.toList.map act.eval ++ uf, ?_, hno, bsM, bsT', ⟨by simp only [RepV]; exact ⟨_, rfl, hall⟩, ht1, by rw [q1]; exact hr.locs, by rw [q2]; exact hr.heap, hnd1, by rw [q3]; exact hr.next, hr.glob, hr.frame⟩⟩
          have hbody : fn.body.isNone = false := by cases hb : fn.body <;> simp_all
          have hb2 : ¬ fn.body = none := by intro hb; simp [hb] at hbody
          have hn2 : ¬ fn.name = "runtime.NumGoroutine" := by simpa using hf3
          simp [execOp, ho, resolve, ef, Deferred.ofValue, invoke, callFunc, hf1, hn2, hb2]
        · simp at h
      · simp at h
    · simp at h

theorem aget_aset : ∀ {os : List (Name × AObj)} {n m : Name} {o x : AObj}, aget m (aset n o os) = some x → ∃ y, aget m os = some y
  | [], _, _, _, _, h => by simp [aset, aget] at h
  | (k, y) :: os, n, m, o, x, h => by
    simp only [aset] at h
    split at h
    · simp only [aget] at h ⊢
      split
      · exact ⟨_, rfl⟩
      · rename_i hk
        rw [if_neg hk] at h
        exact ⟨x, h⟩
    · simp only [aget] at h ⊢
      split
      · exact ⟨_, rfl⟩
      · rename_i hk
        rw [if_neg hk] at h
        exact aget_aset h

theorem getT_some {l : List AVal} {t : Nat} {v : AVal} (h : getT l t = v) (hv : v ≠ .undef) : l[t]? = some v := by
  unfold getT at h
  split at h
  · rename_i x hx; rw [hx, h]
  · exact absurd h.symm hv

theorem putO_dom {s : AState} {n m : Name} {o x : AObj} (h : (s.putO n o).obj m = some x) : ∃ y, s.obj m = some y := by
  cases n <;> cases m <;> simp only [AState.putO, AState.obj] at h ⊢
  · exact aget_aset h
  · exact ⟨_, h⟩
  · exact ⟨_, h⟩
  · exact aget_aset h

/-- What a cell owns goes over to a slot. -/
theorem showTk_sound {fh : Bool} {ops : Array Oper} {w : World} {R : Own} {N : Name → Option Nat} {act : Act} {bsF : List Nat} :
    ∀ (tk : List Nat) {s s' : AState} {bsT bsL bsH : List Nat}, showTk fh ops.toList tk s = some s' → RelB G w R N act.tmps.toList s undef .undef [] bsT bsL bsH bsF →
      (∀ i o T u t n off ob, i ∈ tk → ops[i]? = some o → o.op = .load T (.tmp u) → o.dst = some t → o.guard = none → getT s.tmps u = .ptr n off → okN fh n = true → s.obj n = some ob → t < act.tmps.size →
        ∃ b v, N n = some b ∧ act.tmps[t]? = some v ∧ (w.cell? ⟨b, off, none⟩ = some v ∨ ∃ vs, v = .agg vs)) →
      ∃ bsT' bsL' bsH', RelB G w R N act.tmps.toList s' undef .undef [] bsT' bsL' bsH' bsF
  | [], s, s', bsT, bsL, bsH, h, hr, _ => by simp [showTk] at h; subst h; exact ⟨bsT, bsL, bsH, hr⟩
  | i :: r, s, s', bsT, bsL, bsH, h, hr, hf => by
    obtain ⟨o, T, u, t, n, off, cs, es, es2, ho, hop, hd, hg, hu, hok, hob, hes, ht, hrest⟩ := showTk_spec h
    have ho' : ops[i]? = some o := by simpa using ho
    have hsz : act.tmps.size = s.tmps.length := by have := hr.tmps.length; simpa using this
    have htg := getT_some ht (by simp)
    have htl : t < act.tmps.size := by rw [hsz]; exact (List.getElem?_eq_some_iff.1 htg).1
    obtain ⟨b0, v, hb0, hv, hcell⟩ := hf i o T u t n off (.cells cs) (by simp) ho' hop hd hg hu hok hob htl
    obtain ⟨v', bs', g1, g2, _⟩ := repVs_get hr.tmps htg
    have hvv : v' = v := by
      have : act.tmps.toList[t]? = some v := by simpa using hv
      rw [this] at g1; simp at g1; exact g1.symm
    subst hvv
    have hsame : act.tmps.toList.set t v' = act.tmps.toList := by
      apply List.ext_getElem?
      intro j
      rw [List.getElem?_set]
      split
      · rename_i hj; subst hj; split
        · exact g1.symm
        · rename_i hl; rw [List.getElem?_eq_none (by omega)]
      · rfl
    have k2 : putL off [AVal.dat (.slice es)] cs = cs.set off (.dat (.slice es)) := by
      apply List.ext_getElem?
      intro j
      rw [putL_get, List.getElem?_set]
      by_cases hj : off = j
      · subst hj
        by_cases hl : off < cs.length
        · rw [if_pos ⟨Nat.le_refl _, by simp, hl⟩, if_pos rfl, if_pos hl]; simp
        · rw [if_neg (by omega), if_pos rfl, if_neg hl]; exact List.getElem?_eq_none (by omega)
      · rw [if_neg (by simp; omega), if_neg hj]
    -- the object's cells, ownership gone
    have hcells : ∀ (M : Name → Option Nat) (b : Nat) (b1 : List Nat), N n = some b → RepObj w R M (.cells cs) b b1 → ∃ bt b1', RepOwn w R v' es bt ∧ RepObj w R M (.cells (putL off [.dat (.slice es)] cs)) b b1' ∧ b1.Perm (bt ++ b1') := by
      intro M b b1 hN hobj
      rw [hN] at hb0
      simp at hb0
      subst hb0
      obtain ⟨vs, elem, sp, hblk, hrr, hR⟩ := hobj
      obtain ⟨pre2, bt, post2, cv, f1, f2, f3, f4⟩ := RepVs.split hrr (get_pad hes)
      have hcv : w.cell? ⟨b, off, none⟩ = some cv := by rw [cell_of_row w b off vs elem (0, 0) hblk]; simpa using f2
      have hvc : v' = cv := by
        rcases hcell with hcell | ⟨us, hus⟩
        · rw [hcv] at hcell; simp at hcell; exact hcell.symm
        · subst hus
          have := (repV_slice_inv g2).2
          cases this
      subst hvc
      have hset := f4 w R (.dat (.slice es)) v' [] (keep_refl _) (repV_dat (d := .slice es) (repV_own_inv f3).rep)
      have k1 : vs.toList.set off v' = vs.toList := by
        apply List.ext_getElem?
        intro j
        rw [List.getElem?_set]
        split
        · rename_i hj; subst hj; split
          · exact f2.symm
          · rename_i hl; rw [List.getElem?_eq_none (by omega)]
        · rfl
      rw [k1, List.set_append_left (h := (List.getElem?_eq_some_iff.1 hes).1)] at hset
      refine ⟨bt, pre2 ++ [] ++ post2, repV_own_inv f3, ⟨vs, elem, sp, hblk, by rw [k2]; exact hset, hR.1, fun hb => hR.2 (bldSh_taken hes hb)⟩, ?_⟩
      subst f1
      rw [List.perm_iff_count]; intro q; simp only [List.count_append, List.count_nil]; omega
    have hstate : ∃ bt bsL1 bsH1, RepOwn w R v' es bt ∧ RepObjs w R N (s.putO n (.cells (putL off [.dat (.slice es)] cs))).locs bsL1 ∧ RepObjs w R (outs N) (s.putO n (.cells (putL off [.dat (.slice es)] cs))).heap bsH1 ∧ (bt ++ (bsT ++ (bsL1 ++ (bsH1 ++ bsF)))).Nodup := by
      have h0 : (bsT ++ (bsL ++ (bsH ++ bsF))).Nodup := by simpa using hr.nodup
      cases n with
      | loc k =>
        obtain ⟨pre, b, b1, post, e1, e2, e3, e4⟩ := RepObjs.split hr.locs hob
        obtain ⟨bt, b1', q1, q2, q3⟩ := hcells N b b1 e2 e3
        refine ⟨bt, _, bsH, q1, e4 w R _ b1' (keep_refl _) q2, hr.heap, ?_⟩
        subst e1
        have hp : (bt ++ (bsT ++ ((pre ++ (b :: b1') ++ post) ++ (bsH ++ bsF)))).Perm (bsT ++ ((pre ++ (b :: b1) ++ post) ++ (bsH ++ bsF))) := by
          have q3' := List.perm_iff_count.1 q3
          rw [List.perm_iff_count]; intro q; have := q3' q; simp only [List.count_append, List.count_cons] at this ⊢; omega
        exact hp.nodup_iff.2 h0
      | out k =>
        obtain ⟨pre, b, b1, post, e1, e2, e3, e4⟩ := RepObjs.split hr.heap hob
        obtain ⟨bt, b1', q1, q2, q3⟩ := hcells (outs N) b b1 (by simpa [outs] using e2) e3
        refine ⟨bt, bsL, _, q1, hr.locs, e4 w R _ b1' (keep_refl _) q2, ?_⟩
        subst e1
        have hp : (bt ++ (bsT ++ (bsL ++ ((pre ++ (b :: b1') ++ post) ++ bsF)))).Perm (bsT ++ (bsL ++ ((pre ++ (b :: b1) ++ post) ++ bsF))) := by
          have q3' := List.perm_iff_count.1 q3
          rw [List.perm_iff_count]; intro q; have := q3' q; simp only [List.count_append, List.count_cons] at this ⊢; omega
        exact hp.nodup_iff.2 h0
    obtain ⟨bt, bsL1, bsH1, q1, q2, q3, q4⟩ := hstate
    obtain ⟨bsT2, p1, p2⟩ := put_tmps (a := .own es) t hr.tmps (by simpa only [RepV] using q1) q4
    rw [hsame] at p1
    have e5 : (({ s with tmps := s.tmps.set t (.own es) } : AState).putO n (.cells (putL off [.dat (.slice es)] cs))) = { s.putO n (.cells (putL off [.dat (.slice es)] cs)) with tmps := s.tmps.set t (.own es) } := by cases n <;> rfl
    rw [e5] at hrest
    refine showTk_sound r hrest ⟨repV_undef _, p1, q2, q3, by simpa using p2, by simpa only [putO_next] using hr.next, hr.glob, hr.frame⟩ ?_
    intro i' o' T' u' t' n' off' ob' hi' ho2 hop2 hd2 hg2 hu2 hok2 hob2 hlt2
    have hu3 : getT s.tmps u' = .ptr n' off' := by
      by_cases hut : t = u'
      · subst hut
        exfalso
        unfold getT at hu2
        rw [List.getElem?_set_self (by rw [← hsz]; exact htl)] at hu2
        simp at hu2
      · rwa [getT_set_ne hut] at hu2
    have hob3 : ∃ y, s.obj n' = some y := by
      have hob2' : (s.putO n (.cells (putL off [.dat (.slice es)] cs))).obj n' = some ob' := by cases n' <;> exact hob2
      exact putO_dom hob2'
    obtain ⟨y, hy⟩ := hob3
    exact hf i' o' T' u' t' n' off' y (by simp [hi']) ho2 hop2 hd2 hg2 hu3 hok2 hy hlt2

theorem showTk_dom {fh : Bool} {all : List Oper} : ∀ (tk : List Nat) (s s' : AState), showTk fh all tk s = some s' → ∀ n ob, s'.obj n = some ob → ∃ y, s.obj n = some y
  | [], s, s', h, n, ob, hn => by simp [showTk] at h; subst h; exact ⟨ob, hn⟩
  | i :: r, s, s', h, n, ob, hn => by
    obtain ⟨o, T, u, t, m, off, cs, es, es2, ho, hop, hd, hg, hu, hok, hob, hes, ht, hrest⟩ := showTk_spec h
    obtain ⟨y, hy⟩ := showTk_dom r _ _ hrest n ob hn
    obtain ⟨z, hz⟩ := putO_dom hy
    exact ⟨z, by cases n <;> exact hz⟩

theorem aset_get : ∀ {os : List (Name × AObj)} {n m : Name} {o x : AObj}, aget m os = some x → ∃ y, aget m (aset n o os) = some y
  | [], _, _, _, _, h => by simp [aget] at h
  | (k, y) :: os, n, m, o, x, h => by
    simp only [aget] at h
    simp only [aset]
    split
    · simp only [aget]
      split
      · exact ⟨_, rfl⟩
      · rename_i hk
        rw [if_neg hk] at h
        exact ⟨x, h⟩
    · simp only [aget]
      split
      · exact ⟨_, rfl⟩
      · rename_i hk
        rw [if_neg hk] at h
        exact aset_get h

theorem putO_fwd {s : AState} {n m : Name} {o x : AObj} (h : s.obj m = some x) : ∃ y, (s.putO n o).obj m = some y := by
  cases n <;> cases m <;> simp only [AState.putO, AState.obj] at h ⊢
  · exact aset_get h
  · exact ⟨_, h⟩
  · exact ⟨_, h⟩
  · exact aset_get h

theorem showTk_fwd {fh : Bool} {all : List Oper} : ∀ (tk : List Nat) (s s' : AState), showTk fh all tk s = some s' → ∀ n ob, s.obj n = some ob → ∃ y, s'.obj n = some y
  | [], s, s', h, n, ob, hn => by simp [showTk] at h; subst h; exact ⟨ob, hn⟩
  | i :: r, s, s', h, n, ob, hn => by
    obtain ⟨o, T, u, t, m, off, cs, es, es2, ho, hop, hd, hg, hu, hok, hob, hes, ht, hrest⟩ := showTk_spec h
    obtain ⟨y, hy⟩ := putO_fwd (s := { s with tmps := s.tmps.set t (.own es) }) (n := m) (o := .cells (putL off [.dat (.slice es)] cs)) (m := n) (x := ob) (by cases n <;> exact hn)
    exact showTk_fwd r _ _ hrest n y hy

theorem showTk_ptr {fh : Bool} {all : List Oper} : ∀ (tk : List Nat) (s s' : AState), showTk fh all tk s = some s' → ∀ t n off, getT s'.tmps t = .ptr n off → getT s.tmps t = .ptr n off
  | [], s, s', h, t, n, off, hn => by simp [showTk] at h; subst h; exact hn
  | i :: r, s, s', h, t', n', off', hn => by
    obtain ⟨o, T, u, t, m, off, cs, es, es2, ho, hop, hd, hg, hu, hok, hob, hes, ht, hrest⟩ := showTk_spec h
    have h1 := showTk_ptr r _ _ hrest t' n' off' hn
    rw [putO_tmps] at h1
    by_cases he : t = t'
    · subst he
      exfalso
      have hlt := (List.getElem?_eq_some_iff.1 (getT_some ht (by simp))).1
      unfold getT at h1
      rw [List.getElem?_set_self hlt] at h1
      simp at h1
    · rwa [getT_set_ne he] at h1

/-- An append, its ownership in hand. -/
theorem app_sound (hE : E.Ok P) {o : Oper} {t : Tmp} (ht : appSlot o.op = some t) {s s' : AState} (h : astep E G false false o s = some s') {w : World} {R : Own} {N : Name → Option Nat} {act : Act} {bsT bsL bsH bsF : List Nat}
    (hr : RelB G w R N act.tmps.toList s undef .undef [] bsT bsL bsH bsF) :
    ∃ cv w' R' bsT', Ran P w act.eval o cv w' ∧ RelB G w' R' N (act.put o.dst cv).tmps.toList s' undef .undef [] bsT' bsL bsH bsF ∧ Keep w R w' R' (bsL ++ (bsH ++ bsF)) := by
  unfold astep at h
  have hnd0 : (bsT ++ (bsL ++ (bsH ++ bsF))).Nodup := by simpa using hr.nodup
  obtain ⟨bsM, bsT', ha, ht', hnd, hmv⟩ := args_take hr.tmps hr.glob (mvQ false o.op) (opsL o.op) (bsL ++ (bsH ++ bsF)) hnd0
  split at h
  · simp at h
  rename_i out hop
  obtain ⟨hk, hl⟩ := append_keep ht hop
  have hlo : lookedAt s o.op (evalArgs G s (mvQ false o.op) 0 (opsL o.op)) = none := by unfold lookedAt; rw [hl]
  rw [hlo] at hop
  have hlk : Looked w R N o.op (evalArgs G s (mvQ false o.op) 0 (opsL o.op)) none none := by unfold Looked; rw [hl]; exact ⟨rfl, rfl⟩
  obtain ⟨cv, w', R', hran, hkeep, hout⟩ := aop_sound (rest := bsT' ++ (bsL ++ (bsH ++ bsF))) hE hop ha (fun h => hmv (by unfold mvQ; simp [h])) hlk (by simpa [nmL] using hnd) (fun _ => rfl)
  rw [hk] at hout
  obtain ⟨bsV, hv, hf, _, _⟩ := hout
  simp only [astepOut, hk, Option.some.injEq] at h
  subst h
  obtain ⟨dl1, dl2, dl3⟩ := drop_locs s (mvQ false o.op) (opsL o.op)
  have hlt : ∀ b ∈ bsT' ++ (bsL ++ (bsH ++ bsF)), b < w.heap.size := fun b hb => by
    simp at hb
    rcases hb with h | h | h | h
    · exact ht'.lt b h
    · exact hr.locs.lt b h
    · exact hr.heap.lt b h
    · exact hr.frame b h
  have hndV : (bsV ++ (bsT' ++ (bsL ++ (bsH ++ bsF)))).Nodup := from_nodup hnd hlt hf
  obtain ⟨bsT2, hp1, hp2⟩ := put_state o.dst (ht'.keep (hkeep.sub (by intro b hb; simp [hb]))) hv hndV
  obtain ⟨q1, q2, q3⟩ := put_locs (dropOwn s (mvQ false o.op) (opsL o.op)) o.dst out.val
  refine ⟨cv, w', R', bsT2, hran, ⟨repV_undef _, ?_, ?_, ?_, by simpa using hp2, ?_, fun g cs hg => (hr.glob g cs hg).step hkeep.step, fun b hb => Nat.lt_of_lt_of_le (hr.frame b hb) hkeep.step.size⟩, hkeep.sub (by intro b hb; simp at hb; simp; exact .inr hb)⟩
  · rw [(put_act act o.dst cv).1]; exact hp1
  · rw [q1, dl1]; exact hr.locs.keep (hkeep.sub (by intro b hb; simp [hb]))
  · rw [q2, dl2]; exact hr.heap.keep (hkeep.sub (by intro b hb; simp [hb]))
  · rw [q3, dl3]; exact hr.next

/-- A call or an append that comes up alone. -/
theorem l_step (hE : E.Ok P) {ops : Array Oper} {h : RHint} (hc : chkSlots ops h = true) (hca : chkApp ops h = true) (hcst : chkStores ops h = true) {listed : Array Bool} {w : World} {R : Own} {N : Name → Option Nat} {act : Act} {s : AState} {bsT bsL bsH bsX bsF : List Nat}
    (hp : PRel E G H ops h listed w R N act s bsT bsL bsH bsX bsF) (hcl : Closed ops listed) (hd : act.defers = D) {i : Nat} {o : Oper} (hi : ops[i]? = some o) (hun : listed[i]? = some false) (hm : (i, true) ∈ h.pre) (hrd : i ∈ Region.ready .any ops listed) {K : AState → Prop} (hq : opL (ACalls P G) E G H (quietHeap H ops.toList h.pre) h.tk ops.toList o K s)
    {Qx : Exit → Act → World → Prop} {Kx : Act → World → Prop}
    (hK : ∀ s' cv w' R' N' bsT' bsL' bsH', K s' → PRel E G H ops h (setL listed i) w' R' N' (act.put o.dst cv) s' bsT' bsL' bsH' bsX bsF → Keep w R w' R' bsF → (∀ o b, N (.out o) = some b → N' (.out o) = some b) → Kx (act.put o.dst cv) w') : wpOp P ops Qx i Kx act w := by
  have hself : ∀ {s' : AState} {cv : Value} {w' : World} {R' : Own} {N' : Name → Option Nat} {bsT' bsL' bsH' : List Nat}, RelB G w' R' N' (act.put o.dst cv).tmps.toList s' undef .undef [] bsT' bsL' bsH' (bsX ++ bsF) → Keep w R w' R' bsX → (∀ n ob b, okN (quietHeap H ops.toList h.pre) n = true → s.obj n = some ob → N n = some b → w'.heap[b]? = w.heap[b]?) →
      (∀ m c, N m = some c → N' m = some c) → (∀ n ob, okN (quietHeap H ops.toList h.pre) n = true → s'.obj n = some ob → ∃ y, s.obj n = some y) → (∀ t n off, okN (quietHeap H ops.toList h.pre) n = true → o.dst ≠ some t → getT s'.tmps t = .ptr n off → getT s.tmps t = .ptr n off) →
      (o.guard ≠ none ∨ ∃ c, o.op = .call c) → PRel E G H ops h (setL listed i) w' R' N' (act.put o.dst cv) s' bsT' bsL' bsH' bsX bsF := by
    intro s' cv w' R' N' bsT' bsL' bsH' hr2 hk hkL hN hlocs hT hwhy
    obtain ⟨c1, c2⟩ := hp.carry (cv := cv) [] hc hcl hi hun hm hk hkL hN hlocs hT
    refine ⟨hr2, ?_, ?_⟩
    · intro j q t' d ti' hnw hl hqo hop2 hdd hg hty hlt2
      by_cases hji : j = i
      · subst hji
        rw [hi] at hqo
        simp at hqo
        subst hqo
        rcases hwhy with hwhy | ⟨c, hcc⟩
        · exact absurd hg hwhy
        · rw [hop2] at hcc; simp at hcc
      · simpa using c1 j q t' d ti' hji hnw hl hqo hop2 hdd hg hty hlt2
    · intro j q T u t' n off ob htk hl hqo hop2 hdd hg hu hok hob hlt2
      by_cases hji : j = i
      · subst hji
        rw [hi] at hqo
        simp at hqo
        subst hqo
        rcases hwhy with hwhy | ⟨c, hcc⟩
        · exact absurd hg hwhy
        · rw [hop2] at hcc; simp at hcc
      · exact c2 j q T u t' n off ob hji htk hl hqo hop2 hdd hg hu hok hob hlt2
  unfold wpOp
  simp only [hi]
  unfold opL at hq
  split at hq
  · exact hq.elim
  rename_i b hw
  rw [wanted_sound hp.rel.tmps hw]
  split at hq
  · rename_i hb
    subst hb
    simp only [if_true]
    left
    split at hq
    · rename_i c hcc
      have hop := isCall_op hcc
      split at hq
      · rename_i f args s2 hcal
        obtain ⟨cargs, hrun, hno, bsA, bsT2, hr2⟩ := acalleeD_sound hE hcal hp.rel o hop
        obtain ⟨hsim, hlocs2⟩ := acalleeD_simA hcal
        cases hpu : isPure H o with
        | true =>
          rw [hpu] at hq
          refine pure_call_sound hrun hr2 hno hd hq ?_
          intro v cv n w' R' N' bsT' hKs hr4 hk hext _
          refine hK _ cv w' R' N' bsT' bsL bsH hKs (hself hr4 (hk.sub (by intro x hx; simp [hx])) ?_ hext ?_ ?_ (.inr ⟨c, hop⟩)) (hk.sub (by intro x hx; simp [hx])) (fun o b h => hext _ _ h)
          · intro n ob b _ hob hb
            exact obj_same hp.rel.locs hp.rel.heap hk (by intro x hx; simp [hx]) (by intro x hx; simp [hx]) n ob b hob hb
          · intro n ob _ hn
            rw [put_obj] at hn
            have e2 := acalleeD_heap hcal
            cases n with
            | loc k => simp only [AState.obj] at hn ⊢; exact ⟨ob, by rw [← hlocs2]; exact hn⟩
            | out k => simp only [AState.obj] at hn ⊢; exact ⟨ob, by rw [← e2]; exact hn⟩
          · intro t n off _ ht hn
            rw [getT_put_ne ht] at hn
            exact unOwn_ptr (hsim t) hn
        | false =>
        rw [hpu] at hq
        refine call_sound hrun hr2 hno hd (hq.mono fun v heap n hx b1 b2 => (hx b1 b2).2) ?_
        intro v cv heap n w' R' N' bsT' bsH' hKs hr4 hk hext _
        have hfh := quietHeap_false (all := ops.toList) hm (by simpa using hi) hcc hpu
        have hloc : ∀ n, okN (quietHeap H ops.toList h.pre) n = true → ∃ k, n = .loc k := by
          intro n hn
          cases n with
          | loc k => exact ⟨k, rfl⟩
          | out k => rw [hfh] at hn; simp [okN] at hn
        refine hK _ cv w' R' N' bsT' bsL bsH' hKs (hself hr4 (hk.sub (by intro x hx; simp [hx])) ?_ hext ?_ ?_ (.inr ⟨c, hop⟩)) (hk.sub (by intro x hx; simp [hx])) (fun o b h => hext _ _ h)
        · intro n ob b hn hob hb
          obtain ⟨k, rfl⟩ := hloc n hn
          exact locs_same hp.rel.locs hk (by intro x hx; simp [hx]) _ ob b hob hb
        · intro n ob hok hn
          obtain ⟨k, rfl⟩ := hloc n hok
          rw [put_obj] at hn
          simp only [AState.obj] at hn ⊢
          exact ⟨ob, by rw [← hlocs2]; exact hn⟩
        · intro t n off _ ht hn
          rw [getT_put_ne ht] at hn
          exact unOwn_ptr (hsim t) hn
      · exact hq.elim
    · split at hq
      · rename_i t ht
        split at hq
        · rename_i s1 hs1
          split at hq
          · rename_i s' hs'
            obtain ⟨c, _, hop, _, _⟩ := appSlot_spec ht
            -- the loads by which it owns have come up
            have hlisted : ∀ k ∈ tkFor ops.toList t (tkNil h.tk t s), listed[k]? = some true := by
              intro k hk
              unfold chkApp at hca
              have h1 := List.all_eq_true.1 hca (i, true) hm
              simp only [hi, ht] at h1
              have h2 := List.all_eq_true.1 h1 k (tkNil_for hk)
              obtain ⟨e, he1, he2⟩ := Array.any_eq_true'.1 h2
              simp only [Bool.and_eq_true, beq_iff_eq] at he2
              obtain ⟨_, o', ho', hafter⟩ := mem_ready.1 hrd
              rw [hi] at ho'
              simp at ho'
              subst ho'
              have h3 := hafter e he1 he2.1
              rw [he2.2] at h3
              rw [Array.getD_eq_getD_getElem?] at h3
              cases hg : listed[k]? with
              | none => rw [hg] at h3; simp at h3
              | some b => rw [hg] at h3; simp at h3; rw [h3]
            obtain ⟨bsT1, bsL1, bsH1, hr1⟩ := showTk_sound _ hs1 hp.rel (fun k o' T u t' n off ob hk ho' hop' hd' hg' hu' hok' hob' hlt' => hp.tkf k o' T u t' n off ob (tkFor_sub (tkNil_for hk)).1 (hlisted k hk) ho' hop' hd' hg' hu' hok' hob' hlt')
            obtain ⟨cv, w', R', bsT', hran, hr2, hkeep⟩ := app_sound hE ht hs' hr1
            refine ran_wp hran ?_
            obtain ⟨v, he, _⟩ := astep_append ht hs'
            refine hK s' cv w' R' N bsT' bsL1 bsH1 hq (hself hr2 (hkeep.sub (by intro x hx; simp [hx])) ?_ (fun _ _ h => h) ?_ ?_ (.inr ⟨c, hop⟩)) (hkeep.sub (by intro x hx; simp [hx])) (fun _ _ h => h)
            · intro n ob b _ hob hb
              obtain ⟨y, hy⟩ := showTk_fwd _ _ _ hs1 n ob hob
              exact obj_same hr1.locs hr1.heap hkeep (by intro x hx; simp [hx]) (by intro x hx; simp [hx]) n y b hy hb
            · intro n ob _ hn
              rw [he, put_obj] at hn
              exact showTk_dom _ _ _ hs1 n ob (by cases n <;> exact hn)
            · intro t' n off _ ht' hn
              rw [he, getT_put_ne ht'] at hn
              have e1 := dropOwn_simA (s := s1) (x := .tmp t) t'
              simp only [dropOwn, List.getElem?_cons_zero] at e1
              exact showTk_ptr _ _ _ hs1 t' _ _ (unOwn_ptr e1 hn)
          · exact hq.elim
        · exact hq.elim
      · split at hq
        · rename_i hst
          split at hq
          · rename_i s' hs'
            unfold chkStores at hcst
            have g1 := List.all_eq_true.1 hcst (i, true) hm
            simp only [hi, hst, Bool.not_true, Bool.false_or, Bool.and_eq_true, Option.isNone_iff_eq_none, List.isEmpty_iff] at g1
            obtain ⟨⟨⟨hnw, htk⟩, _⟩, _⟩ := g1
            obtain ⟨cv, w', hran, ⟨R', N', bsT', bsL', bsH', hr', hk', hN', _⟩, _⟩ := astep_sound hE hs' hp.rel
            refine ran_wp hran (hK s' cv w' R' N' bsT' bsL' bsH' hq ⟨hr', ?_, ?_⟩ (hk'.sub (by intro x hx; simp [hx])) hN')
            · intro j q t' d ti' hj
              rw [hnw] at hj
              simp at hj
            · intro j q T u t' n off ob hj
              rw [htk] at hj
              simp at hj
          · exact hq.elim
        · exact hq.elim
  · rename_i hb
    rw [if_neg hb]
    have hng : o.guard ≠ none := by
      intro hg
      unfold wantedA at hw
      rw [hg] at hw
      simp at hw
      exact hb hw
    obtain ⟨bsT', hr2⟩ := unwanted_rel hp.rel o.dst
    exact hK _ undef w R N bsT' bsL bsH hq (hself hr2 (keep_refl _) (fun _ _ _ _ _ _ => rfl) (fun _ _ h => h) (fun n ob _ hn => ⟨ob, by rw [put_obj] at hn; exact hn⟩) (fun t n off _ ht hn => by rw [getT_put_ne ht] at hn; exact hn) (.inl hng)) (keep_refl _) (fun _ _ h => h)

/-- .. whatever names that slot's object of old. -/
def showMk0 (E : TEnv) (all : List Oper) (mk : Option Nat) (s : AState) : Option AState :=
  match mk with
  | none => some s
  | some i => (match all[i]? with
    | some o => (match o.op, o.dst, o.guard with
      | .alloc t, some d, none => (match E.ty t with
        | some ti => if okCells (acells (ofConst ti.zero)) = true ∧ mentionsL (.loc d) (acells (ofConst ti.zero)) = false ∧ d < s.tmps.length then some (newObj s d (.cells (acells (ofConst ti.zero)))) else none
        | none => none)
      | _, _, _ => none)
    | none => none)

theorem showMk_zero {all : List Oper} {nw : Option Nat} {s s' : AState} (h : showMk E all nw s = some s') : showMk0 E all nw s = some s' := by
  unfold showMk at h
  unfold showMk0
  cases nw with
  | none => exact h
  | some i =>
    dsimp only at h ⊢
    cases hi : all[i]? with
    | none => rw [hi] at h; simp at h
    | some o =>
      rw [hi] at h
      dsimp only at h ⊢
      split at h
      · rename_i t d hop hd hg
        rw [hop, hd, hg]
        dsimp only
        cases hty : E.ty t with
        | none => rw [hty] at h; simp at h
        | some ti =>
          rw [hty] at h
          dsimp only at h ⊢
          split at h
          · rename_i hc
            rw [if_pos ⟨hc.1, hc.2.1, hc.2.2.1⟩]
            exact h
          · simp at h
      · simp at h

theorem mentionsL_get {n : Name} : ∀ {l : List AVal} {t : Nat} {v : AVal}, mentionsL n l = false → l[t]? = some v → mentions n v = false
  | [], _, _, _, h => by simp at h
  | a :: l, 0, v, h, hv => by simp only [mentionsL, Bool.or_eq_false_iff] at h; simp at hv; rw [← hv]; exact h.1
  | a :: l, t + 1, v, h, hv => by simp only [mentionsL, Bool.or_eq_false_iff] at h; exact mentionsL_get h.2 (by simpa using hv)

theorem purgeL_at {n : Name} : ∀ {l : List AVal} {t : Nat}, (∀ v, l[t]? = some v → mentions n v = false) → (purgeL n l)[t]? = l[t]?
  | [], _, _ => rfl
  | a :: l, 0, h => by simp [purgeL, h a rfl]
  | a :: l, t + 1, h => by simp only [purgeL, List.getElem?_cons_succ]; exact purgeL_at (fun v hv => h v (by simpa using hv))

theorem purge_off {n : Name} {l : List AVal} {d : Nat} {a : AVal} (h : mentionsL n (l.set d a) = false) {t : Nat} (ht : t ≠ d) : (purgeL n l)[t]? = l[t]? :=
  purgeL_at fun v hv => mentionsL_get h (by rw [List.getElem?_set_ne (Ne.symm ht)]; exact hv)

theorem purge_set {n : Name} {l : List AVal} {d : Nat} {a : AVal} (h : mentionsL n (l.set d a) = false) : (purgeL n l).set d a = l.set d a := by
  apply List.ext_getElem?
  intro t
  by_cases ht : t = d
  · subst ht
    rw [List.getElem?_set_self', List.getElem?_set_self']
    have := purge_len n l
    by_cases hl : t < l.length
    · rw [List.getElem?_eq_getElem hl, List.getElem?_eq_getElem (by omega)]; rfl
    · rw [List.getElem?_eq_none (by omega), List.getElem?_eq_none (by omega)]
  · rw [List.getElem?_set_ne (Ne.symm ht), List.getElem?_set_ne (Ne.symm ht)]
    exact purge_off h ht

theorem purge_self {n : Name} {l : List AVal} (h : mentionsL n l = false) : purgeL n l = l := by
  apply List.ext_getElem?
  intro t
  exact purgeL_at fun v hv => mentionsL_get h hv

/-- The new variable ahead of a slot's being written. -/
theorem showMk_late {ops : Array Oper} {nw : Option Nat} {s s2 : AState} {d : Tmp} {a : AVal} (h : showMk E ops.toList nw (s.put (some d) a) = some s2) (hnd : nwSlot ops nw ≠ some d) :
    ∃ s2', showMk0 E ops.toList nw s = some s2' ∧ s2 = s2'.put (some d) a ∧ ∀ x, x ≠ d → nwSlot ops nw ≠ some x → getT s2'.tmps x = getT s.tmps x := by
  unfold showMk at h
  unfold showMk0
  cases nw with
  | none => simp at h; exact ⟨s, rfl, h.symm, fun _ _ _ => rfl⟩
  | some i =>
    dsimp only at h ⊢
    cases hi : ops.toList[i]? with
    | none => rw [hi] at h; simp at h
    | some o =>
      rw [hi] at h
      dsimp only at h ⊢
      split at h
      · rename_i t dn hop hd hg
        rw [hop, hd, hg]
        have hns : nwSlot ops (some i) = some dn := by
          unfold nwSlot
          have : ops[i]? = some o := by simpa using hi
          simp only [this, hd]
        rw [hns] at hnd
        have hdn : dn ≠ d := fun e => hnd (by rw [e])
        dsimp only
        cases hty : E.ty t with
        | none => rw [hty] at h; simp at h
        | some ti =>
          rw [hty] at h
          dsimp only at h ⊢
          split at h
          · rename_i hc
            have hm : mentionsL (.loc dn) (s.tmps.set d a) = false := hc.2.2.2
            rw [if_pos ⟨hc.1, hc.2.1, by simpa [AState.put] using hc.2.2.1⟩]
            simp only [Option.some.injEq] at h
            refine ⟨_, rfl, ?_, ?_⟩
            · rw [← h]
              simp only [newObj, AState.put]
              rw [purge_self hm, List.set_comm _ _ hdn, purge_set hm]
            · intro x hx hxn
              rw [hns] at hxn
              simp only [newObj]
              rw [getT_set_ne (fun e => hxn (by rw [e]))]
              unfold getT
              rw [purge_off hm hx]
          · simp at h
      · simp at h

/-- The first of the others ahead of the last of those that go ahead. -/
theorem late_step {fh : Bool} {all : List Oper} {oi oj : Oper} {x d : Tmp} {a : AVal} (ha : apartP oi oj = true) (hx : opsL oi.op = [.tmp x]) (hd : oi.dst = some d) {s s2' : AState} {K : AState → Prop} (hq : stepQ E G fh all oi s = some a) (hxe : getT s2'.tmps x = getT s.tmps x)
    (h : aone (ACalls P G) E G H all oj K (s2'.put (some d) a)) :
    ∃ s3', astep E G (readOnly H.moves all oj) (takeR H all oj) oj s2' = some s3' ∧ astep E G true false oi s3' = some (s3'.put (some d) a) ∧ K (s3'.put (some d) a) := by
  unfold apartP at ha
  simp only [Bool.and_eq_true, Bool.or_eq_true, Option.isNone_iff_eq_none] at ha
  obtain ⟨⟨⟨⟨g1, g2⟩, g3⟩, g4⟩, g5⟩ := ha
  have hof : isCall oi.op = none ∧ isAlloc oi.op = false ∧ (∀ vals, looks oi.op vals = none) ∧ (opsL oj.op).any (isTmp x) = false ∧ (opsL oj.op).any (isTmp d) = false ∧ oj.dst ≠ some x ∧ oj.dst ≠ some d := by
    split at g5
    · rename_i y k d' e1 e2
      rw [e1] at hx ⊢
      simp [opsL] at hx
      subst hx
      rw [hd] at e2
      simp at e2
      subst e2
      simp only [Bool.and_eq_true, Bool.not_eq_true', bne_iff_ne] at g5
      exact ⟨rfl, rfl, fun _ => rfl, g5.1.1.1, g5.1.1.2, g5.1.2, g5.2⟩
    · rename_i y d' e1 e2
      rw [e1] at hx ⊢
      simp [opsL] at hx
      subst hx
      rw [hd] at e2
      simp at e2
      subst e2
      simp only [Bool.and_eq_true, Bool.not_eq_true', bne_iff_ne] at g5
      exact ⟨rfl, rfl, fun _ => rfl, g5.1.1.1, g5.1.1.2, g5.1.2, g5.2⟩
    · simp at g5
  obtain ⟨hc, hal, hl, h1, h2, hpx, hpd⟩ := hof
  unfold aone at h
  simp only [g2, wantedA, g4, if_true] at h
  split at h
  · rename_i s3 hs3
    obtain ⟨v, k1, k2⟩ := astep_tmps g3 hs3
    have k1 := k1 s2'.tmps (by
      intro t ht
      have htd : d ≠ t := fun e => by rw [← e, h2] at ht; simp at ht
      simp only [AState.put]
      rw [getT_set_ne htd])
    have hst : ({ (s2'.put (some d) a) with tmps := s2'.tmps } : AState) = s2' := rfl
    rw [hst] at k1
    have hs3e : s3 = ({ s3 with tmps := dstSet (dropT s2'.tmps (mvQ (readOnly H.moves all oj) oj.op) (opsL oj.op)) oj.dst v } : AState).put (some d) a := by
      obtain ⟨t3, l3, h3, n3⟩ := s3
      simp only [AState.put] at k2 ⊢
      rw [k2, dropT_set h2, dstSet_set hpd]
    refine ⟨_, k1, ?_, by rw [← hs3e]; exact h⟩
    unfold stepQ at hq
    simp only [g1, wantedA, if_true, hal, Bool.false_eq_true, if_false, hc] at hq
    split at hq
    · split at hq
      · rename_i out hout
        split at hq
        · rename_i hk
          simp only [Option.some.injEq] at hq
          have hla : ∀ s4 : AState, ∀ vals, lookedAt s4 oi.op vals = none := fun s4 vals => by unfold lookedAt; rw [hl]
          rw [hla] at hout
          have hgx : getT (dstSet (dropT s2'.tmps (mvQ (readOnly H.moves all oj) oj.op) (opsL oj.op)) oj.dst v) x = getT s.tmps x := by rw [dstSet_get hpx, drop_get h1, hxe]
          have hv : evalArgs G ({ s3 with tmps := dstSet (dropT s2'.tmps (mvQ (readOnly H.moves all oj) oj.op) (opsL oj.op)) oj.dst v } : AState) none 0 (opsL oi.op) = evalArgs G s none 0 (opsL oi.op) := by
            rw [hx]
            simp only [evalArgs, aeval, hgx]
          have hm : mvQ true oi.op = none := rfl
          unfold astep
          rw [hm, hv, hla, hout]
          simp only [astepOut, hk, dropOwn, hd, hq]
        · simp at hq
      · simp at hq
    · simp at hq
  · exact h.elim

theorem step_wp (hE : E.Ok P) (ops : Array Oper) {i : Nat} {o : Oper} (hi : ops[i]? = some o) (hg : o.guard = none) {q take : Bool} {s s' : AState} (hst : astep E G q take o s = some s') {Qx : Exit → Act → World → Prop}
    {w : World} {R : Own} {N : Name → Option Nat} {act : Act} {bsT bsL bsH bsF : List Nat} (hr : RelB G w R N act.tmps.toList s undef .undef [] bsT bsL bsH bsF) (hd : act.defers = D) :
    wpOp P ops Qx i (Aft G D (fun s1 => s1 = s') w R N bsF) act w := by
  unfold wpOp
  simp only [hi]
  have hwt := wanted_sound (ops := ops) (o := o) (b := true) hr.tmps (by rw [hg]; rfl)
  rw [hwt, if_pos rfl]
  left
  obtain ⟨cv, w', hran, ⟨R', N', bsT', bsL', bsH', hr', hk', hN', _⟩, _⟩ := astep_sound hE hst hr
  exact ran_wp hran ⟨s', R', N', bsT', bsL', bsH', rfl, hr', by rw [(put_act act o.dst cv).2]; exact hd, hk', fun o b h => hN' _ _ h⟩

/-- The new variable comes into sight. -/
theorem showMk_sound {ops : Array Oper} {w : World} {R : Own} {N : Name → Option Nat} {act : Act} {bsT bsL bsH bsX bsF : List Nat} {nw : Option Nat} {s s' : AState} (h : showMk0 E ops.toList nw s = some s')
    (hr : RelB G w R N act.tmps.toList s undef .undef [] bsT bsL bsH (bsX ++ bsF))
    (hf : ∀ i o t d ti, nw = some i → ops[i]? = some o → o.op = .alloc t → o.dst = some d → o.guard = none → E.ty t = some ti → d < act.tmps.size →
      ∃ b, b ∈ bsX ∧ act.tmps[d]? = some (.pointer (some ⟨b, 0, none⟩)) ∧ RepObj w R N (.cells (acells (ofConst ti.zero))) b []) :
    ∃ N' bsT' bsL', RelB G w R N' act.tmps.toList s' undef .undef [] bsT' bsL' bsH bsF ∧ ∀ k, N' (.out k) = N (.out k) := by
  cases nw with
  | none =>
    simp [showMk0] at h
    subst h
    refine ⟨N, bsT, bsL, ⟨hr.val, hr.tmps, hr.locs, hr.heap, ?_, hr.next, hr.glob, fun b hb => hr.frame b (by simp [hb])⟩, fun _ => rfl⟩
    refine List.Nodup.sublist ?_ hr.nodup
    exact List.Sublist.append (.refl _) (List.Sublist.append (.refl _) (List.Sublist.append (.refl _) (List.Sublist.append (.refl _) (List.sublist_append_right _ _))))
  | some i =>
    simp only [showMk0] at h
    split at h
    · rename_i o ho
      split at h
      · rename_i t d hop hd hg
        split at h
        · rename_i ti hti
          split at h
          · rename_i hcond
            simp at h
            subst h
            have hsz : act.tmps.size = s.tmps.length := by have := hr.tmps.length; simpa using this
            obtain ⟨b, hbX, hdt, hobj⟩ := hf i o t d ti rfl (by simpa using ho) hop hd hg hti (by rw [hsz]; exact hcond.2.2)
            have hN : ∀ m, m ≠ Name.loc d → setN N (.loc d) b m = N m := fun m hm => by simp [setN, hm]
            obtain ⟨bsT2, t1, t2⟩ := RepVs.purge hN hr.tmps
            obtain ⟨bsL2, l1, l2⟩ := RepObjs.purge hN hr.locs
            have hob2 : RepObj w R (setN N (.loc d) b) (.cells (acells (ofConst ti.zero))) b [] := repObj_other hobj (fun cs hcs => by simp at hcs; subst hcs; exact hcond.2.1)
            have hH2 : RepObjs w R (outs (setN N (.loc d) b)) s.heap bsH := hr.heap.outs_eq (fun k => by simp [setN])
            have hpv : RepV w R (setN N (.loc d) b) (.ptr (.loc d) 0) (.pointer (some ⟨b, 0, none⟩)) [] := by simp [RepV, setN]
            have hnd3 : ([] ++ (bsT2 ++ ((b :: ([] ++ bsL2)) ++ (bsH ++ bsF)))).Nodup := by
              have h0 := hr.nodup
              obtain ⟨x1, x2, e⟩ := List.append_of_mem hbX
              subst e
              have h1 : (b :: (bsT ++ (bsL ++ (bsH ++ bsF)))).Nodup := by
                have hp : ([] ++ (bsT ++ (bsL ++ (bsH ++ ((x1 ++ b :: x2) ++ bsF))))).Perm ((x1 ++ x2) ++ (b :: (bsT ++ (bsL ++ (bsH ++ bsF))))) := by
                  rw [List.perm_iff_count]; intro q; simp only [List.count_append, List.count_cons, List.count_nil]; omega
                exact (List.nodup_append.1 (hp.nodup_iff.1 h0)).2.1
              have hp : ([] ++ (bsT2 ++ ((b :: ([] ++ bsL2)) ++ (bsH ++ bsF)))).Perm (b :: (bsT2 ++ (bsL2 ++ (bsH ++ bsF)))) := by rw [List.perm_iff_count]; intro q; simp only [List.count_append, List.count_cons, List.count_nil]; omega
              refine hp.nodup_iff.2 (List.Nodup.sublist ?_ h1)
              exact (List.Sublist.append t2 (List.Sublist.append l2 (.refl _))).cons_cons _
            obtain ⟨bsT'', hp1, hp2⟩ := put_tmps d t1 hpv hnd3
            have hdt' : act.tmps.toList[d]? = some (.pointer (some ⟨b, 0, none⟩)) := by simpa using hdt
            have hsame : act.tmps.toList.set d (.pointer (some ⟨b, 0, none⟩)) = act.tmps.toList := by
              apply List.ext_getElem?
              intro j
              rw [List.getElem?_set]
              split
              · rename_i hj; subst hj; split
                · exact hdt'.symm
                · rename_i hl; rw [List.getElem?_eq_none (by omega)]
              · rfl
            rw [hsame] at hp1
            refine ⟨setN N (.loc d) b, bsT'', b :: ([] ++ bsL2), ⟨repV_undef _, ?_, ?_, ?_, by simpa using hp2, ?_, hr.glob, fun x hx => hr.frame x (by simp [hx])⟩, fun k => by simp [setN]⟩
            · simp only [newObj, newVal]; exact hp1
            · simp only [newObj]; exact ⟨b, [], bsL2, rfl, by simp [setN], hob2, l1⟩
            · simp only [newObj]; exact hH2
            · intro k c hk
              simp [setN] at hk
              simp only [newObj]
              exact hr.next k c hk
          · simp at h
        · simp at h
      · simp at h
    · simp at h

theorem chkPre_listed {ops : Array Oper} : ∀ (r : List (Nat × Bool)) (l : Array Bool), chkPre ops r l = true → l.size = ops.size → ∀ x ∈ r, (preAll r l)[x.1]? = some true
  | [], _, _, _, x, hx => by simp at hx
  | (i, lone) :: r, l, hc, hsz, x, hx => by
    simp only [chkPre, Bool.and_eq_true] at hc
    rcases List.mem_cons.1 hx with rfl | hx
    · simp only [preAll]
      apply preAll_true
      have hrd : i ∈ Region.ready .any ops l := by
        cases lone with
        | true => have := hc.1; simp at this; rw [this]; simp
        | false => have := hc.1; simp at this; simpa using this.1
      obtain ⟨_, o, ho, _⟩ := mem_ready.1 hrd
      have hlt : i < l.size := by rw [hsz]; exact (Array.getElem?_eq_some_iff.1 ho).1
      simp [setL, hlt]
    · exact chkPre_listed r (setL l i) hc.2 (by simpa [setL] using hsz) x hx

/-- The operations that go ahead or come up alone, in whatever order. -/
theorem aanyP_sound (hE : E.Ok P) {ops : Array Oper} {h : RHint} (hc : chkSlots ops h = true) (hca : chkApp ops h = true) (hcst : chkStores ops h = true) {p : Array Bool} {Q : AState → Prop} {Kx : Exit → Act → World → Prop} (hall : ∀ x ∈ h.pre, p[x.1]? = some true) (htail : chkTail ops h.tail p = true) :
    ∀ (fuel F : Nat) (listed : Array Bool) (s : AState), fuel + h.tail.length ≤ F → listed.size = ops.size → Closed ops listed →
      aanyP P E G H ops h p (fun s1 => match showMk E ops.toList h.nw s1 with
        | some s2 => aops (ACalls P G) E G H ops.toList Q (pickOps ops.toList h.tail) s2
        | none => False) fuel listed s →
      ∀ (w : World) (R : Own) (N : Name → Option Nat) (act : Act) (bsT bsL bsH bsX bsF : List Nat), PRel E G H ops h listed w R N act s bsT bsL bsH bsX bsF → act.defers = D →
      (∀ a' w', Aft G D Q w R N bsF a' w' → Kx .normal a' w') → wpAny P .any ops Kx F listed act w := by
  have hfin : ∀ (F : Nat) (s : AState), h.tail.length ≤ F → (match showMk E ops.toList h.nw s with
        | some s2 => aops (ACalls P G) E G H ops.toList Q (pickOps ops.toList h.tail) s2
        | none => False) →
      ∀ (w : World) (R : Own) (N : Name → Option Nat) (act : Act) (bsT bsL bsH bsX bsF : List Nat), PRel E G H ops h p w R N act s bsT bsL bsH bsX bsF → act.defers = D →
      (∀ a' w', Aft G D Q w R N bsF a' w' → Kx .normal a' w') → wpAny P .any ops Kx F p act w := by
    intro F s hF hT w R N act bsT bsL bsH bsX bsF hp hd hK
    have hin : ∀ i, i ∈ h.nw.toList ++ h.tk → p[i]? = some true := by
      intro i hi
      unfold chkSlots at hc
      have h1 := List.all_eq_true.1 hc i hi
      simp only [Bool.and_eq_true] at h1
      exact hall (i, false) (by simpa using h1.1)
    split at hT
    · rename_i s3 hs3
      obtain ⟨N3, bsT3, bsL3, hr3, hN3⟩ := showMk_sound (showMk_zero hs3) hp.rel (fun i o t d ti hi ho hop hd hg hty hlt => hp.nwf i o t d ti hi (hin i (by simp [hi])) ho hop hd hg hty hlt)
      exact atail_sound hE ops Q Kx h.tail p F s3 htail hF hT w R N3 act bsT3 bsL3 bsH bsF hr3 hd (fun a' w' h' => hK a' w' (h'.trans (keep_refl _) (fun o b hb => by rw [hN3]; exact hb)))
    · exact hT.elim
  have lateCase : ∀ {fuel : Nat} (F : Nat) (listed : Array Bool) (s : AState), fuel + 1 + h.tail.length ≤ F → listed.size = ops.size → Closed ops listed → ∀ (i : Nat) (oi : Oper) (a : AVal), setL listed i = p → lateOk ops h p i = true → ops[i]? = some oi → (i, false) ∈ h.pre →
      i ∈ Region.ready .any ops listed → stepQ E G (quietHeap H ops.toList h.pre || quietAt H ops.toList h.pre i) ops.toList oi s = some a →
      (match showMk E ops.toList h.nw (s.put oi.dst a) with
        | some s2 => aops (ACalls P G) E G H ops.toList Q (pickOps ops.toList h.tail) s2
        | none => False) →
      ∀ (w : World) (R : Own) (N : Name → Option Nat) (act : Act) (bsT bsL bsH bsX bsF : List Nat), PRel E G H ops h listed w R N act s bsT bsL bsH bsX bsF → act.defers = D →
      (∀ a' w', Aft G D Q w R N bsF a' w' → Kx .normal a' w') → wpAny P .any ops Kx F listed act w := by
    intro fuel F listed s hF hsz hcl i oi a hpe hlt hoi hm hri hq hT w R N act bsT bsL bsH bsX bsF hp hd hK
    have hun := unlisted_of_ready hri hsz
    have hb := set_back hun hpe
    have hlt0 := hlt
    unfold lateOk at hlt
    split at hlt
    · simp at hlt
    · rename_i j r htl
      rw [hb] at hlt
      simp only [Bool.and_eq_true, Bool.or_eq_true, beq_iff_eq] at hlt
      obtain ⟨⟨⟨⟨⟨⟨⟨hrd, hrj⟩, hrp⟩, hct⟩, _⟩, hnw⟩, htk⟩, hlast⟩ := hlt
      split at hlast
      rotate_left
      · simp at hlast
      rename_i oi' oj hoi' hoj
      rw [hoi] at hoi'
      simp at hoi'
      subst hoi'
      simp only [Bool.and_eq_true] at hlast
      obtain ⟨⟨hap, hxs⟩, hnd⟩ := hlast
      obtain ⟨F', rfl⟩ : ∃ F', F = F' + 1 := ⟨F - 1, by omega⟩
      -- i first
      have hi : wpOp P ops Kx i (wpAny P .any ops Kx F' (listed.setIfInBounds i true)) act w := by
        refine q_step hE hc hp hcl hd hoi hun hm hq ?_
        intro cv w' R' bsT' bsX' hp' hk
        rw [show listed.setIfInBounds i true = p from hpe]
        rw [hpe] at hp'
        exact hfin F' _ (by omega) hT w' R' N _ bsT' bsL bsH bsX' bsF hp' (by rw [(put_act act oi.dst cv).2]; exact hd) (fun a' w2 h' => hK a' w2 (h'.trans hk (fun _ _ hb => hb)))
      -- j first
      have hj : wpOp P ops Kx j (wpAny P .any ops Kx F' (listed.setIfInBounds j true)) act w := by
        obtain ⟨x, d, hx, hdd⟩ : ∃ x d, opsL oi.op = [.tmp x] ∧ oi.dst = some d := by
          have hap' := hap
          unfold apartP at hap'
          simp only [Bool.and_eq_true] at hap'
          have g5 := hap'.2
          split at g5
          · rename_i x k d e1 e2; exact ⟨x, d, by rw [e1]; rfl, e2⟩
          · rename_i x d e1 e2; exact ⟨x, d, by rw [e1]; rfl, e2⟩
          · simp at g5
        rw [hdd] at hT
        split at hT
        · rename_i s2 hs2
          have hnd' : nwSlot ops h.nw ≠ some d := by rw [← hdd]; simpa using hnd
          obtain ⟨s2', hm0, rfl, hgx⟩ := showMk_late hs2 hnd'
          rw [hx, hdd] at hxs
          simp at hxs
          have hxd : x ≠ d := fun e => by have := hxs.1; rw [e] at this; simp [isTmp] at this
          have hxn : nwSlot ops h.nw ≠ some x := fun e => by
            have := hxs.2
            rw [e] at this
            simp [isTmp] at this
          have hj' : ops.toList[j]? = some oj := by simpa using hoj
          rw [htl] at hT
          simp only [pickOps, hj', aops, askK_eq] at hT
          obtain ⟨s3', k1, k2, k3⟩ := late_step hap hx hdd hq (hgx x hxd hxn) hT
          have hin : ∀ k, k ∈ h.nw.toList → listed[k]? = some true := by
            intro k hk
            have h1 := List.all_eq_true.1 (by unfold chkSlots at hc; exact hc) k (List.mem_append_left _ hk)
            simp only [Bool.and_eq_true] at h1
            have h2 := hall (k, false) (by simpa using h1.1)
            have hki : i ≠ k := fun e => by subst e; simp [hk] at hnw
            rw [← hpe] at h2
            unfold setL at h2
            rwa [Array.getElem?_setIfInBounds_ne hki] at h2
          obtain ⟨N3, bsT3, bsL3, hr3, hN3⟩ := showMk_sound hm0 hp.rel (fun k o t dk ti hk ho hop hdk hg hty hlt => hp.nwf k o t dk ti hk (hin k (by simp [hk])) ho hop hdk hg hty hlt)
          have gj : oj.guard = none ∧ oi.guard = none := by
            unfold apartP at hap
            simp only [Bool.and_eq_true, Bool.or_eq_true, Option.isNone_iff_eq_none] at hap
            exact ⟨hap.1.1.1.2, hap.1.1.1.1⟩
          refine wpOp_mono ?_ (step_wp hE ops hoj gj.1 k1 hr3 hd)
          rintro a' w' ⟨s', R', N', bsT', bsL', bsH', rfl, hr', hd', hk', hN'⟩
          have htl2 : h.tail.length = r.length + 1 := by rw [htl]; rfl
          obtain ⟨F2, rfl⟩ : ∃ F2, F' = F2 + 1 := ⟨F' - 1, by omega⟩
          refine wpAny_all hrj (by simp) ?_
          intro k hk
          simp at hk
          subst hk
          refine wpOp_mono ?_ (step_wp hE ops hoi gj.2 k2 hr' hd')
          rintro a2 w2 ⟨s'', R2, N2, bsT2, bsL2, bsH2, rfl, hr2, hd2, hk2, hN2⟩
          have hcm : (listed.setIfInBounds j true).setIfInBounds k true = setL p j := by
            rw [← hpe]
            unfold setL
            by_cases hjk : j = k
            · subst hjk; rfl
            · exact Array.setIfInBounds_comm _ _ hjk
          rw [hcm]
          refine atail_sound hE ops Q Kx r (setL p j) F2 _ hct (by omega) k3 w2 R2 N2 a2 bsT2 bsL2 bsH2 bsF hr2 hd2 (fun a3 w3 h3 => hK a3 w3 ?_)
          exact ((h3.trans hk2 hN2).trans hk' hN').trans (keep_refl _) (fun o b hb => by rw [hN3]; exact hb)
        · exact hT.elim
      rcases hrd with hrd | hrd
      · refine wpAny_all hrd (by simp) ?_
        intro k hk
        simp at hk
        rcases hk with rfl | rfl
        · exact hi
        · exact hj
      · refine wpAny_all hrd (by simp) ?_
        intro k hk
        simp at hk
        rcases hk with rfl | rfl
        · exact hj
        · exact hi
  intro fuel
  induction fuel with
  | zero =>
    intro F listed s hF _ _ ha w R N act bsT bsL bsH bsX bsF hp hd hK
    obtain ⟨rfl, hT⟩ := ha
    exact hfin F s (by omega) hT w R N act bsT bsL bsH bsX bsF hp hd hK
  | succ fuel ih =>
    intro F listed s hF hsz hcl ha w R N act bsT bsL bsH bsX bsF hp hd hK
    rcases ha with ⟨rfl, hT⟩ | ⟨_, hne, hsteps⟩ | ⟨i, oi, a, hpe, hlt, hoi, hm, hri, hq, hT⟩
    rotate_right
    · exact lateCase F listed s hF hsz hcl i oi a hpe hlt hoi hm hri hq hT w R N act bsT bsL bsH bsX bsF hp hd hK
    · exact hfin F s (by omega) hT w R N act bsT bsL bsH bsX bsF hp hd hK
    · obtain ⟨F', rfl⟩ : ∃ F', F = F' + 1 := ⟨F - 1, by omega⟩
      refine ⟨fun h0 => absurd h0 hne, fun i hi => ?_⟩
      obtain ⟨lone, o, hm, ho, hs⟩ := hsteps i hi
      cases lone with
      | true =>
        simp only [if_true] at hs
        refine l_step hE hc hca hcst hp hcl hd ho (unlisted_of_ready hi hsz) hm hi hs ?_
        intro s' cv w' R' N' bsT' bsL' bsH' hKs hp' hk hN
        exact ih F' (setL listed i) s' (by omega) (by simpa [setL] using hsz) (hcl.step hi) hKs w' R' N' _ bsT' bsL' bsH' bsX bsF hp' (by rw [(put_act act o.dst cv).2]; exact hd) (fun a' w2 h' => hK a' w2 (h'.trans hk (fun o b hb => hN _ _ hb)))
      | false =>
        simp only [Bool.false_eq_true, if_false] at hs
        obtain ⟨a, ha1, ha2⟩ := hs
        refine q_step hE hc hp hcl hd ho (unlisted_of_ready hi hsz) hm ha1 ?_
        intro cv w' R' bsT' bsX' hp' hk
        exact ih F' (setL listed i) _ (by omega) (by simpa [setL] using hsz) (hcl.step hi) ha2 w' R' N _ bsT' bsL bsH bsX' bsF hp' (by rw [(put_act act o.dst cv).2]; exact hd) (fun a' w2 h' => hK a' w2 (h'.trans hk (fun _ _ hb => hb)))

/-- A region that is run in each order. -/
theorem aexpl_sound (hE : E.Ok P) {ops : Array Oper} {Q : AState → Prop} {Kx : Exit → Act → World → Prop} :
    ∀ (m F : Nat) (listed : Array Bool) (s : AState), aexpl (ACalls P G) E G H ops.toList Q m listed s → m ≤ F → ∀ (w : World) (R : Own) (N : Name → Option Nat) (act : Act) (bsT bsL bsH bsF : List Nat),
      RelB G w R N act.tmps.toList s undef .undef [] bsT bsL bsH bsF → act.defers = D → (∀ a' w', Aft G D Q w R N bsF a' w' → Kx .normal a' w') → wpAny P .any ops Kx F listed act w := by
  intro m
  induction m with
  | zero =>
    intro F listed s h _ w R N act bsT bsL bsH bsF hr hd hK
    simp only [aexpl, Array.toArray_toList] at h
    exact wpAny_done h.1 (hK _ _ ⟨s, R, N, bsT, bsL, bsH, h.2, hr, hd, keep_refl _, fun _ _ h => h⟩) F
  | succ m ih =>
    intro F listed s h hF w R N act bsT bsL bsH bsF hr hd hK
    simp only [aexpl, Array.toArray_toList] at h
    rcases h with h | ⟨hne, hall⟩
    · exact wpAny_done h.1 (hK _ _ ⟨s, R, N, bsT, bsL, bsH, h.2, hr, hd, keep_refl _, fun _ _ h => h⟩) F
    · obtain ⟨F', rfl⟩ : ∃ F', F = F' + 1 := ⟨F - 1, by omega⟩
      refine wpAny_all (rs := Region.ready .any ops listed) rfl hne ?_
      intro j hj
      obtain ⟨o, ho, h2⟩ := hall j hj
      refine wpOp_mono ?_ (aone_sound hE ops (by simpa using ho) h2 hr hd)
      rintro a' w' ⟨s', R', N', bsT', bsL', bsH', hq, hr', hd', hk', hN'⟩
      exact ih F' _ s' hq (by omega) w' R' N' a' bsT' bsL' bsH' bsF hr' hd' (fun a2 w2 h2 => hK a2 w2 (h2.trans hk' hN'))

theorem quietPre_len : ∀ (r : List (Nat × Bool)), (quietPre r).length ≤ r.length
  | [] => by simp [quietPre]
  | (i, true) :: r => by simp [quietPre]
  | (i, false) :: r => by simp only [quietPre, List.length_cons]; have := quietPre_len r; omega

theorem preAll_mem : ∀ (r : List (Nat × Bool)) (l : Array Bool) {n : Nat}, l.size = n → (∀ y ∈ r, y.1 < n) → ∀ x ∈ r, (preAll r l)[x.1]? = some true
  | [], _, _, _, _, x, hx => by simp at hx
  | (i, b) :: r, l, n, hn, hlt, x, hx => by
    have hs : (setL l i).size = n := by simpa [setL] using hn
    rcases List.mem_cons.1 hx with rfl | hx
    · have : i < l.size := by rw [hn]; exact hlt (i, b) (by simp)
      exact preAll_true r (setL l i) i (by simp [setL, this])
    · exact preAll_mem r (setL l i) hs (fun y hy => hlt y (by simp [hy])) x hx

/-- A region that draws its order. -/
theorem acode_draw (hE : E.Ok P) (hm : P.follows .mixedOrders = true) {id : Nat} {ops : Array Oper} {h : RHint} {Q : Exit → AState → Prop} {s : AState} (hc : (explMark h || (if loneMark h = true then chkRL ops (unmark h) else (chkR ops h || neverR ops h))) = true) (hs : adraw (ACalls P G) E G H ops.toList h (Q .normal) s) : ACode P G (.region id ops true) Q s := by
  by_cases hx : explMark h = true
  · intro w R N act bsT bsL bsH bsF hr D hd
    unfold adraw at hs
    rw [if_pos hx, Array.length_toList] at hs
    apply wp_region_any hm
    have hst : Step w R { w with drawn := w.drawn + 1 } R := ⟨rfl, rfl, rfl, Nat.le_refl _, fun _ _ h => ⟨rfl, h⟩, fun _ _ _ h => ⟨h, rfl⟩, fun _ _ => rfl⟩
    have hkeep : ∀ bs, Keep w R { w with drawn := w.drawn + 1 } R bs := fun bs => ⟨hst, fun _ _ _ => ⟨rfl, fun _ h => h⟩⟩
    have hr' : RelB G { w with drawn := w.drawn + 1 } R N act.tmps.toList s undef .undef [] bsT bsL bsH bsF :=
      ⟨repV_undef _, hr.tmps.keep (hkeep _), hr.locs.keep (hkeep _), hr.heap.keep (hkeep _), hr.nodup, hr.next, fun g cs hg => (hr.glob g cs hg).step hst, hr.frame⟩
    refine aexpl_sound hE ops.size ops.size _ s hs (Nat.le_refl _) _ R N act bsT bsL bsH bsF hr' hd ?_
    rintro a' w' ⟨s', R', N', bsT', bsL', bsH', ⟨s0, hq, hren⟩, hr2, hd', hk', hN'⟩
    obtain ⟨N2, bsT2, bsL2, bsH2, hr3, hN2⟩ := hren _ _ _ _ _ _ _ _ hr2
    exact ⟨s0, R', N2, bsT2, bsL2, bsH2, hq, hr3, hd', (hkeep _).trans hk', fun o b hb => hN2 o b (hr.next o b hb) (hN' o b hb)⟩
  have hxf : explMark h = false := by simpa using hx
  rw [hxf, Bool.false_or] at hc
  unfold adraw at hs
  rw [if_neg hx] at hs
  by_cases hlm : loneMark h = true
  · rw [if_pos hlm] at hc hs
    obtain ⟨h', hh'⟩ : ∃ h', h' = unmark h := ⟨_, rfl⟩
    rw [← hh'] at hc hs
    clear hlm hx hxf hh'
    intro w R N act bsT bsL bsH bsF hr D hd
    unfold chkRL at hc
    simp only [Bool.and_eq_true, decide_eq_true_eq] at hc
    obtain ⟨⟨⟨⟨⟨⟨⟨hpre, hlast⟩, htail⟩, hslots⟩, happ⟩, hstores⟩, hlen⟩, hidx⟩ := hc
    apply wp_region_any hm
    unfold adrawL at hs
    rw [Array.length_toList] at hs
    have hql : (quietPre h'.pre).length ≤ h'.pre.length := quietPre_len h'.pre
    have hclo : Closed ops (Array.replicate ops.size false) := fun d o hd => by
      rw [Array.getElem?_replicate] at hd
      split at hd <;> simp at hd
    have hall : ∀ x ∈ h'.pre, (preAll h'.pre (Array.replicate ops.size false))[x.1]? = some true := fun x hx => preAll_mem h'.pre _ (n := ops.size) (by simp) (fun y hy => by have := List.all_eq_true.1 hidx y hy; simpa using this) x hx
    have hord := aanyP_of_quiet (P := P) (E := E) (G := G) (H := H) hslots happ hstores hlast hall (h'.pre.length - (quietPre h'.pre).length) (quietPre h'.pre) (Array.replicate ops.size false) s (fun _ h => quietPre_sub h) (by simp) hclo hpre (fun s' h => aanyP_of_lone _ _ _ h) hs
    have hst : Step w R { w with drawn := w.drawn + 1 } R := ⟨rfl, rfl, rfl, Nat.le_refl _, fun _ _ h => ⟨rfl, h⟩, fun _ _ _ h => ⟨h, rfl⟩, fun _ _ => rfl⟩
    have hkeep : ∀ bs, Keep w R { w with drawn := w.drawn + 1 } R bs := fun bs => ⟨hst, fun _ _ _ => ⟨rfl, fun _ h => h⟩⟩
    have hr' : RelB G { w with drawn := w.drawn + 1 } R N act.tmps.toList s undef .undef [] bsT bsL bsH ([] ++ bsF) :=
      ⟨repV_undef _, hr.tmps.keep (hkeep _), hr.locs.keep (hkeep _), hr.heap.keep (hkeep _), hr.nodup, hr.next, fun g cs hg => (hr.glob g cs hg).step hst, hr.frame⟩
    have hnone : ∀ (i : Nat), (Array.replicate ops.size false)[i]? ≠ some true := by
      intro i hi
      rw [Array.getElem?_replicate] at hi
      split at hi <;> simp at hi
    refine aanyP_sound hE hslots happ hstores hall htail _ ops.size _ s (by omega) (by simp) hclo hord _ R N act bsT bsL bsH [] bsF ⟨hr', ?_, ?_⟩ hd ?_
    · intro i o t d ti _ hl
      exact absurd hl (hnone i)
    · intro i o T u t n off ob _ hl
      exact absurd hl (hnone i)
    · intro a' w' h'
      exact h'.trans (hkeep _) (fun _ _ h => h)
  rw [if_neg hlm] at hc hs
  rw [Bool.or_eq_true] at hc
  rcases hc with hc | hc
  rotate_left
  · exfalso
    unfold neverR at hc
    simp only [Bool.and_eq_true, List.isEmpty_iff] at hc
    obtain ⟨h1, h2⟩ := hc
    rw [h1] at hs
    simp only [aordP] at hs
    split at h2
    · rename_i k hk
      rw [hk] at hs
      have : ops.toList[k]? = none := by simpa using h2
      simp only [showMk, this] at hs
    · simp at h2
  intro w R N act bsT bsL bsH bsF hr D hd
  unfold chkR at hc
  simp only [Bool.and_eq_true, decide_eq_true_eq] at hc
  obtain ⟨⟨⟨⟨⟨⟨⟨_, hpre⟩, hlast⟩, htail⟩, hslots⟩, happ⟩, hstores⟩, hlen⟩ := hc
  apply wp_region_any hm
  have hord := aanyP_of_order (P := P) (E := E) (G := G) (H := H) hslots happ hstores hlast h.pre (Array.replicate ops.size false) s h.pre.length (fun _ h => h) (by simp) (fun d o hd => by rw [Array.getElem?_replicate] at hd; split at hd <;> simp at hd) rfl hpre (Nat.le_refl _) hs
  have hst : Step w R { w with drawn := w.drawn + 1 } R := ⟨rfl, rfl, rfl, Nat.le_refl _, fun _ _ h => ⟨rfl, h⟩, fun _ _ _ h => ⟨h, rfl⟩, fun _ _ => rfl⟩
  have hkeep : ∀ bs, Keep w R { w with drawn := w.drawn + 1 } R bs := fun bs => ⟨hst, fun _ _ _ => ⟨rfl, fun _ h => h⟩⟩
  have hr' : RelB G { w with drawn := w.drawn + 1 } R N act.tmps.toList s undef .undef [] bsT bsL bsH ([] ++ bsF) :=
    ⟨repV_undef _, hr.tmps.keep (hkeep _), hr.locs.keep (hkeep _), hr.heap.keep (hkeep _), hr.nodup, hr.next, fun g cs hg => (hr.glob g cs hg).step hst, hr.frame⟩
  have hnone : ∀ (i : Nat), (Array.replicate ops.size false)[i]? ≠ some true := by
    intro i hi
    rw [Array.getElem?_replicate] at hi
    split at hi <;> simp at hi
  refine aanyP_sound hE hslots happ hstores (chkPre_listed h.pre _ hpre (by simp)) htail h.pre.length ops.size _ s hlen (by simp) (fun d o hd => by rw [Array.getElem?_replicate] at hd; split at hd <;> simp at hd) hord _ R N act bsT bsL bsH [] bsF ⟨hr', ?_, ?_⟩ hd ?_
  · intro i o t d ti _ hl
    exact absurd hl (hnone i)
  · intro i o T u t n off ob _ hl
    exact absurd hl (hnone i)
  · intro a' w' h'
    exact h'.trans (hkeep _) (fun _ _ h => h)
end
end Go.Tp
