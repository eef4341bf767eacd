/- The generic layer: regions that draw their order: the whole region; code. -/
import Derived.Test.YtgodfnboklbiiaaDoorTpDraw2
namespace Go.Tp

section
variable {P : Program} {E : TEnv} {G : Globs} {H : Hints}

theorem acalleeD_sound (hE : E.Ok P) {c : Call} {s s2 : AState} {f : FuncId} {args : List AVal} (h : acalleeD E G H c s = some (f, args, s2)) {w : World} {R : Own} {N : Name → Option Nat} {act : Act} {bsT bsL bsH bsF : List Nat}
    (hr : RelB G w R N act.tmps.toList s undef .undef [] bsT bsL bsH bsF) (o : Oper) (ho : o.op = .call c) :
    ∃ cargs : List Value, (execOp act.eval o).run P w = .ok (.enter f cargs.toArray) w ∧ noLocL args = true ∧ ∃ bsA bsT', RelB G w R N act.tmps.toList s2 (.tuple cargs.toArray) (.tup args) bsA bsT' bsL bsH bsF := by
  obtain ⟨callee, cargs0, argTypes⟩ := c
  cases callee with
  | builtin _ => simp [acalleeD] at h
  | invoke _ _ => simp [acalleeD] at h
  | value fo =>
    simp only [acalleeD] at h
    obtain ⟨bf, hfv⟩ := eval_raw hr.tmps hr.glob fo
    generalize haf : aeval G s fo = af at h hfv
    split at h
    · rename_i g first captured
      simp only [RepV] at hfv
      obtain ⟨_, vf, uf, ef, hfirst, hcap⟩ := hfv
      split at h
      · rename_i hfn
        obtain ⟨fn, hf1, hf2, hf3⟩ := hE.fn g hfn
        have hnd0 : (bsT ++ (bsL ++ (bsH ++ bsF))).Nodup := by simpa using hr.nodup
        have hops : ∃ (vs : List AVal) (s1 : AState) (bsM bsT' : List Nat), (if H.moves g = true then takeArgs G s cargs0.toList else (evalArgs G s none 0 cargs0.toList, s)) = (vs, s1) ∧
            RepVs w R N vs (cargs0.toList.map act.eval) bsM ∧ RepVs w R N s1.tmps act.tmps.toList bsT' ∧ (bsM ++ (bsT' ++ (bsL ++ (bsH ++ bsF)))).Nodup ∧ s1.locs = s.locs ∧ s1.heap = s.heap ∧ s1.next = s.next := by
          split
          · obtain ⟨bsM, bsT', k1, k2, k3⟩ := takeArgs_sound hr.glob cargs0.toList hr.tmps hnd0
            obtain ⟨q1, q2, q3⟩ := takeArgs_keeps G cargs0.toList s
            exact ⟨_, _, bsM, bsT', rfl, k1, k2, k3, q1, q2, q3⟩
          · exact ⟨_, _, [], bsT, rfl, args_copy hr.tmps hr.glob none 0 _ (by simp), hr.tmps, by simpa using hnd0, rfl, rfl, rfl⟩
        obtain ⟨vs, s1, bsM, bsT', hpair, hvs, ht1, hnd1, q1, q2, q3⟩ := hops
        rw [hpair] at h
        simp only at h
        split at h
        · rename_i hno
          simp only [Option.some.injEq, Prod.mk.injEq] at h
          obtain ⟨rfl, rfl, rfl⟩ := h
          have hall : RepVs w R N (first ++ vs ++ captured) (vf ++ cargs0.toList.map act.eval ++ uf) bsM := by
            have := repVs_append (repVs_append hfirst hvs) hcap
            simpa using this
          refine ⟨vf ++ cargs0.toList.map act.eval ++ uf, ?_, hno, bsM, bsT', ⟨by simp only [RepV]; exact ⟨_, rfl, hall⟩, ht1, by rw [q1]; exact hr.locs, by rw [q2]; exact hr.heap, hnd1, by rw [q3]; exact hr.next, hr.glob, hr.frame⟩⟩
          have hbody : fn.body.isNone = false := by cases hb : fn.body <;> simp_all
          have hb2 : ¬ fn.body = none := by intro hb; simp [hb] at hbody
          have hn2 : ¬ fn.name = "runtime.NumGoroutine" := by simpa using hf3
          simp [execOp, ho, resolve, ef, Deferred.ofValue, invoke, callFunc, hf1, hn2, hb2]
        · simp at h
      · simp at h
    · simp at h

theorem aget_aset : ∀ {os : List (Name × AObj)} {n m : Name} {o x : AObj}, aget m (aset n o os) = some x → ∃ y, aget m os = some y
  | [], _, _, _, _, h => by simp [aset, aget] at h
  | (k, y) :: os, n, m, o, x, h => by
    simp only [aset] at h
    split at h
    · simp only [aget] at h ⊢
      split
      · exact ⟨_, rfl⟩
      · rename_i hk
        rw [if_neg hk] at h
        exact ⟨x, h⟩
    · simp only [aget] at h ⊢
      split
      · exact ⟨_, rfl⟩
      · rename_i hk
        rw [if_neg hk] at h
        exact aget_aset h

theorem getT_some {l : List AVal} {t : Nat} {v : AVal} (h : getT l t = v) (hv : v ≠ .undef) : l[t]? = some v := by
  unfold getT at h
  split at h
  · rename_i x hx; rw [hx, h]
  · exact absurd h.symm hv

theorem putO_dom {s : AState} {n m : Name} {o x : AObj} (h : (s.putO n o).obj m = some x) : ∃ y, s.obj m = some y := by
  cases n <;> cases m <;> simp only [AState.putO, AState.obj] at h ⊢
  · exact aget_aset h
  · exact ⟨_, h⟩
  · exact ⟨_, h⟩
  · exact aget_aset h

/-- What a cell owns goes over to a slot. -/
theorem showTk_sound {fh : Bool} {ops : Array Oper} {w : World} {R : Own} {N : Name → Option Nat} {act : Act} {bsF : List Nat} :
    ∀ (tk : List Nat) {s s' : AState} {bsT bsL bsH : List Nat}, showTk fh ops.toList tk s = some s' → RelB G w R N act.tmps.toList s undef .undef [] bsT bsL bsH bsF →
      (∀ i o T u t n off ob, i ∈ tk → ops[i]? = some o → o.op = .load T (.tmp u) → o.dst = some t → o.guard = none → getT s.tmps u = .ptr n off → okN fh n = true → s.obj n = some ob → t < act.tmps.size →
        ∃ b v, N n = some b ∧ act.tmps[t]? = some v ∧ (w.cell? ⟨b, off, none⟩ = some v ∨ ∃ vs, v = .agg vs)) →
      ∃ bsT' bsL' bsH', RelB G w R N act.tmps.toList s' undef .undef [] bsT' bsL' bsH' bsF
  | [], s, s', bsT, bsL, bsH, h, hr, _ => by simp [showTk] at h; subst h; exact ⟨bsT, bsL, bsH, hr⟩
  | i :: r, s, s', bsT, bsL, bsH, h, hr, hf => by
    obtain ⟨o, T, u, t, n, off, cs, es, es2, ho, hop, hd, hg, hu, hok, hob, hes, ht, hrest⟩ := showTk_spec h
    have ho' : ops[i]? = some o := by simpa using ho
    have hsz : act.tmps.size = s.tmps.length := by have := hr.tmps.length; simpa using this
    have htg := getT_some ht (by simp)
    have htl : t < act.tmps.size := by rw [hsz]; exact (List.getElem?_eq_some_iff.1 htg).1
    obtain ⟨b0, v, hb0, hv, hcell⟩ := hf i o T u t n off (.cells cs) (by simp) ho' hop hd hg hu hok hob htl
    obtain ⟨v', bs', g1, g2, _⟩ := repVs_get hr.tmps htg
    have hvv : v' = v := by
      have : act.tmps.toList[t]? = some v := by simpa using hv
      rw [this] at g1; simp at g1; exact g1.symm
    subst hvv
    have hsame : act.tmps.toList.set t v' = act.tmps.toList := by
      apply List.ext_getElem?
      intro j
      rw [List.getElem?_set]
      split
      · rename_i hj; subst hj; split
        · exact g1.symm
        · rename_i hl; rw [List.getElem?_eq_none (by omega)]
      · rfl
    have k2 : putL off [AVal.dat (.slice es)] cs = cs.set off (.dat (.slice es)) := by
      apply List.ext_getElem?
      intro j
      rw [putL_get, List.getElem?_set]
      by_cases hj : off = j
      · subst hj
        by_cases hl : off < cs.length
        · rw [if_pos ⟨Nat.le_refl _, by simp, hl⟩, if_pos rfl, if_pos hl]; simp
        · rw [if_neg (by omega), if_pos rfl, if_neg hl]; exact List.getElem?_eq_none (by omega)
      · rw [if_neg (by simp; omega), if_neg hj]
    -- the object's cells, ownership gone
    have hcells : ∀ (M : Name → Option Nat) (b : Nat) (b1 : List Nat), N n = some b → RepObj w R M (.cells cs) b b1 → ∃ bt b1', RepOwn w R v' es bt ∧ RepObj w R M (.cells (putL off [.dat (.slice es)] cs)) b b1' ∧ b1.Perm (bt ++ b1') := by
      intro M b b1 hN hobj
      rw [hN] at hb0
      simp at hb0
      subst hb0
      obtain ⟨vs, elem, hblk, hrr, hR⟩ := hobj
      obtain ⟨pre2, bt, post2, cv, f1, f2, f3, f4⟩ := RepVs.split hrr hes
      have hcv : w.cell? ⟨b, off, none⟩ = some cv := by rw [cell_of_row w b off vs elem (0, 0) hblk]; simpa using f2
      have hvc : v' = cv := by
        rcases hcell with hcell | ⟨us, hus⟩
        · rw [hcv] at hcell; simp at hcell; exact hcell.symm
        · subst hus
          have := (repV_slice_inv g2).2
          cases this
      subst hvc
      have hset := f4 w R (.dat (.slice es)) v' [] (keep_refl _) (repV_dat (d := .slice es) (repV_own_inv f3).rep)
      have k1 : vs.toList.set off v' = vs.toList := by
        apply List.ext_getElem?
        intro j
        rw [List.getElem?_set]
        split
        · rename_i hj; subst hj; split
          · exact f2.symm
          · rename_i hl; rw [List.getElem?_eq_none (by omega)]
        · rfl
      rw [k1] at hset
      refine ⟨bt, pre2 ++ [] ++ post2, repV_own_inv f3, ⟨vs, elem, hblk, by rw [k2]; exact hset, hR⟩, ?_⟩
      subst f1
      rw [List.perm_iff_count]; intro q; simp only [List.count_append, List.count_nil]; omega
    have hstate : ∃ bt bsL1 bsH1, RepOwn w R v' es bt ∧ RepObjs w R N (s.putO n (.cells (putL off [.dat (.slice es)] cs))).locs bsL1 ∧ RepObjs w R (outs N) (s.putO n (.cells (putL off [.dat (.slice es)] cs))).heap bsH1 ∧ (bt ++ (bsT ++ (bsL1 ++ (bsH1 ++ bsF)))).Nodup := by
      have h0 : (bsT ++ (bsL ++ (bsH ++ bsF))).Nodup := by simpa using hr.nodup
      cases n with
      | loc k =>
        obtain ⟨pre, b, b1, post, e1, e2, e3, e4⟩ := RepObjs.split hr.locs hob
        obtain ⟨bt, b1', q1, q2, q3⟩ := hcells N b b1 e2 e3
        refine ⟨bt, _, bsH, q1, e4 w R _ b1' (keep_refl _) q2, hr.heap, ?_⟩
        subst e1
        have hp : (bt ++ (bsT ++ ((pre ++ (b :: b1') ++ post) ++ (bsH ++ bsF)))).Perm (bsT ++ ((pre ++ (b :: b1) ++ post) ++ (bsH ++ bsF))) := by
          have q3' := List.perm_iff_count.1 q3
          rw [List.perm_iff_count]; intro q; have := q3' q; simp only [List.count_append, List.count_cons] at this ⊢; omega
        exact hp.nodup_iff.2 h0
      | out k =>
        obtain ⟨pre, b, b1, post, e1, e2, e3, e4⟩ := RepObjs.split hr.heap hob
        obtain ⟨bt, b1', q1, q2, q3⟩ := hcells (outs N) b b1 (by simpa [outs] using e2) e3
        refine ⟨bt, bsL, _, q1, hr.locs, e4 w R _ b1' (keep_refl _) q2, ?_⟩
        subst e1
        have hp : (bt ++ (bsT ++ (bsL ++ ((pre ++ (b :: b1') ++ post) ++ bsF)))).Perm (bsT ++ (bsL ++ ((pre ++ (b :: b1) ++ post) ++ bsF))) := by
          have q3' := List.perm_iff_count.1 q3
          rw [List.perm_iff_count]; intro q; have := q3' q; simp only [List.count_append, List.count_cons] at this ⊢; omega
        exact hp.nodup_iff.2 h0
    obtain ⟨bt, bsL1, bsH1, q1, q2, q3, q4⟩ := hstate
    obtain ⟨bsT2, p1, p2⟩ := put_tmps (a := .own es) t hr.tmps (by simpa only [RepV] using q1) q4
    rw [hsame] at p1
    have e5 : (({ s with tmps := s.tmps.set t (.own es) } : AState).putO n (.cells (putL off [.dat (.slice es)] cs))) = { s.putO n (.cells (putL off [.dat (.slice es)] cs)) with tmps := s.tmps.set t (.own es) } := by cases n <;> rfl
    rw [e5] at hrest
    refine showTk_sound r hrest ⟨repV_undef _, p1, q2, q3, by simpa using p2, by simpa only [putO_next] using hr.next, hr.glob, hr.frame⟩ ?_
    intro i' o' T' u' t' n' off' ob' hi' ho2 hop2 hd2 hg2 hu2 hok2 hob2 hlt2
    have hu3 : getT s.tmps u' = .ptr n' off' := by
      by_cases hut : t = u'
      · subst hut
        exfalso
        unfold getT at hu2
        rw [List.getElem?_set_self (by rw [← hsz]; exact htl)] at hu2
        simp at hu2
      · rwa [getT_set_ne hut] at hu2
    have hob3 : ∃ y, s.obj n' = some y := by
      have hob2' : (s.putO n (.cells (putL off [.dat (.slice es)] cs))).obj n' = some ob' := by cases n' <;> exact hob2
      exact putO_dom hob2'
    obtain ⟨y, hy⟩ := hob3
    exact hf i' o' T' u' t' n' off' y (by simp [hi']) ho2 hop2 hd2 hg2 hu3 hok2 hy hlt2

theorem showTk_dom {fh : Bool} {all : List Oper} : ∀ (tk : List Nat) (s s' : AState), showTk fh all tk s = some s' → ∀ n ob, s'.obj n = some ob → ∃ y, s.obj n = some y
  | [], s, s', h, n, ob, hn => by simp [showTk] at h; subst h; exact ⟨ob, hn⟩
  | i :: r, s, s', h, n, ob, hn => by
    obtain ⟨o, T, u, t, m, off, cs, es, es2, ho, hop, hd, hg, hu, hok, hob, hes, ht, hrest⟩ := showTk_spec h
    obtain ⟨y, hy⟩ := showTk_dom r _ _ hrest n ob hn
    obtain ⟨z, hz⟩ := putO_dom hy
    exact ⟨z, by cases n <;> exact hz⟩

theorem aset_get : ∀ {os : List (Name × AObj)} {n m : Name} {o x : AObj}, aget m os = some x → ∃ y, aget m (aset n o os) = some y
  | [], _, _, _, _, h => by simp [aget] at h
  | (k, y) :: os, n, m, o, x, h => by
    simp only [aget] at h
    simp only [aset]
    split
    · simp only [aget]
      split
      · exact ⟨_, rfl⟩
      · rename_i hk
        rw [if_neg hk] at h
        exact ⟨x, h⟩
    · simp only [aget]
      split
      · exact ⟨_, rfl⟩
      · rename_i hk
        rw [if_neg hk] at h
        exact aset_get h

theorem putO_fwd {s : AState} {n m : Name} {o x : AObj} (h : s.obj m = some x) : ∃ y, (s.putO n o).obj m = some y := by
  cases n <;> cases m <;> simp only [AState.putO, AState.obj] at h ⊢
  · exact aset_get h
  · exact ⟨_, h⟩
  · exact ⟨_, h⟩
  · exact aset_get h

theorem showTk_fwd {fh : Bool} {all : List Oper} : ∀ (tk : List Nat) (s s' : AState), showTk fh all tk s = some s' → ∀ n ob, s.obj n = some ob → ∃ y, s'.obj n = some y
  | [], s, s', h, n, ob, hn => by simp [showTk] at h; subst h; exact ⟨ob, hn⟩
  | i :: r, s, s', h, n, ob, hn => by
    obtain ⟨o, T, u, t, m, off, cs, es, es2, ho, hop, hd, hg, hu, hok, hob, hes, ht, hrest⟩ := showTk_spec h
    obtain ⟨y, hy⟩ := putO_fwd (s := { s with tmps := s.tmps.set t (.own es) }) (n := m) (o := .cells (putL off [.dat (.slice es)] cs)) (m := n) (x := ob) (by cases n <;> exact hn)
    exact showTk_fwd r _ _ hrest n y hy

theorem showTk_ptr {fh : Bool} {all : List Oper} : ∀ (tk : List Nat) (s s' : AState), showTk fh all tk s = some s' → ∀ t n off, getT s'.tmps t = .ptr n off → getT s.tmps t = .ptr n off
  | [], s, s', h, t, n, off, hn => by simp [showTk] at h; subst h; exact hn
  | i :: r, s, s', h, t', n', off', hn => by
    obtain ⟨o, T, u, t, m, off, cs, es, es2, ho, hop, hd, hg, hu, hok, hob, hes, ht, hrest⟩ := showTk_spec h
    have h1 := showTk_ptr r _ _ hrest t' n' off' hn
    rw [putO_tmps] at h1
    by_cases he : t = t'
    · subst he
      exfalso
      have hlt := (List.getElem?_eq_some_iff.1 (getT_some ht (by simp))).1
      unfold getT at h1
      rw [List.getElem?_set_self hlt] at h1
      simp at h1
    · rwa [getT_set_ne he] at h1

/-- An append, its ownership in hand. -/
theorem app_sound (hE : E.Ok P) {o : Oper} {t : Tmp} (ht : appSlot o.op = some t) {s s' : AState} (h : astep E G false false o s = some s') {w : World} {R : Own} {N : Name → Option Nat} {act : Act} {bsT bsL bsH bsF : List Nat}
    (hr : RelB G w R N act.tmps.toList s undef .undef [] bsT bsL bsH bsF) :
    ∃ cv w' R' bsT', Ran P w act.eval o cv w' ∧ RelB G w' R' N (act.put o.dst cv).tmps.toList s' undef .undef [] bsT' bsL bsH bsF ∧ Keep w R w' R' (bsL ++ (bsH ++ bsF)) := by
  unfold astep at h
  have hnd0 : (bsT ++ (bsL ++ (bsH ++ bsF))).Nodup := by simpa using hr.nodup
  obtain ⟨bsM, bsT', ha, ht', hnd, hmv⟩ := args_take hr.tmps hr.glob (mvQ false o.op) (opsL o.op) (bsL ++ (bsH ++ bsF)) hnd0
  split at h
  · simp at h
  rename_i out hop
  obtain ⟨hk, hl⟩ := append_keep ht hop
  have hlo : lookedAt s o.op (evalArgs G s (mvQ false o.op) 0 (opsL o.op)) = none := by unfold lookedAt; rw [hl]
  rw [hlo] at hop
  have hlk : Looked w R N o.op (evalArgs G s (mvQ false o.op) 0 (opsL o.op)) none none := by unfold Looked; rw [hl]; exact ⟨rfl, rfl⟩
  obtain ⟨cv, w', R', hran, hkeep, hout⟩ := aop_sound (rest := bsT' ++ (bsL ++ (bsH ++ bsF))) hE hop ha (fun h => hmv (by unfold mvQ; simp [h])) hlk (by simpa [nmL] using hnd)
  rw [hk] at hout
  obtain ⟨bsV, hv, hf, _, _⟩ := hout
  simp only [astepOut, hk, Option.some.injEq] at h
  subst h
  obtain ⟨dl1, dl2, dl3⟩ := drop_locs s (mvQ false o.op) (opsL o.op)
  have hlt : ∀ b ∈ bsT' ++ (bsL ++ (bsH ++ bsF)), b < w.heap.size := fun b hb => by
    simp at hb
    rcases hb with h | h | h | h
    · exact ht'.lt b h
    · exact hr.locs.lt b h
    · exact hr.heap.lt b h
    · exact hr.frame b h
  have hndV : (bsV ++ (bsT' ++ (bsL ++ (bsH ++ bsF)))).Nodup := from_nodup hnd hlt hf
  obtain ⟨bsT2, hp1, hp2⟩ := put_state o.dst (ht'.keep (hkeep.sub (by intro b hb; simp [hb]))) hv hndV
  obtain ⟨q1, q2, q3⟩ := put_locs (dropOwn s (mvQ false o.op) (opsL o.op)) o.dst out.val
  refine ⟨cv, w', R', bsT2, hran, ⟨repV_undef _, ?_, ?_, ?_, by simpa using hp2, ?_, fun g cs hg => (hr.glob g cs hg).step hkeep.step, fun b hb => Nat.lt_of_lt_of_le (hr.frame b hb) hkeep.step.size⟩, hkeep.sub (by intro b hb; simp at hb; simp; exact .inr hb)⟩
  · rw [(put_act act o.dst cv).1]; exact hp1
  · rw [q1, dl1]; exact hr.locs.keep (hkeep.sub (by intro b hb; simp [hb]))
  · rw [q2, dl2]; exact hr.heap.keep (hkeep.sub (by intro b hb; simp [hb]))
  · rw [q3, dl3]; exact hr.next

/-- A call or an append that comes up alone. -/
theorem l_step (hE : E.Ok P) {ops : Array Oper} {h : RHint} (hc : chkSlots ops h = true) (hca : chkApp ops h = true) {listed : Array Bool} {w : World} {R : Own} {N : Name → Option Nat} {act : Act} {s : AState} {bsT bsL bsH bsX bsF : List Nat}
    (hp : PRel E G ops h listed w R N act s bsT bsL bsH bsX bsF) (hcl : Closed ops listed) (hd : act.defers = []) {i : Nat} {o : Oper} (hi : ops[i]? = some o) (hun : listed[i]? = some false) (hm : (i, true) ∈ h.pre) (hrd : i ∈ Region.ready .any ops listed) {K : AState → Prop} (hq : opL (ACalls P G) E G H (quietHeap ops.toList h.pre) h.tk ops.toList o K s)
    {Qx : Exit → Act → World → Prop} {Kx : Act → World → Prop}
    (hK : ∀ s' cv w' R' N' bsT' bsL' bsH', K s' → PRel E G ops h (setL listed i) w' R' N' (act.put o.dst cv) s' bsT' bsL' bsH' bsX bsF → Keep w R w' R' bsF → (∀ m c, N m = some c → N' m = some c) → Kx (act.put o.dst cv) w') : wpOp P ops Qx i Kx act w := by
  have hself : ∀ {s' : AState} {cv : Value} {w' : World} {R' : Own} {N' : Name → Option Nat} {bsT' bsL' bsH' : List Nat}, RelB G w' R' N' (act.put o.dst cv).tmps.toList s' undef .undef [] bsT' bsL' bsH' (bsX ++ bsF) → Keep w R w' R' bsX → (∀ n ob b, okN (quietHeap ops.toList h.pre) n = true → s.obj n = some ob → N n = some b → w'.heap[b]? = w.heap[b]?) →
      (∀ m c, N m = some c → N' m = some c) → (∀ n ob, okN (quietHeap ops.toList h.pre) n = true → s'.obj n = some ob → ∃ y, s.obj n = some y) → (∀ t n off, okN (quietHeap ops.toList h.pre) n = true → o.dst ≠ some t → getT s'.tmps t = .ptr n off → getT s.tmps t = .ptr n off) →
      (o.guard ≠ none ∨ ∃ c, o.op = .call c) → PRel E G ops h (setL listed i) w' R' N' (act.put o.dst cv) s' bsT' bsL' bsH' bsX bsF := by
    intro s' cv w' R' N' bsT' bsL' bsH' hr2 hk hkL hN hlocs hT hwhy
    obtain ⟨c1, c2⟩ := hp.carry (cv := cv) [] hc hcl hi hun hm hk hkL hN hlocs hT
    refine ⟨hr2, ?_, ?_⟩
    · intro j q t' d ti' hnw hl hqo hop2 hdd hg hty hlt2
      by_cases hji : j = i
      · subst hji
        rw [hi] at hqo
        simp at hqo
        subst hqo
        rcases hwhy with hwhy | ⟨c, hcc⟩
        · exact absurd hg hwhy
        · rw [hop2] at hcc; simp at hcc
      · simpa using c1 j q t' d ti' hji hnw hl hqo hop2 hdd hg hty hlt2
    · intro j q T u t' n off ob htk hl hqo hop2 hdd hg hu hok hob hlt2
      by_cases hji : j = i
      · subst hji
        rw [hi] at hqo
        simp at hqo
        subst hqo
        rcases hwhy with hwhy | ⟨c, hcc⟩
        · exact absurd hg hwhy
        · rw [hop2] at hcc; simp at hcc
      · exact c2 j q T u t' n off ob hji htk hl hqo hop2 hdd hg hu hok hob hlt2
  unfold wpOp
  simp only [hi]
  unfold opL at hq
  split at hq
  · exact hq.elim
  rename_i b hw
  rw [wanted_sound hp.rel.tmps hw]
  split at hq
  · rename_i hb
    subst hb
    simp only [if_true]
    left
    split at hq
    · rename_i c hcc
      have hop := isCall_op hcc
      split at hq
      · rename_i f args s2 hcal
        obtain ⟨cargs, hrun, hno, bsA, bsT2, hr2⟩ := acalleeD_sound hE hcal hp.rel o hop
        obtain ⟨hsim, hlocs2⟩ := acalleeD_simA hcal
        refine call_sound hrun hr2 hno hd hq ?_
        intro v cv heap n w' R' N' bsT' bsH' hKs hr4 hk hext _
        have hfh := quietHeap_false (all := ops.toList) hm (by simpa using hi) hcc
        have hloc : ∀ n, okN (quietHeap ops.toList h.pre) n = true → ∃ k, n = .loc k := by
          intro n hn
          cases n with
          | loc k => exact ⟨k, rfl⟩
          | out k => rw [hfh] at hn; simp [okN] at hn
        refine hK _ cv w' R' N' bsT' bsL bsH' hKs (hself hr4 (hk.sub (by intro x hx; simp [hx])) ?_ hext ?_ ?_ (.inr ⟨c, hop⟩)) (hk.sub (by intro x hx; simp [hx])) hext
        · intro n ob b hn hob hb
          obtain ⟨k, rfl⟩ := hloc n hn
          exact locs_same hp.rel.locs hk (by intro x hx; simp [hx]) _ ob b hob hb
        · intro n ob hok hn
          obtain ⟨k, rfl⟩ := hloc n hok
          rw [put_obj] at hn
          simp only [AState.obj] at hn ⊢
          exact ⟨ob, by rw [← hlocs2]; exact hn⟩
        · intro t n off _ ht hn
          rw [getT_put_ne ht] at hn
          exact unOwn_ptr (hsim t) hn
      · exact hq.elim
    · split at hq
      · rename_i t ht
        split at hq
        · rename_i s1 hs1
          split at hq
          · rename_i s' hs'
            obtain ⟨c, _, hop, _, _⟩ := appSlot_spec ht
            -- the loads by which it owns have come up
            have hlisted : ∀ k ∈ tkFor ops.toList t h.tk, listed[k]? = some true := by
              intro k hk
              unfold chkApp at hca
              have h1 := List.all_eq_true.1 hca (i, true) hm
              simp only [hi, ht] at h1
              have h2 := List.all_eq_true.1 h1 k hk
              obtain ⟨e, he1, he2⟩ := Array.any_eq_true'.1 h2
              simp only [Bool.and_eq_true, beq_iff_eq] at he2
              obtain ⟨_, o', ho', hafter⟩ := mem_ready.1 hrd
              rw [hi] at ho'
              simp at ho'
              subst ho'
              have h3 := hafter e he1 he2.1
              rw [he2.2] at h3
              rw [Array.getD_eq_getD_getElem?] at h3
              cases hg : listed[k]? with
              | none => rw [hg] at h3; simp at h3
              | some b => rw [hg] at h3; simp at h3; rw [h3]
            obtain ⟨bsT1, bsL1, bsH1, hr1⟩ := showTk_sound _ hs1 hp.rel (fun k o' T u t' n off ob hk ho' hop' hd' hg' hu' hok' hob' hlt' => hp.tkf k o' T u t' n off ob (tkFor_sub hk).1 (hlisted k hk) ho' hop' hd' hg' hu' hok' hob' hlt')
            obtain ⟨cv, w', R', bsT', hran, hr2, hkeep⟩ := app_sound hE ht hs' hr1
            refine ran_wp hran ?_
            obtain ⟨v, he, _⟩ := astep_append ht hs'
            refine hK s' cv w' R' N bsT' bsL1 bsH1 hq (hself hr2 (hkeep.sub (by intro x hx; simp [hx])) ?_ (fun _ _ h => h) ?_ ?_ (.inr ⟨c, hop⟩)) (hkeep.sub (by intro x hx; simp [hx])) (fun _ _ h => h)
            · intro n ob b _ hob hb
              obtain ⟨y, hy⟩ := showTk_fwd _ _ _ hs1 n ob hob
              exact obj_same hr1.locs hr1.heap hkeep (by intro x hx; simp [hx]) (by intro x hx; simp [hx]) n y b hy hb
            · intro n ob _ hn
              rw [he, put_obj] at hn
              exact showTk_dom _ _ _ hs1 n ob (by cases n <;> exact hn)
            · intro t' n off _ ht' hn
              rw [he, getT_put_ne ht'] at hn
              have e1 := dropOwn_simA (s := s1) (x := .tmp t) t'
              simp only [dropOwn, List.getElem?_cons_zero] at e1
              exact showTk_ptr _ _ _ hs1 t' _ _ (unOwn_ptr e1 hn)
          · exact hq.elim
        · exact hq.elim
      · exact hq.elim
  · rename_i hb
    rw [if_neg hb]
    have hng : o.guard ≠ none := by
      intro hg
      unfold wantedA at hw
      rw [hg] at hw
      simp at hw
      exact hb hw
    obtain ⟨bsT', hr2⟩ := unwanted_rel hp.rel o.dst
    exact hK _ undef w R N bsT' bsL bsH hq (hself hr2 (keep_refl _) (fun _ _ _ _ _ _ => rfl) (fun _ _ h => h) (fun n ob _ hn => ⟨ob, by rw [put_obj] at hn; exact hn⟩) (fun t n off _ ht hn => by rw [getT_put_ne ht] at hn; exact hn) (.inl hng)) (keep_refl _) (fun _ _ h => h)

/-- The new variable comes into sight. -/
theorem showMk_sound {ops : Array Oper} {w : World} {R : Own} {N : Name → Option Nat} {act : Act} {bsT bsL bsH bsX bsF : List Nat} {nw : Option Nat} {s s' : AState} (h : showMk E ops.toList nw s = some s')
    (hr : RelB G w R N act.tmps.toList s undef .undef [] bsT bsL bsH (bsX ++ bsF))
    (hf : ∀ i o t d ti, nw = some i → ops[i]? = some o → o.op = .alloc t → o.dst = some d → o.guard = none → E.ty t = some ti → d < act.tmps.size →
      ∃ b, b ∈ bsX ∧ act.tmps[d]? = some (.pointer (some ⟨b, 0, none⟩)) ∧ RepObj w R N (.cells (acells (ofConst ti.zero))) b []) :
    ∃ N' bsT' bsL', RelB G w R N' act.tmps.toList s' undef .undef [] bsT' bsL' bsH bsF ∧ ∀ k, N' (.out k) = N (.out k) := by
  cases nw with
  | none =>
    simp [showMk] at h
    subst h
    refine ⟨N, bsT, bsL, ⟨hr.val, hr.tmps, hr.locs, hr.heap, ?_, hr.next, hr.glob, fun b hb => hr.frame b (by simp [hb])⟩, fun _ => rfl⟩
    refine List.Nodup.sublist ?_ hr.nodup
    exact List.Sublist.append (.refl _) (List.Sublist.append (.refl _) (List.Sublist.append (.refl _) (List.Sublist.append (.refl _) (List.sublist_append_right _ _))))
  | some i =>
    simp only [showMk] at h
    split at h
    · rename_i o ho
      split at h
      · rename_i t d hop hd hg
        split at h
        · rename_i ti hti
          split at h
          · rename_i hcond
            simp at h
            subst h
            have hsz : act.tmps.size = s.tmps.length := by have := hr.tmps.length; simpa using this
            obtain ⟨b, hbX, hdt, hobj⟩ := hf i o t d ti rfl (by simpa using ho) hop hd hg hti (by rw [hsz]; exact hcond.2.2)
            have hN : ∀ m, m ≠ Name.loc d → setN N (.loc d) b m = N m := fun m hm => by simp [setN, hm]
            obtain ⟨bsT2, t1, t2⟩ := RepVs.purge hN hr.tmps
            obtain ⟨bsL2, l1, l2⟩ := RepObjs.purge hN hr.locs
            have hob2 : RepObj w R (setN N (.loc d) b) (.cells (acells (ofConst ti.zero))) b [] := repObj_other hobj (fun cs hcs => by simp at hcs; subst hcs; exact hcond.2.1)
            have hH2 : RepObjs w R (outs (setN N (.loc d) b)) s.heap bsH := hr.heap.outs_eq (fun k => by simp [setN])
            have hpv : RepV w R (setN N (.loc d) b) (.ptr (.loc d) 0) (.pointer (some ⟨b, 0, none⟩)) [] := by simp [RepV, setN]
            have hnd3 : ([] ++ (bsT2 ++ ((b :: ([] ++ bsL2)) ++ (bsH ++ bsF)))).Nodup := by
              have h0 := hr.nodup
              obtain ⟨x1, x2, e⟩ := List.append_of_mem hbX
              subst e
              have h1 : (b :: (bsT ++ (bsL ++ (bsH ++ bsF)))).Nodup := by
                have hp : ([] ++ (bsT ++ (bsL ++ (bsH ++ ((x1 ++ b :: x2) ++ bsF))))).Perm ((x1 ++ x2) ++ (b :: (bsT ++ (bsL ++ (bsH ++ bsF))))) := by
                  rw [List.perm_iff_count]; intro q; simp only [List.count_append, List.count_cons, List.count_nil]; omega
                exact (List.nodup_append.1 (hp.nodup_iff.1 h0)).2.1
              have hp : ([] ++ (bsT2 ++ ((b :: ([] ++ bsL2)) ++ (bsH ++ bsF)))).Perm (b :: (bsT2 ++ (bsL2 ++ (bsH ++ bsF)))) := by rw [List.perm_iff_count]; intro q; simp only [List.count_append, List.count_cons, List.count_nil]; omega
              refine hp.nodup_iff.2 (List.Nodup.sublist ?_ h1)
              exact (List.Sublist.append t2 (List.Sublist.append l2 (.refl _))).cons_cons _
            obtain ⟨bsT'', hp1, hp2⟩ := put_tmps d t1 hpv hnd3
            have hdt' : act.tmps.toList[d]? = some (.pointer (some ⟨b, 0, none⟩)) := by simpa using hdt
            have hsame : act.tmps.toList.set d (.pointer (some ⟨b, 0, none⟩)) = act.tmps.toList := by
              apply List.ext_getElem?
              intro j
              rw [List.getElem?_set]
              split
              · rename_i hj; subst hj; split
                · exact hdt'.symm
                · rename_i hl; rw [List.getElem?_eq_none (by omega)]
              · rfl
            rw [hsame] at hp1
            refine ⟨setN N (.loc d) b, bsT'', b :: ([] ++ bsL2), ⟨repV_undef _, ?_, ?_, ?_, by simpa using hp2, ?_, hr.glob, fun x hx => hr.frame x (by simp [hx])⟩, fun k => by simp [setN]⟩
            · simp only [newObj, newVal]; exact hp1
            · simp only [newObj]; exact ⟨b, [], bsL2, rfl, by simp [setN], hob2, l1⟩
            · simp only [newObj]; exact hH2
            · intro k c hk
              simp [setN] at hk
              simp only [newObj]
              exact hr.next k c hk
          · simp at h
        · simp at h
      · simp at h
    · simp at h

theorem chkPre_listed {ops : Array Oper} : ∀ (r : List (Nat × Bool)) (l : Array Bool), chkPre ops r l = true → l.size = ops.size → ∀ x ∈ r, (preAll r l)[x.1]? = some true
  | [], _, _, _, x, hx => by simp at hx
  | (i, lone) :: r, l, hc, hsz, x, hx => by
    simp only [chkPre, Bool.and_eq_true] at hc
    rcases List.mem_cons.1 hx with rfl | hx
    · simp only [preAll]
      apply preAll_true
      have hrd : i ∈ Region.ready .any ops l := by
        cases lone with
        | true => have := hc.1; simp at this; rw [this]; simp
        | false => have := hc.1; simp at this; simpa using this.1
      obtain ⟨_, o, ho, _⟩ := mem_ready.1 hrd
      have hlt : i < l.size := by rw [hsz]; exact (Array.getElem?_eq_some_iff.1 ho).1
      simp [setL, hlt]
    · exact chkPre_listed r (setL l i) hc.2 (by simpa [setL] using hsz) x hx

/-- The operations that go ahead or come up alone, in whatever order. -/
theorem aanyP_sound (hE : E.Ok P) {ops : Array Oper} {h : RHint} (hc : chkSlots ops h = true) (hca : chkApp ops h = true) {p : Array Bool} {Q : AState → Prop} {Kx : Exit → Act → World → Prop} (hall : ∀ x ∈ h.pre, p[x.1]? = some true) (htail : chkTail ops h.tail p = true) :
    ∀ (fuel F : Nat) (listed : Array Bool) (s : AState), fuel + h.tail.length ≤ F → listed.size = ops.size → Closed ops listed →
      aanyP P E G H ops h p (fun s1 => match showMk E ops.toList h.nw s1 with
        | some s2 => aops (ACalls P G) E G H ops.toList Q (pickOps ops.toList h.tail) s2
        | none => False) fuel listed s →
      ∀ (w : World) (R : Own) (N : Name → Option Nat) (act : Act) (bsT bsL bsH bsX bsF : List Nat), PRel E G ops h listed w R N act s bsT bsL bsH bsX bsF → act.defers = [] →
      (∀ a' w', Aft G Q w R N bsF a' w' → Kx .normal a' w') → wpAny P .any ops Kx F listed act w := by
  have hfin : ∀ (F : Nat) (s : AState), h.tail.length ≤ F → (match showMk E ops.toList h.nw s with
        | some s2 => aops (ACalls P G) E G H ops.toList Q (pickOps ops.toList h.tail) s2
        | none => False) →
      ∀ (w : World) (R : Own) (N : Name → Option Nat) (act : Act) (bsT bsL bsH bsX bsF : List Nat), PRel E G ops h p w R N act s bsT bsL bsH bsX bsF → act.defers = [] →
      (∀ a' w', Aft G Q w R N bsF a' w' → Kx .normal a' w') → wpAny P .any ops Kx F p act w := by
    intro F s hF hT w R N act bsT bsL bsH bsX bsF hp hd hK
    have hin : ∀ i, i ∈ h.nw.toList ++ h.tk → p[i]? = some true := by
      intro i hi
      unfold chkSlots at hc
      have h1 := List.all_eq_true.1 hc i hi
      simp only [Bool.and_eq_true] at h1
      exact hall (i, false) (by simpa using h1.1)
    split at hT
    · rename_i s3 hs3
      obtain ⟨N3, bsT3, bsL3, hr3, hN3⟩ := showMk_sound hs3 hp.rel (fun i o t d ti hi ho hop hd hg hty hlt => hp.nwf i o t d ti hi (hin i (by simp [hi])) ho hop hd hg hty hlt)
      exact atail_sound hE ops Q Kx h.tail p F s3 htail hF hT w R N3 act bsT3 bsL3 bsH bsF hr3 hd (fun a' w' h' => hK a' w' (h'.trans (keep_refl _) (fun o b hb => by rw [hN3]; exact hb)))
    · exact hT.elim
  intro fuel
  induction fuel with
  | zero =>
    intro F listed s hF _ _ ha w R N act bsT bsL bsH bsX bsF hp hd hK
    obtain ⟨rfl, hT⟩ := ha
    exact hfin F s (by omega) hT w R N act bsT bsL bsH bsX bsF hp hd hK
  | succ fuel ih =>
    intro F listed s hF hsz hcl ha w R N act bsT bsL bsH bsX bsF hp hd hK
    rcases ha with ⟨rfl, hT⟩ | ⟨_, hne, hsteps⟩
    · exact hfin F s (by omega) hT w R N act bsT bsL bsH bsX bsF hp hd hK
    · obtain ⟨F', rfl⟩ : ∃ F', F = F' + 1 := ⟨F - 1, by omega⟩
      refine ⟨fun h0 => absurd h0 hne, fun i hi => ?_⟩
      obtain ⟨lone, o, hm, ho, hs⟩ := hsteps i hi
      cases lone with
      | true =>
        simp only [if_true] at hs
        refine l_step hE hc hca hp hcl hd ho (unlisted_of_ready hi hsz) hm hi hs ?_
        intro s' cv w' R' N' bsT' bsL' bsH' hKs hp' hk hN
        exact ih F' (setL listed i) s' (by omega) (by simpa [setL] using hsz) (hcl.step hi) hKs w' R' N' _ bsT' bsL' bsH' bsX bsF hp' (by rw [(put_act act o.dst cv).2]; exact hd) (fun a' w2 h' => hK a' w2 (h'.trans hk (fun o b hb => hN _ _ hb)))
      | false =>
        simp only [Bool.false_eq_true, if_false] at hs
        obtain ⟨a, ha1, ha2⟩ := hs
        refine q_step hE hc hp hcl hd ho (unlisted_of_ready hi hsz) hm ha1 ?_
        intro cv w' R' bsT' bsX' hp' hk
        exact ih F' (setL listed i) _ (by omega) (by simpa [setL] using hsz) (hcl.step hi) ha2 w' R' N _ bsT' bsL bsH bsX' bsF hp' (by rw [(put_act act o.dst cv).2]; exact hd) (fun a' w2 h' => hK a' w2 (h'.trans hk (fun _ _ hb => hb)))

/-- A region that draws its order. -/
theorem acode_draw (hE : E.Ok P) (hm : P.follows .mixedOrders = true) {id : Nat} {ops : Array Oper} {h : RHint} {Q : Exit → AState → Prop} {s : AState} (hc : chkR ops h = true) (hs : adraw (ACalls P G) E G H ops.toList h (Q .normal) s) : ACode P G (.region id ops true) Q s := by
  intro w R N act bsT bsL bsH bsF hr hd
  unfold chkR at hc
  simp only [Bool.and_eq_true, decide_eq_true_eq] at hc
  obtain ⟨⟨⟨⟨⟨⟨_, hpre⟩, hlast⟩, htail⟩, hslots⟩, happ⟩, hlen⟩ := hc
  apply wp_region_any hm
  have hord := aanyP_of_order (P := P) (E := E) (G := G) (H := H) hslots happ hlast h.pre (Array.replicate ops.size false) s h.pre.length (fun _ h => h) (by simp) (fun d o hd => by rw [Array.getElem?_replicate] at hd; split at hd <;> simp at hd) rfl hpre (Nat.le_refl _) hs
  have hst : Step w R { w with drawn := w.drawn + 1 } R := ⟨rfl, rfl, rfl, Nat.le_refl _, fun _ _ h => ⟨rfl, h⟩, fun _ _ _ h => ⟨h, rfl⟩⟩
  have hkeep : ∀ bs, Keep w R { w with drawn := w.drawn + 1 } R bs := fun bs => ⟨hst, fun _ _ _ => ⟨rfl, fun _ h => h⟩⟩
  have hr' : RelB G { w with drawn := w.drawn + 1 } R N act.tmps.toList s undef .undef [] bsT bsL bsH ([] ++ bsF) :=
    ⟨repV_undef _, hr.tmps.keep (hkeep _), hr.locs.keep (hkeep _), hr.heap.keep (hkeep _), hr.nodup, hr.next, fun g cs hg => (hr.glob g cs hg).step hst, hr.frame⟩
  have hnone : ∀ (i : Nat), (Array.replicate ops.size false)[i]? ≠ some true := by
    intro i hi
    rw [Array.getElem?_replicate] at hi
    split at hi <;> simp at hi
  refine aanyP_sound hE hslots happ (chkPre_listed h.pre _ hpre (by simp)) htail h.pre.length ops.size _ s hlen (by simp) (fun d o hd => by rw [Array.getElem?_replicate] at hd; split at hd <;> simp at hd) hord _ R N act bsT bsL bsH [] bsF ⟨hr', ?_, ?_⟩ hd ?_
  · intro i o t d ti _ hl
    exact absurd hl (hnone i)
  · intro i o T u t n off ob _ hl
    exact absurd hl (hnone i)
  · intro a' w' h'
    exact h'.trans (hkeep _) (fun _ _ h => h)
end
end Go.Tp
