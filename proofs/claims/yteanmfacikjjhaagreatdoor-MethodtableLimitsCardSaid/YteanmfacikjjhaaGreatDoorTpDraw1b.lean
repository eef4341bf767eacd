/- The generic layer: regions that draw their order: whichever order. -/
import Derived.Test.YteanmfacikjjhaaGreatDoorTpSound16
namespace Go.Tp

section
variable {P : Program} {E : TEnv} {G : Globs} {H : Hints}

/-! ### One step against another -/
variable (P E G H) in
/-- An operation of the region, by its kind. -/
def opC (ops : Array Oper) (h : RHint) (i : Nat) (K : AState → Prop) (s : AState) : Prop :=
  ∃ (lone : Bool) (o : Oper), (i, lone) ∈ h.pre ∧ ops[i]? = some o ∧ (if lone = true then opL (ACalls P G) E G H (quietHeap H ops.toList h.pre) h.tk ops.toList o K s else ∃ a, stepQ E G (quietHeap H ops.toList h.pre || quietAt H ops.toList h.pre i) ops.toList o s = some a ∧ K (s.put o.dst a))

theorem opL_mono {fh : Bool} {tk : List Nat} {all : List Oper} {o : Oper} {K K' : AState → Prop} {s : AState} (hk : ∀ s, K s → K' s) (h : opL (ACalls P G) E G H fh tk all o K s) : opL (ACalls P G) E G H fh tk all o K' s := by
  unfold opL at h ⊢
  split
  · rename_i hw; simp [hw] at h
  · rename_i b hw
    simp only [hw] at h
    split
    · rename_i hb
      simp only [hb, if_true] at h
      split
      · rename_i c hc
        simp only [hc] at h
        split
        · rename_i f args s2 ha
          simp only [ha] at h
          cases hpu : isPure H o with
          | true => rw [hpu] at h; exact h.mono fun v heap n hq h1 h2 => ⟨(hq h1 h2).1, hk _ (hq h1 h2).2⟩
          | false => rw [hpu] at h; exact h.mono fun v heap n hq h1 h2 => ⟨(hq h1 h2).1, hk _ (hq h1 h2).2⟩
        · rename_i ha
          simp [ha] at h
      · rename_i hc
        simp only [hc] at h
        split
        · rename_i t ht
          simp only [ht] at h
          split
          · rename_i s1 hs1
            simp only [hs1] at h
            split
            · rename_i s' hs'
              simp only [hs'] at h
              exact hk _ h
            · rename_i hs'; simp [hs'] at h
          · rename_i hs1; simp [hs1] at h
        · rename_i ht
          simp only [ht] at h
          split
          · rename_i hst
            simp only [hst] at h
            split
            · rename_i s' hs'
              simp only [hs'] at h
              exact hk _ h
            · rename_i hs'; simp [hs'] at h
          · rename_i hst; simp [hst] at h
    · rename_i hb
      simp only [hb] at h
      exact hk _ h

theorem opC_mono {ops : Array Oper} {h : RHint} {i : Nat} {K K' : AState → Prop} {s : AState} (hk : ∀ s, K s → K' s) (hs : opC P E G H ops h i K s) : opC P E G H ops h i K' s := by
  obtain ⟨lone, o, h1, h2, h3⟩ := hs
  refine ⟨lone, o, h1, h2, ?_⟩
  split
  · rename_i hl
    rw [if_pos hl] at h3
    exact opL_mono hk h3
  · rename_i hl
    rw [if_neg hl] at h3
    obtain ⟨a, h4, h5⟩ := h3
    exact ⟨a, h4, hk _ h5⟩

theorem quietHeap_false {all : List Oper} {pre : List (Nat × Bool)} : ∀ {j : Nat} {o : Oper} {c : Call}, (j, true) ∈ pre → all[j]? = some o → isCall o.op = some c → isPure H o = false → quietHeap H all pre = false := by
  induction pre with
  | nil => intro j o c h; simp at h
  | cons p r ih =>
    intro j o c h ho hc hpu
    obtain ⟨k, l⟩ := p
    simp only [quietHeap]
    rcases List.mem_cons.1 h with h | h
    · simp at h; obtain ⟨rfl, rfl⟩ := h; rw [ho]; simp [hc, hpu]
    · rw [ih h ho hc hpu]; simp

/-- A store and a copy from slot to slot, in either order. -/
theorem store_swap {fh q take : Bool} {all : List Oper} {oi oj : Oper} {a : AVal} (ha : apartP oi oj = true) {s s2 : AState} (hq : stepQ E G fh all oi s = some a) (hs : astep E G q take oj (s.put oi.dst a) = some s2) :
    ∃ s3, astep E G q take oj s = some s3 ∧ s3.put oi.dst a = s2 ∧ stepQ E G fh all oi s3 = some a := by
  unfold apartP at ha
  simp only [Bool.and_eq_true, Bool.or_eq_true, Option.isNone_iff_eq_none] at ha
  obtain ⟨⟨⟨⟨g1, _⟩, g3⟩, _⟩, g5⟩ := ha
  have hof : ∃ x d, opsL oi.op = [.tmp x] ∧ oi.dst = some d ∧ isCall oi.op = none ∧ isAlloc oi.op = false ∧ (∀ vals, looks oi.op vals = none) ∧ (opsL oj.op).any (isTmp x) = false ∧ (opsL oj.op).any (isTmp d) = false ∧ oj.dst ≠ some x ∧ oj.dst ≠ some d := by
    split at g5
    · rename_i y k d' e1 e2
      simp only [Bool.and_eq_true, Bool.not_eq_true', bne_iff_ne] at g5
      exact ⟨y, d', by rw [e1]; rfl, e2, by rw [e1]; rfl, by rw [e1]; rfl, fun _ => by rw [e1]; rfl, g5.1.1.1, g5.1.1.2, g5.1.2, g5.2⟩
    · rename_i y d' e1 e2
      simp only [Bool.and_eq_true, Bool.not_eq_true', bne_iff_ne] at g5
      exact ⟨y, d', by rw [e1]; rfl, e2, by rw [e1]; rfl, by rw [e1]; rfl, fun _ => by rw [e1]; rfl, g5.1.1.1, g5.1.1.2, g5.1.2, g5.2⟩
    · simp at g5
  obtain ⟨x, d, hx, hd, hc, hal, hl, h1, h2, hpx, hpd⟩ := hof
  rw [hd] at hs ⊢
  obtain ⟨v, k1, k2⟩ := astep_tmps g3 hs
  have k1 := k1 s.tmps (by
    intro t ht
    have htd : d ≠ t := fun e => by rw [← e, h2] at ht; simp at ht
    simp only [AState.put]
    rw [getT_set_ne htd])
  have hst : ({ (s.put (some d) a) with tmps := s.tmps } : AState) = s := rfl
  rw [hst] at k1
  refine ⟨_, k1, ?_, ?_⟩
  · obtain ⟨t3, l3, h3, n3⟩ := s2
    simp only [AState.put] at k2 ⊢
    rw [k2, dropT_set h2, dstSet_set hpd]
  · have hget : getT (dstSet (dropT s.tmps (mvQ q oj.op) (opsL oj.op)) oj.dst v) x = getT s.tmps x := by
      rw [dstSet_get hpx, drop_get h1]
    have hev : evalArgs G ({ s2 with tmps := dstSet (dropT s.tmps (mvQ q oj.op) (opsL oj.op)) oj.dst v } : AState) none 0 (opsL oi.op) = evalArgs G s none 0 (opsL oi.op) := by
      rw [hx]
      simp only [evalArgs, aeval, hget]
    have hlk : ∀ (s' : AState) vals, lookedAt s' oi.op vals = none := fun s' vals => by unfold lookedAt; rw [hl]
    unfold stepQ at hq ⊢
    simp only [g1, wantedA, hev, hlk] at hq ⊢
    exact hq

/-- A copy that takes over, and what comes up beside it, in either order. -/
theorem move_swap {fh q take : Bool} {ops : Array Oper} {oi oj : Oper} {a : AVal} (hmv : isCopyO oj = true) (h1 : ∀ d, oi.dst = some d → d ∉ oj.looksAt ops) (h2 : ∀ d, oi.dst = some d → oj.dst ≠ some d) (h3 : ∀ d, oj.dst = some d → d ∉ oi.looksAt ops)
    {s s2 : AState} (hq : stepQ E G fh ops.toList oi s = some a) (hs : astep E G q take oj (s.put oi.dst a) = some s2) :
    ∃ s3, astep E G q take oj s = some s3 ∧ s3.put oi.dst a = s2 ∧ stepQ E G fh ops.toList oi s3 = some a := by
  unfold isCopyO at hmv
  split at hmv
  rotate_left
  · simp at hmv
  rename_i x d2 hop hd2
  have hx : opsL oj.op = [.tmp x] := by rw [hop]; rfl
  have hxl : x ∈ oj.looksAt ops := by
    have := looksAt_opsL (o := oj) (all := ops.toList) (t := x) (by rw [hx]; simp)
    simpa using this
  obtain ⟨val, e2, k⟩ := astep_slot hx (fun _ => by rw [hop]; rfl) (fun vals ob out h => by
    rw [hop] at h
    simp only [aop, aMove] at h
    split at h
    · simp at h; subst h; rfl
    · simp at h) hd2 hs
  have hgx : getT (s.put oi.dst a).tmps x = getT s.tmps x := getT_put_ne (fun e => h1 x e hxl)
  have k1 := k s hgx.symm
  refine ⟨_, k1, ?_, ?_⟩
  · rw [e2]
    cases hd : oi.dst with
    | none => rfl
    | some d =>
      have hdx : x ≠ d := fun e => h1 d hd (e ▸ hxl)
      have hdd : d2 ≠ d := fun e => h2 d hd (by rw [hd2, e])
      have hany : List.any [Operand.tmp x] (isTmp d) = false := by
        simp only [List.any_cons, List.any_nil, Bool.or_false, isTmp]
        cases hb : Nat.beq x d with
        | false => rfl
        | true => exact absurd (Nat.eq_of_beq_eq_true hb) hdx
      simp only [AState.put]
      rw [dropT_set hany, List.set_comm _ _ hdd]
  · rw [← hq]
    refine stepQ_sim ?_ (.of_eq rfl (fun _ => rfl))
    intro t ht
    have htd : d2 ≠ t := fun e => h3 d2 hd2 (by rw [e]; simpa using ht)
    show unOwn (getT ((dropT s.tmps (mvQ q oj.op) [.tmp x]).set d2 val) t) = _
    rw [getT_set_ne htd]
    unfold dropT
    cases hm : mvQ q oj.op with
    | none => rfl
    | some k =>
      cases k with
      | zero =>
        have e1 := dropOwn_simA (s := s) (x := .tmp x) t
        simp only [dropOwn, List.getElem?_cons_zero] at e1
        simpa using e1
      | succ k => rfl

theorem opC_put {ops : Array Oper} {h : RHint} (hcs : chkSlots ops h = true) {i j : Nat} {oi oj : Oper} {a : AVal} (hi : ops[i]? = some oi) (him : (i, false) ∈ h.pre) (hj : ops[j]? = some oj) (hap : oi.apart ops oj = true)
    (hntk : ∀ t k o', appSlot oj.op = some t → k ∈ tkFor ops.toList t h.tk → ops.toList[k]? = some o' → ∀ e ∈ o'.after, Region.binds .any e = true → e.on ≠ i) {K : AState → Prop} {s : AState}
    (hF : ∀ c, isCall oj.op = some c → isPure H oj = false → isRead H oj = false → (j, true) ∈ h.pre → (quietHeap H ops.toList h.pre || quietAt H ops.toList h.pre i) = false)
    (hG : isStore oj.op = true → (j, true) ∈ h.pre → isCopyO oj = true ∨ apartP oi oj = true)
    (hy : stepQ E G (quietHeap H ops.toList h.pre || quietAt H ops.toList h.pre i) ops.toList oi s = some a) (hs : opC P E G H ops h j K (s.put oi.dst a)) :
    opC P E G H ops h j (fun s' => stepQ E G (quietHeap H ops.toList h.pre || quietAt H ops.toList h.pre i) ops.toList oi s' = some a ∧ K (s'.put oi.dst a)) s := by
  obtain ⟨h1, h2, h3⟩ := Oper.apart_spec hap
  obtain ⟨lone, o, hm, ho, hs⟩ := hs
  rw [hj] at ho
  simp at ho
  subst ho
  refine ⟨lone, oj, hm, hj, ?_⟩
  have hsimj : SimT oj ops.toList s (s.put oi.dst a) := simT_put (by simpa using h1)
  have hdj : ∀ (s : AState) (v : AVal), SimT oi ops.toList s (s.put oj.dst v) := fun s v => simT_put (by simpa using h3)
  have hlj : ∀ {fh : Bool} (s : AState) (d : Option Tmp) (v : AVal), SimO fh s (s.put d v) := fun s d v => .of_eq (put_locs s d v).1 (fun _ => (put_locs s d v).2.1)
  split
  · rename_i hl
    rw [if_pos hl] at hs
    subst hl
    unfold opL at hs ⊢
    rw [wantedA_sim hsimj] at hs
    split
    · rename_i hw; simp [hw] at hs
    · rename_i b hw
      simp only [hw] at hs
      split
      · rename_i hb
        simp only [hb, if_true] at hs
        split
        · rename_i c hc
          simp only [hc] at hs
          have hop := isCall_op hc
          rw [acalleeD_put (fun d hd hmem => h1 d hd (List.mem_append_left _ (List.mem_filterMap.2 ⟨.tmp d, by rw [hop]; simpa [Op.operands] using hmem, rfl⟩)))] at hs
          cases hcal : acalleeD E G H c s with
          | none => rw [hcal] at hs; simp at hs
          | some x =>
            obtain ⟨f, args, s2⟩ := x
            rw [hcal] at hs
            simp only [Option.map_some] at hs
            obtain ⟨hsim, hlocs⟩ := acalleeD_sim hcal oi ops.toList
            have e1 : (s2.put oi.dst a).heap = s2.heap := (put_locs s2 oi.dst a).2.1
            have e2 : (s2.put oi.dst a).next = s2.next := (put_locs s2 oi.dst a).2.2
            rw [e1, e2] at hs
            dsimp only at hs ⊢
            cases hpu : isPure H oj with
            | true =>
              rw [hpu] at hs
              refine hs.mono fun v heap n hq b1 b2 => ⟨(hq b1 b2).1, ?_, ?_⟩
              · rw [← hy]
                refine stepQ_sim ?_ ?_
                · have k1 : SimT oi ops.toList s { s2 with next := n } := hsim
                  exact k1.trans (hdj _ v)
                · exact .of_eq (by rw [(put_locs _ oj.dst v).1]; exact hlocs) (fun _ => by rw [(put_locs _ oj.dst v).2.1]; exact (acalleeD_heap hcal : s2.heap = s.heap))
              · have := (hq b1 b2).2
                have e : (⟨(s2.put oi.dst a).tmps, (s2.put oi.dst a).locs, s2.heap, n⟩ : AState) = ({ s2 with next := n } : AState).put oi.dst a := by cases oi.dst <;> rfl
                rw [e, put_comm h2] at this
                exact this
            | false =>
              rw [hpu] at hs
              refine hs.mono fun v heap n hq b1 b2 => ⟨(hq b1 b2).1, ?_, ?_⟩
              · cases hrd : isRead H oj with
                | true =>
                  refine stepQ_more ?_ ?_ hy
                  · have k1 : SimT oi ops.toList s { s2 with heap := heap, next := n } := hsim
                    exact k1.trans (hdj _ v)
                  · intro m ob hm1
                    have hst := (hq b1 b2).1 hrd
                    rw [put_obj]
                    cases m with
                    | loc k => simp only [AState.obj] at hm1 ⊢; rw [hlocs]; exact hm1
                    | out k => simp only [AState.obj] at hm1 ⊢; exact hst _ _ (by rw [(acalleeD_heap hcal : s2.heap = s.heap)]; exact hm1)
                | false =>
                  have hfh := hF c hc hpu hrd hm
                  rw [← hy]
                  refine stepQ_sim ?_ ?_
                  · have k1 : SimT oi ops.toList s { s2 with heap := heap, next := n } := hsim
                    exact k1.trans (hdj _ v)
                  · exact .of_eq (by rw [(put_locs _ oj.dst v).1]; exact hlocs) (fun hf => by rw [hfh] at hf; simp at hf)
              · have := (hq b1 b2).2
                rw [put_heap, put_comm h2] at this
                exact this
        · rename_i hc
          simp only [hc] at hs
          split
          · rename_i t ht
            simp only [ht] at hs
            obtain ⟨_, rr, hops⟩ := moved_append ht
            have htj : t ∈ oj.looksAt ops := by
              have := looksAt_opsL (o := oj) (all := ops.toList) (t := t) (by rw [hops]; simp)
              simpa using this
            have hops_not : ∀ d, oi.dst = some d → Operand.tmp d ∉ opsL oj.op := fun d hd hmem => h1 d hd (by have := looksAt_opsL (o := oj) (all := ops.toList) hmem; simpa using this)
            have etk : tkNil h.tk t (s.put oi.dst a) = tkNil h.tk t s := by unfold tkNil; rw [getT_put_ne (fun e => h1 t e htj)]
            rw [etk] at hs
            -- the loads that the append owns by are others than oi
            have hother : ∀ k ∈ tkFor ops.toList t (tkNil h.tk t s), k ≠ i := fun k hk e => by
              obtain ⟨_, o', ho', hd'⟩ := tkFor_sub (tkNil_for hk)
              rw [e] at ho'
              have : ops[i]? = some o' := by simpa using ho'
              rw [hi] at this
              simp at this
              subst this
              exact h1 t hd' htj
            have hspec : ∀ k ∈ tkFor ops.toList t (tkNil h.tk t s), ∀ o', ops.toList[k]? = some o' → (o'.dst = some t ∧ oi.dst ≠ some t ∧ t ∉ oi.looksAt ops) ∧ ∀ T u, o'.op = .load T (.tmp u) → oi.dst ≠ some u := fun k hk o' ho' => by
              obtain ⟨hk1, o2, ho2, hd2⟩ := tkFor_sub (tkNil_for hk)
              rw [ho2] at ho'
              simp at ho'
              subst ho'
              obtain ⟨⟨d, e1, e2, e3⟩, e4⟩ := chkSlots_spec hcs (i := k) (by simp [hk1]) (by simpa using ho2) him (Ne.symm (hother k hk)) hi
              rw [hd2] at e1
              simp at e1
              subst e1
              exact ⟨⟨hd2, e2, e3 rfl⟩, fun T u hop => by
                rcases e4 T u hop with h | ⟨e, he, hb, hon⟩
                · exact h
                · exact absurd hon (hntk t k o2 ht (tkNil_for hk) ho2 e he hb)⟩
            cases hsh : showTk (quietHeap H ops.toList h.pre) ops.toList (tkFor ops.toList t (tkNil h.tk t s)) s with
            | none =>
              exfalso
              -- what is shown with the value in its slot is shown without
              have : ∀ (tk : List Nat) (s s1 : AState), (∀ k ∈ tk, ∀ o', ops.toList[k]? = some o' → (o'.dst = some t ∧ oi.dst ≠ some t ∧ t ∉ oi.looksAt ops) ∧ ∀ T u, o'.op = .load T (.tmp u) → oi.dst ≠ some u) → showTk (quietHeap H ops.toList h.pre) ops.toList tk (s.put oi.dst a) = some s1 → ∃ s2, showTk (quietHeap H ops.toList h.pre) ops.toList tk s = some s2 := by
                intro tk
                induction tk with
                | nil => intro s s1 _ _; exact ⟨s, rfl⟩
                | cons k r ih =>
                  intro s s1 hh hh2
                  obtain ⟨o', T, u, t', n, off, cs, es, es2, ho', hop, hd, hg, hu, hok, hob, hes, ht', hrest⟩ := showTk_spec hh2
                  obtain ⟨⟨q1, q2, _⟩, q3⟩ := hh k (by simp) o' ho'
                  have hdu := q3 T u hop
                  rw [hd] at q1
                  simp at q1
                  subst q1
                  rw [getT_put_ne hdu] at hu
                  rw [getT_put_ne q2] at ht'
                  rw [put_obj] at hob
                  have e0 : (({ s.put oi.dst a with tmps := (s.put oi.dst a).tmps.set t' (.own es) } : AState).putO n (.cells (putL off [.dat (.slice es)] cs))) = (({ s with tmps := s.tmps.set t' (.own es) } : AState).putO n (.cells (putL off [.dat (.slice es)] cs))).put oi.dst a := by
                    rw [← putO_put]
                    congr 1
                    cases hdd : oi.dst with
                    | none => rfl
                    | some d =>
                      have hne : d ≠ t' := fun e => q2 (by rw [hdd, e])
                      simp only [AState.put]
                      rw [List.set_comm _ _ hne]
                  rw [e0] at hrest
                  obtain ⟨s3, hs3⟩ := ih _ _ (fun k hk => hh k (by simp [hk])) hrest
                  refine ⟨s3, ?_⟩
                  simp only [showTk, ho', hop, hd, hg, hu, if_pos hok, hob, hes, ht']
                  exact hs3
              cases hsh2 : showTk (quietHeap H ops.toList h.pre) ops.toList (tkFor ops.toList t (tkNil h.tk t s)) (s.put oi.dst a) with
              | none => simp [hsh2] at hs
              | some s1 =>
                obtain ⟨s2, hs2⟩ := this _ _ _ hspec hsh2
                rw [hsh] at hs2
                simp at hs2
            | some s1 =>
              have hput := showTk_put (v := a) (dst := oi.dst) _ _ _ (fun k hk o' ho' _ => by rw [((hspec k hk o' ho').1).1]; exact ((hspec k hk o' ho').1).2.1) (fun k hk o' T u ho' hop => (hspec k hk o' ho').2 T u hop) hsh
              simp only [hput] at hs
              obtain ⟨q1, q3, q4⟩ := showTk_sim _ _ _ hsh
              cases hst : astep E G false false oj s1 with
              | none =>
                exfalso
                cases hst2 : astep E G false false oj (s1.put oi.dst a) with
                | none => simp [hst2] at hs
                | some s2 =>
                  -- the same operands
                  unfold astep at hst hst2
                  rw [evalArgs_put' _ _ _ _ hops_not] at hst2
                  have hlk : ∀ s' : AState, looks oj.op (evalArgs G s1 (mvQ false oj.op) 0 (opsL oj.op)) = none → lookedAt s' oj.op (evalArgs G s1 (mvQ false oj.op) 0 (opsL oj.op)) = none := fun s' hl => by unfold lookedAt; rw [hl]
                  cases hao : aop E false oj.op (evalArgs G s1 (mvQ false oj.op) 0 (opsL oj.op)) (lookedAt (s1.put oi.dst a) oj.op (evalArgs G s1 (mvQ false oj.op) 0 (opsL oj.op))) with
                  | none => simp [hao] at hst2
                  | some out =>
                    obtain ⟨hk, hl⟩ := append_keep ht hao
                    rw [hlk _ hl] at hao hst
                    rw [hao] at hst
                    simp [astepOut, hk] at hst
              | some s2 =>
                obtain ⟨v, he, hback⟩ := astep_append ht hst
                have hb2 := hback oi.dst a hops_not h2
                simp only [hb2] at hs
                dsimp only
                rw [hst]
                refine ⟨?_, hs⟩
                rw [← hy]
                subst he
                refine stepQ_sim ?_ ?_
                · refine SimT.trans (s' := { s1 with tmps := s1.tmps.set t (unOwn (getT s1.tmps t)) }) ?_ (hdj _ v)
                  intro t' ht'
                  have e1 := dropOwn_simA (s := s1) (x := .tmp t) t'
                  simp only [dropOwn, List.getElem?_cons_zero] at e1
                  rw [e1, q4 t' (fun k hk o' ho' e => by
                    obtain ⟨⟨g1, _, g3⟩, _⟩ := hspec k hk o' ho'
                    rw [g1] at e
                    simp at e
                    subst e
                    exact g3 (by simpa using ht'))]
                · exact q1.trans (.of_eq (by rw [(put_locs _ oj.dst v).1]) (fun _ => by rw [(put_locs _ oj.dst v).2.1]))
          · rename_i ht
            simp only [ht] at hs
            split
            · rename_i hst
              simp only [hst] at hs
              cases hs2 : astep E G (readOnly H.moves ops.toList oj) (takeR H ops.toList oj) oj (s.put oi.dst a) with
              | none => rw [hs2] at hs; simp at hs
              | some s2 =>
                rw [hs2] at hs
                obtain ⟨s3, k1, k2, k3⟩ : ∃ s3, astep E G (readOnly H.moves ops.toList oj) (takeR H ops.toList oj) oj s = some s3 ∧ s3.put oi.dst a = s2 ∧ stepQ E G (quietHeap H ops.toList h.pre || quietAt H ops.toList h.pre i) ops.toList oi s3 = some a := by
                  rcases hG hst hm with hmv | hap
                  · exact move_swap hmv (by simpa using h1) h2 (by simpa using h3) hy hs2
                  · exact store_swap hap hy hs2
                rw [k1]
                exact ⟨k3, by rw [k2]; exact hs⟩
            · rename_i hst
              simp [hst] at hs
      · rename_i hb
        simp only [hb] at hs
        refine ⟨?_, ?_⟩
        · rw [← hy]
          exact stepQ_sim (hdj _ _) (hlj _ _ _)
        · have := hs
          simp only [Bool.false_eq_true, if_false] at this
          rw [put_comm h2] at this
          exact this
  · rename_i hl
    rw [if_neg hl] at hs
    obtain ⟨b, hb1, hb2⟩ := hs
    rw [stepQ_sim hsimj (hlj _ _ _)] at hb1
    refine ⟨b, hb1, ?_, ?_⟩
    · rw [← hy]
      exact stepQ_sim (hdj _ _) (hlj _ _ _)
    · rw [put_comm h2] at hb2
      exact hb2
/-! ### All orders -/
variable (P E G H) in
def aanyP (ops : Array Oper) (h : RHint) (p : Array Bool) (T : AState → Prop) : Nat → Array Bool → AState → Prop
  | 0, listed, s => listed = p ∧ T s
  | fuel + 1, listed, s =>
    (listed = p ∧ T s) ∨ (listed ≠ p ∧ Region.ready .any ops listed ≠ [] ∧ ∀ i ∈ Region.ready .any ops listed, opC P E G H ops h i (aanyP ops h p T fuel (setL listed i)) s) ∨
    (∃ i oi a, setL listed i = p ∧ lateOk ops h p i = true ∧ ops[i]? = some oi ∧ (i, false) ∈ h.pre ∧ i ∈ Region.ready .any ops listed ∧ stepQ E G (quietHeap H ops.toList h.pre || quietAt H ops.toList h.pre i) ops.toList oi s = some a ∧ T (s.put oi.dst a))

theorem unlisted_of_ready {ops : Array Oper} {listed : Array Bool} {i : Nat} (h : i ∈ Region.ready .any ops listed) (hsz : listed.size = ops.size) : listed[i]? = some false := by
  obtain ⟨h0, o, ho, _⟩ := mem_ready.1 h
  have hlt : i < ops.size := (Array.getElem?_eq_some_iff.1 ho).1
  have hl : i < listed.size := by omega
  simp [hl] at h0
  simp [hl, h0]

theorem set_back {listed p : Array Bool} {i : Nat} (h : listed[i]? = some false) (e : setL listed i = p) : p.setIfInBounds i false = listed := by
  subst e
  have hl : i < listed.size := (Array.getElem?_eq_some_iff.1 h).1
  apply Array.ext_getElem?
  intro k
  unfold setL
  by_cases hk : i = k
  · subst hk
    rw [h]
    simp [hl]
  · rw [Array.getElem?_setIfInBounds_ne hk, Array.getElem?_setIfInBounds_ne hk]

/-- What has come up has waited for all that it waits for. -/
def Closed (ops : Array Oper) (listed : Array Bool) : Prop := ∀ (d : Nat) (o : Oper), listed[d]? = some true → ops[d]? = some o → ∀ e ∈ o.after, Region.binds .any e = true → listed.getD e.on false = true

theorem Closed.step {ops : Array Oper} {listed : Array Bool} (h : Closed ops listed) {j : Nat} (hj : j ∈ Region.ready .any ops listed) : Closed ops (setL listed j) := by
  intro d o hd ho e he hb
  by_cases hdj : d = j
  · subst hdj
    obtain ⟨_, o', ho', hafter⟩ := mem_ready.1 hj
    rw [ho] at ho'
    simp at ho'
    subst ho'
    exact getD_set_true (hafter e he hb)
  · unfold setL at hd
    rw [Array.getElem?_setIfInBounds_ne (Ne.symm hdj)] at hd
    exact getD_set_true (h d o hd ho e he hb)

theorem waited_no {ops : Array Oper} {listed : Array Bool} {i : Nat} (hcl : Closed ops listed) (hun : listed[i]? = some false) (hl : waited ops (setL listed i) i = true) : False := by
  unfold waited at hl
  obtain ⟨d, hd, hd2⟩ := List.any_eq_true.1 hl
  simp only [Bool.and_eq_true] at hd2
  obtain ⟨⟨h1, h2⟩, h3⟩ := hd2
  have hdi : d ≠ i := by simpa using h1
  split at h3
  · rename_i o ho
    obtain ⟨ed, he1, he2⟩ := Array.any_eq_true'.1 h3
    simp only [Bool.and_eq_true, beq_iff_eq] at he2
    have hld : listed[d]? = some true := by
      unfold setL at h2
      rw [getD_set_ne false (Ne.symm hdi), Array.getD_eq_getD_getElem?] at h2
      cases hg : listed[d]? with
      | none => rw [hg] at h2; simp at h2
      | some b => rw [hg] at h2; simp at h2; rw [h2]
    have := hcl d o hld ho ed he1 he2.1
    rw [he2.2, Array.getD_eq_getD_getElem?, hun] at this
    simp at this
  · simp at h3

theorem last_alone {ops : Array Oper} {listed p : Array Bool} {i : Nat} (hcl : Closed ops listed) (hun : listed[i]? = some false) (e : setL listed i = p) (hl : (waited ops p i || Region.ready .any ops (p.setIfInBounds i false) == [i]) = true) : Region.ready .any ops listed = [i] := by
  have hback := set_back hun e
  rw [Bool.or_eq_true] at hl
  rcases hl with hl | hl
  · exfalso
    unfold waited at hl
    obtain ⟨d, hd, hd2⟩ := List.any_eq_true.1 hl
    simp only [Bool.and_eq_true] at hd2
    obtain ⟨⟨h1, h2⟩, h3⟩ := hd2
    have hdi : d ≠ i := by simpa using h1
    split at h3
    · rename_i o ho
      obtain ⟨ed, he1, he2⟩ := Array.any_eq_true'.1 h3
      simp only [Bool.and_eq_true, beq_iff_eq] at he2
      have hld : listed[d]? = some true := by
        rw [← e] at h2
        unfold setL at h2
        rw [getD_set_ne false (Ne.symm hdi), Array.getD_eq_getD_getElem?] at h2
        cases hg : listed[d]? with
        | none => rw [hg] at h2; simp at h2
        | some b => rw [hg] at h2; simp at h2; rw [h2]
      have := hcl d o hld ho ed he1 he2.1
      rw [he2.2, Array.getD_eq_getD_getElem?, hun] at this
      simp at this
    · simp at h3
  · rw [← hback]; simpa using hl

theorem reach_listed {ops : Array Oper} {listed : Array Bool} (hcl : Closed ops listed) : ∀ (f i j : Nat), listed.getD i false = true → reach ops.toList f i j = true → listed.getD j false = true
  | 0, _, _, _, h => by simp [reach] at h
  | f + 1, i, j, hi, h => by
    simp only [reach] at h
    split at h
    · rename_i o ho
      obtain ⟨e, he, h2⟩ := List.any_eq_true.1 h
      simp only [Bool.and_eq_true, Bool.or_eq_true, Nat.beq_eq] at h2
      have hi' : listed[i]? = some true := by
        rw [Array.getD_eq_getD_getElem?] at hi
        cases hg : listed[i]? with
        | none => rw [hg] at hi; simp at hi
        | some b => rw [hg] at hi; simp at hi; rw [hi]
      have h3 := hcl i o hi' (by simpa using ho) e (by simpa using he) h2.1
      rcases h2.2 with h4 | h4
      · rw [← h4]; exact h3
      · exact reach_listed hcl f e.on j h3 h4
    · simp at h

theorem reach_ready {ops : Array Oper} {listed : Array Bool} (hcl : Closed ops listed) {f i j : Nat} (hr : i ∈ Region.ready .any ops listed) (h : reach ops.toList f i j = true) (hj : listed.getD j true = false) : False := by
  obtain ⟨_, o, ho, hafter⟩ := mem_ready.1 hr
  have key : listed.getD j false = true := by
    cases f with
    | zero => simp [reach] at h
    | succ f =>
      have ho' : ops.toList[i]? = some o := by simpa using ho
      simp only [reach, ho'] at h
      obtain ⟨e, he, h2⟩ := List.any_eq_true.1 h
      simp only [Bool.and_eq_true, Bool.or_eq_true, Nat.beq_eq] at h2
      have h3 := hafter e (by simpa using he) h2.1
      rcases h2.2 with h4 | h4
      · rw [← h4]; exact h3
      · exact reach_listed hcl f e.on j h3 h4
  rw [Array.getD_eq_getD_getElem?] at key hj
  cases hg : listed[j]? with
  | none => rw [hg] at key; simp at key
  | some b => rw [hg] at key hj; simp at key hj; rw [key] at hj; simp at hj

theorem aanyP_first {ops : Array Oper} {h : RHint} (hcs : chkSlots ops h = true) (hca : chkApp ops h = true) (hcst : chkStores ops h = true) {p : Array Bool} {T : AState → Prop} {i : Nat} {oi : Oper} {a : AVal} (hi : ops[i]? = some oi) (hm : (i, false) ∈ h.pre)
    (hlast : (waited ops p i || Region.ready .any ops (p.setIfInBounds i false) == [i]) = true ∨ lateOk ops h p i = true) (hp : p[i]? = some true) :
    ∀ (fuel : Nat) (listed : Array Bool) (s : AState), listed.size = ops.size → Closed ops listed →
      (∀ j oj, ops[j]? = some oj → j ≠ i → listed.getD j true = false → (∀ e ∈ oj.after, Region.binds .any e = true → e.on ≠ i) → oi.apart ops oj = true) →
      i ∈ Region.ready .any ops listed → stepQ E G (quietHeap H ops.toList h.pre || quietAt H ops.toList h.pre i) ops.toList oi s = some a →
      aanyP P E G H ops h p T fuel (setL listed i) (s.put oi.dst a) → aanyP P E G H ops h p T (fuel + 1) listed s := by
  intro fuel
  induction fuel with
  | zero =>
    intro listed s hsz hcl hfree hr hy hH
    have hun := unlisted_of_ready hr hsz
    have hne : listed ≠ p := fun e => by rw [e, hp] at hun; simp at hun
    rcases hlast with hlast | hlast
    rotate_left
    · exact .inr (.inr ⟨i, oi, a, hH.1, hlast, hi, hm, hr, hy, hH.2⟩)
    have hal := last_alone hcl hun hH.1 hlast
    refine .inr (.inl ⟨hne, fun h => (by rw [h] at hr; cases hr), fun j hj => ?_⟩)
    have hj' := hj
    rw [hal] at hj'
    simp at hj'
    subst hj'
    exact ⟨false, oi, hm, hi, by simp only [Bool.false_eq_true, if_false]; exact ⟨a, hy, hH⟩⟩
  | succ fuel ih =>
    intro listed s hsz hcl hfree hr hy hH
    have hun := unlisted_of_ready hr hsz
    have hne : listed ≠ p := fun e => by rw [e, hp] at hun; simp at hun
    by_cases hlate : setL listed i = p ∧ lateOk ops h p i = true ∧ ¬ (waited ops p i || Region.ready .any ops (p.setIfInBounds i false) == [i]) = true
    · have hT : T (s.put oi.dst a) := by
        rcases hH with ⟨_, hT⟩ | ⟨hne2, _⟩ | ⟨i', oi', a', e', _, hoi', _, hr', _, _⟩
        · exact hT
        · exact absurd hlate.1 hne2
        · exfalso
          have hun' := unlisted_of_ready hr' (by simpa [setL] using hsz)
          rw [hlate.1] at hun' e'
          have : (setL p i')[i']? = some true := by
            have hl : i' < p.size := (Array.getElem?_eq_some_iff.1 hun').1
            simp [setL, hl]
          rw [e', hun'] at this
          simp at this
      exact .inr (.inr ⟨i, oi, a, hlate.1, hlate.2.1, hi, hm, hr, hy, hT⟩)
    refine .inr (.inl ⟨hne, fun h => (by rw [h] at hr; cases hr), fun j hj => ?_⟩)
    by_cases hji : j = i
    · subst hji
      exact ⟨false, oi, hm, hi, by simp only [Bool.false_eq_true, if_false]; exact ⟨a, hy, hH⟩⟩
    · have h1 : opC P E G H ops h j (aanyP P E G H ops h p T fuel (setL (setL listed i) j)) (s.put oi.dst a) := by
        rcases hH with ⟨e, hT⟩ | ⟨hne2, _, hall⟩ | ⟨i', oi', a', e', hlk, hoi', hm', hr', hy', hT'⟩
        · exfalso
          have hlast' : (waited ops p i || Region.ready .any ops (p.setIfInBounds i false) == [i]) = true := by
            rcases hlast with h' | h'
            · exact h'
            · exact Classical.byContradiction fun hno => hlate ⟨e, h', hno⟩
          have hal := last_alone hcl hun e hlast'
          have hj' := hj
          rw [hal] at hj'
          simp at hj'
          exact absurd hj' hji
        · exact hall j (ready_mono hj hji)
        · have hun' := unlisted_of_ready hr' (by simpa [setL] using hsz)
          have hii : i ≠ i' := by
            rintro rfl
            have hl : i < listed.size := (Array.getElem?_eq_some_iff.1 hun).1
            simp [setL, hl] at hun'
          have hb1 := set_back hun' e'
          have hb2 := set_back hun (rfl : setL listed i = setL listed i)
          have hjr : j ∈ Region.ready .any ops (setL listed i) := ready_mono hj hji
          have hji' : j = i' := by
            refine Classical.byContradiction fun hjn => ?_
            unfold lateOk at hlk
            split at hlk
            · simp at hlk
            · rename_i j0 r0 htl
              simp only [Bool.and_eq_true, Bool.or_eq_true, beq_iff_eq] at hlk
              obtain ⟨⟨⟨⟨⟨⟨⟨h1, _⟩, _⟩, _⟩, h5⟩, _⟩, _⟩, _⟩ := hlk
              rw [hb1] at h1
              have hj0 : j = j0 := by
                rcases h1 with h1 | h1 <;> rw [h1] at hjr <;> simp at hjr <;> rcases hjr with h' | h' <;> first | exact h' | exact absurd h' hjn
              subst hj0
              have h6 := List.all_eq_true.1 h5 (i, false) hm
              rw [hb1, hb2] at h6
              simp only [Bool.or_eq_true, beq_iff_eq, hii, false_or] at h6
              rcases h6 with h6 | h6
              · exact waited_no hcl hun h6
              · simp at h6
                exact h6 hj
          subst hji'
          have hP : aanyP P E G H ops h p T fuel (setL (setL listed i) j) ((s.put oi.dst a).put oi'.dst a') := by
            rw [e']
            cases fuel with
            | zero => exact ⟨rfl, hT'⟩
            | succ fuel => exact .inl ⟨rfl, hT'⟩
          exact ⟨false, oi', hm', hoi', by simp only [Bool.false_eq_true, if_false]; exact ⟨a', hy', hP⟩⟩
      · obtain ⟨hjun, oj, hoj, hafter⟩ := mem_ready.1 hj
        have hnot : ∀ e ∈ oj.after, Region.binds .any e = true → e.on ≠ i := fun e he hb heq => by
          have h1 := hafter e he hb
          rw [heq] at h1
          rw [Array.getD_eq_getD_getElem?, hun] at h1
          simp at h1
        have hntk : ∀ t k o', appSlot oj.op = some t → k ∈ tkFor ops.toList t h.tk → ops.toList[k]? = some o' → ∀ e ∈ o'.after, Region.binds .any e = true → e.on ≠ i := by
          intro t k o' ht hk ho' e he hb heq
          obtain ⟨lone, _, hmj, _, _⟩ := h1
          have hca' := hca
          unfold chkApp at hca'
          have g1 := List.all_eq_true.1 hca' (j, lone) hmj
          simp only [hoj, ht] at g1
          have g2 := List.all_eq_true.1 g1 k hk
          obtain ⟨e2, he1, he2⟩ := Array.any_eq_true'.1 g2
          simp only [Bool.and_eq_true, beq_iff_eq] at he2
          have g3 := hafter e2 he1 he2.1
          rw [he2.2, Array.getD_eq_getD_getElem?] at g3
          have hlk : listed[k]? = some true := by
            cases hg : listed[k]? with
            | none => rw [hg] at g3; simp at g3
            | some b => rw [hg] at g3; simp at g3; rw [g3]
          have := hcl k o' hlk (by simpa using ho') e he hb
          rw [heq, Array.getD_eq_getD_getElem?, hun] at this
          simp at this
        have hF : ∀ c, isCall oj.op = some c → isPure H oj = false → isRead H oj = false → (j, true) ∈ h.pre → (quietHeap H ops.toList h.pre || quietAt H ops.toList h.pre i) = false := by
          intro c hcc hpu hrd hmj
          rw [Bool.eq_false_iff]
          intro ht
          rw [quietHeap_false (all := ops.toList) hmj (by simpa using hoj) hcc hpu, Bool.false_or] at ht
          unfold quietAt at ht
          have g := List.all_eq_true.1 ht (j, true) hmj
          have hoj' : ops.toList[j]? = some oj := by simpa using hoj
          simp only [hoj', hcc, hpu, hrd, Bool.not_true, Bool.false_or, Option.isNone_some, Bool.or_eq_true] at g
          rcases g with g | g
          · exact reach_ready hcl hr g hjun
          · refine reach_ready hcl hj g ?_
            rw [Array.getD_eq_getD_getElem?, hun]; rfl
        have hG : isStore oj.op = true → (j, true) ∈ h.pre → isCopyO oj = true ∨ apartP oi oj = true := by
          intro hst hmj
          unfold chkStores at hcst
          have g1 := List.all_eq_true.1 hcst (j, true) hmj
          simp only [hoj, hst, Bool.not_true, Bool.false_or, Bool.and_eq_true] at g1
          have g2 := List.all_eq_true.1 g1.2 (i, false) hm
          simp only [hi, Bool.false_or, Bool.or_eq_true] at g2
          rcases g2 with ((g | g) | g) | g
          · exact .inl g
          · exact .inr g
          · exact (reach_ready hcl hr g hjun).elim
          · refine (reach_ready hcl hj g ?_).elim
            rw [Array.getD_eq_getD_getElem?, hun]; rfl
        have h2 := opC_put hcs hi hm hoj (hfree j oj hoj hji hjun hnot) hntk hF hG hy h1
        have hfree' : ∀ k ok, ops[k]? = some ok → k ≠ i → (setL listed j).getD k true = false → (∀ e ∈ ok.after, Region.binds .any e = true → e.on ≠ i) → oi.apart ops ok = true := fun k ok hk hki hun' hno => by
          refine hfree k ok hk hki ?_ hno
          by_cases hjk : j = k
          · subst hjk; exact hjun
          · unfold setL at hun'; rw [getD_set_ne true hjk] at hun'; exact hun'
        refine opC_mono (fun s' h3 => ih (setL listed j) s' (by simpa [setL] using hsz) (hcl.step hj) hfree' (ready_mono hr (Ne.symm hji)) h3.1 ?_) h2
        have e : setL (setL listed j) i = setL (setL listed i) j := by unfold setL; rw [Array.setIfInBounds_comm _ _ hji]
        rw [e]
        exact h3.2

theorem preAll_size : ∀ (r : List (Nat × Bool)) (l : Array Bool), (preAll r l).size = l.size
  | [], _ => rfl
  | (i, _) :: r, l => by simp [preAll, preAll_size r, setL]

theorem preAll_true : ∀ (r : List (Nat × Bool)) (l : Array Bool) (i : Nat), l[i]? = some true → (preAll r l)[i]? = some true
  | [], _, _, h => h
  | (j, _) :: r, l, i, h => by
    apply preAll_true r
    unfold setL
    by_cases hj : j = i
    · subst hj
      have hl : j < l.size := (Array.getElem?_eq_some_iff.1 h).1
      simp [hl]
    · rw [Array.getElem?_setIfInBounds_ne hj]; exact h

/-- The chosen order stands for all. -/
theorem aanyP_of_order {ops : Array Oper} {h : RHint} (hcs : chkSlots ops h = true) (hca : chkApp ops h = true) (hcst : chkStores ops h = true) {T : AState → Prop} {p : Array Bool} (hlast : chkLast ops h p h.pre = true) :
    ∀ (r : List (Nat × Bool)) (listed : Array Bool) (s : AState) (fuel : Nat), (∀ x ∈ r, x ∈ h.pre) → listed.size = ops.size → Closed ops listed → p = preAll r listed → chkPre ops r listed = true → r.length ≤ fuel →
      aordP (ACalls P G) E G H h.tk (quietHeap H ops.toList h.pre) (quietAt H ops.toList h.pre) ops.toList T r s → aanyP P E G H ops h p T fuel listed s
  | [], listed, s, fuel, _, _, _, hp, _, _, h => by
    cases fuel with
    | zero => exact ⟨hp.symm, h⟩
    | succ fuel => exact .inl ⟨hp.symm, h⟩
  | (i, lone) :: r, listed, s, 0, _, _, _, _, _, hf, _ => by simp at hf
  | (i, lone) :: r, listed, s, fuel + 1, hsub, hsz, hcl, hp, hc, hf, hh => by
    have hm := hsub (i, lone) (by simp)
    simp only [chkPre, Bool.and_eq_true] at hc
    obtain ⟨hc1, hc2⟩ := hc
    have hrd0 : i ∈ Region.ready .any ops listed := by
      cases lone with
      | true => simp at hc1; rw [hc1]; simp
      | false => simp at hc1; exact hc1.1
    simp only [aordP, askK_eq] at hh
    have hsz' : (setL listed i).size = ops.size := by simpa [setL] using hsz
    have hp' : p = preAll r (setL listed i) := hp
    have hrec : ∀ s', aordP (ACalls P G) E G H h.tk (quietHeap H ops.toList h.pre) (quietAt H ops.toList h.pre) ops.toList T r s' → aanyP P E G H ops h p T fuel (setL listed i) s' := fun s' h' =>
      aanyP_of_order hcs hca hcst hlast r (setL listed i) s' fuel (fun x hx => hsub x (by simp [hx])) hsz' (hcl.step hrd0) hp' hc2 (by simp at hf; omega) h'
    split at hh
    · exact hh.elim
    · rename_i o ho
      have ho' : ops[i]? = some o := by simpa using ho
      have hlt : i < listed.size := by rw [hsz]; exact (Array.getElem?_eq_some_iff.1 ho').1
      have hpi : p[i]? = some true := by
        rw [hp']
        apply preAll_true
        simp [setL, hlt]
      cases lone with
      | true =>
        simp only [if_true] at hh hc1
        have hrd : Region.ready .any ops listed = [i] := by simpa using hc1
        have hun := unlisted_of_ready (i := i) (by rw [hrd]; simp) hsz
        refine .inr (.inl ⟨fun e => by rw [e, hpi] at hun; simp at hun, by rw [hrd]; simp, fun j hj => ?_⟩)
        rw [hrd] at hj
        simp at hj
        subst hj
        exact ⟨true, o, hm, ho', by simp only [if_true]; exact opL_mono hrec hh⟩
      | false =>
        simp only [Bool.false_eq_true, if_false, Bool.and_eq_true] at hh hc1
        split at hh
        · rename_i a ha
          refine aanyP_first hcs hca hcst ho' hm ?_ hpi fuel listed s hsz hcl (Region.free_spec ho' hc1.2) (by simpa using hc1.1) ha (hrec _ hh)
          have : ∀ (q : List (Nat × Bool)), (i, false) ∈ q → chkLast ops h p q = true → (waited ops p i || Region.ready .any ops (p.setIfInBounds i false) == [i]) = true ∨ lateOk ops h p i = true := by
            intro q
            induction q with
            | nil => intro hq; simp at hq
            | cons x q ih =>
              intro hq hcl
              obtain ⟨k, l⟩ := x
              simp only [chkLast, Bool.and_eq_true, Bool.or_eq_true] at hcl
              rcases List.mem_cons.1 hq with e | hq
              · simp at e
                obtain ⟨rfl, rfl⟩ := e
                rcases hcl.1 with (hl | hl) | hl
                · simp at hl
                · exact .inl (by rw [Bool.or_eq_true]; exact hl)
                · exact .inr hl
              · exact ih hq hcl.2
          exact this h.pre hm hlast
        · exact hh.elim

theorem quietPre_sub : ∀ {r : List (Nat × Bool)} {x : Nat × Bool}, x ∈ quietPre r → x ∈ r ∧ x.2 = false
  | [], _, h => by simp [quietPre] at h
  | (i, true) :: r, _, h => by simp [quietPre] at h
  | (i, false) :: r, x, h => by
    simp only [quietPre] at h
    rcases List.mem_cons.1 h with rfl | h
    · simp
    · obtain ⟨h1, h2⟩ := quietPre_sub h; exact ⟨by simp [h1], h2⟩

/-- The quiet ones first. -/
theorem aanyP_of_quiet {ops : Array Oper} {h : RHint} (hcs : chkSlots ops h = true) (hca : chkApp ops h = true) (hcst : chkStores ops h = true) {T K : AState → Prop} {p : Array Bool} (hlast : chkLast ops h p h.pre = true) (hall : ∀ x ∈ h.pre, p[x.1]? = some true) (fuel : Nat) :
    ∀ (r : List (Nat × Bool)) (listed : Array Bool) (s : AState), (∀ x ∈ r, x ∈ h.pre ∧ x.2 = false) → listed.size = ops.size → Closed ops listed → chkPre ops r listed = true →
      (∀ s', K s' → aanyP P E G H ops h p T fuel (preAll r listed) s') →
      aordP (ACalls P G) E G H h.tk (quietHeap H ops.toList h.pre) (quietAt H ops.toList h.pre) ops.toList K r s → aanyP P E G H ops h p T (r.length + fuel) listed s
  | [], listed, s, _, _, _, _, hK, h => by
    rw [List.length_nil, Nat.zero_add]
    exact hK s h
  | (i, true) :: r, listed, s, hsub, _, _, _, _, _ => by
    have := (hsub (i, true) (by simp)).2
    simp at this
  | (i, false) :: r, listed, s, hsub, hsz, hcl, hc, hK, hh => by
    obtain ⟨hm, _⟩ := hsub (i, false) (by simp)
    simp only [chkPre, Bool.and_eq_true] at hc
    obtain ⟨hc1, hc2⟩ := hc
    simp only [Bool.false_eq_true, if_false, Bool.and_eq_true] at hc1
    have hrd0 : i ∈ Region.ready .any ops listed := by simpa using hc1.1
    simp only [aordP, askK_eq] at hh
    have hsz' : (setL listed i).size = ops.size := by simpa [setL] using hsz
    split at hh
    · exact hh.elim
    · rename_i o ho
      have ho' : ops[i]? = some o := by simpa using ho
      simp only [Bool.false_eq_true, if_false] at hh
      split at hh
      · rename_i a ha
        have hrec := aanyP_of_quiet hcs hca hcst hlast hall fuel r (setL listed i) _ (fun x hx => hsub x (by simp [hx])) hsz' (hcl.step hrd0) hc2 hK hh
        have e : ((i, false) :: r).length + fuel = (r.length + fuel) + 1 := by simp; omega
        rw [e]
        refine aanyP_first hcs hca hcst ho' hm ?_ (hall _ hm) (r.length + fuel) listed s hsz hcl (Region.free_spec ho' hc1.2) hrd0 ha hrec
        have : ∀ (q : List (Nat × Bool)), (i, false) ∈ q → chkLast ops h p q = true → (waited ops p i || Region.ready .any ops (p.setIfInBounds i false) == [i]) = true ∨ lateOk ops h p i = true := by
          intro q
          induction q with
          | nil => intro hq; simp at hq
          | cons x q ih =>
            intro hq hcl
            obtain ⟨k, l⟩ := x
            simp only [chkLast, Bool.and_eq_true, Bool.or_eq_true] at hcl
            rcases List.mem_cons.1 hq with e | hq
            · simp at e
              obtain ⟨rfl, rfl⟩ := e
              rcases hcl.1 with (hl | hl) | hl
              · simp at hl
              · exact .inl (by rw [Bool.or_eq_true]; exact hl)
              · exact .inr hl
            · exact ih hq hcl.2
        exact this h.pre hm hlast
      · exact hh.elim

/-- Those that come up alone, in each order. -/
theorem aanyP_of_lone {ops : Array Oper} {h : RHint} {T : AState → Prop} {p : Array Bool} : ∀ (m : Nat) (listed : Array Bool) (s : AState),
    aloneP (ACalls P G) E G H h ops.toList p T m listed s → aanyP P E G H ops h p T m listed s
  | 0, listed, s, hh => hh
  | m + 1, listed, s, hh => by
    simp only [aloneP, Array.toArray_toList] at hh
    obtain ⟨h1, h2, h3⟩ := hh
    refine .inr (.inl ⟨h1, h2, fun i hi => ?_⟩)
    obtain ⟨hm, o, ho, hop⟩ := h3 i hi
    refine ⟨true, o, hm, by simpa using ho, ?_⟩
    rw [if_pos rfl]
    exact opL_mono (fun s' h' => aanyP_of_lone m _ s' h') hop
end
end Go.Tp
