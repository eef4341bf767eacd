/- The generic layer: one operation on a frame's state. -/
import Derived.Test.YteanmfacikjjhaaGreatDoorTpSound12
namespace Go.Tp

section
variable {P : Program} {E : TEnv} {G : Globs} {w : World} {R : Own} {N N' : Name → Option Nat}

/-! #### More names -/
mutual
theorem RepV.ext : ∀ {a : AVal} {v : Value} {bs : List Nat}, RepV w R N a v bs → (∀ m b, N m = some b → N' m = some b) → RepV w R N' a v bs
  | .dat _, _, _, h, _ => by simp only [RepV] at h ⊢; exact h
  | .own _, _, _, h, _ => by simp only [RepV] at h ⊢; exact h
  | .ref _, _, _, h, _ => by simp only [RepV] at h ⊢; exact h
  | .ptr m _, _, _, h, hN => by simp only [RepV] at h ⊢; obtain ⟨h1, b, h2, h3⟩ := h; exact ⟨h1, b, hN m b h2, h3⟩
  | .map m, _, _, h, hN => by simp only [RepV] at h ⊢; obtain ⟨h1, b, h2, h3⟩ := h; exact ⟨h1, b, hN m b h2, h3⟩
  | .win m _ _ _, _, _, h, hN => by simp only [RepV] at h ⊢; obtain ⟨h1, b, cap, h2, h3⟩ := h; exact ⟨h1, b, cap, hN m b h2, h3⟩
  | .fn _ x y, _, _, h, hN => by
    simp only [RepV] at h ⊢
    obtain ⟨h1, vs, us, e, h2, h3⟩ := h
    exact ⟨h1, vs, us, e, RepVs.ext (as := x) h2 hN, RepVs.ext (as := y) h3 hN⟩
  | .agg cs, _, _, h, hN => by simp only [RepV] at h ⊢; obtain ⟨vs, e, h⟩ := h; exact ⟨vs, e, RepVs.ext (as := cs) h hN⟩
  | .tup cs, _, _, h, hN => by simp only [RepV] at h ⊢; obtain ⟨vs, e, h⟩ := h; exact ⟨vs, e, RepVs.ext (as := cs) h hN⟩
  | .undef, _, _, h, _ => by simp only [RepV] at h ⊢; exact h
theorem RepVs.ext : ∀ {as : List AVal} {vs : List Value} {bs : List Nat}, RepVs w R N as vs bs → (∀ m b, N m = some b → N' m = some b) → RepVs w R N' as vs bs
  | [], _, _, h, _ => by simp only [RepVs] at h ⊢; exact h
  | a :: as, _, _, h, hN => by
    simp only [RepVs] at h ⊢
    obtain ⟨v, vs', b1, b2, e1, e2, h1, h2⟩ := h
    exact ⟨v, vs', b1, b2, e1, e2, RepV.ext (a := a) h1 hN, RepVs.ext (as := as) h2 hN⟩
end

theorem RepObj.ext {o : AObj} {b : Nat} {bs : List Nat} (h : RepObj w R N o b bs) (hN : ∀ m b, N m = some b → N' m = some b) : RepObj w R N' o b bs := by
  cases o with
  | cells cs => obtain ⟨vs, e, sp, hb, hr, hR⟩ := h; exact ⟨vs, e, sp, hb, hr.ext hN, hR⟩
  | map es => exact h

theorem RepObjs.ext : ∀ {os : List (Name × AObj)} {bs : List Nat}, RepObjs w R N os bs → (∀ m b, N m = some b → N' m = some b) → RepObjs w R N' os bs
  | [], _, h, _ => h
  | (_, _) :: _, _, ⟨b, b1, b2, e, hn, h1, h2⟩, hN => ⟨b, b1, b2, e, hN _ _ hn, h1.ext hN, RepObjs.ext h2 hN⟩

/-! #### An object taken out -/
theorem RepObjs.adel_sub : ∀ {os : List (Name × AObj)} {bs : List Nat} (n : Name), RepObjs w R N os bs → ∃ bs', RepObjs w R N (adel n os) bs' ∧ bs'.Sublist bs
  | [], _, _, h => ⟨_, h, .refl _⟩
  | (m, o) :: os, _, n, ⟨b, b1, b2, e, hn, h1, h2⟩ => by
    subst e
    obtain ⟨bs', g1, g2⟩ := RepObjs.adel_sub n h2
    simp only [adel]
    split
    · exact ⟨bs', g1, g2.trans ((List.sublist_append_right b1 b2).cons _)⟩
    · exact ⟨b :: (b1 ++ bs'), ⟨b, b1, bs', rfl, hn, h1, g1⟩, (List.Sublist.append (.refl _) g2).cons_cons _⟩

theorem RepObjs.split_del : ∀ {os : List (Name × AObj)} {bs : List Nat} {n : Name} {o : AObj}, RepObjs w R N os bs → aget n os = some o →
    ∃ pre b b1 post, bs = pre ++ (b :: b1) ++ post ∧ N n = some b ∧ RepObj w R N o b b1 ∧
      (∀ (w' : World) (R' : Own) (o' : AObj) (b1' : List Nat), Keep w R w' R' (pre ++ post) → RepObj w' R' N o' b b1' → RepObjs w' R' N (aset n o' os) (pre ++ (b :: b1') ++ post)) ∧
      ∃ bs', RepObjs w R N (adel n os) bs' ∧ bs'.Sublist (pre ++ post)
  | [], _, _, _, _, h => by simp [aget] at h
  | (m, x) :: os, bs, n, o, h, hg => by
    obtain ⟨b, b1, b2, e, hN, h1, h2⟩ := h
    simp only [aget] at hg
    simp only [adel]
    split at hg
    · rename_i hm
      subst hm
      simp at hg
      subst hg
      obtain ⟨bs', g1, g2⟩ := RepObjs.adel_sub m h2
      refine ⟨[], b, b1, b2, by simp [e], hN, h1, fun w' R' o' b1' k hr => ?_, bs', by simpa using g1, by simpa using g2⟩
      simp only [aset, if_true]
      exact ⟨b, b1', b2, by simp, hN, hr, h2.keep (k.sub (by simp))⟩
    · rename_i hm
      rw [if_neg hm]
      obtain ⟨pre, c, c1, post, f1, f2, f3, f4, bs', f5, f6⟩ := RepObjs.split_del h2 hg
      refine ⟨b :: (b1 ++ pre), c, c1, post, by simp [e, f1], f2, f3, fun w' R' o' b1' k hr => ?_, b :: (b1 ++ bs'), ⟨b, b1, bs', rfl, hN, h1, f5⟩, ?_⟩
      · simp only [aset, if_neg hm]
        exact ⟨b, b1, pre ++ (c :: b1') ++ post, by simp, hN, h1.keep (k.sub (by intro y hy; simp at hy ⊢; rcases hy with h | h <;> simp [h])),
          f4 w' R' o' b1' (k.sub (by intro y hy; simp at hy ⊢; rcases hy with h | h <;> simp [h])) hr⟩
      · simp only [List.cons_append, List.append_assoc]
        exact (List.Sublist.append (.refl _) f6).cons_cons _

theorem from_nodup {bsM xs rest : List Nat} (h : (bsM ++ rest).Nodup) (hl : ∀ b ∈ rest, b < w.heap.size) (hf : From w bsM xs) : (xs ++ rest).Nodup := by
  refine List.nodup_append.2 ⟨hf.1, (List.nodup_append.1 h).2.1, ?_⟩
  intro a ha b hb hab
  subst hab
  rcases hf.2 a ha with h1 | h1
  · exact (List.nodup_append.1 h).2.2 a h1 a hb rfl
  · have := hl a hb; omega

theorem put_tmps {as : List AVal} {vs : List Value} {bs b X : List Nat} {a : AVal} {v : Value} (d : Nat) (h : RepVs w R N as vs bs) (hv : RepV w R N a v b) (hnd : (b ++ (bs ++ X)).Nodup) :
    ∃ bs', RepVs w R N (as.set d a) (vs.set d v) bs' ∧ (bs' ++ X).Nodup := by
  cases hd : as[d]? with
  | none =>
    have hl : as.length ≤ d := by simpa using hd
    have hl2 := h.length
    rw [List.set_eq_of_length_le hl, List.set_eq_of_length_le (by omega)]
    exact ⟨bs, h, (List.nodup_append.1 hnd).2.1⟩
  | some x =>
    obtain ⟨pre, bt, post, u, e1, e2, e3, e4⟩ := RepVs.split h hd
    refine ⟨pre ++ b ++ post, e4 w R a v b (keep_refl _) hv, ?_⟩
    subst e1
    have hsub : (b ++ (pre ++ post ++ X)).Nodup := by
      refine List.Nodup.sublist ?_ hnd
      refine List.Sublist.append (.refl _) (List.Sublist.append ?_ (.refl _))
      rw [List.append_assoc]
      exact List.Sublist.append (.refl _) (List.sublist_append_right _ _)
    have hp : (pre ++ b ++ post ++ X).Perm (b ++ (pre ++ post ++ X)) := by
      simp only [← List.append_assoc]
      refine List.Perm.append_right _ (List.Perm.append_right _ ?_)
      exact List.perm_append_comm
    exact hp.nodup_iff.2 hsub

theorem put_act (act : Act) (dst : Option Tmp) (v : Value) : (act.put dst v).tmps.toList = (match dst with | some d => act.tmps.toList.set d v | none => act.tmps.toList) ∧ (act.put dst v).defers = act.defers := by
  cases dst with
  | none => exact ⟨rfl, rfl⟩
  | some d => exact ⟨by simp [Act.put], rfl⟩

/-- A value put into a slot. -/
theorem put_state {s : AState} {tmps : List Value} {bs b X : List Nat} {a : AVal} {v : Value} (dst : Option Tmp) (h : RepVs w R N s.tmps tmps bs) (hv : RepV w R N a v b) (hnd : (b ++ (bs ++ X)).Nodup) :
    ∃ bs', RepVs w R N (s.put dst a).tmps (match dst with | some d => tmps.set d v | none => tmps) bs' ∧ (bs' ++ X).Nodup := by
  cases dst with
  | none => exact ⟨bs, h, (List.nodup_append.1 hnd).2.1⟩
  | some d => exact put_tmps d h hv hnd

theorem put_locs (s : AState) (dst : Option Tmp) (a : AVal) : (s.put dst a).locs = s.locs ∧ (s.put dst a).heap = s.heap ∧ (s.put dst a).next = s.next := by cases dst <;> exact ⟨rfl, rfl, rfl⟩
theorem drop_locs (s : AState) (mv : Option Nat) (xs : List Operand) : (dropOwn s mv xs).locs = s.locs ∧ (dropOwn s mv xs).heap = s.heap ∧ (dropOwn s mv xs).next = s.next := by
  unfold dropOwn; split
  · exact ⟨rfl, rfl, rfl⟩
  · split <;> exact ⟨rfl, rfl, rfl⟩

theorem aset_same : ∀ {os : List (Name × AObj)} {n : Name} {o : AObj}, aget n os = some o → aset n o os = os
  | [], _, _, h => by simp [aget] at h
  | (m, x) :: os, n, o, h => by
    simp only [aget] at h
    simp only [aset]
    split at h
    · rename_i hm; simp at h; subst h; simp [hm]
    · rename_i hm; rw [if_neg hm, aset_same h]

theorem purge_len (n : Name) : ∀ (l : List AVal), (purgeL n l).length = l.length
  | [] => rfl
  | _ :: l => by simp [purgeL, purge_len n l]

/-- A local object of a new name. -/
def setN (N : Name → Option Nat) (n : Name) (b : Nat) : Name → Option Nat := fun m => if m = n then some b else N m

theorem repObj_other {n : Name} {b' : Nat} {o : AObj} {b : Nat} {bs : List Nat} (h : RepObj w R N o b bs) (hm : ∀ cs, o = .cells cs → mentionsL n cs = false) : RepObj w R (setN N n b') o b bs := by
  cases o with
  | cells cs =>
    obtain ⟨vs, e, sp, hb, hr, hR⟩ := h
    exact ⟨vs, e, sp, hb, RepVs.other hr (by rw [mentionsL_pad]; exact hm cs rfl) (fun m hm => by simp [setN, hm]), hR⟩
  | map es => exact h

/-- The result of a step: the new state's relation. -/
structure Stepped (P : Program) (G : Globs) (w : World) (R : Own) (N : Name → Option Nat) (act : Act) (bsF : List Nat) (o : Oper) (s' : AState) (nx : Nat) (cv : Value) (w' : World) : Prop where
  ran : Ran P w act.eval o cv w'
  rel : ∃ R' N' bsT bsL bsH, RelB G w' R' N' (act.put o.dst cv).tmps.toList s' undef .undef [] bsT bsL bsH bsF ∧ Keep w R w' R' bsF ∧ (∀ k b, N (.out k) = some b → N' (.out k) = some b) ∧ ∀ i, o.dst ≠ some i → N' (.loc i) = N (.loc i)
  next : nx ≤ s'.next

theorem astep_sound (hE : E.Ok P) {q take : Bool} {o : Oper} {s s' : AState} (h : astep E G q take o s = some s') {act : Act} {bsT bsL bsH bsF : List Nat}
    (hr : RelB G w R N act.tmps.toList s undef .undef [] bsT bsL bsH bsF) : ∃ cv w', Stepped P G w R N act bsF o s' s.next cv w' := by
  unfold astep at h
  have hnd0 : (bsT ++ (bsL ++ (bsH ++ bsF))).Nodup := by simpa using hr.nodup
  obtain ⟨bsM, bsT', ha, ht', hnd, hmv⟩ := args_take hr.tmps hr.glob (mvQ q o.op) (opsL o.op) (bsL ++ (bsH ++ bsF)) hnd0
  generalize hvals : evalArgs G s (mvQ q o.op) 0 (opsL o.op) = vals at h ha
  obtain ⟨dl1, dl2, dl3⟩ := drop_locs s (mvQ q o.op) (opsL o.op)
  generalize hs1 : dropOwn s (mvQ q o.op) (opsL o.op) = s1 at h ht' dl1 dl2 dl3
  have hltT := ht'.lt
  have hltL := hr.locs.lt
  have hltH := hr.heap.lt
  have hltF := hr.frame
  have hltX : ∀ b ∈ bsL ++ (bsH ++ bsF), b < w.heap.size := fun b hb => by
    simp at hb
    rcases hb with h | h | h
    · exact hltL b h
    · exact hltH b h
    · exact hltF b h
  split at h
  · simp at h
  rename_i out hop
  -- the object that is looked at
  have hlook : ∃ nm rest, Looked w R N o.op vals (lookedAt s o.op vals) nm ∧ (bsM ++ (nmL nm ++ rest)).Nodup ∧ (∀ b ∈ rest, b < w.heap.size) ∧ (∀ b ∈ bsF, b ∈ rest) ∧ (∀ b ∈ bsT', b ∈ rest) ∧
      ((nm = none ∧ rest = bsT' ++ (bsL ++ (bsH ++ bsF))) ∨
       (∃ i b b1 pre post obj, looks o.op vals = some (.loc i) ∧ lookedAt s o.op vals = some obj ∧ nm = some (b, b1) ∧ bsL = pre ++ (b :: b1) ++ post ∧ rest = bsT' ++ ((pre ++ post) ++ (bsH ++ bsF)) ∧ N (.loc i) = some b ∧ (∃ bs', RepObjs w R N (adel (.loc i) s.locs) bs' ∧ bs'.Sublist (pre ++ post)) ∧
          ∀ (w' : World) (R' : Own) (o' : AObj) (b1' : List Nat), Keep w R w' R' (pre ++ post) → RepObj w' R' N o' b b1' → RepObjs w' R' N (aset (.loc i) o' s.locs) (pre ++ (b :: b1') ++ post)) ∨
       (∃ k b b1 pre post obj, looks o.op vals = some (.out k) ∧ lookedAt s o.op vals = some obj ∧ nm = some (b, b1) ∧ bsH = pre ++ (b :: b1) ++ post ∧ rest = bsT' ++ (bsL ++ ((pre ++ post) ++ bsF)) ∧ N (.out k) = some b ∧ noLocO obj = true ∧ (∃ bs', RepObjs w R (outs N) (adel (.out k) s.heap) bs' ∧ bs'.Sublist (pre ++ post)) ∧
          ∀ (w' : World) (R' : Own) (o' : AObj) (b1' : List Nat), Keep w R w' R' (pre ++ post) → RepObj w' R' (outs N) o' b b1' → RepObjs w' R' (outs N) (aset (.out k) o' s.heap) (pre ++ (b :: b1') ++ post))) := by
    have plain : lookedAt s o.op vals = none → ∃ nm rest, Looked w R N o.op vals (lookedAt s o.op vals) nm ∧ (bsM ++ (nmL nm ++ rest)).Nodup ∧ (∀ b ∈ rest, b < w.heap.size) ∧ (∀ b ∈ bsF, b ∈ rest) ∧ (∀ b ∈ bsT', b ∈ rest) ∧ (nm = none ∧ rest = bsT' ++ (bsL ++ (bsH ++ bsF))) := by
      intro hn
      refine ⟨none, bsT' ++ (bsL ++ (bsH ++ bsF)), ?_, by simpa [nmL] using hnd, ?_, ?_, ?_, rfl, rfl⟩
      · unfold Looked
        split
        · exact ⟨hn, rfl⟩
        · exact .inl ⟨hn, rfl⟩
      · intro b hb
        rcases List.mem_append.1 hb with h | h
        · exact hltT b h
        · exact hltX b h
      · intro b hb; simp [hb]
      · intro b hb; simp [hb]
    cases hlo : lookedAt s o.op vals with
    | none =>
      obtain ⟨nm, rest, k1, k2, k3, k4, k5, k6⟩ := plain hlo
      rw [hlo] at k1
      exact ⟨nm, rest, k1, k2, k3, k4, k5, .inl k6⟩
    | some obj =>
      have hlo' := hlo
      unfold lookedAt at hlo'
      split at hlo'
      · rename_i n hn
        cases n with
        | loc i =>
          simp only [AState.obj] at hlo'
          obtain ⟨pre, b, b1, post, e1, e2, e3, e4, e5⟩ := RepObjs.split_del hr.locs hlo'
          refine ⟨some (b, b1), bsT' ++ ((pre ++ post) ++ (bsH ++ bsF)), ?_, ?_, ?_, ?_, ?_, .inr (.inl ⟨i, b, b1, pre, post, obj, hn, rfl, rfl, e1, rfl, e2, e5, e4⟩)⟩
          · unfold Looked
            rw [hn]
            exact .inr ⟨b, b1, obj, rfl, rfl, e2, e3⟩
          · subst e1
            have hp : (bsM ++ (nmL (some (b, b1)) ++ (bsT' ++ ((pre ++ post) ++ (bsH ++ bsF))))).Perm (bsM ++ (bsT' ++ ((pre ++ (b :: b1) ++ post) ++ (bsH ++ bsF)))) := by rw [List.perm_iff_count]; intro q; simp only [nmL, List.count_append, List.count_cons]; omega
            exact hp.nodup_iff.2 hnd
          · intro c hc
            subst e1
            simp at hc
            rcases hc with h | h | h | h | h
            · exact hltT c h
            · exact hltL c (by simp [h])
            · exact hltL c (by simp [h])
            · exact hltH c h
            · exact hltF c h
          · intro c hc; simp [hc]
          · intro c hc; simp [hc]
        | out k =>
          simp only [AState.obj] at hlo'
          obtain ⟨pre, b, b1, post, e1, e2, e3, e4, e5⟩ := RepObjs.split_del hr.heap hlo'
          have hno : noLocO obj = true := by
            cases obj with
            | cells cs => obtain ⟨vs, e, sp, hb, hrr, hR⟩ := e3; have := hrr.noLoc_of_outs; rw [noLocL_pad] at this; exact this
            | map es => rfl
          have e3' : RepObj w R N obj b b1 := e3.reN hno (fun _ => rfl)
          refine ⟨some (b, b1), bsT' ++ (bsL ++ ((pre ++ post) ++ bsF)), ?_, ?_, ?_, ?_, ?_, .inr (.inr ⟨k, b, b1, pre, post, obj, hn, rfl, rfl, e1, rfl, by simpa [outs] using e2, hno, e5, e4⟩)⟩
          · unfold Looked
            rw [hn]
            exact .inr ⟨b, b1, obj, rfl, rfl, by simpa [outs] using e2, e3'⟩
          · subst e1
            have hp : (bsM ++ (nmL (some (b, b1)) ++ (bsT' ++ (bsL ++ ((pre ++ post) ++ bsF))))).Perm (bsM ++ (bsT' ++ (bsL ++ ((pre ++ (b :: b1) ++ post) ++ bsF)))) := by rw [List.perm_iff_count]; intro q; simp only [nmL, List.count_append, List.count_cons]; omega
            exact hp.nodup_iff.2 hnd
          · intro c hc
            subst e1
            simp at hc
            rcases hc with h | h | h | h | h
            · exact hltT c h
            · exact hltL c h
            · exact hltH c (by simp [h])
            · exact hltH c (by simp [h])
            · exact hltF c h
          · intro c hc; simp [hc]
          · intro c hc; simp [hc]
      · simp at hlo'
  obtain ⟨nm, rest, hlk, hndr, hlr, hFr, hTr, hwhich⟩ := hlook
  obtain ⟨cv, w', R', hran, hkeep, hout⟩ := aop_sound (rest := rest) hE hop ha (fun h => hmv (by unfold mvQ; split <;> simp [h])) hlk hndr (fun _ => rfl)
  have hglob : ∀ g cs, G g = some cs → RepAt w' R' g 0 cs := fun g cs hg => (hr.glob g cs hg).step hkeep.step
  have hkF : Keep w R w' R' bsF := hkeep.sub hFr
  have hframe : ∀ b ∈ bsF, b < w'.heap.size := fun b hb => Nat.lt_of_lt_of_le (hltF b hb) hkeep.step.size
  have ht2 : RepVs w' R' N s1.tmps act.tmps.toList bsT' := ht'.keep (hkeep.sub hTr)
  unfold astepOut at h
  obtain ⟨pa1, pa2⟩ := put_act act o.dst cv
  cases heff : out.eff with
  | keep =>
    rw [heff] at h hout
    simp at h
    subst h
    obtain ⟨bsV, hv, hf, hobj, _⟩ := hout
    -- the objects as they were
    have hobjs : ∃ bsL' bsH', RepObjs w' R' N s.locs bsL' ∧ RepObjs w' R' (outs N) s.heap bsH' ∧ bsL' = bsL ∧ bsH' = bsH := by
      rcases hwhich with ⟨_, e⟩ | ⟨i, b, b1, pre, post, obj, h1, h2, h3, h4, h5, h6, _, h7⟩ | ⟨k, b, b1, pre, post, obj, h1, h2, h3, h4, h5, h6, h6', _, h7⟩
      · subst e
        exact ⟨bsL, bsH, hr.locs.keep (hkeep.sub (by intro b hb; simp [hb])), hr.heap.keep (hkeep.sub (by intro b hb; simp [hb])), rfl, rfl⟩
      · subst h5
        have ho := hobj b b1 obj h3 h2
        have hL := h7 w' R' obj b1 (hkeep.sub (by intro b hb; simp at hb ⊢; rcases hb with h | h <;> simp [h])) ho
        unfold lookedAt at h2
        rw [h1] at h2
        simp only [AState.obj] at h2
        rw [aset_same h2] at hL
        exact ⟨_, bsH, hL, hr.heap.keep (hkeep.sub (by intro b hb; simp [hb])), h4.symm, rfl⟩
      · subst h5
        have ho := hobj b b1 obj h3 h2
        have hH := h7 w' R' obj b1 (hkeep.sub (by intro b hb; simp at hb ⊢; rcases hb with h | h <;> simp [h])) (ho.reN h6' (fun _ => rfl))
        unfold lookedAt at h2
        rw [h1] at h2
        simp only [AState.obj] at h2
        rw [aset_same h2] at hH
        exact ⟨bsL, _, hr.locs.keep (hkeep.sub (by intro b hb; simp [hb])), hH, rfl, h4.symm⟩
    obtain ⟨bsL', bsH', hL, hH, rfl, rfl⟩ := hobjs
    have hndV : (bsV ++ (bsT' ++ (bsL' ++ (bsH' ++ bsF)))).Nodup := by
      refine from_nodup hnd ?_ hf
      intro b hb
      rcases List.mem_append.1 hb with h | h
      · exact hltT b h
      · exact hltX b h
    obtain ⟨bsT'', hp1, hp2⟩ := put_state o.dst ht2 hv hndV
    obtain ⟨q1, q2, q3⟩ := put_locs s1 o.dst out.val
    refine ⟨cv, w', hran, ⟨R', N, bsT'', bsL', bsH', ⟨repV_undef _, ?_, ?_, ?_, by simpa using hp2, ?_, hglob, hframe⟩, hkF, fun _ _ h => h, fun _ _ => rfl⟩, ?_⟩
    · rw [pa1]; exact hp1
    · rw [q1, dl1]; exact hL
    · rw [q2, dl2]; exact hH
    · rw [q3, dl3]; exact hr.next
    · rw [q3, dl3]; exact Nat.le_refl _
  | set o' =>
    rw [heff] at h hout
    obtain ⟨b, b1, b1', bsV, hnm, hobj, hv, hf⟩ := hout
    rcases hwhich with ⟨e, _⟩ | ⟨i, b0, c1, pre, post, obj, h1, h2, h3, h4, h5, h6, _, h7⟩ | ⟨k, b0, c1, pre, post, obj, h1, h2, h3, h4, h5, h6, h6', _, h7⟩
    · rw [e] at hnm; simp at hnm
    · rw [h3] at hnm
      simp at hnm
      obtain ⟨rfl, rfl⟩ := hnm
      rw [h1] at h
      simp only [AState.setObj, Option.some.injEq] at h
      subst h
      subst h5
      subst h3
      have hL := h7 w' R' o' b1' (hkeep.sub (by intro b hb; simp at hb ⊢; rcases hb with h | h <;> simp [h])) hobj
      have hH := hr.heap.keep (hkeep.sub (by intro b hb; simp [hb]))
      -- nodup
      have hnd2 : ((bsV ++ b1') ++ (b0 :: (bsT' ++ ((pre ++ post) ++ (bsH ++ bsF))))).Nodup := by
        refine from_nodup (bsM := bsM ++ c1) ?_ ?_ hf
        · have hp : ((bsM ++ c1) ++ (b0 :: (bsT' ++ ((pre ++ post) ++ (bsH ++ bsF))))).Perm (bsM ++ (nmL (some (b0, c1)) ++ (bsT' ++ ((pre ++ post) ++ (bsH ++ bsF))))) := by rw [List.perm_iff_count]; intro q; simp only [nmL, List.count_append, List.count_cons]; omega
          exact hp.nodup_iff.2 hndr
        · intro c hc
          rcases List.mem_cons.1 hc with rfl | hc
          · exact hltL c (by rw [h4]; simp)
          · exact hlr c hc
      have hnd3 : (bsV ++ (bsT' ++ ((pre ++ (b0 :: b1') ++ post) ++ (bsH ++ bsF)))).Nodup := by
        have hp : (bsV ++ (bsT' ++ ((pre ++ (b0 :: b1') ++ post) ++ (bsH ++ bsF)))).Perm ((bsV ++ b1') ++ (b0 :: (bsT' ++ ((pre ++ post) ++ (bsH ++ bsF))))) := by rw [List.perm_iff_count]; intro q; simp only [List.count_append, List.count_cons]; omega
        exact hp.nodup_iff.2 hnd2
      obtain ⟨bsT'', hp1, hp2⟩ := put_state o.dst ht2 hv hnd3
      have e0 : (({ s1 with locs := aset (.loc i) o' s1.locs } : AState).put o.dst out.val).tmps = (s1.put o.dst out.val).tmps := by cases o.dst <;> rfl
      obtain ⟨q1, q2, q3⟩ := put_locs ({ s1 with locs := aset (.loc i) o' s1.locs } : AState) o.dst out.val
      refine ⟨cv, w', hran, ⟨R', N, bsT'', pre ++ (b0 :: b1') ++ post, bsH, ⟨repV_undef _, ?_, ?_, ?_, by simpa using hp2, ?_, hglob, hframe⟩, hkF, fun _ _ h => h, fun _ _ => rfl⟩, ?_⟩
      · rw [pa1, e0]; exact hp1
      · rw [q1]; dsimp only; rw [dl1]; exact hL
      · rw [q2]; dsimp only; rw [dl2]; exact hH
      · rw [q3]; dsimp only; rw [dl3]; exact hr.next
      · rw [q3]; exact Nat.le_of_eq dl3.symm
    · rw [h3] at hnm
      simp at hnm
      obtain ⟨rfl, rfl⟩ := hnm
      rw [h1] at h
      simp only [AState.setObj] at h
      split at h
      · rename_i s2 hs2
        split at hs2
        · rename_i hno
          simp only [Option.some.injEq] at h hs2
          subst h
          subst hs2
          subst h5
          subst h3
          have hH := h7 w' R' o' b1' (hkeep.sub (by intro b hb; simp at hb ⊢; rcases hb with h | h <;> simp [h])) (hobj.reN hno (fun _ => rfl))
          have hL := hr.locs.keep (hkeep.sub (by intro b hb; simp [hb]))
          have hnd2 : ((bsV ++ b1') ++ (b0 :: (bsT' ++ (bsL ++ ((pre ++ post) ++ bsF))))).Nodup := by
            refine from_nodup (bsM := bsM ++ c1) ?_ ?_ hf
            · have hp : ((bsM ++ c1) ++ (b0 :: (bsT' ++ (bsL ++ ((pre ++ post) ++ bsF))))).Perm (bsM ++ (nmL (some (b0, c1)) ++ (bsT' ++ (bsL ++ ((pre ++ post) ++ bsF))))) := by rw [List.perm_iff_count]; intro q; simp only [nmL, List.count_append, List.count_cons]; omega
              exact hp.nodup_iff.2 hndr
            · intro c hc
              rcases List.mem_cons.1 hc with rfl | hc
              · exact hltH c (by rw [h4]; simp)
              · exact hlr c hc
          have hnd3 : (bsV ++ (bsT' ++ (bsL ++ ((pre ++ (b0 :: b1') ++ post) ++ bsF)))).Nodup := by
            have hp : (bsV ++ (bsT' ++ (bsL ++ ((pre ++ (b0 :: b1') ++ post) ++ bsF)))).Perm ((bsV ++ b1') ++ (b0 :: (bsT' ++ (bsL ++ ((pre ++ post) ++ bsF))))) := by rw [List.perm_iff_count]; intro q; simp only [List.count_append, List.count_cons]; omega
            exact hp.nodup_iff.2 hnd2
          obtain ⟨bsT'', hp1, hp2⟩ := put_state o.dst ht2 hv hnd3
          have e0 : (({ s1 with heap := aset (.out k) o' s1.heap } : AState).put o.dst out.val).tmps = (s1.put o.dst out.val).tmps := by cases o.dst <;> rfl
          obtain ⟨q1, q2, q3⟩ := put_locs ({ s1 with heap := aset (.out k) o' s1.heap } : AState) o.dst out.val
          refine ⟨cv, w', hran, ⟨R', N, bsT'', bsL, pre ++ (b0 :: b1') ++ post, ⟨repV_undef _, ?_, ?_, ?_, by simpa using hp2, ?_, hglob, hframe⟩, hkF, fun _ _ h => h, fun _ _ => rfl⟩, ?_⟩
          · rw [pa1, e0]; exact hp1
          · rw [q1]; dsimp only; rw [dl1]; exact hL
          · rw [q2]; dsimp only; rw [dl2]; exact hH
          · rw [q3]; dsimp only; rw [dl3]; exact hr.next
          · rw [q3]; exact Nat.le_of_eq dl3.symm
        · simp at hs2
      · simp at h
  | grow o' sz len =>
    rw [heff] at h hout
    obtain ⟨b', b1', cap, hobj, hf, rfl, hcap, hsz0, hlt', hrow⟩ := hout
    have hN : ∀ m b, N m = some b → setN N (.out s.next) b' m = some b := fun m b hm => by
      simp only [setN]
      rw [if_neg]
      · exact hm
      · rintro rfl
        have := hr.next _ _ hm
        omega
    have hfin : ∀ (locs' heap' : List (Name × AObj)) (bsL' bsH' : List Nat), noLocO o' = true → RepObjs w' R' N locs' bsL' → RepObjs w' R' (outs N) heap' bsH' → (∀ c ∈ bsL' ++ bsH', c < w.heap.size) → (bsM ++ (nmL nm ++ (bsT' ++ (bsL' ++ (bsH' ++ bsF))))).Nodup →
        s' = ({ s1 with locs := locs', heap := (.out s1.next, o') :: heap', next := s1.next + 1 } : AState).put o.dst (.win (.out s1.next) sz 0 len) →
        ∃ cv w', Stepped P G w R N act bsF o s' s.next cv w' := by
      intro locs' heap' bsL' bsH' hno hL hH hltLH hndx hs'
      have hwin : RepV w' R' (setN N (.out s.next) b') (.win (.out s.next) sz 0 len) (.slice (some ⟨b', 0, none⟩) len cap) [] := by
        simp only [RepV]
        exact ⟨trivial, b', cap, by simp [setN], rfl, hcap, hsz0, hlt', by rw [Nat.zero_add]; exact hrow⟩
      have hob : RepObj w' R' (outs (setN N (.out s.next) b')) o' b' b1' := (hobj.ext hN).reN hno (fun _ => rfl)
      have hH2 : RepObjs w' R' (outs (setN N (.out s.next) b')) heap' bsH' := hH.ext (fun m b hm => by
        cases m with
        | loc i => simp [outs] at hm
        | out k => simp only [outs] at hm ⊢; exact hN _ _ hm)
      -- nodup
      have hnd4 : ((bsM ++ nmL nm) ++ (bsT' ++ (bsL' ++ (bsH' ++ bsF)))).Nodup := by simpa only [List.append_assoc] using hndx
      have hnd5 : ((b' :: b1') ++ (bsT' ++ (bsL' ++ (bsH' ++ bsF)))).Nodup := by
        refine from_nodup (w := w) hnd4 ?_ hf
        intro c hc
        rcases List.mem_append.1 hc with h | h
        · exact hltT c h
        · rcases List.mem_append.1 h with h | h
          · exact hltLH c (List.mem_append_left _ h)
          · rcases List.mem_append.1 h with h | h
            · exact hltLH c (List.mem_append_right _ h)
            · exact hltF c h
      have hnd6 : ([] ++ (bsT' ++ (bsL' ++ ((b' :: (b1' ++ bsH')) ++ bsF)))).Nodup := by
        have hp : ([] ++ (bsT' ++ (bsL' ++ ((b' :: (b1' ++ bsH')) ++ bsF)))).Perm ((b' :: b1') ++ (bsT' ++ (bsL' ++ (bsH' ++ bsF)))) := by rw [List.perm_iff_count]; intro q; simp only [List.count_append, List.count_cons, List.count_nil]; omega
        exact hp.nodup_iff.2 hnd5
      obtain ⟨bsT'', hp1, hp2⟩ := put_state o.dst (ht2.ext hN) hwin hnd6
      subst hs'
      have e0 : (({ s1 with locs := locs', heap := (.out s1.next, o') :: heap', next := s1.next + 1 } : AState).put o.dst (.win (.out s1.next) sz 0 len)).tmps = (s1.put o.dst (.win (.out s.next) sz 0 len)).tmps := by rw [← dl3]; cases o.dst <;> rfl
      obtain ⟨q1, q2, q3⟩ := put_locs ({ s1 with locs := locs', heap := (.out s1.next, o') :: heap', next := s1.next + 1 } : AState) o.dst (.win (.out s1.next) sz 0 len)
      refine ⟨_, w', hran, ⟨R', setN N (.out s.next) b', bsT'', bsL', b' :: (b1' ++ bsH'), ⟨repV_undef _, ?_, ?_, ?_, by simpa using hp2, ?_, hglob, hframe⟩, hkF, fun k b hk => hN _ _ hk, fun i _ => by simp [setN]⟩, ?_⟩
      · rw [pa1, e0]; exact hp1
      · rw [q1]; exact hL.ext hN
      · rw [q2]; dsimp only; rw [dl3]
        exact ⟨b', b1', bsH', rfl, by simp [outs, setN], hob, hH2⟩
      · rw [q3]; dsimp only; rw [dl3]
        intro k b hk
        simp only [setN] at hk
        split at hk
        · rename_i he; simp at he; omega
        · have := hr.next k b hk; omega
      · rw [q3]; dsimp only; rw [dl3]; omega
    simp only [dl2] at h
    rcases hwhich with ⟨hn0, e⟩ | ⟨i, b0, c1, pre, post, obj, h1, h2, h3, h4, h5, h6, ⟨bs', g1, g2⟩, h7⟩ | ⟨k, b0, c1, pre, post, obj, h1, h2, h3, h4, h5, h6, h6', ⟨bs', g1, g2⟩, h7⟩
    · subst hn0
      subst e
      have kL : Keep w R w' R' bsL := hkeep.sub (by intro b hb; simp [hb])
      have kH : Keep w R w' R' bsH := hkeep.sub (by intro b hb; simp [hb])
      split at h
      · rename_i k hk
        split at h
        · rename_i hno
          simp only [Option.some.injEq] at h
          obtain ⟨bs', g1, g2⟩ := RepObjs.adel_sub (.loc k) (hr.locs.keep kL)
          refine hfin (adel (.loc k) s.locs) s.heap bs' bsH hno g1 (hr.heap.keep kH) ?_ ?_ (by rw [← h, dl1])
          · intro c hc
            rcases List.mem_append.1 hc with h | h
            · exact hltL c (g2.mem h)
            · exact hltH c h
          · refine List.Nodup.sublist ?_ hndr
            exact List.Sublist.append (.refl _) (List.Sublist.append (.refl _) (List.Sublist.append (.refl _) (List.Sublist.append g2 (.refl _))))
        · simp at h
      · rename_i k hk
        split at h
        · rename_i hno
          simp only [Option.some.injEq] at h
          obtain ⟨bs', g1, g2⟩ := RepObjs.adel_sub (.out k) (hr.heap.keep kH)
          refine hfin s.locs (adel (.out k) s.heap) bsL bs' hno (hr.locs.keep kL) g1 ?_ ?_ (by rw [← h, ← dl1])
          · intro c hc
            rcases List.mem_append.1 hc with h | h
            · exact hltL c h
            · exact hltH c (g2.mem h)
          · refine List.Nodup.sublist ?_ hndr
            exact List.Sublist.append (.refl _) (List.Sublist.append (.refl _) (List.Sublist.append (.refl _) (List.Sublist.append (.refl _) (List.Sublist.append g2 (.refl _)))))
        · simp at h
      · split at h
        · rename_i hno
          simp only [Option.some.injEq] at h
          refine hfin s.locs s.heap bsL bsH hno (hr.locs.keep kL) (hr.heap.keep kH) ?_ hndr (by rw [← h, ← dl1])
          intro c hc
          rcases List.mem_append.1 hc with h | h
          · exact hltL c h
          · exact hltH c h
        · simp at h
    · rw [h1] at h
      dsimp only at h
      split at h
      · rename_i hno
        simp only [Option.some.injEq] at h
        subst h5
        subst h3
        have hmem : ∀ c ∈ pre ++ post, c ∈ bsL := fun c hc => by rw [h4]; simp at hc ⊢; rcases hc with h | h <;> simp [h]
        refine hfin (adel (.loc i) s.locs) s.heap bs' bsH hno (g1.keep (hkeep.sub (fun b hb => ?_))) (hr.heap.keep (hkeep.sub (by intro b hb; simp [hb]))) ?_ ?_ (by rw [← h, dl1])
        · have := g2.mem hb
          simp at this ⊢; rcases this with h | h <;> simp [h]
        · intro c hc
          rcases List.mem_append.1 hc with h | h
          · exact hltL c (hmem c (g2.mem h))
          · exact hltH c h
        · refine List.Nodup.sublist ?_ hndr
          exact List.Sublist.append (.refl _) (List.Sublist.append (.refl _) (List.Sublist.append (.refl _) (List.Sublist.append g2 (.refl _))))
      · simp at h
    · rw [h1] at h
      dsimp only at h
      split at h
      · rename_i hno
        simp only [Option.some.injEq] at h
        subst h5
        subst h3
        have hmem : ∀ c ∈ pre ++ post, c ∈ bsH := fun c hc => by rw [h4]; simp at hc ⊢; rcases hc with h | h <;> simp [h]
        refine hfin s.locs (adel (.out k) s.heap) bsL bs' hno (hr.locs.keep (hkeep.sub (by intro b hb; simp [hb]))) (g1.keep (hkeep.sub (fun b hb => ?_))) ?_ ?_ (by rw [← h, ← dl1])
        · have := g2.mem hb
          simp at this ⊢; rcases this with h | h <;> simp [h]
        · intro c hc
          rcases List.mem_append.1 hc with h | h
          · exact hltL c h
          · exact hltH c (hmem c (g2.mem h))
        · refine List.Nodup.sublist ?_ hndr
          exact List.Sublist.append (.refl _) (List.Sublist.append (.refl _) (List.Sublist.append (.refl _) (List.Sublist.append (.refl _) (List.Sublist.append g2 (.refl _)))))
      · simp at h
  | fresh o' =>
    rw [heff] at h hout
    obtain ⟨hnone, b1', hobj, hf, hsz, hcv⟩ := hout
    simp only at h
    split at h
    · rename_i hno
      simp only [Option.some.injEq] at h
      subst h
      have hall : RepObjs w' R' N s.locs bsL ∧ RepObjs w' R' (outs N) s.heap bsH := by
        rcases hwhich with ⟨_, e⟩ | ⟨i, b, b1, pre, post, obj, h1, h2, h3, h4, h5, h6, _, h7⟩ | ⟨k, b, b1, pre, post, obj, h1, h2, h3, h4, h5, h6, h6', _, h7⟩
        · subst e
          exact ⟨hr.locs.keep (hkeep.sub (by intro b hb; simp [hb])), hr.heap.keep (hkeep.sub (by intro b hb; simp [hb]))⟩
        · rw [hnone] at h3; simp at h3
        · rw [hnone] at h3; simp at h3
      obtain ⟨hL, hH⟩ := hall
      have hN : ∀ m b, N m = some b → setN N (.out s.next) w.heap.size m = some b := fun m b hm => by
        simp only [setN]
        rw [if_neg]
        · exact hm
        · rintro rfl
          have := hr.next _ _ hm
          omega
      have hpv : RepV w' R' (setN N (.out s.next) w.heap.size) (outVal s.next o') cv [] := by
        subst hcv
        cases o' <;> simp [RepV, setN, outVal]
      have hob : RepObj w' R' (outs (setN N (.out s.next) w.heap.size)) o' w.heap.size b1' := (hobj.ext hN).reN hno (fun _ => rfl)
      have hH2 : RepObjs w' R' (outs (setN N (.out s.next) w.heap.size)) s.heap bsH := hH.ext (fun m b hm => by
        cases m with
        | loc i => simp [outs] at hm
        | out k => simp only [outs] at hm ⊢; exact hN _ _ hm)
      have hnd2 : (b1' ++ (bsT' ++ (bsL ++ (bsH ++ bsF)))).Nodup := by
        refine from_nodup (w := w) hnd ?_ ⟨hf.1, fun b hb => .inl (hf.2 b hb)⟩
        intro b hb
        rcases List.mem_append.1 hb with h | h
        · exact hltT b h
        · exact hltX b h
      have hnew : w.heap.size ∉ b1' ++ (bsT' ++ (bsL ++ (bsH ++ bsF))) := by
        intro hc
        rcases List.mem_append.1 hc with h | h
        · have := ha.lt _ (hf.2 _ h); omega
        · rcases List.mem_append.1 h with h | h
          · have := hltT _ h; omega
          · have := hltX _ h; omega
      have hnd3 : ([] ++ (bsT' ++ (bsL ++ ((w.heap.size :: (b1' ++ bsH)) ++ bsF)))).Nodup := by
        have h1 : (w.heap.size :: (b1' ++ (bsT' ++ (bsL ++ (bsH ++ bsF))))).Nodup := List.nodup_cons.2 ⟨hnew, hnd2⟩
        have hp : ([] ++ (bsT' ++ (bsL ++ ((w.heap.size :: (b1' ++ bsH)) ++ bsF)))).Perm (w.heap.size :: (b1' ++ (bsT' ++ (bsL ++ (bsH ++ bsF))))) := by rw [List.perm_iff_count]; intro q; simp only [List.count_append, List.count_cons, List.count_nil]; omega
        exact hp.nodup_iff.2 h1
      obtain ⟨bsT'', hp1, hp2⟩ := put_state o.dst (ht2.ext hN) hpv hnd3
      have e0 : (({ s1 with heap := (.out s1.next, o') :: s1.heap, next := s1.next + 1 } : AState).put o.dst (outVal s1.next o')).tmps = (s1.put o.dst (outVal s.next o')).tmps := by rw [← dl3]; cases o.dst <;> rfl
      obtain ⟨q1, q2, q3⟩ := put_locs ({ s1 with heap := (.out s1.next, o') :: s1.heap, next := s1.next + 1 } : AState) o.dst (outVal s1.next o')
      refine ⟨cv, w', hran, ⟨R', setN N (.out s.next) w.heap.size, bsT'', bsL, w.heap.size :: (b1' ++ bsH), ⟨repV_undef _, ?_, ?_, ?_, by simpa using hp2, ?_, hglob, hframe⟩, hkF, fun k b hk => hN _ _ hk, fun i _ => by simp [setN]⟩, ?_⟩
      · rw [pa1, e0]; exact hp1
      · rw [q1]; dsimp only; rw [dl1]; exact hL.ext hN
      · rw [q2]; dsimp only; rw [dl2, dl3]
        exact ⟨w.heap.size, b1', bsH, rfl, by simp [outs, setN], hob, hH2⟩
      · rw [q3]; dsimp only; rw [dl3]
        intro k b hk
        simp only [setN] at hk
        split at hk
        · rename_i he; simp at he; omega
        · have := hr.next k b hk; omega
      · rw [q3]; dsimp only; rw [dl3]; omega
    · simp at h
  | row o' sz len =>
    rw [heff] at h hout
    obtain ⟨hnone, b1', hobj, hf, hsz, cap, hcv, hcap, hsz0, hrow⟩ := hout
    simp only at h
    split at h
    · rename_i d hd
      split at h
      · rename_i hfresh
        simp only [Option.some.injEq] at h
        subst h
        -- nothing is looked at by such an operation: whichever it was, all stays
        have hall : RepObjs w' R' N s.locs bsL ∧ RepObjs w' R' (outs N) s.heap bsH := by
          rcases hwhich with ⟨_, e⟩ | ⟨i, b, b1, pre, post, obj, h1, h2, h3, h4, h5, h6, _, h7⟩ | ⟨k, b, b1, pre, post, obj, h1, h2, h3, h4, h5, h6, h6', _, h7⟩
          · subst e
            exact ⟨hr.locs.keep (hkeep.sub (by intro b hb; simp [hb])), hr.heap.keep (hkeep.sub (by intro b hb; simp [hb]))⟩
          · rw [hnone] at h3; simp at h3
          · rw [hnone] at h3; simp at h3
        obtain ⟨hL, hH⟩ := hall
        have hN : ∀ m, m ≠ Name.loc d → setN N (.loc d) w.heap.size m = N m := fun m hm => by simp [setN, hm]
        obtain ⟨bsT2, t1, t2⟩ := RepVs.purge hN ht2
        obtain ⟨bsL2, l1, l2⟩ := RepObjs.purge hN hL
        have hob2 : RepObj w' R' (setN N (.loc d) w.heap.size) o' w.heap.size b1' := repObj_other hobj (fun cs hcs => by subst hcs; simpa [freshFor] using hfresh)
        have hH2 : RepObjs w' R' (outs (setN N (.loc d) w.heap.size)) s.heap bsH := hH.outs_eq (fun k => by simp [setN])
        have hpv : RepV w' R' (setN N (.loc d) w.heap.size) (.win (.loc d) sz 0 len) cv [] := by
          subst hcv
          simp only [RepV]
          exact ⟨trivial, w.heap.size, cap, by simp [setN], rfl, hcap, hsz0, hsz, by rw [Nat.zero_add]; exact hrow⟩
        have hnd2 : (b1' ++ (bsT' ++ (bsL ++ (bsH ++ bsF)))).Nodup := by
          refine from_nodup (w := w) hnd ?_ ⟨hf.1, fun b hb => .inl (hf.2 b hb)⟩
          intro b hb
          rcases List.mem_append.1 hb with h | h
          · exact hltT b h
          · exact hltX b h
        have hnew : w.heap.size ∉ b1' ++ (bsT' ++ (bsL ++ (bsH ++ bsF))) := by
          intro hc
          rcases List.mem_append.1 hc with h | h
          · have := ha.lt _ (hf.2 _ h); omega
          · rcases List.mem_append.1 h with h | h
            · have := hltT _ h; omega
            · have := hltX _ h; omega
        have hnd3 : ([] ++ (bsT2 ++ ((w.heap.size :: (b1' ++ bsL2)) ++ (bsH ++ bsF)))).Nodup := by
          have h1 : (w.heap.size :: (b1' ++ (bsT' ++ (bsL ++ (bsH ++ bsF))))).Nodup := List.nodup_cons.2 ⟨hnew, hnd2⟩
          have hp : ([] ++ (bsT2 ++ ((w.heap.size :: (b1' ++ bsL2)) ++ (bsH ++ bsF)))).Perm (w.heap.size :: (b1' ++ (bsT2 ++ (bsL2 ++ (bsH ++ bsF))))) := by rw [List.perm_iff_count]; intro q; simp only [List.count_append, List.count_cons, List.count_nil]; omega
          refine hp.nodup_iff.2 (List.Nodup.sublist ?_ h1)
          exact (List.Sublist.append (.refl _) (List.Sublist.append t2 (List.Sublist.append l2 (.refl _)))).cons_cons _
        obtain ⟨bsT'', hp1, hp2⟩ := put_tmps d t1 hpv hnd3
        rw [hd] at pa1
        refine ⟨cv, w', hran, ⟨R', setN N (.loc d) w.heap.size, bsT'', w.heap.size :: (b1' ++ bsL2), bsH, ⟨repV_undef _, ?_, ?_, ?_, by simpa using hp2, ?_, hglob, hframe⟩, hkF, fun k b hk => by simpa [setN] using hk, fun i hi => by
          have : Name.loc i ≠ Name.loc d := fun e => hi (by rw [hd]; simp at e; rw [e])
          simp [setN, this]⟩, ?_⟩
        · rw [hd, pa1]; exact hp1
        · simp only [newRowS]
          rw [dl1]
          exact ⟨w.heap.size, b1', bsL2, rfl, by simp [setN], hob2, l1⟩
        · simp only [newRowS]; rw [dl2]; exact hH2
        · intro k b hk
          simp [setN] at hk
          simp only [newRowS]
          rw [dl3]
          exact hr.next k b hk
        · simp only [newRowS]; exact Nat.le_of_eq dl3.symm
      · simp at h
    · simp at h
  | new o' =>
    rw [heff] at h hout
    obtain ⟨hnone, b1', hobj, hf, hsz, hcv⟩ := hout
    simp only at h
    split at h
    · rename_i d hd
      split at h
      · rename_i hfresh
        simp only [Option.some.injEq] at h
        subst h
        -- nothing is looked at by such an operation: whichever it was, all stays
        have hall : RepObjs w' R' N s.locs bsL ∧ RepObjs w' R' (outs N) s.heap bsH := by
          rcases hwhich with ⟨_, e⟩ | ⟨i, b, b1, pre, post, obj, h1, h2, h3, h4, h5, h6, _, h7⟩ | ⟨k, b, b1, pre, post, obj, h1, h2, h3, h4, h5, h6, h6', _, h7⟩
          · subst e
            exact ⟨hr.locs.keep (hkeep.sub (by intro b hb; simp [hb])), hr.heap.keep (hkeep.sub (by intro b hb; simp [hb]))⟩
          · rw [hnone] at h3; simp at h3
          · rw [hnone] at h3; simp at h3
        obtain ⟨hL, hH⟩ := hall
        have hN : ∀ m, m ≠ Name.loc d → setN N (.loc d) w.heap.size m = N m := fun m hm => by simp [setN, hm]
        obtain ⟨bsT2, t1, t2⟩ := RepVs.purge hN ht2
        obtain ⟨bsL2, l1, l2⟩ := RepObjs.purge hN hL
        have hob2 : RepObj w' R' (setN N (.loc d) w.heap.size) o' w.heap.size b1' := repObj_other hobj (fun cs hcs => by subst hcs; simpa [freshFor] using hfresh)
        have hH2 : RepObjs w' R' (outs (setN N (.loc d) w.heap.size)) s.heap bsH := hH.outs_eq (fun k => by simp [setN])
        have hpv : RepV w' R' (setN N (.loc d) w.heap.size) (newVal d o') cv [] := by
          subst hcv
          cases o' <;> simp [RepV, setN, newVal]
        have hnd2 : (b1' ++ (bsT' ++ (bsL ++ (bsH ++ bsF)))).Nodup := by
          refine from_nodup (w := w) hnd ?_ ⟨hf.1, fun b hb => .inl (hf.2 b hb)⟩
          intro b hb
          rcases List.mem_append.1 hb with h | h
          · exact hltT b h
          · exact hltX b h
        have hnew : w.heap.size ∉ b1' ++ (bsT' ++ (bsL ++ (bsH ++ bsF))) := by
          intro hc
          rcases List.mem_append.1 hc with h | h
          · have := ha.lt _ (hf.2 _ h); omega
          · rcases List.mem_append.1 h with h | h
            · have := hltT _ h; omega
            · have := hltX _ h; omega
        have hnd3 : ([] ++ (bsT2 ++ ((w.heap.size :: (b1' ++ bsL2)) ++ (bsH ++ bsF)))).Nodup := by
          have h1 : (w.heap.size :: (b1' ++ (bsT' ++ (bsL ++ (bsH ++ bsF))))).Nodup := List.nodup_cons.2 ⟨hnew, hnd2⟩
          have hp : ([] ++ (bsT2 ++ ((w.heap.size :: (b1' ++ bsL2)) ++ (bsH ++ bsF)))).Perm (w.heap.size :: (b1' ++ (bsT2 ++ (bsL2 ++ (bsH ++ bsF))))) := by rw [List.perm_iff_count]; intro q; simp only [List.count_append, List.count_cons, List.count_nil]; omega
          refine hp.nodup_iff.2 (List.Nodup.sublist ?_ h1)
          exact (List.Sublist.append (.refl _) (List.Sublist.append t2 (List.Sublist.append l2 (.refl _)))).cons_cons _
        obtain ⟨bsT'', hp1, hp2⟩ := put_tmps d t1 hpv hnd3
        rw [hd] at pa1
        refine ⟨cv, w', hran, ⟨R', setN N (.loc d) w.heap.size, bsT'', w.heap.size :: (b1' ++ bsL2), bsH, ⟨repV_undef _, ?_, ?_, ?_, by simpa using hp2, ?_, hglob, hframe⟩, hkF, fun k b hk => by simpa [setN] using hk, fun i hi => by
          have : Name.loc i ≠ Name.loc d := fun e => hi (by rw [hd]; simp at e; rw [e])
          simp [setN, this]⟩, ?_⟩
        · rw [hd, pa1]; exact hp1
        · simp only [newObj]
          rw [dl1]
          exact ⟨w.heap.size, b1', bsL2, rfl, by simp [setN], hob2, l1⟩
        · simp only [newObj]; rw [dl2]; exact hH2
        · intro k b hk
          simp [setN] at hk
          simp only [newObj]
          rw [dl3]
          exact hr.next k b hk
        · simp only [newObj]; exact Nat.le_of_eq dl3.symm
      · simp at h
    · simp at h
end
end Go.Tp
