/- The generic layer: what a callee is handed. -/
import Derived.Test.YtgodfnboklbiiaaDoorTpSound13
import Derived.Test.YtgodfnboklbiiaaDoorTpWp
namespace Go.Tp

section
variable {P : Program} {E : TEnv} {G : Globs} {w : World} {R : Own} {N N' : Name → Option Nat}

/-! #### More names -/
mutual
theorem RepV.ext : ∀ {a : AVal} {v : Value} {bs : List Nat}, RepV w R N a v bs → (∀ m b, N m = some b → N' m = some b) → RepV w R N' a v bs
  | .dat _, _, _, h, _ => by simp only [RepV] at h ⊢; exact h
  | .own _, _, _, h, _ => by simp only [RepV] at h ⊢; exact h
  | .ref _, _, _, h, _ => by simp only [RepV] at h ⊢; exact h
  | .ptr m _, _, _, h, hN => by simp only [RepV] at h ⊢; obtain ⟨h1, b, h2, h3⟩ := h; exact ⟨h1, b, hN m b h2, h3⟩
  | .map m, _, _, h, hN => by simp only [RepV] at h ⊢; obtain ⟨h1, b, h2, h3⟩ := h; exact ⟨h1, b, hN m b h2, h3⟩
  | .fn _ x y, _, _, h, hN => by
    simp only [RepV] at h ⊢
    obtain ⟨h1, vs, us, e, h2, h3⟩ := h
    exact ⟨h1, vs, us, e, RepVs.ext (as := x) h2 hN, RepVs.ext (as := y) h3 hN⟩
  | .agg cs, _, _, h, hN => by simp only [RepV] at h ⊢; obtain ⟨vs, e, h⟩ := h; exact ⟨vs, e, RepVs.ext (as := cs) h hN⟩
  | .tup cs, _, _, h, hN => by simp only [RepV] at h ⊢; obtain ⟨vs, e, h⟩ := h; exact ⟨vs, e, RepVs.ext (as := cs) h hN⟩
  | .undef, _, _, h, _ => by simp only [RepV] at h ⊢; exact h
theorem RepVs.ext : ∀ {as : List AVal} {vs : List Value} {bs : List Nat}, RepVs w R N as vs bs → (∀ m b, N m = some b → N' m = some b) → RepVs w R N' as vs bs
  | [], _, _, h, _ => by simp only [RepVs] at h ⊢; exact h
  | a :: as, _, _, h, hN => by
    simp only [RepVs] at h ⊢
    obtain ⟨v, vs', b1, b2, e1, e2, h1, h2⟩ := h
    exact ⟨v, vs', b1, b2, e1, e2, RepV.ext (a := a) h1 hN, RepVs.ext (as := as) h2 hN⟩
end

theorem RepObj.ext {o : AObj} {b : Nat} {bs : List Nat} (h : RepObj w R N o b bs) (hN : ∀ m b, N m = some b → N' m = some b) : RepObj w R N' o b bs := by
  cases o with
  | cells cs => obtain ⟨vs, e, hb, hr, hR⟩ := h; exact ⟨vs, e, hb, hr.ext hN, hR⟩
  | map es => exact h

theorem RepObjs.ext : ∀ {os : List (Name × AObj)} {bs : List Nat}, RepObjs w R N os bs → (∀ m b, N m = some b → N' m = some b) → RepObjs w R N' os bs
  | [], _, h, _ => h
  | (_, _) :: _, _, ⟨b, b1, b2, e, hn, h1, h2⟩, hN => ⟨b, b1, b2, e, hN _ _ hn, h1.ext hN, RepObjs.ext h2 hN⟩

/-! #### An object taken out -/
theorem RepObjs.adel_sub : ∀ {os : List (Name × AObj)} {bs : List Nat} (n : Name), RepObjs w R N os bs → ∃ bs', RepObjs w R N (adel n os) bs' ∧ bs'.Sublist bs
  | [], _, _, h => ⟨_, h, .refl _⟩
  | (m, o) :: os, _, n, ⟨b, b1, b2, e, hn, h1, h2⟩ => by
    subst e
    obtain ⟨bs', g1, g2⟩ := RepObjs.adel_sub n h2
    simp only [adel]
    split
    · exact ⟨bs', g1, g2.trans ((List.sublist_append_right b1 b2).cons _)⟩
    · exact ⟨b :: (b1 ++ bs'), ⟨b, b1, bs', rfl, hn, h1, g1⟩, (List.Sublist.append (.refl _) g2).cons_cons _⟩

theorem RepObjs.remove : ∀ {os : List (Name × AObj)} {bs : List Nat} {n : Name} {o : AObj}, RepObjs w R N os bs → aget n os = some o →
    ∃ pre b b1 post bs', bs = pre ++ (b :: b1) ++ post ∧ N n = some b ∧ RepObj w R N o b b1 ∧ RepObjs w R N (adel n os) bs' ∧ bs'.Sublist (pre ++ post)
  | [], _, _, _, _, h => by simp [aget] at h
  | (m, x) :: os, _, n, o, ⟨b, b1, b2, e, hn, h1, h2⟩, hg => by
    subst e
    simp only [aget] at hg
    simp only [adel]
    split at hg
    · rename_i hm
      subst hm
      simp at hg
      subst hg
      obtain ⟨bs', g1, g2⟩ := RepObjs.adel_sub m h2
      exact ⟨[], b, b1, b2, bs', by simp, hn, h1, by simpa using g1, by simpa using g2⟩
    · rename_i hm
      rw [if_neg hm]
      obtain ⟨pre, c, c1, post, bs', f1, f2, f3, f4, f5⟩ := RepObjs.remove h2 hg
      refine ⟨b :: (b1 ++ pre), c, c1, post, b :: (b1 ++ bs'), by simp [f1], f2, f3, ⟨b, b1, bs', rfl, hn, h1, f4⟩, ?_⟩
      simp only [List.cons_append, List.append_assoc]
      exact (List.Sublist.append (.refl _) f5).cons_cons _

theorem RepObjs.mapO {f : List AVal → List AVal} (hf : ∀ cs vs bs, RepVs w R N cs vs bs → RepVs w R N' (f cs) vs bs) (hN : ∀ m b, N m = some b → N' m = some b) :
    ∀ {os : List (Name × AObj)} {bs : List Nat}, RepObjs w R N os bs → RepObjs w R N' (Tp.mapO f os) bs
  | [], _, h => h
  | (_, .cells _) :: _, _, ⟨b, b1, b2, e, hn, ⟨vs, el, hb, hr, hR⟩, h2⟩ => ⟨b, b1, b2, e, hN _ _ hn, ⟨vs, el, hb, hf _ _ _ hr, hR⟩, RepObjs.mapO hf hN h2⟩
  | (_, .map _) :: _, _, ⟨b, b1, b2, e, hn, h1, h2⟩ => ⟨b, b1, b2, e, hN _ _ hn, h1, RepObjs.mapO hf hN h2⟩

/-! #### Frozen -/
mutual
theorem frz_rep {n : Name} {ds : List Dat} {b : Nat} (hn : N n = some b) (hat : RepAt w R b 0 ds) : ∀ {a : AVal} {v : Value} {bs : List Nat}, RepV w R N a v bs → RepV w R N (frz n ds a) v bs
  | .dat _, _, _, h => by simp only [frz]; exact h
  | .own _, _, _, h => by simp only [frz]; exact h
  | .ref _, _, _, h => by simp only [frz]; exact h
  | .ptr m off, _, _, h => by
    simp only [frz]
    split
    · rename_i hm
      subst hm
      simp only [RepV] at h ⊢
      obtain ⟨h1, b', h2, h3⟩ := h
      rw [hn] at h2
      simp at h2
      subst h2
      exact ⟨h1, b, off, h3, by simpa using repAt_drop off hat⟩
    · exact h
  | .map _, _, _, h => by simp only [frz]; exact h
  | .fn _ x y, _, _, h => by
    simp only [RepV, frz] at h ⊢
    obtain ⟨h1, vs, us, e, h2, h3⟩ := h
    exact ⟨h1, vs, us, e, frzL_rep hn hat (as := x) h2, frzL_rep hn hat (as := y) h3⟩
  | .agg cs, _, _, h => by simp only [RepV, frz] at h ⊢; obtain ⟨vs, e, h⟩ := h; exact ⟨vs, e, frzL_rep hn hat (as := cs) h⟩
  | .tup cs, _, _, h => by simp only [RepV, frz] at h ⊢; obtain ⟨vs, e, h⟩ := h; exact ⟨vs, e, frzL_rep hn hat (as := cs) h⟩
  | .undef, _, _, h => by simp only [frz]; exact h
theorem frzL_rep {n : Name} {ds : List Dat} {b : Nat} (hn : N n = some b) (hat : RepAt w R b 0 ds) : ∀ {as : List AVal} {vs : List Value} {bs : List Nat}, RepVs w R N as vs bs → RepVs w R N (frzL n ds as) vs bs
  | [], _, _, h => by simp only [frzL]; exact h
  | a :: as, _, _, h => by
    simp only [RepVs, frzL] at h ⊢
    obtain ⟨v, vs', b1, b2, e1, e2, h1, h2⟩ := h
    exact ⟨v, vs', b1, b2, e1, e2, frz_rep hn hat (a := a) h1, frzL_rep hn hat (as := as) h2⟩
end

mutual
theorem ren_rep {n m : Name} {b : Nat} (hn : N n = some b) (hm : N m = some b) : ∀ {a : AVal} {v : Value} {bs : List Nat}, RepV w R N a v bs → RepV w R N (ren n m a) v bs
  | .dat _, _, _, h => by simp only [ren]; exact h
  | .own _, _, _, h => by simp only [ren]; exact h
  | .ref _, _, _, h => by simp only [ren]; exact h
  | .ptr k off, _, _, h => by
    simp only [ren]
    split
    · rename_i hk
      subst hk
      simp only [RepV] at h ⊢
      obtain ⟨h1, b', h2, h3⟩ := h
      rw [hn] at h2
      simp at h2
      subst h2
      exact ⟨h1, b, hm, h3⟩
    · exact h
  | .map k, _, _, h => by
    simp only [ren]
    split
    · rename_i hk
      subst hk
      simp only [RepV] at h ⊢
      obtain ⟨h1, b', h2, h3⟩ := h
      rw [hn] at h2
      simp at h2
      subst h2
      exact ⟨h1, b, hm, h3⟩
    · exact h
  | .fn _ x y, _, _, h => by
    simp only [RepV, ren] at h ⊢
    obtain ⟨h1, vs, us, e, h2, h3⟩ := h
    exact ⟨h1, vs, us, e, renL_rep hn hm (as := x) h2, renL_rep hn hm (as := y) h3⟩
  | .agg cs, _, _, h => by simp only [RepV, ren] at h ⊢; obtain ⟨vs, e, h⟩ := h; exact ⟨vs, e, renL_rep hn hm (as := cs) h⟩
  | .tup cs, _, _, h => by simp only [RepV, ren] at h ⊢; obtain ⟨vs, e, h⟩ := h; exact ⟨vs, e, renL_rep hn hm (as := cs) h⟩
  | .undef, _, _, h => by simp only [ren]; exact h
theorem renL_rep {n m : Name} {b : Nat} (hn : N n = some b) (hm : N m = some b) : ∀ {as : List AVal} {vs : List Value} {bs : List Nat}, RepVs w R N as vs bs → RepVs w R N (renL n m as) vs bs
  | [], _, _, h => by simp only [renL]; exact h
  | a :: as, _, _, h => by
    simp only [RepVs, renL] at h ⊢
    obtain ⟨v, vs', b1, b2, e1, e2, h1, h2⟩ := h
    exact ⟨v, vs', b1, b2, e1, e2, ren_rep hn hm (a := a) h1, renL_rep hn hm (as := as) h2⟩
end

/-- The cells of an object without ownership, as immutable cells. -/
theorem repAt_of_cells {b : Nat} {vs : Array Value} {el : TypeId} (hb : w.heap[b]? = some (.cells vs el (0, 0))) {R' : Own} (hR : ∀ x, ¬ R' b x) : ∀ {ds : List Dat} {us : List Value} (k : Nat), RepCs w R' us ds → vs.toList.drop k = us → RepAt w R' b k ds
  | [], _, _, _, _ => trivial
  | d :: ds, [], _, h, _ => h.elim
  | d :: ds, u :: us, k, h, e => by
    have hk : vs.toList[k]? = some u := by
      have := List.getElem?_drop (xs := vs.toList) (i := k) (j := 0)
      rw [e] at this
      simpa using this.symm
    refine ⟨⟨u, ?_, hR k, h.1⟩, repAt_of_cells hb hR (k + 1) h.2 ?_⟩
    · rw [cell_of_row w b k vs el (0, 0) hb]; simpa using hk
    · rw [← List.drop_drop, e]; rfl

theorem prep1_sound {fz : Bool} {n : Name} {s s' : AState} {args args' : List AVal} (h : prep1 fz n s args = some (s', args')) {tmps : List Value} {cargs : List Value} {bsV bsT bsL bsH bsF : List Nat}
    (hr : RelB G w R N tmps s (.tuple cargs.toArray) (.tup args) bsV bsT bsL bsH bsF) :
    ∃ R' N' bsV' bsT' bsL' bsH', RelB G w R' N' tmps s' (.tuple cargs.toArray) (.tup args') bsV' bsT' bsL' bsH' bsF ∧ Keep w R w R' bsF ∧ (∀ o b, N (.out o) = some b → N' (.out o) = some b) ∧ (∀ i, N' (.loc i) = N (.loc i)) := by
  have hv := hr.val
  simp only [RepV] at hv
  obtain ⟨cs0, ec, hargs⟩ := hv
  simp at ec
  subst ec
  unfold prep1 at h
  split at h
  · rename_i i cs hg
    obtain ⟨pre, b, b1, post, bsD, e1, hN, hobj, hdel, hsub⟩ := RepObjs.remove hr.locs hg
    have hnd := hr.nodup
    subst e1
    split at h
    · -- frozen
      · rename_i ds hds0
        have hds : datCells (unOwnL cs) = some ds := by
          unfold frzCells at hds0
          split at hds0
          · exact hds0
          · simp at hds0
        simp at h
        obtain ⟨rfl, rfl⟩ := h
        obtain ⟨vs, el, hblk, hrr, hR⟩ := hobj
        let R' : Own := fun c x => R c x ∧ c ≠ b
        have hst : Step w R w R' := ⟨rfl, rfl, rfl, Nat.le_refl _, fun c _ hc => ⟨rfl, fun x h' => hc x h'.1⟩, fun c x _ hc => ⟨fun h' => hc h'.1, rfl⟩⟩
        have hk : ∀ bs : List Nat, b ∉ bs → Keep w R w R' bs := fun bs hb => ⟨hst, fun c hc _ => ⟨rfl, fun x hx => ⟨hx, fun e => hb (e ▸ hc)⟩⟩⟩
        have hbn : b ∉ bsV ∧ b ∉ bsT ∧ b ∉ pre ++ post ∧ b ∉ bsH ∧ b ∉ bsF := by
          have hc : (bsV ++ (bsT ++ ((pre ++ (b :: b1) ++ post) ++ (bsH ++ bsF)))).Perm (b :: (bsV ++ (bsT ++ (pre ++ post ++ (b1 ++ (bsH ++ bsF)))))) := by
            rw [List.perm_iff_count]; intro q; simp only [List.count_append, List.count_cons]; omega
          have := (List.nodup_cons.1 (hc.nodup_iff.1 hnd)).1
          simp at this ⊢
          simp [this]
        obtain ⟨n1, n2, n3, n4, n5⟩ := hbn
        have hcs := (datCells_rep (unOwnL_rep hrr) hds).1
        have hat : RepAt w R' b 0 ds := repAt_of_cells hblk (fun x h' => h'.2 rfl) 0 (hcs.step hst) (by simp)
        refine ⟨R', N, bsV, bsT, bsD, bsH, ⟨?_, ?_, ?_, ?_, ?_, hr.next, fun g cs hg => (hr.glob g cs hg).step hst, hr.frame⟩, hk bsF n5, fun _ _ h => h, fun _ => rfl⟩
        · simp only [RepV]; exact ⟨cargs, rfl, frzL_rep hN hat (hargs.keep (hk bsV n1))⟩
        · exact frzL_rep hN hat (hr.tmps.keep (hk bsT n2))
        · exact RepObjs.mapO (fun cs vs bs hr => frzL_rep hN hat hr) (fun _ _ h => h) (hdel.keep (hk bsD (fun hc => n3 (hsub.subset hc))))
        · exact hr.heap.keep (hk bsH n4)
        · refine List.Nodup.sublist ?_ hnd
          refine List.Sublist.append (.refl _) (List.Sublist.append (.refl _) (List.Sublist.append (hsub.trans ?_) (.refl _)))
          rw [List.append_assoc]
          exact List.Sublist.append (.refl _) (List.sublist_append_right _ _)
    · -- handed over
      split at h
      · rename_i hno
        simp at h
        obtain ⟨rfl, rfl⟩ := h
        have hfresh : N (.out s.next) = none := by
          cases hn : N (.out s.next) with
          | none => rfl
          | some c => have := hr.next _ _ hn; omega
        let N' : Name → Option Nat := setN N (.out s.next) b
        have hext : ∀ m c, N m = some c → N' m = some c := fun m c hm => by
          simp only [N', setN]; split
          · rename_i e; rw [e, hfresh] at hm; simp at hm
          · exact hm
        have hn1 : N' (.loc i) = some b := hext _ _ hN
        have hn2 : N' (.out s.next) = some b := by simp [N', setN]
        have hrl : ∀ cs vs bs, RepVs w R N cs vs bs → RepVs w R N' (renL (.loc i) (.out s.next) cs) vs bs := fun cs vs bs h => renL_rep hn1 hn2 (h.ext hext)
        refine ⟨R, N', bsV, bsT, bsD, b :: (b1 ++ bsH), ⟨?_, hrl _ _ _ hr.tmps, RepObjs.mapO hrl hext hdel, ?_, ?_, ?_, hr.glob, hr.frame⟩, keep_refl _, fun o c h => hext _ _ h, fun i => by simp [N', setN]⟩
        · simp only [RepV]; exact ⟨cargs, rfl, hrl _ _ _ hargs⟩
        · refine ⟨b, b1, bsH, rfl, by simp [outs, N', setN], ?_, hr.heap.ext (fun m c hm => ?_)⟩
          · obtain ⟨vs, el, hblk, hrr, hR⟩ := hobj
            exact ⟨vs, el, hblk, (hrl _ _ _ hrr).reN hno (fun _ => rfl), hR⟩
          · cases m with
            | loc j => simp [outs] at hm
            | out k => exact hext _ _ hm
        · have hp : (bsV ++ (bsT ++ ((pre ++ post) ++ ((b :: (b1 ++ bsH)) ++ bsF)))).Perm (bsV ++ (bsT ++ ((pre ++ (b :: b1) ++ post) ++ (bsH ++ bsF)))) := by
            rw [List.perm_iff_count]; intro q; simp only [List.count_append, List.count_cons]; omega
          refine List.Nodup.sublist ?_ (hp.nodup_iff.2 hnd)
          exact List.Sublist.append (.refl _) (List.Sublist.append (.refl _) (List.Sublist.append hsub (.refl _)))
        · intro o c hc
          simp only [N', setN] at hc
          split at hc
          · rename_i e; simp at e; subst e; simp
          · have := hr.next o c hc; simp; omega
      · simp at h
  · rename_i i es hg
    obtain ⟨pre, b, b1, post, bsD, e1, hN, hobj, hdel, hsub⟩ := RepObjs.remove hr.locs hg
    have hnd := hr.nodup
    subst e1
    simp at h
    obtain ⟨rfl, rfl⟩ := h
    have hfresh : N (.out s.next) = none := by
      cases hn : N (.out s.next) with
      | none => rfl
      | some c => have := hr.next _ _ hn; omega
    let N' : Name → Option Nat := setN N (.out s.next) b
    have hext : ∀ m c, N m = some c → N' m = some c := fun m c hm => by
      simp only [N', setN]; split
      · rename_i e; rw [e, hfresh] at hm; simp at hm
      · exact hm
    have hn1 : N' (.loc i) = some b := hext _ _ hN
    have hn2 : N' (.out s.next) = some b := by simp [N', setN]
    have hrl : ∀ cs vs bs, RepVs w R N cs vs bs → RepVs w R N' (renL (.loc i) (.out s.next) cs) vs bs := fun cs vs bs h => renL_rep hn1 hn2 (h.ext hext)
    refine ⟨R, N', bsV, bsT, bsD, b :: (b1 ++ bsH), ⟨?_, hrl _ _ _ hr.tmps, RepObjs.mapO hrl hext hdel, ?_, ?_, ?_, hr.glob, hr.frame⟩, keep_refl _, fun o c h => hext _ _ h, fun i => by simp [N', setN]⟩
    · simp only [RepV]; exact ⟨cargs, rfl, hrl _ _ _ hargs⟩
    · refine ⟨b, b1, bsH, rfl, by simp [outs, N', setN], hobj, hr.heap.ext (fun m c hm => ?_)⟩
      cases m with
      | loc j => simp [outs] at hm
      | out k => exact hext _ _ hm
    · have hp : (bsV ++ (bsT ++ ((pre ++ post) ++ ((b :: (b1 ++ bsH)) ++ bsF)))).Perm (bsV ++ (bsT ++ ((pre ++ (b :: b1) ++ post) ++ (bsH ++ bsF)))) := by
        rw [List.perm_iff_count]; intro q; simp only [List.count_append, List.count_cons]; omega
      refine List.Nodup.sublist ?_ (hp.nodup_iff.2 hnd)
      exact List.Sublist.append (.refl _) (List.Sublist.append (.refl _) (List.Sublist.append hsub (.refl _)))
    · intro o c hc
      simp only [N', setN] at hc
      split at hc
      · rename_i e; simp at e; subst e; simp
      · have := hr.next o c hc; simp; omega
  · simp at h
end
end Go.Tp
