/- The generic layer: what a callee is handed. -/
import Derived.Test.YteanmfacikjjhaaGreatDoorTpSound13
import Derived.Test.YteanmfacikjjhaaGreatDoorTpWp
namespace Go.Tp

section
variable {P : Program} {E : TEnv} {G : Globs} {w : World} {R : Own} {N N' : Name → Option Nat}

theorem RepObjs.remove : ∀ {os : List (Name × AObj)} {bs : List Nat} {n : Name} {o : AObj}, RepObjs w R N os bs → aget n os = some o →
    ∃ pre b b1 post bs', bs = pre ++ (b :: b1) ++ post ∧ N n = some b ∧ RepObj w R N o b b1 ∧ RepObjs w R N (adel n os) bs' ∧ bs'.Sublist (pre ++ post)
  | [], _, _, _, _, h => by simp [aget] at h
  | (m, x) :: os, _, n, o, ⟨b, b1, b2, e, hn, h1, h2⟩, hg => by
    subst e
    simp only [aget] at hg
    simp only [adel]
    split at hg
    · rename_i hm
      subst hm
      simp at hg
      subst hg
      obtain ⟨bs', g1, g2⟩ := RepObjs.adel_sub m h2
      exact ⟨[], b, b1, b2, bs', by simp, hn, h1, by simpa using g1, by simpa using g2⟩
    · rename_i hm
      rw [if_neg hm]
      obtain ⟨pre, c, c1, post, bs', f1, f2, f3, f4, f5⟩ := RepObjs.remove h2 hg
      refine ⟨b :: (b1 ++ pre), c, c1, post, b :: (b1 ++ bs'), by simp [f1], f2, f3, ⟨b, b1, bs', rfl, hn, h1, f4⟩, ?_⟩
      simp only [List.cons_append, List.append_assoc]
      exact (List.Sublist.append (.refl _) f5).cons_cons _

theorem frzL_append (n : Name) (ds : List Dat) : ∀ (l m : List AVal), frzL n ds (l ++ m) = frzL n ds l ++ frzL n ds m
  | [], m => by simp [frzL]
  | a :: l, m => by simp [frzL, frzL_append n ds l m]
theorem frzL_pad (n : Name) (ds : List Dat) (cs : List AVal) (k : Nat) : frzL n ds (cs ++ List.replicate k .undef) = frzL n ds cs ++ List.replicate k .undef := by
  rw [frzL_append]
  congr 1
  induction k with
  | zero => simp [frzL]
  | succ k ih => simp [List.replicate_succ, frzL, frz, ih]
theorem renL_append (n m : Name) : ∀ (l k : List AVal), renL n m (l ++ k) = renL n m l ++ renL n m k
  | [], k => by simp [renL]
  | a :: l, k => by simp [renL, renL_append n m l k]
theorem renL_pad (n m : Name) (cs : List AVal) (k : Nat) : renL n m (cs ++ List.replicate k .undef) = renL n m cs ++ List.replicate k .undef := by
  rw [renL_append]
  congr 1
  induction k with
  | zero => simp [renL]
  | succ k ih => simp [List.replicate_succ, renL, ren, ih]

theorem isP_frz {n : Name} {ds : List Dat} {a : AVal} (h : isP (frz n ds a) = true) : isP a = true := by
  cases a with
  | ptr m off => rfl
  | dat d => simpa [frz] using h
  | win m s off len =>
    simp only [frz] at h
    split at h <;> simp [isP] at h
  | _ => simp [frz, isP] at h
theorem isS_frz {n : Name} {ds : List Dat} {a : AVal} (h : isS (frz n ds a) = true) : isS a = true := by
  cases a with
  | ptr m off => simp only [frz] at h; split at h <;> simp [isS] at h
  | win m s off len => simp only [frz] at h; split at h <;> simp [isS] at h
  | own es' => rfl
  | dat d => simpa [frz] using h
  | _ => simp [frz, isS] at h
theorem bldSh_frz {n : Name} {ds : List Dat} {cs : List AVal} (h : bldSh (frzL n ds cs) = true) : bldSh cs = true := by
  obtain ⟨p, q, e, hp, hq⟩ := bldSh_iff.1 h
  match cs with
  | [] => simp [frzL] at e
  | [a] => simp [frzL] at e
  | [a, b] =>
    simp only [frzL, List.cons.injEq, and_true] at e
    obtain ⟨rfl, rfl⟩ := e
    exact bldSh_iff.2 ⟨a, b, rfl, isP_frz hp, isS_frz hq⟩
  | _ :: _ :: _ :: _ => simp [frzL] at e
theorem isP_ren {n m : Name} {a : AVal} (h : isP (ren n m a) = true) : isP a = true := by
  cases a with
  | ptr k off => rfl
  | dat d => simpa [ren] using h
  | win k s off len => simp only [ren] at h; split at h <;> simp [isP] at h
  | map k => simp only [ren] at h; split at h <;> simp [isP] at h
  | _ => simp [ren, isP] at h
theorem isS_ren {n m : Name} {a : AVal} (h : isS (ren n m a) = true) : isS a = true := by
  cases a with
  | ptr k off => simp only [ren] at h; split at h <;> simp [isS] at h
  | win k s off len => simp only [ren] at h; split at h <;> simp [isS] at h
  | map k => simp only [ren] at h; split at h <;> simp [isS] at h
  | own es' => rfl
  | dat d => simpa [ren] using h
  | _ => simp [ren, isS] at h
theorem bldSh_ren {n m : Name} {cs : List AVal} (h : bldSh (renL n m cs) = true) : bldSh cs = true := by
  obtain ⟨p, q, e, hp, hq⟩ := bldSh_iff.1 h
  match cs with
  | [] => simp [renL] at e
  | [a] => simp [renL] at e
  | [a, b] =>
    simp only [renL, List.cons.injEq, and_true] at e
    obtain ⟨rfl, rfl⟩ := e
    exact bldSh_iff.2 ⟨a, b, rfl, isP_ren hp, isS_ren hq⟩
  | _ :: _ :: _ :: _ => simp [renL] at e

theorem RepObjs.mapO {f : List AVal → List AVal} (hsh : ∀ cs, bldSh (f cs) = true → bldSh cs = true) (hpad : ∀ cs k, f (cs ++ List.replicate k .undef) = f cs ++ List.replicate k .undef) (hf : ∀ cs vs bs, RepVs w R N cs vs bs → RepVs w R N' (f cs) vs bs) (hN : ∀ m b, N m = some b → N' m = some b) :
    ∀ {os : List (Name × AObj)} {bs : List Nat}, RepObjs w R N os bs → RepObjs w R N' (Tp.mapO f os) bs
  | [], _, h => h
  | (_, .cells _) :: _, _, ⟨b, b1, b2, e, hn, ⟨vs, el, sp, hb, hr, hR⟩, h2⟩ => ⟨b, b1, b2, e, hN _ _ hn, ⟨vs, el, sp, hb, by rw [← hpad]; exact hf _ _ _ hr, hR.1, fun h => hR.2 (hsh _ h)⟩, RepObjs.mapO hsh hpad hf hN h2⟩
  | (_, .map _) :: _, _, ⟨b, b1, b2, e, hn, h1, h2⟩ => ⟨b, b1, b2, e, hN _ _ hn, h1, RepObjs.mapO hsh hpad hf hN h2⟩

/-! #### Frozen -/
mutual
theorem frz_rep {n : Name} {ds : List Dat} {b : Nat} (hn : N n = some b) (hat : RepAt w R b 0 ds) : ∀ {a : AVal} {v : Value} {bs : List Nat}, RepV w R N a v bs → RepV w R N (frz n ds a) v bs
  | .dat _, _, _, h => by simp only [frz]; exact h
  | .own _, _, _, h => by simp only [frz]; exact h
  | .ref _, _, _, h => by simp only [frz]; exact h
  | .ptr m off, _, _, h => by
    simp only [frz]
    split
    · rename_i hm
      subst hm
      simp only [RepV] at h ⊢
      obtain ⟨h1, b', h2, h3⟩ := h
      rw [hn] at h2
      simp at h2
      subst h2
      exact ⟨h1, b, off, h3, by simpa using repAt_drop off hat⟩
    · exact h
  | .map _, _, _, h => by simp only [frz]; exact h
  | .win m s off len, _, _, h => by
    simp only [frz]
    split
    · simp only [RepV] at h ⊢; exact h.1
    · exact h
  | .fn _ x y, _, _, h => by
    simp only [RepV, frz] at h ⊢
    obtain ⟨h1, vs, us, e, h2, h3⟩ := h
    exact ⟨h1, vs, us, e, frzL_rep hn hat (as := x) h2, frzL_rep hn hat (as := y) h3⟩
  | .agg cs, _, _, h => by simp only [RepV, frz] at h ⊢; obtain ⟨vs, e, h⟩ := h; exact ⟨vs, e, frzL_rep hn hat (as := cs) h⟩
  | .tup cs, _, _, h => by simp only [RepV, frz] at h ⊢; obtain ⟨vs, e, h⟩ := h; exact ⟨vs, e, frzL_rep hn hat (as := cs) h⟩
  | .undef, _, _, h => by simp only [frz]; exact h
theorem frzL_rep {n : Name} {ds : List Dat} {b : Nat} (hn : N n = some b) (hat : RepAt w R b 0 ds) : ∀ {as : List AVal} {vs : List Value} {bs : List Nat}, RepVs w R N as vs bs → RepVs w R N (frzL n ds as) vs bs
  | [], _, _, h => by simp only [frzL]; exact h
  | a :: as, _, _, h => by
    simp only [RepVs, frzL] at h ⊢
    obtain ⟨v, vs', b1, b2, e1, e2, h1, h2⟩ := h
    exact ⟨v, vs', b1, b2, e1, e2, frz_rep hn hat (a := a) h1, frzL_rep hn hat (as := as) h2⟩
end

mutual
theorem ren_rep {n m : Name} {b : Nat} (hn : N n = some b) (hm : N m = some b) : ∀ {a : AVal} {v : Value} {bs : List Nat}, RepV w R N a v bs → RepV w R N (ren n m a) v bs
  | .dat _, _, _, h => by simp only [ren]; exact h
  | .own _, _, _, h => by simp only [ren]; exact h
  | .ref _, _, _, h => by simp only [ren]; exact h
  | .ptr k off, _, _, h => by
    simp only [ren]
    split
    · rename_i hk
      subst hk
      simp only [RepV] at h ⊢
      obtain ⟨h1, b', h2, h3⟩ := h
      rw [hn] at h2
      simp at h2
      subst h2
      exact ⟨h1, b, hm, h3⟩
    · exact h
  | .map k, _, _, h => by
    simp only [ren]
    split
    · rename_i hk
      subst hk
      simp only [RepV] at h ⊢
      obtain ⟨h1, b', h2, h3⟩ := h
      rw [hn] at h2
      simp at h2
      subst h2
      exact ⟨h1, b, hm, h3⟩
    · exact h
  | .win k _ _ _, _, _, h => by
    simp only [ren]
    split
    · rename_i hk
      subst hk
      simp only [RepV] at h ⊢
      obtain ⟨h1, b', cap, h2, h3⟩ := h
      rw [hn] at h2
      simp at h2
      subst h2
      exact ⟨h1, b, cap, hm, h3⟩
    · exact h
  | .fn _ x y, _, _, h => by
    simp only [RepV, ren] at h ⊢
    obtain ⟨h1, vs, us, e, h2, h3⟩ := h
    exact ⟨h1, vs, us, e, renL_rep hn hm (as := x) h2, renL_rep hn hm (as := y) h3⟩
  | .agg cs, _, _, h => by simp only [RepV, ren] at h ⊢; obtain ⟨vs, e, h⟩ := h; exact ⟨vs, e, renL_rep hn hm (as := cs) h⟩
  | .tup cs, _, _, h => by simp only [RepV, ren] at h ⊢; obtain ⟨vs, e, h⟩ := h; exact ⟨vs, e, renL_rep hn hm (as := cs) h⟩
  | .undef, _, _, h => by simp only [ren]; exact h
theorem renL_rep {n m : Name} {b : Nat} (hn : N n = some b) (hm : N m = some b) : ∀ {as : List AVal} {vs : List Value} {bs : List Nat}, RepVs w R N as vs bs → RepVs w R N (renL n m as) vs bs
  | [], _, _, h => by simp only [renL]; exact h
  | a :: as, _, _, h => by
    simp only [RepVs, renL] at h ⊢
    obtain ⟨v, vs', b1, b2, e1, e2, h1, h2⟩ := h
    exact ⟨v, vs', b1, b2, e1, e2, ren_rep hn hm (a := a) h1, renL_rep hn hm (as := as) h2⟩
end

/-- The cells of an object without ownership, as immutable cells. -/
theorem repAt_of_cells {b : Nat} {vs : Array Value} {el : TypeId} (hb : w.heap[b]? = some (.cells vs el (0, 0))) {R' : Own} (hR : ∀ x, ¬ R' b x) : ∀ {ds : List Dat} {us : List Value} (k : Nat), ∀ (rest : List Value), RepCs w R' us ds → vs.toList.drop k = us ++ rest → RepAt w R' b k ds
  | [], _, _, _, _, _ => trivial
  | d :: ds, [], _, _, h, _ => h.elim
  | d :: ds, u :: us, k, rest, h, e => by
    have hk : vs.toList[k]? = some u := by
      have := List.getElem?_drop (xs := vs.toList) (i := k) (j := 0)
      rw [e] at this
      simpa using this.symm
    refine ⟨⟨u, ?_, hR k, h.1⟩, repAt_of_cells hb hR (k + 1) rest h.2 ?_⟩
    · rw [cell_of_row w b k vs el (0, 0) hb]; simpa using hk
    · rw [← List.drop_drop, e]; rfl

theorem prep1_sound {fz : Bool} {n : Name} {s s' : AState} {args args' : List AVal} (h : prep1 fz n s args = some (s', args')) {tmps : List Value} {cargs : List Value} {bsV bsT bsL bsH bsF : List Nat}
    (hr : RelB G w R N tmps s (.tuple cargs.toArray) (.tup args) bsV bsT bsL bsH bsF) :
    ∃ R' N' bsV' bsT' bsL' bsH', RelB G w R' N' tmps s' (.tuple cargs.toArray) (.tup args') bsV' bsT' bsL' bsH' bsF ∧ Keep w R w R' bsF ∧ (∀ o b, N (.out o) = some b → N' (.out o) = some b) ∧ (∀ i, N' (.loc i) = N (.loc i)) := by
  have hv := hr.val
  simp only [RepV] at hv
  obtain ⟨cs0, ec, hargs⟩ := hv
  simp at ec
  subst ec
  unfold prep1 at h
  split at h
  · rename_i i cs hg
    obtain ⟨pre, b, b1, post, bsD, e1, hN, hobj, hdel, hsub⟩ := RepObjs.remove hr.locs hg
    have hnd := hr.nodup
    subst e1
    split at h
    · -- frozen
      · rename_i ds hds0
        have hds : datCells (unOwnL cs) = some ds := by
          unfold frzCells at hds0
          split at hds0
          · exact hds0
          · simp at hds0
        simp at h
        obtain ⟨rfl, rfl⟩ := h
        obtain ⟨vs, el, sp, hblk, hrr, hR⟩ := hobj
        obtain ⟨us1, us2, c1, c2, hvs, hb12, hrr1, _⟩ := repVs_split hrr
        let R' : Own := fun c x => R c x ∧ c ≠ b
        have hst : Step w R w R' := ⟨rfl, rfl, rfl, Nat.le_refl _, fun c _ hc => ⟨rfl, fun x h' => hc x h'.1⟩, fun c x _ hc => ⟨fun h' => hc h'.1, rfl⟩, fun _ _ => rfl⟩
        have hk : ∀ bs : List Nat, b ∉ bs → Keep w R w R' bs := fun bs hb => ⟨hst, fun c hc _ => ⟨rfl, fun x hx => ⟨hx, fun e => hb (e ▸ hc)⟩⟩⟩
        have hbn : b ∉ bsV ∧ b ∉ bsT ∧ b ∉ pre ++ post ∧ b ∉ bsH ∧ b ∉ bsF := by
          have hc : (bsV ++ (bsT ++ ((pre ++ (b :: b1) ++ post) ++ (bsH ++ bsF)))).Perm (b :: (bsV ++ (bsT ++ (pre ++ post ++ (b1 ++ (bsH ++ bsF)))))) := by
            rw [List.perm_iff_count]; intro q; simp only [List.count_append, List.count_cons]; omega
          have := (List.nodup_cons.1 (hc.nodup_iff.1 hnd)).1
          simp at this ⊢
          simp [this]
        obtain ⟨n1, n2, n3, n4, n5⟩ := hbn
        have hcs := (datCells_rep (unOwnL_rep hrr1) hds).1
        have hat : RepAt w R' b 0 ds := repAt_of_cells hblk (fun x h' => h'.2 rfl) 0 us2 (hcs.step hst) (by simpa using hvs)
        refine ⟨R', N, bsV, bsT, bsD, bsH, ⟨?_, ?_, ?_, ?_, ?_, hr.next, fun g cs hg => (hr.glob g cs hg).step hst, hr.frame⟩, hk bsF n5, fun _ _ h => h, fun _ => rfl⟩
        · simp only [RepV]; exact ⟨cargs, rfl, frzL_rep hN hat (hargs.keep (hk bsV n1))⟩
        · exact frzL_rep hN hat (hr.tmps.keep (hk bsT n2))
        · exact RepObjs.mapO (fun _ => bldSh_frz) (frzL_pad _ _) (fun cs vs bs hr => frzL_rep hN hat hr) (fun _ _ h => h) (hdel.keep (hk bsD (fun hc => n3 (hsub.subset hc))))
        · exact hr.heap.keep (hk bsH n4)
        · refine List.Nodup.sublist ?_ hnd
          refine List.Sublist.append (.refl _) (List.Sublist.append (.refl _) (List.Sublist.append (hsub.trans ?_) (.refl _)))
          rw [List.append_assoc]
          exact List.Sublist.append (.refl _) (List.sublist_append_right _ _)
    · -- handed over
      split at h
      · rename_i hno
        simp at h
        obtain ⟨rfl, rfl⟩ := h
        have hfresh : N (.out s.next) = none := by
          cases hn : N (.out s.next) with
          | none => rfl
          | some c => have := hr.next _ _ hn; omega
        let N' : Name → Option Nat := setN N (.out s.next) b
        have hext : ∀ m c, N m = some c → N' m = some c := fun m c hm => by
          simp only [N', setN]; split
          · rename_i e; rw [e, hfresh] at hm; simp at hm
          · exact hm
        have hn1 : N' (.loc i) = some b := hext _ _ hN
        have hn2 : N' (.out s.next) = some b := by simp [N', setN]
        have hrl : ∀ cs vs bs, RepVs w R N cs vs bs → RepVs w R N' (renL (.loc i) (.out s.next) cs) vs bs := fun cs vs bs h => renL_rep hn1 hn2 (h.ext hext)
        refine ⟨R, N', bsV, bsT, bsD, b :: (b1 ++ bsH), ⟨?_, hrl _ _ _ hr.tmps, RepObjs.mapO (fun _ => bldSh_ren) (renL_pad _ _) hrl hext hdel, ?_, ?_, ?_, hr.glob, hr.frame⟩, keep_refl _, fun o c h => hext _ _ h, fun i => by simp [N', setN]⟩
        · simp only [RepV]; exact ⟨cargs, rfl, hrl _ _ _ hargs⟩
        · refine ⟨b, b1, bsH, rfl, by simp [outs, N', setN], ?_, hr.heap.ext (fun m c hm => ?_)⟩
          · obtain ⟨vs, el, sp, hblk, hrr, hR⟩ := hobj
            have hrr2 := hrl _ _ _ hrr
            rw [renL_pad] at hrr2
            exact ⟨vs, el, sp, hblk, hrr2.reN (by rw [noLocL_pad]; exact hno) (fun _ => rfl), hR.1, fun hb => hR.2 (bldSh_ren hb)⟩
          · cases m with
            | loc j => simp [outs] at hm
            | out k => exact hext _ _ hm
        · have hp : (bsV ++ (bsT ++ ((pre ++ post) ++ ((b :: (b1 ++ bsH)) ++ bsF)))).Perm (bsV ++ (bsT ++ ((pre ++ (b :: b1) ++ post) ++ (bsH ++ bsF)))) := by
            rw [List.perm_iff_count]; intro q; simp only [List.count_append, List.count_cons]; omega
          refine List.Nodup.sublist ?_ (hp.nodup_iff.2 hnd)
          exact List.Sublist.append (.refl _) (List.Sublist.append (.refl _) (List.Sublist.append hsub (.refl _)))
        · intro o c hc
          simp only [N', setN] at hc
          split at hc
          · rename_i e; simp at e; subst e; simp
          · have := hr.next o c hc; simp; omega
      · simp at h
  · rename_i i es hg
    obtain ⟨pre, b, b1, post, bsD, e1, hN, hobj, hdel, hsub⟩ := RepObjs.remove hr.locs hg
    have hnd := hr.nodup
    subst e1
    simp at h
    obtain ⟨rfl, rfl⟩ := h
    have hfresh : N (.out s.next) = none := by
      cases hn : N (.out s.next) with
      | none => rfl
      | some c => have := hr.next _ _ hn; omega
    let N' : Name → Option Nat := setN N (.out s.next) b
    have hext : ∀ m c, N m = some c → N' m = some c := fun m c hm => by
      simp only [N', setN]; split
      · rename_i e; rw [e, hfresh] at hm; simp at hm
      · exact hm
    have hn1 : N' (.loc i) = some b := hext _ _ hN
    have hn2 : N' (.out s.next) = some b := by simp [N', setN]
    have hrl : ∀ cs vs bs, RepVs w R N cs vs bs → RepVs w R N' (renL (.loc i) (.out s.next) cs) vs bs := fun cs vs bs h => renL_rep hn1 hn2 (h.ext hext)
    refine ⟨R, N', bsV, bsT, bsD, b :: (b1 ++ bsH), ⟨?_, hrl _ _ _ hr.tmps, RepObjs.mapO (fun _ => bldSh_ren) (renL_pad _ _) hrl hext hdel, ?_, ?_, ?_, hr.glob, hr.frame⟩, keep_refl _, fun o c h => hext _ _ h, fun i => by simp [N', setN]⟩
    · simp only [RepV]; exact ⟨cargs, rfl, hrl _ _ _ hargs⟩
    · refine ⟨b, b1, bsH, rfl, by simp [outs, N', setN], hobj, hr.heap.ext (fun m c hm => ?_)⟩
      cases m with
      | loc j => simp [outs] at hm
      | out k => exact hext _ _ hm
    · have hp : (bsV ++ (bsT ++ ((pre ++ post) ++ ((b :: (b1 ++ bsH)) ++ bsF)))).Perm (bsV ++ (bsT ++ ((pre ++ (b :: b1) ++ post) ++ (bsH ++ bsF)))) := by
        rw [List.perm_iff_count]; intro q; simp only [List.count_append, List.count_cons]; omega
      refine List.Nodup.sublist ?_ (hp.nodup_iff.2 hnd)
      exact List.Sublist.append (.refl _) (List.Sublist.append (.refl _) (List.Sublist.append hsub (.refl _)))
    · intro o c hc
      simp only [N', setN] at hc
      split at hc
      · rename_i e; simp at e; subst e; simp
      · have := hr.next o c hc; simp; omega
  · simp at h
end
end Go.Tp
