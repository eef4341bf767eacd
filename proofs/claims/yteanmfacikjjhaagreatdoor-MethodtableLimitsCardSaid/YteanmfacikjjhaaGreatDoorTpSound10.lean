/- The generic layer: the state of a frame. -/
import Derived.Test.YteanmfacikjjhaaGreatDoorTpSound9
import Derived.Test.YteanmfacikjjhaaGreatDoorTpStep
namespace Go.Tp

section
variable {P : Program} {E : TEnv} {G : Globs} {w : World} {R : Own} {N N' : Name → Option Nat}

/-! #### Cells that are not known -/
theorem noLocL_append : ∀ (l m : List AVal), noLocL (l ++ m) = (noLocL l && noLocL m)
  | [], m => by simp [noLocL]
  | a :: l, m => by simp [noLocL, noLocL_append l m, Bool.and_assoc]
theorem noLocL_undef : ∀ k : Nat, noLocL (List.replicate k .undef) = true
  | 0 => rfl
  | k + 1 => by simp [List.replicate_succ, noLocL, noLoc, noLocL_undef k]
theorem noLocL_pad (cs : List AVal) (k : Nat) : noLocL (cs ++ List.replicate k .undef) = noLocL cs := by rw [noLocL_append, noLocL_undef, Bool.and_true]
theorem mentionsL_append (n : Name) : ∀ (l m : List AVal), mentionsL n (l ++ m) = (mentionsL n l || mentionsL n m)
  | [], m => by simp [mentionsL]
  | a :: l, m => by simp [mentionsL, mentionsL_append n l m, Bool.or_assoc]
theorem mentionsL_undef (n : Name) : ∀ k : Nat, mentionsL n (List.replicate k .undef) = false
  | 0 => rfl
  | k + 1 => by simp [List.replicate_succ, mentionsL, mentions, mentionsL_undef n k]
theorem mentionsL_pad (n : Name) (cs : List AVal) (k : Nat) : mentionsL n (cs ++ List.replicate k .undef) = mentionsL n cs := by rw [mentionsL_append, mentionsL_undef, Bool.or_false]
theorem bldSh_purge {n : Name} {cs : List AVal} (h : bldSh (purgeL n cs) = true) : bldSh cs = true := by
  obtain ⟨p, q, e, hp, hq⟩ := bldSh_iff.1 h
  match cs with
  | [] => simp [purgeL] at e
  | [a] => simp [purgeL] at e
  | [a, b] =>
    simp only [purgeL, List.cons.injEq, and_true] at e
    obtain ⟨e1, e2⟩ := e
    refine bldSh_iff.2 ⟨a, b, rfl, ?_, ?_⟩
    · split at e1
      · rw [← e1] at hp; simp [isP] at hp
      · rw [e1]; exact hp
    · split at e2
      · rw [← e2] at hq; simp [isS] at hq
      · rw [e2]; exact hq
  | _ :: _ :: _ :: _ => simp [purgeL] at e

theorem purgeL_append (n : Name) : ∀ (l m : List AVal), purgeL n (l ++ m) = purgeL n l ++ purgeL n m
  | [], m => by simp [purgeL]
  | a :: l, m => by simp [purgeL, purgeL_append n l m]
theorem purgeL_undef (n : Name) : ∀ k : Nat, purgeL n (List.replicate k .undef) = List.replicate k .undef
  | 0 => rfl
  | k + 1 => by simp [List.replicate_succ, purgeL, mentions, purgeL_undef n k]
theorem purgeL_pad (n : Name) (cs : List AVal) (k : Nat) : purgeL n (cs ++ List.replicate k .undef) = purgeL n cs ++ List.replicate k .undef := by rw [purgeL_append, purgeL_undef]

theorem repVs_split : ∀ {as cs : List AVal} {vs : List Value} {bs : List Nat}, RepVs w R N (as ++ cs) vs bs → ∃ us1 us2 b1 b2, vs = us1 ++ us2 ∧ bs = b1 ++ b2 ∧ RepVs w R N as us1 b1 ∧ RepVs w R N cs us2 b2
  | [], _, vs, bs, h => ⟨[], vs, [], bs, rfl, rfl, repVs_nil, h⟩
  | a :: as, cs, _, _, h => by
    obtain ⟨v, vs', b1, b2, rfl, rfl, h1, h2⟩ := repVs_cons_inv (as := as ++ cs) h
    obtain ⟨us1, us2, c1, c2, rfl, rfl, h3, h4⟩ := repVs_split h2
    exact ⟨v :: us1, us2, b1 ++ c1, c2, rfl, by simp, repVs_cons h1 h3, h4⟩

/-! #### What is owned exists -/
theorem RepOwn.lt {v : Value} {es : List Dat} {bs : List Nat} (h : RepOwn w R v es bs) : ∀ b ∈ bs, b < w.heap.size := by
  rcases repOwn_inv h with ⟨_, _, rfl⟩ | ⟨b, cap, s, vs, t, _, rfl, hb, _⟩
  · simp
  · intro c hc; simp at hc; subst hc; exact lt_of_heap hb

mutual
theorem RepV.lt : ∀ {a : AVal} {v : Value} {bs : List Nat}, RepV w R N a v bs → ∀ b ∈ bs, b < w.heap.size
  | .dat _, _, _, h => by simp only [RepV] at h; obtain ⟨rfl, _⟩ := h; simp
  | .own _, _, _, h => by simp only [RepV] at h; exact h.lt
  | .ref _, _, _, h => by simp only [RepV] at h; obtain ⟨rfl, _⟩ := h; simp
  | .ptr _ _, _, _, h => by simp only [RepV] at h; obtain ⟨rfl, _⟩ := h; simp
  | .map _, _, _, h => by simp only [RepV] at h; obtain ⟨rfl, _⟩ := h; simp
  | .win _ _ _ _, _, _, h => by simp only [RepV] at h; obtain ⟨rfl, _⟩ := h; simp
  | .fn _ _ _, _, _, h => by simp only [RepV] at h; obtain ⟨rfl, _⟩ := h; simp
  | .agg cs, _, _, h => by simp only [RepV] at h; obtain ⟨vs, _, h⟩ := h; exact RepVs.lt (as := cs) h
  | .tup cs, _, _, h => by simp only [RepV] at h; obtain ⟨vs, _, h⟩ := h; exact RepVs.lt (as := cs) h
  | .undef, _, _, h => by simp only [RepV] at h; subst h; simp
theorem RepVs.lt : ∀ {as : List AVal} {vs : List Value} {bs : List Nat}, RepVs w R N as vs bs → ∀ b ∈ bs, b < w.heap.size
  | [], _, _, h => by simp only [RepVs] at h; obtain ⟨_, rfl⟩ := h; simp
  | a :: as, _, _, h => by
    simp only [RepVs] at h
    obtain ⟨v, vs', b1, b2, _, rfl, h1, h2⟩ := h
    intro b hb
    rcases List.mem_append.1 hb with hb | hb
    · exact RepV.lt (a := a) h1 b hb
    · exact RepVs.lt (as := as) h2 b hb
end

theorem RepObj.lt {o : AObj} {b : Nat} {bs : List Nat} (h : RepObj w R N o b bs) : b < w.heap.size ∧ ∀ c ∈ bs, c < w.heap.size := by
  cases o with
  | cells cs => obtain ⟨vs, e, sp, hb, hr, _⟩ := h; exact ⟨lt_of_heap hb, hr.lt⟩
  | map es => obtain ⟨rfl, _, ents, cl, hb, _⟩ := h; exact ⟨lt_of_heap hb, by simp⟩

theorem RepObjs.lt : ∀ {os : List (Name × AObj)} {bs : List Nat}, RepObjs w R N os bs → ∀ b ∈ bs, b < w.heap.size
  | [], _, h => by simp [RepObjs] at h; subst h; simp
  | (_, _) :: _, _, ⟨b, b1, b2, e, _, h1, h2⟩ => by
    subst e
    intro c hc
    obtain ⟨g1, g2⟩ := h1.lt
    simp at hc
    rcases hc with rfl | hc | hc
    · exact g1
    · exact g2 c hc
    · exact RepObjs.lt h2 c hc

/-! #### Names -/
mutual
theorem RepV.reN : ∀ {a : AVal} {v : Value} {bs : List Nat}, RepV w R N a v bs → noLoc a = true → (∀ o, N' (.out o) = N (.out o)) → RepV w R N' a v bs
  | .dat _, _, _, h, _, _ => by simp only [RepV] at h ⊢; exact h
  | .own _, _, _, h, _, _ => by simp only [RepV] at h ⊢; exact h
  | .ref _, _, _, h, _, _ => by simp only [RepV] at h ⊢; exact h
  | .ptr (.loc _) _, _, _, _, hn, _ => by simp [noLoc] at hn
  | .ptr (.out _) _, _, _, h, _, hN => by simp only [RepV, hN] at h ⊢; exact h
  | .map (.loc _), _, _, _, hn, _ => by simp [noLoc] at hn
  | .map (.out _), _, _, h, _, hN => by simp only [RepV, hN] at h ⊢; exact h
  | .win (.loc _) _ _ _, _, _, _, hn, _ => by simp [noLoc] at hn
  | .win (.out _) _ _ _, _, _, h, _, hN => by simp only [RepV, hN] at h ⊢; exact h
  | .fn _ x y, _, _, h, hn, hN => by
    simp only [noLoc, Bool.and_eq_true] at hn
    simp only [RepV] at h ⊢
    obtain ⟨h1, vs, us, e, h2, h3⟩ := h
    exact ⟨h1, vs, us, e, RepVs.reN (as := x) h2 hn.1 hN, RepVs.reN (as := y) h3 hn.2 hN⟩
  | .agg cs, _, _, h, hn, hN => by
    simp only [noLoc] at hn
    simp only [RepV] at h ⊢
    obtain ⟨vs, e, h⟩ := h
    exact ⟨vs, e, RepVs.reN (as := cs) h hn hN⟩
  | .tup cs, _, _, h, hn, hN => by
    simp only [noLoc] at hn
    simp only [RepV] at h ⊢
    obtain ⟨vs, e, h⟩ := h
    exact ⟨vs, e, RepVs.reN (as := cs) h hn hN⟩
  | .undef, _, _, h, _, _ => by simp only [RepV] at h ⊢; exact h
theorem RepVs.reN : ∀ {as : List AVal} {vs : List Value} {bs : List Nat}, RepVs w R N as vs bs → noLocL as = true → (∀ o, N' (.out o) = N (.out o)) → RepVs w R N' as vs bs
  | [], _, _, h, _, _ => by simp only [RepVs] at h ⊢; exact h
  | a :: as, _, _, h, hn, hN => by
    simp only [noLocL, Bool.and_eq_true] at hn
    simp only [RepVs] at h ⊢
    obtain ⟨v, vs', b1, b2, e1, e2, h1, h2⟩ := h
    exact ⟨v, vs', b1, b2, e1, e2, RepV.reN (a := a) h1 hn.1 hN, RepVs.reN (as := as) h2 hn.2 hN⟩
end

mutual
theorem RepV.noLoc_of_outs : ∀ {a : AVal} {v : Value} {bs : List Nat}, RepV w R (outs N) a v bs → noLoc a = true
  | .dat _, _, _, _ => by simp [noLoc]
  | .own _, _, _, _ => by simp [noLoc]
  | .ref _, _, _, _ => by simp [noLoc]
  | .ptr (.loc _) _, _, _, h => by simp [RepV, Tp.outs] at h
  | .ptr (.out _) _, _, _, _ => by simp [noLoc]
  | .map (.loc _), _, _, h => by simp [RepV, Tp.outs] at h
  | .map (.out _), _, _, _ => by simp [noLoc]
  | .win (.loc _) _ _ _, _, _, h => by simp [RepV, Tp.outs] at h
  | .win (.out _) _ _ _, _, _, _ => by simp [noLoc]
  | .fn _ x y, _, _, h => by
    simp only [RepV] at h
    obtain ⟨h1, vs, us, e, h2, h3⟩ := h
    simp only [noLoc, Bool.and_eq_true]
    exact ⟨RepVs.noLoc_of_outs (as := x) h2, RepVs.noLoc_of_outs (as := y) h3⟩
  | .agg cs, _, _, h => by
    simp only [RepV] at h
    obtain ⟨vs, e, h⟩ := h
    simpa only [noLoc] using RepVs.noLoc_of_outs (as := cs) h
  | .tup cs, _, _, h => by
    simp only [RepV] at h
    obtain ⟨vs, e, h⟩ := h
    simpa only [noLoc] using RepVs.noLoc_of_outs (as := cs) h
  | .undef, _, _, _ => by simp [noLoc]
theorem RepVs.noLoc_of_outs : ∀ {as : List AVal} {vs : List Value} {bs : List Nat}, RepVs w R (outs N) as vs bs → noLocL as = true
  | [], _, _, _ => by simp [noLocL]
  | a :: as, _, _, h => by
    simp only [RepVs] at h
    obtain ⟨v, vs', b1, b2, e1, e2, h1, h2⟩ := h
    simp only [noLocL, Bool.and_eq_true]
    exact ⟨RepV.noLoc_of_outs (a := a) h1, RepVs.noLoc_of_outs (as := as) h2⟩
end

theorem RepV.of_outs {a : AVal} {v : Value} {bs : List Nat} (h : RepV w R (outs N) a v bs) : RepV w R N a v bs := h.reN h.noLoc_of_outs (fun _ => rfl)
theorem RepVs.of_outs {a : List AVal} {v : List Value} {bs : List Nat} (h : RepVs w R (outs N) a v bs) : RepVs w R N a v bs := h.reN h.noLoc_of_outs (fun _ => rfl)
theorem RepV.to_outs {a : AVal} {v : Value} {bs : List Nat} (h : RepV w R N a v bs) (hn : noLoc a = true) : RepV w R (outs N) a v bs := h.reN hn (fun _ => rfl)

theorem RepObj.reN {o : AObj} {b : Nat} {bs : List Nat} (h : RepObj w R N o b bs) (hn : noLocO o = true) (hN : ∀ o, N' (.out o) = N (.out o)) : RepObj w R N' o b bs := by
  cases o with
  | cells cs => obtain ⟨vs, e, sp, hb, hr, hR⟩ := h; exact ⟨vs, e, sp, hb, RepVs.reN hr (by rw [noLocL_pad]; exact hn) hN, hR⟩
  | map es => exact h

theorem RepObjs.outs_eq : ∀ {os : List (Name × AObj)} {bs : List Nat}, RepObjs w R (Tp.outs N) os bs → (∀ o, N' (.out o) = N (.out o)) → RepObjs w R (Tp.outs N') os bs
  | [], _, h, _ => h
  | (n, o) :: os, _, ⟨b, b1, b2, e, hn, h1, h2⟩, hN => by
    refine ⟨b, b1, b2, e, ?_, ?_, RepObjs.outs_eq h2 hN⟩
    · cases n with
      | loc i => simp [Tp.outs] at hn
      | out k => simpa [Tp.outs, hN] using hn
    · cases o with
      | cells cs =>
        obtain ⟨vs, e, sp, hb, hr, hR⟩ := h1
        exact ⟨vs, e, sp, hb, RepVs.reN hr hr.noLoc_of_outs (by intro o; simp [Tp.outs, hN]), hR⟩
      | map es => exact h1

mutual
theorem RepV.other {n : Name} : ∀ {a : AVal} {v : Value} {bs : List Nat}, RepV w R N a v bs → mentions n a = false → (∀ m, m ≠ n → N' m = N m) → RepV w R N' a v bs
  | .dat _, _, _, h, _, _ => by simp only [RepV] at h ⊢; exact h
  | .own _, _, _, h, _, _ => by simp only [RepV] at h ⊢; exact h
  | .ref _, _, _, h, _, _ => by simp only [RepV] at h ⊢; exact h
  | .ptr m _, _, _, h, hn, hN => by
    simp only [mentions, decide_eq_false_iff_not] at hn
    simp only [RepV, hN m hn] at h ⊢; exact h
  | .map m, _, _, h, hn, hN => by
    simp only [mentions, decide_eq_false_iff_not] at hn
    simp only [RepV, hN m hn] at h ⊢; exact h
  | .win m _ _ _, _, _, h, hn, hN => by
    simp only [mentions, decide_eq_false_iff_not] at hn
    simp only [RepV, hN m hn] at h ⊢; exact h
  | .fn _ x y, _, _, h, hn, hN => by
    simp only [mentions, Bool.or_eq_false_iff] at hn
    simp only [RepV] at h ⊢
    obtain ⟨h1, vs, us, e, h2, h3⟩ := h
    exact ⟨h1, vs, us, e, RepVs.other (as := x) h2 hn.1 hN, RepVs.other (as := y) h3 hn.2 hN⟩
  | .agg cs, _, _, h, hn, hN => by
    simp only [mentions] at hn
    simp only [RepV] at h ⊢
    obtain ⟨vs, e, h⟩ := h
    exact ⟨vs, e, RepVs.other (as := cs) h hn hN⟩
  | .tup cs, _, _, h, hn, hN => by
    simp only [mentions] at hn
    simp only [RepV] at h ⊢
    obtain ⟨vs, e, h⟩ := h
    exact ⟨vs, e, RepVs.other (as := cs) h hn hN⟩
  | .undef, _, _, h, _, _ => by simp only [RepV] at h ⊢; exact h
theorem RepVs.other {n : Name} : ∀ {as : List AVal} {vs : List Value} {bs : List Nat}, RepVs w R N as vs bs → mentionsL n as = false → (∀ m, m ≠ n → N' m = N m) → RepVs w R N' as vs bs
  | [], _, _, h, _, _ => by simp only [RepVs] at h ⊢; exact h
  | a :: as, _, _, h, hn, hN => by
    simp only [mentionsL, Bool.or_eq_false_iff] at hn
    simp only [RepVs] at h ⊢
    obtain ⟨v, vs', b1, b2, e1, e2, h1, h2⟩ := h
    exact ⟨v, vs', b1, b2, e1, e2, RepV.other (a := a) h1 hn.1 hN, RepVs.other (as := as) h2 hn.2 hN⟩
end

theorem RepVs.purge {n : Name} (hN : ∀ m, m ≠ n → N' m = N m) : ∀ {as : List AVal} {vs : List Value} {bs : List Nat}, RepVs w R N as vs bs → ∃ bs', RepVs w R N' (purgeL n as) vs bs' ∧ bs'.Sublist bs
  | [], _, _, h => by obtain ⟨rfl, rfl⟩ := repVs_nil_inv h; exact ⟨[], repVs_nil, .refl _⟩
  | a :: as, _, _, h => by
    obtain ⟨v, vs', b1, b2, rfl, rfl, h1, h2⟩ := repVs_cons_inv h
    obtain ⟨bs', g1, g2⟩ := RepVs.purge hN h2
    unfold purgeL
    split
    · exact ⟨[] ++ bs', repVs_cons (repV_undef v) g1, by simpa using g2.trans (List.sublist_append_right b1 b2)⟩
    · rename_i hm
      exact ⟨b1 ++ bs', repVs_cons (h1.other (by simpa using hm) hN) g1, List.Sublist.append (.refl _) g2⟩

theorem RepObjs.purge {n : Name} (hN : ∀ m, m ≠ n → N' m = N m) : ∀ {os : List (Name × AObj)} {bs : List Nat}, RepObjs w R N os bs → ∃ bs', RepObjs w R N' (purgeO n os) bs' ∧ bs'.Sublist bs
  | [], _, h => ⟨_, h, .refl _⟩
  | (m, .cells cs) :: os, _, ⟨b, b1, b2, e, hn, h1, h2⟩ => by
    subst e
    obtain ⟨bs', g1, g2⟩ := RepObjs.purge hN h2
    unfold purgeO
    split
    · exact ⟨bs', g1, g2.trans ((List.sublist_append_right b1 b2).cons _)⟩
    · rename_i hm
      obtain ⟨vs, el, sp, hb, hr, hR⟩ := h1
      obtain ⟨c1, k1, k2⟩ := RepVs.purge hN hr
      rw [purgeL_pad] at k1
      exact ⟨b :: (c1 ++ bs'), ⟨b, c1, bs', rfl, by rw [hN m hm]; exact hn, ⟨vs, el, sp, hb, k1, hR.1, fun h => hR.2 (bldSh_purge h)⟩, g1⟩, (List.Sublist.append k2 g2).cons_cons _⟩
  | (m, .map es) :: os, _, ⟨b, b1, b2, e, hn, h1, h2⟩ => by
    subst e
    obtain ⟨bs', g1, g2⟩ := RepObjs.purge hN h2
    unfold purgeO
    split
    · exact ⟨bs', g1, g2.trans ((List.sublist_append_right b1 b2).cons _)⟩
    · rename_i hm
      exact ⟨b :: (b1 ++ bs'), ⟨b, b1, bs', rfl, by rw [hN m hm]; exact hn, h1, g1⟩, (List.Sublist.append (.refl _) g2).cons_cons _⟩
end
end Go.Tp
