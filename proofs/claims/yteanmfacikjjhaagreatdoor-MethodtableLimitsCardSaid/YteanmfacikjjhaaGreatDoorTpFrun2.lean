/- The generic layer: code run to its end on frames whose slots are short lists. -/
import Derived.Test.YteanmfacikjjhaaGreatDoorTpFrun1
import Derived.Test.YteanmfacikjjhaaGreatDoorTpFrz
import Derived.Scope
namespace Go.Tp

/-! ### Slots that are not read any more -/
noncomputable def pruneS (l : Sl) : Nat → Sl :=
  @List.rec (Nat × AVal) (fun _ => Nat → Sl) (fun _ => []) (fun p _ ih m => @Bool.rec (fun _ => Sl) (p :: ih (Nat.xor m (Nat.pow 2 p.1))) (ih m) (Nat.beq (Nat.land 1 (Nat.shiftRight m p.1)) 0)) l

theorem bitB (m d : Nat) : Nat.beq (Nat.land 1 (Nat.shiftRight m d)) 0 = !(m.testBit d) := by
  have e : m.testBit d = (Nat.land 1 (Nat.shiftRight m d) != 0) := rfl
  rw [e]
  generalize Nat.land 1 (Nat.shiftRight m d) = x
  by_cases h : x = 0
  · subst h; rfl
  · have h1 : Nat.beq x 0 = false := by rw [Bool.eq_false_iff]; intro hc; rw [Nat.beq_eq] at hc; exact h hc
    have h2 : (x != 0) = true := by simpa using h
    rw [h1, h2]; rfl

theorem pruneS_cons (d : Nat) (v : AVal) (r : Sl) (m : Nat) : pruneS ((d, v) :: r) m = if m.testBit d = true then (d, v) :: pruneS r (m ^^^ 2 ^ d) else pruneS r m := by
  have e : pruneS ((d, v) :: r) m = @Bool.rec (fun _ => Sl) ((d, v) :: pruneS r (m ^^^ 2 ^ d)) (pruneS r m) (Nat.beq (Nat.land 1 (Nat.shiftRight m d)) 0) := rfl
  rw [e, bitB]
  cases m.testBit d <;> simp

theorem pruneS_off : ∀ (l : Sl) (m t : Nat), m.testBit t = false → getS (pruneS l m) t = .undef
  | [], _, _, _ => rfl
  | (d, v) :: r, m, t, h => by
    rw [pruneS_cons]
    split
    · rename_i hd
      have hne : d ≠ t := fun e => by rw [e, h] at hd; simp at hd
      rw [getS_cons, if_neg hne]
      apply pruneS_off
      rw [Nat.testBit_xor, h, Nat.testBit_two_pow_of_ne hne]; rfl
    · exact pruneS_off r m t h
theorem pruneS_get : ∀ (l : Sl) (m t : Nat), getS (pruneS l m) t = getS l t ∨ getS (pruneS l m) t = .undef
  | [], _, _ => .inl rfl
  | (d, v) :: r, m, t => by
    rw [pruneS_cons, getS_cons]
    split
    · rw [getS_cons]
      split
      · exact .inl rfl
      · exact pruneS_get r _ t
    · rename_i hd
      split
      · rename_i he
        subst he
        exact .inr (pruneS_off r m d (by simpa using hd))
      · exact pruneS_get r m t

theorem mask_rep {w : World} {R : Own} {N : Name → Option Nat} : ∀ {as as' : List AVal} {vs : List Value} {bs : List Nat}, as'.length = as.length → (∀ i : Nat, as'[i]? = as[i]? ∨ as'[i]? = some .undef) → RepVs w R N as vs bs → ∃ bs', RepVs w R N as' vs bs' ∧ bs'.Sublist bs
  | [], [], _, bs, _, _, h => ⟨bs, h, .refl _⟩
  | [], _ :: _, _, _, hl, _, _ => by simp at hl
  | _ :: _, [], _, _, hl, _, _ => by simp at hl
  | a :: as, a' :: as', vs, bs, hl, hi, h => by
    obtain ⟨v, vs', b1, b2, rfl, rfl, h1, h2⟩ := repVs_cons_inv h
    obtain ⟨bs', k1, k2⟩ := mask_rep (as := as) (as' := as') (by simpa using hl) (fun i => by simpa using hi (i + 1)) h2
    rcases hi 0 with h0 | h0
    · simp at h0
      subst h0
      exact ⟨b1 ++ bs', repVs_cons h1 k1, List.Sublist.append (.refl _) k2⟩
    · simp at h0
      subst h0
      exact ⟨[] ++ bs', repVs_cons (repV_undef _) k1, List.Sublist.append (List.nil_sublist _) k2⟩

def fprune (f : FState) (m : Sl → Sl) : FState := match f with | ⟨sl, locs, heap, next⟩ => ⟨m sl, locs, heap, next⟩

theorem RelB.prune {G : Globs} {w : World} {R : Own} {N : Name → Option Nat} {tmps : List Value} {n : Nat} {f : FState} {bsT bsL bsH bsF : List Nat} (h : RelB G w R N tmps (f.toA n) undef .undef [] bsT bsL bsH bsF) (m : Nat) :
    ∃ bsT', RelB G w R N tmps ((fprune f (fun l => pruneS l m)).toA n) undef .undef [] bsT' bsL bsH bsF := by
  obtain ⟨sl, locs, heap, next⟩ := f
  obtain ⟨bsT', k1, k2⟩ := mask_rep (as' := mkS n 0 (pruneS sl m)) (by simp [FState.toA, mkS_length]) (fun i => by
    simp only [FState.toA, mkS_get]
    split
    · rcases pruneS_get sl m (0 + i) with h | h
      · exact .inl (by rw [h])
      · exact .inr (by rw [h])
    · exact .inl rfl) h.tmps
  exact ⟨bsT', repV_undef _, k1, h.locs, h.heap, List.Nodup.sublist (List.Sublist.append (.refl _) (List.Sublist.append k2 (.refl _))) h.nodup, h.next, h.glob, h.frame⟩

/-! ### What a call leaves and nobody names -/
mutual
/-- Names a new object. -/
def newV (k : Nat) : AVal → Bool
  | .ptr (.out o) _ => Nat.ble k o
  | .ptr (.loc _) _ => true
  | .map (.out o) => Nat.ble k o
  | .map (.loc _) => true
  | .win (.out o) _ _ _ => Nat.ble k o
  | .win (.loc _) _ _ _ => true
  | .fn _ a b => newL k a || newL k b
  | .agg cs => newL k cs
  | .tup cs => newL k cs
  | _ => false
def newL (k : Nat) : List AVal → Bool
  | [] => false
  | a :: r => newV k a || newL k r
end

def oldName (k : Nat) : Name → Bool
  | .out o => Nat.blt o k
  | .loc _ => false
def oldObjs (k : Nat) : Heap → Heap
  | [] => []
  | (m, o) :: r => match oldName k m with | true => (m, o) :: oldObjs k r | false => oldObjs k r
def newO (k : Nat) : AObj → Bool
  | .cells cs => newL k cs
  | .map _ => false
def newHeap (k : Nat) : Heap → Bool
  | [] => false
  | (_, o) :: r => newO k o || newHeap k r

mutual
def outsV : AVal → List Nat
  | .ptr (.out o) _ => [o]
  | .map (.out o) => [o]
  | .win (.out o) _ _ _ => [o]
  | .fn _ a b => outsL a ++ outsL b
  | .agg cs => outsL cs
  | .tup cs => outsL cs
  | _ => []
def outsL : List AVal → List Nat
  | [] => []
  | a :: r => outsV a ++ outsL r
end
def memN (o : Nat) : List Nat → Bool
  | [] => false
  | x :: r => match Nat.beq x o with | true => true | false => memN o r
def addN : List Nat → List Nat → List Nat
  | [], l => l
  | n :: ns, l => match memN n l with | true => addN ns l | false => addN ns (n :: l)
def liveNames (k : Nat) (l : List Nat) : Heap → List Nat
  | [] => l
  | (.out o, .cells cs) :: r => (match Nat.blt o k || memN o l with | true => liveNames k (addN (outsL cs) l) r | false => liveNames k l r)
  | _ :: r => liveNames k l r
def closeL (k : Nat) (h : Heap) : Nat → List Nat → List Nat
  | 0, l => l
  | n + 1, l => closeL k h n (liveNames k l h)
def keepObjs (k : Nat) (l : List Nat) : Heap → Heap
  | [] => []
  | (.out o, x) :: r => (match Nat.blt o k || memN o l with | true => (.out o, x) :: keepObjs k l r | false => keepObjs k l r)
  | _ :: r => keepObjs k l r

def gcR (k : Nat) (r : XRes) : XRes :=
  match r with
  | ⟨val, heap, next⟩ => match newV k val || newHeap k (oldObjs k heap) with
    | false => ⟨val, oldObjs k heap, k⟩
    | true => ⟨val, keepObjs k (closeL k heap 3 (outsV val)) heap, next⟩

section
variable {w : World} {R : Own} {M M2 : Name → Option Nat}
theorem oldObjs_rep (k : Nat) : ∀ {os : Heap} {bs : List Nat}, RepObjs w R M os bs → ∃ bs', RepObjs w R M (oldObjs k os) bs' ∧ bs'.Sublist bs
  | [], bs, h => ⟨bs, h, .refl _⟩
  | (m, o) :: os, _, ⟨b, b1, b2, e, hn, ho, hr⟩ => by
    subst e
    obtain ⟨bs', k1, k2⟩ := oldObjs_rep k hr
    simp only [oldObjs]
    split
    · exact ⟨b :: (b1 ++ bs'), ⟨b, b1, bs', rfl, hn, ho, k1⟩, (List.Sublist.append (.refl _) k2).cons_cons _⟩
    · exact ⟨bs', k1, k2.trans ((List.sublist_append_right b1 b2).cons _)⟩
theorem keepObjs_rep (k : Nat) (l : List Nat) : ∀ {os : Heap} {bs : List Nat}, RepObjs w R M os bs → ∃ bs', RepObjs w R M (keepObjs k l os) bs' ∧ bs'.Sublist bs
  | [], bs, h => ⟨bs, h, .refl _⟩
  | (.out m, o) :: os, _, ⟨b, b1, b2, e, hn, ho, hr⟩ => by
    subst e
    obtain ⟨bs', k1, k2⟩ := keepObjs_rep k l hr
    simp only [keepObjs]
    split
    · exact ⟨b :: (b1 ++ bs'), ⟨b, b1, bs', rfl, hn, ho, k1⟩, (List.Sublist.append (.refl _) k2).cons_cons _⟩
    · exact ⟨bs', k1, k2.trans ((List.sublist_append_right b1 b2).cons _)⟩
  | (.loc m, o) :: os, _, ⟨b, b1, b2, e, hn, ho, hr⟩ => by
    subst e
    obtain ⟨bs', k1, k2⟩ := keepObjs_rep k l hr
    exact ⟨bs', k1, k2.trans ((List.sublist_append_right b1 b2).cons _)⟩

variable (hM : ∀ m b, (∃ o, m = .out o) → M m = some b → M2 m = some b)
mutual
theorem RepV.low {k : Nat} (hM : ∀ o b, o < k → M (.out o) = some b → M2 (.out o) = some b) : ∀ {a : AVal} {v : Value} {bs : List Nat}, newV k a = false → RepV w R M a v bs → RepV w R M2 a v bs
  | .dat _, _, _, _, h => by simp only [RepV] at h ⊢; exact h
  | .own _, _, _, _, h => by simp only [RepV] at h ⊢; exact h
  | .ref _, _, _, _, h => by simp only [RepV] at h ⊢; exact h
  | .ptr (.loc _) _, _, _, hn, _ => by simp [newV] at hn
  | .ptr (.out o) _, _, _, hn, h => by
    simp only [newV] at hn
    simp only [RepV] at h ⊢
    obtain ⟨h1, b, hb, e⟩ := h
    exact ⟨h1, b, hM o b (by rcases Nat.lt_or_ge o k with h | h; exact h; rw [ble_mk h] at hn; simp at hn) hb, e⟩
  | .map (.loc _), _, _, hn, _ => by simp [newV] at hn
  | .win (.loc _) _ _ _, _, _, hn, _ => by simp [newV] at hn
  | .win (.out o) _ _ _, _, _, hn, h => by
    simp only [newV] at hn
    simp only [RepV] at h ⊢
    obtain ⟨h1, b, cap, hb, e⟩ := h
    exact ⟨h1, b, cap, hM o b (by rcases Nat.lt_or_ge o k with h | h; exact h; rw [ble_mk h] at hn; simp at hn) hb, e⟩
  | .map (.out o), _, _, hn, h => by
    simp only [newV] at hn
    simp only [RepV] at h ⊢
    obtain ⟨h1, b, hb, e⟩ := h
    exact ⟨h1, b, hM o b (by rcases Nat.lt_or_ge o k with h | h; exact h; rw [ble_mk h] at hn; simp at hn) hb, e⟩
  | .fn _ first captured, _, _, hn, h => by
    simp only [newV, Bool.or_eq_false_iff] at hn
    simp only [RepV] at h ⊢
    obtain ⟨h1, vs', us', e, h2, h3⟩ := h
    exact ⟨h1, vs', us', e, RepVs.low hM (as := first) hn.1 h2, RepVs.low hM (as := captured) hn.2 h3⟩
  | .agg cs, _, _, hn, h => by
    simp only [newV] at hn
    simp only [RepV] at h ⊢
    obtain ⟨vs', e, h2⟩ := h
    exact ⟨vs', e, RepVs.low hM (as := cs) hn h2⟩
  | .tup cs, _, _, hn, h => by
    simp only [newV] at hn
    simp only [RepV] at h ⊢
    obtain ⟨vs', e, h2⟩ := h
    exact ⟨vs', e, RepVs.low hM (as := cs) hn h2⟩
  | .undef, _, _, _, h => by simp only [RepV] at h ⊢; exact h
theorem RepVs.low {k : Nat} (hM : ∀ o b, o < k → M (.out o) = some b → M2 (.out o) = some b) : ∀ {as : List AVal} {vs : List Value} {bs : List Nat}, newL k as = false → RepVs w R M as vs bs → RepVs w R M2 as vs bs
  | [], _, _, _, h => by simp only [RepVs] at h ⊢; exact h
  | a :: as, _, _, hn, h => by
    simp only [newL, Bool.or_eq_false_iff] at hn
    simp only [RepVs] at h ⊢
    obtain ⟨v', vs', b1', b2', e1, e2, h1, h2⟩ := h
    exact ⟨v', vs', b1', b2', e1, e2, RepV.low hM (a := a) hn.1 h1, RepVs.low hM (as := as) hn.2 h2⟩
end
theorem newL_append (k : Nat) : ∀ (l m : List AVal), newL k (l ++ m) = (newL k l || newL k m)
  | [], m => by simp [newL]
  | a :: l, m => by simp [newL, newL_append k l m, Bool.or_assoc]
theorem newL_pad (k : Nat) (cs : List AVal) (j : Nat) : newL k (cs ++ List.replicate j .undef) = newL k cs := by
  rw [newL_append]
  have : newL k (List.replicate j .undef) = false := by
    induction j with
    | zero => rfl
    | succ j ih => simp [List.replicate_succ, newL, newV, ih]
  rw [this, Bool.or_false]
theorem RepObjs.low {k : Nat} (hM : ∀ o b, o < k → M (.out o) = some b → M2 (.out o) = some b) : ∀ {os : Heap} {bs : List Nat}, (∀ p ∈ os, oldName k p.1 = true) → newHeap k os = false → RepObjs w R M os bs → RepObjs w R M2 os bs
  | [], _, _, _, h => h
  | (m, o) :: os, _, hs, hn, ⟨b, b1, b2, e, hb, ho, hr⟩ => by
    simp only [newHeap, Bool.or_eq_false_iff] at hn
    have hm := hs (m, o) (by simp)
    refine ⟨b, b1, b2, e, ?_, ?_, RepObjs.low hM (fun p hp => hs p (by simp [hp])) hn.2 hr⟩
    · cases m with
      | loc i => simp [oldName] at hm
      | out i => exact hM i b (blt_to (by simpa [oldName] using hm)) hb
    · cases o with
      | cells cs =>
        obtain ⟨vs, el, sp, hblk, hrr, hR⟩ := ho
        exact ⟨vs, el, sp, hblk, hrr.low hM (by rw [newL_pad]; simpa [newO] using hn.1), hR⟩
      | map es => exact ho
theorem oldObjs_old (k : Nat) : ∀ os : Heap, ∀ p ∈ oldObjs k os, oldName k p.1 = true
  | [], p, h => by simp [oldObjs] at h
  | (m, o) :: os, p, h => by
    simp only [oldObjs] at h
    split at h
    · rename_i hm
      rcases List.mem_cons.1 h with rfl | h
      · exact hm
      · exact oldObjs_old k os p h
    · exact oldObjs_old k os p h
end

theorem ACalls.gc {P : Program} {G : Globs} {f : FuncId} {args : List AVal} {heap : Heap} {next : Nat} {r : XRes} (h : ACalls P G f args heap next (XQ r)) : ACalls P G f args heap next (XQ (gcR next r)) := by
  intro w R N cargs bsA bsH bsF ha hh hnd hnx hg hF
  refine (h w R N cargs bsA bsH bsF ha hh hnd hnx hg hF).mono ?_
  rintro e w' ⟨v', cv, heap', next', R', N', bsV, bsH', rfl, ⟨rfl, rfl, rfl⟩, hv', hh', hnd', hnx', hk, hN⟩
  obtain ⟨val, heap', next'⟩ := r
  dsimp only at hv' hh' hnx' ⊢
  unfold gcR
  dsimp only
  split
  · rename_i hnew
    simp only [Bool.or_eq_false_iff] at hnew
    obtain ⟨bs', k1, k2⟩ := oldObjs_rep next hh'
    let N2 : Name → Option Nat := fun m => match m with | .loc i => N' (.loc i) | .out o => if o < next then N' (.out o) else none
    have hM : ∀ o b, o < next → outs N' (.out o) = some b → outs N2 (.out o) = some b := by
      intro o b ho hb
      simp only [outs] at hb ⊢
      simp only [N2]
      rw [if_pos ho]; exact hb
    refine ⟨val, cv, oldObjs next heap', next, R', N2, bsV, bs', rfl, ⟨rfl, rfl, rfl⟩, hv'.low hM hnew.1, k1.low hM (oldObjs_old next heap') hnew.2, ?_, ?_, hk, ?_⟩
    · exact List.Nodup.sublist (List.Sublist.append (.refl _) (List.Sublist.append k2 (.refl _))) hnd'
    · intro o b hb
      simp only [N2] at hb
      split at hb
      · assumption
      · simp at hb
    · intro o b hb
      simp only [N2]
      rw [if_pos (hnx o b hb)]
      exact hN o b hb
  · obtain ⟨bs', k1, k2⟩ := keepObjs_rep next (closeL next heap' 3 (outsV val)) hh'
    exact ⟨val, cv, _, next', R', N', bsV, bs', rfl, ⟨rfl, rfl, rfl⟩, hv', k1, List.Nodup.sublist (List.Sublist.append (.refl _) (List.Sublist.append k2 (.refl _))) hnd', hnx', hk, hN⟩

/-! ### Code -/
section
variable (X : XCalls) (E : TEnv) (G : Globs) (H : Hints) (n : Nat)

def fback (f : FState) (r : XRes) (dst : Option Tmp) : FState :=
  match f, r with
  | ⟨sl, locs, _, _⟩, ⟨v, heap, next⟩ => fput ⟨sl, locs, heap, next⟩ dst v
theorem fback_eq (f : FState) (r : XRes) (dst : Option Tmp) : (fback f r dst).toA n = ({ f.toA n with heap := r.heap, next := r.next } : AState).put dst r.val := by
  obtain ⟨sl, locs, heap, next⟩ := f
  obtain ⟨v, h, k⟩ := r
  simp only [fback, fput_eq]; rfl

noncomputable def fone (all : List Oper) (o : Oper) (f : FState) : Option FState :=
  match fwanted n all f o.guard with
  | none => none
  | some b => match b with
    | true =>
      (match isCall o.op with
       | some c => (match fcallee E G H n c f with
         | some (g, args, f2) => (match X g args f2.heap f2.next with
           | some r => some (fback f2 r o.dst)
           | none => none)
         | none => none)
       | none => fstep E G n (readOnly H.moves all o) (takeR H all o) o f)
    | false => some (fput f o.dst (.tup []))
theorem fone_some {all : List Oper} {o : Oper} {f f' : FState} (h : fone X E G H n all o f = some f') : xone X E G H all o (f.toA n) = some (f'.toA n) := by
  unfold fone at h
  unfold xone
  rw [fwanted_eq]
  cases hw : fwanted n all f o.guard with
  | none => rw [hw] at h; simp at h
  | some b =>
    rw [hw] at h
    cases b with
    | false => simp at h; subst h; simp [fput_eq]
    | true =>
      dsimp only at h ⊢
      rw [if_pos rfl]
      cases hc : isCall o.op with
      | none =>
        rw [hc] at h
        dsimp only at h ⊢
        rw [fstep_eq, h]; rfl
      | some c =>
        rw [hc] at h
        dsimp only at h ⊢
        rw [fcallee_eq]
        cases hcal : fcallee E G H n c f with
        | none => rw [hcal] at h; simp at h
        | some x =>
          obtain ⟨g, args, f2⟩ := x
          rw [hcal] at h
          dsimp only [Option.map_some] at h ⊢
          have e1 : (f2.toA n).heap = f2.heap := rfl
          have e2 : (f2.toA n).next = f2.next := rfl
          rw [e1, e2]
          cases hr : X g args f2.heap f2.next with
          | none => rw [hr] at h; simp at h
          | some r =>
            rw [hr] at h
            simp at h
            subst h
            simp [fback_eq]

noncomputable def fops (all : List Oper) (ops : List Oper) : FState → Option FState :=
  @List.rec Oper (fun _ => FState → Option FState) (fun f => some f) (fun o _ ih f => match fone X E G H n all o f with | some f' => ih f' | none => none) ops
theorem fops_some {all : List Oper} : ∀ {ops : List Oper} {f f' : FState}, fops X E G H n all ops f = some f' → xops X E G H all ops (f.toA n) = some (f'.toA n)
  | [], f, f', h => by
    have e : fops X E G H n all [] f = some f := rfl
    rw [e] at h; simp at h; subst h; rfl
  | o :: rest, f, f', h => by
    have e : fops X E G H n all (o :: rest) f = (match fone X E G H n all o f with | some f' => fops X E G H n all rest f' | none => none) := rfl
    rw [e] at h
    simp only [xops]
    cases ho : fone X E G H n all o f with
    | none => rw [ho] at h; simp at h
    | some f1 =>
      rw [ho] at h
      rw [fone_some X E G H n ho]
      exact fops_some h

noncomputable def ftkNil (tk : List Nat) (t : Tmp) (f : FState) : List Nat := match isNilV (fget n f t) with | true => [] | false => tk
theorem ftkNil_eq (tk : List Nat) (t : Tmp) (f : FState) : tkNil tk t (f.toA n) = ftkNil n tk t f := by
  unfold tkNil ftkNil
  rw [fget_eq]
  cases isNilV (fget n f t) <;> rfl

noncomputable def fopL (fh : Bool) (tk : List Nat) (all : List Oper) (o : Oper) (f : FState) : Option FState :=
  match fwanted n all f o.guard with
  | none => none
  | some b => match b with
    | true =>
      (match isCall o.op with
       | some c => (match fcalleeD E G H n c f with
         | some (g, args, f2) => (match isPure H o with
           | true => (match X g args [] f2.next with
             | some ⟨v, [], k⟩ => some (fback f2 ⟨v, f2.heap, k⟩ o.dst)
             | _ => none)
           | false => (match X g args f2.heap f2.next with
             | some r => (match !isRead H o || staysB f2.heap r.heap with
               | true => some (fback f2 r o.dst)
               | false => none)
             | none => none))
         | none => none)
       | none => (match appSlot o.op with
         | some t => (match fshowTk n fh all (tkFor all t (ftkNil n tk t f)) f with
           | some f1 => fstep E G n false false o f1
           | none => none)
         | none => (match isStore o.op with
           | true => fstep E G n (readOnly H.moves all o) (takeR H all o) o f
           | false => none)))
    | false => some (fput f o.dst (.tup []))
theorem fopL_some {fh : Bool} {tk : List Nat} {all : List Oper} {o : Oper} {f f' : FState} (h : fopL X E G H n fh tk all o f = some f') : xopL X E G H fh tk all o (f.toA n) = some (f'.toA n) := by
  unfold fopL at h
  unfold xopL
  rw [fwanted_eq]
  cases hw : fwanted n all f o.guard with
  | none => rw [hw] at h; simp at h
  | some b =>
    rw [hw] at h
    cases b with
    | false => simp at h; subst h; simp [fput_eq]
    | true =>
      dsimp only at h ⊢
      rw [if_pos rfl]
      cases hc : isCall o.op with
      | none =>
        rw [hc] at h
        dsimp only at h ⊢
        cases ht : appSlot o.op with
        | none =>
          rw [ht] at h
          dsimp only at h ⊢
          cases hst : isStore o.op with
          | false => rw [hst] at h; simp at h
          | true =>
            rw [hst] at h
            dsimp only at h ⊢
            rw [fstep_eq, h]; rfl
        | some t =>
          rw [ht] at h
          dsimp only at h ⊢
          rw [ftkNil_eq]
          cases hs : fshowTk n fh all (tkFor all t (ftkNil n tk t f)) f with
          | none => rw [hs] at h; simp at h
          | some f1 =>
            rw [hs] at h
            rw [fshowTk_some n fh all _ _ _ hs]
            dsimp only at h ⊢
            rw [fstep_eq, h]; rfl
      | some c =>
        rw [hc] at h
        dsimp only at h ⊢
        rw [fcalleeD_eq]
        cases hcal : fcalleeD E G H n c f with
        | none => rw [hcal] at h; simp at h
        | some x =>
          obtain ⟨g, args, f2⟩ := x
          rw [hcal] at h
          dsimp only [Option.map_some] at h ⊢
          have e1 : (f2.toA n).heap = f2.heap := rfl
          have e2 : (f2.toA n).next = f2.next := rfl
          rw [e1, e2]
          cases hpu : isPure H o with
          | true =>
            rw [hpu] at h
            dsimp only at h ⊢
            split at h
            · rename_i v k hr
              simp at h
              subst h
              simp [fback_eq, hr]
            · simp at h
          | false =>
            rw [hpu] at h
            dsimp only at h ⊢
            cases hr : X g args f2.heap f2.next with
            | none => rw [hr] at h; simp at h
            | some r =>
              rw [hr] at h
              dsimp only at h ⊢
              cases hst : (!isRead H o || staysB f2.heap r.heap) with
              | false => rw [hst] at h; simp at h
              | true =>
                rw [hst] at h
                simp at h
                subst h
                simp [fback_eq]

noncomputable def ford (tk : List Nat) (fh : Bool) (fq : Nat → Bool) (all : List Oper) (l : List (Nat × Bool)) : FState → Option FState :=
  @List.rec (Nat × Bool) (fun _ => FState → Option FState) (fun f => some f) (fun p _ ih f =>
    match all[p.1]? with
    | none => none
    | some o => match p.2 with
      | true => (match fopL X E G H n fh tk all o f with | some f' => ih f' | none => none)
      | false => (match fstepQ E G n (fh || fq p.1) all o f with
        | some a => ih (fput f o.dst a)
        | none => none)) l
theorem ford_cons {tk : List Nat} {fh : Bool} {fq : Nat → Bool} {all : List Oper} {i : Nat} {lone : Bool} {rest : List (Nat × Bool)} {f : FState} : ford X E G H n tk fh fq all ((i, lone) :: rest) f = (match all[i]? with
      | none => none
      | some o => match lone with
        | true => (match fopL X E G H n fh tk all o f with | some f' => ford X E G H n tk fh fq all rest f' | none => none)
        | false => (match fstepQ E G n (fh || fq i) all o f with
          | some a => ford X E G H n tk fh fq all rest (fput f o.dst a)
          | none => none)) := rfl
theorem ford_some {tk : List Nat} {fh : Bool} {fq : Nat → Bool} {all : List Oper} : ∀ {l : List (Nat × Bool)} {f f' : FState}, ford X E G H n tk fh fq all l f = some f' → xord X E G H tk fh fq all l (f.toA n) = some (f'.toA n)
  | [], f, f', h => by
    have e : ford X E G H n tk fh fq all [] f = some f := rfl
    rw [e] at h; simp at h; subst h; rfl
  | (i, lone) :: rest, f, f', h => by
    rw [ford_cons] at h
    simp only [xord]
    cases hi : all[i]? with
    | none => rw [hi] at h; simp at h
    | some o =>
      rw [hi] at h
      cases lone with
      | true =>
        dsimp only at h ⊢
        rw [if_pos rfl]
        cases ho : fopL X E G H n fh tk all o f with
        | none => rw [ho] at h; simp at h
        | some f1 =>
          rw [ho] at h
          rw [fopL_some X E G H n ho]
          exact ford_some h
      | false =>
        dsimp only at h ⊢
        rw [if_neg (by simp), fstepQ_eq]
        cases ho : fstepQ E G n (fh || fq i) all o f with
        | none => rw [ho] at h; simp at h
        | some a =>
          rw [ho] at h
          dsimp only at h ⊢
          rw [← fput_eq]
          exact ford_some h

noncomputable def fexplC (all : List Oper) : Nat → Array Bool → FState → Option FState
  | 0, _, f => some f
  | m + 1, listed, f => match Region.ready .any all.toArray listed with
    | [] => some f
    | i :: _ => (match all[i]? with
      | some o => (match fone X E G H n all o f with | some f1 => fexplC all m (setL listed i) f1 | none => none)
      | none => none)
noncomputable def fexplA (all : List Oper) (k : Nat) (s0 : AState) : Nat → Array Bool → FState → Bool
  | 0, listed, f => (Region.ready .any all.toArray listed).isEmpty && renB k s0 (f.toA n)
  | m + 1, listed, f => match Region.ready .any all.toArray listed with
    | [] => renB k s0 (f.toA n)
    | i :: l => (i :: l).all fun i => match all[i]? with
      | some o => (match fone X E G H n all o f with | some f1 => fexplA all k s0 m (setL listed i) f1 | none => false)
      | none => false
theorem fexplC_some {all : List Oper} : ∀ (m : Nat) (listed : Array Bool) (f f' : FState), fexplC X E G H n all m listed f = some f' → xexplC X E G H all m listed (f.toA n) = some (f'.toA n)
  | 0, listed, f, f', h => by simp only [fexplC, Option.some.injEq] at h; subst h; rfl
  | m + 1, listed, f, f', h => by
    simp only [fexplC] at h
    simp only [xexplC]
    split at h
    · rename_i he
      rw [he]
      simp only [Option.some.injEq] at h
      subst h
      rfl
    · rename_i i l he
      rw [he]
      dsimp only
      split at h
      · rename_i o ho
        rw [ho]
        dsimp only
        split at h
        · rename_i f1 hf1
          rw [fone_some X E G H n hf1]
          exact fexplC_some m _ f1 f' h
        · simp at h
      · simp at h
theorem fexplA_some {all : List Oper} {k : Nat} {s0 : AState} : ∀ (m : Nat) (listed : Array Bool) (f : FState), fexplA X E G H n all k s0 m listed f = true → xexplA X E G H all k s0 m listed (f.toA n) = true
  | 0, listed, f, h => h
  | m + 1, listed, f, h => by
    simp only [fexplA] at h
    simp only [xexplA]
    split at h
    · rename_i he
      rw [he]
      exact h
    · rename_i i l he
      rw [he]
      dsimp only
      refine List.all_eq_true.2 fun j hj => ?_
      have h1 := List.all_eq_true.1 h j hj
      split at h1
      · rename_i o ho
        rw [ho]
        dsimp only
        split at h1
        · rename_i f1 hf1
          rw [fone_some X E G H n hf1]
          exact fexplA_some m _ f1 h1
        · simp at h1
      · simp at h1

noncomputable def floneC (h : RHint) (all : List Oper) : Nat → Array Bool → FState → Option FState
  | 0, _, f => some f
  | m + 1, listed, f => match Region.ready .any all.toArray listed with
    | [] => none
    | i :: _ => (match all[i]? with
      | some o => (match fopL X E G H n (quietHeap H all h.pre) h.tk all o f with | some f1 => floneC h all m (setL listed i) f1 | none => none)
      | none => none)
noncomputable def floneA (h : RHint) (all : List Oper) (p : Array Bool) (s0 : AState) : Nat → Array Bool → FState → Bool
  | 0, listed, f => eqBs listed.toList p.toList && sameS s0 (f.toA n)
  | m + 1, listed, f => !eqBs listed.toList p.toList && !(Region.ready .any all.toArray listed).isEmpty && (Region.ready .any all.toArray listed).all fun i => h.pre.contains (i, true) && (match all[i]? with
      | some o => (match fopL X E G H n (quietHeap H all h.pre) h.tk all o f with | some f1 => floneA h all p s0 m (setL listed i) f1 | none => false)
      | none => false)
noncomputable def fdrawL (all : List Oper) (h : RHint) (f : FState) : Option FState :=
  match ford X E G H n h.tk (quietHeap H all h.pre) (quietAt H all h.pre) all (quietPre h.pre) f with
  | some f1 => (match floneC X E G H n h all (h.pre.length - (quietPre h.pre).length) (preAll (quietPre h.pre) (Array.replicate all.length false)) f1 with
    | some f0 => (match floneA X E G H n h all (preAll h.pre (Array.replicate all.length false)) (f0.toA n) (h.pre.length - (quietPre h.pre).length) (preAll (quietPre h.pre) (Array.replicate all.length false)) f1 with
      | true => (match fshowMk E n all h.nw f0 with
        | some f2 => fops X E G H n all (pickOps all h.tail) f2
        | none => none)
      | false => none)
    | none => none)
  | none => none
theorem floneC_some {h : RHint} {all : List Oper} : ∀ (m : Nat) (listed : Array Bool) (f f' : FState), floneC X E G H n h all m listed f = some f' → xloneC X E G H h all m listed (f.toA n) = some (f'.toA n)
  | 0, listed, f, f', hh => by simp only [floneC, Option.some.injEq] at hh; subst hh; rfl
  | m + 1, listed, f, f', hh => by
    simp only [floneC] at hh
    simp only [xloneC]
    split at hh
    · simp at hh
    · rename_i i l he
      rw [he]
      dsimp only
      split at hh
      · rename_i o ho
        rw [ho]
        dsimp only
        split at hh
        · rename_i f1 hf1
          rw [fopL_some X E G H n hf1]
          exact floneC_some m _ f1 f' hh
        · simp at hh
      · simp at hh
theorem floneA_some {h : RHint} {all : List Oper} {p : Array Bool} {s0 : AState} : ∀ (m : Nat) (listed : Array Bool) (f : FState), floneA X E G H n h all p s0 m listed f = true → xloneA X E G H h all p s0 m listed (f.toA n) = true
  | 0, listed, f, hh => hh
  | m + 1, listed, f, hh => by
    simp only [floneA, Bool.and_eq_true] at hh
    simp only [xloneA, Bool.and_eq_true]
    refine ⟨hh.1, List.all_eq_true.2 fun j hj => ?_⟩
    have h1 := List.all_eq_true.1 hh.2 j hj
    simp only [Bool.and_eq_true] at h1 ⊢
    refine ⟨h1.1, ?_⟩
    have h2 := h1.2
    split at h2
    · rename_i o ho
      rw [ho]
      dsimp only
      split at h2
      · rename_i f1 hf1
        rw [fopL_some X E G H n hf1]
        exact floneA_some m _ f1 h2
      · simp at h2
    · simp at h2
theorem fdrawL_some {all : List Oper} {h : RHint} {f f' : FState} (hh : fdrawL X E G H n all h f = some f') : xdrawL X E G H all h (f.toA n) = some (f'.toA n) := by
  unfold fdrawL at hh
  unfold xdrawL
  split at hh
  · rename_i f1 h1
    rw [ford_some X E G H n h1]
    dsimp only
    split at hh
    · rename_i f0 h0
      rw [floneC_some X E G H n _ _ _ _ h0]
      dsimp only
      split at hh
      · rename_i h2
        rw [floneA_some X E G H n _ _ _ h2]
        dsimp only
        split at hh
        · rename_i f2 h3
          rw [fshowMk_some E n all h.nw f0 f2 h3]
          exact fops_some X E G H n hh
        · simp at hh
      · simp at hh
    · simp at hh
  · simp at hh

noncomputable def fdraw (all : List Oper) (h : RHint) (f : FState) : Option FState :=
  match explMark h with
  | true => (match fexplC X E G H n all all.length (Array.replicate all.length false) f with
    | some f0 => (match fexplA X E G H n all f.next (f0.toA n) all.length (Array.replicate all.length false) f with | true => some f0 | false => none)
    | none => none)
  | false =>
  match loneMark h with
  | true => fdrawL X E G H n all (unmark h) f
  | false =>
  match ford X E G H n h.tk (quietHeap H all h.pre) (quietAt H all h.pre) all h.pre f with
  | some f1 => (match fshowMk E n all h.nw f1 with
    | some f2 => fops X E G H n all (pickOps all h.tail) f2
    | none => none)
  | none => none
theorem fdraw_some {all : List Oper} {h : RHint} {f f' : FState} (hh : fdraw X E G H n all h f = some f') : xdraw X E G H all h (f.toA n) = some (f'.toA n) := by
  unfold fdraw at hh
  unfold xdraw
  cases hx : explMark h with
  | true =>
    rw [hx] at hh
    dsimp only at hh
    rw [if_pos rfl]
    split at hh
    · rename_i f0 h0
      rw [fexplC_some X E G H n _ _ _ _ h0]
      dsimp only
      split at hh
      · rename_i h2
        simp only [Option.some.injEq] at hh
        subst hh
        have := fexplA_some X E G H n _ _ _ h2
        have e : (f.toA n).next = f.next := rfl
        rw [e, this]
      · simp at hh
    · simp at hh
  | false =>
  rw [hx] at hh
  rw [if_neg (by simp)]
  dsimp only at hh
  cases hlm : loneMark h with
  | true =>
    rw [hlm] at hh
    rw [if_pos rfl]
    exact fdrawL_some X E G H n hh
  | false =>
  rw [hlm] at hh
  rw [if_neg (by simp)]
  dsimp only at hh
  cases h1 : ford X E G H n h.tk (quietHeap H all h.pre) (quietAt H all h.pre) all h.pre f with
  | none => rw [h1] at hh; simp at hh
  | some f1 =>
    rw [h1] at hh
    rw [ford_some X E G H n h1]
    dsimp only at hh ⊢
    cases h2 : fshowMk E n all h.nw f1 with
    | none => rw [h2] at hh; simp at hh
    | some f2 =>
      rw [h2] at hh
      rw [fshowMk_some E n all h.nw f1 f2 h2]
      exact fops_some X E G H n hh

noncomputable def floop (body : FState → Option (Exit × FState)) (fuel : Nat) : FState → Option (Exit × FState) :=
  @Nat.rec (fun _ => FState → Option (Exit × FState)) (fun _ => none) (fun _ ih f => match body f with
    | some (.normal, f') => ih f'
    | r => r) fuel

/-! Steps that the program does not take, behind a region: the live slots' number holds, from bit 4096 on, the slots whose rows become data, from bit 5120 on the slots whose variables become objects. -/
def bitSlots : Nat → Nat → Nat → List Nat
  | 0, _, _ => []
  | m + 1, k, g => match Nat.beq g 0 with
    | true => []
    | false => (match Nat.beq (Nat.land g 1) 1 with | true => k :: bitSlots m (k + 1) (Nat.shiftRight g 1) | false => bitSlots m (k + 1) (Nat.shiftRight g 1))

def rowFrzVF (a : AVal) (heap : Heap) : Option (Nat × List Dat) :=
  match rowOf a with
  | some x => rowFrzC x.1 x.2 (agetF (.out x.1) heap)
  | none => none
theorem rowFrzVF_eq (a : AVal) (heap : Heap) : rowFrzVF a heap = rowFrzV a heap := by
  unfold rowFrzVF rowFrzV
  cases rowOf a with
  | none => rfl
  | some x => simp only [agetF_eq]

noncomputable def ffrz (n t : Nat) (f : FState) : Option FState :=
  match rowFrzVF (fget n f t) f.heap with
  | some (m, es) => (match fput f (some t) (.dat (.slice es)) with
    | ⟨sl, locs, heap, next⟩ => some ⟨sl, locs, adelF (.out m) heap, next⟩)
  | none => none
noncomputable def ffrzs (n : Nat) : List Nat → FState → Option FState
  | [], f => some f
  | t :: r, f => (match ffrz n t f with | some f' => ffrzs n r f' | none => none)
noncomputable def fpreps (n : Nat) : List Nat → FState → FState
  | [], f => f
  | t :: r, f => fpreps n r (fprep false (fneeded f [fget n f t]) f []).1
noncomputable def fghost (n mask : Nat) (f : FState) : Option FState :=
  match Nat.beq (Nat.shiftRight mask 4096) 0 with
  | true => some f
  | false => ffrzs n (bitSlots 1000 0 (Nat.land (Nat.shiftRight mask 4096) (2 ^ 1024 - 1))) (fpreps n (bitSlots 1000 0 (Nat.shiftRight mask 5120)) f)

theorem ffrz_ghost {n t : Nat} {f f' : FState} (h : ffrz n t f = some f') : Ghost G (f.toA n) (f'.toA n) := by
  unfold ffrz at h
  rw [rowFrzVF_eq] at h
  split at h
  · rename_i m es hv
    have e : rowFrz t (f.toA n) = some (f'.toA n) := by
      unfold rowFrz
      rw [fget_eq]
      have e2 : (f.toA n).heap = f.heap := rfl
      rw [e2, hv]
      have hp := fput_eq (n := n) f (some t) (.dat (.slice es))
      generalize fput f (some t) (.dat (.slice es)) = g at h hp
      obtain ⟨sl, locs, heap, next⟩ := g
      simp only [Option.some.injEq] at h
      subst h
      simp only [FState.toA, AState.put, adelF_eq] at hp ⊢
      have q1 := congrArg AState.tmps hp
      have q2 := congrArg AState.locs hp
      have q3 := congrArg AState.heap hp
      have q4 := congrArg AState.next hp
      simp only at q1 q2 q3 q4
      rw [q1, q2, q3, q4]
    exact ghost_frz e
  · simp at h
theorem ffrzs_ghost {n : Nat} : ∀ (l : List Nat) {f f' : FState}, ffrzs n l f = some f' → Ghost G (f.toA n) (f'.toA n)
  | [], f, f', h => by simp [ffrzs] at h; subst h; exact .refl _ _
  | t :: r, f, f', h => by
    simp only [ffrzs] at h
    split at h
    · rename_i f1 h1
      exact (ffrz_ghost G h1).trans (ffrzs_ghost r h)
    · simp at h
theorem fpreps_ghost {n : Nat} : ∀ (l : List Nat) (f : FState), Ghost G (f.toA n) ((fpreps n l f).toA n)
  | [], f => .refl _ _
  | t :: r, f => by
    simp only [fpreps]
    refine Ghost.trans ?_ (fpreps_ghost r _)
    have h := ghost_prep (G := G) (fneeded f [fget n f t]) (f.toA n)
    rw [fprep_eq] at h
    exact h
theorem fghost_ghost {n mask : Nat} {f f' : FState} (h : fghost n mask f = some f') : Ghost G (f.toA n) (f'.toA n) := by
  unfold fghost at h
  split at h
  · simp at h; subst h; exact .refl _ _
  · exact (fpreps_ghost G _ _).trans (ffrzs_ghost G _ h)

noncomputable def fcode (live : Nat → Nat) (fuel : Nat) (c : Code) : FState → Option (Exit × FState) :=
  Code.rec (motive := fun _ => FState → Option (Exit × FState))
    (skip := fun f => some (.normal, f))
    (region := fun id ops draw f =>
      (match (match draw with | true => fdraw X E G H n ops.toList (H.ord id) f | false => fops X E G (H.at id) n ops.toList ops.toList f) with
       | some f' => (match fghost n (live id) (fprune f' (fun l => pruneS l (live id))) with | some f2 => some (.normal, f2) | none => none)
       | none => none))
    (seq := fun _ _ ix iy f => (match ix f with
      | some (.normal, f') => iy f'
      | r => r))
    (cond := fun c _ _ ix iy f => (match feval G n f c with
      | .dat (.flat (.bool b)) => (match b with | true => ix f | false => iy f)
      | _ => none))
    (block := fun id _ ic f => (match ic f with
      | some (.exit i, f') => (match Nat.beq i id with | true => some (.normal, f') | false => some (.exit i, f'))
      | r => r))
    (loop := fun _ ic f => floop ic fuel f)
    (rangeFunc := fun _ _ _ _ _ _ _ => none)
    (exit := fun id f => some (.exit id, f))
    (scope := fun _ ic f => (match ic f with
      | some (.goto _, _) => none
      | r => r))
    (label := fun _ f => some (.normal, f))
    (goto := fun _ _ => none)
    (ret := fun f => some (.ret, f))
    (refuse := fun _ _ => none) c

theorem fcode_scope {live : Nat → Nat} {fuel : Nat} {c : Code} {f : FState} : fcode X E G H n live fuel (.scope c) f = (match fcode X E G H n live fuel c f with
      | some (.goto _, _) => none
      | r => r) := rfl
theorem fcode_seq {live : Nat → Nat} {fuel : Nat} {x y : Code} {f : FState} : fcode X E G H n live fuel (.seq x y) f = (match fcode X E G H n live fuel x f with
      | some (.normal, f') => fcode X E G H n live fuel y f'
      | r => r) := rfl
theorem fcode_block {live : Nat → Nat} {fuel : Nat} {id : Nat} {c : Code} {f : FState} : fcode X E G H n live fuel (.block id c) f = (match fcode X E G H n live fuel c f with
      | some (.exit i, f') => (match Nat.beq i id with | true => some (.normal, f') | false => some (.exit i, f'))
      | r => r) := rfl
theorem fcode_cond {live : Nat → Nat} {fuel : Nat} {c : Operand} {x y : Code} {f : FState} : fcode X E G H n live fuel (.cond c x y) f = (match feval G n f c with
      | .dat (.flat (.bool b)) => (match b with | true => fcode X E G H n live fuel x f | false => fcode X E G H n live fuel y f)
      | _ => none) := rfl
theorem fcode_region {live : Nat → Nat} {fuel : Nat} {id : Nat} {ops : Array Oper} {draw : Bool} {f : FState} : fcode X E G H n live fuel (.region id ops draw) f =
      (match (match draw with | true => fdraw X E G H n ops.toList (H.ord id) f | false => fops X E G (H.at id) n ops.toList ops.toList f) with
       | some f' => (match fghost n (live id) (fprune f' (fun l => pruneS l (live id))) with | some f2 => some (.normal, f2) | none => none)
       | none => none) := rfl

theorem floop_sound {P : Program} {c : Code} {body : FState → Option (Exit × FState)} (hb : ∀ f e f', body f = some (e, f') → ∀ Q : Exit → AState → Prop, Q e (f'.toA n) → ACode P G c Q (f.toA n)) {k : Nat} {f f' : FState} {e : Exit}
    (h : floop body k f = some (e, f')) {Q : Exit → AState → Prop} (hQ : Q e (f'.toA n)) : ACode P G (.loop c) Q (f.toA n) := by
  intro w R N act bsT bsL bsH bsF hr D hd
  refine wp_loop_ghost (I := fun k a w' => ∃ f1 R' N' bsT' bsL' bsH', floop body k f1 = some (e, f') ∧ RelB G w' R' N' a.tmps.toList (f1.toA n) undef .undef [] bsT' bsL' bsH' bsF ∧ a.defers = D ∧ Keep w R w' R' bsF ∧ (∀ o b, N (.out o) = some b → N' (.out o) = some b)) (n0 := k) ?_ ?_
  · exact ⟨f, R, N, bsT, bsL, bsH, h, hr, hd, keep_refl _, fun _ _ h => h⟩
  · rintro k a w' ⟨f1, R', N', bsT', bsL', bsH', hx, hr', hd', hk, hN⟩
    cases k with
    | zero => exact absurd hx (by intro hx; cases hx)
    | succ k =>
      have hx : (match body f1 with
        | some (.normal, f') => floop body k f'
        | r => r) = some (e, f') := hx
      have key : ∀ e1 f2, body f1 = some (e1, f2) → (e1 = .normal → floop body k f2 = some (e, f')) → (e1 ≠ .normal → e1 = e ∧ f2 = f') → c.wp P (Exit.then (fun a' w' => ∃ n', n' < k + 1 ∧ ∃ f1 R' N' bsT' bsL' bsH', floop body n' f1 = some (e, f') ∧ RelB G w' R' N' a'.tmps.toList (f1.toA n) undef .undef [] bsT' bsL' bsH' bsF ∧ a'.defers = D ∧ Keep w R w' R' bsF ∧ (∀ o b, N (.out o) = some b → N' (.out o) = some b)) (CPost G D Q w R N bsF)) a w' := by
        intro e1 f2 hbody h1 h2
        refine wp_mono (hb f1 e1 f2 hbody (fun e' s'' => e' = e1 ∧ s'' = f2.toA n) ⟨rfl, rfl⟩ w' R' N' a bsT' bsL' bsH' bsF hr' hd') ?_
        rintro e3 a3 w3 ⟨s3, R3, N3, bsT3, bsL3, bsH3, ⟨rfl, rfl⟩, hr3, hd3, hk3, hN3⟩
        by_cases he : e3 = .normal
        · subst he
          exact ⟨k, Nat.lt_succ_self k, f2, R3, N3, bsT3, bsL3, bsH3, h1 rfl, hr3, hd3, hk.trans hk3, fun o b h => hN3 o b (hN o b h)⟩
        · obtain ⟨rfl, rfl⟩ := h2 he
          have : CPost G D Q w R N bsF e3 a3 w3 := ⟨_, R3, N3, bsT3, bsL3, bsH3, hQ, hr3, hd3, hk.trans hk3, fun o b h => hN3 o b (hN o b h)⟩
          cases e3 with
          | normal => exact (he rfl).elim
          | _ => exact this
      cases hbd : body f1 with
      | none => rw [hbd] at hx; simp at hx
      | some r =>
        obtain ⟨e1, f2⟩ := r
        rw [hbd] at hx
        cases e1 with
        | normal => exact key _ _ hbd (fun _ => hx) (fun h => (h rfl).elim)
        | _ => simp at hx; exact key _ _ hbd (fun h => by simp at h) (fun _ => hx)

theorem acode_ghost {P : Program} {c : Code} {s s2 : AState} {Q : Exit → AState → Prop} (h : ACode P G c (fun e s' => e = .normal ∧ s' = s2) s) {s3 : AState} (hg : Ghost G s2 s3) (hQ : Q .normal s3) : ACode P G c Q s := by
  intro w R N act bsT bsL bsH bsF hr D hd
  refine wp_mono (h w R N act bsT bsL bsH bsF hr hd) ?_
  rintro e a w' ⟨s', R', N', bsT', bsL', bsH', ⟨rfl, rfl⟩, hr', hd', hk, hN⟩
  obtain ⟨R2, N2, t2, l2, h2, hr2, hk2, hN2⟩ := hg _ _ _ _ _ _ _ _ hr'
  exact ⟨s3, R2, N2, t2, l2, h2, hQ, hr2, hd', hk.trans hk2, fun o b ho => hN2 o b (hN o b ho)⟩

theorem acode_norm {P : Program} {c : Code} {s s2 : AState} {Q : Exit → AState → Prop} (h : ACode P G c (fun e s' => e = .normal ∧ s' = s2) s) {s3 : AState}
    (hw : ∀ (w : World) (R : Own) (N : Name → Option Nat) (tmps : List Value) (bsT bsL bsH bsF : List Nat), RelB G w R N tmps s2 undef .undef [] bsT bsL bsH bsF → ∃ bsT', RelB G w R N tmps s3 undef .undef [] bsT' bsL bsH bsF) (hQ : Q .normal s3) : ACode P G c Q s := by
  intro w R N act bsT bsL bsH bsF hr D hd
  refine wp_mono (h w R N act bsT bsL bsH bsF hr hd) ?_
  rintro e a w' ⟨s', R', N', bsT', bsL', bsH', ⟨rfl, rfl⟩, hr', hd', hk, hN⟩
  obtain ⟨bsT2, hr2⟩ := hw _ _ _ _ _ _ _ _ hr'
  exact ⟨s3, R', N', bsT2, bsL', bsH', hQ, hr2, hd', hk, hN⟩

theorem fcode_sound {P : Program} (hE : E.Ok P) (hX : XOk P G X) (live : Nat → Nat) (fuel : Nat) : ∀ (c : Code) (f f' : FState) (e : Exit), chkAll H c = true → fcode X E G H n live fuel c f = some (e, f') → ∀ Q : Exit → AState → Prop, Q e (f'.toA n) → ACode P G c Q (f.toA n)
  | .skip, f, f', e, _, h, Q, hQ => by
    have h : some (Exit.normal, f) = some (e, f') := h
    simp at h; obtain ⟨rfl, rfl⟩ := h; exact acode_here wp_skip hQ
  | .region id ops draw, f, f', e, hc, h, Q, hQ => by
    rw [fcode_region] at h
    cases draw with
    | true =>
      dsimp only at h
      cases h1 : fdraw X E G H n ops.toList (H.ord id) f with
      | none => rw [h1] at h; simp at h
      | some f1 =>
        rw [h1] at h
        dsimp only at h
        cases h2 : fghost n (live id) (fprune f1 (fun l => pruneS l (live id))) with
        | none => rw [h2] at h; simp at h
        | some f2 =>
        rw [h2] at h
        simp at h
        obtain ⟨rfl, rfl⟩ := h
        refine acode_ghost G (acode_norm G (acode_draw hE hE.mixed (by simpa [chkAll] using hc) (xdraw_sound hX (fdraw_some X E G H n h1) ⟨rfl, rfl⟩)) ?_ ⟨rfl, rfl⟩) (fghost_ghost G h2) hQ
        intro w R N tmps bsT bsL bsH bsF hr
        exact hr.prune _
    | false =>
      dsimp only at h
      cases h1 : fops X E G (H.at id) n ops.toList ops.toList f with
      | none => rw [h1] at h; simp at h
      | some f1 =>
        rw [h1] at h
        dsimp only at h
        cases h2 : fghost n (live id) (fprune f1 (fun l => pruneS l (live id))) with
        | none => rw [h2] at h; simp at h
        | some f2 =>
        rw [h2] at h
        simp at h
        obtain ⟨rfl, rfl⟩ := h
        refine acode_ghost G (acode_norm G (acode_region hE (xops_sound hX (fops_some X E G (H.at id) n h1) ⟨rfl, rfl⟩)) ?_ ⟨rfl, rfl⟩) (fghost_ghost G h2) hQ
        intro w R N tmps bsT bsL bsH bsF hr
        exact hr.prune _
  | .seq x y, f, f', e, hc, h, Q, hQ => by
    simp only [chkAll, Bool.and_eq_true] at hc
    rw [fcode_seq] at h
    refine acode_seq ?_
    cases hx : fcode X E G H n live fuel x f with
    | none => rw [hx] at h; simp at h
    | some r =>
      obtain ⟨e1, f1⟩ := r
      rw [hx] at h
      refine fcode_sound hE hX live fuel x f f1 e1 hc.1 hx _ ?_
      cases e1 with
      | normal => exact fcode_sound hE hX live fuel y f1 f' e hc.2 h Q hQ
      | _ => simp at h; obtain ⟨rfl, rfl⟩ := h; exact hQ
  | .cond c x y, f, f', e, hc, h, Q, hQ => by
    simp only [chkAll, Bool.and_eq_true] at hc
    intro w R N act bsT bsL bsH bsF hr D hd
    rw [fcode_cond] at h
    split at h
    · rename_i b hb
      obtain ⟨bs, he⟩ := eval_raw hr.tmps hr.glob c
      rw [feval_eq, hb] at he
      obtain ⟨_, he, _⟩ := repV_flat_inv he
      refine wp_cond he ?_
      cases b with
      | true => exact fcode_sound hE hX live fuel x f f' e hc.1 h Q hQ w R N act bsT bsL bsH bsF hr hd
      | false => exact fcode_sound hE hX live fuel y f f' e hc.2 h Q hQ w R N act bsT bsL bsH bsF hr hd
    · simp at h
  | .block id c, f, f', e, hc, h, Q, hQ => by
    simp only [chkAll] at hc
    rw [fcode_block] at h
    cases hx : fcode X E G H n live fuel c f with
    | none => rw [hx] at h; simp at h
    | some r =>
      obtain ⟨e1, f1⟩ := r
      rw [hx] at h
      intro w R N act bsT bsL bsH bsF hr D hd
      apply wp_block
      refine wp_mono (fcode_sound hE hX live fuel c f f1 e1 hc hx (fun e' s'' => e' = e1 ∧ s'' = f1.toA n) ⟨rfl, rfl⟩ w R N act bsT bsL bsH bsF hr hd) ?_
      rintro e2 a w' ⟨s2, R', N', bsT', bsL', bsH', ⟨rfl, rfl⟩, rest⟩
      cases e2 with
      | exit i =>
        simp only [Exit.inBlock]
        dsimp only at h
        by_cases hi : i = id
        · have hb : Nat.beq i id = true := by rw [Nat.beq_eq]; exact hi
          rw [if_pos hi]
          rw [hb] at h
          simp at h; obtain ⟨rfl, rfl⟩ := h
          exact ⟨_, R', N', bsT', bsL', bsH', hQ, rest⟩
        · have hb : Nat.beq i id = false := by rw [Bool.eq_false_iff]; intro hc; rw [Nat.beq_eq] at hc; exact hi hc
          rw [if_neg hi]
          rw [hb] at h
          simp at h; obtain ⟨rfl, rfl⟩ := h
          exact ⟨_, R', N', bsT', bsL', bsH', hQ, rest⟩
      | _ => simp at h; obtain ⟨rfl, rfl⟩ := h; exact ⟨_, R', N', bsT', bsL', bsH', hQ, rest⟩
  | .exit id, f, f', e, _, h, Q, hQ => by
    have h : some (Exit.exit id, f) = some (e, f') := h
    simp at h; obtain ⟨rfl, rfl⟩ := h; exact acode_here wp_exit hQ
  | .ret, f, f', e, _, h, Q, hQ => by
    have h : some (Exit.ret, f) = some (e, f') := h
    simp at h; obtain ⟨rfl, rfl⟩ := h; exact acode_here wp_ret hQ
  | .loop c, f, f', e, hc, h, Q, hQ => by
    simp only [chkAll] at hc
    exact floop_sound G n (fun f e f' hb Q hQ => fcode_sound hE hX live fuel c f f' e hc hb Q hQ) h hQ
  | .rangeFunc _ _ _ _, _, _, _, _, h, _, _ => by cases h
  | .scope c, f, f', e, hc, h, Q, hQ => by
    simp only [chkAll] at hc
    rw [fcode_scope] at h
    cases hx : fcode X E G H n live fuel c f with
    | none => rw [hx] at h; simp at h
    | some r =>
      obtain ⟨e1, f1⟩ := r
      rw [hx] at h
      intro w R N act bsT bsL bsH bsF hr D hd
      apply wp_scope_straight
      refine wp_mono (fcode_sound hE hX live fuel c f f1 e1 hc hx (fun e' s'' => e' = e1 ∧ s'' = f1.toA n) ⟨rfl, rfl⟩ w R N act bsT bsL bsH bsF hr hd) ?_
      rintro e2 a w' ⟨s2, R', N', bsT', bsL', bsH', ⟨rfl, rfl⟩, rest⟩
      cases e2 with
      | goto l => simp at h
      | _ => simp at h; obtain ⟨rfl, rfl⟩ := h; exact ⟨_, R', N', bsT', bsL', bsH', hQ, rest⟩
  | .label _, f, f', e, _, h, Q, hQ => by
    have h : some (Exit.normal, f) = some (e, f') := h
    simp at h; obtain ⟨rfl, rfl⟩ := h; exact acode_here wp_label hQ
  | .goto _, _, _, _, _, h, _, _ => by cases h
  | .refuse _, _, _, _, _, h, _, _ => by cases h

/-! ### Results -/
noncomputable def fcellVal (f : FState) (a : Tmp) (t : TypeId) : Option AVal :=
  match fget n f a with
  | .ptr k off => (match fobj f k, E.ty t with
    | some (.cells cs), some i => loadCells i off cs
    | _, _ => none)
  | _ => none
theorem fcellVal_eq (f : FState) (a : Tmp) (t : TypeId) : cellVal E (f.toA n) a t = fcellVal E n f a t := by
  unfold cellVal fcellVal
  rw [fget_eq]
  cases fget n f a with
  | ptr k off => dsimp only; rw [fobj_eq]; rfl
  | _ => rfl

noncomputable def fretVals : FState → List ResultVar → Option (List AVal)
  | _, [] => some []
  | f, .tmp t :: r => (match fretVals (fdrop n f (some 0) [.tmp t]) r with | some vs => some (fget n f t :: vs) | none => none)
  | f, .cell a t :: r => (match fcellVal E n f a t, fretVals f r with | some v, some vs => some (v :: vs) | _, _ => none)
theorem fretVals_eq : ∀ (rs : List ResultVar) (f : FState), retVals E (f.toA n) rs = fretVals E n f rs
  | [], _ => rfl
  | .tmp t :: r, f => by
    simp only [retVals, fretVals, ← fdrop_eq, fretVals_eq r, fget_eq]
    cases fretVals E n (fdrop n f (some 0) [.tmp t]) r <;> rfl
  | .cell a t :: r, f => by
    simp only [retVals, fretVals, fcellVal_eq, fretVals_eq r]
    cases fcellVal E n f a t <;> cases fretVals E n f r <;> rfl

noncomputable def fexp : List Name → FState → List AVal → FState × List AVal
  | [], f, args => (f, args)
  | k :: ks, f, args =>
    (match (mentionsL k args || locsMention k f.locs) with
     | true => (match fprep1 true k f args with
      | some (f', args') => fexp ks f' args'
      | none => fexp ks f args)
     | false => fexp ks f args)
theorem fexp_eq : ∀ (ks : List Name) (f : FState) (args : List AVal), expAll ks (f.toA n) args = ((fexp ks f args).1.toA n, (fexp ks f args).2)
  | [], _, _ => rfl
  | k :: ks, f, args => by
    simp only [expAll, fexp, fprep1_eq]
    have e : (f.toA n).locs = f.locs := rfl
    rw [e]
    cases (mentionsL k args || locsMention k f.locs) with
    | false => rw [if_neg (by simp)]; exact fexp_eq ks f args
    | true =>
      rw [if_pos rfl]
      cases fprep1 true k f args with
      | none => exact fexp_eq ks f args
      | some x => exact fexp_eq ks x.1 x.2

noncomputable def fret (rs : List ResultVar) (f : FState) : Option XRes :=
  match fretVals E n f rs with
  | none => none
  | some vs =>
    match noLocL (tidyL vs) with
    | true => some ⟨pack (tidyL vs), f.heap, f.next⟩
    | false => match fexp (repeatL f.locs.length (locNames f.locs)) f (tidyL vs) with
      | (f', vs') => if noLocL vs' = true then some ⟨pack vs', f'.heap, f'.next⟩ else none
theorem fret_eq (rs : List ResultVar) (f : FState) : xret E rs (f.toA n) = fret E n rs f := by
  unfold xret fret
  rw [fretVals_eq]
  cases fretVals E n f rs with
  | none => rfl
  | some vs =>
    dsimp only
    cases noLocL (tidyL vs) with
    | true => rw [if_pos rfl]; rfl
    | false =>
      rw [if_neg (by simp)]
      dsimp only
      have e : (f.toA n).locs = f.locs := rfl
      rw [e, fexp_eq]
      generalize fexp (repeatL f.locs.length (locNames f.locs)) f (tidyL vs) = pr
      obtain ⟨f', vs'⟩ := pr
      rfl

def slOf : Nat → List AVal → Sl
  | _, [] => []
  | k, a :: r => (k, a) :: slOf (k + 1) r
theorem slOf_get : ∀ (as : List AVal) (k t : Nat), getS (slOf k as) t = if k ≤ t then getT as (t - k) else .undef
  | [], k, t => by
    rw [slOf, getS_nil]
    split <;> simp [getT]
  | a :: r, k, t => by
    rw [slOf, getS_cons, slOf_get r (k + 1) t]
    by_cases h : k = t
    · subst h; simp [getT]
    · rw [if_neg h]
      by_cases h2 : k ≤ t
      · rw [if_pos (by omega), if_pos h2]
        unfold getT
        rw [show t - k = (t - (k + 1)) + 1 by omega]
        simp
      · rw [if_neg (by omega), if_neg h2]
end

section
variable (E : TEnv) (G : Globs) (moves caps : FuncId → Bool) (F : FuncId → Option XFn) (M : XCalls) (fuel : Nat)
/-- A call, run; M: calls that are known. -/
noncomputable def fcall : Nat → XCalls
  | 0 => fun _ _ _ _ => none
  | k + 1 => fun g args heap next =>
    match F g with
    | none => none
    | some x => match Nat.ble args.length x.ntmps with
      | false => none
      | true => (match fcode (fun g args heap next => match M g args heap next with | some r => some r | none => fcall k g args heap next) E G ⟨moves, x.ord, caps, rowsOf caps g⟩ x.ntmps x.live fuel x.code ⟨slOf 0 args, [], heap, next⟩ with
        | some (.ret, f) => (match fret E x.ntmps x.results f with | some r => some (gcR next r) | none => none)
        | some (.normal, f) => (match fret E x.ntmps x.results f with | some r => some (gcR next r) | none => none)
        | _ => none)

variable {E G moves caps F M}
theorem fcall_sound {P : Program} (hE : E.Ok P) (hF : FOk P moves caps F) (hM : XOk P G M) : ∀ k, XOk P G (fcall E G moves caps F M fuel k)
  | 0 => by intro f args heap next r h; cases h
  | k + 1 => by
    intro g args heap next r h
    simp only [fcall] at h
    split at h
    · simp at h
    · rename_i x hx
      obtain ⟨fn, h1, h2, h3, h4, h5⟩ := hF g x hx
      have ih := fcall_sound hE hF hM k
      have hX : XOk P G (fun g args heap next => match M g args heap next with | some r => some r | none => fcall E G moves caps F M fuel k g args heap next) := by
        intro g args heap next r h
        dsimp only at h
        split at h
        · rename_i r' hr'
          simp at h
          subst h
          exact hM _ _ _ _ _ hr'
        · exact ih _ _ _ _ _ h
      split at h
      · simp at h
      · rename_i hlen
        have hlen := ble_to hlen
        have hent : (⟨slOf 0 args, [], heap, next⟩ : FState).toA x.ntmps = enter x.ntmps args heap next := by
          simp only [FState.toA, enter]
          congr 1
          apply List.ext_getElem?
          intro i
          rw [mkS_get, Nat.zero_add, slOf_get, if_pos (Nat.zero_le _), Nat.sub_zero, List.getElem?_append]
          split
          · split
            · rename_i hi; unfold getT; rw [List.getElem?_eq_getElem hi]
            · rename_i hi1 hi
              rw [List.getElem?_replicate, if_pos (by omega)]
              unfold getT
              rw [List.getElem?_eq_none (by omega)]
          · rename_i hi
            rw [if_neg (by omega), List.getElem?_replicate, if_neg (by omega)]
        have key : ∀ e f, fcode (fun g args heap next => match M g args heap next with | some r => some r | none => fcall E G moves caps F M fuel k g args heap next) E G ⟨moves, x.ord, caps, rowsOf caps g⟩ x.ntmps x.live fuel x.code ⟨slOf 0 args, [], heap, next⟩ = some (e, f) → e = .ret ∨ e = .normal →
            (match fret E x.ntmps x.results f with | some r => some (gcR next r) | none => none) = some r → ACalls P G g args heap next (XQ r) := by
          intro e f hx he hr
          cases hf : fret E x.ntmps x.results f with
          | none => rw [hf] at hr; simp at hr
          | some r0 =>
            rw [hf] at hr
            simp at hr
            subst hr
            apply ACalls.gc
            refine acalls_of_acode hE h1 h2 ?_
            intro _ _
            rw [h3, h4, ← hent]
            refine fcode_sound _ E G ⟨moves, x.ord, caps, rowsOf caps g⟩ x.ntmps hE hX x.live fuel x.code _ _ _ (by rw [chkAll_rows]; exact h5) hx _ ?_
            have := xret_sound (E := E) (rs := x.results) (s := f.toA x.ntmps) (r := r0) (by rw [fret_eq]; exact hf)
            rcases he with rfl | rfl <;> exact this
        split at h
        · rename_i f hf; exact key _ _ hf (.inl rfl) h
        · rename_i f hf; exact key _ _ hf (.inr rfl) h
        · simp at h
end
end Go.Tp
