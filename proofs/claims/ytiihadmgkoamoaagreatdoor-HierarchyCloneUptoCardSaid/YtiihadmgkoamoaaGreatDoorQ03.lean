/- HierarchyClone returns true and changes nothing, for arguments of bulk at most 1048576 (the card of the second form; conditions: those of the given row). Names are shortened by a program, for the claim's bound. Part 3. -/
import Derived.Scope
import Derived.Deep.Slices
import Derived.ChangeSame
import Derived.LaidLaws
import Derived.RowKit
import Derived.KernelRfl
import Derived.ChangeSlices
import Derived.ReadAgain
import Derived.ChangeMaps5
import Derived.Test.YtiihadmgkoamoaaGreatDoorQ02
set_option linter.unusedVariables false
set_option linter.unusedSimpArgs false
set_option maxRecDepth 100000
set_option maxHeartbeats 4000000
namespace Go.Tp
/-! ### Slots that are not read any more -/
noncomputable def dV (l : Sl) : Nat -> Sl :=
 @List.rec (Nat × ac) (fun _ => Nat -> Sl) (fun _ => []) (fun p _ ih m => @Bool.rec (fun _ => Sl) (p :: ih (Nat.xor m (Nat.pow 2 p.1))) (ih m) (Nat.beq (Nat.land 1 (Nat.shiftRight m p.1)) 0)) l
theorem WM (m d : Nat) : Nat.beq (Nat.land 1 (Nat.shiftRight m d)) 0 = !(m.testBit d) := by
 have e : m.testBit d = (Nat.land 1 (Nat.shiftRight m d) != 0) := rfl
 rw [e]
 generalize Nat.land 1 (Nat.shiftRight m d) = x
 by_cases h : x = 0
 ·subst h; rfl
 have h1 : Nat.beq x 0 = false := by rw [Bool.eq_false_iff]; intro hc; rw [Nat.beq_eq] at hc; exact h hc
 have h2 : (x != 0) = true := by simpa using h
 rw [h1, h2]; rfl
theorem tL (d : Nat) (v : ac) (r : Sl) (m : Nat) : dV ((d, v) :: r) m = if m.testBit d = true then (d, v) :: dV r (m ^^^ 2 ^ d) else dV r m := by
 have e : dV ((d, v) :: r) m = @Bool.rec (fun _ => Sl) ((d, v) :: dV r (m ^^^ 2 ^ d)) (dV r m) (Nat.beq (Nat.land 1 (Nat.shiftRight m d)) 0) := rfl
 rw [e, WM]
 cases m.testBit d <;> simp
theorem pM : ∀ (l : Sl) (m t : Nat), m.testBit t = false -> oZ (dV l m) t = .undef
 | [], _, _, _ => rfl
 |(d, v) :: r, m, t, h => by
  rw [tL]
  split
  ·rename_i hd
   have hne : d ≠ t := fun e => by rw [e, h] at hd; simp at hd
   rw [gl, if_neg hne]
   apply pM
   rw [Nat.testBit_xor, h, Nat.testBit_two_pow_of_ne hne]; rfl
  exact pM r m t h
theorem pN : ∀ (l : Sl) (m t : Nat), oZ (dV l m) t = oZ l t ∨ oZ (dV l m) t = .undef
 | [], _, _ => .inl rfl
 |(d, v) :: r, m, t => by
  rw [tL, gl]
  split
  ·rw [gl]
   split
   ·exact .inl rfl
   exact pN r _ t
  rename_i hd
  split
  ·rename_i he
   subst he
   exact .inr (pM r m d (by simpa using hd))
  exact pN r m t
theorem CU {w : World} {R : Own} {N : Name -> Option Nat} : ∀ {as as' : List ac} {vs : List Value} {bs : List Nat}, as'.length = as.length -> (∀ i : Nat, as'[i]? = as[i]? ∨ as'[i]? = some .undef) -> ag w R N as vs bs -> ∃ bs', ag w R N as' vs bs' /\ bs'.Sublist bs
 | [], [], _, bs, _, _, h => ⟨bs, h, .refl _⟩
 | [], _ :: _, _, _, hl, _, _ => by simp at hl
 | _ :: _, [], _, _, hl, _, _ => by simp at hl
 | a :: as, a' :: as', vs, bs, hl, hi, h => by
  obtain ⟨v, vs', b1, b2, rfl, rfl, h1, h2⟩ := aD h
  obtain ⟨bs', k1, k2⟩ := CU (as := as) (as' := as') (by simpa using hl) (fun i => by simpa using hi (i + 1)) h2
  rcases hi 0 with h0 | h0
  ·simp at h0
   subst h0
   exact ⟨b1 ++ bs', aI h1 k1, List.Sublist.append (.refl _) k2⟩
  simp at h0
  subst h0
  exact ⟨[] ++ bs', aI (aP _) k1, List.Sublist.append (List.nil_sublist _) k2⟩
def jK (f : ab) (m : Sl -> Sl) : ab := match f with | ⟨sl, locs, heap, next⟩ => ⟨m sl, locs, heap, next⟩
theorem cS.prune {G : bD} {w : World} {R : Own} {N : Name -> Option Nat} {tmps : List Value} {n : Nat} {f : ab} {bsT bsL bsH bsF : List Nat} (h : cS G w R N tmps (f.aw n) undef .undef [] bsT bsL bsH bsF) (m : Nat) :
  ∃ bsT', cS G w R N tmps ((jK f (fun l => dV l m)).aw n) undef .undef [] bsT' bsL bsH bsF := by
 obtain ⟨sl, locs, heap, next⟩ := f
 obtain ⟨bsT', k1, k2⟩ := CU (as' := CS n 0 (dV sl m)) (by simp [ab.aw, lS]) (fun i => by
  simp only [ab.aw, kj]
  split
  ·rcases pN sl m (0 + i) with h | h
   ·exact .inl (by rw [h])
   exact .inr (by rw [h])
  exact .inl rfl) h.tmps
 exact ⟨bsT', aP _, k1, h.locs, h.heap, List.Nodup.sublist (List.Sublist.append (.refl _) (List.Sublist.append k2 (.refl _))) h.nodup, h.next, h.glob, h.frame⟩
/-! ### What a call leaves and nobody names -/
mutual
/-- Names a new object. -/
def dG (k : Nat) : ac -> Bool
 | .ptr (.out o) _ => Nat.ble k o
 | .ptr (.loc _) _ => true
 | .map (.out o) => Nat.ble k o
 | .map (.loc _) => true
 | .win (.out o) _ _ _ => Nat.ble k o
 | .win (.loc _) _ _ _ => true
 | .fn _ a b => dR k a || dR k b
 | .agg cs => dR k cs
 | .tup cs => dR k cs
 | _ => false
def dR (k : Nat) : List ac -> Bool
 | [] => false
 | a :: r => dG k a || dR k r
end
def jf (k : Nat) : Name -> Bool
 | .out o => Nat.blt o k
 | .loc _ => false
def eG (k : Nat) : Heap -> Heap
 | [] => []
 |(m, o) :: r => match jf k m with | true => (m, o) :: eG k r | false => eG k r
def nj (k : Nat) : aN -> Bool
 | .cells cs => dR k cs
 | .map _ => false
def cO (k : Nat) : Heap -> Bool
 | [] => false
 |(_, o) :: r => nj k o || cO k r
mutual
def GJ : ac -> List Nat
 | .ptr (.out o) _ => [o]
 | .map (.out o) => [o]
 | .win (.out o) _ _ _ => [o]
 | .fn _ a b => zo a ++ zo b
 | .agg cs => zo cs
 | .tup cs => zo cs
 | _ => []
def zo : List ac -> List Nat
 | [] => []
 | a :: r => GJ a ++ zo r
end
def gF (o : Nat) : List Nat -> Bool
 | [] => false
 | x :: r => match Nat.beq x o with | true => true | false => gF o r
def TG : List Nat -> List Nat -> List Nat
 | [], l => l
 | n :: ns, l => match gF n l with | true => TG ns l | false => TG ns (n :: l)
def oC (k : Nat) (l : List Nat) : Heap -> List Nat
 | [] => l
 |(.out o, .cells cs) :: r => (match Nat.blt o k || gF o l with | true => oC k (TG (zo cs) l) r | false => oC k l r)
 | _ :: r => oC k l r
def Bp (k : Nat) (h : Heap) : Nat -> List Nat -> List Nat
 | 0, l => l
 | n + 1, l => Bp k h n (oC k l h)
def lp (k : Nat) (l : List Nat) : Heap -> Heap
 | [] => []
 |(.out o, x) :: r => (match Nat.blt o k || gF o l with | true => (.out o, x) :: lp k l r | false => lp k l r)
 | _ :: r => lp k l r
def rW (k : Nat) (r : eu) : eu :=
 match r with
 | ⟨val, heap, next⟩ => match dG k val || cO k (eG k heap) with
  | false => ⟨val, eG k heap, k⟩
  | true => ⟨val, lp k (Bp k heap 3 (GJ val)) heap, next⟩
section
variable {w : World} {R : Own} {M M2 : Name -> Option Nat}
theorem ng (k : Nat) : ∀ {os : Heap} {bs : List Nat}, al w R M os bs -> ∃ bs', al w R M (eG k os) bs' /\ bs'.Sublist bs
 | [], bs, h => ⟨bs, h, .refl _⟩
 |(m, o) :: os, _, ⟨b, b1, b2, e, hn, ho, hr⟩ => by
  subst e
  obtain ⟨bs', k1, k2⟩ := ng k hr
  simp only [eG]
  split
  ·exact ⟨b :: (b1 ++ bs'), ⟨b, b1, bs', rfl, hn, ho, k1⟩, (List.Sublist.append (.refl _) k2).cons_cons _⟩
  exact ⟨bs', k1, k2.trans ((List.sublist_append_right b1 b2).cons _)⟩
theorem jh (k : Nat) (l : List Nat) : ∀ {os : Heap} {bs : List Nat}, al w R M os bs -> ∃ bs', al w R M (lp k l os) bs' /\ bs'.Sublist bs
 | [], bs, h => ⟨bs, h, .refl _⟩
 |(.out m, o) :: os, _, ⟨b, b1, b2, e, hn, ho, hr⟩ => by
  subst e
  obtain ⟨bs', k1, k2⟩ := jh k l hr
  simp only [lp]
  split
  ·exact ⟨b :: (b1 ++ bs'), ⟨b, b1, bs', rfl, hn, ho, k1⟩, (List.Sublist.append (.refl _) k2).cons_cons _⟩
  exact ⟨bs', k1, k2.trans ((List.sublist_append_right b1 b2).cons _)⟩
 |(.loc m, o) :: os, _, ⟨b, b1, b2, e, hn, ho, hr⟩ => by
  subst e
  obtain ⟨bs', k1, k2⟩ := jh k l hr
  exact ⟨bs', k1, k2.trans ((List.sublist_append_right b1 b2).cons _)⟩
variable (hM : ∀ m b, (∃ o, m = .out o) -> M m = some b -> M2 m = some b)
mutual
theorem ak.low {k : Nat} (hM : ∀ o b, o < k -> M (.out o) = some b -> M2 (.out o) = some b) : ∀ {a : ac} {v : Value} {bs : List Nat}, dG k a = false -> ak w R M a v bs -> ak w R M2 a v bs
 | .dat _, _, _, _, h => by simp only [ak] at h ⊢; exact h
 | .own _, _, _, _, h => by simp only [ak] at h ⊢; exact h
 | .ref _, _, _, _, h => by simp only [ak] at h ⊢; exact h
 | .ptr (.loc _) _, _, _, hn, _ => by simp [dG] at hn
 | .ptr (.out o) _, _, _, hn, h => by
  simp only [dG] at hn
  simp only [ak] at h ⊢
  obtain ⟨h1, b, hb, e⟩ := h
  exact ⟨h1, b, hM o b (by rcases Nat.lt_or_ge o k with h | h; exact h; rw [gQ h] at hn; simp at hn) hb, e⟩
 | .map (.loc _), _, _, hn, _ => by simp [dG] at hn
 | .win (.loc _) _ _ _, _, _, hn, _ => by simp [dG] at hn
 | .win (.out o) _ _ _, _, _, hn, h => by
  simp only [dG] at hn
  simp only [ak] at h ⊢
  obtain ⟨h1, b, cap, hb, e⟩ := h
  exact ⟨h1, b, cap, hM o b (by rcases Nat.lt_or_ge o k with h | h; exact h; rw [gQ h] at hn; simp at hn) hb, e⟩
 | .map (.out o), _, _, hn, h => by
  simp only [dG] at hn
  simp only [ak] at h ⊢
  obtain ⟨h1, b, hb, e⟩ := h
  exact ⟨h1, b, hM o b (by rcases Nat.lt_or_ge o k with h | h; exact h; rw [gQ h] at hn; simp at hn) hb, e⟩
 | .fn _ first captured, _, _, hn, h => by
  simp only [dG, Bool.or_eq_false_iff] at hn
  simp only [ak] at h ⊢
  obtain ⟨h1, vs', us', e, h2, h3⟩ := h
  exact ⟨h1, vs', us', e, ag.low hM (as := first) hn.1 h2, ag.low hM (as := captured) hn.2 h3⟩
 | .agg cs, _, _, hn, h => by
  simp only [dG] at hn
  simp only [ak] at h ⊢
  obtain ⟨vs', e, h2⟩ := h
  exact ⟨vs', e, ag.low hM (as := cs) hn h2⟩
 | .tup cs, _, _, hn, h => by
  simp only [dG] at hn
  simp only [ak] at h ⊢
  obtain ⟨vs', e, h2⟩ := h
  exact ⟨vs', e, ag.low hM (as := cs) hn h2⟩
 | .undef, _, _, _, h => by simp only [ak] at h ⊢; exact h
theorem ag.low {k : Nat} (hM : ∀ o b, o < k -> M (.out o) = some b -> M2 (.out o) = some b) : ∀ {as : List ac} {vs : List Value} {bs : List Nat}, dR k as = false -> ag w R M as vs bs -> ag w R M2 as vs bs
 | [], _, _, _, h => by simp only [ag] at h ⊢; exact h
 | a :: as, _, _, hn, h => by
  simp only [dR, Bool.or_eq_false_iff] at hn
  simp only [ag] at h ⊢
  obtain ⟨v', vs', b1', b2', e1, e2, h1, h2⟩ := h
  exact ⟨v', vs', b1', b2', e1, e2, ak.low hM (a := a) hn.1 h1, ag.low hM (as := as) hn.2 h2⟩
end
theorem nk (k : Nat) : ∀ (l m : List ac), dR k (l ++ m) = (dR k l || dR k m)
 | [], m => by simp [dR]
 | a :: l, m => by simp [dR, nk k l m, Bool.or_assoc]
theorem LS (k : Nat) (cs : List ac) (j : Nat) : dR k (cs ++ List.replicate j .undef) = dR k cs := by
 rw [nk]
 have : dR k (List.replicate j .undef) = false := by
  induction j with
  | zero => rfl
  | succ j ih => simp [List.replicate_succ, dR, dG, ih]
 rw [this, Bool.or_false]
theorem al.low {k : Nat} (hM : ∀ o b, o < k -> M (.out o) = some b -> M2 (.out o) = some b) : ∀ {os : Heap} {bs : List Nat}, (∀ p ∈ os, jf k p.1 = true) -> cO k os = false -> al w R M os bs -> al w R M2 os bs
 | [], _, _, _, h => h
 |(m, o) :: os, _, hs, hn, ⟨b, b1, b2, e, hb, ho, hr⟩ => by
  simp only [cO, Bool.or_eq_false_iff] at hn
  have hm := hs (m, o) (by simp)
  refine ⟨b, b1, b2, e, ?_, ?_, al.low hM (fun p hp => hs p (by simp [hp])) hn.2 hr⟩
  ·cases m with
   | loc i => simp [jf] at hm
   | out i => exact hM i b (nV (by simpa [jf] using hm)) hb
  cases o with
  | cells cs =>
   obtain ⟨vs, el, sp, hblk, hrr, hR⟩ := ho
   exact ⟨vs, el, sp, hblk, hrr.low hM (by rw [LS]; simpa [nj] using hn.1), hR⟩
  | map es => exact ho
theorem ki (k : Nat) : ∀ os : Heap, ∀ p ∈ eG k os, jf k p.1 = true
 | [], p, h => by simp [eG] at h
 |(m, o) :: os, p, h => by
  simp only [eG] at h
  split at h
  ·rename_i hm
   rcases List.mem_cons.1 h with rfl | h
   ·exact hm
   exact ki k os p h
  exact ki k os p h
end
theorem ay.gc {P : Program} {G : bD} {f : FuncId} {args : List ac} {heap : Heap} {next : Nat} {r : eu} (h : ay P G f args heap next (XQ r)) : ay P G f args heap next (XQ (rW next r)) := by
 intro w R N cargs bsA bsH bsF ha hh hnd hnx hg hF
 refine (h w R N cargs bsA bsH bsF ha hh hnd hnx hg hF).mono ?_
 rintro e w' ⟨v', cv, heap', next', R', N', bsV, bsH', rfl, ⟨rfl, rfl, rfl⟩, hv', hh', hnd', hnx', hk, hN⟩
 obtain ⟨val, heap', next'⟩ := r
 dsimp only at hv' hh' hnx' ⊢
 unfold rW
 dsimp only
 split
 ·rename_i hnew
  simp only [Bool.or_eq_false_iff] at hnew
  obtain ⟨bs', k1, k2⟩ := ng next hh'
  let N2 : Name -> Option Nat := fun m => match m with | .loc i => N' (.loc i) | .out o => if o < next then N' (.out o) else none
  have hM : ∀ o b, o < next -> outs N' (.out o) = some b -> outs N2 (.out o) = some b := by
   intro o b ho hb
   simp only [outs] at hb ⊢
   simp only [N2]
   rw [if_pos ho]; exact hb
  refine ⟨val, cv, eG next heap', next, R', N2, bsV, bs', rfl, ⟨rfl, rfl, rfl⟩, hv'.low hM hnew.1, k1.low hM (ki next heap') hnew.2, ?_, ?_, hk, ?_⟩
  ·exact List.Nodup.sublist (List.Sublist.append (.refl _) (List.Sublist.append k2 (.refl _))) hnd'
  ·intro o b hb
   simp only [N2] at hb
   split at hb
   ·assumption
   simp at hb
  intro o b hb
  simp only [N2]
  rw [if_pos (hnx o b hb)]
  exact hN o b hb
 obtain ⟨bs', k1, k2⟩ := jh next (Bp next heap' 3 (GJ val)) hh'
 exact ⟨val, cv, _, next', R', N', bsV, bs', rfl, ⟨rfl, rfl, rfl⟩, hv', k1, List.Nodup.sublist (List.Sublist.append (.refl _) (List.Sublist.append k2 (.refl _))) hnd', hnx', hk, hN⟩
/-! ### Code -/
section
variable (X : iu) (E : bp) (G : bD) (H : Hints) (n : Nat)
def rl (f : ab) (r : eu) (dst : Option Tmp) : ab :=
 match f, r with
 | ⟨sl, locs, _, _⟩, ⟨v, heap, next⟩ => iO ⟨sl, locs, heap, next⟩ dst v
theorem jM (f : ab) (r : eu) (dst : Option Tmp) : (rl f r dst).aw n = ({ f.aw n with heap := r.heap, next := r.next } : aa).put dst r.val := by
 obtain ⟨sl, locs, heap, next⟩ := f
 obtain ⟨v, h, k⟩ := r
 simp only [rl, dS]; rfl
noncomputable def Fz (all : List Oper) (o : Oper) (f : ab) : Option ab :=
 match fX n all f o.guard with
 | none => none
 | some b => match b with
  | true =>
   (match cU o.op with
    | some c => (match oO E G H n c f with
     | some (g, args, f2) => (match X g args f2.heap f2.next with
      | some r => some (rl f2 r o.dst)
      | none => none)
     | none => none)
    | none => tX E G n (readOnly H.moves all o) (jY H all o) o f)
  | false => some (iO f o.dst (.tup []))
theorem sM {all : List Oper} {o : Oper} {f f' : ab} (h : Fz X E G H n all o f = some f') : D4 X E G H all o (f.aw n) = some (f'.aw n) := by
 unfold Fz at h
 unfold D4
 rw [jI]
 cases hw : fX n all f o.guard with
 | none => rw [hw] at h; simp at h
 | some b =>
  rw [hw] at h
  cases b with
  | false => simp at h; subst h; simp [dS]
  | true =>
   dsimp only at h ⊢
   rw [if_pos rfl]
   cases hc : cU o.op with
   | none =>
    rw [hc] at h
    dsimp only at h ⊢
    rw [ra, h]; rfl
   | some c =>
    rw [hc] at h
    dsimp only at h ⊢
    rw [xA]
    cases hcal : oO E G H n c f with
    | none => rw [hcal] at h; simp at h
    | some x =>
     obtain ⟨g, args, f2⟩ := x
     rw [hcal] at h
     dsimp only [Option.map_some] at h ⊢
     have e1 : (f2.aw n).heap = f2.heap := rfl
     have e2 : (f2.aw n).next = f2.next := rfl
     rw [e1, e2]
     cases hr : X g args f2.heap f2.next with
     | none => rw [hr] at h; simp at h
     | some r =>
      rw [hr] at h
      simp at h
      subst h
      simp [jM]
noncomputable def Bc (all : List Oper) (ops : List Oper) : ab -> Option ab :=
 @List.rec Oper (fun _ => ab -> Option ab) (fun f => some f) (fun o _ ih f => match Fz X E G H n all o f with | some f' => ih f' | none => none) ops
theorem oL {all : List Oper} : ∀ {ops : List Oper} {f f' : ab}, Bc X E G H n all ops f = some f' -> BK X E G H all ops (f.aw n) = some (f'.aw n)
 | [], f, f', h => by
  have e : Bc X E G H n all [] f = some f := rfl
  rw [e] at h; simp at h; subst h; rfl
 | o :: rest, f, f', h => by
  have e : Bc X E G H n all (o :: rest) f = (match Fz X E G H n all o f with | some f' => Bc X E G H n all rest f' | none => none) := rfl
  rw [e] at h
  simp only [BK]
  cases ho : Fz X E G H n all o f with
  | none => rw [ho] at h; simp at h
  | some f1 =>
   rw [ho] at h
   rw [sM X E G H n ho]
   exact oL h
noncomputable def sJ (tk : List Nat) (t : Tmp) (f : ab) : List Nat := match Fk (pa n f t) with | true => [] | false => tk
theorem zC (tk : List Nat) (t : Tmp) (f : ab) : jX tk t (f.aw n) = sJ n tk t f := by
 unfold jX sJ
 rw [iC]
 cases Fk (pa n f t) <;> rfl
noncomputable def Fy (fh : Bool) (tk : List Nat) (all : List Oper) (o : Oper) (f : ab) : Option ab :=
 match fX n all f o.guard with
 | none => none
 | some b => match b with
  | true =>
   (match cU o.op with
    | some c => (match lx E G H n c f with
     | some (g, args, f2) => (match gf H o with
      | true => (match X g args [] f2.next with
       | some ⟨v, [], k⟩ => some (rl f2 ⟨v, f2.heap, k⟩ o.dst)
       | _ => none)
      | false => (match X g args f2.heap f2.next with
       | some r => (match !kN H o || rY f2.heap r.heap with
        | true => some (rl f2 r o.dst)
        | false => none)
       | none => none))
     | none => none)
    | none => (match eN o.op with
     | some t => (match ko n fh all (fe all t (sJ n tk t f)) f with
      | some f1 => tX E G n false false o f1
      | none => none)
     | none => (match ji o.op with
      | true => tX E G n (readOnly H.moves all o) (jY H all o) o f
      | false => none)))
  | false => some (iO f o.dst (.tup []))
theorem sL {fh : Bool} {tk : List Nat} {all : List Oper} {o : Oper} {f f' : ab} (h : Fy X E G H n fh tk all o f = some f') : D3 X E G H fh tk all o (f.aw n) = some (f'.aw n) := by
 unfold Fy at h
 unfold D3
 rw [jI]
 cases hw : fX n all f o.guard with
 | none => rw [hw] at h; simp at h
 | some b =>
  rw [hw] at h
  cases b with
  | false => simp at h; subst h; simp [dS]
  | true =>
   dsimp only at h ⊢
   rw [if_pos rfl]
   cases hc : cU o.op with
   | none =>
    rw [hc] at h
    dsimp only at h ⊢
    cases ht : eN o.op with
    | none =>
     rw [ht] at h
     dsimp only at h ⊢
     cases hst : ji o.op with
     | false => rw [hst] at h; simp at h
     | true =>
      rw [hst] at h
      dsimp only at h ⊢
      rw [ra, h]; rfl
    | some t =>
     rw [ht] at h
     dsimp only at h ⊢
     rw [zC]
     cases hs : ko n fh all (fe all t (sJ n tk t f)) f with
     | none => rw [hs] at h; simp at h
     | some f1 =>
      rw [hs] at h
      rw [mf n fh all _ _ _ hs]
      dsimp only at h ⊢
      rw [ra, h]; rfl
   | some c =>
    rw [hc] at h
    dsimp only at h ⊢
    rw [uh]
    cases hcal : lx E G H n c f with
    | none => rw [hcal] at h; simp at h
    | some x =>
     obtain ⟨g, args, f2⟩ := x
     rw [hcal] at h
     dsimp only [Option.map_some] at h ⊢
     have e1 : (f2.aw n).heap = f2.heap := rfl
     have e2 : (f2.aw n).next = f2.next := rfl
     rw [e1, e2]
     cases hpu : gf H o with
     | true =>
      rw [hpu] at h
      dsimp only at h ⊢
      split at h
      ·rename_i v k hr
       simp at h
       subst h
       simp [jM, hr]
      simp at h
     | false =>
      rw [hpu] at h
      dsimp only at h ⊢
      cases hr : X g args f2.heap f2.next with
      | none => rw [hr] at h; simp at h
      | some r =>
       rw [hr] at h
       dsimp only at h ⊢
       cases hst : (!kN H o || rY f2.heap r.heap) with
       | false => rw [hst] at h; simp at h
       | true =>
        rw [hst] at h
        simp at h
        subst h
        simp [jM]
noncomputable def Df (tk : List Nat) (fh : Bool) (fq : Nat -> Bool) (all : List Oper) (l : List (Nat × Bool)) : ab -> Option ab :=
 @List.rec (Nat × Bool) (fun _ => ab -> Option ab) (fun f => some f) (fun p _ ih f =>
  match all[p.1]? with
  | none => none
  | some o => match p.2 with
   | true => (match Fy X E G H n fh tk all o f with | some f' => ih f' | none => none)
   | false => (match nE E G n (fh || fq p.1) all o f with
    | some a => ih (iO f o.dst a)
    | none => none)) l
theorem IW {tk : List Nat} {fh : Bool} {fq : Nat -> Bool} {all : List Oper} {i : Nat} {lone : Bool} {rest : List (Nat × Bool)} {f : ab} : Df X E G H n tk fh fq all ((i, lone) :: rest) f = (match all[i]? with
   | none => none
   | some o => match lone with
    | true => (match Fy X E G H n fh tk all o f with | some f' => Df X E G H n tk fh fq all rest f' | none => none)
    | false => (match nE E G n (fh || fq i) all o f with
     | some a => Df X E G H n tk fh fq all rest (iO f o.dst a)
     | none => none)) := rfl
theorem oK {tk : List Nat} {fh : Bool} {fq : Nat -> Bool} {all : List Oper} : ∀ {l : List (Nat × Bool)} {f f' : ab}, Df X E G H n tk fh fq all l f = some f' -> Ae X E G H tk fh fq all l (f.aw n) = some (f'.aw n)
 | [], f, f', h => by
  have e : Df X E G H n tk fh fq all [] f = some f := rfl
  rw [e] at h; simp at h; subst h; rfl
 |(i, lone) :: rest, f, f', h => by
  rw [IW] at h
  simp only [Ae]
  cases hi : all[i]? with
  | none => rw [hi] at h; simp at h
  | some o =>
   rw [hi] at h
   cases lone
   ·dsimp only at h ⊢
    rw [if_neg (by simp), zD]
    cases ho : nE E G n (fh || fq i) all o f with
    | none => rw [ho] at h; simp at h
    | some a =>
     rw [ho] at h
     dsimp only at h ⊢
     rw [← dS]
     exact oK h
   dsimp only at h ⊢
   rw [if_pos rfl]
   cases ho : Fy X E G H n fh tk all o f with
   | none => rw [ho] at h; simp at h
   | some f1 =>
    rw [ho] at h
    rw [sL X E G H n ho]
    exact oK h
noncomputable def xy (all : List Oper) : Nat -> Array Bool -> ab -> Option ab
 | 0, _, f => some f
 | m + 1, listed, f => match Region.ready .any all.toArray listed with
  | [] => some f
  | i :: _ => (match all[i]? with
   | some o => (match Fz X E G H n all o f with | some f1 => xy all m (bI listed i) f1 | none => none)
   | none => none)
noncomputable def Bi (all : List Oper) (k : Nat) (s0 : aa) : Nat -> Array Bool -> ab -> Bool
 | 0, listed, f => (Region.ready .any all.toArray listed).isEmpty && Ik k s0 (f.aw n)
 | m + 1, listed, f => match Region.ready .any all.toArray listed with
  | [] => Ik k s0 (f.aw n)
  | i :: l => (i :: l).all fun i => match all[i]? with
   | some o => (match Fz X E G H n all o f with | some f1 => Bi all k s0 m (bI listed i) f1 | none => false)
   | none => false
theorem ue {all : List Oper} : ∀ (m : Nat) (listed : Array Bool) (f f' : ab), xy X E G H n all m listed f = some f' -> Ag X E G H all m listed (f.aw n) = some (f'.aw n)
 | 0, listed, f, f', h => by simp only [xy, Option.some.injEq] at h; subst h; rfl
 | m + 1, listed, f, f', h => by
  simp only [xy] at h
  simp only [Ag]
  split at h
  ·rename_i he
   rw [he]
   simp only [Option.some.injEq] at h
   subst h
   rfl
  rename_i i l he
  rw [he]
  dsimp only
  split at h
  ·rename_i o ho
   rw [ho]
   dsimp only
   split at h
   ·rename_i f1 hf1
    rw [sM X E G H n hf1]
    exact ue m _ f1 f' h
   simp at h
  simp at h
theorem ug {all : List Oper} {k : Nat} {s0 : aa} : ∀ (m : Nat) (listed : Array Bool) (f : ab), Bi X E G H n all k s0 m listed f = true -> pD X E G H all k s0 m listed (f.aw n) = true
 | 0, listed, f, h => h
 | m + 1, listed, f, h => by
  simp only [Bi] at h
  simp only [pD]
  split at h
  ·rename_i he
   rw [he]
   exact h
  rename_i i l he
  rw [he]
  dsimp only
  refine List.all_eq_true.2 fun j hj => ?_
  have h1 := List.all_eq_true.1 h j hj
  split at h1
  ·rename_i o ho
   rw [ho]
   dsimp only
   split at h1
   ·rename_i f1 hf1
    rw [sM X E G H n hf1]
    exact ug m _ f1 h1
   simp at h1
  simp at h1
noncomputable def xw (h : aB) (all : List Oper) : Nat -> Array Bool -> ab -> Option ab
 | 0, _, f => some f
 | m + 1, listed, f => match Region.ready .any all.toArray listed with
  | [] => none
  | i :: _ => (match all[i]? with
   | some o => (match Fy X E G H n (aO H all h.pre) h.tk all o f with | some f1 => xw h all m (bI listed i) f1 | none => none)
   | none => none)
noncomputable def Bf (h : aB) (all : List Oper) (p : Array Bool) (s0 : aa) : Nat -> Array Bool -> ab -> Bool
 | 0, listed, f => pc listed.toList p.toList && yX s0 (f.aw n)
 | m + 1, listed, f => !pc listed.toList p.toList && !(Region.ready .any all.toArray listed).isEmpty && (Region.ready .any all.toArray listed).all fun i => h.pre.contains (i, true) && (match all[i]? with
   | some o => (match Fy X E G H n (aO H all h.pre) h.tk all o f with | some f1 => Bf h all p s0 m (bI listed i) f1 | none => false)
   | none => false)
noncomputable def FH (all : List Oper) (h : aB) (f : ab) : Option ab :=
 match Df X E G H n h.tk (aO H all h.pre) (quietAt H all h.pre) all (bJ h.pre) f with
 | some f1 => (match xw X E G H n h all (h.pre.length - (bJ h.pre).length) (dI (bJ h.pre) (Array.replicate all.length false)) f1 with
  | some f0 => (match Bf X E G H n h all (dI h.pre (Array.replicate all.length false)) (f0.aw n) (h.pre.length - (bJ h.pre).length) (dI (bJ h.pre) (Array.replicate all.length false)) f1 with
   | true => (match mg E n all h.nw f0 with
    | some f2 => Bc X E G H n all (du all h.tail) f2
    | none => none)
   | false => none)
  | none => none)
 | none => none
theorem ub {h : aB} {all : List Oper} : ∀ (m : Nat) (listed : Array Bool) (f f' : ab), xw X E G H n h all m listed f = some f' -> Af X E G H h all m listed (f.aw n) = some (f'.aw n)
 | 0, listed, f, f', hh => by simp only [xw, Option.some.injEq] at hh; subst hh; rfl
 | m + 1, listed, f, f', hh => by
  simp only [xw] at hh
  simp only [Af]
  split at hh
  ·simp at hh
  rename_i i l he
  rw [he]
  dsimp only
  split at hh
  ·rename_i o ho
   rw [ho]
   dsimp only
   split at hh
   ·rename_i f1 hf1
    rw [sL X E G H n hf1]
    exact ub m _ f1 f' hh
   simp at hh
  simp at hh
theorem uc {h : aB} {all : List Oper} {p : Array Bool} {s0 : aa} : ∀ (m : Nat) (listed : Array Bool) (f : ab), Bf X E G H n h all p s0 m listed f = true -> pC X E G H h all p s0 m listed (f.aw n) = true
 | 0, listed, f, hh => hh
 | m + 1, listed, f, hh => by
  simp only [Bf, Bool.and_eq_true] at hh
  simp only [pC, Bool.and_eq_true]
  refine ⟨hh.1, List.all_eq_true.2 fun j hj => ?_⟩
  have h1 := List.all_eq_true.1 hh.2 j hj
  simp only [Bool.and_eq_true] at h1 ⊢
  refine ⟨h1.1, ?_⟩
  have h2 := h1.2
  split at h2
  ·rename_i o ho
   rw [ho]
   dsimp only
   split at h2
   ·rename_i f1 hf1
    rw [sL X E G H n hf1]
    exact uc m _ f1 h2
   simp at h2
  simp at h2
theorem Dn {all : List Oper} {h : aB} {f f' : ab} (hh : FH X E G H n all h f = some f') : vB X E G H all h (f.aw n) = some (f'.aw n) := by
 unfold FH at hh
 unfold vB
 split at hh
 ·rename_i f1 h1
  rw [oK X E G H n h1]
  dsimp only
  split at hh
  ·rename_i f0 h0
   rw [ub X E G H n _ _ _ _ h0]
   dsimp only
   split at hh
   ·rename_i h2
    rw [uc X E G H n _ _ _ h2]
    dsimp only
    split at hh
    ·rename_i f2 h3
     rw [jj E n all h.nw f0 f2 h3]
     exact oL X E G H n hh
    simp at hh
   simp at hh
  simp at hh
 simp at hh
noncomputable def Dp (all : List Oper) (h : aB) (f : ab) : Option ab :=
 match fy h with
 | true => (match xy X E G H n all all.length (Array.replicate all.length false) f with
  | some f0 => (match Bi X E G H n all f.next (f0.aw n) all.length (Array.replicate all.length false) f with | true => some f0 | false => none)
  | none => none)
 | false =>
 match fP h with
 | true => FH X E G H n all (eY h) f
 | false =>
 match Df X E G H n h.tk (aO H all h.pre) (quietAt H all h.pre) all h.pre f with
 | some f1 => (match mg E n all h.nw f1 with
  | some f2 => Bc X E G H n all (du all h.tail) f2
  | none => none)
 | none => none
theorem FG {all : List Oper} {h : aB} {f f' : ab} (hh : Dp X E G H n all h f = some f') : Gh X E G H all h (f.aw n) = some (f'.aw n) := by
 unfold Dp at hh
 unfold Gh
 cases hx : fy h with
 | true =>
  rw [hx] at hh
  dsimp only at hh
  rw [if_pos rfl]
  split at hh
  ·rename_i f0 h0
   rw [ue X E G H n _ _ _ _ h0]
   dsimp only
   split at hh
   ·rename_i h2
    simp only [Option.some.injEq] at hh
    subst hh
    have := ug X E G H n _ _ _ h2
    have e : (f.aw n).next = f.next := rfl
    rw [e, this]
   simp at hh
  simp at hh
 | false =>
 rw [hx] at hh
 rw [if_neg (by simp)]
 dsimp only at hh
 cases hlm : fP h with
 | true =>
  rw [hlm] at hh
  rw [if_pos rfl]
  exact Dn X E G H n hh
 | false =>
 rw [hlm] at hh
 rw [if_neg (by simp)]
 dsimp only at hh
 cases h1 : Df X E G H n h.tk (aO H all h.pre) (quietAt H all h.pre) all h.pre f with
 | none => rw [h1] at hh; simp at hh
 | some f1 =>
  rw [h1] at hh
  rw [oK X E G H n h1]
  dsimp only at hh ⊢
  cases h2 : mg E n all h.nw f1 with
  | none => rw [h2] at hh; simp at hh
  | some f2 =>
   rw [h2] at hh
   rw [jj E n all h.nw f1 f2 h2]
   exact oL X E G H n hh
noncomputable def zF (body : ab -> Option (Exit × ab)) (fuel : Nat) : ab -> Option (Exit × ab) :=
 @Nat.rec (fun _ => ab -> Option (Exit × ab)) (fun _ => none) (fun _ ih f => match body f with
  | some (.normal, f') => ih f'
  | r => r) fuel
/-! Steps that the program does not take, behind a region: the live slots' number holds, from bit 4096 on, the slots whose rows become data, from bit 5120 on the slots whose variables become objects. -/
def rD : Nat -> Nat -> Nat -> List Nat
 | 0, _, _ => []
 | m + 1, k, g => match Nat.beq g 0 with
  | true => []
  | false => (match Nat.beq (Nat.land g 1) 1 with | true => k :: rD m (k + 1) (Nat.shiftRight g 1) | false => rD m (k + 1) (Nat.shiftRight g 1))
def wm (a : ac) (heap : Heap) : Option (Nat × List aq) :=
 match rowOf a with
 | some x => Aq x.1 x.2 (rN (.out x.1) heap)
 | none => none
theorem Cc (a : ac) (heap : Heap) : wm a heap = uY a heap := by
 unfold wm uY
 cases rowOf a with
 | none => rfl
 | some x => simp only [lE]
noncomputable def Ta (n t : Nat) (f : ab) : Option ab :=
 match wm (pa n f t) f.heap with
 | some (m, es) => (match iO f (some t) (.dat (.slice es)) with
  | ⟨sl, locs, heap, next⟩ => some ⟨sl, locs, rO (.out m) heap, next⟩)
 | none => none
noncomputable def Dl (n : Nat) : List Nat -> ab -> Option ab
 | [], f => some f
 | t :: r, f => (match Ta n t f with | some f' => Dl n r f' | none => none)
noncomputable def Bb (n : Nat) : List Nat -> ab -> ab
 | [], f => f
 | t :: r, f => Bb n r (tZ false (ri f [pa n f t]) f []).1
noncomputable def jL (n mask : Nat) (f : ab) : Option ab :=
 match Nat.beq (Nat.shiftRight mask 4096) 0 with
 | true => some f
 | false => Dl n (rD 1000 0 (Nat.land (Nat.shiftRight mask 4096) (2 ^ 1024 - 1))) (Bb n (rD 1000 0 (Nat.shiftRight mask 5120)) f)
theorem FF {n t : Nat} {f f' : ab} (h : Ta n t f = some f') : gu G (f.aw n) (f'.aw n) := by
 unfold Ta at h
 rw [Cc] at h
 split at h
 ·rename_i m es hv
  have e : Ar t (f.aw n) = some (f'.aw n) := by
   unfold Ar
   rw [iC]
   have e2 : (f.aw n).heap = f.heap := rfl
   rw [e2, hv]
   have hp := dS (n := n) f (some t) (.dat (.slice es))
   generalize iO f (some t) (.dat (.slice es)) = g at h hp
   obtain ⟨sl, locs, heap, next⟩ := g
   simp only [Option.some.injEq] at h
   subst h
   simp only [ab.aw, aa.put, nZ] at hp ⊢
   have q1 := congrArg aa.tmps hp
   have q2 := congrArg aa.locs hp
   have q3 := congrArg aa.heap hp
   have q4 := congrArg aa.next hp
   simp only at q1 q2 q3 q4
   rw [q1, q2, q3, q4]
  exact IV e
 simp at h
theorem ud {n : Nat} : ∀ (l : List Nat) {f f' : ab}, Dl n l f = some f' -> gu G (f.aw n) (f'.aw n)
 | [], f, f', h => by simp [Dl] at h; subst h; exact .refl _ _
 | t :: r, f, f', h => by
  simp only [Dl] at h
  split at h
  ·rename_i f1 h1
   exact (FF G h1).trans (ud r h)
  simp at h
theorem rf {n : Nat} : ∀ (l : List Nat) (f : ab), gu G (f.aw n) ((Bb n l f).aw n)
 | [], f => .refl _ _
 | t :: r, f => by
  simp only [Bb]
  refine gu.trans ?_ (rf r _)
  have h := Fv (G := G) (ri f [pa n f t]) (f.aw n)
  rw [rh] at h
  exact h
theorem ml {n mask : Nat} {f f' : ab} (h : jL n mask f = some f') : gu G (f.aw n) (f'.aw n) := by
 unfold jL at h
 split at h
 ·simp at h; subst h; exact .refl _ _
 exact (rf G _ _).trans (ud G _ h)
noncomputable def gJ (live : Nat -> Nat) (fuel : Nat) (c : Code) : ab -> Option (Exit × ab) :=
 Code.rec (motive := fun _ => ab -> Option (Exit × ab))
  (skip := fun f => some (.normal, f))
  (region := fun id ops draw f =>
   (match (match draw with | true => Dp X E G H n ops.toList (H.ord id) f | false => Bc X E G (H.at id) n ops.toList ops.toList f) with
    | some f' => (match jL n (live id) (jK f' (fun l => dV l (live id))) with | some f2 => some (.normal, f2) | none => none)
    | none => none))
  (seq := fun _ _ ix iy f => (match ix f with
   | some (.normal, f') => iy f'
   | r => r))
  (cond := fun c _ _ ix iy f => (match mJ G n f c with
   | .dat (.flat (.bool b)) => (match b with | true => ix f | false => iy f)
   | _ => none))
  (block := fun id _ ic f => (match ic f with
   | some (.exit i, f') => (match Nat.beq i id with | true => some (.normal, f') | false => some (.exit i, f'))
   | r => r))
  (loop := fun _ ic f => zF ic fuel f)
  (rangeFunc := fun _ _ _ _ _ _ _ => none)
  (exit := fun id f => some (.exit id, f))
  (scope := fun _ ic f => (match ic f with
   | some (.goto _, _) => none
   | r => r))
  (label := fun _ f => some (.normal, f))
  (goto := fun _ _ => none)
  (ret := fun f => some (.ret, f))
  (refuse := fun _ _ => none) c
theorem Dr {live : Nat -> Nat} {fuel : Nat} {c : Code} {f : ab} : gJ X E G H n live fuel (.scope c) f = (match gJ X E G H n live fuel c f with
   | some (.goto _, _) => none
   | r => r) := rfl
theorem I1 {live : Nat -> Nat} {fuel : Nat} {x y : Code} {f : ab} : gJ X E G H n live fuel (.seq x y) f = (match gJ X E G H n live fuel x f with
   | some (.normal, f') => gJ X E G H n live fuel y f'
   | r => r) := rfl
theorem Ds {live : Nat -> Nat} {fuel : Nat} {id : Nat} {c : Code} {f : ab} : gJ X E G H n live fuel (.block id c) f = (match gJ X E G H n live fuel c f with
   | some (.exit i, f') => (match Nat.beq i id with | true => some (.normal, f') | false => some (.exit i, f'))
   | r => r) := rfl
theorem FI {live : Nat -> Nat} {fuel : Nat} {c : Operand} {x y : Code} {f : ab} : gJ X E G H n live fuel (.cond c x y) f = (match mJ G n f c with
   | .dat (.flat (.bool b)) => (match b with | true => gJ X E G H n live fuel x f | false => gJ X E G H n live fuel y f)
   | _ => none) := rfl
theorem Bj {live : Nat -> Nat} {fuel : Nat} {id : Nat} {ops : Array Oper} {draw : Bool} {f : ab} : gJ X E G H n live fuel (.region id ops draw) f =
   (match (match draw with | true => Dp X E G H n ops.toList (H.ord id) f | false => Bc X E G (H.at id) n ops.toList ops.toList f) with
    | some f' => (match jL n (live id) (jK f' (fun l => dV l (live id))) with | some f2 => some (.normal, f2) | none => none)
    | none => none) := rfl
theorem Dg {P : Program} {c : Code} {body : ab -> Option (Exit × ab)} (hb : ∀ f e f', body f = some (e, f') -> ∀ Q : Exit -> aa -> Prop, Q e (f'.aw n) -> db P G c Q (f.aw n)) {k : Nat} {f f' : ab} {e : Exit}
  (h : zF body k f = some (e, f')) {Q : Exit -> aa -> Prop} (hQ : Q e (f'.aw n)) : db P G (.loop c) Q (f.aw n) := by
 intro w R N act bsT bsL bsH bsF hr D hd
 refine wp_loop_ghost (I := fun k a w' => ∃ f1 R' N' bsT' bsL' bsH', zF body k f1 = some (e, f') /\ cS G w' R' N' a.tmps.toList (f1.aw n) undef .undef [] bsT' bsL' bsH' bsF /\ a.defers = D /\ bz w R w' R' bsF /\ (∀ o b, N (.out o) = some b -> N' (.out o) = some b)) (n0 := k) ?_ ?_
 ·exact ⟨f, R, N, bsT, bsL, bsH, h, hr, hd, bb _, fun _ _ h => h⟩
 rintro k a w' ⟨f1, R', N', bsT', bsL', bsH', hx, hr', hd', hk, hN⟩
 cases k with
 | zero => exact absurd hx (by intro hx; cases hx)
 | succ k =>
  have hx : (match body f1 with
   | some (.normal, f') => zF body k f'
   | r => r) = some (e, f') := hx
  have key : ∀ e1 f2, body f1 = some (e1, f2) -> (e1 = .normal -> zF body k f2 = some (e, f')) -> (e1 ≠ .normal -> e1 = e /\ f2 = f') -> c.wp P (Exit.then (fun a' w' => ∃ n', n' < k + 1 /\ ∃ f1 R' N' bsT' bsL' bsH', zF body n' f1 = some (e, f') /\ cS G w' R' N' a'.tmps.toList (f1.aw n) undef .undef [] bsT' bsL' bsH' bsF /\ a'.defers = D /\ bz w R w' R' bsF /\ (∀ o b, N (.out o) = some b -> N' (.out o) = some b)) (Ad G D Q w R N bsF)) a w' := by
   intro e1 f2 hbody h1 h2
   refine wp_mono (hb f1 e1 f2 hbody (fun e' s'' => e' = e1 /\ s'' = f2.aw n) ⟨rfl, rfl⟩ w' R' N' a bsT' bsL' bsH' bsF hr' hd') ?_
   rintro e3 a3 w3 ⟨s3, R3, N3, bsT3, bsL3, bsH3, ⟨rfl, rfl⟩, hr3, hd3, hk3, hN3⟩
   by_cases he : e3 = .normal
   ·subst he
    exact ⟨k, Nat.lt_succ_self k, f2, R3, N3, bsT3, bsL3, bsH3, h1 rfl, hr3, hd3, hk.trans hk3, fun o b h => hN3 o b (hN o b h)⟩
   obtain ⟨rfl, rfl⟩ := h2 he
   have : Ad G D Q w R N bsF e3 a3 w3 := ⟨_, R3, N3, bsT3, bsL3, bsH3, hQ, hr3, hd3, hk.trans hk3, fun o b h => hN3 o b (hN o b h)⟩
   cases e3 with
   | normal => exact (he rfl).elim
   | _ => exact this
  cases hbd : body f1 with
  | none => rw [hbd] at hx; simp at hx
  | some r =>
   obtain ⟨e1, f2⟩ := r
   rw [hbd] at hx
   cases e1 with
   | normal => exact key _ _ hbd (fun _ => hx) (fun h => (h rfl).elim)
   | _ => simp at hx; exact key _ _ hbd (fun h => by simp at h) (fun _ => hx)
theorem uC {P : Program} {c : Code} {s s2 : aa} {Q : Exit -> aa -> Prop} (h : db P G c (fun e s' => e = .normal /\ s' = s2) s) {s3 : aa} (hg : gu G s2 s3) (hQ : Q .normal s3) : db P G c Q s := by
 intro w R N act bsT bsL bsH bsF hr D hd
 refine wp_mono (h w R N act bsT bsL bsH bsF hr hd) ?_
 rintro e a w' ⟨s', R', N', bsT', bsL', bsH', ⟨rfl, rfl⟩, hr', hd', hk, hN⟩
 obtain ⟨R2, N2, t2, l2, h2, hr2, hk2, hN2⟩ := hg _ _ _ _ _ _ _ _ hr'
 exact ⟨s3, R2, N2, t2, l2, h2, hQ, hr2, hd', hk.trans hk2, fun o b ho => hN2 o b (hN o b ho)⟩
theorem yi {P : Program} {c : Code} {s s2 : aa} {Q : Exit -> aa -> Prop} (h : db P G c (fun e s' => e = .normal /\ s' = s2) s) {s3 : aa}
  (hw : ∀ (w : World) (R : Own) (N : Name -> Option Nat) (tmps : List Value) (bsT bsL bsH bsF : List Nat), cS G w R N tmps s2 undef .undef [] bsT bsL bsH bsF -> ∃ bsT', cS G w R N tmps s3 undef .undef [] bsT' bsL bsH bsF) (hQ : Q .normal s3) : db P G c Q s := by
 intro w R N act bsT bsL bsH bsF hr D hd
 refine wp_mono (h w R N act bsT bsL bsH bsF hr hd) ?_
 rintro e a w' ⟨s', R', N', bsT', bsL', bsH', ⟨rfl, rfl⟩, hr', hd', hk, hN⟩
 obtain ⟨bsT2, hr2⟩ := hw _ _ _ _ _ _ _ _ hr'
 exact ⟨s3, R', N', bsT2, bsL', bsH', hQ, hr2, hd', hk, hN⟩
theorem dT {P : Program} (hE : E.Ok P) (hX : D0 P G X) (live : Nat -> Nat) (fuel : Nat) : ∀ (c : Code) (f f' : ab) (e : Exit), cJ H c = true -> gJ X E G H n live fuel c f = some (e, f') -> ∀ Q : Exit -> aa -> Prop, Q e (f'.aw n) -> db P G c Q (f.aw n)
 | .skip, f, f', e, _, h, Q, hQ => by
  have h : some (Exit.normal, f) = some (e, f') := h
  simp at h; obtain ⟨rfl, rfl⟩ := h; exact fC wp_skip hQ
 | .region id ops draw, f, f', e, hc, h, Q, hQ => by
  rw [Bj] at h
  cases draw
  ·dsimp only at h
   cases h1 : Bc X E G (H.at id) n ops.toList ops.toList f with
   | none => rw [h1] at h; simp at h
   | some f1 =>
    rw [h1] at h
    dsimp only at h
    cases h2 : jL n (live id) (jK f1 (fun l => dV l (live id))) with
    | none => rw [h2] at h; simp at h
    | some f2 =>
    rw [h2] at h
    simp at h
    obtain ⟨rfl, rfl⟩ := h
    refine uC G (yi G (rQ hE (lH hX (oL X E G (H.at id) n h1) ⟨rfl, rfl⟩)) ?_ ⟨rfl, rfl⟩) (ml G h2) hQ
    intro w R N tmps bsT bsL bsH bsF hr
    exact hr.prune _
  dsimp only at h
  cases h1 : Dp X E G H n ops.toList (H.ord id) f with
  | none => rw [h1] at h; simp at h
  | some f1 =>
   rw [h1] at h
   dsimp only at h
   cases h2 : jL n (live id) (jK f1 (fun l => dV l (live id))) with
   | none => rw [h2] at h; simp at h
   | some f2 =>
   rw [h2] at h
   simp at h
   obtain ⟨rfl, rfl⟩ := h
   refine uC G (yi G (yj hE hE.mixed (by simpa [cJ] using hc) (BL hX (FG X E G H n h1) ⟨rfl, rfl⟩)) ?_ ⟨rfl, rfl⟩) (ml G h2) hQ
   intro w R N tmps bsT bsL bsH bsF hr
   exact hr.prune _
 | .seq x y, f, f', e, hc, h, Q, hQ => by
  simp only [cJ, Bool.and_eq_true] at hc
  rw [I1] at h
  refine Aa ?_
  cases hx : gJ X E G H n live fuel x f with
  | none => rw [hx] at h; simp at h
  | some r =>
   obtain ⟨e1, f1⟩ := r
   rw [hx] at h
   refine dT hE hX live fuel x f f1 e1 hc.1 hx _ ?_
   cases e1 with
   | normal => exact dT hE hX live fuel y f1 f' e hc.2 h Q hQ
   | _ => simp at h; obtain ⟨rfl, rfl⟩ := h; exact hQ
 | .cond c x y, f, f', e, hc, h, Q, hQ => by
  simp only [cJ, Bool.and_eq_true] at hc
  intro w R N act bsT bsL bsH bsF hr D hd
  rw [FI] at h
  split at h
  ·rename_i b hb
   obtain ⟨bs, he⟩ := nJ hr.tmps hr.glob c
   rw [lv, hb] at he
   obtain ⟨_, he, _⟩ := aF he
   refine wp_cond he ?_
   cases b
   ·exact dT hE hX live fuel y f f' e hc.2 h Q hQ w R N act bsT bsL bsH bsF hr hd
   exact dT hE hX live fuel x f f' e hc.1 h Q hQ w R N act bsT bsL bsH bsF hr hd
  simp at h
 | .block id c, f, f', e, hc, h, Q, hQ => by
  simp only [cJ] at hc
  rw [Ds] at h
  cases hx : gJ X E G H n live fuel c f with
  | none => rw [hx] at h; simp at h
  | some r =>
   obtain ⟨e1, f1⟩ := r
   rw [hx] at h
   intro w R N act bsT bsL bsH bsF hr D hd
   apply wp_block
   refine wp_mono (dT hE hX live fuel c f f1 e1 hc hx (fun e' s'' => e' = e1 /\ s'' = f1.aw n) ⟨rfl, rfl⟩ w R N act bsT bsL bsH bsF hr hd) ?_
   rintro e2 a w' ⟨s2, R', N', bsT', bsL', bsH', ⟨rfl, rfl⟩, rest⟩
   cases e2 with
   | exit i =>
    simp only [Exit.inBlock]
    dsimp only at h
    by_cases hi : i = id
    ·have hb : Nat.beq i id = true := by rw [Nat.beq_eq]; exact hi
     rw [if_pos hi]
     rw [hb] at h
     simp at h; obtain ⟨rfl, rfl⟩ := h
     exact ⟨_, R', N', bsT', bsL', bsH', hQ, rest⟩
    have hb : Nat.beq i id = false := by rw [Bool.eq_false_iff]; intro hc; rw [Nat.beq_eq] at hc; exact hi hc
    rw [if_neg hi]
    rw [hb] at h
    simp at h; obtain ⟨rfl, rfl⟩ := h
    exact ⟨_, R', N', bsT', bsL', bsH', hQ, rest⟩
   | _ => simp at h; obtain ⟨rfl, rfl⟩ := h; exact ⟨_, R', N', bsT', bsL', bsH', hQ, rest⟩
 | .exit id, f, f', e, _, h, Q, hQ => by
  have h : some (Exit.exit id, f) = some (e, f') := h
  simp at h; obtain ⟨rfl, rfl⟩ := h; exact fC wp_exit hQ
 | .ret, f, f', e, _, h, Q, hQ => by
  have h : some (Exit.ret, f) = some (e, f') := h
  simp at h; obtain ⟨rfl, rfl⟩ := h; exact fC wp_ret hQ
 | .loop c, f, f', e, hc, h, Q, hQ => by
  simp only [cJ] at hc
  exact Dg G n (fun f e f' hb Q hQ => dT hE hX live fuel c f f' e hc hb Q hQ) h hQ
 | .rangeFunc _ _ _ _, _, _, _, _, h, _, _ => by cases h
 | .scope c, f, f', e, hc, h, Q, hQ => by
  simp only [cJ] at hc
  rw [Dr] at h
  cases hx : gJ X E G H n live fuel c f with
  | none => rw [hx] at h; simp at h
  | some r =>
   obtain ⟨e1, f1⟩ := r
   rw [hx] at h
   intro w R N act bsT bsL bsH bsF hr D hd
   apply wp_scope_straight
   refine wp_mono (dT hE hX live fuel c f f1 e1 hc hx (fun e' s'' => e' = e1 /\ s'' = f1.aw n) ⟨rfl, rfl⟩ w R N act bsT bsL bsH bsF hr hd) ?_
   rintro e2 a w' ⟨s2, R', N', bsT', bsL', bsH', ⟨rfl, rfl⟩, rest⟩
   cases e2 with
   | goto l => simp at h
   | _ => simp at h; obtain ⟨rfl, rfl⟩ := h; exact ⟨_, R', N', bsT', bsL', bsH', hQ, rest⟩
 | .label _, f, f', e, _, h, Q, hQ => by
  have h : some (Exit.normal, f) = some (e, f') := h
  simp at h; obtain ⟨rfl, rfl⟩ := h; exact fC wp_label hQ
 | .goto _, _, _, _, _, h, _, _ => by cases h
 | .refuse _, _, _, _, _, h, _, _ => by cases h
/-! ### Results -/
noncomputable def rk (f : ab) (a : Tmp) (t : TypeId) : Option ac :=
 match pa n f a with
 | .ptr k off => (match ML f k, E.ty t with
  | some (.cells cs), some i => loadCells i off cs
  | _, _ => none)
 | _ => none
theorem Dt (f : ab) (a : Tmp) (t : TypeId) : vy E (f.aw n) a t = rk E n f a t := by
 unfold vy rk
 rw [iC]
 cases pa n f a with
 | ptr k off => dsimp only; rw [Bd]; rfl
 | _ => rfl
noncomputable def gH : ab -> List ResultVar -> Option (List ac)
 | _, [] => some []
 | f, .tmp t :: r => (match gH (rj n f (some 0) [.tmp t]) r with | some vs => some (pa n f t :: vs) | none => none)
 | f, .cell a t :: r => (match rk E n f a t, gH f r with | some v, some vs => some (v :: vs) | _, _ => none)
theorem nF : ∀ (rs : List ResultVar) (f : ab), fV E (f.aw n) rs = gH E n f rs
 | [], _ => rfl
 | .tmp t :: r, f => by
  simp only [fV, gH, ← xz, nF r, iC]
  cases gH E n (rj n f (some 0) [.tmp t]) r <;> rfl
 | .cell a t :: r, f => by
  simp only [fV, gH, Dt, nF r]
  cases rk E n f a t <;> cases gH E n f r <;> rfl
noncomputable def Dm : List Name -> ab -> List ac -> ab × List ac
 | [], f, args => (f, args)
 | k :: ks, f, args =>
  (match (aT k args || iK k f.locs) with
   | true => (match sK true k f args with
   | some (f', args') => Dm ks f' args'
   | none => Dm ks f args)
   | false => Dm ks f args)
theorem vv : ∀ (ks : List Name) (f : ab) (args : List ac), gh ks (f.aw n) args = ((Dm ks f args).1.aw n, (Dm ks f args).2)
 | [], _, _ => rfl
 | k :: ks, f, args => by
  simp only [gh, Dm, zE]
  have e : (f.aw n).locs = f.locs := rfl
  rw [e]
  cases (aT k args || iK k f.locs) with
  | false => rw [if_neg (by simp)]; exact vv ks f args
  | true =>
   rw [if_pos rfl]
   cases sK true k f args with
   | none => exact vv ks f args
   | some x => exact vv ks x.1 x.2
noncomputable def uR (rs : List ResultVar) (f : ab) : Option eu :=
 match gH E n f rs with
 | none => none
 | some vs =>
  match bE (iF vs) with
  | true => some ⟨pack (iF vs), f.heap, f.next⟩
  | false => match Dm (oz f.locs.length (lm f.locs)) f (iF vs) with
   |(f', vs') => if bE vs' = true then some ⟨pack vs', f'.heap, f'.next⟩ else none
theorem Ba (rs : List ResultVar) (f : ab) : N5 E rs (f.aw n) = uR E n rs f := by
 unfold N5 uR
 rw [nF]
 cases gH E n f rs with
 | none => rfl
 | some vs =>
  dsimp only
  cases bE (iF vs) with
  | true => rw [if_pos rfl]; rfl
  | false =>
   rw [if_neg (by simp)]
   dsimp only
   have e : (f.aw n).locs = f.locs := rfl
   rw [e, vv]
   generalize Dm (oz f.locs.length (lm f.locs)) f (iF vs) = pr
   obtain ⟨f', vs'⟩ := pr
   rfl
def vU : Nat -> List ac -> Sl
 | _, [] => []
 | k, a :: r => (k, a) :: vU (k + 1) r
theorem qp : ∀ (as : List ac) (k t : Nat), oZ (vU k as) t = if k <= t then bn as (t - k) else .undef
 | [], k, t => by
  rw [vU, xq]
  split <;> simp [bn]
 | a :: r, k, t => by
  rw [vU, gl, qp r (k + 1) t]
  by_cases h : k = t
  ·subst h; simp [bn]
  rw [if_neg h]
  by_cases h2 : k <= t
  ·rw [if_pos (by omega), if_pos h2]
   unfold bn
   rw [show t - k = (t - (k + 1)) + 1 by omega]
   simp
  rw [if_neg (by omega), if_neg h2]
end
section
variable (E : bp) (G : bD) (moves caps : FuncId -> Bool) (F : FuncId -> Option kD) (M : iu) (fuel : Nat)
/-- A call, run; M: calls that are known. -/
noncomputable def xB : Nat -> iu
 | 0 => fun _ _ _ _ => none
 | k + 1 => fun g args heap next =>
  match F g with
  | none => none
  | some x => match Nat.ble args.length x.ntmps with
   | false => none
   | true => (match gJ (fun g args heap next => match M g args heap next with | some r => some r | none => xB k g args heap next) E G ⟨moves, x.ord, caps, rowsOf caps g⟩ x.ntmps x.live fuel x.code ⟨vU 0 args, [], heap, next⟩ with
    | some (.ret, f) => (match uR E x.ntmps x.results f with | some r => some (rW next r) | none => none)
    | some (.normal, f) => (match uR E x.ntmps x.results f with | some r => some (rW next r) | none => none)
    | _ => none)
variable {E G moves caps F M}
theorem nH {P : Program} (hE : E.Ok P) (hF : TT P moves caps F) (hM : D0 P G M) : ∀ k, D0 P G (xB E G moves caps F M fuel k)
 | 0 => by intro f args heap next r h; cases h
 | k + 1 => by
  intro g args heap next r h
  simp only [xB] at h
  split at h
  ·simp at h
  rename_i x hx
  obtain ⟨fn, h1, h2, h3, h4, h5⟩ := hF g x hx
  have ih := nH hE hF hM k
  have hX : D0 P G (fun g args heap next => match M g args heap next with | some r => some r | none => xB E G moves caps F M fuel k g args heap next) := by
   intro g args heap next r h
   dsimp only at h
   split at h
   ·rename_i r' hr'
    simp at h
    subst h
    exact hM _ _ _ _ _ hr'
   exact ih _ _ _ _ _ h
  split at h
  ·simp at h
  rename_i hlen
  have hlen := fN hlen
  have hent : (⟨vU 0 args, [], heap, next⟩ : ab).aw x.ntmps = enter x.ntmps args heap next := by
   simp only [ab.aw, enter]
   congr 1
   apply List.ext_getElem?
   intro i
   rw [kj, Nat.zero_add, qp, if_pos (Nat.zero_le _), Nat.sub_zero, List.getElem?_append]
   split
   ·split
    ·rename_i hi; unfold bn; rw [List.getElem?_eq_getElem hi]
    rename_i hi1 hi
    rw [List.getElem?_replicate, if_pos (by omega)]
    unfold bn
    rw [List.getElem?_eq_none (by omega)]
   rename_i hi
   rw [if_neg (by omega), List.getElem?_replicate, if_neg (by omega)]
  have key : ∀ e f, gJ (fun g args heap next => match M g args heap next with | some r => some r | none => xB E G moves caps F M fuel k g args heap next) E G ⟨moves, x.ord, caps, rowsOf caps g⟩ x.ntmps x.live fuel x.code ⟨vU 0 args, [], heap, next⟩ = some (e, f) -> e = .ret ∨ e = .normal ->
    (match uR E x.ntmps x.results f with | some r => some (rW next r) | none => none) = some r -> ay P G g args heap next (XQ r) := by
   intro e f hx he hr
   cases hf : uR E x.ntmps x.results f with
   | none => rw [hf] at hr; simp at hr
   | some r0 =>
    rw [hf] at hr
    simp at hr
    subst hr
    apply ay.gc
    refine iY hE h1 h2 ?_
    intro _ _
    rw [h3, h4, ← hent]
    refine dT _ E G ⟨moves, x.ord, caps, rowsOf caps g⟩ x.ntmps hE hX x.live fuel x.code _ _ _ (by rw [dC]; exact h5) hx _ ?_
    have := pB (E := E) (rs := x.results) (s := f.aw x.ntmps) (r := r0) (by rw [Ba]; exact hf)
    rcases he with rfl | rfl <;> exact this
  split at h
  ·rename_i f hf; exact key _ _ hf (.inl rfl) h
  ·rename_i f hf; exact key _ _ hf (.inr rfl) h
  simp at h
end
end Go.Tp

namespace Go.Tp
variable {P : Program} {G : bD}
end Go.Tp

namespace Go.Tp
mutual
/-- Values that name no object. -/
def Iy : ac -> Bool
 | .dat _ => true
 | .own _ => true
 | .ref _ => true
 | .undef => true
 | .agg cs => CQ cs
 | .tup cs => CQ cs
 | .fn _ x y => CQ x && CQ y
 | .ptr _ _ => false
 | .map _ => false
 | .win _ _ _ _ => false
def CQ : List ac -> Bool
 | [] => true
 | a :: r => Iy a && CQ r
end
section
variable {w : World} {R : Own} {N N' : Name -> Option Nat}
mutual
theorem ak.nm : ∀ {a : ac} {v : Value} {bs : List Nat}, ak w R N a v bs -> Iy a = true -> ak w R N' a v bs
 | .dat _, _, _, h, _ => by simp only [ak] at h ⊢; exact h
 | .own _, _, _, h, _ => by simp only [ak] at h ⊢; exact h
 | .ref _, _, _, h, _ => by simp only [ak] at h ⊢; exact h
 | .ptr _ _, _, _, _, hn => by simp [Iy] at hn
 | .map _, _, _, _, hn => by simp [Iy] at hn
 | .win _ _ _ _, _, _, _, hn => by simp [Iy] at hn
 | .fn _ x y, _, _, h, hn => by
  simp only [Iy, Bool.and_eq_true] at hn
  simp only [ak] at h ⊢
  obtain ⟨h1, vs, us, e, h2, h3⟩ := h
  exact ⟨h1, vs, us, e, ag.nm (l := x) h2 hn.1, ag.nm (l := y) h3 hn.2⟩
 | .agg cs, _, _, h, hn => by
  simp only [Iy] at hn
  simp only [ak] at h ⊢
  obtain ⟨vs, e, h⟩ := h
  exact ⟨vs, e, ag.nm (l := cs) h hn⟩
 | .tup cs, _, _, h, hn => by
  simp only [Iy] at hn
  simp only [ak] at h ⊢
  obtain ⟨vs, e, h⟩ := h
  exact ⟨vs, e, ag.nm (l := cs) h hn⟩
 | .undef, _, _, h, _ => by simp only [ak] at h ⊢; exact h
theorem ag.nm : ∀ {l : List ac} {vs : List Value} {bs : List Nat}, ag w R N l vs bs -> CQ l = true -> ag w R N' l vs bs
 | [], _, _, h, _ => by simp only [ag] at h ⊢; exact h
 | a :: l, _, _, h, hn => by
  simp only [CQ, Bool.and_eq_true] at hn
  simp only [ag] at h ⊢
  obtain ⟨v, vs', b1, b2, e1, e2, h1, h2⟩ := h
  exact ⟨v, vs', b1, b2, e1, e2, ak.nm (a := a) h1 hn.1, ag.nm (l := l) h2 hn.2⟩
end
end
/-- A call that looks at no object, and its value. -/
structure yn where
 fn : FuncId
 args : List ac
 val : ac
def yn.ok (m : yn) : Bool := CQ m.args && Iy m.val
def pO : List yn -> iu
 | [] => fun _ _ _ _ => none
 | m :: l => fun g args heap next =>
  match Nat.beq m.fn g with
  | false => pO l g args heap next
  | true => (match uS m.args args with
   | true => some ⟨m.val, heap, next⟩
   | false => pO l g args heap next)
variable {P : Program} {G : bD}
theorem Ez {m : yn} (hm : m.ok = true) (h : ay P G m.fn m.args [] 0 (XQ ⟨m.val, [], 0⟩)) (heap : Heap) (next : Nat) : ay P G m.fn m.args heap next (XQ ⟨m.val, heap, next⟩) := by
 unfold yn.ok at hm
 simp only [Bool.and_eq_true] at hm
 intro w R N cargs bsA bsH bsF hargs hheap hnd hnx hglob hF
 have h2 := h w R (fun _ => none) cargs bsA [] (bsH ++ bsF) (hargs.nm hm.1) (by simp [al]) (by simpa using hnd) (by intro o b ho; simp at ho) hglob (by
  intro b hb
  rcases List.mem_append.1 hb with hb | hb
  ·exact hheap.lt b hb
  exact hF b hb)
 refine h2.mono ?_
 rintro e w' ⟨v, cv, heap', next', R', N', bsV, bsH', rfl, ⟨rfl, rfl, rfl⟩, hv, hh, hnd', _, hk, _⟩
 have hH' : bsH' = [] := by simpa [al] using hh
 subst hH'
 exact ⟨_, cv, heap, next, R', N, bsV, bsH, rfl, ⟨rfl, rfl, rfl⟩, hv.nm hm.2, hheap.keep (hk.sub (by intro b hb; simp [hb])), by simpa using hnd', hnx, hk.sub (by intro b hb; simp [hb]), fun _ _ h => h⟩
theorem zl : ∀ {l : List yn}, (∀ m ∈ l, m.ok = true /\ ay P G m.fn m.args [] 0 (XQ ⟨m.val, [], 0⟩)) -> D0 P G (pO l)
 | [], _ => by intro f args heap next r h; simp [pO] at h
 | m :: l, hall => by
  intro f args heap next r h
  have ih := zl (l := l) fun m hm => hall m (by simp [hm])
  simp only [pO] at h
  split at h
  ·exact ih f args heap next r h
  rename_i hf
  have hf := Nat.eq_of_beq_eq_true hf
  split at h
  ·rename_i hc
   have h2 := gp hc
   subst hf
   subst h2
   simp only [Option.some.injEq] at h
   subst h
   obtain ⟨q1, q2⟩ := hall m (by simp)
   exact Ez q1 q2 heap next
  exact ih f args heap next r h
end Go.Tp

namespace Go.Tp
/-- A run, up to where it asks. -/
inductive Qy (α : Type) : Type where
 |fin (a : α)
 |fail
 /-- which truth value is this? -/
 |bool (t : Nat) (b : Bool) (k : Bool -> Qy α)
 /-- what does this operation give? -/
 |out (t : Nat) (o : Option Out) (k : Out -> Qy α)
 /-- what does this call give? -/
 |res (g : FuncId) (args : List ac) (heap : Heap) (next : Nat) (k : eu -> Qy α)
 /-- do the objects stay? -/
 |stay (h h' : Heap) (k : Qy α)
 /-- how does this loop end? -/
 |loop (n : Nat) (c : Code) (f : ab) (k : Exit × ab -> Qy α)
 /-- both orders -/
 |both (a b : Qy α)
section
variable (P : Program) (G : bD) {α : Type} (T : α -> Prop)
def Qy.qk : Qy α -> Prop
 | .fin a => T a
 | .fail => False
 | .bool _ b k => (k b).qk
 | .out _ o k => ∃ x, o = some x /\ (k x).qk
 | .res g args heap next k => ay P G g args heap next (fun v h m => lC v -> uT h -> (k ⟨v, h, m⟩).qk)
 | .stay h h' k => ym h h' /\ k.qk
 | .loop n c f k => db P G (.loop c) (fun e s => ∃ f', s = f'.aw n /\ (k (e, f')).qk) (f.aw n)
 | .both a b => a.qk /\ b.qk
end
/-! ### The run -/
/-- What an operation is asked by. -/
def CI (o : Oper) : Nat :=
 match o.dst with
 | some t => t
 | none => (match o.op with
  | .store _ (.tmp u) _ => 100000 + u
  | .mapUpdate _ (.tmp u) _ _ => 100000 + u
  | .insert _ (.tmp u) _ _ => 100000 + u
  | .call c => (match c.args.toList with | .tmp u :: _ => 100000 + u | _ => 0)
  | _ => 0)
section
variable {α : Type} (A B : Nat -> Bool) (E : bp) (G : bD) (H : Hints) (n : Nat)
noncomputable def uM (d : Option Tmp) (f : ab) (k : ab -> Qy α) : Qy α :=
 match d with
 | none => k f
 | some t => (match A t with
  | true => (match pa n f t with
   | .dat (.flat (.bool b)) => .bool t b (fun b => k (iO f (some t) (.dat (.flat (.bool b)))))
   | _ => k f)
  | false => k f)
/-- The object of a row that grows. -/
def vr (out : Out) : Option aN :=
 match out with
 | ⟨_, eff⟩ => match eff with
  | .grow ob' _ _ => some ob'
  | _ => none
/-- .. which names no variable of the frame. -/
noncomputable def Bh (o : Oper) (k : Option Name) (f : ab) (out : Out) : Option ab :=
 match out with
 | ⟨_, eff⟩ => match eff with
  | .grow ob' sz len => (match f with
   | ⟨sl, locs, heap, next⟩ => match k with
    | some (.loc j) => some (iO ⟨sl, rO (.loc j) locs, (.out next, ob') :: heap, next + 1⟩ o.dst (.win (.out next) sz 0 len))
    | some (.out j) => some (iO ⟨sl, locs, (.out next, ob') :: rO (.out j) heap, next + 1⟩ o.dst (.win (.out next) sz 0 len))
    | none => some (iO ⟨sl, locs, (.out next, ob') :: heap, next + 1⟩ o.dst (.win (.out next) sz 0 len)))
  | _ => none
theorem I0 {o : Oper} {k : Option Name} {f f' : ab} {out : Out} {ob : aN} (h1 : vr out = some ob) (h2 : bL ob = true) (h3 : Bh o k f out = some f') : lq o k f out = some f' := by
 obtain ⟨val, eff⟩ := out
 obtain ⟨sl, locs, heap, next⟩ := f
 cases eff with
 | grow ob' sz len =>
  simp only [vr, Option.some.injEq] at h1
  subst h1
  rcases k with _ | ⟨_ | _⟩ <;> simp only [Bh] at h3 <;> simp only [lq, h2, if_true] <;> exact h3
 | _ => simp [vr] at h1
noncomputable def Cq (q take : Bool) (o : Oper) (f : ab) (k : ab -> Qy α) : Qy α :=
 match B (CI o) with
 | true => .out (CI o) (iE E take o.op (fx G n f (jv q o.op) 0 (opsL o.op)) (oM f o.op (fx G n f (jv q o.op) 0 (opsL o.op))))
   (fun out => match vr out with
    | some ob => .bool (CI o + 500000) (bL ob) (fun b => match b with
     | true => (match Bh o (looks o.op (fx G n f (jv q o.op) 0 (opsL o.op))) (rj n f (jv q o.op) (opsL o.op)) out with
      | some f' => uM A n o.dst f' k
      | none => .fail)
     | false => .fail)
    | none => (match lq o (looks o.op (fx G n f (jv q o.op) 0 (opsL o.op))) (rj n f (jv q o.op) (opsL o.op)) out with
     | some f' => uM A n o.dst f' k
     | none => .fail))
 | false => (match tX E G n q take o f with
  | some f' => uM A n o.dst f' k
  | none => .fail)
noncomputable def KS (all : List Oper) (o : Oper) (f : ab) (k : ab -> Qy α) : Qy α :=
 match fX n all f o.guard with
 | none => .fail
 | some b => match b with
  | true =>
   (match cU o.op with
    | some c => (match oO E G H n c f with
     | some (g, args, f2) => .res g args f2.heap f2.next (fun r => uM A n o.dst (rl f2 r o.dst) k)
     | none => .fail)
    | none => Cq A B E G n (readOnly H.moves all o) (jY H all o) o f k)
  | false => k (iO f o.dst (.tup []))
noncomputable def KQ (all : List Oper) (ops : List Oper) : ab -> (ab -> Qy α) -> Qy α :=
 @List.rec Oper (fun _ => ab -> (ab -> Qy α) -> Qy α) (fun f k => k f) (fun o _ ih f k => KS A B E G H n all o f (fun f' => ih f' k)) ops
noncomputable def KR (fh : Bool) (tk : List Nat) (all : List Oper) (o : Oper) (f : ab) (k : ab -> Qy α) : Qy α :=
 match fX n all f o.guard with
 | none => .fail
 | some b => match b with
  | true =>
   (match cU o.op with
    | some c => (match lx E G H n c f with
     | some (g, args, f2) => (match gf H o with
      | true => .res g args [] f2.next (fun r => match r with
       | ⟨v, [], m⟩ => uM A n o.dst (rl f2 ⟨v, f2.heap, m⟩ o.dst) k
       | _ => .fail)
      | false => .res g args f2.heap f2.next (fun r => match kN H o with
       | true => .stay f2.heap r.heap (uM A n o.dst (rl f2 r o.dst) k)
       | false => uM A n o.dst (rl f2 r o.dst) k))
     | none => .fail)
    | none => (match eN o.op with
     | some t => (match ko n fh all (fe all t (sJ n tk t f)) f with
      | some f1 => Cq A B E G n false false o f1 k
      | none => .fail)
     | none => (match ji o.op with
      | true => Cq A B E G n (readOnly H.moves all o) (jY H all o) o f k
      | false => .fail)))
  | false => k (iO f o.dst (.tup []))
/-- A quiet operation's value. -/
noncomputable def Au (fh : Bool) (all : List Oper) (o : Oper) (f : ab) (k : ac -> Qy α) : Qy α :=
 match B (CI o) with
 | true => (match fX n all f o.guard with
  | none => .fail
  | some b => match b with
   | true => (match lZ o.op with
    | true => (match iE E false o.op [] none with | some _ => k .undef | none => .fail)
    | false => (match cU o.op with
     | some _ => .fail
     | none => (match hY o.op && nr fh (looks o.op (fx G n f none 0 (opsL o.op))) with
      | true => .out (CI o) (iE E false o.op (fx G n f none 0 (opsL o.op)) (oM f o.op (fx G n f none 0 (opsL o.op)))) (fun out => match out with | ⟨v, .keep⟩ => k v | _ => .fail)
      | false => .fail)))
   | false => k (.tup []))
 | false => (match nE E G n fh all o f with
  | some a => k a
  | none => .fail)
noncomputable def Iq (tk : List Nat) (fh : Bool) (fq : Nat -> Bool) (all : List Oper) (l : List (Nat × Bool)) : ab -> (ab -> Qy α) -> Qy α :=
 @List.rec (Nat × Bool) (fun _ => ab -> (ab -> Qy α) -> Qy α) (fun f k => k f) (fun p _ ih f k =>
  match all[p.1]? with
  | none => .fail
  | some o => match p.2 with
   | true => KR A B E G H n fh tk all o f (fun f' => ih f' k)
   | false => Au B E G n (fh || fq p.1) all o f (fun a => uM A n o.dst (iO f o.dst a) (fun f' => ih f' k))) l
def GH (F : Nat -> Qy α) : Nat -> List Nat -> Qy α
 | i, [] => F i
 | i, j :: l => .both (F i) (GH F j l)
noncomputable def Cv (all : List Oper) : Nat -> Array Bool -> ab -> (ab -> Qy α) -> Qy α
 | 0, listed, f, k => (match Region.ready .any all.toArray listed with
  | [] => k f
  | _ => .fail)
 | m + 1, listed, f, k => (match Region.ready .any all.toArray listed with
  | [] => k f
  | i :: l => GH (fun i => match all[i]? with
   | some o => KS A B E G H n all o f (fun f' => Cv all m (bI listed i) f' k)
   | none => .fail) i l)
noncomputable def Cs (h : aB) (all : List Oper) (p : Array Bool) : Nat -> Array Bool -> ab -> (ab -> Qy α) -> Qy α
 | 0, listed, f, k => (match pc listed.toList p.toList with
  | true => k f
  | false => .fail)
 | m + 1, listed, f, k => (match pc listed.toList p.toList with
  | true => .fail
  | false => (match Region.ready .any all.toArray listed with
   | [] => .fail
   | i :: l => GH (fun i => match h.pre.contains (i, true) with
    | true => (match all[i]? with
     | some o => KR A B E G H n (aO H all h.pre) h.tk all o f (fun f' => Cs h all p m (bI listed i) f' k)
     | none => .fail)
    | false => .fail) i l))
noncomputable def KV (all : List Oper) (h : aB) (f : ab) (k : ab -> Qy α) : Qy α :=
 match fy h with
 | true => Cv A B E G H n all all.length (Array.replicate all.length false) f k
 | false => (match fP h with
  | true => Iq A B E G H n (eY h).tk (aO H all (eY h).pre) (quietAt H all (eY h).pre) all (bJ (eY h).pre) f (fun f1 =>
    Cs A B E G H n (eY h) all (dI (eY h).pre (Array.replicate all.length false)) ((eY h).pre.length - (bJ (eY h).pre).length) (dI (bJ (eY h).pre) (Array.replicate all.length false)) f1 (fun f0 =>
     match mg E n all (eY h).nw f0 with
     | some f2 => KQ A B E G H n all (du all (eY h).tail) f2 k
     | none => .fail))
  | false => Iq A B E G H n h.tk (aO H all h.pre) (quietAt H all h.pre) all h.pre f (fun f1 =>
    match mg E n all h.nw f1 with
    | some f2 => KQ A B E G H n all (du all h.tail) f2 k
    | none => .fail))
/-- Only the variables that are still in sight. -/
def se : Sl -> List Name
 | [] => []
 | p :: r => LV p.2 ++ se r
def UX (m : Name) : List Name -> Bool
 | [] => false
 | x :: r => match qL x m with | true => true | false => UX m r
def CJ (l : List Name) : Heap -> Heap
 | [] => []
 |(m, o) :: r => match UX m l with | true => (m, o) :: CJ l r | false => CJ l r
def WH (f : ab) : ab :=
 match f with
 | ⟨sl, [], heap, next⟩ => ⟨sl, [], heap, next⟩
 | ⟨sl, p :: locs, heap, next⟩ => ⟨sl, CJ (xL (p :: locs) (p :: locs).length (qh (se sl) [])) (p :: locs), heap, next⟩
/-- The number under which 'caps' says whether variables out of sight are dropped. -/
def Sa : FuncId := 4000000
def FE (caps : FuncId -> Bool) (f : ab) : ab := match caps Sa with | true => WH f | false => f
noncomputable def ve (live : Nat -> Nat) (id : Nat) (ops : Array Oper) (draw : Bool) (f : ab) (k : ab -> Qy α) : Qy α :=
 match draw with
 | true => KV A B E G H n ops.toList (H.ord id) f (fun f' => match jL n (live id) (jK f' (fun l => dV l (live id))) with | some f2 => k (FE H.caps f2) | none => .fail)
 | false => KQ A B E G (H.at id) n ops.toList ops.toList f (fun f' => match jL n (live id) (jK f' (fun l => dV l (live id))) with | some f2 => k (FE H.caps f2) | none => .fail)
noncomputable def qC (live : Nat -> Nat) (c : Code) : ab -> (Exit × ab -> Qy α) -> Qy α :=
 Code.rec (motive := fun _ => ab -> (Exit × ab -> Qy α) -> Qy α)
  (skip := fun f k => k (.normal, f))
  (region := fun id ops draw f k => ve A B E G H n live id ops draw f (fun f => k (.normal, f)))
  (seq := fun _ _ ix iy f k => ix f (fun r => match r with
   |(.normal, f') => iy f' k
   | r => k r))
  (cond := fun c _ _ ix iy f k => (match mJ G n f c with
   | .dat (.flat (.bool b)) => (match b with | true => ix f k | false => iy f k)
   | _ => .fail))
  (block := fun id _ ic f k => ic f (fun r => match r with
   |(.exit i, f') => (match Nat.beq i id with | true => k (.normal, f') | false => k (.exit i, f'))
   | r => k r))
  (loop := fun c _ f k => .loop n c f k)
  (rangeFunc := fun _ _ _ _ _ _ _ _ => .fail)
  (exit := fun id f k => k (.exit id, f))
  (scope := fun _ ic f k => ic f (fun r => match r with
   |(.goto _, _) => .fail
   | r => k r))
  (label := fun _ f k => k (.normal, f))
  (goto := fun _ _ _ => .fail)
  (ret := fun f k => k (.ret, f))
  (refuse := fun _ _ _ => .fail) c
end
noncomputable def KT (A B : Nat -> Bool) (E : bp) (G : bD) (moves caps : FuncId -> Bool) (x : kD) (g : FuncId) (args : List ac) (heap : Heap) (next : Nat) : Qy eu :=
 match Nat.ble args.length x.ntmps with
 | false => .fail
 | true => qC A B E G ⟨moves, x.ord, caps, rowsOf caps g⟩ x.ntmps x.live x.code ⟨vU 0 args, [], heap, next⟩ (fun r => match r with
  |(.ret, f) => (match uR E x.ntmps x.results f with | some r => .fin (rW next r) | none => .fail)
  |(.normal, f) => (match uR E x.ntmps x.results f with | some r => .fin (rW next r) | none => .fail)
  | _ => .fail)
/-! ### Soundness -/
section
variable {P : Program} {E : bp} {G : bD} {H : Hints} {n : Nat} {α : Type} {A B : Nat -> Bool} {T : α -> Prop}
theorem th {all : List Oper} {o : Oper} {K K' : aa -> Prop} {s : aa} (hk : ∀ s, K s -> K' s) (h : kT (ay P G) E G H all o K s) : kT (ay P G) E G H all o K' s := by
 unfold kT at h ⊢
 split
 ·rename_i hw; simp [hw] at h
 rename_i b hw
 simp only [hw] at h
 split
 ·rename_i hb
  simp only [hb, if_true] at h
  split
  ·rename_i c hc
   simp only [hc] at h
   split
   ·rename_i f args s2 ha
    simp only [ha] at h
    exact h.mono fun v heap n hq h1 h2 => hk _ (hq h1 h2)
   rename_i ha
   simp [ha] at h
  rename_i hc
  simp only [hc] at h
  split
  ·rename_i s' hs'
   simp only [hs'] at h
   exact hk _ h
  rename_i hs'; simp [hs'] at h
 rename_i hb
 simp only [hb] at h
 exact hk _ h
/-- After a state, the run goes on. -/
def rU (P : Program) (G : bD) (n : Nat) (T : α -> Prop) (k : ab -> Qy α) (s : aa) : Prop := ∃ f', s = f'.aw n /\ (k f').qk P G T
theorem kf {d : Option Tmp} {f : ab} {k : ab -> Qy α} (h : (uM A n d f k).qk P G T) : rU P G n T k (f.aw n) := by
 unfold uM at h
 cases d with
 | none => exact ⟨f, rfl, h⟩
 | some t =>
  dsimp only at h
  split at h
  ·split at h
   ·rename_i b hb
    refine ⟨iO f (some t) (.dat (.flat (.bool b))), ?_, h⟩
    rw [dS]
    rw [← iC] at hb
    unfold aa.put
    dsimp only
    have hb2 : (f.aw n).tmps[t]? = some (.dat (.flat (.bool b))) := by
     unfold bn at hb
     cases he : (f.aw n).tmps[t]? with
     | none => rw [he] at hb; simp at hb
     | some v => rw [he] at hb; simpa using hb
    rw [wc hb2]
   exact ⟨f, rfl, h⟩
  exact ⟨f, rfl, h⟩
theorem wI {q take : Bool} {o : Oper} {f : ab} {k : ab -> Qy α} (h : (Cq A B E G n q take o f k).qk P G T) : ∃ s', cN E G q take o (f.aw n) = some s' /\ rU P G n T k s' := by
 rw [ra]
 unfold Cq at h
 split at h
 ·obtain ⟨out, ho, h⟩ := h
  dsimp only at h
  split at h
  ·rename_i ob hob
   have h : (match bL ob with
     | true => (match Bh o (looks o.op (fx G n f (jv q o.op) 0 (opsL o.op))) (rj n f (jv q o.op) (opsL o.op)) out with
      | some f' => uM A n o.dst f' k
      | none => .fail)
     | false => .fail : Qy α).qk P G T := h
   cases hn : bL ob with
   | false => rw [hn] at h; exact h.elim
   | true =>
    rw [hn] at h
    dsimp only at h
    split at h
    ·rename_i f' hf'
     refine ⟨f'.aw n, ?_, kf h⟩
     unfold tX A9
     rw [ho]
     dsimp only
     rw [I0 hob hn hf']; rfl
    exact h.elim
  split at h
  ·rename_i f' hf'
   refine ⟨f'.aw n, ?_, kf h⟩
   unfold tX A9
   rw [ho]
   dsimp only
   rw [hf']; rfl
  exact h.elim
 split at h
 ·rename_i f' hf'
  exact ⟨f'.aw n, by rw [hf']; rfl, kf h⟩
 exact h.elim
theorem GC {all : List Oper} {o : Oper} {f : ab} {k : ab -> Qy α} (h : (KS A B E G H n all o f k).qk P G T) : kT (ay P G) E G H all o (rU P G n T k) (f.aw n) := by
 unfold KS at h
 unfold kT
 rw [jI]
 cases hw : fX n all f o.guard with
 | none => rw [hw] at h; exact h.elim
 | some b =>
  rw [hw] at h
  cases b with
  | false =>
   dsimp only at h ⊢
   rw [if_neg (by simp)]
   exact ⟨_, by rw [dS], h⟩
  | true =>
   dsimp only at h ⊢
   rw [if_pos rfl]
   cases hc : cU o.op with
   | none =>
    rw [hc] at h
    dsimp only at h ⊢
    obtain ⟨s', h1, h2⟩ := wI h
    rw [h1]
    exact h2
   | some c =>
    rw [hc] at h
    dsimp only at h ⊢
    rw [xA]
    cases hcal : oO E G H n c f with
    | none => rw [hcal] at h; exact h.elim
    | some x =>
     obtain ⟨g, args, f2⟩ := x
     rw [hcal] at h
     dsimp only [Option.map_some] at h ⊢
     refine ay.mono h ?_
     intro v hh m hq b1 b2
     have := kf (hq b1 b2)
     rw [jM] at this
     exact this
theorem vh {all : List Oper} {k : ab -> Qy α} : ∀ {ops : List Oper} {f : ab}, (KQ A B E G H n all ops f k).qk P G T -> kS (ay P G) E G H all (rU P G n T k) ops (f.aw n)
 | [], f, h => ⟨f, rfl, h⟩
 | o :: rest, f, h => by
  have h : (KS A B E G H n all o f (fun f' => KQ A B E G H n all rest f' k)).qk P G T := h
  simp only [kS, gR]
  refine th ?_ (GC h)
  rintro s ⟨f', rfl, h'⟩
  exact vh h'
theorem GB {fh : Bool} {tk : List Nat} {all : List Oper} {o : Oper} {f : ab} {k : ab -> Qy α} (h : (KR A B E G H n fh tk all o f k).qk P G T) : Iv (ay P G) E G H fh tk all o (rU P G n T k) (f.aw n) := by
 unfold KR at h
 unfold Iv
 rw [jI]
 cases hw : fX n all f o.guard with
 | none => rw [hw] at h; exact h.elim
 | some b =>
  rw [hw] at h
  cases b with
  | false =>
   dsimp only at h ⊢
   rw [if_neg (by simp)]
   exact ⟨_, by rw [dS], h⟩
  | true =>
   dsimp only at h ⊢
   rw [if_pos rfl]
   cases hc : cU o.op with
   | none =>
    rw [hc] at h
    dsimp only at h ⊢
    cases ht : eN o.op with
    | none =>
     rw [ht] at h
     dsimp only at h ⊢
     cases hst : ji o.op with
     | false => rw [hst] at h; exact h.elim
     | true =>
      rw [hst] at h
      dsimp only at h ⊢
      obtain ⟨s', h1, h2⟩ := wI h
      rw [h1]
      exact h2
    | some t =>
     rw [ht] at h
     dsimp only at h ⊢
     rw [zC]
     cases hs : ko n fh all (fe all t (sJ n tk t f)) f with
     | none => rw [hs] at h; exact h.elim
     | some f1 =>
      rw [hs] at h
      rw [mf n fh all _ _ _ hs]
      dsimp only at h ⊢
      obtain ⟨s', h1, h2⟩ := wI h
      rw [h1]
      exact h2
   | some c =>
    rw [hc] at h
    dsimp only at h ⊢
    rw [uh]
    cases hcal : lx E G H n c f with
    | none => rw [hcal] at h; exact h.elim
    | some x =>
     obtain ⟨g, args, f2⟩ := x
     rw [hcal] at h
     dsimp only [Option.map_some] at h ⊢
     cases hpu : gf H o with
     | true =>
      rw [hpu] at h
      dsimp only at h ⊢
      refine ay.mono h ?_
      intro v hh m hq b1 b2
      have hq := hq b1 b2
      dsimp only at hq
      cases hh with
      | nil =>
       dsimp only at hq
       have := kf hq
       rw [jM] at this
       exact ⟨rfl, this⟩
      | cons _ _ => exact hq.elim
     | false =>
      rw [hpu] at h
      dsimp only at h ⊢
      refine ay.mono h ?_
      intro v hh m hq b1 b2
      have hq := hq b1 b2
      cases hrd : kN H o with
      | true =>
       rw [hrd] at hq
       dsimp only at hq
       obtain ⟨q1, q2⟩ := hq
       have := kf q2
       rw [jM] at this
       exact ⟨fun _ => q1, this⟩
      | false =>
       rw [hrd] at hq
       dsimp only at hq
       have := kf hq
       rw [jM] at this
       exact ⟨fun hx => by simp at hx, this⟩
theorem Io {fh : Bool} {all : List Oper} {o : Oper} {f : ab} {k : ac -> Qy α} (h : (Au B E G n fh all o f k).qk P G T) : ∃ a, nE E G n fh all o f = some a /\ (k a).qk P G T := by
 unfold Au at h
 split at h
 ·unfold nE
  split at h
  ·exact h.elim
  rename_i b hw
  rw [hw]
  dsimp only
  cases b with
  | false => exact ⟨_, rfl, h⟩
  | true =>
   rw [if_pos rfl]
   dsimp only at h
   split at h
   ·rename_i hal
    rw [if_pos hal]
    split at h
    ·rename_i x hx
     rw [hx]
     exact ⟨_, rfl, h⟩
    exact h.elim
   rename_i hal
   rw [if_neg (by simp [hal])]
   split at h
   ·exact h.elim
   rename_i hc
   rw [hc]
   dsimp only
   split at h
   ·rename_i hq
    rw [if_pos hq]
    obtain ⟨out, ho, h⟩ := h
    rw [ho]
    dsimp only at h ⊢
    split at h
    ·exact ⟨_, rfl, h⟩
    exact h.elim
   exact h.elim
 split at h
 ·rename_i a ha
  exact ⟨a, ha, h⟩
 exact h.elim
theorem Ip {tk : List Nat} {fh : Bool} {fq : Nat -> Bool} {all : List Oper} {i : Nat} {lone : Bool} {rest : List (Nat × Bool)} {f : ab} {k : ab -> Qy α} : Iq A B E G H n tk fh fq all ((i, lone) :: rest) f k = (match all[i]? with
  | none => .fail
  | some o => match lone with
   | true => KR A B E G H n fh tk all o f (fun f' => Iq A B E G H n tk fh fq all rest f' k)
   | false => Au B E G n (fh || fq i) all o f (fun a => uM A n o.dst (iO f o.dst a) (fun f' => Iq A B E G H n tk fh fq all rest f' k))) := rfl
theorem vg {tk : List Nat} {fh : Bool} {fq : Nat -> Bool} {all : List Oper} {k : ab -> Qy α} {K : aa -> Prop} (hK : ∀ s, rU P G n T k s -> K s) : ∀ {l : List (Nat × Bool)} {f : ab}, (Iq A B E G H n tk fh fq all l f k).qk P G T -> kA (ay P G) E G H tk fh fq all K l (f.aw n)
 | [], f, h => hK _ ⟨f, rfl, h⟩
 |(i, lone) :: rest, f, h => by
  rw [Ip] at h
  simp only [kA, gR]
  cases hi : all[i]? with
  | none => rw [hi] at h; exact h.elim
  | some o =>
   rw [hi] at h
   cases lone
   ·dsimp only at h ⊢
    rw [if_neg (by simp), zD]
    obtain ⟨a, h1, h2⟩ := Io h
    rw [h1]
    dsimp only
    rw [← dS]
    obtain ⟨f', e, h'⟩ := kf h2
    rw [e]
    exact vg hK h'
   dsimp only at h ⊢
   rw [if_pos rfl]
   refine nf ?_ (GB h)
   rintro s ⟨f', rfl, h'⟩
   exact vg hK h'
theorem wJ {F : Nat -> Qy α} : ∀ {l : List Nat} {i : Nat}, (GH F i l).qk P G T -> ∀ j ∈ i :: l, (F j).qk P G T
 | [], i, h, j, hj => by simp at hj; subst hj; exact h
 | x :: l, i, h, j, hj => by
  obtain ⟨h1, h2⟩ := h
  rcases List.mem_cons.1 hj with rfl | hj
  ·exact h1
  exact wJ h2 j hj
theorem Cu {all : List Oper} {k : ab -> Qy α} : ∀ (m : Nat) (listed : Array Bool) (f : ab), (Cv A B E G H n all m listed f k).qk P G T -> mM (ay P G) E G H all (rU P G n T k) m listed (f.aw n)
 | 0, listed, f, h => by
  simp only [Cv] at h
  split at h
  ·rename_i he
   exact ⟨he, f, rfl, h⟩
  exact h.elim
 | m + 1, listed, f, h => by
  simp only [Cv] at h
  simp only [mM]
  split at h
  ·rename_i he
   exact .inl ⟨he, f, rfl, h⟩
  rename_i i l he
  refine .inr ⟨by rw [he]; simp, ?_⟩
  rw [he]
  intro j hj
  have h1 := wJ h j hj
  split at h1
  ·rename_i o ho
   refine ⟨o, ho, th ?_ (GC h1)⟩
   rintro s ⟨f', rfl, h'⟩
   exact Cu m _ f' h'
  exact h1.elim
theorem yf {all : List Oper} {Q Q' : aa -> Prop} (hq : ∀ s, Q s -> Q' s) : ∀ (m : Nat) (listed : Array Bool) (s : aa), mM (ay P G) E G H all Q m listed s -> mM (ay P G) E G H all Q' m listed s
 | 0, listed, s, h => ⟨h.1, hq _ h.2⟩
 | m + 1, listed, s, h => by
  simp only [mM] at h ⊢
  rcases h with h | h
  ·exact .inl ⟨h.1, hq _ h.2⟩
  refine .inr ⟨h.1, fun i hi => ?_⟩
  obtain ⟨o, ho, hh⟩ := h.2 i hi
  exact ⟨o, ho, th (fun s hs => yf hq m _ s hs) hh⟩
theorem Cr {h : aB} {all : List Oper} {p : Array Bool} {k : ab -> Qy α} {K : aa -> Prop} (hK : ∀ s, rU P G n T k s -> K s) : ∀ (m : Nat) (listed : Array Bool) (f : ab), (Cs A B E G H n h all p m listed f k).qk P G T -> tj (ay P G) E G H h all p K m listed (f.aw n)
 | 0, listed, f, hh => by
  simp only [Cs] at hh
  split at hh
  ·rename_i he
   exact ⟨Array.ext' (jy.1 he), hK _ ⟨f, rfl, hh⟩⟩
  exact hh.elim
 | m + 1, listed, f, hh => by
  simp only [Cs] at hh
  split at hh
  ·exact hh.elim
  rename_i hne
  split at hh
  ·exact hh.elim
  rename_i i l he
  refine ⟨fun e => ?_, by rw [he]; simp, fun j hj => ?_⟩
  ·rw [e, jy.2 rfl] at hne
   simp at hne
  rw [he] at hj
  have h1 := wJ hh j hj
  split at h1
  ·rename_i hc
   refine ⟨by simpa using hc, ?_⟩
   split at h1
   ·rename_i o ho
    refine ⟨o, ho, nf ?_ (GB h1)⟩
    rintro s ⟨f', rfl, h'⟩
    exact Cr hK m _ f' h'
   exact h1.elim
  exact h1.elim
theorem KU {all : List Oper} {h : aB} {f : ab} {k : ab -> Qy α} (hh : (KV A B E G H n all h f k).qk P G T) : yh (ay P G) E G H all h (rU P G n T k) (f.aw n) := by
 unfold KV at hh
 unfold yh
 cases hx : fy h with
 | true =>
  rw [hx] at hh
  dsimp only at hh
  rw [if_pos rfl]
  refine yf ?_ _ _ _ (Cu _ _ _ hh)
  intro s hs
  exact ⟨s, hs, fun w R N tmps bsT bsL bsH bsF hr => ⟨N, bsT, bsL, bsH, hr, fun _ _ _ h => h⟩⟩
 | false =>
  rw [hx] at hh
  dsimp only at hh
  rw [if_neg (by simp)]
  cases hlm : fP h with
  | true =>
   rw [hlm] at hh
   dsimp only at hh
   rw [if_pos rfl]
   unfold yg
   refine vg ?_ hh
   rintro s ⟨f1, rfl, h1⟩
   refine Cr ?_ _ _ _ h1
   rintro s ⟨f0, rfl, h0⟩
   dsimp only at h0
   split at h0
   ·rename_i f2 hf2
    rw [jj E n all _ f0 f2 hf2]
    exact vh h0
   exact h0.elim
  | false =>
   rw [hlm] at hh
   dsimp only at hh
   rw [if_neg (by simp)]
   refine vg ?_ hh
   rintro s ⟨f1, rfl, h1⟩
   dsimp only at h1
   split at h1
   ·rename_i f2 hf2
    rw [jj E n all _ f1 f2 hf2]
    exact vh h1
   exact h1.elim
theorem Da (f : ab) (m : Nat) : gu G (f.aw n) ((jK f (fun l => dV l m)).aw n) := by
 intro w R N tmps bsT bsL bsH bsF hr
 obtain ⟨bsT', hr'⟩ := hr.prune m
 exact ⟨R, N, bsT', bsL, bsH, hr', bb _, fun _ _ h => h⟩
theorem zr {w : World} {R : Own} {M : Name -> Option Nat} (l : List Name) : ∀ {os : Heap} {bs : List Nat}, al w R M os bs -> ∃ bs', al w R M (CJ l os) bs' /\ bs'.Sublist bs
 | [], bs, h => ⟨bs, h, .refl _⟩
 |(m, o) :: os, _, ⟨b, b1, b2, e, hn, ho, hr⟩ => by
  subst e
  obtain ⟨bs', k1, k2⟩ := zr l hr
  simp only [CJ]
  split
  ·exact ⟨b :: (b1 ++ bs'), ⟨b, b1, bs', rfl, hn, ho, k1⟩, (List.Sublist.append (.refl _) k2).cons_cons _⟩
  exact ⟨bs', k1, k2.trans ((List.sublist_append_right b1 b2).cons _)⟩
theorem IU (caps : FuncId -> Bool) (f : ab) : gu G (f.aw n) ((FE caps f).aw n) := by
 unfold FE
 split
 ·obtain ⟨sl, locs, heap, next⟩ := f
  cases locs with
  | nil => exact gu.refl _ _
  | cons p locs =>
   intro w R N tmps bsT bsL bsH bsF hr
   obtain ⟨bs', k1, k2⟩ := zr (xL (p :: locs) (p :: locs).length (qh (se sl) [])) hr.locs
   refine ⟨R, N, bsT, bs', bsH, ⟨aP _, hr.tmps, k1, hr.heap, ?_, hr.next, hr.glob, hr.frame⟩, bb _, fun _ _ h => h⟩
   refine List.Nodup.sublist ?_ hr.nodup
   exact List.Sublist.append (.refl _) (List.Sublist.append (.refl _) (List.Sublist.append k2 (.refl _)))
 exact gu.refl _ _
theorem rR {c : Code} {s : aa} {Q Q' : Exit -> aa -> Prop} (h : db P G c Q s) (hg : ∀ e s1, Q e s1 -> ∃ s2, gu G s1 s2 /\ Q' e s2) : db P G c Q' s := by
 intro w R N act bsT bsL bsH bsF hr D hd
 refine wp_mono (h w R N act bsT bsL bsH bsF hr hd) ?_
 rintro e a w' ⟨s', R', N', bsT', bsL', bsH', hq, hr', hd', hk, hN⟩
 obtain ⟨s2, hg, hq2⟩ := hg e s' hq
 obtain ⟨R2, N2, t2, l2, h2, hr2, hk2, hN2⟩ := hg _ _ _ _ _ _ _ _ hr'
 exact ⟨s2, R2, N2, t2, l2, h2, hq2, hr2, hd', hk.trans hk2, fun o b ho => hN2 o b (hN o b ho)⟩
theorem Ew (hE : E.Ok P) {live : Nat -> Nat} {id : Nat} {ops : Array Oper} {draw : Bool} {f : ab} {k : ab -> Qy α} (hc : cJ H (.region id ops draw) = true) (h : (ve A B E G H n live id ops draw f k).qk P G T) :
  db P G (.region id ops draw) (fun e s => e = .normal /\ rU P G n T k s) (f.aw n) := by
 have key : ∀ s1, rU P G n T (fun f' => match jL n (live id) (jK f' (fun l => dV l (live id))) with | some f2 => k (FE H.caps f2) | none => .fail) s1 -> ∃ s2, gu G s1 s2 /\ rU P G n T k s2 := by
  rintro s1 ⟨f1, rfl, h1⟩
  dsimp only at h1
  split at h1
  ·rename_i f2 hf2
   exact ⟨_, ((Da f1 (live id)).trans (ml G hf2)).trans (IU H.caps f2), _, rfl, h1⟩
  exact h1.elim
 unfold ve at h
 cases draw
 ·dsimp only at h
  refine rR (rQ (H := H.at id) (Q := fun e s => e = .normal /\ rU P G n T (fun f' => match jL n (live id) (jK f' (fun l => dV l (live id))) with | some f2 => k (FE H.caps f2) | none => .fail) s) hE ?_) ?_
  ·have := vh h
   simpa using this
  rintro e s1 ⟨rfl, h1⟩
  obtain ⟨s2, g, h2⟩ := key s1 h1
  exact ⟨s2, g, rfl, h2⟩
 dsimp only at h
 refine rR (yj (H := H) (Q := fun e s => e = .normal /\ rU P G n T (fun f' => match jL n (live id) (jK f' (fun l => dV l (live id))) with | some f2 => k (FE H.caps f2) | none => .fail) s) hE hE.mixed (by simpa [cJ] using hc) ?_) ?_
 ·have := KU h
  simpa using this
 rintro e s1 ⟨rfl, h1⟩
 obtain ⟨s2, g, h2⟩ := key s1 h1
 exact ⟨s2, g, rfl, h2⟩
/-- After an exit, the run goes on. -/
def Wi (P : Program) (G : bD) (n : Nat) (T : α -> Prop) (k : Exit × ab -> Qy α) (e : Exit) (s : aa) : Prop := ∃ f', s = f'.aw n /\ (k (e, f')).qk P G T
theorem Av {live : Nat -> Nat} {id : Nat} {ops : Array Oper} {draw : Bool} {f : ab} {k : Exit × ab -> Qy α} : qC A B E G H n live (.region id ops draw) f k = ve A B E G H n live id ops draw f (fun f => k (.normal, f)) := rfl
theorem gC (hE : E.Ok P) (live : Nat -> Nat) : ∀ (c : Code) (f : ab) (k : Exit × ab -> Qy α), cJ H c = true -> (qC A B E G H n live c f k).qk P G T -> db P G c (Wi P G n T k) (f.aw n)
 | .skip, f, k, _, h => fC wp_skip ⟨f, rfl, h⟩
 | .region id ops draw, f, k, hc, h => by
  rw [Av] at h
  refine (Ew hE hc h).mono ?_
  rintro e s ⟨rfl, f', rfl, h'⟩
  exact ⟨f', rfl, h'⟩
 | .seq x y, f, k, hc, h => by
  simp only [cJ, Bool.and_eq_true] at hc
  refine Aa ?_
  refine (gC hE live x f (fun r => match r with | (.normal, f') => qC A B E G H n live y f' k | r => k r) hc.1 h).mono ?_
  rintro e s ⟨f', rfl, h'⟩
  cases e with
  | normal => exact gC hE live y f' k hc.2 h'
  | _ => exact ⟨f', rfl, h'⟩
 | .cond c x y, f, k, hc, h => by
  simp only [cJ, Bool.and_eq_true] at hc
  intro w R N act bsT bsL bsH bsF hr D hd
  have h : (match mJ G n f c with
   | .dat (.flat (.bool b)) => (match b with | true => qC A B E G H n live x f k | false => qC A B E G H n live y f k)
   | _ => .fail).qk P G T := h
  split at h
  ·rename_i b hb
   obtain ⟨bs, he⟩ := nJ hr.tmps hr.glob c
   rw [lv, hb] at he
   obtain ⟨_, he, _⟩ := aF he
   refine wp_cond he ?_
   cases b
   ·exact gC hE live y f k hc.2 h w R N act bsT bsL bsH bsF hr hd
   exact gC hE live x f k hc.1 h w R N act bsT bsL bsH bsF hr hd
  exact h.elim
 | .block id c, f, k, hc, h => by
  simp only [cJ] at hc
  intro w R N act bsT bsL bsH bsF hr D hd
  apply wp_block
  refine wp_mono (gC hE live c f (fun r => match r with
   |(.exit i, f') => (match Nat.beq i id with | true => k (.normal, f') | false => k (.exit i, f'))
   | r => k r) hc h w R N act bsT bsL bsH bsF hr hd) ?_
  rintro e2 a w' ⟨s2, R', N', bsT', bsL', bsH', ⟨f', rfl, h'⟩, rest⟩
  cases e2 with
  | exit i =>
   simp only [Exit.inBlock]
   dsimp only at h'
   by_cases hi : i = id
   ·have hb : Nat.beq i id = true := by rw [Nat.beq_eq]; exact hi
    rw [if_pos hi]
    rw [hb] at h'
    exact ⟨_, R', N', bsT', bsL', bsH', ⟨f', rfl, h'⟩, rest⟩
   have hb : Nat.beq i id = false := by rw [Bool.eq_false_iff]; intro hc; rw [Nat.beq_eq] at hc; exact hi hc
   rw [if_neg hi]
   rw [hb] at h'
   exact ⟨_, R', N', bsT', bsL', bsH', ⟨f', rfl, h'⟩, rest⟩
  | _ => exact ⟨_, R', N', bsT', bsL', bsH', ⟨f', rfl, h'⟩, rest⟩
 | .exit id, f, k, _, h => fC wp_exit ⟨f, rfl, h⟩
 | .ret, f, k, _, h => fC wp_ret ⟨f, rfl, h⟩
 | .loop c, f, k, _, h => h
 | .rangeFunc _ _ _ _, _, _, _, h => h.elim
 | .scope c, f, k, hc, h => by
  simp only [cJ] at hc
  intro w R N act bsT bsL bsH bsF hr D hd
  apply wp_scope_straight
  refine wp_mono (gC hE live c f (fun r => match r with
   |(.goto _, _) => .fail
   | r => k r) hc h w R N act bsT bsL bsH bsF hr hd) ?_
  rintro e2 a w' ⟨s2, R', N', bsT', bsL', bsH', ⟨f', rfl, h'⟩, rest⟩
  cases e2 with
  | goto l => exact h'.elim
  | _ => exact ⟨_, R', N', bsT', bsL', bsH', ⟨f', rfl, h'⟩, rest⟩
 | .label _, f, k, _, h => fC wp_label ⟨f, rfl, h⟩
 | .goto _, _, _, _, h => h.elim
 | .refuse _, _, _, _, h => h.elim
end
/-- The same, as a word of its own: it is not reckoned out where it stands as a goal. -/
structure Qy.Ok {α : Type} (P : Program) (G : bD) (T : α -> Prop) (q : Qy α) : Prop where
 ok : q.qk P G T
end Go.Tp

namespace Go.Tp
mutual
def eX (ρ : Nat -> Nat) : ac -> ac
 | .ptr (.out o) off => .ptr (.out (ρ o)) off
 | .map (.out o) => .map (.out (ρ o))
 | .win (.out o) s off len => .win (.out (ρ o)) s off len
 | .fn f a b => .fn f (gv ρ a) (gv ρ b)
 | .agg cs => .agg (gv ρ cs)
 | .tup cs => .tup (gv ρ cs)
 | a => a
def gv (ρ : Nat -> Nat) : List ac -> List ac
 | [] => []
 | a :: r => eX ρ a :: gv ρ r
end
def oX (ρ : Nat -> Nat) : aN -> aN
 | .cells cs => .cells (gv ρ cs)
 | .map es => .map es
def uZ (ρ : Nat -> Nat) : Name -> Name
 | .out o => .out (ρ o)
 | m => m
def lF (ρ : Nat -> Nat) : Heap -> Heap
 | [] => []
 |(m, o) :: r => (uZ ρ m, oX ρ o) :: lF ρ r
section
variable {w : World} {R : Own} {M M2 : Name -> Option Nat} {ρ : Nat -> Nat}
mutual
theorem ak.rn (hL : ∀ i, M (.loc i) = none) (hM : ∀ o b, M (.out o) = some b -> M2 (.out (ρ o)) = some b) : ∀ {a : ac} {v : Value} {bs : List Nat}, ak w R M a v bs -> ak w R M2 (eX ρ a) v bs
 | .dat _, _, _, h => by simp only [eX, ak] at h ⊢; exact h
 | .own _, _, _, h => by simp only [eX, ak] at h ⊢; exact h
 | .ref _, _, _, h => by simp only [eX, ak] at h ⊢; exact h
 | .undef, _, _, h => by simp only [eX, ak] at h ⊢; exact h
 | .ptr (.loc i) _, _, _, h => by simp only [ak] at h; obtain ⟨_, b, h2, _⟩ := h; rw [hL] at h2; simp at h2
 | .map (.loc i), _, _, h => by simp only [ak] at h; obtain ⟨_, b, h2, _⟩ := h; rw [hL] at h2; simp at h2
 | .win (.loc i) _ _ _, _, _, h => by simp only [ak] at h; obtain ⟨_, b, cap, h2, _⟩ := h; rw [hL] at h2; simp at h2
 | .ptr (.out o) off, _, _, h => by
  simp only [eX, ak] at h ⊢
  obtain ⟨h1, b, h2, h3⟩ := h
  exact ⟨h1, b, hM o b h2, h3⟩
 | .map (.out o), _, _, h => by
  simp only [eX, ak] at h ⊢
  obtain ⟨h1, b, h2, h3⟩ := h
  exact ⟨h1, b, hM o b h2, h3⟩
 | .win (.out o) s off len, _, _, h => by
  simp only [eX, ak] at h ⊢
  obtain ⟨h1, b, cap, h2, h3⟩ := h
  exact ⟨h1, b, cap, hM o b h2, h3⟩
 | .fn f a b, _, _, h => by
  simp only [eX, ak] at h ⊢
  obtain ⟨h1, vs, us, e, h2, h3⟩ := h
  exact ⟨h1, vs, us, e, ag.rn hL hM h2, ag.rn hL hM h3⟩
 | .agg cs, _, _, h => by
  simp only [eX, ak] at h ⊢
  obtain ⟨vs, e, h⟩ := h
  exact ⟨vs, e, ag.rn hL hM h⟩
 | .tup cs, _, _, h => by
  simp only [eX, ak] at h ⊢
  obtain ⟨vs, e, h⟩ := h
  exact ⟨vs, e, ag.rn hL hM h⟩
theorem ag.rn (hL : ∀ i, M (.loc i) = none) (hM : ∀ o b, M (.out o) = some b -> M2 (.out (ρ o)) = some b) : ∀ {as : List ac} {vs : List Value} {bs : List Nat}, ag w R M as vs bs -> ag w R M2 (gv ρ as) vs bs
 | [], _, _, h => by simp only [gv, ag] at h ⊢; exact h
 | a :: r, _, _, h => by
  simp only [gv, ag] at h ⊢
  obtain ⟨v, vs', b1, b2, e1, e2, h1, h2⟩ := h
  exact ⟨v, vs', b1, b2, e1, e2, ak.rn hL hM h1, ag.rn hL hM h2⟩
end
/-! .. and back. -/
mutual
theorem ak.gA {k : Nat} (hM : ∀ o b, o < k -> M2 (.out (ρ o)) = some b -> M (.out o) = some b) : ∀ {a : ac} {v : Value} {bs : List Nat}, dG k a = false -> ak w R M2 (eX ρ a) v bs -> ak w R M a v bs
 | .dat _, _, _, _, h => by simp only [eX, ak] at h ⊢; exact h
 | .own _, _, _, _, h => by simp only [eX, ak] at h ⊢; exact h
 | .ref _, _, _, _, h => by simp only [eX, ak] at h ⊢; exact h
 | .undef, _, _, _, h => by simp only [eX, ak] at h ⊢; exact h
 | .ptr (.loc _) _, _, _, hn, _ => by simp [dG] at hn
 | .map (.loc _), _, _, hn, _ => by simp [dG] at hn
 | .win (.loc _) _ _ _, _, _, hn, _ => by simp [dG] at hn
 | .ptr (.out o) off, _, _, hn, h => by
  simp only [dG] at hn
  have ho : o < k := by
   cases Nat.lt_or_ge o k with
   | inl h => exact h
   | inr h => rw [gQ h] at hn; simp at hn
  simp only [eX, ak] at h ⊢
  obtain ⟨h1, b, h2, h3⟩ := h
  exact ⟨h1, b, hM o b ho h2, h3⟩
 | .map (.out o), _, _, hn, h => by
  simp only [dG] at hn
  have ho : o < k := by
   cases Nat.lt_or_ge o k with
   | inl h => exact h
   | inr h => rw [gQ h] at hn; simp at hn
  simp only [eX, ak] at h ⊢
  obtain ⟨h1, b, h2, h3⟩ := h
  exact ⟨h1, b, hM o b ho h2, h3⟩
 | .win (.out o) s off len, _, _, hn, h => by
  simp only [dG] at hn
  have ho : o < k := by
   cases Nat.lt_or_ge o k with
   | inl h => exact h
   | inr h => rw [gQ h] at hn; simp at hn
  simp only [eX, ak] at h ⊢
  obtain ⟨h1, b, cap, h2, h3⟩ := h
  exact ⟨h1, b, cap, hM o b ho h2, h3⟩
 | .fn f a b, _, _, hn, h => by
  simp only [dG, Bool.or_eq_false_iff] at hn
  simp only [eX, ak] at h ⊢
  obtain ⟨h1, vs, us, e, h2, h3⟩ := h
  exact ⟨h1, vs, us, e, ag.gA hM hn.1 h2, ag.gA hM hn.2 h3⟩
 | .agg cs, _, _, hn, h => by
  simp only [dG] at hn
  simp only [eX, ak] at h ⊢
  obtain ⟨vs, e, h⟩ := h
  exact ⟨vs, e, ag.gA hM hn h⟩
 | .tup cs, _, _, hn, h => by
  simp only [dG] at hn
  simp only [eX, ak] at h ⊢
  obtain ⟨vs, e, h⟩ := h
  exact ⟨vs, e, ag.gA hM hn h⟩
theorem ag.gA {k : Nat} (hM : ∀ o b, o < k -> M2 (.out (ρ o)) = some b -> M (.out o) = some b) : ∀ {as : List ac} {vs : List Value} {bs : List Nat}, dR k as = false -> ag w R M2 (gv ρ as) vs bs -> ag w R M as vs bs
 | [], _, _, _, h => by simp only [gv, ag] at h ⊢; exact h
 | a :: r, _, _, hn, h => by
  simp only [dR, Bool.or_eq_false_iff] at hn
  simp only [gv, ag] at h ⊢
  obtain ⟨v, vs', b1, b2, e1, e2, h1, h2⟩ := h
  exact ⟨v, vs', b1, b2, e1, e2, ak.gA hM hn.1 h1, ag.gA hM hn.2 h2⟩
end
theorem Fj (a : ac) : zA (eX ρ a) = zA a := by
 cases a with
 | ptr n off => cases n <;> rfl
 | map n => cases n <;> rfl
 | win n s off len => cases n <;> rfl
 | _ => rfl
theorem NI (a b c : ac) (r : List ac) : cM (a :: b :: c :: r) = false := by
 unfold cM
 split <;> rename_i h <;> first | rfl | simp at h
theorem xX : ∀ (cs : List ac), cM (gv ρ cs) = cM cs
 | [] => rfl
 | [a] => by
  simp only [gv]
  unfold cM
  split <;> rename_i h <;> simp at h
  rfl
 | [a, b] => by
  simp only [gv]
  cases b with
  | ptr n off => cases n <;> rfl
  | map n => cases n <;> rfl
  | win n s off len => cases n <;> rfl
  | own es => simp only [eX, cM, Fj]
  | dat d =>
   simp only [eX]
   cases d with
   | slice es => simp only [cM, Fj]
   | agg es => rfl
   | flat v =>
    have h := Fj (ρ := ρ) a
    cases v with
    | slice p len cap =>
     cases p with
     | some _ => rfl
     | none =>
      cases len with
      | succ _ => rfl
      | zero =>
       cases cap with
       | succ _ => rfl
       | zero => exact h
    | _ => rfl
  | _ => rfl
 | a :: b :: c :: r => by
  simp only [gv, NI]
theorem pG (l m : List ac) : gv ρ (l ++ m) = gv ρ l ++ gv ρ m := by
 induction l with
 | nil => rfl
 | cons a l ih => simp [gv, ih]
theorem oy : ∀ k : Nat, gv ρ (List.replicate k .undef) = List.replicate k .undef
 | 0 => rfl
 | k + 1 => by simp [List.replicate_succ, gv, eX, oy k]
theorem wX (k : Nat) : ∀ j : Nat, dR k (List.replicate j .undef) = false
 | 0 => rfl
 | j + 1 => by simp [List.replicate_succ, dR, dG, wX k j]
theorem aQ.rn (hL : ∀ i, M (.loc i) = none) (hM : ∀ o b, M (.out o) = some b -> M2 (.out (ρ o)) = some b) {o : aN} {b : Nat} {bs : List Nat} (h : aQ w R M o b bs) : aQ w R M2 (oX ρ o) b bs := by
 cases o with
 | map es => simp only [oX, aQ] at h ⊢; exact h
 | cells cs =>
  simp only [oX, aQ] at h ⊢
  obtain ⟨vs, elem, sp, h1, h2, h3, h4⟩ := h
  refine ⟨vs, elem, sp, h1, ?_, h3, by rw [xX]; exact h4⟩
  have := ag.rn (ρ := ρ) hL hM (as := cs ++ List.replicate sp .undef) h2
  rwa [pG, oy] at this
theorem aQ.gA {k : Nat} (hM : ∀ o b, o < k -> M2 (.out (ρ o)) = some b -> M (.out o) = some b) {o : aN} {b : Nat} {bs : List Nat} (hn : nj k o = false) (h : aQ w R M2 (oX ρ o) b bs) : aQ w R M o b bs := by
 cases o with
 | map es => simp only [oX, aQ] at h ⊢; exact h
 | cells cs =>
  simp only [nj] at hn
  simp only [oX, aQ] at h ⊢
  obtain ⟨vs, elem, sp, h1, h2, h3, h4⟩ := h
  refine ⟨vs, elem, sp, h1, ?_, h3, by rw [xX] at h4; exact h4⟩
  refine ag.gA (ρ := ρ) hM (as := cs ++ List.replicate sp .undef) (by rw [nk, hn, wX]; rfl) ?_
  rw [pG, oy]
  exact h2
/-- The names of the heap are below k. -/
def qO (k : Nat) : Heap -> Bool
 | [] => true
 |(m, _) :: r => jf k m && qO k r
theorem CK {k : Nat} {m : Name} (h : jf k m = true) : ∃ o, m = .out o /\ o < k := by
 cases m with
 | loc i => simp [jf] at h
 | out o => exact ⟨o, rfl, nV h⟩
theorem al.rn (hL : ∀ i, M (.loc i) = none) (hM : ∀ o b, M (.out o) = some b -> M2 (.out (ρ o)) = some b) : ∀ {os : Heap} {bs : List Nat}, al w R M os bs -> al w R M2 (lF ρ os) bs
 | [], _, h => h
 |(.loc i, o) :: r, _, ⟨b, b1, b2, e, h1, h2, h3⟩ => by rw [hL] at h1; simp at h1
 |(.out m, o) :: r, _, ⟨b, b1, b2, e, h1, h2, h3⟩ => ⟨b, b1, b2, e, hM m b h1, h2.rn hL hM, al.rn hL hM h3⟩
theorem al.gA {k : Nat} (hM : ∀ o b, o < k -> M2 (.out (ρ o)) = some b -> M (.out o) = some b) : ∀ {os : Heap} {bs : List Nat}, qO k os = true -> cO k os = false -> al w R M2 (lF ρ os) bs -> al w R M os bs
 | [], _, _, _, h => h
 |(m, o) :: r, _, hl, hn, ⟨b, b1, b2, e, h1, h2, h3⟩ => by
  simp only [qO, Bool.and_eq_true] at hl
  simp only [cO, Bool.or_eq_false_iff] at hn
  obtain ⟨i, rfl, hi⟩ := CK hl.1
  exact ⟨b, b1, b2, e, hM i b hi h1, h2.gA hM hn.1, al.gA hM hl.2 hn.2 h3⟩
theorem al.append : ∀ {os os2 : Heap} {bs : List Nat}, al w R M (os ++ os2) bs -> ∃ b1 b2, bs = b1 ++ b2 /\ al w R M os b1 /\ al w R M os2 b2
 | [], os2, bs, h => ⟨[], bs, rfl, rfl, h⟩
 |(m, o) :: r, os2, bs, ⟨b, b1, b2, e, h1, h2, h3⟩ => by
  obtain ⟨c1, c2, e2, k1, k2⟩ := al.append h3
  subst e
  subst e2
  exact ⟨b :: (b1 ++ c1), c2, by simp, ⟨b, b1, c1, rfl, h1, h2, k1⟩, k2⟩
theorem al.join : ∀ {os os2 : Heap} {b1 b2 : List Nat}, al w R M os b1 -> al w R M os2 b2 -> al w R M (os ++ os2) (b1 ++ b2)
 | [], os2, b1, b2, h, k => by
  have h : b1 = [] := h
  subst h; exact k
 |(m, o) :: r, os2, _, b2, ⟨b, c1, c2, e, h1, h2, h3⟩, k => by
  subst e
  exact ⟨b, c1, c2 ++ b2, by simp, h1, h2, h3.join k⟩
theorem al.perm {os os2 : Heap} (hp : os.Perm os2) : ∀ {bs : List Nat}, al w R M os bs -> ∃ bs', al w R M os2 bs' /\ bs.Perm bs' := by
 induction hp with
 | nil => intro bs h; exact ⟨bs, h, .refl _⟩
 | cons x _ ih =>
  intro bs h
  obtain ⟨b, b1, b2, e, h1, h2, h3⟩ := h
  obtain ⟨bs', k1, k2⟩ := ih h3
  subst e
  exact ⟨b :: (b1 ++ bs'), ⟨b, b1, bs', rfl, h1, h2, k1⟩, (k2.append_left b1).cons b⟩
 | swap x y l =>
  intro bs h
  obtain ⟨b, b1, _, e, h1, h2, c, c1, c2, e2, k1, k2, k3⟩ := h
  subst e2
  subst e
  refine ⟨c :: (c1 ++ (b :: (b1 ++ c2))), ⟨c, c1, _, rfl, k1, k2, b, b1, c2, rfl, h1, h2, k3⟩, ?_⟩
  rw [← List.cons_append, ← List.cons_append, ← List.append_assoc, ← List.cons_append, ← List.cons_append, ← List.append_assoc]
  exact List.Perm.append_right _ List.perm_append_comm
 | trans _ _ ih1 ih2 =>
  intro bs h
  obtain ⟨b1, k1, k2⟩ := ih1 h
  obtain ⟨b2, k3, k4⟩ := ih2 k1
  exact ⟨b2, k3, k2.trans k4⟩
/-- Each name is one of the heap's. -/
def hasName (o : Nat) : Heap -> Bool
 | [] => false
 |(.out m, _) :: r => Nat.beq m o || hasName o r
 |(.loc _, _) :: r => hasName o r
def rL (h : Heap) : Nat -> Bool
 | 0 => true
 | k + 1 => hasName k h && rL h k
theorem al.named {o : Nat} : ∀ {os : Heap} {bs : List Nat}, hasName o os = true -> al w R M (lF ρ os) bs -> ∃ b, M (.out (ρ o)) = some b
 | [], _, h, _ => by simp [hasName] at h
 |(.out m, x) :: r, _, h, ⟨b, b1, b2, e, h1, h2, h3⟩ => by
  simp only [hasName, Bool.or_eq_true] at h
  rcases h with h | h
  ·have := Nat.eq_of_beq_eq_true h
   subst this
   exact ⟨b, h1⟩
  exact al.named h h3
 |(.loc m, x) :: r, _, h, ⟨b, b1, b2, e, h1, h2, h3⟩ => al.named (os := r) (by simpa [hasName] using h) h3
theorem uA {h : Heap} : ∀ {k : Nat}, rL h k = true -> ∀ o, o < k -> hasName o h = true
 | 0, _, _, ho => by omega
 | k + 1, hh, o, ho => by
  simp only [rL, Bool.and_eq_true] at hh
  rcases Nat.lt_or_ge o k with h1 | h1
  ·exact uA hh.2 o h1
  have : o = k := by omega
  subst this; exact hh.1
end
/-- What stands below n0 as ρ says, the rest from d on. -/
def ln (ρ : Nat -> Nat) (n0 d o : Nat) : Nat := match Nat.blt o n0 with | true => ρ o | false => d + (o - n0)
variable {P : Program} {G : bD}
/-- A contract, said of the objects that it is about, beside others and under other names. -/
theorem ay.frame {g : FuncId} {args0 : List ac} {h0 : Heap} {n0 : Nat} {Q : ac -> Heap -> Nat -> Prop} (hc : ay P G g args0 h0 n0 Q) (ρ : Nat -> Nat) {heap rest : Heap} {next : Nat}
  (hp : heap.Perm (lF ρ h0 ++ rest)) (hlow : qO n0 h0 = true) (hnew : cO n0 h0 = false) (hall : rL h0 n0 = true) (ha : dR n0 args0 = false) :
  ay P G g (gv ρ args0) heap next (fun v h m => ∃ v0 h1 n1, Q v0 h1 n1 /\ v = eX (ln ρ n0 next) v0 /\ h = lF (ln ρ n0 next) h1 ++ rest /\ m = next + (n1 - n0)) := by
 intro w R N cargs bsA bsH bsF hargs hheap hnd hnx hglob hF
 obtain ⟨bsP, hP, pP⟩ := hheap.perm hp
 obtain ⟨b1, b2, e, h1, h2⟩ := al.append hP
 subst e
 let N0 : Name -> Option Nat := fun m => match m with | .loc _ => none | .out o => if o < n0 then N (.out (ρ o)) else none
 have hback : ∀ o b, o < n0 -> outs N (.out (ρ o)) = some b -> outs N0 (.out o) = some b := by
  intro o b ho hb
  simp only [outs] at hb ⊢
  simp only [N0]
  rw [if_pos ho]; exact hb
 have hnd1 : (bsA ++ (b1 ++ (b2 ++ bsF))).Nodup := by
  refine (List.Perm.nodup_iff ?_).1 hnd
  rw [← List.append_assoc b1]
  exact List.Perm.append_left _ (List.Perm.append_right _ pP)
 have h3 := hc w R N0 cargs bsA b1 (b2 ++ bsF) (hargs.gA hback ha) (h1.gA hback hlow hnew) hnd1 (by
  intro o b ho
  simp only [N0] at ho
  split at ho
  ·assumption
  ·simp at ho) hglob (by
  intro b hb
  rcases List.mem_append.1 hb with hb | hb
  ·exact h2.lt b hb
  exact hF b hb)
 refine h3.mono ?_
 rintro e w' ⟨v0, cv, h1', n1, R', N1, bsV, bsH', rfl, hq, hv, hh, hnd', hnx', hk, hN⟩
 let N2 : Name -> Option Nat := fun m => match m with | .loc i => N (.loc i) | .out x => if x < next then N (.out x) else N1 (.out (x - next + n0))
 have hfwd : ∀ o b, outs N1 (.out o) = some b -> outs N2 (.out (ln ρ n0 next o)) = some b := by
  intro o b hb
  simp only [outs] at hb ⊢
  unfold ln
  cases hlt : Nat.blt o n0 with
  | true =>
   have ho := nV hlt
   dsimp only
   obtain ⟨b', hb'⟩ := al.named (M := outs N) (ρ := ρ) (uA hall o ho) h1
   simp only [outs] at hb'
   have h4 : N0 (.out o) = some b' := by simp only [N0]; rw [if_pos ho]; exact hb'
   have h5 := hN o b' h4
   rw [hb] at h5
   simp only [N2]
   rw [if_pos (hnx _ _ hb'), hb', h5]
  | false =>
   dsimp only
   have ho : ¬ o < n0 := fun h => by rw [← Nat.blt_eq, hlt] at h; simp at h
   simp only [N2]
   rw [if_neg (by omega), show next + (o - n0) - next + n0 = o by omega]
   exact hb
 have hloc : ∀ i, outs N1 (.loc i) = none := fun i => rfl
 refine ⟨_, cv, _, _, R', N2, bsV, bsH' ++ b2, rfl, ⟨v0, h1', n1, hq, rfl, rfl, rfl⟩, hv.rn hloc hfwd, (hh.rn hloc hfwd).join ?_, by simpa using hnd', ?_, hk.sub (by intro b hb; simp [hb]), ?_⟩
 ·have h5 := h2.keep (hk.sub (by intro b hb; simp [hb]))
  refine h5.ext ?_
  intro m b hm
  cases m with
  | loc i => simp [outs] at hm
  | out x =>
   simp only [outs] at hm ⊢
   simp only [N2]
   rw [if_pos (hnx x b hm)]; exact hm
 ·intro x b hx
  simp only [N2] at hx
  split at hx
  ·omega
  have := hnx' _ _ hx
  omega
 intro x b hx
 simp only [N2]
 rw [if_pos (hnx x b hx)]; exact hx
end Go.Tp

namespace Go.Tp
section
variable {P : Program} {E : bp} {G : bD}
theorem ay.W5 {f : FuncId} {args : List ac} {heap : Heap} {next : Nat} {Q : ac -> Heap -> Nat -> Prop} (h : ay P G f args heap next Q) : ay P G f args heap next (fun v h m => ∃ r : eu, Q r.val r.heap r.next /\ (⟨v, h, m⟩ : eu) = rW next r) := by
 intro w R N cargs bsA bsH bsF ha hh hnd hnx hg hF
 refine (h w R N cargs bsA bsH bsF ha hh hnd hnx hg hF).mono ?_
 rintro e w' ⟨val, cv, heap', next', R', N', bsV, bsH', rfl, hq, hv', hh', hnd', hnx', hk, hN⟩
 have key : ∀ r : eu, r = rW next ⟨val, heap', next'⟩ -> ∃ R2 N2 bsV2 bsH2, ak w' R2 (outs N2) r.val cv bsV2 /\ al w' R2 (outs N2) r.heap bsH2 /\ (bsV2 ++ (bsH2 ++ bsF)).Nodup /\ (∀ o b, N2 (.out o) = some b -> o < r.next) /\ bz w R w' R2 bsF /\ (∀ o b, N (.out o) = some b -> N2 (.out o) = some b) := by
  intro r hr
  unfold rW at hr
  dsimp only at hr
  split at hr
  ·rename_i hnew
   subst hr
   simp only [Bool.or_eq_false_iff] at hnew
   obtain ⟨bs', k1, k2⟩ := ng next hh'
   let N2 : Name -> Option Nat := fun m => match m with | .loc i => N' (.loc i) | .out o => if o < next then N' (.out o) else none
   have hM : ∀ o b, o < next -> outs N' (.out o) = some b -> outs N2 (.out o) = some b := by
    intro o b ho hb
    simp only [outs] at hb ⊢
    simp only [N2]
    rw [if_pos ho]; exact hb
   refine ⟨R', N2, bsV, bs', hv'.low hM hnew.1, k1.low hM (ki next heap') hnew.2, ?_, ?_, hk, ?_⟩
   ·exact List.Nodup.sublist (List.Sublist.append (.refl _) (List.Sublist.append k2 (.refl _))) hnd'
   ·intro o b hb
    simp only [N2] at hb
    split at hb
    ·assumption
    simp at hb
   intro o b hb
   simp only [N2]
   rw [if_pos (hnx o b hb)]
   exact hN o b hb
  subst hr
  obtain ⟨bs', k1, k2⟩ := jh next (Bp next heap' 3 (GJ val)) hh'
  exact ⟨R', N', bsV, bs', hv', k1, List.Nodup.sublist (List.Sublist.append (.refl _) (List.Sublist.append k2 (.refl _))) hnd', hnx', hk, hN⟩
 obtain ⟨R2, N2, bsV2, bsH2, k⟩ := key _ rfl
 exact ⟨_, cv, _, _, R2, N2, bsV2, bsH2, rfl, ⟨⟨val, heap', next'⟩, hq, rfl⟩, k⟩
theorem zX {rs : List ResultVar} {Q Q' : ac -> List (Name × aN) -> Nat -> Prop} {s : aa} (hq : ∀ v h n, Q v h n -> Q' v h n) (h : uU E rs Q s) : uU E rs Q' s := by
 unfold uU at h ⊢
 generalize fV E s rs = rv at h ⊢
 cases rv with
 | none => exact h
 | some vs =>
  dsimp only at h ⊢
  by_cases hn : bE (iF vs) = true
  ·rw [if_pos hn] at h ⊢
   exact hq _ _ _ h
  rw [if_neg hn] at h ⊢
  generalize gh (oz s.locs.length (lm s.locs)) s (iF vs) = x at h ⊢
  obtain ⟨s', vs'⟩ := x
  dsimp only at h ⊢
  by_cases hn2 : bE vs' = true
  ·rw [if_pos hn2] at h ⊢
   exact hq _ _ _ h
  rw [if_neg hn2] at h ⊢
  exact h
/-- A function's contract. -/
theorem GF {A B : Nat -> Bool} {moves caps : FuncId -> Bool} {F : FuncId -> Option kD} (hE : E.Ok P) (hF : TT P moves caps F) {g : FuncId} {x : kD} (hx : F g = some x) {args : List ac} {heap : Heap} {next : Nat} {T : eu -> Prop}
  (h : pe args -> uT heap -> (KT A B E G moves caps x g args heap next).Ok P G T) : ay P G g args heap next (fun v h m => T ⟨v, h, m⟩) := by
 obtain ⟨fn, h1, h2, h3, h4, h5⟩ := hF g x hx
 have h6 : ay P G g args heap next (fun v h m => T (rW next ⟨v, h, m⟩)) := by
  refine iY hE h1 h2 ?_
  intro b1 b2
  have h := (h b1 b2).ok
  rw [h3, h4]
  unfold KT at h
  split at h
  ·exact h.elim
  rename_i hlen
  have hlen := fN hlen
  have hent : (⟨vU 0 args, [], heap, next⟩ : ab).aw x.ntmps = enter x.ntmps args heap next := by
   simp only [ab.aw, enter]
   congr 1
   apply List.ext_getElem?
   intro i
   rw [kj, Nat.zero_add, qp, if_pos (Nat.zero_le _), Nat.sub_zero, List.getElem?_append]
   split
   ·split
    ·rename_i hi; unfold bn; rw [List.getElem?_eq_getElem hi]
    rename_i hi1 hi
    rw [List.getElem?_replicate, if_pos (by omega)]
    unfold bn
    rw [List.getElem?_eq_none (by omega)]
   rename_i hi
   rw [if_neg (by omega), List.getElem?_replicate, if_neg (by omega)]
  rw [← hent]
  refine (gC (H := ⟨moves, x.ord, caps, rowsOf caps g⟩) hE x.live x.code _ _ (by rw [dC]; exact h5) h).mono ?_
  rintro e s ⟨f', rfl, h'⟩
  have key : (match uR E x.ntmps x.results f' with | some r => (Qy.fin (rW next r) : Qy eu) | none => .fail).qk P G T -> uU E x.results (fun v h m => T (rW next ⟨v, h, m⟩)) (f'.aw x.ntmps) := by
   intro hh
   split at hh
   ·rename_i r hr
    have := pB (E := E) (rs := x.results) (s := f'.aw x.ntmps) (r := r) (by rw [Ba]; exact hr)
    exact zX (by rintro v h m ⟨rfl, rfl, rfl⟩; exact hh) this
   exact hh.elim
  cases e with
  | ret => exact key h'
  | normal => exact key h'
  | _ => exact h'.elim
 refine h6.W5.mono ?_
 rintro v h m ⟨r, hr, e⟩
 rw [e]; exact hr
/-! ### Loops -/
/-- A loop: I m s is what holds at the head of a round, m goes down. -/
theorem QQ {c : Code} {T : Exit -> aa -> Prop} (I : Nat -> aa -> Prop)
  (step : ∀ m s, I m s -> db P G c (qv (fun s' => ∃ m', m' < m /\ I m' s') T) s) {m : Nat} {s : aa} (h : I m s) : db P G (.loop c) T s := by
 intro w R N act bsT bsL bsH bsF hr D hd
 refine wp_loop_ghost (I := fun k a w' => ∃ s1 R' N' bsT' bsL' bsH', I k s1 /\ cS G w' R' N' a.tmps.toList s1 undef .undef [] bsT' bsL' bsH' bsF /\ a.defers = D /\ bz w R w' R' bsF /\ (∀ o b, N (.out o) = some b -> N' (.out o) = some b)) (n0 := m) ?_ ?_
 ·exact ⟨s, R, N, bsT, bsL, bsH, h, hr, hd, bb _, fun _ _ h => h⟩
 rintro k a w' ⟨s1, R', N', bsT', bsL', bsH', hI, hr', hd', hk, hN⟩
 refine wp_mono (step k s1 hI w' R' N' a bsT' bsL' bsH' bsF hr' hd') ?_
 rintro e a2 w2 ⟨s2, R2, N2, bsT2, bsL2, bsH2, hq, hr2, hd2, hk2, hN2⟩
 cases e with
 | normal =>
  obtain ⟨m', hlt, hI'⟩ := hq
  exact ⟨m', hlt, s2, R2, N2, bsT2, bsL2, bsH2, hI', hr2, hd2, hk.trans hk2, fun o b h => hN2 o b (hN o b h)⟩
 | _ => exact ⟨s2, R2, N2, bsT2, bsL2, bsH2, hq, hr2, hd2, hk.trans hk2, fun o b h => hN2 o b (hN o b h)⟩
/-- Code from a run that asks; what is said of the end is said of abstract states. -/
theorem Ir {A B : Nat -> Bool} {H : Hints} {n : Nat} (hE : E.Ok P) (live : Nat -> Nat) {c : Code} (hc : cJ H c = true) {f : ab} {T : Exit -> aa -> Prop}
  (h : (qC A B E G H n live c f (fun r => .fin r)).Ok P G (fun r => T r.1 (r.2.aw n))) : db P G c T (f.aw n) := by
 refine (gC hE live c f (fun r => .fin r) hc h.ok).mono ?_
 rintro e s ⟨f', rfl, h'⟩
 exact h'
end
/-! ### Answers -/
section
variable {P : Program} {G : bD} {α : Type} {T : α -> Prop}
def Qy.FD : Qy α -> Option α
 | .fin a => some a
 | _ => none
def Qy.xV : Qy α -> Option Bool
 | .bool _ b _ => some b
 | _ => none
def Qy.TQ : Qy α -> Bool -> Qy α
 | .bool _ _ k, b => k b
 | _, _ => .fail
def Qy.OK : Qy α -> Option (Option Out)
 | .out _ o _ => some o
 | _ => none
def Qy.WT : Qy α -> Out -> Qy α
 | .out _ _ k, x => k x
 | _, _ => .fail
def Qy.MM : Qy α -> Option FuncId
 | .res g _ _ _ _ => some g
 | _ => none
def Qy.uz : Qy α -> List ac
 | .res _ args _ _ _ => args
 | _ => []
def Qy.tU : Qy α -> Nat
 | .res _ _ _ next _ => next
 | _ => 0
def Qy.tW : Qy α -> Heap
 | .res _ _ h _ _ => h
 | _ => []
def Qy.UK : Qy α -> eu -> Qy α
 | .res _ _ _ _ k, r => k r
 | _, _ => .fail
def Qy.J0 : Qy α -> Option (Heap × Heap)
 | .stay h h' _ => some (h, h')
 | _ => none
def Qy.W4 : Qy α -> Qy α
 | .stay _ _ k => k
 | _ => .fail
def Qy.zv : Qy α -> Option (Nat × Code)
 | .loop n c _ _ => some (n, c)
 | _ => none
def Qy.CY : Qy α -> ab
 | .loop _ _ f _ => f
 | _ => ⟨[], [], [], 0⟩
def Qy.UL : Qy α -> Exit × ab -> Qy α
 | .loop _ _ _ k, r => k r
 | _, _ => .fail
theorem cj {q : Qy α} {a : α} (e : q.FD = some a) (h : T a) : q.Ok P G T := by
 cases q with
 | fin x => simp only [Qy.FD, Option.some.injEq] at e; subst e; exact ⟨h⟩
 | _ => simp [Qy.FD] at e
theorem bh {q : Qy α} {c b : Bool} (hc : c = b) (e : q.xV = some c) (h : (q.TQ b).Ok P G T) : q.Ok P G T := by
 cases q with
 | bool _ x k => simp only [Qy.xV, Option.some.injEq] at e; subst e; subst hc; exact ⟨h.ok⟩
 | _ => simp [Qy.xV] at e
/-- A truth value by cases. -/
theorem CL {q : Qy α} {c : Bool} (e : q.xV = some c) (ht : c = true -> (q.TQ true).Ok P G T) (hf : c = false -> (q.TQ false).Ok P G T) : q.Ok P G T := by
 cases c
 ·exact bh rfl e (hf rfl)
 exact bh rfl e (ht rfl)
theorem RL {q : Qy α} {o : Option Out} {x : Out} (ho : o = some x) (e : q.OK = some o) (h : (q.WT x).Ok P G T) : q.Ok P G T := by
 cases q with
 | out _ y k => simp only [Qy.OK, Option.some.injEq] at e; subst e; exact ⟨⟨x, ho, h.ok⟩⟩
 | _ => simp [Qy.OK] at e
theorem ON {q : Qy α} {h h' : Heap} (hs : ym h h') (e : q.J0 = some (h, h')) (hk : (q.W4).Ok P G T) : q.Ok P G T := by
 cases q with
 | stay x y k => simp only [Qy.J0, Option.some.injEq, Prod.mk.injEq] at e; obtain ⟨rfl, rfl⟩ := e; exact ⟨⟨hs, hk.ok⟩⟩
 | _ => simp [Qy.J0] at e
theorem Ej (h : Heap) : ym h h := fun _ _ h => h
theorem gD {q : Qy α} {n : Nat} {c : Code} {f : ab} {L : Exit -> aa -> Prop} (e : q.zv = some (n, c)) (hs : q.CY.aw n = f.aw n) (hl : db P G (.loop c) L (f.aw n))
  (h : ∀ ex s, L ex s -> ∃ f', s = f'.aw n /\ (q.UL (ex, f')).Ok P G T) : q.Ok P G T := by
 cases q with
 | loop n' c' f' k =>
  simp only [Qy.zv, Option.some.injEq, Prod.mk.injEq] at e
  obtain ⟨rfl, rfl⟩ := e
  simp only [Qy.CY] at hs
  refine ⟨?_⟩
  show db P G (.loop c') _ (f'.aw n')
  rw [hs]
  exact hl.mono (fun e s hL => by obtain ⟨f2, h1, h2⟩ := h e s hL; exact ⟨f2, h1, h2.ok⟩)
 | _ => simp [Qy.zv] at e
/-! Many answers at once. -/
end
end Go.Tp

namespace Go.Tp
mutual
/-- Every object that is named is one of p. -/
def AL (p : Nat -> Bool) : ac -> Bool
 | .ptr (.out o) _ => p o
 | .map (.out o) => p o
 | .win (.out o) _ _ _ => p o
 | .fn _ a b => gW p a && gW p b
 | .agg cs => gW p cs
 | .tup cs => gW p cs
 | _ => true
def gW (p : Nat -> Bool) : List ac -> Bool
 | [] => true
 | a :: r => AL p a && gW p r
end
def JD (p : Nat -> Bool) : aN -> Bool
 | .cells cs => gW p cs
 | .map _ => true
def GZ (p : Nat -> Bool) : Heap -> Bool
 | [] => true
 |(.out m, o) :: r => p m && JD p o && GZ p r
 |(.loc _, o) :: r => JD p o && GZ p r
section
variable {w : World} {R : Own} {M M2 : Name -> Option Nat} {ρ : Nat -> Nat} {p : Nat -> Bool}
mutual
theorem ak.D1 (hL : ∀ i b, M (.loc i) = some b -> M2 (.loc i) = some b) (hM : ∀ o b, p o = true -> M (.out o) = some b -> M2 (.out (ρ o)) = some b) : ∀ {a : ac} {v : Value} {bs : List Nat}, AL p a = true -> ak w R M a v bs -> ak w R M2 (eX ρ a) v bs
 | .dat _, _, _, _, h => by simp only [eX, ak] at h ⊢; exact h
 | .own _, _, _, _, h => by simp only [eX, ak] at h ⊢; exact h
 | .ref _, _, _, _, h => by simp only [eX, ak] at h ⊢; exact h
 | .undef, _, _, _, h => by simp only [eX, ak] at h ⊢; exact h
 | .ptr (.loc i) _, _, _, _, h => by simp only [eX, ak] at h ⊢; obtain ⟨h1, b, h2, h3⟩ := h; exact ⟨h1, b, hL _ _ h2, h3⟩
 | .map (.loc i), _, _, _, h => by simp only [eX, ak] at h ⊢; obtain ⟨h1, b, h2, h3⟩ := h; exact ⟨h1, b, hL _ _ h2, h3⟩
 | .win (.loc i) _ _ _, _, _, _, h => by simp only [eX, ak] at h ⊢; obtain ⟨h1, b, cap, h2, h3⟩ := h; exact ⟨h1, b, cap, hL _ _ h2, h3⟩
 | .ptr (.out o) off, _, _, hp, h => by
  simp only [eX, ak] at h ⊢
  obtain ⟨h1, b, h2, h3⟩ := h
  exact ⟨h1, b, hM o b hp h2, h3⟩
 | .map (.out o), _, _, hp, h => by
  simp only [eX, ak] at h ⊢
  obtain ⟨h1, b, h2, h3⟩ := h
  exact ⟨h1, b, hM o b hp h2, h3⟩
 | .win (.out o) s off len, _, _, hp, h => by
  simp only [eX, ak] at h ⊢
  obtain ⟨h1, b, cap, h2, h3⟩ := h
  exact ⟨h1, b, cap, hM o b hp h2, h3⟩
 | .fn f a b, _, _, hp, h => by
  simp only [AL, Bool.and_eq_true] at hp
  simp only [eX, ak] at h ⊢
  obtain ⟨h1, vs, us, e, h2, h3⟩ := h
  exact ⟨h1, vs, us, e, ag.D1 hL hM hp.1 h2, ag.D1 hL hM hp.2 h3⟩
 | .agg cs, _, _, hp, h => by
  simp only [eX, ak] at h ⊢
  obtain ⟨vs, e, h⟩ := h
  exact ⟨vs, e, ag.D1 hL hM (by simpa only [AL] using hp) h⟩
 | .tup cs, _, _, hp, h => by
  simp only [eX, ak] at h ⊢
  obtain ⟨vs, e, h⟩ := h
  exact ⟨vs, e, ag.D1 hL hM (by simpa only [AL] using hp) h⟩
theorem ag.D1 (hL : ∀ i b, M (.loc i) = some b -> M2 (.loc i) = some b) (hM : ∀ o b, p o = true -> M (.out o) = some b -> M2 (.out (ρ o)) = some b) : ∀ {as : List ac} {vs : List Value} {bs : List Nat}, gW p as = true -> ag w R M as vs bs -> ag w R M2 (gv ρ as) vs bs
 | [], _, _, _, h => by simp only [gv, ag] at h ⊢; exact h
 | a :: r, _, _, hp, h => by
  simp only [gW, Bool.and_eq_true] at hp
  simp only [gv, ag] at h ⊢
  obtain ⟨v, vs', b1, b2, e1, e2, h1, h2⟩ := h
  exact ⟨v, vs', b1, b2, e1, e2, ak.D1 hL hM hp.1 h1, ag.D1 hL hM hp.2 h2⟩
end
theorem CM (l m : List ac) : gW p (l ++ m) = (gW p l && gW p m) := by
 induction l with
 | nil => simp [gW]
 | cons a l ih => simp [gW, ih, Bool.and_assoc]
theorem wU : ∀ j : Nat, gW p (List.replicate j .undef) = true
 | 0 => rfl
 | j + 1 => by simp [List.replicate_succ, gW, AL, wU j]
theorem aQ.D1 (hL : ∀ i b, M (.loc i) = some b -> M2 (.loc i) = some b) (hM : ∀ o b, p o = true -> M (.out o) = some b -> M2 (.out (ρ o)) = some b) {o : aN} {b : Nat} {bs : List Nat} (hp : JD p o = true) (h : aQ w R M o b bs) : aQ w R M2 (oX ρ o) b bs := by
 cases o with
 | map es => simp only [oX, aQ] at h ⊢; exact h
 | cells cs =>
  simp only [JD] at hp
  simp only [oX, aQ] at h ⊢
  obtain ⟨vs, elem, sp, h1, h2, h3, h4⟩ := h
  refine ⟨vs, elem, sp, h1, ?_, h3, by rw [xX]; exact h4⟩
  have := ag.D1 (ρ := ρ) hL hM (as := cs ++ List.replicate sp .undef) (by rw [CM, hp, wU]; rfl) h2
  rwa [pG, oy] at this
theorem al.D1 (hL : ∀ i b, M (.loc i) = some b -> M2 (.loc i) = some b) (hM : ∀ o b, p o = true -> M (.out o) = some b -> M2 (.out (ρ o)) = some b) : ∀ {os : Heap} {bs : List Nat}, GZ p os = true -> al w R M os bs -> al w R M2 (lF ρ os) bs
 | [], _, _, h => h
 |(.loc i, o) :: r, _, hp, ⟨b, b1, b2, e, h1, h2, h3⟩ => by
  simp only [GZ, Bool.and_eq_true] at hp
  exact ⟨b, b1, b2, e, hL i b h1, h2.D1 hL hM hp.1, al.D1 hL hM hp.2 h3⟩
 |(.out m, o) :: r, _, hp, ⟨b, b1, b2, e, h1, h2, h3⟩ => by
  simp only [GZ, Bool.and_eq_true] at hp
  exact ⟨b, b1, b2, e, hM m b hp.1.1 h1, h2.D1 hL hM hp.1.2, al.D1 hL hM hp.2 h3⟩
end
section
variable {P : Program} {G : bD}
end
/-- Where a name stands in a list. -/
def oY (o : Nat) : List Nat -> Nat -> Nat
 | [], _ => o
 | q :: r, k => match Nat.beq q o with | true => k | false => oY o r (k + 1)
/-- Objects of these names alone. -/
def bY (q : Nat -> Bool) : Heap -> Heap
 | [] => []
 |(.out m, o) :: r => (match q m with | true => (.out m, o) :: bY q r | false => bY q r)
 |(.loc m, o) :: r => (.loc m, o) :: bY q r
theorem kI {w : World} {R : Own} {M : Name -> Option Nat} (q : Nat -> Bool) : ∀ {os : Heap} {bs : List Nat}, al w R M os bs -> ∃ bs', al w R M (bY q os) bs' /\ bs'.Sublist bs
 | [], bs, h => ⟨bs, h, .refl _⟩
 |(.out m, o) :: os, _, ⟨b, b1, b2, e, hn, ho, hr⟩ => by
  subst e
  obtain ⟨bs', k1, k2⟩ := kI q hr
  simp only [bY]
  split
  ·exact ⟨b :: (b1 ++ bs'), ⟨b, b1, bs', rfl, hn, ho, k1⟩, (List.Sublist.append (.refl _) k2).cons_cons _⟩
  exact ⟨bs', k1, k2.trans ((List.sublist_append_right b1 b2).cons _)⟩
 |(.loc m, o) :: os, _, ⟨b, b1, b2, e, hn, ho, hr⟩ => by
  subst e
  obtain ⟨bs', k1, k2⟩ := kI q hr
  exact ⟨b :: (b1 ++ bs'), ⟨b, b1, bs', rfl, hn, ho, k1⟩, (List.Sublist.append (.refl _) k2).cons_cons _⟩
theorem Hq {o : Nat} : ∀ {ps : List Nat} {k : Nat}, gF o ps = true -> k <= oY o ps k /\ oY o ps k < k + ps.length /\ ps[oY o ps k - k]? = some o
 | [], k, h => by simp [gF] at h
 | q :: r, k, h => by
  simp only [oY]
  cases hq : Nat.beq q o with
  | true =>
   have := Nat.eq_of_beq_eq_true hq
   subst this
   dsimp only
   refine ⟨Nat.le_refl _, by simp, by simp⟩
  | false =>
   dsimp only
   have h2 : gF o r = true := by
    simp only [gF, hq] at h
    exact h
   obtain ⟨h3, h4, h5⟩ := Hq (ps := r) (k := k + 1) h2
   refine ⟨by omega, by simp; omega, ?_⟩
   rw [show oY o r (k + 1) - k = (oY o r (k + 1) - (k + 1)) + 1 by omega]
   simpa using h5
end Go.Tp

namespace Go.Tp
open Go.Deep
/-! ### Pieces of code -/
section
variable {X : iu} {E : bp} {G : bD} {H : Hints} {n : Nat} {live : Nat -> Nat} {fuel : Nat}
end
/-! ### The last step -/
/-- No cell may be written: what a call that comes from outside finds. -/
def tT : Own := fun _ _ => False
/-- A package-level variable that holds a slice of strings. -/
theorem oJ {P : Program} {W : World} {name : String} {g : Nat} {t e : TypeId} {l : List (List UInt8)} (hg : P.globalNamed name = some g) (hty : (P.globals[g]?).map (·.type) = some t) (ht : P.underlying t = some (.slice e)) (he : P.underlying e = some .string) (hc : P.cellsOf e = 1)
  (hlen : l.length <= iV) (h : ∃ g t cs fuel p, P.globalNamed name = some g /\ (P.globals[g]?).map (·.type) = some t /\ W.var? P name = some cs /\ DataW.trod (fun _ => ()) P W 0 (fun _ => true) false fuel t cs.toList = some (.slice (l.map fun b => .lit (.string b)) [], p)) :
  dF W tT g 0 [.slice (l.map fun b => .flat (.string ⟨⟨b⟩⟩))] := by
 obtain ⟨g', t', cs, fuel, p, hg', ht', hvar, hd⟩ := h
 obtain rfl := Option.some.inj (hg.symm.trans hg')
 obtain rfl := Option.some.inj (hty.symm.trans ht')
 have hcell := World.var?_cell hg hvar 0
 refine ⟨?_, trivial⟩
 rcases open_slice1 ht hc hd with ⟨_, h0⟩ | ⟨a, len, cap, m, k, V, D, Pl, hcs, _, hl, hm, hmm, hx, hi⟩
 ·simp at h0
 have h0 : cs[0]? = some (.slice (some a) len cap) := by
  have : cs.toList[0]? = some (.slice (some a) len cap) := by rw [hcs]; rfl
  simpa using this
 refine ⟨_, hcell.trans h0, fun h => h, ?_⟩
 simp only [Prod.mk.injEq, DataW.slice.injEq] at hx
 obtain ⟨⟨hx1, _⟩, _⟩ := hx
 have hll : l.length = len := by have := congrArg List.length hx1; simpa using this
 have hlm : len <= m := by rw [hmm]; split <;> omega
 have hel : ∀ (i : Nat) b, l[i]? = some b -> V i = .string ⟨⟨b⟩⟩ /\ b.length <= maxLen := by
  intro i b hb
  have hil : i < len := by rw [← hll]; exact (List.getElem?_eq_some_iff.1 hb).1
  obtain ⟨_, h2⟩ := hi i (by omega)
  obtain ⟨s, e1, e2, e3⟩ := DataW.trod_string he h2
  have h3 : ((List.range len).map D)[i]? = (l.map fun b => (DataW.lit (.string b) : DataW Unit))[i]? := by rw [hx1]
  rw [List.getElem?_map, List.getElem?_map, hb, List.getElem?_range hil] at h3
  simp only [Option.map_some, Option.some.injEq] at h3
  simp only [List.cons.injEq, and_true] at e1
  simp only [Prod.mk.injEq] at e2
  rw [h3] at e2
  simp at e2
  obtain ⟨⟨sl⟩⟩ := s
  simp at e2
  rw [e1, e2.1]
  exact ⟨rfl, e3⟩
 cases hz : len with
 | zero =>
  have : l = [] := List.length_eq_zero_iff.1 (by omega)
  subst this
  exact .nil _ _
 | succ k0 =>
  have hsp : a.spot = none := by
   have := (hi 0 (by omega)).1
   have := World.cell?_spot this
   simpa [Addr.add] using this
  obtain ⟨b, off, spot⟩ := a
  simp only at hsp
  subst hsp
  have e : k0 + 1 = (l.map fun b => (aq.flat (.string ⟨⟨b⟩⟩) : aq)).length := by simp; omega
  rw [e]
  refine .slice b off cap 1 _ (fun i _ => V i) (by omega) ?_ (by simp; omega) (by simpa using hlen) ?_ ?_
  ·intro d hd
   obtain ⟨x, _, rfl⟩ := List.mem_map.1 hd
   rfl
  ·intro i j hil hj
   obtain rfl : j = 0 := by omega
   simp at hil
   refine ⟨?_, fun h => h⟩
   have := (hi i (by omega)).1
   simp only [Addr.add] at this
   simp only [Nat.mul_one, Nat.add_zero]
   split at this
   ·rename_i h0; subst h0; exact this
   exact this
  intro i j d c hd hc
  rw [List.getElem?_map] at hd
  cases hb : l[i]? with
  | none => rw [hb] at hd; simp at hd
  | some x =>
   rw [hb] at hd
   simp at hd
   subst hd
   obtain ⟨e1, e2⟩ := hel i x hb
   have : c = .flat (.string ⟨⟨x⟩⟩) := by
    cases j with
    | zero => simp [aq.cells] at hc; exact hc.symm
    | succ j => simp [aq.cells] at hc
   subst this
   rw [e1]
   refine .flat ?_
   simp only [cq, decide_eq_true_eq]
   have : (ByteArray.mk ⟨x⟩).size = x.length := rfl
   rw [this]
   unfold maxLen at e2
   omega
theorem uO {W W' : World} {R' : Own} (h : Step W tT W' R') : W.keptBut W' (fun _ => False) := by
 refine ⟨h.os, h.output, fun i hi => ?_⟩
 rw [(h.block i hi (fun _ h => h)).1]
 split
 ·rename_i e1 e2
  rw [e1] at e2
  simp at e2
  obtain ⟨rfl, rfl, rfl⟩ := e2
  exact ⟨rfl, rfl, rfl, fun _ _ => rfl⟩
 ·rename_i e1 e2
  rw [e1] at e2
  simp at e2
  obtain ⟨rfl, rfl⟩ := e2
  exact .inr ⟨rfl, rfl⟩
 rfl
end Go.Tp

namespace Go.Tp
section
variable {X : iu} {E : bp} {G : bD} {H : Hints} {n : Nat}
/-- An element of a row. -/
theorem mb {t : TypeId} {ti : TI} {m : Name} {s off len k : Nat} (he : elemOf E t = some ti) (hs : s = ti.size) (hk : k < len) :
  aC E t [.win m s off len, .dat (.flat (.int .i64 (Int.ofNat k)))] = some ⟨.ptr m (off + k * s), .keep⟩ := by
 have h1 : Nat.blt k len = true := by rw [Nat.blt_eq]; exact hk
 have h2 : Nat.beq s ti.size = true := by rw [Nat.beq_eq]; exact hs
 simp only [aC, he, h1, h2]
 simp
/-! ### Rounds of a loop -/
/-- What the quick run reads of a slice. -/
theorem MR {es : List aq} {i : Nat} {d : aq} (h : es[i]? = some d) : ap.aK.elt es (Int.ofNat i) = some d := by
 show A6 es i = some d
 rw [qY]; exact h
end
end Go.Tp

namespace Go.Tp
variable {E : bp}
/-- Appending to a row of one's own. -/
theorem rK {t : TypeId} {i : TI} {es ds : List aq} {ob : Option aN} {take : Bool} {k : Nat} (he : elemOf E t = some i) (hp : E.pr = ap.aK) (hs : i.size = k + 1) (hd : sizedB (k + 1) ds = true) (hes : sizedB (k + 1) es = true)
  (hb : Nat.blt 0 i.bytes = true) (hl : (es.length + ds.length) * i.bytes <= 140737488355328) (hl2 : es.length + ds.length <= iV) (hby : io E t (es ++ ds) = true) (htake : (take && es.isEmpty && xk (.dat (.slice ds))) = false) :
  bq E take t [.own es, .dat (.slice ds)] ob = some ⟨.own (es ++ ds), .keep⟩ := by
 simp only [bq, he]
 rw [if_neg (by rw [htake]; simp)]
 simp only [gS, hp, hs, ap.aK, hd, hes, hb, gQ hl, gQ hl2]
 rw [if_pos hby]
/-- An element, by its number. -/
theorem rI {t : TypeId} {ti : TI} {es : List aq} {i : Nat} {d : aq} (he : elemOf E t = some ti) (hp : E.pr = ap.aK) (h : es[i]? = some d) (hs : d.cells.length = ti.size) (h0 : 0 < ti.size) :
  aC E t [.dat (.slice es), .dat (.flat (.int .i64 (Int.ofNat i)))] = some ⟨.ref d.cells, .keep⟩ := by
 have hel : E.pr.elt es (Int.ofNat i) = some d := by rw [hp]; exact MR h
 simp only [aC, he, hel]
 rw [if_pos ⟨hs, h0⟩]
theorem Pw {α : Type} {l : List α} {i : Nat} {a : α} (h : l[i]? = some a) : A6 l i = some a := by rw [qY]; exact h
theorem jr {k : Nat} {l : List aq} (h : ∀ d ∈ l, d.cells.length = k) : sizedB k l = true := fg.2 h
theorem fZ {i L : Nat} : ba (Int.ofNat i) (Int.ofNat L) = decide (i < L) := by rw [gd]; simp
theorem bN {i L : Nat} (h : i < L) : ba (Int.ofNat i) (Int.ofNat L) = true := by rw [fZ, decide_eq_true h]
theorem bO {i L : Nat} (h : ¬ i < L) : ba (Int.ofNat i) (Int.ofNat L) = false := by rw [fZ, decide_eq_false h]
theorem bi {i : Nat} (h : i < 9223372036854775807) : aG .i64 (Int.ofNat i + 1) = Int.ofNat (i + 1) := by
 rw [dx]
 exact wrap_i64 (by simp; omega) (by simp; omega)
theorem qa {i L : Nat} : bj (Int.ofNat i) (Int.ofNat L) = decide (i = L) := by
 rw [fM]
 by_cases h : i = L
 ·subst h; simp
 rw [decide_eq_false h]
 simp only [beq_eq_false_iff_ne]
 exact fun e => h (Int.ofNat.inj e)
end Go.Tp

namespace Go.Tp
/-- The rounds of the loops in a piece of code, in the order of the text. -/
noncomputable def OT (c : Code) : List Code :=
 Code.rec (motive := fun _ => List Code)
  (skip := []) (region := fun _ _ _ => []) (seq := fun _ _ ix iy => ix ++ iy) (cond := fun _ _ _ ix iy => ix ++ iy) (block := fun _ _ ic => ic) (loop := fun c ic => c :: ic)
  (rangeFunc := fun _ _ _ _ _ _ => []) (exit := fun _ => []) (scope := fun _ ic => ic) (label := fun _ => []) (goto := fun _ => []) (ret := []) (refuse := fun _ => []) c
noncomputable def roundOf (fn : Func) (k : Nat) : Code := match (OT (match fn.body with | some c => c | none => .skip))[k]? with | some c => c | none => .skip
/-- A set of numbers. -/
def JH (l : List Nat) (t : Nat) : Bool := gF t l
/-! ### Pointers that a callee does not look at -/
mutual
def JE : ac -> ac
 | .ptr _ _ => .undef
 | .map _ => .undef
 | .win _ _ _ _ => .undef
 | .fn f a b => .fn f (Ix a) (Ix b)
 | .agg cs => .agg (Ix cs)
 | .tup cs => .tup (Ix cs)
 | a => a
def Ix : List ac -> List ac
 | [] => []
 | a :: r => JE a :: Ix r
end
section
variable {w : World} {R : Own} {M M2 : Name -> Option Nat}
mutual
theorem ak.np : ∀ {a : ac} {v : Value} {bs : List Nat}, ak w R M a v bs -> ak w R M2 (JE a) v bs
 | .dat _, _, _, h => by simp only [JE, ak] at h ⊢; exact h
 | .own _, _, _, h => by simp only [JE, ak] at h ⊢; exact h
 | .ref _, _, _, h => by simp only [JE, ak] at h ⊢; exact h
 | .undef, _, _, h => by simp only [JE, ak] at h ⊢; exact h
 | .ptr _ _, _, _, h => by simp only [JE, ak] at h ⊢; exact h.1
 | .map _, _, _, h => by simp only [JE, ak] at h ⊢; exact h.1
 | .win _ _ _ _, _, _, h => by simp only [JE, ak] at h ⊢; exact h.1
 | .fn f a b, _, _, h => by
  simp only [JE, ak] at h ⊢
  obtain ⟨h1, vs, us, e, h2, h3⟩ := h
  exact ⟨h1, vs, us, e, ag.np h2, ag.np h3⟩
 | .agg cs, _, _, h => by
  simp only [JE, ak] at h ⊢
  obtain ⟨vs, e, h⟩ := h
  exact ⟨vs, e, ag.np h⟩
 | .tup cs, _, _, h => by
  simp only [JE, ak] at h ⊢
  obtain ⟨vs, e, h⟩ := h
  exact ⟨vs, e, ag.np h⟩
theorem ag.np : ∀ {as : List ac} {vs : List Value} {bs : List Nat}, ag w R M as vs bs -> ag w R M2 (Ix as) vs bs
 | [], _, _, h => by simp only [Ix, ag] at h ⊢; exact h
 | a :: r, _, _, h => by
  simp only [Ix, ag] at h ⊢
  obtain ⟨v, vs', b1, b2, e1, e2, h1, h2⟩ := h
  exact ⟨v, vs', b1, b2, e1, e2, ak.np h1, ag.np h2⟩
end
end
section
variable {P : Program} {G : bD} {α : Type} {T : α -> Prop}
theorem CN {g : FuncId} {args : List ac} {Q : ac -> Prop} (hQ : ∀ v, Q v -> Iy v = true) (h : ay P G g (Ix args) [] 0 (fun v h m => Q v /\ h = [] /\ m = 0)) (heap : Heap) (next : Nat) : ay P G g args heap next (fun v h m => Q v /\ h = heap /\ m = next) := by
 intro w R N cargs bsA bsH bsF hargs hheap hnd hnx hglob hF
 have h2 := h w R (fun _ => none) cargs bsA [] (bsH ++ bsF) hargs.np (by simp [al]) (by simpa using hnd) (by intro o b ho; simp at ho) hglob (by
  intro b hb
  rcases List.mem_append.1 hb with hb | hb
  ·exact hheap.lt b hb
  exact hF b hb)
 refine h2.mono ?_
 rintro e w' ⟨v, cv, heap', next', R', N', bsV, bsH', rfl, ⟨hq, rfl, rfl⟩, hv, hh, hnd', _, hk, _⟩
 have hH' : bsH' = [] := by simpa [al] using hh
 subst hH'
 exact ⟨_, cv, heap, next, R', N, bsV, bsH, rfl, ⟨hq, rfl, rfl⟩, hv.nm (hQ _ hq), hheap.keep (hk.sub (by intro b hb; simp [hb])), by simpa using hnd', hnx, hk.sub (by intro b hb; simp [hb]), fun _ _ h => h⟩
/-- A call that looks at no object, whatever it is handed. -/
theorem UI {q : Qy α} {g : FuncId} {args0 : List ac} {v : ac} (hc : ay P G g args0 [] 0 (XQ ⟨v, [], 0⟩)) (e : q.MM = some g) (ha : Ix q.uz = args0) (hm : Iy v = true)
  (h : lC v -> (q.UK ⟨v, q.tW, q.tU⟩).Ok P G T) : q.Ok P G T := by
 cases q with
 | res g' args' heap next' k =>
  simp only [Qy.MM, Option.some.injEq] at e
  subst e
  simp only [Qy.tW, Qy.uz, Qy.tU] at ha h
  refine ⟨?_⟩
  show ay P G g' _ heap next' _
  subst ha
  have h1 : ay P G g' (Ix args') [] 0 (fun u h m => u = v /\ h = [] /\ m = 0) := hc.mono (by rintro u h m ⟨rfl, rfl, rfl⟩; exact ⟨rfl, rfl, rfl⟩)
  refine (CN (Q := fun u => u = v) (by rintro u rfl; exact hm) h1 heap next').mono ?_
  rintro v' h' m ⟨rfl, rfl, rfl⟩ b1 b2
  exact (h b1).ok
 | _ => simp [Qy.MM] at e
/-- .. whose value is only known by a property. -/
theorem EX {q : Qy α} {g : FuncId} {args0 : List ac} {Q : ac -> Prop} (hc : ay P G g args0 [] 0 (fun v h m => Q v /\ h = [] /\ m = 0)) (e : q.MM = some g) (ha : Ix q.uz = args0) (hQ : ∀ v, Q v -> Iy v = true)
  (h : ∀ v, Q v -> lC v -> (q.UK ⟨v, q.tW, q.tU⟩).Ok P G T) : q.Ok P G T := by
 cases q with
 | res g' args' heap next' k =>
  simp only [Qy.MM, Option.some.injEq] at e
  subst e
  simp only [Qy.tW, Qy.uz, Qy.tU] at ha h
  refine ⟨?_⟩
  show ay P G g' _ heap next' _
  subst ha
  refine (CN hQ hc heap next').mono ?_
  rintro v' h' m ⟨hq, rfl, rfl⟩ b1 b2
  exact (h v' hq b1).ok
 | _ => simp [Qy.MM] at e
/-- A call as it stands. -/
theorem OO {q : Qy α} {g : FuncId} {args : List ac} {heap : Heap} {next : Nat} {r : eu} (hc : ay P G g args heap next (XQ r)) (e : q.MM = some g) (ha : q.uz = args) (hh : q.tW = heap) (hn : q.tU = next)
  (h : (q.UK r).Ok P G T) : q.Ok P G T := by
 cases q with
 | res g' args' heap' next' k =>
  simp only [Qy.MM, Option.some.injEq] at e
  simp only [Qy.tW, Qy.uz, Qy.tU] at ha hh hn
  subst e
  subst ha
  subst hh
  subst hn
  refine ⟨?_⟩
  show ay P G g' _ heap' next' _
  refine hc.mono ?_
  rintro v h' m ⟨rfl, rfl, rfl⟩ b1 b2
  exact h.ok
 | _ => simp [Qy.MM] at e
theorem to {g : FuncId} {args : List ac} {heap : Heap} {next : Nat} {r : eu} (h : ay P G g args heap next (fun v h m => (⟨v, h, m⟩ : eu) = r)) : ay P G g args heap next (XQ r) := by
 refine h.mono ?_
 rintro v h m e
 subst e
 exact ⟨rfl, rfl, rfl⟩
theorem HU {h h' : Heap} {k : Name} {o : aN} (hk : rN k h = none) (hs : ym h h') : ym h ((k, o) :: h') := by
 intro n ob hn
 rw [lE] at hk
 have hne : k ≠ n := by
  intro e
  subst e
  rw [hk] at hn
  simp at hn
 simp only [dL]
 rw [if_neg hne]
 exact hs n ob hn
/-- Code that is run to its end. -/
theorem Nn {E : bp} {H : Hints} {n : Nat} {X : iu} (hE : E.Ok P) (hX : D0 P G X) {live : Nat -> Nat} (fuel : Nat) {c : Code} (hc : cJ H c = true) {f f' : ab} {e : Exit} (h : gJ X E G H n live fuel c f = some (e, f')) :
  db P G c (fun e2 s => e2 = e /\ s = f'.aw n) (f.aw n) := dT X E G H n hE hX live fuel c f f' e hc h _ ⟨rfl, rfl⟩
def Qy.PH : Qy (Exit × ab) -> Option Exit
 | .fin r => some r.1
 | _ => none
def Qy.S9 : Qy (Exit × ab) -> ab
 | .fin r => r.2
 | _ => ⟨[], [], [], 0⟩
/-- The end of a piece of code, its state said slot by slot. -/
theorem bK {q : Qy (Exit × ab)} {T : Exit -> aa -> Prop} {n : Nat} {ex : Exit} (f : ab) (e : q.PH = some ex) (hs : q.S9.aw n = f.aw n) (h : T ex (f.aw n)) : q.Ok P G (fun r => T r.1 (r.2.aw n)) := by
 cases q with
 | fin r =>
  simp only [Qy.PH, Option.some.injEq] at e
  simp only [Qy.S9] at hs
  refine ⟨?_⟩
  show T r.1 (r.2.aw n)
  rw [e, hs]; exact h
 | _ => simp [Qy.PH] at e
/-- A loop that counts. -/
theorem bG {c : Code} {T : Exit -> aa -> Prop} (St : Nat -> aa) (L : Nat) (round : ∀ i, i < L -> db P G c (qv (fun s => s = St (i + 1)) T) (St i))
  (last : db P G c (qv (fun _ => False) T) (St L)) {i : Nat} (hi : i <= L) : db P G (.loop c) T (St i) := by
 refine QQ (I := fun m s => ∃ j, j <= L /\ m = L - j /\ s = St j) ?_ (m := L - i) ⟨i, hi, rfl, rfl⟩
 rintro m s ⟨j, hj, rfl, rfl⟩
 by_cases h : j < L
 ·refine (round j h).mono ?_
  intro e s hs
  cases e with
  | normal =>
   have hs : s = St (j + 1) := hs
   exact ⟨L - (j + 1), by omega, j + 1, by omega, rfl, hs⟩
  | _ => exact hs
 have : j = L := by omega
 subst this
 refine last.mono ?_
 intro e s hs
 cases e with
 | normal => exact hs.elim
 | _ => exact hs
/-- .. with what holds beside. -/
theorem ct {c : Code} {T : Exit -> aa -> Prop} (St : Nat -> aa) (Inv : Nat -> Prop) (L : Nat) (round : ∀ i, i < L -> Inv i -> db P G c (qv (fun s => s = St (i + 1) /\ Inv (i + 1)) T) (St i))
  (last : Inv L -> db P G c (qv (fun _ => False) T) (St L)) {i : Nat} (hi : i <= L) (h0 : Inv i) : db P G (.loop c) T (St i) := by
 refine QQ (I := fun m s => ∃ j, j <= L /\ m = L - j /\ s = St j /\ Inv j) ?_ (m := L - i) ⟨i, hi, rfl, rfl, h0⟩
 rintro m s ⟨j, hj, rfl, rfl, hI⟩
 by_cases h : j < L
 ·refine (round j h hI).mono ?_
  intro e s hs
  cases e with
  | normal =>
   have hs : s = St (j + 1) /\ Inv (j + 1) := hs
   exact ⟨L - (j + 1), by omega, j + 1, by omega, rfl, hs⟩
  | _ => exact hs
 have : j = L := by omega
 subst this
 refine (last hI).mono ?_
 intro e s hs
 cases e with
 | normal => exact hs.elim
 | _ => exact hs
end
end Go.Tp

namespace Go.Tp
section
variable {P : Program} {G : bD} {α : Type} {T : α -> Prop}
theorem oh {q : Qy α} {g : FuncId} {args : List ac} {heap : Heap} {next : Nat} {r : eu} (hc : ay P G g args heap next (XQ r)) (h : (q.UK r).Ok P G T) (e : q.MM = some g := by kernel_rfl) (ha : q.uz = args := by kernel_rfl) (hh : q.tW = heap := by kernel_rfl) (hn : q.tU = next := by kernel_rfl) : q.Ok P G T :=
 OO hc e ha hh hn h
theorem on {q : Qy α} {g : FuncId} {args0 : List ac} {v : ac} (hc : ay P G g args0 [] 0 (XQ ⟨v, [], 0⟩)) (h : (q.UK ⟨v, q.tW, q.tU⟩).Ok P G T) (e : q.MM = some g := by kernel_rfl) (ha : Ix q.uz = args0 := by kernel_rfl) (hm : Iy v = true := by exact rfl) : q.Ok P G T :=
 UI hc e ha hm (fun _ => h)
theorem ob {q : Qy α} {c b : Bool} (hc : c = b) (h : (q.TQ b).Ok P G T) (e : q.xV = some c := by kernel_rfl) : q.Ok P G T := bh hc e h
theorem ox {q : Qy α} {c b : Bool} (hc : c = b) (h : (q.TQ (!b)).Ok P G T) (e : q.xV = some (!c) := by kernel_rfl) : q.Ok P G T := bh (by rw [hc]) e h
theorem oo {q : Qy α} {o : Option Out} {x : Out} (ho : o = some x) (h : (q.WT x).Ok P G T) (e : q.OK = some o := by kernel_rfl) : q.Ok P G T := RL ho e h
theorem fi {q : Qy α} {a : α} (e : q.FD = some a := by kernel_rfl) : q.Ok P G (fun y => y = a) := cj e rfl
theorem oe {q : Qy (Exit × ab)} {T : Exit -> aa -> Prop} {n : Nat} {ex : Exit} {f : ab} (h : T ex (f.aw n)) (e : q.PH = some ex := by kernel_rfl) (hs : q.S9.aw n = f.aw n := by kernel_rfl) : q.Ok P G (fun r => T r.1 (r.2.aw n)) := bK f e hs h
theorem lo {q : Qy α} {n : Nat} {c : Code} {f : ab} {L : Exit -> aa -> Prop} (hl : db P G (.loop c) L (f.aw n)) (h : ∀ e s, L e s -> ∃ f', s = f'.aw n /\ (q.UL (e, f')).Ok P G T) (e : q.zv = some (n, c) := by kernel_rfl) (hs : q.CY.aw n = f.aw n := by kernel_rfl) : q.Ok P G T := gD e hs hl h
end
end Go.Tp

namespace Go.Tp
noncomputable def GG (A B : Nat -> Bool) (E : bp) (G : bD) (moves caps : FuncId -> Bool) (x : kD) (g : FuncId) (args : List ac) (heap : Heap) (next : Nat) : Qy eu :=
 match Nat.ble args.length x.ntmps with
 | false => .fail
 | true => qC A B E G ⟨moves, x.ord, caps, rowsOf caps g⟩ x.ntmps x.live x.code ⟨vU 0 args, [], heap, next⟩ (fun r => match r with
  |(.ret, f) => (match uR E x.ntmps x.results f with | some r => .fin r | none => .fail)
  |(.normal, f) => (match uR E x.ntmps x.results f with | some r => .fin r | none => .fail)
  | _ => .fail)
section
variable {P : Program} {E : bp} {G : bD}
/-- A function's contract, as its run ends. -/
theorem Ct {A B : Nat -> Bool} {moves caps : FuncId -> Bool} {F : FuncId -> Option kD} (hE : E.Ok P) (hF : TT P moves caps F) {g : FuncId} {x : kD} (hx : F g = some x) {args : List ac} {heap : Heap} {next : Nat} {T : eu -> Prop}
  (h : pe args -> uT heap -> (GG A B E G moves caps x g args heap next).Ok P G T) : ay P G g args heap next (fun v h m => T ⟨v, h, m⟩) := by
 obtain ⟨fn, h1, h2, h3, h4, h5⟩ := hF g x hx
 refine iY hE h1 h2 ?_
 intro b1 b2
 have h := (h b1 b2).ok
 rw [h3, h4]
 unfold GG at h
 split at h
 ·exact h.elim
 rename_i hlen
 have hlen := fN hlen
 have hent : (⟨vU 0 args, [], heap, next⟩ : ab).aw x.ntmps = enter x.ntmps args heap next := by
  simp only [ab.aw, enter]
  congr 1
  apply List.ext_getElem?
  intro i
  rw [kj, Nat.zero_add, qp, if_pos (Nat.zero_le _), Nat.sub_zero, List.getElem?_append]
  split
  ·split
   ·rename_i hi; unfold bn; rw [List.getElem?_eq_getElem hi]
   rename_i hi1 hi
   rw [List.getElem?_replicate, if_pos (by omega)]
   unfold bn
   rw [List.getElem?_eq_none (by omega)]
  rename_i hi
  rw [if_neg (by omega), List.getElem?_replicate, if_neg (by omega)]
 rw [← hent]
 refine (gC (H := ⟨moves, x.ord, caps, rowsOf caps g⟩) hE x.live x.code _ _ (by rw [dC]; exact h5) h).mono ?_
 rintro e s ⟨f', rfl, h'⟩
 have key : (match uR E x.ntmps x.results f' with | some r => (Qy.fin r : Qy eu) | none => .fail).qk P G T -> uU E x.results (fun v h m => T ⟨v, h, m⟩) (f'.aw x.ntmps) := by
  intro hh
  split at hh
  ·rename_i r hr
   have := pB (E := E) (rs := x.results) (s := f'.aw x.ntmps) (r := r) (by rw [Ba]; exact hr)
   exact zX (by rintro v h m ⟨rfl, rfl, rfl⟩; exact hh) this
  exact hh.elim
 cases e with
 | ret => exact key h'
 | normal => exact key h'
 | _ => exact h'.elim
/-- Names in the list become k0, k0 + 1, ..; the others stay. -/
def jD (k0 : Nat) (ps : List Nat) (o : Nat) : Nat := match gF o ps with | true => oY o ps k0 | false => o
def dB (k0 : Nat) (ps : List Nat) (o : Nat) : Bool := Nat.blt o k0 || gF o ps
theorem ay.rn {g : FuncId} {args : List ac} {heap : Heap} {next : Nat} {Q Q' : ac -> Heap -> Nat -> Prop} (h : ay P G g args heap next Q)
  (hq : ∀ v hp m, Q v hp m -> ∃ ps, AL (dB next ps) v = true /\ GZ (dB next ps) (bY (dB next ps) hp) = true /\ Q' (eX (jD next ps) v) (lF (jD next ps) (bY (dB next ps) hp)) (next + ps.length)) : ay P G g args heap next Q' := by
 intro w R N cargs bsA bsH bsF ha hh hnd hnx hg hF
 refine (h w R N cargs bsA bsH bsF ha hh hnd hnx hg hF).mono ?_
 rintro e w' ⟨v, cv, hp, m, R', N', bsV, bsH', rfl, hq1, hv, hh', hnd', hnx', hk, hN⟩
 obtain ⟨ps, p1, p2, p3⟩ := hq _ _ _ hq1
 let N2 : Name -> Option Nat := fun m => match m with | .loc i => N' (.loc i) | .out x => if x < next then N' (.out x) else (match ps[x - next]? with | some o => N' (.out o) | none => none)
 have hM : ∀ o b, dB next ps o = true -> outs N' (.out o) = some b -> outs N2 (.out (jD next ps o)) = some b := by
  intro o b ho hb
  simp only [outs] at hb ⊢
  unfold jD
  cases hm : gF o ps with
  | true =>
   obtain ⟨q1, q2, q3⟩ := Hq (k := next) hm
   dsimp only [N2]
   rw [if_neg (by omega), q3]
   exact hb
  | false =>
   unfold dB at ho
   rw [hm, Bool.or_false] at ho
   dsimp only [N2]
   rw [if_pos (nV ho)]
   exact hb
 have hL : ∀ i b, outs N' (.loc i) = some b -> outs N2 (.loc i) = some b := fun i b h => h
 obtain ⟨bs', k1, k2⟩ := kI (dB next ps) hh'
 refine ⟨_, cv, _, _, R', N2, bsV, bs', rfl, p3, hv.D1 hL hM p1, k1.D1 hL hM p2, ?_, ?_, hk, ?_⟩
 ·exact List.Nodup.sublist (List.Sublist.append (.refl _) (List.Sublist.append k2 (.refl _))) hnd'
 ·intro x b hx
  dsimp only [N2] at hx
  split at hx
  ·omega
  split at hx
  ·rename_i o ho
   have := (List.getElem?_eq_some_iff.1 ho).1
   omega
  simp at hx
 intro o b hb
 dsimp only [N2]
 rw [if_pos (hnx o b hb)]
 exact hN o b hb
end
end Go.Tp

namespace Go.Tp
/-- The second says no more than the first. -/
inductive TS : ac -> ac -> Prop
 |refl (a : ac) : TS a a
 |own (es : List aq) : TS (.own es) (.dat (.slice es))
 |nil : TS (.dat (.flat (.slice none 0 0))) (.dat (.slice []))
inductive JJ : List ac -> List ac -> Prop
 |nil : JJ [] []
 |cons {a b : ac} {as bs : List ac} (h : TS a b) (t : JJ as bs) : JJ (a :: as) (b :: bs)
theorem JJ.refl : ∀ l : List ac, JJ l l
 | [] => .nil
 | a :: r => .cons (.refl a) (JJ.refl r)
inductive Wp : aN -> aN -> Prop
 |refl (o : aN) : Wp o o
 |cells {as bs : List ac} (h : JJ as bs) (hb : cM bs = false) : Wp (.cells as) (.cells bs)
inductive Wh : Heap -> Heap -> Prop
 |nil : Wh [] []
 |cons {n : Name} {o p : aN} {h k : Heap} (ho : Wp o p) (t : Wh h k) : Wh ((n, o) :: h) ((n, p) :: k)
section
variable {w : World} {R : Own} {M : Name -> Option Nat}
theorem ak.wk {a b : ac} (h : TS a b) {v : Value} {bs : List Nat} (hr : ak w R M a v bs) : ∃ bs', ak w R M b v bs' /\ bs'.Sublist bs := by
 cases h with
 | refl => exact ⟨bs, hr, List.Sublist.refl _⟩
 | own es => exact ⟨[], bW (bZ hr).rep, List.nil_sublist _⟩
 | nil =>
  simp only [ak] at hr
  obtain ⟨rfl, hd⟩ := hr
  refine ⟨[], ?_, List.Sublist.refl _⟩
  refine bW ?_
  cases hd with
  | flat h => exact .nil none 0
theorem ag.wk {as cs : List ac} (h : JJ as cs) : ∀ {vs : List Value} {bs : List Nat}, ag w R M as vs bs -> ∃ bs', ag w R M cs vs bs' /\ bs'.Sublist bs := by
 induction h with
 | nil => intro vs bs hr; exact ⟨bs, hr, List.Sublist.refl _⟩
 | cons h _ ih =>
  intro vs bs hr
  simp only [ag] at hr
  obtain ⟨v, vs', b1, b2, rfl, rfl, h1, h2⟩ := hr
  obtain ⟨c1, k1, s1⟩ := h1.wk h
  obtain ⟨c2, k2, s2⟩ := ih h2
  refine ⟨c1 ++ c2, ?_, s1.append s2⟩
  simp only [ag]
  exact ⟨v, vs', c1, c2, rfl, rfl, k1, k2⟩
theorem JJ.append {as bs : List ac} (h : JJ as bs) (c : List ac) : JJ (as ++ c) (bs ++ c) := by
 induction h with
 | nil => exact JJ.refl c
 | cons h _ ih => exact .cons h ih
theorem aQ.wk {o p : aN} (h : Wp o p) {b : Nat} {bs : List Nat} (hr : aQ w R M o b bs) : ∃ bs', aQ w R M p b bs' /\ bs'.Sublist bs := by
 cases h with
 | refl => exact ⟨bs, hr, List.Sublist.refl _⟩
 | cells hl hb =>
  simp only [aQ] at hr
  obtain ⟨vs, elem, sp, h1, h2, h3, h4⟩ := hr
  obtain ⟨bs', k, s⟩ := h2.wk (hl.append _)
  refine ⟨bs', ?_, s⟩
  simp only [aQ]
  exact ⟨vs, elem, sp, h1, k, h3, fun h => by rw [hb] at h; simp at h⟩
theorem al.wk {h k : Heap} (hw : Wh h k) : ∀ {bs : List Nat}, al w R M h bs -> ∃ bs', al w R M k bs' /\ bs'.Sublist bs := by
 induction hw with
 | nil => intro bs hr; exact ⟨bs, hr, List.Sublist.refl _⟩
 | cons ho _ ih =>
  intro bs hr
  simp only [al] at hr
  obtain ⟨b, b1, b2, rfl, hn, h1, h2⟩ := hr
  obtain ⟨c1, k1, s1⟩ := h1.wk ho
  obtain ⟨c2, k2, s2⟩ := ih h2
  refine ⟨b :: (c1 ++ c2), ?_, (s1.append s2).cons_cons b⟩
  simp only [al]
  exact ⟨b, c1, c2, rfl, hn, k1, k2⟩
end
section
variable {P : Program} {G : bD}
/-- A call with less said of what it leaves. -/
theorem ay.TU {g : FuncId} {args : List ac} {heap : Heap} {next : Nat} {v v2 : ac} {h h2 : Heap} {m : Nat} (hc : ay P G g args heap next (XQ ⟨v, h, m⟩)) (hv : TS v v2) (hh : Wh h h2) : ay P G g args heap next (XQ ⟨v2, h2, m⟩) := by
 intro w R N cargs bsA bsH bsF ha hp hnd hnx hg hF
 refine (hc w R N cargs bsA bsH bsF ha hp hnd hnx hg hF).mono ?_
 rintro e w' ⟨v', cv, h1, next', R', N', bsV, bsH', rfl, ⟨rfl, rfl, rfl⟩, hv1, hh', hnd', hnx', hk, hN⟩
 obtain ⟨b1, k1, s1⟩ := hv1.wk hv
 obtain ⟨b2, k2, s2⟩ := hh'.wk hh
 exact ⟨_, cv, _, _, R', N', b1, b2, rfl, ⟨rfl, rfl, rfl⟩, k1, k2, (s1.append (s2.append_right _)).nodup hnd', hnx', hk, hN⟩
end
end Go.Tp

namespace Go.Tp
open Go.ChangeShapes Go.WideShapes
/-- The integers of a slice, as data. -/
def IL (x : Int) : aq := .flat (.int .i64 x)
/-- An argument that is a slice of integers. -/
theorem DV {H : Type} {enc : TypeId × Value -> H} {P : Program} {W : World} {base : Nat} {sp : Nat -> Bool} {held : Bool} {t e : TypeId} {v : Value} {d : DataW H} {ps : List MemPlace} (N : Name -> Option Nat)
  (ht : P.underlying t = some (.slice e)) (he : P.underlying e = some (.int .i64)) (hc : P.cellsOf e = 1) (hv : v.cells = #[v]) (h : DataW.Trod enc P W base sp held t v d ps) :
  ∃ l : List Int, ((d = .nil /\ l = []) ∨ (∃ els rest, d = .slice els rest /\ els.length = l.length)) /\ (l.length <= iV -> ak W tT N (.dat (.slice (l.map IL))) v []) := by
 obtain ⟨fuel, hf⟩ := h
 rcases open_ints ht he hc hf with ⟨hcs, hx⟩ | ⟨a, len, cap, zs, hcs, _, hl, hm, hz, hx, hi, hw⟩
 ·rw [hv] at hcs
  simp only [List.cons.injEq, and_true] at hcs
  have hvn : v = .slice none 0 0 := by simpa using hcs
  subst hvn
  refine ⟨[], .inl ⟨?_, rfl⟩, fun _ => bW (d := .slice []) (.nil none 0)⟩
  simp only [Prod.mk.injEq] at hx
  exact hx.1
 rw [hv] at hcs
 have hvn : v = .slice (some a) len cap := by simpa using hcs
 subst hvn
 simp only [Prod.mk.injEq] at hx
 have hlz : len <= zs.length := by rw [hz]; split <;> omega
 refine ⟨zs.take len, .inr ⟨_, _, hx.1, by simp [lits]⟩, fun hb => ?_⟩
 have htl : (zs.take len).length = len := by rw [List.length_take]; omega
 rw [htl] at hb
 refine bW (d := .slice _) ?_
 cases hk : len with
 | zero =>
  rw [hk] at hl
  simp only [List.take_zero, List.map_nil]
  exact .nil (some a) cap
 | succ k0 =>
  have hspot : a.spot = none := by
   have := hi 0 (by omega)
   have := World.cell?_spot this
   simpa [Addr.add] using this
  obtain ⟨b, off, spot⟩ := a
  simp only at hspot
  subst hspot
  rw [← hk]
  have el : ((zs.take len).map IL).length = len := by rw [List.length_map, htl]
  have hgoal : ev W tT (.slice (some ⟨b, off, none⟩) ((zs.take len).map IL).length cap) (.slice ((zs.take len).map IL)) := by
   refine .slice b off cap 1 _ (fun i _ => .int .i64 (zs.getD i 0)) (by omega) ?_ (by omega) (by omega) ?_ ?_
   ·intro d hd
    obtain ⟨x, _, rfl⟩ := List.mem_map.1 hd
    rfl
   ·intro i j hil hj
    obtain rfl : j = 0 := by omega
    rw [el] at hil
    refine ⟨?_, fun h => h⟩
    have := hi i (by omega)
    simp only [Addr.add] at this
    simp only [Nat.mul_one, Nat.add_zero]
    split at this
    ·rename_i h0; subst h0; exact this
    exact this
   intro i j d c hd hcc
   rw [List.getElem?_map] at hd
   cases hb2 : (zs.take len)[i]? with
   | none => rw [hb2] at hd; simp at hd
   | some x =>
    rw [hb2] at hd
    simp at hd
    subst hd
    have : c = .flat (.int .i64 x) := by
     cases j with
     | zero => simp [IL, aq.cells] at hcc; exact hcc.symm
     | succ j => simp [IL, aq.cells] at hcc
    subst this
    have hx2 : zs[i]? = some x := by
     rw [List.getElem?_take] at hb2
     split at hb2
     ·exact hb2
     simp at hb2
    have : zs.getD i 0 = x := by simp [List.getD, hx2]
    rw [this]
    exact .flat (hw x (List.mem_of_getElem? hx2))
  rw [el] at hgoal
  exact hgoal
/-- A call from outside: what comes back, and that no block changes. -/
theorem sT {P : Program} {G : bD} {f : FuncId} {as : List ac} {args : List Value} {b : Bool} {r : eu} (W : World) (ha : ag W tT (outs fun _ => none) as args []) (h : ay P G f as [] 0 (XQ r)) (hr : r.val = bv b) (hG : ∀ g cs, G g = some cs -> dF W tT g 0 cs) :
  Calls P f args.toArray W fun e W' => e = .returned (.bool b) /\ W.keptBut W' (fun _ => False) /\ ∀ i, i < W.heap.size -> W'.heap[i]? = W.heap[i]? := by
 refine (h W tT (fun _ => none) args [] [] [] ha rfl (by simp) (by intro o b h; simp at h) hG (by simp)).mono ?_
 rintro e W' ⟨v, cv, heap', next', R', N', bsV, bsH', rfl, ⟨rfl, _, _⟩, hv, _, _, _, hk, _⟩
 rw [hr] at hv
 obtain ⟨_, rfl, _⟩ := aF hv
 exact ⟨rfl, uO hk.step, fun i hi => (hk.step.block i hi (fun _ h => h)).1⟩
/-- What was read is read again, where no block has changed. -/
theorem vG {H : Type} {enc : TypeId × Value -> H} {P : Program} {W W' : World} {base : Nat} {sp : Nat -> Bool} {hd : Bool} (hB : ∀ i, i < W.heap.size -> W'.heap[i]? = W.heap[i]?) : ∀ {ts : List TypeId} {vs : List Value} {ds : List (DataW H)} {ps : List MemPlace},
  DataW.TrodAll enc P W base sp hd ts vs ds ps -> DataW.TrodAll enc P W' base sp hd ts vs ds ps
 | [], _, _, _, h => by
  obtain ⟨rfl, rfl, rfl⟩ := trodAll_nil h
  exact trodAll_mk0
 | _ :: _, _, _, _, h => by
  obtain ⟨v, vs1, d, ds1, a, b, rfl, rfl, rfl, ⟨n, hn⟩, h2⟩ := trodAll_cons h
  refine ⟨a, b, ⟨n, DataW.trod_carry n _ _ _ hn (fun p hp => ?_)⟩, vG hB h2, rfl⟩
  have hl := DataW.trod_lt n _ _ _ hn p hp
  cases p with
  | cell b o => exact World.cell?_of_block (w := W) (hB b hl)
  | map b => exact hB b hl
end Go.Tp
