/- HierarchySupertype returns true and changes nothing, for arguments of bulk at most 1048576 (the card of the second form; conditions: those of the given row). Names are shortened by a program, for the claim's bound. Part 3. -/
import Derived.Scope
import Derived.Deep.Slices
import Derived.ChangeSame
import Derived.LaidLaws
import Derived.RowKit
import Derived.KernelRfl
import Derived.ChangeSlices
import Derived.ReadAgain
import Derived.ChangeMaps5
import Derived.Test.YtiihadmgkoamoaaGreatDoorQ02
set_option linter.unusedVariables false
set_option linter.unusedSimpArgs false
set_option maxRecDepth 100000
set_option maxHeartbeats 4000000
namespace Go.Tp
/-! ### Slots that are not read any more -/
noncomputable def dW (l : Sl) : Nat -> Sl :=
 @List.rec (Nat × ac) (fun _ => Nat -> Sl) (fun _ => []) (fun p _ ih m => @Bool.rec (fun _ => Sl) (p :: ih (Nat.xor m (Nat.pow 2 p.1))) (ih m) (Nat.beq (Nat.land 1 (Nat.shiftRight m p.1)) 0)) l
theorem YF (m d : Nat) : Nat.beq (Nat.land 1 (Nat.shiftRight m d)) 0 = !(m.testBit d) := by
 have e : m.testBit d = (Nat.land 1 (Nat.shiftRight m d) != 0) := rfl
 rw [e]
 generalize Nat.land 1 (Nat.shiftRight m d) = x
 by_cases h : x = 0
 ·subst h; rfl
 have h1 : Nat.beq x 0 = false := by rw [Bool.eq_false_iff]; intro hc; rw [Nat.beq_eq] at hc; exact h hc
 have h2 : (x != 0) = true := by simpa using h
 rw [h1, h2]; rfl
theorem ur (d : Nat) (v : ac) (r : Sl) (m : Nat) : dW ((d, v) :: r) m = if m.testBit d = true then (d, v) :: dW r (m ^^^ 2 ^ d) else dW r m := by
 have e : dW ((d, v) :: r) m = @Bool.rec (fun _ => Sl) ((d, v) :: dW r (m ^^^ 2 ^ d)) (dW r m) (Nat.beq (Nat.land 1 (Nat.shiftRight m d)) 0) := rfl
 rw [e, YF]
 cases m.testBit d <;> simp
theorem qa : ∀ (l : Sl) (m t : Nat), m.testBit t = false -> po (dW l m) t = .undef
 | [], _, _, _ => rfl
 |(d, v) :: r, m, t, h => by
  rw [ur]
  split
  ·rename_i hd
   have hne : d ≠ t := fun e => by rw [e, h] at hd; simp at hd
   rw [gv, if_neg hne]
   apply qa
   rw [Nat.testBit_xor, h, Nat.testBit_two_pow_of_ne hne]; rfl
  exact qa r m t h
theorem qb : ∀ (l : Sl) (m t : Nat), po (dW l m) t = po l t ∨ po (dW l m) t = .undef
 | [], _, _ => .inl rfl
 |(d, v) :: r, m, t => by
  rw [ur, gv]
  split
  ·rw [gv]
   split
   ·exact .inl rfl
   exact qb r _ t
  rename_i hd
  split
  ·rename_i he
   subst he
   exact .inr (qa r m d (by simpa using hd))
  exact qb r m t
theorem DF {w : World} {R : Own} {N : Name -> Option Nat} : ∀ {as as' : List ac} {vs : List Value} {bs : List Nat}, as'.length = as.length -> (∀ i : Nat, as'[i]? = as[i]? ∨ as'[i]? = some .undef) -> ag w R N as vs bs -> ∃ bs', ag w R N as' vs bs' /\ bs'.Sublist bs
 | [], [], _, bs, _, _, h => ⟨bs, h, .refl _⟩
 | [], _ :: _, _, _, hl, _, _ => by simp at hl
 | _ :: _, [], _, _, hl, _, _ => by simp at hl
 | a :: as, a' :: as', vs, bs, hl, hi, h => by
  obtain ⟨v, vs', b1, b2, rfl, rfl, h1, h2⟩ := aD h
  obtain ⟨bs', k1, k2⟩ := DF (as := as) (as' := as') (by simpa using hl) (fun i => by simpa using hi (i + 1)) h2
  rcases hi 0 with h0 | h0
  ·simp at h0
   subst h0
   exact ⟨b1 ++ bs', aH h1 k1, List.Sublist.append (.refl _) k2⟩
  simp at h0
  subst h0
  exact ⟨[] ++ bs', aH (aP _) k1, List.Sublist.append (List.nil_sublist _) k2⟩
def jW (f : ab) (m : Sl -> Sl) : ab := match f with | ⟨sl, locs, heap, next⟩ => ⟨m sl, locs, heap, next⟩
theorem cS.prune {G : bF} {w : World} {R : Own} {N : Name -> Option Nat} {tmps : List Value} {n : Nat} {f : ab} {bsT bsL bsH bsF : List Nat} (h : cS G w R N tmps (f.au n) undef .undef [] bsT bsL bsH bsF) (m : Nat) :
  ∃ bsT', cS G w R N tmps ((jW f (fun l => dW l m)).au n) undef .undef [] bsT' bsL bsH bsF := by
 obtain ⟨sl, locs, heap, next⟩ := f
 obtain ⟨bsT', k1, k2⟩ := DF (as' := DD n 0 (dW sl m)) (by simp [ab.au, lZ]) (fun i => by
  simp only [ab.au, kA]
  split
  ·rcases qb sl m (0 + i) with h | h
   ·exact .inl (by rw [h])
   exact .inr (by rw [h])
  exact .inl rfl) h.tmps
 exact ⟨bsT', aP _, k1, h.locs, h.heap, List.Nodup.sublist (List.Sublist.append (.refl _) (List.Sublist.append k2 (.refl _))) h.nodup, h.next, h.glob, h.frame⟩
/-! ### What a call leaves and nobody names -/
mutual
/-- Names a new object. -/
def dF (k : Nat) : ac -> Bool
 | .ptr (.out o) _ => Nat.ble k o
 | .ptr (.loc _) _ => true
 | .map (.out o) => Nat.ble k o
 | .map (.loc _) => true
 | .win (.out o) _ _ _ => Nat.ble k o
 | .win (.loc _) _ _ _ => true
 | .fn _ a b => dJ k a || dJ k b
 | .agg cs => dJ k cs
 | .tup cs => dJ k cs
 | _ => false
def dJ (k : Nat) : List ac -> Bool
 | [] => false
 | a :: r => dF k a || dJ k r
end
def jr (k : Nat) : Name -> Bool
 | .out o => Nat.blt o k
 | .loc _ => false
def eG (k : Nat) : Heap -> Heap
 | [] => []
 |(m, o) :: r => match jr k m with | true => (m, o) :: eG k r | false => eG k r
def nC (k : Nat) : aN -> Bool
 | .cells cs => dJ k cs
 | .map _ => false
def cP (k : Nat) : Heap -> Bool
 | [] => false
 |(_, o) :: r => nC k o || cP k r
mutual
def HB : ac -> List Nat
 | .ptr (.out o) _ => [o]
 | .map (.out o) => [o]
 | .win (.out o) _ _ _ => [o]
 | .fn _ a b => zZ a ++ zZ b
 | .agg cs => zZ cs
 | .tup cs => zZ cs
 | _ => []
def zZ : List ac -> List Nat
 | [] => []
 | a :: r => HB a ++ zZ r
end
def ir (o : Nat) : List Nat -> Bool
 | [] => false
 | x :: r => match Nat.beq x o with | true => true | false => ir o r
def Vq : List Nat -> List Nat -> List Nat
 | [], l => l
 | n :: ns, l => match ir n l with | true => Vq ns l | false => Vq ns (n :: l)
def oT (k : Nat) (l : List Nat) : Heap -> List Nat
 | [] => l
 |(.out o, .cells cs) :: r => (match Nat.blt o k || ir o l with | true => oT k (Vq (zZ cs) l) r | false => oT k l r)
 | _ :: r => oT k l r
def Ca (k : Nat) (h : Heap) : Nat -> List Nat -> List Nat
 | 0, l => l
 | n + 1, l => Ca k h n (oT k l h)
def ly (k : Nat) (l : List Nat) : Heap -> Heap
 | [] => []
 |(.out o, x) :: r => (match Nat.blt o k || ir o l with | true => (.out o, x) :: ly k l r | false => ly k l r)
 | _ :: r => ly k l r
def sx (k : Nat) (r : eQ) : eQ :=
 match r with
 | ⟨val, heap, next⟩ => match dF k val || cP k (eG k heap) with
  | false => ⟨val, eG k heap, k⟩
  | true => ⟨val, ly k (Ca k heap 3 (HB val)) heap, next⟩
section
variable {w : World} {R : Own} {M M2 : Name -> Option Nat}
theorem ny (k : Nat) : ∀ {os : Heap} {bs : List Nat}, al w R M os bs -> ∃ bs', al w R M (eG k os) bs' /\ bs'.Sublist bs
 | [], bs, h => ⟨bs, h, .refl _⟩
 |(m, o) :: os, _, ⟨b, b1, b2, e, hn, ho, hr⟩ => by
  subst e
  obtain ⟨bs', k1, k2⟩ := ny k hr
  simp only [eG]
  split
  ·exact ⟨b :: (b1 ++ bs'), ⟨b, b1, bs', rfl, hn, ho, k1⟩, (List.Sublist.append (.refl _) k2).cons_cons _⟩
  exact ⟨bs', k1, k2.trans ((List.sublist_append_right b1 b2).cons _)⟩
theorem jx (k : Nat) (l : List Nat) : ∀ {os : Heap} {bs : List Nat}, al w R M os bs -> ∃ bs', al w R M (ly k l os) bs' /\ bs'.Sublist bs
 | [], bs, h => ⟨bs, h, .refl _⟩
 |(.out m, o) :: os, _, ⟨b, b1, b2, e, hn, ho, hr⟩ => by
  subst e
  obtain ⟨bs', k1, k2⟩ := jx k l hr
  simp only [ly]
  split
  ·exact ⟨b :: (b1 ++ bs'), ⟨b, b1, bs', rfl, hn, ho, k1⟩, (List.Sublist.append (.refl _) k2).cons_cons _⟩
  exact ⟨bs', k1, k2.trans ((List.sublist_append_right b1 b2).cons _)⟩
 |(.loc m, o) :: os, _, ⟨b, b1, b2, e, hn, ho, hr⟩ => by
  subst e
  obtain ⟨bs', k1, k2⟩ := jx k l hr
  exact ⟨bs', k1, k2.trans ((List.sublist_append_right b1 b2).cons _)⟩
variable (hM : ∀ m b, (∃ o, m = .out o) -> M m = some b -> M2 m = some b)
mutual
theorem ak.low {k : Nat} (hM : ∀ o b, o < k -> M (.out o) = some b -> M2 (.out o) = some b) : ∀ {a : ac} {v : Value} {bs : List Nat}, dF k a = false -> ak w R M a v bs -> ak w R M2 a v bs
 | .dat _, _, _, _, h => by simp only [ak] at h ⊢; exact h
 | .own _, _, _, _, h => by simp only [ak] at h ⊢; exact h
 | .ref _, _, _, _, h => by simp only [ak] at h ⊢; exact h
 | .ptr (.loc _) _, _, _, hn, _ => by simp [dF] at hn
 | .ptr (.out o) _, _, _, hn, h => by
  simp only [dF] at hn
  simp only [ak] at h ⊢
  obtain ⟨h1, b, hb, e⟩ := h
  exact ⟨h1, b, hM o b (by rcases Nat.lt_or_ge o k with h | h; exact h; rw [gY h] at hn; simp at hn) hb, e⟩
 | .map (.loc _), _, _, hn, _ => by simp [dF] at hn
 | .win (.loc _) _ _ _, _, _, hn, _ => by simp [dF] at hn
 | .win (.out o) _ _ _, _, _, hn, h => by
  simp only [dF] at hn
  simp only [ak] at h ⊢
  obtain ⟨h1, b, cap, hb, e⟩ := h
  exact ⟨h1, b, cap, hM o b (by rcases Nat.lt_or_ge o k with h | h; exact h; rw [gY h] at hn; simp at hn) hb, e⟩
 | .map (.out o), _, _, hn, h => by
  simp only [dF] at hn
  simp only [ak] at h ⊢
  obtain ⟨h1, b, hb, e⟩ := h
  exact ⟨h1, b, hM o b (by rcases Nat.lt_or_ge o k with h | h; exact h; rw [gY h] at hn; simp at hn) hb, e⟩
 | .fn _ first captured, _, _, hn, h => by
  simp only [dF, Bool.or_eq_false_iff] at hn
  simp only [ak] at h ⊢
  obtain ⟨h1, vs', us', e, h2, h3⟩ := h
  exact ⟨h1, vs', us', e, ag.low hM (as := first) hn.1 h2, ag.low hM (as := captured) hn.2 h3⟩
 | .agg cs, _, _, hn, h => by
  simp only [dF] at hn
  simp only [ak] at h ⊢
  obtain ⟨vs', e, h2⟩ := h
  exact ⟨vs', e, ag.low hM (as := cs) hn h2⟩
 | .tup cs, _, _, hn, h => by
  simp only [dF] at hn
  simp only [ak] at h ⊢
  obtain ⟨vs', e, h2⟩ := h
  exact ⟨vs', e, ag.low hM (as := cs) hn h2⟩
 | .undef, _, _, _, h => by simp only [ak] at h ⊢; exact h
theorem ag.low {k : Nat} (hM : ∀ o b, o < k -> M (.out o) = some b -> M2 (.out o) = some b) : ∀ {as : List ac} {vs : List Value} {bs : List Nat}, dJ k as = false -> ag w R M as vs bs -> ag w R M2 as vs bs
 | [], _, _, _, h => by simp only [ag] at h ⊢; exact h
 | a :: as, _, _, hn, h => by
  simp only [dJ, Bool.or_eq_false_iff] at hn
  simp only [ag] at h ⊢
  obtain ⟨v', vs', b1', b2', e1, e2, h1, h2⟩ := h
  exact ⟨v', vs', b1', b2', e1, e2, ak.low hM (a := a) hn.1 h1, ag.low hM (as := as) hn.2 h2⟩
end
theorem nD (k : Nat) : ∀ (l m : List ac), dJ k (l ++ m) = (dJ k l || dJ k m)
 | [], m => by simp [dJ]
 | a :: l, m => by simp [dJ, nD k l m, Bool.or_assoc]
theorem M0 (k : Nat) (cs : List ac) (j : Nat) : dJ k (cs ++ List.replicate j .undef) = dJ k cs := by
 rw [nD]
 have : dJ k (List.replicate j .undef) = false := by
  induction j with
  | zero => rfl
  | succ j ih => simp [List.replicate_succ, dJ, dF, ih]
 rw [this, Bool.or_false]
theorem al.low {k : Nat} (hM : ∀ o b, o < k -> M (.out o) = some b -> M2 (.out o) = some b) : ∀ {os : Heap} {bs : List Nat}, (∀ p ∈ os, jr k p.1 = true) -> cP k os = false -> al w R M os bs -> al w R M2 os bs
 | [], _, _, _, h => h
 |(m, o) :: os, _, hs, hn, ⟨b, b1, b2, e, hb, ho, hr⟩ => by
  simp only [cP, Bool.or_eq_false_iff] at hn
  have hm := hs (m, o) (by simp)
  refine ⟨b, b1, b2, e, ?_, ?_, al.low hM (fun p hp => hs p (by simp [hp])) hn.2 hr⟩
  ·cases m with
   | loc i => simp [jr] at hm
   | out i => exact hM i b (ov (by simpa [jr] using hm)) hb
  cases o with
  | cells cs =>
   obtain ⟨vs, el, sp, hblk, hrr, hR⟩ := ho
   exact ⟨vs, el, sp, hblk, hrr.low hM (by rw [M0]; simpa [nC] using hn.1), hR⟩
  | map es => exact ho
theorem ky (k : Nat) : ∀ os : Heap, ∀ p ∈ eG k os, jr k p.1 = true
 | [], p, h => by simp [eG] at h
 |(m, o) :: os, p, h => by
  simp only [eG] at h
  split at h
  ·rename_i hm
   rcases List.mem_cons.1 h with rfl | h
   ·exact hm
   exact ky k os p h
  exact ky k os p h
end
theorem aB.gc {P : Program} {G : bF} {f : FuncId} {args : List ac} {heap : Heap} {next : Nat} {r : eQ} (h : aB P G f args heap next (XQ r)) : aB P G f args heap next (XQ (sx next r)) := by
 intro w R N cargs bsA bsH bsF ha hh hnd hnx hg hF
 refine (h w R N cargs bsA bsH bsF ha hh hnd hnx hg hF).mono ?_
 rintro e w' ⟨v', cv, heap', next', R', N', bsV, bsH', rfl, ⟨rfl, rfl, rfl⟩, hv', hh', hnd', hnx', hk, hN⟩
 obtain ⟨val, heap', next'⟩ := r
 dsimp only at hv' hh' hnx' ⊢
 unfold sx
 dsimp only
 split
 ·rename_i hnew
  simp only [Bool.or_eq_false_iff] at hnew
  obtain ⟨bs', k1, k2⟩ := ny next hh'
  let N2 : Name -> Option Nat := fun m => match m with | .loc i => N' (.loc i) | .out o => if o < next then N' (.out o) else none
  have hM : ∀ o b, o < next -> outs N' (.out o) = some b -> outs N2 (.out o) = some b := by
   intro o b ho hb
   simp only [outs] at hb ⊢
   simp only [N2]
   rw [if_pos ho]; exact hb
  refine ⟨val, cv, eG next heap', next, R', N2, bsV, bs', rfl, ⟨rfl, rfl, rfl⟩, hv'.low hM hnew.1, k1.low hM (ky next heap') hnew.2, ?_, ?_, hk, ?_⟩
  ·exact List.Nodup.sublist (List.Sublist.append (.refl _) (List.Sublist.append k2 (.refl _))) hnd'
  ·intro o b hb
   simp only [N2] at hb
   split at hb
   ·assumption
   simp at hb
  intro o b hb
  simp only [N2]
  rw [if_pos (hnx o b hb)]
  exact hN o b hb
 obtain ⟨bs', k1, k2⟩ := jx next (Ca next heap' 3 (HB val)) hh'
 exact ⟨val, cv, _, next', R', N', bsV, bs', rfl, ⟨rfl, rfl, rfl⟩, hv', k1, List.Nodup.sublist (List.Sublist.append (.refl _) (List.Sublist.append k2 (.refl _))) hnd', hnx', hk, hN⟩
/-! ### Code -/
section
variable (X : iH) (E : bw) (G : bF) (H : Hints) (n : Nat)
def rL (f : ab) (r : eQ) (dst : Option Tmp) : ab :=
 match f, r with
 | ⟨sl, locs, _, _⟩, ⟨v, heap, next⟩ => iZ ⟨sl, locs, heap, next⟩ dst v
theorem jY (f : ab) (r : eQ) (dst : Option Tmp) : (rL f r dst).au n = ({ f.au n with heap := r.heap, next := r.next } : aa).put dst r.val := by
 obtain ⟨sl, locs, heap, next⟩ := f
 obtain ⟨v, h, k⟩ := r
 simp only [rL, dS]; rfl
noncomputable def Gu (all : List Oper) (o : Oper) (f : ab) : Option ab :=
 match gk n all f o.guard with
 | none => none
 | some b => match b with
  | true =>
   (match cV o.op with
    | some c => (match pe E G H n c f with
     | some (g, args, f2) => (match X g args f2.heap f2.next with
      | some r => some (rL f2 r o.dst)
      | none => none)
     | none => none)
    | none => uH E G n (readOnly H.moves all o) (kh H all o) o f)
  | false => some (iZ f o.dst (.tup []))
theorem tv {all : List Oper} {o : Oper} {f f' : ab} (h : Gu X E G H n all o f = some f') : EW X E G H all o (f.au n) = some (f'.au n) := by
 unfold Gu at h
 unfold EW
 rw [jU]
 cases hw : gk n all f o.guard with
 | none => rw [hw] at h; simp at h
 | some b =>
  rw [hw] at h
  cases b with
  | false => simp at h; subst h; simp [dS]
  | true =>
   dsimp only at h ⊢
   rw [if_pos rfl]
   cases hc : cV o.op with
   | none =>
    rw [hc] at h
    dsimp only at h ⊢
    rw [rB, h]; rfl
   | some c =>
    rw [hc] at h
    dsimp only at h ⊢
    rw [yj]
    cases hcal : pe E G H n c f with
    | none => rw [hcal] at h; simp at h
    | some x =>
     obtain ⟨g, args, f2⟩ := x
     rw [hcal] at h
     dsimp only [Option.map_some] at h ⊢
     have e1 : (f2.au n).heap = f2.heap := rfl
     have e2 : (f2.au n).next = f2.next := rfl
     rw [e1, e2]
     cases hr : X g args f2.heap f2.next with
     | none => rw [hr] at h; simp at h
     | some r =>
      rw [hr] at h
      simp at h
      subst h
      simp [jY]
noncomputable def BU (all : List Oper) (ops : List Oper) : ab -> Option ab :=
 @List.rec Oper (fun _ => ab -> Option ab) (fun f => some f) (fun o _ ih f => match Gu X E G H n all o f with | some f' => ih f' | none => none) ops
theorem pc {all : List Oper} : ∀ {ops : List Oper} {f f' : ab}, BU X E G H n all ops f = some f' -> Ct X E G H all ops (f.au n) = some (f'.au n)
 | [], f, f', h => by
  have e : BU X E G H n all [] f = some f := rfl
  rw [e] at h; simp at h; subst h; rfl
 | o :: rest, f, f', h => by
  have e : BU X E G H n all (o :: rest) f = (match Gu X E G H n all o f with | some f' => BU X E G H n all rest f' | none => none) := rfl
  rw [e] at h
  simp only [Ct]
  cases ho : Gu X E G H n all o f with
  | none => rw [ho] at h; simp at h
  | some f1 =>
   rw [ho] at h
   rw [tv X E G H n ho]
   exact pc h
noncomputable def tq (tk : List Nat) (t : Tmp) (f : ab) : List Nat := match Gh (pt n f t) with | true => [] | false => tk
theorem An (tk : List Nat) (t : Tmp) (f : ab) : kg tk t (f.au n) = tq n tk t f := by
 unfold kg tq
 rw [iO]
 cases Gh (pt n f t) <;> rfl
noncomputable def Gt (fh : Bool) (tk : List Nat) (all : List Oper) (o : Oper) (f : ab) : Option ab :=
 match gk n all f o.guard with
 | none => none
 | some b => match b with
  | true =>
   (match cV o.op with
    | some c => (match lE E G H n c f with
     | some (g, args, f2) => (match gm H o with
      | true => (match X g args [] f2.next with
       | some ⟨v, [], k⟩ => some (rL f2 ⟨v, f2.heap, k⟩ o.dst)
       | _ => none)
      | false => (match X g args f2.heap f2.next with
       | some r => (match !kV H o || sD f2.heap r.heap with
        | true => some (rL f2 r o.dst)
        | false => none)
       | none => none))
     | none => none)
    | none => (match eL o.op with
     | some t => (match kC n fh all (fg all t (tq n tk t f)) f with
      | some f1 => uH E G n false false o f1
      | none => none)
     | none => (match jy o.op with
      | true => uH E G n (readOnly H.moves all o) (kh H all o) o f
      | false => none)))
  | false => some (iZ f o.dst (.tup []))
theorem tu {fh : Bool} {tk : List Nat} {all : List Oper} {o : Oper} {f f' : ab} (h : Gt X E G H n fh tk all o f = some f') : EV X E G H fh tk all o (f.au n) = some (f'.au n) := by
 unfold Gt at h
 unfold EV
 rw [jU]
 cases hw : gk n all f o.guard with
 | none => rw [hw] at h; simp at h
 | some b =>
  rw [hw] at h
  cases b with
  | false => simp at h; subst h; simp [dS]
  | true =>
   dsimp only at h ⊢
   rw [if_pos rfl]
   cases hc : cV o.op with
   | none =>
    rw [hc] at h
    dsimp only at h ⊢
    cases ht : eL o.op with
    | none =>
     rw [ht] at h
     dsimp only at h ⊢
     cases hst : jy o.op with
     | false => rw [hst] at h; simp at h
     | true =>
      rw [hst] at h
      dsimp only at h ⊢
      rw [rB, h]; rfl
    | some t =>
     rw [ht] at h
     dsimp only at h ⊢
     rw [An]
     cases hs : kC n fh all (fg all t (tq n tk t f)) f with
     | none => rw [hs] at h; simp at h
     | some f1 =>
      rw [hs] at h
      rw [mq n fh all _ _ _ hs]
      dsimp only at h ⊢
      rw [rB, h]; rfl
   | some c =>
    rw [hc] at h
    dsimp only at h ⊢
    rw [uQ]
    cases hcal : lE E G H n c f with
    | none => rw [hcal] at h; simp at h
    | some x =>
     obtain ⟨g, args, f2⟩ := x
     rw [hcal] at h
     dsimp only [Option.map_some] at h ⊢
     have e1 : (f2.au n).heap = f2.heap := rfl
     have e2 : (f2.au n).next = f2.next := rfl
     rw [e1, e2]
     cases hpu : gm H o with
     | true =>
      rw [hpu] at h
      dsimp only at h ⊢
      split at h
      ·rename_i v k hr
       simp at h
       subst h
       simp [jY, hr]
      simp at h
     | false =>
      rw [hpu] at h
      dsimp only at h ⊢
      cases hr : X g args f2.heap f2.next with
      | none => rw [hr] at h; simp at h
      | some r =>
       rw [hr] at h
       dsimp only at h ⊢
       cases hst : (!kV H o || sD f2.heap r.heap) with
       | false => rw [hst] at h; simp at h
       | true =>
        rw [hst] at h
        simp at h
        subst h
        simp [jY]
noncomputable def D2 (tk : List Nat) (fh : Bool) (fq : Nat -> Bool) (all : List Oper) (l : List (Nat × Bool)) : ab -> Option ab :=
 @List.rec (Nat × Bool) (fun _ => ab -> Option ab) (fun f => some f) (fun p _ ih f =>
  match all[p.1]? with
  | none => none
  | some o => match p.2 with
   | true => (match Gt X E G H n fh tk all o f with | some f' => ih f' | none => none)
   | false => (match nS E G n (fh || fq p.1) all o f with
    | some a => ih (iZ f o.dst a)
    | none => none)) l
theorem JQ {tk : List Nat} {fh : Bool} {fq : Nat -> Bool} {all : List Oper} {i : Nat} {lone : Bool} {rest : List (Nat × Bool)} {f : ab} : D2 X E G H n tk fh fq all ((i, lone) :: rest) f = (match all[i]? with
   | none => none
   | some o => match lone with
    | true => (match Gt X E G H n fh tk all o f with | some f' => D2 X E G H n tk fh fq all rest f' | none => none)
    | false => (match nS E G n (fh || fq i) all o f with
     | some a => D2 X E G H n tk fh fq all rest (iZ f o.dst a)
     | none => none)) := rfl
theorem pb {tk : List Nat} {fh : Bool} {fq : Nat -> Bool} {all : List Oper} : ∀ {l : List (Nat × Bool)} {f f' : ab}, D2 X E G H n tk fh fq all l f = some f' -> AR X E G H tk fh fq all l (f.au n) = some (f'.au n)
 | [], f, f', h => by
  have e : D2 X E G H n tk fh fq all [] f = some f := rfl
  rw [e] at h; simp at h; subst h; rfl
 |(i, lone) :: rest, f, f', h => by
  rw [JQ] at h
  simp only [AR]
  cases hi : all[i]? with
  | none => rw [hi] at h; simp at h
  | some o =>
   rw [hi] at h
   cases lone
   ·dsimp only at h ⊢
    rw [if_neg (by simp), Ao]
    cases ho : nS E G n (fh || fq i) all o f with
    | none => rw [ho] at h; simp at h
    | some a =>
     rw [ho] at h
     dsimp only at h ⊢
     rw [← dS]
     exact pb h
   dsimp only at h ⊢
   rw [if_pos rfl]
   cases ho : Gt X E G H n fh tk all o f with
   | none => rw [ho] at h; simp at h
   | some f1 =>
    rw [ho] at h
    rw [tu X E G H n ho]
    exact pb h
noncomputable def yh (all : List Oper) : Nat -> Array Bool -> ab -> Option ab
 | 0, _, f => some f
 | m + 1, listed, f => match Region.ready .any all.toArray listed with
  | [] => some f
  | i :: _ => (match all[i]? with
   | some o => (match Gu X E G H n all o f with | some f1 => yh all m (bJ listed i) f1 | none => none)
   | none => none)
noncomputable def B1 (all : List Oper) (k : Nat) (s0 : aa) : Nat -> Array Bool -> ab -> Bool
 | 0, listed, f => (Region.ready .any all.toArray listed).isEmpty && Jh k s0 (f.au n)
 | m + 1, listed, f => match Region.ready .any all.toArray listed with
  | [] => Jh k s0 (f.au n)
  | i :: l => (i :: l).all fun i => match all[i]? with
   | some o => (match Gu X E G H n all o f with | some f1 => B1 all k s0 m (bJ listed i) f1 | none => false)
   | none => false
theorem uO {all : List Oper} : ∀ (m : Nat) (listed : Array Bool) (f f' : ab), yh X E G H n all m listed f = some f' -> AT X E G H all m listed (f.au n) = some (f'.au n)
 | 0, listed, f, f', h => by simp only [yh, Option.some.injEq] at h; subst h; rfl
 | m + 1, listed, f, f', h => by
  simp only [yh] at h
  simp only [AT]
  split at h
  ·rename_i he
   rw [he]
   simp only [Option.some.injEq] at h
   subst h
   rfl
  rename_i i l he
  rw [he]
  dsimp only
  split at h
  ·rename_i o ho
   rw [ho]
   dsimp only
   split at h
   ·rename_i f1 hf1
    rw [tv X E G H n hf1]
    exact uO m _ f1 f' h
   simp at h
  simp at h
theorem uP {all : List Oper} {k : Nat} {s0 : aa} : ∀ (m : Nat) (listed : Array Bool) (f : ab), B1 X E G H n all k s0 m listed f = true -> pO X E G H all k s0 m listed (f.au n) = true
 | 0, listed, f, h => h
 | m + 1, listed, f, h => by
  simp only [B1] at h
  simp only [pO]
  split at h
  ·rename_i he
   rw [he]
   exact h
  rename_i i l he
  rw [he]
  dsimp only
  refine List.all_eq_true.2 fun j hj => ?_
  have h1 := List.all_eq_true.1 h j hj
  split at h1
  ·rename_i o ho
   rw [ho]
   dsimp only
   split at h1
   ·rename_i f1 hf1
    rw [tv X E G H n hf1]
    exact uP m _ f1 h1
   simp at h1
  simp at h1
noncomputable def ye (h : ay) (all : List Oper) : Nat -> Array Bool -> ab -> Option ab
 | 0, _, f => some f
 | m + 1, listed, f => match Region.ready .any all.toArray listed with
  | [] => none
  | i :: _ => (match all[i]? with
   | some o => (match Gt X E G H n (aO H all h.pre) h.tk all o f with | some f1 => ye h all m (bJ listed i) f1 | none => none)
   | none => none)
noncomputable def BX (h : ay) (all : List Oper) (p : Array Bool) (s0 : aa) : Nat -> Array Bool -> ab -> Bool
 | 0, listed, f => pu listed.toList p.toList && zK s0 (f.au n)
 | m + 1, listed, f => !pu listed.toList p.toList && !(Region.ready .any all.toArray listed).isEmpty && (Region.ready .any all.toArray listed).all fun i => h.pre.contains (i, true) && (match all[i]? with
   | some o => (match Gt X E G H n (aO H all h.pre) h.tk all o f with | some f1 => BX h all p s0 m (bJ listed i) f1 | none => false)
   | none => false)
noncomputable def GF (all : List Oper) (h : ay) (f : ab) : Option ab :=
 match D2 X E G H n h.tk (aO H all h.pre) (quietAt H all h.pre) all (bK h.pre) f with
 | some f1 => (match ye X E G H n h all (h.pre.length - (bK h.pre).length) (dI (bK h.pre) (Array.replicate all.length false)) f1 with
  | some f0 => (match BX X E G H n h all (dI h.pre (Array.replicate all.length false)) (f0.au n) (h.pre.length - (bK h.pre).length) (dI (bK h.pre) (Array.replicate all.length false)) f1 with
   | true => (match mr E n all h.nw f0 with
    | some f2 => BU X E G H n all (dv all h.tail) f2
    | none => none)
   | false => none)
  | none => none)
 | none => none
theorem uK {h : ay} {all : List Oper} : ∀ (m : Nat) (listed : Array Bool) (f f' : ab), ye X E G H n h all m listed f = some f' -> AS X E G H h all m listed (f.au n) = some (f'.au n)
 | 0, listed, f, f', hh => by simp only [ye, Option.some.injEq] at hh; subst hh; rfl
 | m + 1, listed, f, f', hh => by
  simp only [ye] at hh
  simp only [AS]
  split at hh
  ·simp at hh
  rename_i i l he
  rw [he]
  dsimp only
  split at hh
  ·rename_i o ho
   rw [ho]
   dsimp only
   split at hh
   ·rename_i f1 hf1
    rw [tu X E G H n hf1]
    exact uK m _ f1 f' hh
   simp at hh
  simp at hh
theorem uL {h : ay} {all : List Oper} {p : Array Bool} {s0 : aa} : ∀ (m : Nat) (listed : Array Bool) (f : ab), BX X E G H n h all p s0 m listed f = true -> pN X E G H h all p s0 m listed (f.au n) = true
 | 0, listed, f, hh => hh
 | m + 1, listed, f, hh => by
  simp only [BX, Bool.and_eq_true] at hh
  simp only [pN, Bool.and_eq_true]
  refine ⟨hh.1, List.all_eq_true.2 fun j hj => ?_⟩
  have h1 := List.all_eq_true.1 hh.2 j hj
  simp only [Bool.and_eq_true] at h1 ⊢
  refine ⟨h1.1, ?_⟩
  have h2 := h1.2
  split at h2
  ·rename_i o ho
   rw [ho]
   dsimp only
   split at h2
   ·rename_i f1 hf1
    rw [tu X E G H n hf1]
    exact uL m _ f1 h2
   simp at h2
  simp at h2
theorem Eb {all : List Oper} {h : ay} {f f' : ab} (hh : GF X E G H n all h f = some f') : wh X E G H all h (f.au n) = some (f'.au n) := by
 unfold GF at hh
 unfold wh
 split at hh
 ·rename_i f1 h1
  rw [pb X E G H n h1]
  dsimp only
  split at hh
  ·rename_i f0 h0
   rw [uK X E G H n _ _ _ _ h0]
   dsimp only
   split at hh
   ·rename_i h2
    rw [uL X E G H n _ _ _ h2]
    dsimp only
    split at hh
    ·rename_i f2 h3
     rw [jz E n all h.nw f0 f2 h3]
     exact pc X E G H n hh
    simp at hh
   simp at hh
  simp at hh
 simp at hh
noncomputable def Ec (all : List Oper) (h : ay) (f : ab) : Option ab :=
 match fC h with
 | true => (match yh X E G H n all all.length (Array.replicate all.length false) f with
  | some f0 => (match B1 X E G H n all f.next (f0.au n) all.length (Array.replicate all.length false) f with | true => some f0 | false => none)
  | none => none)
 | false =>
 match fW h with
 | true => GF X E G H n all (fe h) f
 | false =>
 match D2 X E G H n h.tk (aO H all h.pre) (quietAt H all h.pre) all h.pre f with
 | some f1 => (match mr E n all h.nw f1 with
  | some f2 => BU X E G H n all (dv all h.tail) f2
  | none => none)
 | none => none
theorem GC {all : List Oper} {h : ay} {f f' : ab} (hh : Ec X E G H n all h f = some f') : G9 X E G H all h (f.au n) = some (f'.au n) := by
 unfold Ec at hh
 unfold G9
 cases hx : fC h with
 | true =>
  rw [hx] at hh
  dsimp only at hh
  rw [if_pos rfl]
  split at hh
  ·rename_i f0 h0
   rw [uO X E G H n _ _ _ _ h0]
   dsimp only
   split at hh
   ·rename_i h2
    simp only [Option.some.injEq] at hh
    subst hh
    have := uP X E G H n _ _ _ h2
    have e : (f.au n).next = f.next := rfl
    rw [e, this]
   simp at hh
  simp at hh
 | false =>
 rw [hx] at hh
 rw [if_neg (by simp)]
 dsimp only at hh
 cases hlm : fW h with
 | true =>
  rw [hlm] at hh
  rw [if_pos rfl]
  exact Eb X E G H n hh
 | false =>
 rw [hlm] at hh
 rw [if_neg (by simp)]
 dsimp only at hh
 cases h1 : D2 X E G H n h.tk (aO H all h.pre) (quietAt H all h.pre) all h.pre f with
 | none => rw [h1] at hh; simp at hh
 | some f1 =>
  rw [h1] at hh
  rw [pb X E G H n h1]
  dsimp only at hh ⊢
  cases h2 : mr E n all h.nw f1 with
  | none => rw [h2] at hh; simp at hh
  | some f2 =>
   rw [h2] at hh
   rw [jz E n all h.nw f1 f2 h2]
   exact pc X E G H n hh
noncomputable def Aq (body : ab -> Option (Exit × ab)) (fuel : Nat) : ab -> Option (Exit × ab) :=
 @Nat.rec (fun _ => ab -> Option (Exit × ab)) (fun _ => none) (fun _ ih f => match body f with
  | some (.normal, f') => ih f'
  | r => r) fuel
/-! Steps that the program does not take, behind a region: the live slots' number holds, from bit 4096 on, the slots whose rows become data, from bit 5120 on the slots whose variables become objects. -/
def rV : Nat -> Nat -> Nat -> List Nat
 | 0, _, _ => []
 | m + 1, k, g => match Nat.beq g 0 with
  | true => []
  | false => (match Nat.beq (Nat.land g 1) 1 with | true => k :: rV m (k + 1) (Nat.shiftRight g 1) | false => rV m (k + 1) (Nat.shiftRight g 1))
def wT (a : ac) (heap : Heap) : Option (Nat × List an) :=
 match rowOf a with
 | some x => A4 x.1 x.2 (yQ (.out x.1) heap)
 | none => none
theorem CX (a : ac) (heap : Heap) : wT a heap = vE a heap := by
 unfold wT vE
 cases rowOf a with
 | none => rfl
 | some x => simp only [si]
noncomputable def UZ (n t : Nat) (f : ab) : Option ab :=
 match wT (pt n f t) f.heap with
 | some (m, es) => (match iZ f (some t) (.dat (.slice es)) with
  | ⟨sl, locs, heap, next⟩ => some ⟨sl, locs, sj (.out m) heap, next⟩)
 | none => none
noncomputable def D9 (n : Nat) : List Nat -> ab -> Option ab
 | [], f => some f
 | t :: r, f => (match UZ n t f with | some f' => D9 n r f' | none => none)
noncomputable def BT (n : Nat) : List Nat -> ab -> ab
 | [], f => f
 | t :: r, f => BT n r (uJ false (rH f [pt n f t]) f []).1
noncomputable def jX (n mask : Nat) (f : ab) : Option ab :=
 match Nat.beq (Nat.shiftRight mask 4096) 0 with
 | true => some f
 | false => D9 n (rV 1000 0 (Nat.land (Nat.shiftRight mask 4096) (2 ^ 1024 - 1))) (BT n (rV 1000 0 (Nat.shiftRight mask 5120)) f)
theorem GB {n t : Nat} {f f' : ab} (h : UZ n t f = some f') : gz G (f.au n) (f'.au n) := by
 unfold UZ at h
 rw [CX] at h
 split at h
 ·rename_i m es hv
  have e : A5 t (f.au n) = some (f'.au n) := by
   unfold A5
   rw [iO]
   have e2 : (f.au n).heap = f.heap := rfl
   rw [e2, hv]
   have hp := dS (n := n) f (some t) (.dat (.slice es))
   generalize iZ f (some t) (.dat (.slice es)) = g at h hp
   obtain ⟨sl, locs, heap, next⟩ := g
   simp only [Option.some.injEq] at h
   subst h
   simp only [ab.au, aa.put, oA] at hp ⊢
   have q1 := congrArg aa.tmps hp
   have q2 := congrArg aa.locs hp
   have q3 := congrArg aa.heap hp
   have q4 := congrArg aa.next hp
   simp only at q1 q2 q3 q4
   rw [q1, q2, q3, q4]
  exact JP e
 simp at h
theorem uN {n : Nat} : ∀ (l : List Nat) {f f' : ab}, D9 n l f = some f' -> gz G (f.au n) (f'.au n)
 | [], f, f', h => by simp [D9] at h; subst h; exact .refl _ _
 | t :: r, f, f', h => by
  simp only [D9] at h
  split at h
  ·rename_i f1 h1
   exact (GB G h1).trans (uN r h)
  simp at h
theorem rE {n : Nat} : ∀ (l : List Nat) (f : ab), gz G (f.au n) ((BT n l f).au n)
 | [], f => .refl _ _
 | t :: r, f => by
  simp only [BT]
  refine gz.trans ?_ (rE r _)
  have h := Gq (G := G) (rH f [pt n f t]) (f.au n)
  rw [rG] at h
  exact h
theorem mw {n mask : Nat} {f f' : ab} (h : jX n mask f = some f') : gz G (f.au n) (f'.au n) := by
 unfold jX at h
 split at h
 ·simp at h; subst h; exact .refl _ _
 exact (rE G _ _).trans (uN G _ h)
noncomputable def gR (live : Nat -> Nat) (fuel : Nat) (c : Code) : ab -> Option (Exit × ab) :=
 Code.rec (motive := fun _ => ab -> Option (Exit × ab))
  (skip := fun f => some (.normal, f))
  (region := fun id ops draw f =>
   (match (match draw with | true => Ec X E G H n ops.toList (H.ord id) f | false => BU X E G (H.at id) n ops.toList ops.toList f) with
    | some f' => (match jX n (live id) (jW f' (fun l => dW l (live id))) with | some f2 => some (.normal, f2) | none => none)
    | none => none))
  (seq := fun _ _ ix iy f => (match ix f with
   | some (.normal, f') => iy f'
   | r => r))
  (cond := fun c _ _ ix iy f => (match mQ G n f c with
   | .dat (.flat (.bool b)) => (match b with | true => ix f | false => iy f)
   | _ => none))
  (block := fun id _ ic f => (match ic f with
   | some (.exit i, f') => (match Nat.beq i id with | true => some (.normal, f') | false => some (.exit i, f'))
   | r => r))
  (loop := fun _ ic f => Aq ic fuel f)
  (rangeFunc := fun _ _ _ _ _ _ _ => none)
  (exit := fun id f => some (.exit id, f))
  (scope := fun _ ic f => (match ic f with
   | some (.goto _, _) => none
   | r => r))
  (label := fun _ f => some (.normal, f))
  (goto := fun _ _ => none)
  (ret := fun f => some (.ret, f))
  (refuse := fun _ _ => none) c
theorem Ee {live : Nat -> Nat} {fuel : Nat} {c : Code} {f : ab} : gR X E G H n live fuel (.scope c) f = (match gR X E G H n live fuel c f with
   | some (.goto _, _) => none
   | r => r) := rfl
theorem JV {live : Nat -> Nat} {fuel : Nat} {x y : Code} {f : ab} : gR X E G H n live fuel (.seq x y) f = (match gR X E G H n live fuel x f with
   | some (.normal, f') => gR X E G H n live fuel y f'
   | r => r) := rfl
theorem Eg {live : Nat -> Nat} {fuel : Nat} {id : Nat} {c : Code} {f : ab} : gR X E G H n live fuel (.block id c) f = (match gR X E G H n live fuel c f with
   | some (.exit i, f') => (match Nat.beq i id with | true => some (.normal, f') | false => some (.exit i, f'))
   | r => r) := rfl
theorem GG {live : Nat -> Nat} {fuel : Nat} {c : Operand} {x y : Code} {f : ab} : gR X E G H n live fuel (.cond c x y) f = (match mQ G n f c with
   | .dat (.flat (.bool b)) => (match b with | true => gR X E G H n live fuel x f | false => gR X E G H n live fuel y f)
   | _ => none) := rfl
theorem B3 {live : Nat -> Nat} {fuel : Nat} {id : Nat} {ops : Array Oper} {draw : Bool} {f : ab} : gR X E G H n live fuel (.region id ops draw) f =
   (match (match draw with | true => Ec X E G H n ops.toList (H.ord id) f | false => BU X E G (H.at id) n ops.toList ops.toList f) with
    | some f' => (match jX n (live id) (jW f' (fun l => dW l (live id))) with | some f2 => some (.normal, f2) | none => none)
    | none => none) := rfl
theorem D3 {P : Program} {c : Code} {body : ab -> Option (Exit × ab)} (hb : ∀ f e f', body f = some (e, f') -> ∀ Q : Exit -> aa -> Prop, Q e (f'.au n) -> dc P G c Q (f.au n)) {k : Nat} {f f' : ab} {e : Exit}
  (h : Aq body k f = some (e, f')) {Q : Exit -> aa -> Prop} (hQ : Q e (f'.au n)) : dc P G (.loop c) Q (f.au n) := by
 intro w R N act bsT bsL bsH bsF hr D hd
 refine wp_loop_ghost (I := fun k a w' => ∃ f1 R' N' bsT' bsL' bsH', Aq body k f1 = some (e, f') /\ cS G w' R' N' a.tmps.toList (f1.au n) undef .undef [] bsT' bsL' bsH' bsF /\ a.defers = D /\ bz w R w' R' bsF /\ (∀ o b, N (.out o) = some b -> N' (.out o) = some b)) (n0 := k) ?_ ?_
 ·exact ⟨f, R, N, bsT, bsL, bsH, h, hr, hd, bg _, fun _ _ h => h⟩
 rintro k a w' ⟨f1, R', N', bsT', bsL', bsH', hx, hr', hd', hk, hN⟩
 cases k with
 | zero => exact absurd hx (by intro hx; cases hx)
 | succ k =>
  have hx : (match body f1 with
   | some (.normal, f') => Aq body k f'
   | r => r) = some (e, f') := hx
  have key : ∀ e1 f2, body f1 = some (e1, f2) -> (e1 = .normal -> Aq body k f2 = some (e, f')) -> (e1 ≠ .normal -> e1 = e /\ f2 = f') -> c.wp P (Exit.then (fun a' w' => ∃ n', n' < k + 1 /\ ∃ f1 R' N' bsT' bsL' bsH', Aq body n' f1 = some (e, f') /\ cS G w' R' N' a'.tmps.toList (f1.au n) undef .undef [] bsT' bsL' bsH' bsF /\ a'.defers = D /\ bz w R w' R' bsF /\ (∀ o b, N (.out o) = some b -> N' (.out o) = some b)) (AQ G D Q w R N bsF)) a w' := by
   intro e1 f2 hbody h1 h2
   refine wp_mono (hb f1 e1 f2 hbody (fun e' s'' => e' = e1 /\ s'' = f2.au n) ⟨rfl, rfl⟩ w' R' N' a bsT' bsL' bsH' bsF hr' hd') ?_
   rintro e3 a3 w3 ⟨s3, R3, N3, bsT3, bsL3, bsH3, ⟨rfl, rfl⟩, hr3, hd3, hk3, hN3⟩
   by_cases he : e3 = .normal
   ·subst he
    exact ⟨k, Nat.lt_succ_self k, f2, R3, N3, bsT3, bsL3, bsH3, h1 rfl, hr3, hd3, hk.trans hk3, fun o b h => hN3 o b (hN o b h)⟩
   obtain ⟨rfl, rfl⟩ := h2 he
   have : AQ G D Q w R N bsF e3 a3 w3 := ⟨_, R3, N3, bsT3, bsL3, bsH3, hQ, hr3, hd3, hk.trans hk3, fun o b h => hN3 o b (hN o b h)⟩
   cases e3 with
   | normal => exact (he rfl).elim
   | _ => exact this
  cases hbd : body f1 with
  | none => rw [hbd] at hx; simp at hx
  | some r =>
   obtain ⟨e1, f2⟩ := r
   rw [hbd] at hx
   cases e1 with
   | normal => exact key _ _ hbd (fun _ => hx) (fun h => (h rfl).elim)
   | _ => simp at hx; exact key _ _ hbd (fun h => by simp at h) (fun _ => hx)
theorem vi {P : Program} {c : Code} {s s2 : aa} {Q : Exit -> aa -> Prop} (h : dc P G c (fun e s' => e = .normal /\ s' = s2) s) {s3 : aa} (hg : gz G s2 s3) (hQ : Q .normal s3) : dc P G c Q s := by
 intro w R N act bsT bsL bsH bsF hr D hd
 refine wp_mono (h w R N act bsT bsL bsH bsF hr hd) ?_
 rintro e a w' ⟨s', R', N', bsT', bsL', bsH', ⟨rfl, rfl⟩, hr', hd', hk, hN⟩
 obtain ⟨R2, N2, t2, l2, h2, hr2, hk2, hN2⟩ := hg _ _ _ _ _ _ _ _ hr'
 exact ⟨s3, R2, N2, t2, l2, h2, hQ, hr2, hd', hk.trans hk2, fun o b ho => hN2 o b (hN o b ho)⟩
theorem yU {P : Program} {c : Code} {s s2 : aa} {Q : Exit -> aa -> Prop} (h : dc P G c (fun e s' => e = .normal /\ s' = s2) s) {s3 : aa}
  (hw : ∀ (w : World) (R : Own) (N : Name -> Option Nat) (tmps : List Value) (bsT bsL bsH bsF : List Nat), cS G w R N tmps s2 undef .undef [] bsT bsL bsH bsF -> ∃ bsT', cS G w R N tmps s3 undef .undef [] bsT' bsL bsH bsF) (hQ : Q .normal s3) : dc P G c Q s := by
 intro w R N act bsT bsL bsH bsF hr D hd
 refine wp_mono (h w R N act bsT bsL bsH bsF hr hd) ?_
 rintro e a w' ⟨s', R', N', bsT', bsL', bsH', ⟨rfl, rfl⟩, hr', hd', hk, hN⟩
 obtain ⟨bsT2, hr2⟩ := hw _ _ _ _ _ _ _ _ hr'
 exact ⟨s3, R', N', bsT2, bsL', bsH', hQ, hr2, hd', hk, hN⟩
theorem dT {P : Program} (hE : E.Ok P) (hX : ES P G X) (live : Nat -> Nat) (fuel : Nat) : ∀ (c : Code) (f f' : ab) (e : Exit), cD H c = true -> gR X E G H n live fuel c f = some (e, f') -> ∀ Q : Exit -> aa -> Prop, Q e (f'.au n) -> dc P G c Q (f.au n)
 | .skip, f, f', e, _, h, Q, hQ => by
  have h : some (Exit.normal, f) = some (e, f') := h
  simp at h; obtain ⟨rfl, rfl⟩ := h; exact fG wp_skip hQ
 | .region id ops draw, f, f', e, hc, h, Q, hQ => by
  rw [B3] at h
  cases draw
  ·dsimp only at h
   cases h1 : BU X E G (H.at id) n ops.toList ops.toList f with
   | none => rw [h1] at h; simp at h
   | some f1 =>
    rw [h1] at h
    dsimp only at h
    cases h2 : jX n (live id) (jW f1 (fun l => dW l (live id))) with
    | none => rw [h2] at h; simp at h
    | some f2 =>
    rw [h2] at h
    simp at h
    obtain ⟨rfl, rfl⟩ := h
    refine vi G (yU G (sm hE (lN hX (pc X E G (H.at id) n h1) ⟨rfl, rfl⟩)) ?_ ⟨rfl, rfl⟩) (mw G h2) hQ
    intro w R N tmps bsT bsL bsH bsF hr
    exact hr.prune _
  dsimp only at h
  cases h1 : Ec X E G H n ops.toList (H.ord id) f with
  | none => rw [h1] at h; simp at h
  | some f1 =>
   rw [h1] at h
   dsimp only at h
   cases h2 : jX n (live id) (jW f1 (fun l => dW l (live id))) with
   | none => rw [h2] at h; simp at h
   | some f2 =>
   rw [h2] at h
   simp at h
   obtain ⟨rfl, rfl⟩ := h
   refine vi G (yU G (yV hE hE.mixed (by simpa [cD] using hc) (Cu hX (GC X E G H n h1) ⟨rfl, rfl⟩)) ?_ ⟨rfl, rfl⟩) (mw G h2) hQ
   intro w R N tmps bsT bsL bsH bsF hr
   exact hr.prune _
 | .seq x y, f, f', e, hc, h, Q, hQ => by
  simp only [cD, Bool.and_eq_true] at hc
  rw [JV] at h
  refine AM ?_
  cases hx : gR X E G H n live fuel x f with
  | none => rw [hx] at h; simp at h
  | some r =>
   obtain ⟨e1, f1⟩ := r
   rw [hx] at h
   refine dT hE hX live fuel x f f1 e1 hc.1 hx _ ?_
   cases e1 with
   | normal => exact dT hE hX live fuel y f1 f' e hc.2 h Q hQ
   | _ => simp at h; obtain ⟨rfl, rfl⟩ := h; exact hQ
 | .cond c x y, f, f', e, hc, h, Q, hQ => by
  simp only [cD, Bool.and_eq_true] at hc
  intro w R N act bsT bsL bsH bsF hr D hd
  rw [GG] at h
  split at h
  ·rename_i b hb
   obtain ⟨bs, he⟩ := nX hr.tmps hr.glob c
   rw [lD, hb] at he
   obtain ⟨_, he, _⟩ := aF he
   refine wp_cond he ?_
   cases b
   ·exact dT hE hX live fuel y f f' e hc.2 h Q hQ w R N act bsT bsL bsH bsF hr hd
   exact dT hE hX live fuel x f f' e hc.1 h Q hQ w R N act bsT bsL bsH bsF hr hd
  simp at h
 | .block id c, f, f', e, hc, h, Q, hQ => by
  simp only [cD] at hc
  rw [Eg] at h
  cases hx : gR X E G H n live fuel c f with
  | none => rw [hx] at h; simp at h
  | some r =>
   obtain ⟨e1, f1⟩ := r
   rw [hx] at h
   intro w R N act bsT bsL bsH bsF hr D hd
   apply wp_block
   refine wp_mono (dT hE hX live fuel c f f1 e1 hc hx (fun e' s'' => e' = e1 /\ s'' = f1.au n) ⟨rfl, rfl⟩ w R N act bsT bsL bsH bsF hr hd) ?_
   rintro e2 a w' ⟨s2, R', N', bsT', bsL', bsH', ⟨rfl, rfl⟩, rest⟩
   cases e2 with
   | exit i =>
    simp only [Exit.inBlock]
    dsimp only at h
    by_cases hi : i = id
    ·have hb : Nat.beq i id = true := by rw [Nat.beq_eq]; exact hi
     rw [if_pos hi]
     rw [hb] at h
     simp at h; obtain ⟨rfl, rfl⟩ := h
     exact ⟨_, R', N', bsT', bsL', bsH', hQ, rest⟩
    have hb : Nat.beq i id = false := by rw [Bool.eq_false_iff]; intro hc; rw [Nat.beq_eq] at hc; exact hi hc
    rw [if_neg hi]
    rw [hb] at h
    simp at h; obtain ⟨rfl, rfl⟩ := h
    exact ⟨_, R', N', bsT', bsL', bsH', hQ, rest⟩
   | _ => simp at h; obtain ⟨rfl, rfl⟩ := h; exact ⟨_, R', N', bsT', bsL', bsH', hQ, rest⟩
 | .exit id, f, f', e, _, h, Q, hQ => by
  have h : some (Exit.exit id, f) = some (e, f') := h
  simp at h; obtain ⟨rfl, rfl⟩ := h; exact fG wp_exit hQ
 | .ret, f, f', e, _, h, Q, hQ => by
  have h : some (Exit.ret, f) = some (e, f') := h
  simp at h; obtain ⟨rfl, rfl⟩ := h; exact fG wp_ret hQ
 | .loop c, f, f', e, hc, h, Q, hQ => by
  simp only [cD] at hc
  exact D3 G n (fun f e f' hb Q hQ => dT hE hX live fuel c f f' e hc hb Q hQ) h hQ
 | .rangeFunc _ _ _ _, _, _, _, _, h, _, _ => by cases h
 | .scope c, f, f', e, hc, h, Q, hQ => by
  simp only [cD] at hc
  rw [Ee] at h
  cases hx : gR X E G H n live fuel c f with
  | none => rw [hx] at h; simp at h
  | some r =>
   obtain ⟨e1, f1⟩ := r
   rw [hx] at h
   intro w R N act bsT bsL bsH bsF hr D hd
   apply wp_scope_straight
   refine wp_mono (dT hE hX live fuel c f f1 e1 hc hx (fun e' s'' => e' = e1 /\ s'' = f1.au n) ⟨rfl, rfl⟩ w R N act bsT bsL bsH bsF hr hd) ?_
   rintro e2 a w' ⟨s2, R', N', bsT', bsL', bsH', ⟨rfl, rfl⟩, rest⟩
   cases e2 with
   | goto l => simp at h
   | _ => simp at h; obtain ⟨rfl, rfl⟩ := h; exact ⟨_, R', N', bsT', bsL', bsH', hQ, rest⟩
 | .label _, f, f', e, _, h, Q, hQ => by
  have h : some (Exit.normal, f) = some (e, f') := h
  simp at h; obtain ⟨rfl, rfl⟩ := h; exact fG wp_label hQ
 | .goto _, _, _, _, _, h, _, _ => by cases h
 | .refuse _, _, _, _, _, h, _, _ => by cases h
/-! ### Results -/
noncomputable def rK (f : ab) (a : Tmp) (t : TypeId) : Option ac :=
 match pt n f a with
 | .ptr k off => (match N6 f k, E.ty t with
  | some (.cells cs), some i => loadCells i off cs
  | _, _ => none)
 | _ => none
theorem Eh (f : ab) (a : Tmp) (t : TypeId) : wc E (f.au n) a t = rK E n f a t := by
 unfold wc rK
 rw [iO]
 cases pt n f a with
 | ptr k off => dsimp only; rw [BV]; rfl
 | _ => rfl
noncomputable def gO : ab -> List ResultVar -> Option (List ac)
 | _, [] => some []
 | f, .tmp t :: r => (match gO (rJ n f (some 0) [.tmp t]) r with | some vs => some (pt n f t :: vs) | none => none)
 | f, .cell a t :: r => (match rK E n f a t, gO f r with | some v, some vs => some (v :: vs) | _, _ => none)
theorem nT : ∀ (rs : List ResultVar) (f : ab), gf E (f.au n) rs = gO E n f rs
 | [], _ => rfl
 | .tmp t :: r, f => by
  simp only [gf, gO, ← yi, nT r, iO]
  cases gO E n (rJ n f (some 0) [.tmp t]) r <;> rfl
 | .cell a t :: r, f => by
  simp only [gf, gO, Eh, nT r]
  cases rK E n f a t <;> cases gO E n f r <;> rfl
noncomputable def Ea : List Name -> ab -> List ac -> ab × List ac
 | [], f, args => (f, args)
 | k :: ks, f, args =>
  (match (aV k args || iW k f.locs) with
   | true => (match tt true k f args with
   | some (f', args') => Ea ks f' args'
   | none => Ea ks f args)
   | false => Ea ks f args)
theorem wa : ∀ (ks : List Name) (f : ab) (args : List ac), gq ks (f.au n) args = ((Ea ks f args).1.au n, (Ea ks f args).2)
 | [], _, _ => rfl
 | k :: ks, f, args => by
  simp only [gq, Ea, Ap]
  have e : (f.au n).locs = f.locs := rfl
  rw [e]
  cases (aV k args || iW k f.locs) with
  | false => rw [if_neg (by simp)]; exact wa ks f args
  | true =>
   rw [if_pos rfl]
   cases tt true k f args with
   | none => exact wa ks f args
   | some x => exact wa ks x.1 x.2
noncomputable def vy (rs : List ResultVar) (f : ab) : Option eQ :=
 match gO E n f rs with
 | none => none
 | some vs =>
  match bG (iR vs) with
  | true => some ⟨pack (iR vs), f.heap, f.next⟩
  | false => match Ea (oQ f.locs.length (lx f.locs)) f (iR vs) with
   |(f', vs') => if bG vs' = true then some ⟨pack vs', f'.heap, f'.next⟩ else none
theorem BS (rs : List ResultVar) (f : ab) : Ps E rs (f.au n) = vy E n rs f := by
 unfold Ps vy
 rw [nT]
 cases gO E n f rs with
 | none => rfl
 | some vs =>
  dsimp only
  cases bG (iR vs) with
  | true => rw [if_pos rfl]; rfl
  | false =>
   rw [if_neg (by simp)]
   dsimp only
   have e : (f.au n).locs = f.locs := rfl
   rw [e, wa]
   generalize Ea (oQ f.locs.length (lx f.locs)) f (iR vs) = pr
   obtain ⟨f', vs'⟩ := pr
   rfl
def wF : Nat -> List ac -> Sl
 | _, [] => []
 | k, a :: r => (k, a) :: wF (k + 1) r
theorem qH : ∀ (as : List ac) (k t : Nat), po (wF k as) t = if k <= t then br as (t - k) else .undef
 | [], k, t => by
  rw [wF, xY]
  split <;> simp [br]
 | a :: r, k, t => by
  rw [wF, gv, qH r (k + 1) t]
  by_cases h : k = t
  ·subst h; simp [br]
  rw [if_neg h]
  by_cases h2 : k <= t
  ·rw [if_pos (by omega), if_pos h2]
   unfold br
   rw [show t - k = (t - (k + 1)) + 1 by omega]
   simp
  rw [if_neg (by omega), if_neg h2]
end
section
variable (E : bw) (G : bF) (moves caps : FuncId -> Bool) (F : FuncId -> Option mW) (M : iH) (fuel : Nat)
/-- A call, run; M: calls that are known. -/
noncomputable def yk : Nat -> iH
 | 0 => fun _ _ _ _ => none
 | k + 1 => fun g args heap next =>
  match F g with
  | none => none
  | some x => match Nat.ble args.length x.ntmps with
   | false => none
   | true => (match gR (fun g args heap next => match M g args heap next with | some r => some r | none => yk k g args heap next) E G ⟨moves, x.ord, caps, rowsOf caps g⟩ x.ntmps x.live fuel x.code ⟨wF 0 args, [], heap, next⟩ with
    | some (.ret, f) => (match vy E x.ntmps x.results f with | some r => some (sx next r) | none => none)
    | some (.normal, f) => (match vy E x.ntmps x.results f with | some r => some (sx next r) | none => none)
    | _ => none)
variable {E G moves caps F M}
theorem nV {P : Program} (hE : E.Ok P) (hF : Yf P moves caps F) (hM : ES P G M) : ∀ k, ES P G (yk E G moves caps F M fuel k)
 | 0 => by intro f args heap next r h; cases h
 | k + 1 => by
  intro g args heap next r h
  simp only [yk] at h
  split at h
  ·simp at h
  rename_i x hx
  obtain ⟨fn, h1, h2, h3, h4, h5⟩ := hF g x hx
  have ih := nV hE hF hM k
  have hX : ES P G (fun g args heap next => match M g args heap next with | some r => some r | none => yk E G moves caps F M fuel k g args heap next) := by
   intro g args heap next r h
   dsimp only at h
   split at h
   ·rename_i r' hr'
    simp at h
    subst h
    exact hM _ _ _ _ _ hr'
   exact ih _ _ _ _ _ h
  split at h
  ·simp at h
  rename_i hlen
  have hlen := fT hlen
  have hent : (⟨wF 0 args, [], heap, next⟩ : ab).au x.ntmps = enter x.ntmps args heap next := by
   simp only [ab.au, enter]
   congr 1
   apply List.ext_getElem?
   intro i
   rw [kA, Nat.zero_add, qH, if_pos (Nat.zero_le _), Nat.sub_zero, List.getElem?_append]
   split
   ·split
    ·rename_i hi; unfold br; rw [List.getElem?_eq_getElem hi]
    rename_i hi1 hi
    rw [List.getElem?_replicate, if_pos (by omega)]
    unfold br
    rw [List.getElem?_eq_none (by omega)]
   rename_i hi
   rw [if_neg (by omega), List.getElem?_replicate, if_neg (by omega)]
  have key : ∀ e f, gR (fun g args heap next => match M g args heap next with | some r => some r | none => yk E G moves caps F M fuel k g args heap next) E G ⟨moves, x.ord, caps, rowsOf caps g⟩ x.ntmps x.live fuel x.code ⟨wF 0 args, [], heap, next⟩ = some (e, f) -> e = .ret ∨ e = .normal ->
    (match vy E x.ntmps x.results f with | some r => some (sx next r) | none => none) = some r -> aB P G g args heap next (XQ r) := by
   intro e f hx he hr
   cases hf : vy E x.ntmps x.results f with
   | none => rw [hf] at hr; simp at hr
   | some r0 =>
    rw [hf] at hr
    simp at hr
    subst hr
    apply aB.gc
    refine jj hE h1 h2 ?_
    intro _ _
    rw [h3, h4, ← hent]
    refine dT _ E G ⟨moves, x.ord, caps, rowsOf caps g⟩ x.ntmps hE hX x.live fuel x.code _ _ _ (by rw [dD]; exact h5) hx _ ?_
    have := pM (E := E) (rs := x.results) (s := f.au x.ntmps) (r := r0) (by rw [BS]; exact hf)
    rcases he with rfl | rfl <;> exact this
  split at h
  ·rename_i f hf; exact key _ _ hf (.inl rfl) h
  ·rename_i f hf; exact key _ _ hf (.inr rfl) h
  simp at h
end
end Go.Tp

namespace Go.Tp
variable {P : Program} {G : bF}
end Go.Tp

namespace Go.Tp
mutual
/-- Values that name no object. -/
def Jx : ac -> Bool
 | .dat _ => true
 | .own _ => true
 | .ref _ => true
 | .undef => true
 | .agg cs => DB cs
 | .tup cs => DB cs
 | .fn _ x y => DB x && DB y
 | .ptr _ _ => false
 | .map _ => false
 | .win _ _ _ _ => false
def DB : List ac -> Bool
 | [] => true
 | a :: r => Jx a && DB r
end
section
variable {w : World} {R : Own} {N N' : Name -> Option Nat}
mutual
theorem ak.nm : ∀ {a : ac} {v : Value} {bs : List Nat}, ak w R N a v bs -> Jx a = true -> ak w R N' a v bs
 | .dat _, _, _, h, _ => by simp only [ak] at h ⊢; exact h
 | .own _, _, _, h, _ => by simp only [ak] at h ⊢; exact h
 | .ref _, _, _, h, _ => by simp only [ak] at h ⊢; exact h
 | .ptr _ _, _, _, _, hn => by simp [Jx] at hn
 | .map _, _, _, _, hn => by simp [Jx] at hn
 | .win _ _ _ _, _, _, _, hn => by simp [Jx] at hn
 | .fn _ x y, _, _, h, hn => by
  simp only [Jx, Bool.and_eq_true] at hn
  simp only [ak] at h ⊢
  obtain ⟨h1, vs, us, e, h2, h3⟩ := h
  exact ⟨h1, vs, us, e, ag.nm (l := x) h2 hn.1, ag.nm (l := y) h3 hn.2⟩
 | .agg cs, _, _, h, hn => by
  simp only [Jx] at hn
  simp only [ak] at h ⊢
  obtain ⟨vs, e, h⟩ := h
  exact ⟨vs, e, ag.nm (l := cs) h hn⟩
 | .tup cs, _, _, h, hn => by
  simp only [Jx] at hn
  simp only [ak] at h ⊢
  obtain ⟨vs, e, h⟩ := h
  exact ⟨vs, e, ag.nm (l := cs) h hn⟩
 | .undef, _, _, h, _ => by simp only [ak] at h ⊢; exact h
theorem ag.nm : ∀ {l : List ac} {vs : List Value} {bs : List Nat}, ag w R N l vs bs -> DB l = true -> ag w R N' l vs bs
 | [], _, _, h, _ => by simp only [ag] at h ⊢; exact h
 | a :: l, _, _, h, hn => by
  simp only [DB, Bool.and_eq_true] at hn
  simp only [ag] at h ⊢
  obtain ⟨v, vs', b1, b2, e1, e2, h1, h2⟩ := h
  exact ⟨v, vs', b1, b2, e1, e2, ak.nm (a := a) h1 hn.1, ag.nm (l := l) h2 hn.2⟩
end
end
/-- A call that looks at no object, and its value. -/
structure yY where
 fn : FuncId
 args : List ac
 val : ac
def yY.ok (m : yY) : Bool := DB m.args && Jx m.val
def qc : List yY -> iH
 | [] => fun _ _ _ _ => none
 | m :: l => fun g args heap next =>
  match Nat.beq m.fn g with
  | false => qc l g args heap next
  | true => (match vz m.args args with
   | true => some ⟨m.val, heap, next⟩
   | false => qc l g args heap next)
variable {P : Program} {G : bF}
theorem Fs {m : yY} (hm : m.ok = true) (h : aB P G m.fn m.args [] 0 (XQ ⟨m.val, [], 0⟩)) (heap : Heap) (next : Nat) : aB P G m.fn m.args heap next (XQ ⟨m.val, heap, next⟩) := by
 unfold yY.ok at hm
 simp only [Bool.and_eq_true] at hm
 intro w R N cargs bsA bsH bsF hargs hheap hnd hnx hglob hF
 have h2 := h w R (fun _ => none) cargs bsA [] (bsH ++ bsF) (hargs.nm hm.1) (by simp [al]) (by simpa using hnd) (by intro o b ho; simp at ho) hglob (by
  intro b hb
  rcases List.mem_append.1 hb with hb | hb
  ·exact hheap.lt b hb
  exact hF b hb)
 refine h2.mono ?_
 rintro e w' ⟨v, cv, heap', next', R', N', bsV, bsH', rfl, ⟨rfl, rfl, rfl⟩, hv, hh, hnd', _, hk, _⟩
 have hH' : bsH' = [] := by simpa [al] using hh
 subst hH'
 exact ⟨_, cv, heap, next, R', N, bsV, bsH, rfl, ⟨rfl, rfl, rfl⟩, hv.nm hm.2, hheap.keep (hk.sub (by intro b hb; simp [hb])), by simpa using hnd', hnx, hk.sub (by intro b hb; simp [hb]), fun _ _ h => h⟩
theorem zW : ∀ {l : List yY}, (∀ m ∈ l, m.ok = true /\ aB P G m.fn m.args [] 0 (XQ ⟨m.val, [], 0⟩)) -> ES P G (qc l)
 | [], _ => by intro f args heap next r h; simp [qc] at h
 | m :: l, hall => by
  intro f args heap next r h
  have ih := zW (l := l) fun m hm => hall m (by simp [hm])
  simp only [qc] at h
  split at h
  ·exact ih f args heap next r h
  rename_i hf
  have hf := Nat.eq_of_beq_eq_true hf
  split at h
  ·rename_i hc
   have h2 := gx hc
   subst hf
   subst h2
   simp only [Option.some.injEq] at h
   subst h
   obtain ⟨q1, q2⟩ := hall m (by simp)
   exact Fs q1 q2 heap next
  exact ih f args heap next r h
end Go.Tp

namespace Go.Tp
/-- A run, up to where it asks. -/
inductive Qy (α : Type) : Type where
 |fin (a : α)
 |fail
 /-- which truth value is this? -/
 |bool (t : Nat) (b : Bool) (k : Bool -> Qy α)
 /-- what does this operation give? -/
 |out (t : Nat) (o : Option Out) (k : Out -> Qy α)
 /-- what does this call give? -/
 |res (g : FuncId) (args : List ac) (heap : Heap) (next : Nat) (k : eQ -> Qy α)
 /-- do the objects stay? -/
 |stay (h h' : Heap) (k : Qy α)
 /-- how does this loop end? -/
 |loop (n : Nat) (c : Code) (f : ab) (k : Exit × ab -> Qy α)
 /-- both orders -/
 |both (a b : Qy α)
section
variable (P : Program) (G : bF) {α : Type} (T : α -> Prop)
def Qy.qy : Qy α -> Prop
 | .fin a => T a
 | .fail => False
 | .bool _ b k => (k b).qy
 | .out _ o k => ∃ x, o = some x /\ (k x).qy
 | .res g args heap next k => aB P G g args heap next (fun v h m => lK v -> vA h -> (k ⟨v, h, m⟩).qy)
 | .stay h h' k => Pj h h' /\ k.qy
 | .loop n c f k => dc P G (.loop c) (fun e s => ∃ f', s = f'.au n /\ (k (e, f')).qy) (f.au n)
 | .both a b => a.qy /\ b.qy
end
/-! ### The run -/
/-- What an operation is asked by. -/
def Dt (o : Oper) : Nat :=
 match o.dst with
 | some t => t
 | none => (match o.op with
  | .store _ (.tmp u) _ => 100000 + u
  | .mapUpdate _ (.tmp u) _ _ => 100000 + u
  | .insert _ (.tmp u) _ _ => 100000 + u
  | .call c => (match c.args.toList with | .tmp u :: _ => 100000 + u | _ => 0)
  | _ => 0)
section
variable {α : Type} (A B : Nat -> Bool) (E : bw) (G : bF) (H : Hints) (n : Nat)
noncomputable def vt (d : Option Tmp) (f : ab) (k : ab -> Qy α) : Qy α :=
 match d with
 | none => k f
 | some t => (match A t with
  | true => (match pt n f t with
   | .dat (.flat (.bool b)) => .bool t b (fun b => k (iZ f (some t) (.dat (.flat (.bool b)))))
   | _ => k f)
  | false => k f)
/-- The object of a row that grows. -/
def vW (out : Out) : Option aN :=
 match out with
 | ⟨_, eff⟩ => match eff with
  | .grow ob' _ _ => some ob'
  | _ => none
/-- .. which names no variable of the frame. -/
noncomputable def B0 (o : Oper) (k : Option Name) (f : ab) (out : Out) : Option ab :=
 match out with
 | ⟨_, eff⟩ => match eff with
  | .grow ob' sz len => (match f with
   | ⟨sl, locs, heap, next⟩ => match k with
    | some (.loc j) => some (iZ ⟨sl, sj (.loc j) locs, (.out next, ob') :: heap, next + 1⟩ o.dst (.win (.out next) sz 0 len))
    | some (.out j) => some (iZ ⟨sl, locs, (.out next, ob') :: sj (.out j) heap, next + 1⟩ o.dst (.win (.out next) sz 0 len))
    | none => some (iZ ⟨sl, locs, (.out next, ob') :: heap, next + 1⟩ o.dst (.win (.out next) sz 0 len)))
  | _ => none
theorem JU {o : Oper} {k : Option Name} {f f' : ab} {out : Out} {ob : aN} (h1 : vW out = some ob) (h2 : cT ob = true) (h3 : B0 o k f out = some f') : lz o k f out = some f' := by
 obtain ⟨val, eff⟩ := out
 obtain ⟨sl, locs, heap, next⟩ := f
 cases eff with
 | grow ob' sz len =>
  simp only [vW, Option.some.injEq] at h1
  subst h1
  rcases k with _ | ⟨_ | _⟩ <;> simp only [B0] at h3 <;> simp only [lz, h2, if_true] <;> exact h3
 | _ => simp [vW] at h1
noncomputable def Db (q take : Bool) (o : Oper) (f : ab) (k : ab -> Qy α) : Qy α :=
 match B (Dt o) with
 | true => .out (Dt o) (iQ E take o.op (fB G n f (jJ q o.op) 0 (opsL o.op)) (pd f o.op (fB G n f (jJ q o.op) 0 (opsL o.op))))
   (fun out => match vW out with
    | some ob => .bool (Dt o + 500000) (cT ob) (fun b => match b with
     | true => (match B0 o (looks o.op (fB G n f (jJ q o.op) 0 (opsL o.op))) (rJ n f (jJ q o.op) (opsL o.op)) out with
      | some f' => vt A n o.dst f' k
      | none => .fail)
     | false => .fail)
    | none => (match lz o (looks o.op (fB G n f (jJ q o.op) 0 (opsL o.op))) (rJ n f (jJ q o.op) (opsL o.op)) out with
     | some f' => vt A n o.dst f' k
     | none => .fail))
 | false => (match uH E G n q take o f with
  | some f' => vt A n o.dst f' k
  | none => .fail)
noncomputable def L1 (all : List Oper) (o : Oper) (f : ab) (k : ab -> Qy α) : Qy α :=
 match gk n all f o.guard with
 | none => .fail
 | some b => match b with
  | true =>
   (match cV o.op with
    | some c => (match pe E G H n c f with
     | some (g, args, f2) => .res g args f2.heap f2.next (fun r => vt A n o.dst (rL f2 r o.dst) k)
     | none => .fail)
    | none => Db A B E G n (readOnly H.moves all o) (kh H all o) o f k)
  | false => k (iZ f o.dst (.tup []))
noncomputable def LZ (all : List Oper) (ops : List Oper) : ab -> (ab -> Qy α) -> Qy α :=
 @List.rec Oper (fun _ => ab -> (ab -> Qy α) -> Qy α) (fun f k => k f) (fun o _ ih f k => L1 A B E G H n all o f (fun f' => ih f' k)) ops
noncomputable def L0 (fh : Bool) (tk : List Nat) (all : List Oper) (o : Oper) (f : ab) (k : ab -> Qy α) : Qy α :=
 match gk n all f o.guard with
 | none => .fail
 | some b => match b with
  | true =>
   (match cV o.op with
    | some c => (match lE E G H n c f with
     | some (g, args, f2) => (match gm H o with
      | true => .res g args [] f2.next (fun r => match r with
       | ⟨v, [], m⟩ => vt A n o.dst (rL f2 ⟨v, f2.heap, m⟩ o.dst) k
       | _ => .fail)
      | false => .res g args f2.heap f2.next (fun r => match kV H o with
       | true => .stay f2.heap r.heap (vt A n o.dst (rL f2 r o.dst) k)
       | false => vt A n o.dst (rL f2 r o.dst) k))
     | none => .fail)
    | none => (match eL o.op with
     | some t => (match kC n fh all (fg all t (tq n tk t f)) f with
      | some f1 => Db A B E G n false false o f1 k
      | none => .fail)
     | none => (match jy o.op with
      | true => Db A B E G n (readOnly H.moves all o) (kh H all o) o f k
      | false => .fail)))
  | false => k (iZ f o.dst (.tup []))
/-- A quiet operation's value. -/
noncomputable def Ba (fh : Bool) (all : List Oper) (o : Oper) (f : ab) (k : ac -> Qy α) : Qy α :=
 match B (Dt o) with
 | true => (match gk n all f o.guard with
  | none => .fail
  | some b => match b with
   | true => (match mh o.op with
    | true => (match iQ E false o.op [] none with | some _ => k .undef | none => .fail)
    | false => (match cV o.op with
     | some _ => .fail
     | none => (match im o.op && nG fh (looks o.op (fB G n f none 0 (opsL o.op))) with
      | true => .out (Dt o) (iQ E false o.op (fB G n f none 0 (opsL o.op)) (pd f o.op (fB G n f none 0 (opsL o.op)))) (fun out => match out with | ⟨v, .keep⟩ => k v | _ => .fail)
      | false => .fail)))
   | false => k (.tup []))
 | false => (match nS E G n fh all o f with
  | some a => k a
  | none => .fail)
noncomputable def Jn (tk : List Nat) (fh : Bool) (fq : Nat -> Bool) (all : List Oper) (l : List (Nat × Bool)) : ab -> (ab -> Qy α) -> Qy α :=
 @List.rec (Nat × Bool) (fun _ => ab -> (ab -> Qy α) -> Qy α) (fun f k => k f) (fun p _ ih f k =>
  match all[p.1]? with
  | none => .fail
  | some o => match p.2 with
   | true => L0 A B E G H n fh tk all o f (fun f' => ih f' k)
   | false => Ba B E G n (fh || fq p.1) all o f (fun a => vt A n o.dst (iZ f o.dst a) (fun f' => ih f' k))) l
def Hy (F : Nat -> Qy α) : Nat -> List Nat -> Qy α
 | i, [] => F i
 | i, j :: l => .both (F i) (Hy F j l)
noncomputable def Df (all : List Oper) : Nat -> Array Bool -> ab -> (ab -> Qy α) -> Qy α
 | 0, listed, f, k => (match Region.ready .any all.toArray listed with
  | [] => k f
  | _ => .fail)
 | m + 1, listed, f, k => (match Region.ready .any all.toArray listed with
  | [] => k f
  | i :: l => Hy (fun i => match all[i]? with
   | some o => L1 A B E G H n all o f (fun f' => Df all m (bJ listed i) f' k)
   | none => .fail) i l)
noncomputable def Dd (h : ay) (all : List Oper) (p : Array Bool) : Nat -> Array Bool -> ab -> (ab -> Qy α) -> Qy α
 | 0, listed, f, k => (match pu listed.toList p.toList with
  | true => k f
  | false => .fail)
 | m + 1, listed, f, k => (match pu listed.toList p.toList with
  | true => .fail
  | false => (match Region.ready .any all.toArray listed with
   | [] => .fail
   | i :: l => Hy (fun i => match h.pre.contains (i, true) with
    | true => (match all[i]? with
     | some o => L0 A B E G H n (aO H all h.pre) h.tk all o f (fun f' => Dd h all p m (bJ listed i) f' k)
     | none => .fail)
    | false => .fail) i l))
noncomputable def L6 (all : List Oper) (h : ay) (f : ab) (k : ab -> Qy α) : Qy α :=
 match fC h with
 | true => Df A B E G H n all all.length (Array.replicate all.length false) f k
 | false => (match fW h with
  | true => Jn A B E G H n (fe h).tk (aO H all (fe h).pre) (quietAt H all (fe h).pre) all (bK (fe h).pre) f (fun f1 =>
    Dd A B E G H n (fe h) all (dI (fe h).pre (Array.replicate all.length false)) ((fe h).pre.length - (bK (fe h).pre).length) (dI (bK (fe h).pre) (Array.replicate all.length false)) f1 (fun f0 =>
     match mr E n all (fe h).nw f0 with
     | some f2 => LZ A B E G H n all (dv all (fe h).tail) f2 k
     | none => .fail))
  | false => Jn A B E G H n h.tk (aO H all h.pre) (quietAt H all h.pre) all h.pre f (fun f1 =>
    match mr E n all h.nw f1 with
    | some f2 => LZ A B E G H n all (dv all h.tail) f2 k
    | none => .fail))
/-- Only the variables that are still in sight. -/
def sH : Sl -> List Name
 | [] => []
 | p :: r => M3 p.2 ++ sH r
def WH (m : Name) : List Name -> Bool
 | [] => false
 | x :: r => match rc x m with | true => true | false => WH m r
def Du (l : List Name) : Heap -> Heap
 | [] => []
 |(m, o) :: r => match WH m l with | true => (m, o) :: Du l r | false => Du l r
def YA (f : ab) : ab :=
 match f with
 | ⟨sl, [], heap, next⟩ => ⟨sl, [], heap, next⟩
 | ⟨sl, p :: locs, heap, next⟩ => ⟨sl, Du (yw (p :: locs) (p :: locs).length (qu (sH sl) [])) (p :: locs), heap, next⟩
/-- The number under which 'caps' says whether variables out of sight are dropped. -/
def TY : FuncId := 4000000
def GA (caps : FuncId -> Bool) (f : ab) : ab := match caps TY with | true => YA f | false => f
noncomputable def vG (live : Nat -> Nat) (id : Nat) (ops : Array Oper) (draw : Bool) (f : ab) (k : ab -> Qy α) : Qy α :=
 match draw with
 | true => L6 A B E G H n ops.toList (H.ord id) f (fun f' => match jX n (live id) (jW f' (fun l => dW l (live id))) with | some f2 => k (GA H.caps f2) | none => .fail)
 | false => LZ A B E G (H.at id) n ops.toList ops.toList f (fun f' => match jX n (live id) (jW f' (fun l => dW l (live id))) with | some f2 => k (GA H.caps f2) | none => .fail)
noncomputable def qT (live : Nat -> Nat) (c : Code) : ab -> (Exit × ab -> Qy α) -> Qy α :=
 Code.rec (motive := fun _ => ab -> (Exit × ab -> Qy α) -> Qy α)
  (skip := fun f k => k (.normal, f))
  (region := fun id ops draw f k => vG A B E G H n live id ops draw f (fun f => k (.normal, f)))
  (seq := fun _ _ ix iy f k => ix f (fun r => match r with
   |(.normal, f') => iy f' k
   | r => k r))
  (cond := fun c _ _ ix iy f k => (match mQ G n f c with
   | .dat (.flat (.bool b)) => (match b with | true => ix f k | false => iy f k)
   | _ => .fail))
  (block := fun id _ ic f k => ic f (fun r => match r with
   |(.exit i, f') => (match Nat.beq i id with | true => k (.normal, f') | false => k (.exit i, f'))
   | r => k r))
  (loop := fun c _ f k => .loop n c f k)
  (rangeFunc := fun _ _ _ _ _ _ _ _ => .fail)
  (exit := fun id f k => k (.exit id, f))
  (scope := fun _ ic f k => ic f (fun r => match r with
   |(.goto _, _) => .fail
   | r => k r))
  (label := fun _ f k => k (.normal, f))
  (goto := fun _ _ _ => .fail)
  (ret := fun f k => k (.ret, f))
  (refuse := fun _ _ _ => .fail) c
end
noncomputable def L4 (A B : Nat -> Bool) (E : bw) (G : bF) (moves caps : FuncId -> Bool) (x : mW) (g : FuncId) (args : List ac) (heap : Heap) (next : Nat) : Qy eQ :=
 match Nat.ble args.length x.ntmps with
 | false => .fail
 | true => qT A B E G ⟨moves, x.ord, caps, rowsOf caps g⟩ x.ntmps x.live x.code ⟨wF 0 args, [], heap, next⟩ (fun r => match r with
  |(.ret, f) => (match vy E x.ntmps x.results f with | some r => .fin (sx next r) | none => .fail)
  |(.normal, f) => (match vy E x.ntmps x.results f with | some r => .fin (sx next r) | none => .fail)
  | _ => .fail)
/-! ### Soundness -/
section
variable {P : Program} {E : bw} {G : bF} {H : Hints} {n : Nat} {α : Type} {A B : Nat -> Bool} {T : α -> Prop}
theorem tM {all : List Oper} {o : Oper} {K K' : aa -> Prop} {s : aa} (hk : ∀ s, K s -> K' s) (h : lf (aB P G) E G H all o K s) : lf (aB P G) E G H all o K' s := by
 unfold lf at h ⊢
 split
 ·rename_i hw; simp [hw] at h
 rename_i b hw
 simp only [hw] at h
 split
 ·rename_i hb
  simp only [hb, if_true] at h
  split
  ·rename_i c hc
   simp only [hc] at h
   split
   ·rename_i f args s2 ha
    simp only [ha] at h
    exact h.mono fun v heap n hq h1 h2 => hk _ (hq h1 h2)
   rename_i ha
   simp [ha] at h
  rename_i hc
  simp only [hc] at h
  split
  ·rename_i s' hs'
   simp only [hs'] at h
   exact hk _ h
  rename_i hs'; simp [hs'] at h
 rename_i hb
 simp only [hb] at h
 exact hk _ h
/-- After a state, the run goes on. -/
def sv (P : Program) (G : bF) (n : Nat) (T : α -> Prop) (k : ab -> Qy α) (s : aa) : Prop := ∃ f', s = f'.au n /\ (k f').qy P G T
theorem kp {d : Option Tmp} {f : ab} {k : ab -> Qy α} (h : (vt A n d f k).qy P G T) : sv P G n T k (f.au n) := by
 unfold vt at h
 cases d with
 | none => exact ⟨f, rfl, h⟩
 | some t =>
  dsimp only at h
  split at h
  ·split at h
   ·rename_i b hb
    refine ⟨iZ f (some t) (.dat (.flat (.bool b))), ?_, h⟩
    rw [dS]
    rw [← iO] at hb
    unfold aa.put
    dsimp only
    have hb2 : (f.au n).tmps[t]? = some (.dat (.flat (.bool b))) := by
     unfold br at hb
     cases he : (f.au n).tmps[t]? with
     | none => rw [he] at hb; simp at hb
     | some v => rw [he] at hb; simpa using hb
    rw [wN hb2]
   exact ⟨f, rfl, h⟩
  exact ⟨f, rfl, h⟩
theorem xo {q take : Bool} {o : Oper} {f : ab} {k : ab -> Qy α} (h : (Db A B E G n q take o f k).qy P G T) : ∃ s', cL E G q take o (f.au n) = some s' /\ sv P G n T k s' := by
 rw [rB]
 unfold Db at h
 split at h
 ·obtain ⟨out, ho, h⟩ := h
  dsimp only at h
  split at h
  ·rename_i ob hob
   have h : (match cT ob with
     | true => (match B0 o (looks o.op (fB G n f (jJ q o.op) 0 (opsL o.op))) (rJ n f (jJ q o.op) (opsL o.op)) out with
      | some f' => vt A n o.dst f' k
      | none => .fail)
     | false => .fail : Qy α).qy P G T := h
   cases hn : cT ob with
   | false => rw [hn] at h; exact h.elim
   | true =>
    rw [hn] at h
    dsimp only at h
    split at h
    ·rename_i f' hf'
     refine ⟨f'.au n, ?_, kp h⟩
     unfold uH BR
     rw [ho]
     dsimp only
     rw [JU hob hn hf']; rfl
    exact h.elim
  split at h
  ·rename_i f' hf'
   refine ⟨f'.au n, ?_, kp h⟩
   unfold uH BR
   rw [ho]
   dsimp only
   rw [hf']; rfl
  exact h.elim
 split at h
 ·rename_i f' hf'
  exact ⟨f'.au n, by rw [hf']; rfl, kp h⟩
 exact h.elim
theorem Hv {all : List Oper} {o : Oper} {f : ab} {k : ab -> Qy α} (h : (L1 A B E G H n all o f k).qy P G T) : lf (aB P G) E G H all o (sv P G n T k) (f.au n) := by
 unfold L1 at h
 unfold lf
 rw [jU]
 cases hw : gk n all f o.guard with
 | none => rw [hw] at h; exact h.elim
 | some b =>
  rw [hw] at h
  cases b with
  | false =>
   dsimp only at h ⊢
   rw [if_neg (by simp)]
   exact ⟨_, by rw [dS], h⟩
  | true =>
   dsimp only at h ⊢
   rw [if_pos rfl]
   cases hc : cV o.op with
   | none =>
    rw [hc] at h
    dsimp only at h ⊢
    obtain ⟨s', h1, h2⟩ := xo h
    rw [h1]
    exact h2
   | some c =>
    rw [hc] at h
    dsimp only at h ⊢
    rw [yj]
    cases hcal : pe E G H n c f with
    | none => rw [hcal] at h; exact h.elim
    | some x =>
     obtain ⟨g, args, f2⟩ := x
     rw [hcal] at h
     dsimp only [Option.map_some] at h ⊢
     refine aB.mono h ?_
     intro v hh m hq b1 b2
     have := kp (hq b1 b2)
     rw [jY] at this
     exact this
theorem vI {all : List Oper} {k : ab -> Qy α} : ∀ {ops : List Oper} {f : ab}, (LZ A B E G H n all ops f k).qy P G T -> ld (aB P G) E G H all (sv P G n T k) ops (f.au n)
 | [], f, h => ⟨f, rfl, h⟩
 | o :: rest, f, h => by
  have h : (L1 A B E G H n all o f (fun f' => LZ A B E G H n all rest f' k)).qy P G T := h
  simp only [ld, hC]
  refine tM ?_ (Hv h)
  rintro s ⟨f', rfl, h'⟩
  exact vI h'
theorem Hu {fh : Bool} {tk : List Nat} {all : List Oper} {o : Oper} {f : ab} {k : ab -> Qy α} (h : (L0 A B E G H n fh tk all o f k).qy P G T) : Jt (aB P G) E G H fh tk all o (sv P G n T k) (f.au n) := by
 unfold L0 at h
 unfold Jt
 rw [jU]
 cases hw : gk n all f o.guard with
 | none => rw [hw] at h; exact h.elim
 | some b =>
  rw [hw] at h
  cases b with
  | false =>
   dsimp only at h ⊢
   rw [if_neg (by simp)]
   exact ⟨_, by rw [dS], h⟩
  | true =>
   dsimp only at h ⊢
   rw [if_pos rfl]
   cases hc : cV o.op with
   | none =>
    rw [hc] at h
    dsimp only at h ⊢
    cases ht : eL o.op with
    | none =>
     rw [ht] at h
     dsimp only at h ⊢
     cases hst : jy o.op with
     | false => rw [hst] at h; exact h.elim
     | true =>
      rw [hst] at h
      dsimp only at h ⊢
      obtain ⟨s', h1, h2⟩ := xo h
      rw [h1]
      exact h2
    | some t =>
     rw [ht] at h
     dsimp only at h ⊢
     rw [An]
     cases hs : kC n fh all (fg all t (tq n tk t f)) f with
     | none => rw [hs] at h; exact h.elim
     | some f1 =>
      rw [hs] at h
      rw [mq n fh all _ _ _ hs]
      dsimp only at h ⊢
      obtain ⟨s', h1, h2⟩ := xo h
      rw [h1]
      exact h2
   | some c =>
    rw [hc] at h
    dsimp only at h ⊢
    rw [uQ]
    cases hcal : lE E G H n c f with
    | none => rw [hcal] at h; exact h.elim
    | some x =>
     obtain ⟨g, args, f2⟩ := x
     rw [hcal] at h
     dsimp only [Option.map_some] at h ⊢
     cases hpu : gm H o with
     | true =>
      rw [hpu] at h
      dsimp only at h ⊢
      refine aB.mono h ?_
      intro v hh m hq b1 b2
      have hq := hq b1 b2
      dsimp only at hq
      cases hh with
      | nil =>
       dsimp only at hq
       have := kp hq
       rw [jY] at this
       exact ⟨rfl, this⟩
      | cons _ _ => exact hq.elim
     | false =>
      rw [hpu] at h
      dsimp only at h ⊢
      refine aB.mono h ?_
      intro v hh m hq b1 b2
      have hq := hq b1 b2
      cases hrd : kV H o with
      | true =>
       rw [hrd] at hq
       dsimp only at hq
       obtain ⟨q1, q2⟩ := hq
       have := kp q2
       rw [jY] at this
       exact ⟨fun _ => q1, this⟩
      | false =>
       rw [hrd] at hq
       dsimp only at hq
       have := kp hq
       rw [jY] at this
       exact ⟨fun hx => by simp at hx, this⟩
theorem Jl {fh : Bool} {all : List Oper} {o : Oper} {f : ab} {k : ac -> Qy α} (h : (Ba B E G n fh all o f k).qy P G T) : ∃ a, nS E G n fh all o f = some a /\ (k a).qy P G T := by
 unfold Ba at h
 split at h
 ·unfold nS
  split at h
  ·exact h.elim
  rename_i b hw
  rw [hw]
  dsimp only
  cases b with
  | false => exact ⟨_, rfl, h⟩
  | true =>
   rw [if_pos rfl]
   dsimp only at h
   split at h
   ·rename_i hal
    rw [if_pos hal]
    split at h
    ·rename_i x hx
     rw [hx]
     exact ⟨_, rfl, h⟩
    exact h.elim
   rename_i hal
   rw [if_neg (by simp [hal])]
   split at h
   ·exact h.elim
   rename_i hc
   rw [hc]
   dsimp only
   split at h
   ·rename_i hq
    rw [if_pos hq]
    obtain ⟨out, ho, h⟩ := h
    rw [ho]
    dsimp only at h ⊢
    split at h
    ·exact ⟨_, rfl, h⟩
    exact h.elim
   exact h.elim
 split at h
 ·rename_i a ha
  exact ⟨a, ha, h⟩
 exact h.elim
theorem Jm {tk : List Nat} {fh : Bool} {fq : Nat -> Bool} {all : List Oper} {i : Nat} {lone : Bool} {rest : List (Nat × Bool)} {f : ab} {k : ab -> Qy α} : Jn A B E G H n tk fh fq all ((i, lone) :: rest) f k = (match all[i]? with
  | none => .fail
  | some o => match lone with
   | true => L0 A B E G H n fh tk all o f (fun f' => Jn A B E G H n tk fh fq all rest f' k)
   | false => Ba B E G n (fh || fq i) all o f (fun a => vt A n o.dst (iZ f o.dst a) (fun f' => Jn A B E G H n tk fh fq all rest f' k))) := rfl
theorem vH {tk : List Nat} {fh : Bool} {fq : Nat -> Bool} {all : List Oper} {k : ab -> Qy α} {K : aa -> Prop} (hK : ∀ s, sv P G n T k s -> K s) : ∀ {l : List (Nat × Bool)} {f : ab}, (Jn A B E G H n tk fh fq all l f k).qy P G T -> kJ (aB P G) E G H tk fh fq all K l (f.au n)
 | [], f, h => hK _ ⟨f, rfl, h⟩
 |(i, lone) :: rest, f, h => by
  rw [Jm] at h
  simp only [kJ, hC]
  cases hi : all[i]? with
  | none => rw [hi] at h; exact h.elim
  | some o =>
   rw [hi] at h
   cases lone
   ·dsimp only at h ⊢
    rw [if_neg (by simp), Ao]
    obtain ⟨a, h1, h2⟩ := Jl h
    rw [h1]
    dsimp only
    rw [← dS]
    obtain ⟨f', e, h'⟩ := kp h2
    rw [e]
    exact vH hK h'
   dsimp only at h ⊢
   rw [if_pos rfl]
   refine nu ?_ (Hu h)
   rintro s ⟨f', rfl, h'⟩
   exact vH hK h'
theorem xp {F : Nat -> Qy α} : ∀ {l : List Nat} {i : Nat}, (Hy F i l).qy P G T -> ∀ j ∈ i :: l, (F j).qy P G T
 | [], i, h, j, hj => by simp at hj; subst hj; exact h
 | x :: l, i, h, j, hj => by
  obtain ⟨h1, h2⟩ := h
  rcases List.mem_cons.1 hj with rfl | hj
  ·exact h1
  exact xp h2 j hj
theorem De {all : List Oper} {k : ab -> Qy α} : ∀ (m : Nat) (listed : Array Bool) (f : ab), (Df A B E G H n all m listed f k).qy P G T -> mT (aB P G) E G H all (sv P G n T k) m listed (f.au n)
 | 0, listed, f, h => by
  simp only [Df] at h
  split at h
  ·rename_i he
   exact ⟨he, f, rfl, h⟩
  exact h.elim
 | m + 1, listed, f, h => by
  simp only [Df] at h
  simp only [mT]
  split at h
  ·rename_i he
   exact .inl ⟨he, f, rfl, h⟩
  rename_i i l he
  refine .inr ⟨by rw [he]; simp, ?_⟩
  rw [he]
  intro j hj
  have h1 := xp h j hj
  split at h1
  ·rename_i o ho
   refine ⟨o, ho, tM ?_ (Hv h1)⟩
   rintro s ⟨f', rfl, h'⟩
   exact De m _ f' h'
  exact h1.elim
theorem yR {all : List Oper} {Q Q' : aa -> Prop} (hq : ∀ s, Q s -> Q' s) : ∀ (m : Nat) (listed : Array Bool) (s : aa), mT (aB P G) E G H all Q m listed s -> mT (aB P G) E G H all Q' m listed s
 | 0, listed, s, h => ⟨h.1, hq _ h.2⟩
 | m + 1, listed, s, h => by
  simp only [mT] at h ⊢
  rcases h with h | h
  ·exact .inl ⟨h.1, hq _ h.2⟩
  refine .inr ⟨h.1, fun i hi => ?_⟩
  obtain ⟨o, ho, hh⟩ := h.2 i hi
  exact ⟨o, ho, tM (fun s hs => yR hq m _ s hs) hh⟩
theorem Dc {h : ay} {all : List Oper} {p : Array Bool} {k : ab -> Qy α} {K : aa -> Prop} (hK : ∀ s, sv P G n T k s -> K s) : ∀ (m : Nat) (listed : Array Bool) (f : ab), (Dd A B E G H n h all p m listed f k).qy P G T -> tN (aB P G) E G H h all p K m listed (f.au n)
 | 0, listed, f, hh => by
  simp only [Dd] at hh
  split at hh
  ·rename_i he
   exact ⟨Array.ext' (jL.1 he), hK _ ⟨f, rfl, hh⟩⟩
  exact hh.elim
 | m + 1, listed, f, hh => by
  simp only [Dd] at hh
  split at hh
  ·exact hh.elim
  rename_i hne
  split at hh
  ·exact hh.elim
  rename_i i l he
  refine ⟨fun e => ?_, by rw [he]; simp, fun j hj => ?_⟩
  ·rw [e, jL.2 rfl] at hne
   simp at hne
  rw [he] at hj
  have h1 := xp hh j hj
  split at h1
  ·rename_i hc
   refine ⟨by simpa using hc, ?_⟩
   split at h1
   ·rename_i o ho
    refine ⟨o, ho, nu ?_ (Hu h1)⟩
    rintro s ⟨f', rfl, h'⟩
    exact Dc hK m _ f' h'
   exact h1.elim
  exact h1.elim
theorem L5 {all : List Oper} {h : ay} {f : ab} {k : ab -> Qy α} (hh : (L6 A B E G H n all h f k).qy P G T) : yT (aB P G) E G H all h (sv P G n T k) (f.au n) := by
 unfold L6 at hh
 unfold yT
 cases hx : fC h with
 | true =>
  rw [hx] at hh
  dsimp only at hh
  rw [if_pos rfl]
  refine yR ?_ _ _ _ (De _ _ _ hh)
  intro s hs
  exact ⟨s, hs, fun w R N tmps bsT bsL bsH bsF hr => ⟨N, bsT, bsL, bsH, hr, fun _ _ _ h => h⟩⟩
 | false =>
  rw [hx] at hh
  dsimp only at hh
  rw [if_neg (by simp)]
  cases hlm : fW h with
  | true =>
   rw [hlm] at hh
   dsimp only at hh
   rw [if_pos rfl]
   unfold yS
   refine vH ?_ hh
   rintro s ⟨f1, rfl, h1⟩
   refine Dc ?_ _ _ _ h1
   rintro s ⟨f0, rfl, h0⟩
   dsimp only at h0
   split at h0
   ·rename_i f2 hf2
    rw [jz E n all _ f0 f2 hf2]
    exact vI h0
   exact h0.elim
  | false =>
   rw [hlm] at hh
   dsimp only at hh
   rw [if_neg (by simp)]
   refine vH ?_ hh
   rintro s ⟨f1, rfl, h1⟩
   dsimp only at h1
   split at h1
   ·rename_i f2 hf2
    rw [jz E n all _ f1 f2 hf2]
    exact vI h1
   exact h1.elim
theorem DY (f : ab) (m : Nat) : gz G (f.au n) ((jW f (fun l => dW l m)).au n) := by
 intro w R N tmps bsT bsL bsH bsF hr
 obtain ⟨bsT', hr'⟩ := hr.prune m
 exact ⟨R, N, bsT', bsL, bsH, hr', bg _, fun _ _ h => h⟩
theorem Ac {w : World} {R : Own} {M : Name -> Option Nat} (l : List Name) : ∀ {os : Heap} {bs : List Nat}, al w R M os bs -> ∃ bs', al w R M (Du l os) bs' /\ bs'.Sublist bs
 | [], bs, h => ⟨bs, h, .refl _⟩
 |(m, o) :: os, _, ⟨b, b1, b2, e, hn, ho, hr⟩ => by
  subst e
  obtain ⟨bs', k1, k2⟩ := Ac l hr
  simp only [Du]
  split
  ·exact ⟨b :: (b1 ++ bs'), ⟨b, b1, bs', rfl, hn, ho, k1⟩, (List.Sublist.append (.refl _) k2).cons_cons _⟩
  exact ⟨bs', k1, k2.trans ((List.sublist_append_right b1 b2).cons _)⟩
theorem JO (caps : FuncId -> Bool) (f : ab) : gz G (f.au n) ((GA caps f).au n) := by
 unfold GA
 split
 ·obtain ⟨sl, locs, heap, next⟩ := f
  cases locs with
  | nil => exact gz.refl _ _
  | cons p locs =>
   intro w R N tmps bsT bsL bsH bsF hr
   obtain ⟨bs', k1, k2⟩ := Ac (yw (p :: locs) (p :: locs).length (qu (sH sl) [])) hr.locs
   refine ⟨R, N, bsT, bs', bsH, ⟨aP _, hr.tmps, k1, hr.heap, ?_, hr.next, hr.glob, hr.frame⟩, bg _, fun _ _ h => h⟩
   refine List.Nodup.sublist ?_ hr.nodup
   exact List.Sublist.append (.refl _) (List.Sublist.append (.refl _) (List.Sublist.append k2 (.refl _)))
 exact gz.refl _ _
theorem sq {c : Code} {s : aa} {Q Q' : Exit -> aa -> Prop} (h : dc P G c Q s) (hg : ∀ e s1, Q e s1 -> ∃ s2, gz G s1 s2 /\ Q' e s2) : dc P G c Q' s := by
 intro w R N act bsT bsL bsH bsF hr D hd
 refine wp_mono (h w R N act bsT bsL bsH bsF hr hd) ?_
 rintro e a w' ⟨s', R', N', bsT', bsL', bsH', hq, hr', hd', hk, hN⟩
 obtain ⟨s2, hg, hq2⟩ := hg e s' hq
 obtain ⟨R2, N2, t2, l2, h2, hr2, hk2, hN2⟩ := hg _ _ _ _ _ _ _ _ hr'
 exact ⟨s2, R2, N2, t2, l2, h2, hq2, hr2, hd', hk.trans hk2, fun o b ho => hN2 o b (hN o b ho)⟩
theorem Fo (hE : E.Ok P) {live : Nat -> Nat} {id : Nat} {ops : Array Oper} {draw : Bool} {f : ab} {k : ab -> Qy α} (hc : cD H (.region id ops draw) = true) (h : (vG A B E G H n live id ops draw f k).qy P G T) :
  dc P G (.region id ops draw) (fun e s => e = .normal /\ sv P G n T k s) (f.au n) := by
 have key : ∀ s1, sv P G n T (fun f' => match jX n (live id) (jW f' (fun l => dW l (live id))) with | some f2 => k (GA H.caps f2) | none => .fail) s1 -> ∃ s2, gz G s1 s2 /\ sv P G n T k s2 := by
  rintro s1 ⟨f1, rfl, h1⟩
  dsimp only at h1
  split at h1
  ·rename_i f2 hf2
   exact ⟨_, ((DY f1 (live id)).trans (mw G hf2)).trans (JO H.caps f2), _, rfl, h1⟩
  exact h1.elim
 unfold vG at h
 cases draw
 ·dsimp only at h
  refine sq (sm (H := H.at id) (Q := fun e s => e = .normal /\ sv P G n T (fun f' => match jX n (live id) (jW f' (fun l => dW l (live id))) with | some f2 => k (GA H.caps f2) | none => .fail) s) hE ?_) ?_
  ·have := vI h
   simpa using this
  rintro e s1 ⟨rfl, h1⟩
  obtain ⟨s2, g, h2⟩ := key s1 h1
  exact ⟨s2, g, rfl, h2⟩
 dsimp only at h
 refine sq (yV (H := H) (Q := fun e s => e = .normal /\ sv P G n T (fun f' => match jX n (live id) (jW f' (fun l => dW l (live id))) with | some f2 => k (GA H.caps f2) | none => .fail) s) hE hE.mixed (by simpa [cD] using hc) ?_) ?_
 ·have := L5 h
  simpa using this
 rintro e s1 ⟨rfl, h1⟩
 obtain ⟨s2, g, h2⟩ := key s1 h1
 exact ⟨s2, g, rfl, h2⟩
/-- After an exit, the run goes on. -/
def Ye (P : Program) (G : bF) (n : Nat) (T : α -> Prop) (k : Exit × ab -> Qy α) (e : Exit) (s : aa) : Prop := ∃ f', s = f'.au n /\ (k (e, f')).qy P G T
theorem Bb {live : Nat -> Nat} {id : Nat} {ops : Array Oper} {draw : Bool} {f : ab} {k : Exit × ab -> Qy α} : qT A B E G H n live (.region id ops draw) f k = vG A B E G H n live id ops draw f (fun f => k (.normal, f)) := rfl
theorem gJ (hE : E.Ok P) (live : Nat -> Nat) : ∀ (c : Code) (f : ab) (k : Exit × ab -> Qy α), cD H c = true -> (qT A B E G H n live c f k).qy P G T -> dc P G c (Ye P G n T k) (f.au n)
 | .skip, f, k, _, h => fG wp_skip ⟨f, rfl, h⟩
 | .region id ops draw, f, k, hc, h => by
  rw [Bb] at h
  refine (Fo hE hc h).mono ?_
  rintro e s ⟨rfl, f', rfl, h'⟩
  exact ⟨f', rfl, h'⟩
 | .seq x y, f, k, hc, h => by
  simp only [cD, Bool.and_eq_true] at hc
  refine AM ?_
  refine (gJ hE live x f (fun r => match r with | (.normal, f') => qT A B E G H n live y f' k | r => k r) hc.1 h).mono ?_
  rintro e s ⟨f', rfl, h'⟩
  cases e with
  | normal => exact gJ hE live y f' k hc.2 h'
  | _ => exact ⟨f', rfl, h'⟩
 | .cond c x y, f, k, hc, h => by
  simp only [cD, Bool.and_eq_true] at hc
  intro w R N act bsT bsL bsH bsF hr D hd
  have h : (match mQ G n f c with
   | .dat (.flat (.bool b)) => (match b with | true => qT A B E G H n live x f k | false => qT A B E G H n live y f k)
   | _ => .fail).qy P G T := h
  split at h
  ·rename_i b hb
   obtain ⟨bs, he⟩ := nX hr.tmps hr.glob c
   rw [lD, hb] at he
   obtain ⟨_, he, _⟩ := aF he
   refine wp_cond he ?_
   cases b
   ·exact gJ hE live y f k hc.2 h w R N act bsT bsL bsH bsF hr hd
   exact gJ hE live x f k hc.1 h w R N act bsT bsL bsH bsF hr hd
  exact h.elim
 | .block id c, f, k, hc, h => by
  simp only [cD] at hc
  intro w R N act bsT bsL bsH bsF hr D hd
  apply wp_block
  refine wp_mono (gJ hE live c f (fun r => match r with
   |(.exit i, f') => (match Nat.beq i id with | true => k (.normal, f') | false => k (.exit i, f'))
   | r => k r) hc h w R N act bsT bsL bsH bsF hr hd) ?_
  rintro e2 a w' ⟨s2, R', N', bsT', bsL', bsH', ⟨f', rfl, h'⟩, rest⟩
  cases e2 with
  | exit i =>
   simp only [Exit.inBlock]
   dsimp only at h'
   by_cases hi : i = id
   ·have hb : Nat.beq i id = true := by rw [Nat.beq_eq]; exact hi
    rw [if_pos hi]
    rw [hb] at h'
    exact ⟨_, R', N', bsT', bsL', bsH', ⟨f', rfl, h'⟩, rest⟩
   have hb : Nat.beq i id = false := by rw [Bool.eq_false_iff]; intro hc; rw [Nat.beq_eq] at hc; exact hi hc
   rw [if_neg hi]
   rw [hb] at h'
   exact ⟨_, R', N', bsT', bsL', bsH', ⟨f', rfl, h'⟩, rest⟩
  | _ => exact ⟨_, R', N', bsT', bsL', bsH', ⟨f', rfl, h'⟩, rest⟩
 | .exit id, f, k, _, h => fG wp_exit ⟨f, rfl, h⟩
 | .ret, f, k, _, h => fG wp_ret ⟨f, rfl, h⟩
 | .loop c, f, k, _, h => h
 | .rangeFunc _ _ _ _, _, _, _, h => h.elim
 | .scope c, f, k, hc, h => by
  simp only [cD] at hc
  intro w R N act bsT bsL bsH bsF hr D hd
  apply wp_scope_straight
  refine wp_mono (gJ hE live c f (fun r => match r with
   |(.goto _, _) => .fail
   | r => k r) hc h w R N act bsT bsL bsH bsF hr hd) ?_
  rintro e2 a w' ⟨s2, R', N', bsT', bsL', bsH', ⟨f', rfl, h'⟩, rest⟩
  cases e2 with
  | goto l => exact h'.elim
  | _ => exact ⟨_, R', N', bsT', bsL', bsH', ⟨f', rfl, h'⟩, rest⟩
 | .label _, f, k, _, h => fG wp_label ⟨f, rfl, h⟩
 | .goto _, _, _, _, h => h.elim
 | .refuse _, _, _, _, h => h.elim
end
/-- The same, as a word of its own: it is not reckoned out where it stands as a goal. -/
structure Qy.Ok {α : Type} (P : Program) (G : bF) (T : α -> Prop) (q : Qy α) : Prop where
 ok : q.qy P G T
end Go.Tp

namespace Go.Tp
mutual
def eZ (ρ : Nat -> Nat) : ac -> ac
 | .ptr (.out o) off => .ptr (.out (ρ o)) off
 | .map (.out o) => .map (.out (ρ o))
 | .win (.out o) s off len => .win (.out (ρ o)) s off len
 | .fn f a b => .fn f (hO ρ a) (hO ρ b)
 | .agg cs => .agg (hO ρ cs)
 | .tup cs => .tup (hO ρ cs)
 | a => a
def hO (ρ : Nat -> Nat) : List ac -> List ac
 | [] => []
 | a :: r => eZ ρ a :: hO ρ r
end
def qx (ρ : Nat -> Nat) : aN -> aN
 | .cells cs => .cells (hO ρ cs)
 | .map es => .map es
def zi (ρ : Nat -> Nat) : Name -> Name
 | .out o => .out (ρ o)
 | m => m
def ni (ρ : Nat -> Nat) : Heap -> Heap
 | [] => []
 |(m, o) :: r => (zi ρ m, qx ρ o) :: ni ρ r
section
variable {w : World} {R : Own} {M M2 : Name -> Option Nat} {ρ : Nat -> Nat}
mutual
theorem ak.rn (hL : ∀ i, M (.loc i) = none) (hM : ∀ o b, M (.out o) = some b -> M2 (.out (ρ o)) = some b) : ∀ {a : ac} {v : Value} {bs : List Nat}, ak w R M a v bs -> ak w R M2 (eZ ρ a) v bs
 | .dat _, _, _, h => by simp only [eZ, ak] at h ⊢; exact h
 | .own _, _, _, h => by simp only [eZ, ak] at h ⊢; exact h
 | .ref _, _, _, h => by simp only [eZ, ak] at h ⊢; exact h
 | .undef, _, _, h => by simp only [eZ, ak] at h ⊢; exact h
 | .ptr (.loc i) _, _, _, h => by simp only [ak] at h; obtain ⟨_, b, h2, _⟩ := h; rw [hL] at h2; simp at h2
 | .map (.loc i), _, _, h => by simp only [ak] at h; obtain ⟨_, b, h2, _⟩ := h; rw [hL] at h2; simp at h2
 | .win (.loc i) _ _ _, _, _, h => by simp only [ak] at h; obtain ⟨_, b, cap, h2, _⟩ := h; rw [hL] at h2; simp at h2
 | .ptr (.out o) off, _, _, h => by
  simp only [eZ, ak] at h ⊢
  obtain ⟨h1, b, h2, h3⟩ := h
  exact ⟨h1, b, hM o b h2, h3⟩
 | .map (.out o), _, _, h => by
  simp only [eZ, ak] at h ⊢
  obtain ⟨h1, b, h2, h3⟩ := h
  exact ⟨h1, b, hM o b h2, h3⟩
 | .win (.out o) s off len, _, _, h => by
  simp only [eZ, ak] at h ⊢
  obtain ⟨h1, b, cap, h2, h3⟩ := h
  exact ⟨h1, b, cap, hM o b h2, h3⟩
 | .fn f a b, _, _, h => by
  simp only [eZ, ak] at h ⊢
  obtain ⟨h1, vs, us, e, h2, h3⟩ := h
  exact ⟨h1, vs, us, e, ag.rn hL hM h2, ag.rn hL hM h3⟩
 | .agg cs, _, _, h => by
  simp only [eZ, ak] at h ⊢
  obtain ⟨vs, e, h⟩ := h
  exact ⟨vs, e, ag.rn hL hM h⟩
 | .tup cs, _, _, h => by
  simp only [eZ, ak] at h ⊢
  obtain ⟨vs, e, h⟩ := h
  exact ⟨vs, e, ag.rn hL hM h⟩
theorem ag.rn (hL : ∀ i, M (.loc i) = none) (hM : ∀ o b, M (.out o) = some b -> M2 (.out (ρ o)) = some b) : ∀ {as : List ac} {vs : List Value} {bs : List Nat}, ag w R M as vs bs -> ag w R M2 (hO ρ as) vs bs
 | [], _, _, h => by simp only [hO, ag] at h ⊢; exact h
 | a :: r, _, _, h => by
  simp only [hO, ag] at h ⊢
  obtain ⟨v, vs', b1, b2, e1, e2, h1, h2⟩ := h
  exact ⟨v, vs', b1, b2, e1, e2, ak.rn hL hM h1, ag.rn hL hM h2⟩
end
/-! .. and back. -/
mutual
theorem ak.gH {k : Nat} (hM : ∀ o b, o < k -> M2 (.out (ρ o)) = some b -> M (.out o) = some b) : ∀ {a : ac} {v : Value} {bs : List Nat}, dF k a = false -> ak w R M2 (eZ ρ a) v bs -> ak w R M a v bs
 | .dat _, _, _, _, h => by simp only [eZ, ak] at h ⊢; exact h
 | .own _, _, _, _, h => by simp only [eZ, ak] at h ⊢; exact h
 | .ref _, _, _, _, h => by simp only [eZ, ak] at h ⊢; exact h
 | .undef, _, _, _, h => by simp only [eZ, ak] at h ⊢; exact h
 | .ptr (.loc _) _, _, _, hn, _ => by simp [dF] at hn
 | .map (.loc _), _, _, hn, _ => by simp [dF] at hn
 | .win (.loc _) _ _ _, _, _, hn, _ => by simp [dF] at hn
 | .ptr (.out o) off, _, _, hn, h => by
  simp only [dF] at hn
  have ho : o < k := by
   cases Nat.lt_or_ge o k with
   | inl h => exact h
   | inr h => rw [gY h] at hn; simp at hn
  simp only [eZ, ak] at h ⊢
  obtain ⟨h1, b, h2, h3⟩ := h
  exact ⟨h1, b, hM o b ho h2, h3⟩
 | .map (.out o), _, _, hn, h => by
  simp only [dF] at hn
  have ho : o < k := by
   cases Nat.lt_or_ge o k with
   | inl h => exact h
   | inr h => rw [gY h] at hn; simp at hn
  simp only [eZ, ak] at h ⊢
  obtain ⟨h1, b, h2, h3⟩ := h
  exact ⟨h1, b, hM o b ho h2, h3⟩
 | .win (.out o) s off len, _, _, hn, h => by
  simp only [dF] at hn
  have ho : o < k := by
   cases Nat.lt_or_ge o k with
   | inl h => exact h
   | inr h => rw [gY h] at hn; simp at hn
  simp only [eZ, ak] at h ⊢
  obtain ⟨h1, b, cap, h2, h3⟩ := h
  exact ⟨h1, b, cap, hM o b ho h2, h3⟩
 | .fn f a b, _, _, hn, h => by
  simp only [dF, Bool.or_eq_false_iff] at hn
  simp only [eZ, ak] at h ⊢
  obtain ⟨h1, vs, us, e, h2, h3⟩ := h
  exact ⟨h1, vs, us, e, ag.gH hM hn.1 h2, ag.gH hM hn.2 h3⟩
 | .agg cs, _, _, hn, h => by
  simp only [dF] at hn
  simp only [eZ, ak] at h ⊢
  obtain ⟨vs, e, h⟩ := h
  exact ⟨vs, e, ag.gH hM hn h⟩
 | .tup cs, _, _, hn, h => by
  simp only [dF] at hn
  simp only [eZ, ak] at h ⊢
  obtain ⟨vs, e, h⟩ := h
  exact ⟨vs, e, ag.gH hM hn h⟩
theorem ag.gH {k : Nat} (hM : ∀ o b, o < k -> M2 (.out (ρ o)) = some b -> M (.out o) = some b) : ∀ {as : List ac} {vs : List Value} {bs : List Nat}, dJ k as = false -> ag w R M2 (hO ρ as) vs bs -> ag w R M as vs bs
 | [], _, _, _, h => by simp only [hO, ag] at h ⊢; exact h
 | a :: r, _, _, hn, h => by
  simp only [dJ, Bool.or_eq_false_iff] at hn
  simp only [hO, ag] at h ⊢
  obtain ⟨v, vs', b1, b2, e1, e2, h1, h2⟩ := h
  exact ⟨v, vs', b1, b2, e1, e2, ak.gH hM hn.1 h1, ag.gH hM hn.2 h2⟩
end
theorem Gg (a : ac) : Al (eZ ρ a) = Al a := by
 cases a with
 | ptr n off => cases n <;> rfl
 | map n => cases n <;> rfl
 | win n s off len => cases n <;> rfl
 | _ => rfl
theorem O5 (a b c : ac) (r : List ac) : cK (a :: b :: c :: r) = false := by
 unfold cK
 split <;> rename_i h <;> first | rfl | simp at h
theorem yI : ∀ (cs : List ac), cK (hO ρ cs) = cK cs
 | [] => rfl
 | [a] => by
  simp only [hO]
  unfold cK
  split <;> rename_i h <;> simp at h
  rfl
 | [a, b] => by
  simp only [hO]
  cases b with
  | ptr n off => cases n <;> rfl
  | map n => cases n <;> rfl
  | win n s off len => cases n <;> rfl
  | own es => simp only [eZ, cK, Gg]
  | dat d =>
   simp only [eZ]
   cases d with
   | slice es => simp only [cK, Gg]
   | agg es => rfl
   | flat v =>
    have h := Gg (ρ := ρ) a
    cases v with
    | slice p len cap =>
     cases p with
     | some _ => rfl
     | none =>
      cases len with
      | succ _ => rfl
      | zero =>
       cases cap with
       | succ _ => rfl
       | zero => exact h
    | _ => rfl
  | _ => rfl
 | a :: b :: c :: r => by
  simp only [hO, O5]
theorem pU (l m : List ac) : hO ρ (l ++ m) = hO ρ l ++ hO ρ m := by
 induction l with
 | nil => rfl
 | cons a l ih => simp [hO, ih]
theorem oP : ∀ k : Nat, hO ρ (List.replicate k .undef) = List.replicate k .undef
 | 0 => rfl
 | k + 1 => by simp [List.replicate_succ, hO, eZ, oP k]
theorem xH (k : Nat) : ∀ j : Nat, dJ k (List.replicate j .undef) = false
 | 0 => rfl
 | j + 1 => by simp [List.replicate_succ, dJ, dF, xH k j]
theorem aQ.rn (hL : ∀ i, M (.loc i) = none) (hM : ∀ o b, M (.out o) = some b -> M2 (.out (ρ o)) = some b) {o : aN} {b : Nat} {bs : List Nat} (h : aQ w R M o b bs) : aQ w R M2 (qx ρ o) b bs := by
 cases o with
 | map es => simp only [qx, aQ] at h ⊢; exact h
 | cells cs =>
  simp only [qx, aQ] at h ⊢
  obtain ⟨vs, elem, sp, h1, h2, h3, h4⟩ := h
  refine ⟨vs, elem, sp, h1, ?_, h3, by rw [yI]; exact h4⟩
  have := ag.rn (ρ := ρ) hL hM (as := cs ++ List.replicate sp .undef) h2
  rwa [pU, oP] at this
theorem aQ.gH {k : Nat} (hM : ∀ o b, o < k -> M2 (.out (ρ o)) = some b -> M (.out o) = some b) {o : aN} {b : Nat} {bs : List Nat} (hn : nC k o = false) (h : aQ w R M2 (qx ρ o) b bs) : aQ w R M o b bs := by
 cases o with
 | map es => simp only [qx, aQ] at h ⊢; exact h
 | cells cs =>
  simp only [nC] at hn
  simp only [qx, aQ] at h ⊢
  obtain ⟨vs, elem, sp, h1, h2, h3, h4⟩ := h
  refine ⟨vs, elem, sp, h1, ?_, h3, by rw [yI] at h4; exact h4⟩
  refine ag.gH (ρ := ρ) hM (as := cs ++ List.replicate sp .undef) (by rw [nD, hn, xH]; rfl) ?_
  rw [pU, oP]
  exact h2
/-- The names of the heap are below k. -/
def rf (k : Nat) : Heap -> Bool
 | [] => true
 |(m, _) :: r => jr k m && rf k r
theorem Dv {k : Nat} {m : Name} (h : jr k m = true) : ∃ o, m = .out o /\ o < k := by
 cases m with
 | loc i => simp [jr] at h
 | out o => exact ⟨o, rfl, ov h⟩
theorem al.rn (hL : ∀ i, M (.loc i) = none) (hM : ∀ o b, M (.out o) = some b -> M2 (.out (ρ o)) = some b) : ∀ {os : Heap} {bs : List Nat}, al w R M os bs -> al w R M2 (ni ρ os) bs
 | [], _, h => h
 |(.loc i, o) :: r, _, ⟨b, b1, b2, e, h1, h2, h3⟩ => by rw [hL] at h1; simp at h1
 |(.out m, o) :: r, _, ⟨b, b1, b2, e, h1, h2, h3⟩ => ⟨b, b1, b2, e, hM m b h1, h2.rn hL hM, al.rn hL hM h3⟩
theorem al.gH {k : Nat} (hM : ∀ o b, o < k -> M2 (.out (ρ o)) = some b -> M (.out o) = some b) : ∀ {os : Heap} {bs : List Nat}, rf k os = true -> cP k os = false -> al w R M2 (ni ρ os) bs -> al w R M os bs
 | [], _, _, _, h => h
 |(m, o) :: r, _, hl, hn, ⟨b, b1, b2, e, h1, h2, h3⟩ => by
  simp only [rf, Bool.and_eq_true] at hl
  simp only [cP, Bool.or_eq_false_iff] at hn
  obtain ⟨i, rfl, hi⟩ := Dv hl.1
  exact ⟨b, b1, b2, e, hM i b hi h1, h2.gH hM hn.1, al.gH hM hl.2 hn.2 h3⟩
theorem al.append : ∀ {os os2 : Heap} {bs : List Nat}, al w R M (os ++ os2) bs -> ∃ b1 b2, bs = b1 ++ b2 /\ al w R M os b1 /\ al w R M os2 b2
 | [], os2, bs, h => ⟨[], bs, rfl, rfl, h⟩
 |(m, o) :: r, os2, bs, ⟨b, b1, b2, e, h1, h2, h3⟩ => by
  obtain ⟨c1, c2, e2, k1, k2⟩ := al.append h3
  subst e
  subst e2
  exact ⟨b :: (b1 ++ c1), c2, by simp, ⟨b, b1, c1, rfl, h1, h2, k1⟩, k2⟩
theorem al.join : ∀ {os os2 : Heap} {b1 b2 : List Nat}, al w R M os b1 -> al w R M os2 b2 -> al w R M (os ++ os2) (b1 ++ b2)
 | [], os2, b1, b2, h, k => by
  have h : b1 = [] := h
  subst h; exact k
 |(m, o) :: r, os2, _, b2, ⟨b, c1, c2, e, h1, h2, h3⟩, k => by
  subst e
  exact ⟨b, c1, c2 ++ b2, by simp, h1, h2, h3.join k⟩
theorem al.perm {os os2 : Heap} (hp : os.Perm os2) : ∀ {bs : List Nat}, al w R M os bs -> ∃ bs', al w R M os2 bs' /\ bs.Perm bs' := by
 induction hp with
 | nil => intro bs h; exact ⟨bs, h, .refl _⟩
 | cons x _ ih =>
  intro bs h
  obtain ⟨b, b1, b2, e, h1, h2, h3⟩ := h
  obtain ⟨bs', k1, k2⟩ := ih h3
  subst e
  exact ⟨b :: (b1 ++ bs'), ⟨b, b1, bs', rfl, h1, h2, k1⟩, (k2.append_left b1).cons b⟩
 | swap x y l =>
  intro bs h
  obtain ⟨b, b1, _, e, h1, h2, c, c1, c2, e2, k1, k2, k3⟩ := h
  subst e2
  subst e
  refine ⟨c :: (c1 ++ (b :: (b1 ++ c2))), ⟨c, c1, _, rfl, k1, k2, b, b1, c2, rfl, h1, h2, k3⟩, ?_⟩
  rw [← List.cons_append, ← List.cons_append, ← List.append_assoc, ← List.cons_append, ← List.cons_append, ← List.append_assoc]
  exact List.Perm.append_right _ List.perm_append_comm
 | trans _ _ ih1 ih2 =>
  intro bs h
  obtain ⟨b1, k1, k2⟩ := ih1 h
  obtain ⟨b2, k3, k4⟩ := ih2 k1
  exact ⟨b2, k3, k2.trans k4⟩
/-- Each name is one of the heap's. -/
def hasName (o : Nat) : Heap -> Bool
 | [] => false
 |(.out m, _) :: r => Nat.beq m o || hasName o r
 |(.loc _, _) :: r => hasName o r
def sg (h : Heap) : Nat -> Bool
 | 0 => true
 | k + 1 => hasName k h && sg h k
theorem al.named {o : Nat} : ∀ {os : Heap} {bs : List Nat}, hasName o os = true -> al w R M (ni ρ os) bs -> ∃ b, M (.out (ρ o)) = some b
 | [], _, h, _ => by simp [hasName] at h
 |(.out m, x) :: r, _, h, ⟨b, b1, b2, e, h1, h2, h3⟩ => by
  simp only [hasName, Bool.or_eq_true] at h
  rcases h with h | h
  ·have := Nat.eq_of_beq_eq_true h
   subst this
   exact ⟨b, h1⟩
  exact al.named h h3
 |(.loc m, x) :: r, _, h, ⟨b, b1, b2, e, h1, h2, h3⟩ => al.named (os := r) (by simpa [hasName] using h) h3
theorem vg {h : Heap} : ∀ {k : Nat}, sg h k = true -> ∀ o, o < k -> hasName o h = true
 | 0, _, _, ho => by omega
 | k + 1, hh, o, ho => by
  simp only [sg, Bool.and_eq_true] at hh
  rcases Nat.lt_or_ge o k with h1 | h1
  ·exact vg hh.2 o h1
  have : o = k := by omega
  subst this; exact hh.1
end
/-- What stands below n0 as ρ says, the rest from d on. -/
def jm (ρ : Nat -> Nat) (n0 d o : Nat) : Nat := match Nat.blt o n0 with | true => ρ o | false => d + (o - n0)
variable {P : Program} {G : bF}
/-- A contract, said of the objects that it is about, beside others and under other names. -/
theorem aB.frame {g : FuncId} {args0 : List ac} {h0 : Heap} {n0 : Nat} {Q : ac -> Heap -> Nat -> Prop} (hc : aB P G g args0 h0 n0 Q) (ρ : Nat -> Nat) {heap rest : Heap} {next : Nat}
  (hp : heap.Perm (ni ρ h0 ++ rest)) (hlow : rf n0 h0 = true) (hnew : cP n0 h0 = false) (hall : sg h0 n0 = true) (ha : dJ n0 args0 = false) :
  aB P G g (hO ρ args0) heap next (fun v h m => ∃ v0 h1 n1, Q v0 h1 n1 /\ v = eZ (jm ρ n0 next) v0 /\ h = ni (jm ρ n0 next) h1 ++ rest /\ m = next + (n1 - n0)) := by
 intro w R N cargs bsA bsH bsF hargs hheap hnd hnx hglob hF
 obtain ⟨bsP, hP, pP⟩ := hheap.perm hp
 obtain ⟨b1, b2, e, h1, h2⟩ := al.append hP
 subst e
 let N0 : Name -> Option Nat := fun m => match m with | .loc _ => none | .out o => if o < n0 then N (.out (ρ o)) else none
 have hback : ∀ o b, o < n0 -> outs N (.out (ρ o)) = some b -> outs N0 (.out o) = some b := by
  intro o b ho hb
  simp only [outs] at hb ⊢
  simp only [N0]
  rw [if_pos ho]; exact hb
 have hnd1 : (bsA ++ (b1 ++ (b2 ++ bsF))).Nodup := by
  refine (List.Perm.nodup_iff ?_).1 hnd
  rw [← List.append_assoc b1]
  exact List.Perm.append_left _ (List.Perm.append_right _ pP)
 have h3 := hc w R N0 cargs bsA b1 (b2 ++ bsF) (hargs.gH hback ha) (h1.gH hback hlow hnew) hnd1 (by
  intro o b ho
  simp only [N0] at ho
  split at ho
  ·assumption
  ·simp at ho) hglob (by
  intro b hb
  rcases List.mem_append.1 hb with hb | hb
  ·exact h2.lt b hb
  exact hF b hb)
 refine h3.mono ?_
 rintro e w' ⟨v0, cv, h1', n1, R', N1, bsV, bsH', rfl, hq, hv, hh, hnd', hnx', hk, hN⟩
 let N2 : Name -> Option Nat := fun m => match m with | .loc i => N (.loc i) | .out x => if x < next then N (.out x) else N1 (.out (x - next + n0))
 have hfwd : ∀ o b, outs N1 (.out o) = some b -> outs N2 (.out (jm ρ n0 next o)) = some b := by
  intro o b hb
  simp only [outs] at hb ⊢
  unfold jm
  cases hlt : Nat.blt o n0 with
  | true =>
   have ho := ov hlt
   dsimp only
   obtain ⟨b', hb'⟩ := al.named (M := outs N) (ρ := ρ) (vg hall o ho) h1
   simp only [outs] at hb'
   have h4 : N0 (.out o) = some b' := by simp only [N0]; rw [if_pos ho]; exact hb'
   have h5 := hN o b' h4
   rw [hb] at h5
   simp only [N2]
   rw [if_pos (hnx _ _ hb'), hb', h5]
  | false =>
   dsimp only
   have ho : ¬ o < n0 := fun h => by rw [← Nat.blt_eq, hlt] at h; simp at h
   simp only [N2]
   rw [if_neg (by omega), show next + (o - n0) - next + n0 = o by omega]
   exact hb
 have hloc : ∀ i, outs N1 (.loc i) = none := fun i => rfl
 refine ⟨_, cv, _, _, R', N2, bsV, bsH' ++ b2, rfl, ⟨v0, h1', n1, hq, rfl, rfl, rfl⟩, hv.rn hloc hfwd, (hh.rn hloc hfwd).join ?_, by simpa using hnd', ?_, hk.sub (by intro b hb; simp [hb]), ?_⟩
 ·have h5 := h2.keep (hk.sub (by intro b hb; simp [hb]))
  refine h5.ext ?_
  intro m b hm
  cases m with
  | loc i => simp [outs] at hm
  | out x =>
   simp only [outs] at hm ⊢
   simp only [N2]
   rw [if_pos (hnx x b hm)]; exact hm
 ·intro x b hx
  simp only [N2] at hx
  split at hx
  ·omega
  have := hnx' _ _ hx
  omega
 intro x b hx
 simp only [N2]
 rw [if_pos (hnx x b hx)]; exact hx
end Go.Tp

namespace Go.Tp
section
variable {P : Program} {E : bw} {G : bF}
theorem aB.Y0 {f : FuncId} {args : List ac} {heap : Heap} {next : Nat} {Q : ac -> Heap -> Nat -> Prop} (h : aB P G f args heap next Q) : aB P G f args heap next (fun v h m => ∃ r : eQ, Q r.val r.heap r.next /\ (⟨v, h, m⟩ : eQ) = sx next r) := by
 intro w R N cargs bsA bsH bsF ha hh hnd hnx hg hF
 refine (h w R N cargs bsA bsH bsF ha hh hnd hnx hg hF).mono ?_
 rintro e w' ⟨val, cv, heap', next', R', N', bsV, bsH', rfl, hq, hv', hh', hnd', hnx', hk, hN⟩
 have key : ∀ r : eQ, r = sx next ⟨val, heap', next'⟩ -> ∃ R2 N2 bsV2 bsH2, ak w' R2 (outs N2) r.val cv bsV2 /\ al w' R2 (outs N2) r.heap bsH2 /\ (bsV2 ++ (bsH2 ++ bsF)).Nodup /\ (∀ o b, N2 (.out o) = some b -> o < r.next) /\ bz w R w' R2 bsF /\ (∀ o b, N (.out o) = some b -> N2 (.out o) = some b) := by
  intro r hr
  unfold sx at hr
  dsimp only at hr
  split at hr
  ·rename_i hnew
   subst hr
   simp only [Bool.or_eq_false_iff] at hnew
   obtain ⟨bs', k1, k2⟩ := ny next hh'
   let N2 : Name -> Option Nat := fun m => match m with | .loc i => N' (.loc i) | .out o => if o < next then N' (.out o) else none
   have hM : ∀ o b, o < next -> outs N' (.out o) = some b -> outs N2 (.out o) = some b := by
    intro o b ho hb
    simp only [outs] at hb ⊢
    simp only [N2]
    rw [if_pos ho]; exact hb
   refine ⟨R', N2, bsV, bs', hv'.low hM hnew.1, k1.low hM (ky next heap') hnew.2, ?_, ?_, hk, ?_⟩
   ·exact List.Nodup.sublist (List.Sublist.append (.refl _) (List.Sublist.append k2 (.refl _))) hnd'
   ·intro o b hb
    simp only [N2] at hb
    split at hb
    ·assumption
    simp at hb
   intro o b hb
   simp only [N2]
   rw [if_pos (hnx o b hb)]
   exact hN o b hb
  subst hr
  obtain ⟨bs', k1, k2⟩ := jx next (Ca next heap' 3 (HB val)) hh'
  exact ⟨R', N', bsV, bs', hv', k1, List.Nodup.sublist (List.Sublist.append (.refl _) (List.Sublist.append k2 (.refl _))) hnd', hnx', hk, hN⟩
 obtain ⟨R2, N2, bsV2, bsH2, k⟩ := key _ rfl
 exact ⟨_, cv, _, _, R2, N2, bsV2, bsH2, rfl, ⟨⟨val, heap', next'⟩, hq, rfl⟩, k⟩
theorem AJ {rs : List ResultVar} {Q Q' : ac -> List (Name × aN) -> Nat -> Prop} {s : aa} (hq : ∀ v h n, Q v h n -> Q' v h n) (h : vB E rs Q s) : vB E rs Q' s := by
 unfold vB at h ⊢
 generalize gf E s rs = rv at h ⊢
 cases rv with
 | none => exact h
 | some vs =>
  dsimp only at h ⊢
  by_cases hn : bG (iR vs) = true
  ·rw [if_pos hn] at h ⊢
   exact hq _ _ _ h
  rw [if_neg hn] at h ⊢
  generalize gq (oQ s.locs.length (lx s.locs)) s (iR vs) = x at h ⊢
  obtain ⟨s', vs'⟩ := x
  dsimp only at h ⊢
  by_cases hn2 : bG vs' = true
  ·rw [if_pos hn2] at h ⊢
   exact hq _ _ _ h
  rw [if_neg hn2] at h ⊢
  exact h
/-- A function's contract. -/
theorem Hw {A B : Nat -> Bool} {moves caps : FuncId -> Bool} {F : FuncId -> Option mW} (hE : E.Ok P) (hF : Yf P moves caps F) {g : FuncId} {x : mW} (hx : F g = some x) {args : List ac} {heap : Heap} {next : Nat} {T : eQ -> Prop}
  (h : pw args -> vA heap -> (L4 A B E G moves caps x g args heap next).Ok P G T) : aB P G g args heap next (fun v h m => T ⟨v, h, m⟩) := by
 obtain ⟨fn, h1, h2, h3, h4, h5⟩ := hF g x hx
 have h6 : aB P G g args heap next (fun v h m => T (sx next ⟨v, h, m⟩)) := by
  refine jj hE h1 h2 ?_
  intro b1 b2
  have h := (h b1 b2).ok
  rw [h3, h4]
  unfold L4 at h
  split at h
  ·exact h.elim
  rename_i hlen
  have hlen := fT hlen
  have hent : (⟨wF 0 args, [], heap, next⟩ : ab).au x.ntmps = enter x.ntmps args heap next := by
   simp only [ab.au, enter]
   congr 1
   apply List.ext_getElem?
   intro i
   rw [kA, Nat.zero_add, qH, if_pos (Nat.zero_le _), Nat.sub_zero, List.getElem?_append]
   split
   ·split
    ·rename_i hi; unfold br; rw [List.getElem?_eq_getElem hi]
    rename_i hi1 hi
    rw [List.getElem?_replicate, if_pos (by omega)]
    unfold br
    rw [List.getElem?_eq_none (by omega)]
   rename_i hi
   rw [if_neg (by omega), List.getElem?_replicate, if_neg (by omega)]
  rw [← hent]
  refine (gJ (H := ⟨moves, x.ord, caps, rowsOf caps g⟩) hE x.live x.code _ _ (by rw [dD]; exact h5) h).mono ?_
  rintro e s ⟨f', rfl, h'⟩
  have key : (match vy E x.ntmps x.results f' with | some r => (Qy.fin (sx next r) : Qy eQ) | none => .fail).qy P G T -> vB E x.results (fun v h m => T (sx next ⟨v, h, m⟩)) (f'.au x.ntmps) := by
   intro hh
   split at hh
   ·rename_i r hr
    have := pM (E := E) (rs := x.results) (s := f'.au x.ntmps) (r := r) (by rw [BS]; exact hr)
    exact AJ (by rintro v h m ⟨rfl, rfl, rfl⟩; exact hh) this
   exact hh.elim
  cases e with
  | ret => exact key h'
  | normal => exact key h'
  | _ => exact h'.elim
 refine h6.Y0.mono ?_
 rintro v h m ⟨r, hr, e⟩
 rw [e]; exact hr
/-! ### Loops -/
/-- A loop: I m s is what holds at the head of a round, m goes down. -/
theorem Sx {c : Code} {T : Exit -> aa -> Prop} (I : Nat -> aa -> Prop)
  (step : ∀ m s, I m s -> dc P G c (pQ (fun s' => ∃ m', m' < m /\ I m' s') T) s) {m : Nat} {s : aa} (h : I m s) : dc P G (.loop c) T s := by
 intro w R N act bsT bsL bsH bsF hr D hd
 refine wp_loop_ghost (I := fun k a w' => ∃ s1 R' N' bsT' bsL' bsH', I k s1 /\ cS G w' R' N' a.tmps.toList s1 undef .undef [] bsT' bsL' bsH' bsF /\ a.defers = D /\ bz w R w' R' bsF /\ (∀ o b, N (.out o) = some b -> N' (.out o) = some b)) (n0 := m) ?_ ?_
 ·exact ⟨s, R, N, bsT, bsL, bsH, h, hr, hd, bg _, fun _ _ h => h⟩
 rintro k a w' ⟨s1, R', N', bsT', bsL', bsH', hI, hr', hd', hk, hN⟩
 refine wp_mono (step k s1 hI w' R' N' a bsT' bsL' bsH' bsF hr' hd') ?_
 rintro e a2 w2 ⟨s2, R2, N2, bsT2, bsL2, bsH2, hq, hr2, hd2, hk2, hN2⟩
 cases e with
 | normal =>
  obtain ⟨m', hlt, hI'⟩ := hq
  exact ⟨m', hlt, s2, R2, N2, bsT2, bsL2, bsH2, hI', hr2, hd2, hk.trans hk2, fun o b h => hN2 o b (hN o b h)⟩
 | _ => exact ⟨s2, R2, N2, bsT2, bsL2, bsH2, hq, hr2, hd2, hk.trans hk2, fun o b h => hN2 o b (hN o b h)⟩
/-- Code from a run that asks; what is said of the end is said of abstract states. -/
theorem Jo {A B : Nat -> Bool} {H : Hints} {n : Nat} (hE : E.Ok P) (live : Nat -> Nat) {c : Code} (hc : cD H c = true) {f : ab} {T : Exit -> aa -> Prop}
  (h : (qT A B E G H n live c f (fun r => .fin r)).Ok P G (fun r => T r.1 (r.2.au n))) : dc P G c T (f.au n) := by
 refine (gJ hE live c f (fun r => .fin r) hc h.ok).mono ?_
 rintro e s ⟨f', rfl, h'⟩
 exact h'
end
/-! ### Answers -/
section
variable {P : Program} {G : bF} {α : Type} {T : α -> Prop}
def Qy.Gz : Qy α -> Option α
 | .fin a => some a
 | _ => none
def Qy.yG : Qy α -> Option Bool
 | .bool _ b _ => some b
 | _ => none
def Qy.Vz : Qy α -> Bool -> Qy α
 | .bool _ _ k, b => k b
 | _, _ => .fail
def Qy.Qh : Qy α -> Option (Option Out)
 | .out _ o _ => some o
 | _ => none
def Qy.YL : Qy α -> Out -> Qy α
 | .out _ _ k, x => k x
 | _, _ => .fail
def Qy.N7 : Qy α -> Option FuncId
 | .res g _ _ _ _ => some g
 | _ => none
def Qy.ve : Qy α -> List ac
 | .res _ args _ _ _ => args
 | _ => []
def Qy.uD : Qy α -> Nat
 | .res _ _ _ next _ => next
 | _ => 0
def Qy.uG : Qy α -> Heap
 | .res _ _ h _ _ => h
 | _ => []
def Qy.Wv : Qy α -> eQ -> Qy α
 | .res _ _ _ _ k, r => k r
 | _, _ => .fail
def Qy.Ag : Qy α -> Option (Nat × Code)
 | .loop n c _ _ => some (n, c)
 | _ => none
def Qy.DJ : Qy α -> ab
 | .loop _ _ f _ => f
 | _ => ⟨[], [], [], 0⟩
def Qy.Ww : Qy α -> Exit × ab -> Qy α
 | .loop _ _ _ k, r => k r
 | _, _ => .fail
def Qy.left : Qy α -> Option (Qy α)
 | .both a _ => some a
 | _ => none
def Qy.YZ : Qy α -> Qy α
 | .both a _ => a
 | _ => .fail
def Qy.YY : Qy α -> Qy α
 | .both _ b => b
 | _ => .fail
def Qy.NH : Qy α -> Bool
 | .both _ _ => true
 | _ => false
theorem bp {q : Qy α} {a : α} (e : q.Gz = some a) (h : T a) : q.Ok P G T := by
 cases q with
 | fin x => simp only [Qy.Gz, Option.some.injEq] at e; subst e; exact ⟨h⟩
 | _ => simp [Qy.Gz] at e
theorem bb {q : Qy α} {c b : Bool} (hc : c = b) (e : q.yG = some c) (h : (q.Vz b).Ok P G T) : q.Ok P G T := by
 cases q with
 | bool _ x k => simp only [Qy.yG, Option.some.injEq] at e; subst e; subst hc; exact ⟨h.ok⟩
 | _ => simp [Qy.yG] at e
/-- A truth value by cases. -/
theorem Dw {q : Qy α} {c : Bool} (e : q.yG = some c) (ht : c = true -> (q.Vz true).Ok P G T) (hf : c = false -> (q.Vz false).Ok P G T) : q.Ok P G T := by
 cases c
 ·exact bb rfl e (hf rfl)
 exact bb rfl e (ht rfl)
theorem Tw {q : Qy α} {o : Option Out} {x : Out} (ho : o = some x) (e : q.Qh = some o) (h : (q.YL x).Ok P G T) : q.Ok P G T := by
 cases q with
 | out _ y k => simp only [Qy.Qh, Option.some.injEq] at e; subst e; exact ⟨⟨x, ho, h.ok⟩⟩
 | _ => simp [Qy.Qh] at e
theorem gM {q : Qy α} {n : Nat} {c : Code} {f : ab} {L : Exit -> aa -> Prop} (e : q.Ag = some (n, c)) (hs : q.DJ.au n = f.au n) (hl : dc P G (.loop c) L (f.au n))
  (h : ∀ ex s, L ex s -> ∃ f', s = f'.au n /\ (q.Ww (ex, f')).Ok P G T) : q.Ok P G T := by
 cases q with
 | loop n' c' f' k =>
  simp only [Qy.Ag, Option.some.injEq, Prod.mk.injEq] at e
  obtain ⟨rfl, rfl⟩ := e
  simp only [Qy.DJ] at hs
  refine ⟨?_⟩
  show dc P G (.loop c') _ (f'.au n')
  rw [hs]
  exact hl.mono (fun e s hL => by obtain ⟨f2, h1, h2⟩ := h e s hL; exact ⟨f2, h1, h2.ok⟩)
 | _ => simp [Qy.Ag] at e
theorem js {q : Qy α} (e : q.NH = true) (h1 : q.YZ.Ok P G T) (h2 : q.YY.Ok P G T) : q.Ok P G T := by
 cases q with
 | both a b => exact ⟨⟨h1.ok, h2.ok⟩⟩
 | _ => simp [Qy.NH] at e
/-! Many answers at once. -/
end
end Go.Tp

namespace Go.Tp
mutual
/-- Every object that is named is one of p. -/
def Dy (p : Nat -> Bool) : ac -> Bool
 | .ptr (.out o) _ => p o
 | .map (.out o) => p o
 | .win (.out o) _ _ _ => p o
 | .fn _ a b => io p a && io p b
 | .agg cs => io p cs
 | .tup cs => io p cs
 | _ => true
def io (p : Nat -> Bool) : List ac -> Bool
 | [] => true
 | a :: r => Dy p a && io p r
end
def MV (p : Nat -> Bool) : aN -> Bool
 | .cells cs => io p cs
 | .map _ => true
def Ju (p : Nat -> Bool) : Heap -> Bool
 | [] => true
 |(.out m, o) :: r => p m && MV p o && Ju p r
 |(.loc _, o) :: r => MV p o && Ju p r
section
variable {w : World} {R : Own} {M M2 : Name -> Option Nat} {ρ : Nat -> Nat} {p : Nat -> Bool}
mutual
theorem ak.ET (hL : ∀ i b, M (.loc i) = some b -> M2 (.loc i) = some b) (hM : ∀ o b, p o = true -> M (.out o) = some b -> M2 (.out (ρ o)) = some b) : ∀ {a : ac} {v : Value} {bs : List Nat}, Dy p a = true -> ak w R M a v bs -> ak w R M2 (eZ ρ a) v bs
 | .dat _, _, _, _, h => by simp only [eZ, ak] at h ⊢; exact h
 | .own _, _, _, _, h => by simp only [eZ, ak] at h ⊢; exact h
 | .ref _, _, _, _, h => by simp only [eZ, ak] at h ⊢; exact h
 | .undef, _, _, _, h => by simp only [eZ, ak] at h ⊢; exact h
 | .ptr (.loc i) _, _, _, _, h => by simp only [eZ, ak] at h ⊢; obtain ⟨h1, b, h2, h3⟩ := h; exact ⟨h1, b, hL _ _ h2, h3⟩
 | .map (.loc i), _, _, _, h => by simp only [eZ, ak] at h ⊢; obtain ⟨h1, b, h2, h3⟩ := h; exact ⟨h1, b, hL _ _ h2, h3⟩
 | .win (.loc i) _ _ _, _, _, _, h => by simp only [eZ, ak] at h ⊢; obtain ⟨h1, b, cap, h2, h3⟩ := h; exact ⟨h1, b, cap, hL _ _ h2, h3⟩
 | .ptr (.out o) off, _, _, hp, h => by
  simp only [eZ, ak] at h ⊢
  obtain ⟨h1, b, h2, h3⟩ := h
  exact ⟨h1, b, hM o b hp h2, h3⟩
 | .map (.out o), _, _, hp, h => by
  simp only [eZ, ak] at h ⊢
  obtain ⟨h1, b, h2, h3⟩ := h
  exact ⟨h1, b, hM o b hp h2, h3⟩
 | .win (.out o) s off len, _, _, hp, h => by
  simp only [eZ, ak] at h ⊢
  obtain ⟨h1, b, cap, h2, h3⟩ := h
  exact ⟨h1, b, cap, hM o b hp h2, h3⟩
 | .fn f a b, _, _, hp, h => by
  simp only [Dy, Bool.and_eq_true] at hp
  simp only [eZ, ak] at h ⊢
  obtain ⟨h1, vs, us, e, h2, h3⟩ := h
  exact ⟨h1, vs, us, e, ag.ET hL hM hp.1 h2, ag.ET hL hM hp.2 h3⟩
 | .agg cs, _, _, hp, h => by
  simp only [eZ, ak] at h ⊢
  obtain ⟨vs, e, h⟩ := h
  exact ⟨vs, e, ag.ET hL hM (by simpa only [Dy] using hp) h⟩
 | .tup cs, _, _, hp, h => by
  simp only [eZ, ak] at h ⊢
  obtain ⟨vs, e, h⟩ := h
  exact ⟨vs, e, ag.ET hL hM (by simpa only [Dy] using hp) h⟩
theorem ag.ET (hL : ∀ i b, M (.loc i) = some b -> M2 (.loc i) = some b) (hM : ∀ o b, p o = true -> M (.out o) = some b -> M2 (.out (ρ o)) = some b) : ∀ {as : List ac} {vs : List Value} {bs : List Nat}, io p as = true -> ag w R M as vs bs -> ag w R M2 (hO ρ as) vs bs
 | [], _, _, _, h => by simp only [hO, ag] at h ⊢; exact h
 | a :: r, _, _, hp, h => by
  simp only [io, Bool.and_eq_true] at hp
  simp only [hO, ag] at h ⊢
  obtain ⟨v, vs', b1, b2, e1, e2, h1, h2⟩ := h
  exact ⟨v, vs', b1, b2, e1, e2, ak.ET hL hM hp.1 h1, ag.ET hL hM hp.2 h2⟩
end
theorem Dx (l m : List ac) : io p (l ++ m) = (io p l && io p m) := by
 induction l with
 | nil => simp [io]
 | cons a l ih => simp [io, ih, Bool.and_assoc]
theorem xE : ∀ j : Nat, io p (List.replicate j .undef) = true
 | 0 => rfl
 | j + 1 => by simp [List.replicate_succ, io, Dy, xE j]
theorem aQ.ET (hL : ∀ i b, M (.loc i) = some b -> M2 (.loc i) = some b) (hM : ∀ o b, p o = true -> M (.out o) = some b -> M2 (.out (ρ o)) = some b) {o : aN} {b : Nat} {bs : List Nat} (hp : MV p o = true) (h : aQ w R M o b bs) : aQ w R M2 (qx ρ o) b bs := by
 cases o with
 | map es => simp only [qx, aQ] at h ⊢; exact h
 | cells cs =>
  simp only [MV] at hp
  simp only [qx, aQ] at h ⊢
  obtain ⟨vs, elem, sp, h1, h2, h3, h4⟩ := h
  refine ⟨vs, elem, sp, h1, ?_, h3, by rw [yI]; exact h4⟩
  have := ag.ET (ρ := ρ) hL hM (as := cs ++ List.replicate sp .undef) (by rw [Dx, hp, xE]; rfl) h2
  rwa [pU, oP] at this
theorem al.ET (hL : ∀ i b, M (.loc i) = some b -> M2 (.loc i) = some b) (hM : ∀ o b, p o = true -> M (.out o) = some b -> M2 (.out (ρ o)) = some b) : ∀ {os : Heap} {bs : List Nat}, Ju p os = true -> al w R M os bs -> al w R M2 (ni ρ os) bs
 | [], _, _, h => h
 |(.loc i, o) :: r, _, hp, ⟨b, b1, b2, e, h1, h2, h3⟩ => by
  simp only [Ju, Bool.and_eq_true] at hp
  exact ⟨b, b1, b2, e, hL i b h1, h2.ET hL hM hp.1, al.ET hL hM hp.2 h3⟩
 |(.out m, o) :: r, _, hp, ⟨b, b1, b2, e, h1, h2, h3⟩ => by
  simp only [Ju, Bool.and_eq_true] at hp
  exact ⟨b, b1, b2, e, hM m b hp.1.1 h1, h2.ET hL hM hp.1.2, al.ET hL hM hp.2 h3⟩
end
section
variable {P : Program} {G : bF}
end
/-- Where a name stands in a list. -/
def qk (o : Nat) : List Nat -> Nat -> Nat
 | [], _ => o
 | q :: r, k => match Nat.beq q o with | true => k | false => qk o r (k + 1)
/-- Objects of these names alone. -/
def cd (q : Nat -> Bool) : Heap -> Heap
 | [] => []
 |(.out m, o) :: r => (match q m with | true => (.out m, o) :: cd q r | false => cd q r)
 |(.loc m, o) :: r => (.loc m, o) :: cd q r
theorem kR {w : World} {R : Own} {M : Name -> Option Nat} (q : Nat -> Bool) : ∀ {os : Heap} {bs : List Nat}, al w R M os bs -> ∃ bs', al w R M (cd q os) bs' /\ bs'.Sublist bs
 | [], bs, h => ⟨bs, h, .refl _⟩
 |(.out m, o) :: os, _, ⟨b, b1, b2, e, hn, ho, hr⟩ => by
  subst e
  obtain ⟨bs', k1, k2⟩ := kR q hr
  simp only [cd]
  split
  ·exact ⟨b :: (b1 ++ bs'), ⟨b, b1, bs', rfl, hn, ho, k1⟩, (List.Sublist.append (.refl _) k2).cons_cons _⟩
  exact ⟨bs', k1, k2.trans ((List.sublist_append_right b1 b2).cons _)⟩
 |(.loc m, o) :: os, _, ⟨b, b1, b2, e, hn, ho, hr⟩ => by
  subst e
  obtain ⟨bs', k1, k2⟩ := kR q hr
  exact ⟨b :: (b1 ++ bs'), ⟨b, b1, bs', rfl, hn, ho, k1⟩, (List.Sublist.append (.refl _) k2).cons_cons _⟩
theorem Ir {o : Nat} : ∀ {ps : List Nat} {k : Nat}, ir o ps = true -> k <= qk o ps k /\ qk o ps k < k + ps.length /\ ps[qk o ps k - k]? = some o
 | [], k, h => by simp [ir] at h
 | q :: r, k, h => by
  simp only [qk]
  cases hq : Nat.beq q o with
  | true =>
   have := Nat.eq_of_beq_eq_true hq
   subst this
   dsimp only
   refine ⟨Nat.le_refl _, by simp, by simp⟩
  | false =>
   dsimp only
   have h2 : ir o r = true := by
    simp only [ir, hq] at h
    exact h
   obtain ⟨h3, h4, h5⟩ := Ir (ps := r) (k := k + 1) h2
   refine ⟨by omega, by simp; omega, ?_⟩
   rw [show qk o r (k + 1) - k = (qk o r (k + 1) - (k + 1)) + 1 by omega]
   simpa using h5
end Go.Tp

namespace Go.Tp
open Go.Deep
/-! ### Pieces of code -/
section
variable {X : iH} {E : bw} {G : bF} {H : Hints} {n : Nat} {live : Nat -> Nat} {fuel : Nat}
end
/-! ### The last step -/
/-- No cell may be written: what a call that comes from outside finds. -/
def uC : Own := fun _ _ => False
/-- A package-level variable that holds a slice of strings. -/
theorem pa {P : Program} {W : World} {name : String} {g : Nat} {t e : TypeId} {l : List (List UInt8)} (hg : P.globalNamed name = some g) (hty : (P.globals[g]?).map (·.type) = some t) (ht : P.underlying t = some (.slice e)) (he : P.underlying e = some .string) (hc : P.cellsOf e = 1)
  (hlen : l.length <= jv) (h : ∃ g t cs fuel p, P.globalNamed name = some g /\ (P.globals[g]?).map (·.type) = some t /\ W.var? P name = some cs /\ DataW.trod (fun _ => ()) P W 0 (fun _ => true) false fuel t cs.toList = some (.slice (l.map fun b => .lit (.string b)) [], p)) :
  dE W uC g 0 [.slice (l.map fun b => .flat (.string ⟨⟨b⟩⟩))] := by
 obtain ⟨g', t', cs, fuel, p, hg', ht', hvar, hd⟩ := h
 obtain rfl := Option.some.inj (hg.symm.trans hg')
 obtain rfl := Option.some.inj (hty.symm.trans ht')
 have hcell := World.var?_cell hg hvar 0
 refine ⟨?_, trivial⟩
 rcases open_slice1 ht hc hd with ⟨_, h0⟩ | ⟨a, len, cap, m, k, V, D, Pl, hcs, _, hl, hm, hmm, hx, hi⟩
 ·simp at h0
 have h0 : cs[0]? = some (.slice (some a) len cap) := by
  have : cs.toList[0]? = some (.slice (some a) len cap) := by rw [hcs]; rfl
  simpa using this
 refine ⟨_, hcell.trans h0, fun h => h, ?_⟩
 simp only [Prod.mk.injEq, DataW.slice.injEq] at hx
 obtain ⟨⟨hx1, _⟩, _⟩ := hx
 have hll : l.length = len := by have := congrArg List.length hx1; simpa using this
 have hlm : len <= m := by rw [hmm]; split <;> omega
 have hel : ∀ (i : Nat) b, l[i]? = some b -> V i = .string ⟨⟨b⟩⟩ /\ b.length <= maxLen := by
  intro i b hb
  have hil : i < len := by rw [← hll]; exact (List.getElem?_eq_some_iff.1 hb).1
  obtain ⟨_, h2⟩ := hi i (by omega)
  obtain ⟨s, e1, e2, e3⟩ := DataW.trod_string he h2
  have h3 : ((List.range len).map D)[i]? = (l.map fun b => (DataW.lit (.string b) : DataW Unit))[i]? := by rw [hx1]
  rw [List.getElem?_map, List.getElem?_map, hb, List.getElem?_range hil] at h3
  simp only [Option.map_some, Option.some.injEq] at h3
  simp only [List.cons.injEq, and_true] at e1
  simp only [Prod.mk.injEq] at e2
  rw [h3] at e2
  simp at e2
  obtain ⟨⟨sl⟩⟩ := s
  simp at e2
  rw [e1, e2.1]
  exact ⟨rfl, e3⟩
 cases hz : len with
 | zero =>
  have : l = [] := List.length_eq_zero_iff.1 (by omega)
  subst this
  exact .nil _ _
 | succ k0 =>
  have hsp : a.spot = none := by
   have := (hi 0 (by omega)).1
   have := World.cell?_spot this
   simpa [Addr.add] using this
  obtain ⟨b, off, spot⟩ := a
  simp only at hsp
  subst hsp
  have e : k0 + 1 = (l.map fun b => (an.flat (.string ⟨⟨b⟩⟩) : an)).length := by simp; omega
  rw [e]
  refine .slice b off cap 1 _ (fun i _ => V i) (by omega) ?_ (by simp; omega) (by simpa using hlen) ?_ ?_
  ·intro d hd
   obtain ⟨x, _, rfl⟩ := List.mem_map.1 hd
   rfl
  ·intro i j hil hj
   obtain rfl : j = 0 := by omega
   simp at hil
   refine ⟨?_, fun h => h⟩
   have := (hi i (by omega)).1
   simp only [Addr.add] at this
   simp only [Nat.mul_one, Nat.add_zero]
   split at this
   ·rename_i h0; subst h0; exact this
   exact this
  intro i j d c hd hc
  rw [List.getElem?_map] at hd
  cases hb : l[i]? with
  | none => rw [hb] at hd; simp at hd
  | some x =>
   rw [hb] at hd
   simp at hd
   subst hd
   obtain ⟨e1, e2⟩ := hel i x hb
   have : c = .flat (.string ⟨⟨x⟩⟩) := by
    cases j with
    | zero => simp [an.cells] at hc; exact hc.symm
    | succ j => simp [an.cells] at hc
   subst this
   rw [e1]
   refine .flat ?_
   simp only [bV, decide_eq_true_eq]
   have : (ByteArray.mk ⟨x⟩).size = x.length := rfl
   rw [this]
   unfold maxLen at e2
   omega
theorem vv {W W' : World} {R' : Own} (h : Step W uC W' R') : W.keptBut W' (fun _ => False) := by
 refine ⟨h.os, h.output, fun i hi => ?_⟩
 rw [(h.block i hi (fun _ h => h)).1]
 split
 ·rename_i e1 e2
  rw [e1] at e2
  simp at e2
  obtain ⟨rfl, rfl, rfl⟩ := e2
  exact ⟨rfl, rfl, rfl, fun _ _ => rfl⟩
 ·rename_i e1 e2
  rw [e1] at e2
  simp at e2
  obtain ⟨rfl, rfl⟩ := e2
  exact .inr ⟨rfl, rfl⟩
 rfl
end Go.Tp

namespace Go.Tp
section
variable {X : iH} {E : bw} {G : bF} {H : Hints} {n : Nat}
/-- An element of a row. -/
theorem vU {t : TypeId} {ti : TI} {m : Name} {s off len k : Nat} (he : elemOf E t = some ti) (hs : s = ti.size) (hk : k < len) :
  aL E t [.win m s off len, .dat (.flat (.int .i64 (Int.ofNat k)))] = some ⟨.ptr m (off + k * s), .keep⟩ := by
 have h1 : Nat.blt k len = true := by rw [Nat.blt_eq]; exact hk
 have h2 : Nat.beq s ti.size = true := by rw [Nat.beq_eq]; exact hs
 simp only [aL, he, h1, h2]
 simp
/-! ### Rounds of a loop -/
/-- What the quick run reads of a slice. -/
theorem Od {es : List an} {i : Nat} {d : an} (h : es[i]? = some d) : az.aU.elt es (Int.ofNat i) = some d := by
 show BO es i = some d
 rw [rz]; exact h
end
end Go.Tp

namespace Go.Tp
variable {E : bw}
/-- Appending to a row of one's own. -/
theorem sf {t : TypeId} {i : TI} {es ds : List an} {ob : Option aN} {take : Bool} {k : Nat} (he : elemOf E t = some i) (hp : E.pr = az.aU) (hs : i.size = k + 1) (hd : sizedB (k + 1) ds = true) (hes : sizedB (k + 1) es = true)
  (hb : Nat.blt 0 i.bytes = true) (hl : (es.length + ds.length) * i.bytes <= 140737488355328) (hl2 : es.length + ds.length <= jv) (hby : iE E t (es ++ ds) = true) (htake : (take && es.isEmpty && xU (.dat (.slice ds))) = false) :
  cZ E take t [.own es, .dat (.slice ds)] ob = some ⟨.own (es ++ ds), .keep⟩ := by
 simp only [cZ, he]
 rw [if_neg (by rw [htake]; simp)]
 simp only [hD, hp, hs, az.aU, hd, hes, hb, gY hl, gY hl2]
 rw [if_pos hby]
/-- An element, by its number. -/
theorem sd {t : TypeId} {ti : TI} {es : List an} {i : Nat} {d : an} (he : elemOf E t = some ti) (hp : E.pr = az.aU) (h : es[i]? = some d) (hs : d.cells.length = ti.size) (h0 : 0 < ti.size) :
  aL E t [.dat (.slice es), .dat (.flat (.int .i64 (Int.ofNat i)))] = some ⟨.ref d.cells, .keep⟩ := by
 have hel : E.pr.elt es (Int.ofNat i) = some d := by rw [hp]; exact Od h
 simp only [aL, he, hel]
 rw [if_pos ⟨hs, h0⟩]
theorem Q5 {α : Type} {l : List α} {i : Nat} {a : α} (h : l[i]? = some a) : BO l i = some a := by rw [rz]; exact h
theorem jG {k : Nat} {l : List an} (h : ∀ d ∈ l, d.cells.length = k) : sizedB k l = true := fm.2 h
theorem jd {i L : Nat} : bn (Int.ofNat i) (Int.ofNat L) = decide (i < L) := by rw [gl]; simp
theorem bq {i L : Nat} (h : i < L) : bn (Int.ofNat i) (Int.ofNat L) = true := by rw [jd, decide_eq_true h]
theorem bu {i L : Nat} (h : ¬ i < L) : bn (Int.ofNat i) (Int.ofNat L) = false := by rw [jd, decide_eq_false h]
theorem aZ {i : Nat} (h : i < 9223372036854775807) : aE .i64 (Int.ofNat i + 1) = Int.ofNat (i + 1) := by
 rw [dx]
 exact wrap_i64 (by simp; omega) (by simp; omega)
theorem tz {i L : Nat} : aX (Int.ofNat i) (Int.ofNat L) = decide (i = L) := by
 rw [fS]
 by_cases h : i = L
 ·subst h; simp
 rw [decide_eq_false h]
 simp only [beq_eq_false_iff_ne]
 exact fun e => h (Int.ofNat.inj e)
end Go.Tp

namespace Go.Tp
/-- The rounds of the loops in a piece of code, in the order of the text. -/
noncomputable def Qt (c : Code) : List Code :=
 Code.rec (motive := fun _ => List Code)
  (skip := []) (region := fun _ _ _ => []) (seq := fun _ _ ix iy => ix ++ iy) (cond := fun _ _ _ ix iy => ix ++ iy) (block := fun _ _ ic => ic) (loop := fun c ic => c :: ic)
  (rangeFunc := fun _ _ _ _ _ _ => []) (exit := fun _ => []) (scope := fun _ ic => ic) (label := fun _ => []) (goto := fun _ => []) (ret := []) (refuse := fun _ => []) c
noncomputable def roundOf (fn : Func) (k : Nat) : Code := match (Qt (match fn.body with | some c => c | none => .skip))[k]? with | some c => c | none => .skip
/-- A set of numbers. -/
def Pp (l : List Nat) (t : Nat) : Bool := ir t l
/-! ### Pointers that a callee does not look at -/
mutual
def Ks : ac -> ac
 | .ptr _ _ => .undef
 | .map _ => .undef
 | .win _ _ _ _ => .undef
 | .fn f a b => .fn f (Jw a) (Jw b)
 | .agg cs => .agg (Jw cs)
 | .tup cs => .tup (Jw cs)
 | a => a
def Jw : List ac -> List ac
 | [] => []
 | a :: r => Ks a :: Jw r
end
section
variable {w : World} {R : Own} {M M2 : Name -> Option Nat}
mutual
theorem ak.np : ∀ {a : ac} {v : Value} {bs : List Nat}, ak w R M a v bs -> ak w R M2 (Ks a) v bs
 | .dat _, _, _, h => by simp only [Ks, ak] at h ⊢; exact h
 | .own _, _, _, h => by simp only [Ks, ak] at h ⊢; exact h
 | .ref _, _, _, h => by simp only [Ks, ak] at h ⊢; exact h
 | .undef, _, _, h => by simp only [Ks, ak] at h ⊢; exact h
 | .ptr _ _, _, _, h => by simp only [Ks, ak] at h ⊢; exact h.1
 | .map _, _, _, h => by simp only [Ks, ak] at h ⊢; exact h.1
 | .win _ _ _ _, _, _, h => by simp only [Ks, ak] at h ⊢; exact h.1
 | .fn f a b, _, _, h => by
  simp only [Ks, ak] at h ⊢
  obtain ⟨h1, vs, us, e, h2, h3⟩ := h
  exact ⟨h1, vs, us, e, ag.np h2, ag.np h3⟩
 | .agg cs, _, _, h => by
  simp only [Ks, ak] at h ⊢
  obtain ⟨vs, e, h⟩ := h
  exact ⟨vs, e, ag.np h⟩
 | .tup cs, _, _, h => by
  simp only [Ks, ak] at h ⊢
  obtain ⟨vs, e, h⟩ := h
  exact ⟨vs, e, ag.np h⟩
theorem ag.np : ∀ {as : List ac} {vs : List Value} {bs : List Nat}, ag w R M as vs bs -> ag w R M2 (Jw as) vs bs
 | [], _, _, h => by simp only [Jw, ag] at h ⊢; exact h
 | a :: r, _, _, h => by
  simp only [Jw, ag] at h ⊢
  obtain ⟨v, vs', b1, b2, e1, e2, h1, h2⟩ := h
  exact ⟨v, vs', b1, b2, e1, e2, ak.np h1, ag.np h2⟩
end
end
section
variable {P : Program} {G : bF} {α : Type} {T : α -> Prop}
theorem Dz {g : FuncId} {args : List ac} {Q : ac -> Prop} (hQ : ∀ v, Q v -> Jx v = true) (h : aB P G g (Jw args) [] 0 (fun v h m => Q v /\ h = [] /\ m = 0)) (heap : Heap) (next : Nat) : aB P G g args heap next (fun v h m => Q v /\ h = heap /\ m = next) := by
 intro w R N cargs bsA bsH bsF hargs hheap hnd hnx hglob hF
 have h2 := h w R (fun _ => none) cargs bsA [] (bsH ++ bsF) hargs.np (by simp [al]) (by simpa using hnd) (by intro o b ho; simp at ho) hglob (by
  intro b hb
  rcases List.mem_append.1 hb with hb | hb
  ·exact hheap.lt b hb
  exact hF b hb)
 refine h2.mono ?_
 rintro e w' ⟨v, cv, heap', next', R', N', bsV, bsH', rfl, ⟨hq, rfl, rfl⟩, hv, hh, hnd', _, hk, _⟩
 have hH' : bsH' = [] := by simpa [al] using hh
 subst hH'
 exact ⟨_, cv, heap, next, R', N, bsV, bsH, rfl, ⟨hq, rfl, rfl⟩, hv.nm (hQ _ hq), hheap.keep (hk.sub (by intro b hb; simp [hb])), by simpa using hnd', hnx, hk.sub (by intro b hb; simp [hb]), fun _ _ h => h⟩
/-- A call that looks at no object, whatever it is handed. -/
theorem Wt {q : Qy α} {g : FuncId} {args0 : List ac} {v : ac} (hc : aB P G g args0 [] 0 (XQ ⟨v, [], 0⟩)) (e : q.N7 = some g) (ha : Jw q.ve = args0) (hm : Jx v = true)
  (h : lK v -> (q.Wv ⟨v, q.uG, q.uD⟩).Ok P G T) : q.Ok P G T := by
 cases q with
 | res g' args' heap next' k =>
  simp only [Qy.N7, Option.some.injEq] at e
  subst e
  simp only [Qy.uG, Qy.ve, Qy.uD] at ha h
  refine ⟨?_⟩
  show aB P G g' _ heap next' _
  subst ha
  have h1 : aB P G g' (Jw args') [] 0 (fun u h m => u = v /\ h = [] /\ m = 0) := hc.mono (by rintro u h m ⟨rfl, rfl, rfl⟩; exact ⟨rfl, rfl, rfl⟩)
  refine (Dz (Q := fun u => u = v) (by rintro u rfl; exact hm) h1 heap next').mono ?_
  rintro v' h' m ⟨rfl, rfl, rfl⟩ b1 b2
  exact (h b1).ok
 | _ => simp [Qy.N7] at e
/-- .. whose value is only known by a property. -/
theorem FP {q : Qy α} {g : FuncId} {args0 : List ac} {Q : ac -> Prop} (hc : aB P G g args0 [] 0 (fun v h m => Q v /\ h = [] /\ m = 0)) (e : q.N7 = some g) (ha : Jw q.ve = args0) (hQ : ∀ v, Q v -> Jx v = true)
  (h : ∀ v, Q v -> lK v -> (q.Wv ⟨v, q.uG, q.uD⟩).Ok P G T) : q.Ok P G T := by
 cases q with
 | res g' args' heap next' k =>
  simp only [Qy.N7, Option.some.injEq] at e
  subst e
  simp only [Qy.uG, Qy.ve, Qy.uD] at ha h
  refine ⟨?_⟩
  show aB P G g' _ heap next' _
  subst ha
  refine (Dz hQ hc heap next').mono ?_
  rintro v' h' m ⟨hq, rfl, rfl⟩ b1 b2
  exact (h v' hq b1).ok
 | _ => simp [Qy.N7] at e
/-- A call as it stands. -/
theorem Qm {q : Qy α} {g : FuncId} {args : List ac} {heap : Heap} {next : Nat} {r : eQ} (hc : aB P G g args heap next (XQ r)) (e : q.N7 = some g) (ha : q.ve = args) (hh : q.uG = heap) (hn : q.uD = next)
  (h : (q.Wv r).Ok P G T) : q.Ok P G T := by
 cases q with
 | res g' args' heap' next' k =>
  simp only [Qy.N7, Option.some.injEq] at e
  simp only [Qy.uG, Qy.ve, Qy.uD] at ha hh hn
  subst e
  subst ha
  subst hh
  subst hn
  refine ⟨?_⟩
  show aB P G g' _ heap' next' _
  refine hc.mono ?_
  rintro v h' m ⟨rfl, rfl, rfl⟩ b1 b2
  exact h.ok
 | _ => simp [Qy.N7] at e
theorem AN {g : FuncId} {args : List ac} {heap : Heap} {next : Nat} {r : eQ} (h : aB P G g args heap next (fun v h m => (⟨v, h, m⟩ : eQ) = r)) : aB P G g args heap next (XQ r) := by
 refine h.mono ?_
 rintro v h m e
 subst e
 exact ⟨rfl, rfl, rfl⟩
/-- Code that is run to its end. -/
theorem OK {E : bw} {H : Hints} {n : Nat} {X : iH} (hE : E.Ok P) (hX : ES P G X) {live : Nat -> Nat} (fuel : Nat) {c : Code} (hc : cD H c = true) {f f' : ab} {e : Exit} (h : gR X E G H n live fuel c f = some (e, f')) :
  dc P G c (fun e2 s => e2 = e /\ s = f'.au n) (f.au n) := dT X E G H n hE hX live fuel c f f' e hc h _ ⟨rfl, rfl⟩
def Qy.Rh : Qy (Exit × ab) -> Option Exit
 | .fin r => some r.1
 | _ => none
def Qy.UY : Qy (Exit × ab) -> ab
 | .fin r => r.2
 | _ => ⟨[], [], [], 0⟩
/-- The end of a piece of code, its state said slot by slot. -/
theorem bL {q : Qy (Exit × ab)} {T : Exit -> aa -> Prop} {n : Nat} {ex : Exit} (f : ab) (e : q.Rh = some ex) (hs : q.UY.au n = f.au n) (h : T ex (f.au n)) : q.Ok P G (fun r => T r.1 (r.2.au n)) := by
 cases q with
 | fin r =>
  simp only [Qy.Rh, Option.some.injEq] at e
  simp only [Qy.UY] at hs
  refine ⟨?_⟩
  show T r.1 (r.2.au n)
  rw [e, hs]; exact h
 | _ => simp [Qy.Rh] at e
/-- A loop that counts. -/
theorem bi {c : Code} {T : Exit -> aa -> Prop} (St : Nat -> aa) (L : Nat) (round : ∀ i, i < L -> dc P G c (pQ (fun s => s = St (i + 1)) T) (St i))
  (last : dc P G c (pQ (fun _ => False) T) (St L)) {i : Nat} (hi : i <= L) : dc P G (.loop c) T (St i) := by
 refine Sx (I := fun m s => ∃ j, j <= L /\ m = L - j /\ s = St j) ?_ (m := L - i) ⟨i, hi, rfl, rfl⟩
 rintro m s ⟨j, hj, rfl, rfl⟩
 by_cases h : j < L
 ·refine (round j h).mono ?_
  intro e s hs
  cases e with
  | normal =>
   have hs : s = St (j + 1) := hs
   exact ⟨L - (j + 1), by omega, j + 1, by omega, rfl, hs⟩
  | _ => exact hs
 have : j = L := by omega
 subst this
 refine last.mono ?_
 intro e s hs
 cases e with
 | normal => exact hs.elim
 | _ => exact hs
/-- .. with what holds beside. -/
theorem bW {c : Code} {T : Exit -> aa -> Prop} (St : Nat -> aa) (Inv : Nat -> Prop) (L : Nat) (round : ∀ i, i < L -> Inv i -> dc P G c (pQ (fun s => s = St (i + 1) /\ Inv (i + 1)) T) (St i))
  (last : Inv L -> dc P G c (pQ (fun _ => False) T) (St L)) {i : Nat} (hi : i <= L) (h0 : Inv i) : dc P G (.loop c) T (St i) := by
 refine Sx (I := fun m s => ∃ j, j <= L /\ m = L - j /\ s = St j /\ Inv j) ?_ (m := L - i) ⟨i, hi, rfl, rfl, h0⟩
 rintro m s ⟨j, hj, rfl, rfl, hI⟩
 by_cases h : j < L
 ·refine (round j h hI).mono ?_
  intro e s hs
  cases e with
  | normal =>
   have hs : s = St (j + 1) /\ Inv (j + 1) := hs
   exact ⟨L - (j + 1), by omega, j + 1, by omega, rfl, hs⟩
  | _ => exact hs
 have : j = L := by omega
 subst this
 refine (last hI).mono ?_
 intro e s hs
 cases e with
 | normal => exact hs.elim
 | _ => exact hs
end
end Go.Tp

namespace Go.Tp
section
variable {P : Program} {G : bF} {α : Type} {T : α -> Prop}
theorem oh {q : Qy α} {g : FuncId} {args : List ac} {heap : Heap} {next : Nat} {r : eQ} (hc : aB P G g args heap next (XQ r)) (h : (q.Wv r).Ok P G T) (e : q.N7 = some g := by kernel_rfl) (ha : q.ve = args := by kernel_rfl) (hh : q.uG = heap := by kernel_rfl) (hn : q.uD = next := by kernel_rfl) : q.Ok P G T :=
 Qm hc e ha hh hn h
theorem on {q : Qy α} {g : FuncId} {args0 : List ac} {v : ac} (hc : aB P G g args0 [] 0 (XQ ⟨v, [], 0⟩)) (h : (q.Wv ⟨v, q.uG, q.uD⟩).Ok P G T) (e : q.N7 = some g := by kernel_rfl) (ha : Jw q.ve = args0 := by kernel_rfl) (hm : Jx v = true := by exact rfl) : q.Ok P G T :=
 Wt hc e ha hm (fun _ => h)
theorem ob {q : Qy α} {c b : Bool} (hc : c = b) (h : (q.Vz b).Ok P G T) (e : q.yG = some c := by kernel_rfl) : q.Ok P G T := bb hc e h
theorem ox {q : Qy α} {c b : Bool} (hc : c = b) (h : (q.Vz (!b)).Ok P G T) (e : q.yG = some (!c) := by kernel_rfl) : q.Ok P G T := bb (by rw [hc]) e h
theorem oo {q : Qy α} {o : Option Out} {x : Out} (ho : o = some x) (h : (q.YL x).Ok P G T) (e : q.Qh = some o := by kernel_rfl) : q.Ok P G T := Tw ho e h
theorem fi {q : Qy α} {a : α} (e : q.Gz = some a := by kernel_rfl) : q.Ok P G (fun y => y = a) := bp e rfl
theorem oe {q : Qy (Exit × ab)} {T : Exit -> aa -> Prop} {n : Nat} {ex : Exit} {f : ab} (h : T ex (f.au n)) (e : q.Rh = some ex := by kernel_rfl) (hs : q.UY.au n = f.au n := by kernel_rfl) : q.Ok P G (fun r => T r.1 (r.2.au n)) := bL f e hs h
theorem lo {q : Qy α} {n : Nat} {c : Code} {f : ab} {L : Exit -> aa -> Prop} (hl : dc P G (.loop c) L (f.au n)) (h : ∀ e s, L e s -> ∃ f', s = f'.au n /\ (q.Ww (e, f')).Ok P G T) (e : q.Ag = some (n, c) := by kernel_rfl) (hs : q.DJ.au n = f.au n := by kernel_rfl) : q.Ok P G T := gM e hs hl h
end
end Go.Tp

namespace Go.Tp
noncomputable def L3 (A B : Nat -> Bool) (E : bw) (G : bF) (moves caps : FuncId -> Bool) (x : mW) (g : FuncId) (args : List ac) (heap : Heap) (next : Nat) : Qy eQ :=
 match Nat.ble args.length x.ntmps with
 | false => .fail
 | true => qT A B E G ⟨moves, x.ord, caps, rowsOf caps g⟩ x.ntmps x.live x.code ⟨wF 0 args, [], heap, next⟩ (fun r => match r with
  |(.ret, f) => (match vy E x.ntmps x.results f with | some r => .fin r | none => .fail)
  |(.normal, f) => (match vy E x.ntmps x.results f with | some r => .fin r | none => .fail)
  | _ => .fail)
section
variable {P : Program} {E : bw} {G : bF}
/-- A function's contract, as its run ends. -/
theorem L2 {A B : Nat -> Bool} {moves caps : FuncId -> Bool} {F : FuncId -> Option mW} (hE : E.Ok P) (hF : Yf P moves caps F) {g : FuncId} {x : mW} (hx : F g = some x) {args : List ac} {heap : Heap} {next : Nat} {T : eQ -> Prop}
  (h : pw args -> vA heap -> (L3 A B E G moves caps x g args heap next).Ok P G T) : aB P G g args heap next (fun v h m => T ⟨v, h, m⟩) := by
 obtain ⟨fn, h1, h2, h3, h4, h5⟩ := hF g x hx
 refine jj hE h1 h2 ?_
 intro b1 b2
 have h := (h b1 b2).ok
 rw [h3, h4]
 unfold L3 at h
 split at h
 ·exact h.elim
 rename_i hlen
 have hlen := fT hlen
 have hent : (⟨wF 0 args, [], heap, next⟩ : ab).au x.ntmps = enter x.ntmps args heap next := by
  simp only [ab.au, enter]
  congr 1
  apply List.ext_getElem?
  intro i
  rw [kA, Nat.zero_add, qH, if_pos (Nat.zero_le _), Nat.sub_zero, List.getElem?_append]
  split
  ·split
   ·rename_i hi; unfold br; rw [List.getElem?_eq_getElem hi]
   rename_i hi1 hi
   rw [List.getElem?_replicate, if_pos (by omega)]
   unfold br
   rw [List.getElem?_eq_none (by omega)]
  rename_i hi
  rw [if_neg (by omega), List.getElem?_replicate, if_neg (by omega)]
 rw [← hent]
 refine (gJ (H := ⟨moves, x.ord, caps, rowsOf caps g⟩) hE x.live x.code _ _ (by rw [dD]; exact h5) h).mono ?_
 rintro e s ⟨f', rfl, h'⟩
 have key : (match vy E x.ntmps x.results f' with | some r => (Qy.fin r : Qy eQ) | none => .fail).qy P G T -> vB E x.results (fun v h m => T ⟨v, h, m⟩) (f'.au x.ntmps) := by
  intro hh
  split at hh
  ·rename_i r hr
   have := pM (E := E) (rs := x.results) (s := f'.au x.ntmps) (r := r) (by rw [BS]; exact hr)
   exact AJ (by rintro v h m ⟨rfl, rfl, rfl⟩; exact hh) this
  exact hh.elim
 cases e with
 | ret => exact key h'
 | normal => exact key h'
 | _ => exact h'.elim
/-- Names in the list become k0, k0 + 1, ..; the others stay. -/
def mU (k0 : Nat) (ps : List Nat) (o : Nat) : Nat := match ir o ps with | true => qk o ps k0 | false => o
def eB (k0 : Nat) (ps : List Nat) (o : Nat) : Bool := Nat.blt o k0 || ir o ps
theorem aB.rn {g : FuncId} {args : List ac} {heap : Heap} {next : Nat} {Q Q' : ac -> Heap -> Nat -> Prop} (h : aB P G g args heap next Q)
  (hq : ∀ v hp m, Q v hp m -> ∃ ps, Dy (eB next ps) v = true /\ Ju (eB next ps) (cd (eB next ps) hp) = true /\ Q' (eZ (mU next ps) v) (ni (mU next ps) (cd (eB next ps) hp)) (next + ps.length)) : aB P G g args heap next Q' := by
 intro w R N cargs bsA bsH bsF ha hh hnd hnx hg hF
 refine (h w R N cargs bsA bsH bsF ha hh hnd hnx hg hF).mono ?_
 rintro e w' ⟨v, cv, hp, m, R', N', bsV, bsH', rfl, hq1, hv, hh', hnd', hnx', hk, hN⟩
 obtain ⟨ps, p1, p2, p3⟩ := hq _ _ _ hq1
 let N2 : Name -> Option Nat := fun m => match m with | .loc i => N' (.loc i) | .out x => if x < next then N' (.out x) else (match ps[x - next]? with | some o => N' (.out o) | none => none)
 have hM : ∀ o b, eB next ps o = true -> outs N' (.out o) = some b -> outs N2 (.out (mU next ps o)) = some b := by
  intro o b ho hb
  simp only [outs] at hb ⊢
  unfold mU
  cases hm : ir o ps with
  | true =>
   obtain ⟨q1, q2, q3⟩ := Ir (k := next) hm
   dsimp only [N2]
   rw [if_neg (by omega), q3]
   exact hb
  | false =>
   unfold eB at ho
   rw [hm, Bool.or_false] at ho
   dsimp only [N2]
   rw [if_pos (ov ho)]
   exact hb
 have hL : ∀ i b, outs N' (.loc i) = some b -> outs N2 (.loc i) = some b := fun i b h => h
 obtain ⟨bs', k1, k2⟩ := kR (eB next ps) hh'
 refine ⟨_, cv, _, _, R', N2, bsV, bs', rfl, p3, hv.ET hL hM p1, k1.ET hL hM p2, ?_, ?_, hk, ?_⟩
 ·exact List.Nodup.sublist (List.Sublist.append (.refl _) (List.Sublist.append k2 (.refl _))) hnd'
 ·intro x b hx
  dsimp only [N2] at hx
  split at hx
  ·omega
  split at hx
  ·rename_i o ho
   have := (List.getElem?_eq_some_iff.1 ho).1
   omega
  simp at hx
 intro o b hb
 dsimp only [N2]
 rw [if_pos (hnx o b hb)]
 exact hN o b hb
end
end Go.Tp

namespace Go.Tp
/-- The second says no more than the first. -/
inductive VB : ac -> ac -> Prop
 |refl (a : ac) : VB a a
 |own (es : List an) : VB (.own es) (.dat (.slice es))
 |nil : VB (.dat (.flat (.slice none 0 0))) (.dat (.slice []))
inductive Kw : List ac -> List ac -> Prop
 |nil : Kw [] []
 |cons {a b : ac} {as bs : List ac} (h : VB a b) (t : Kw as bs) : Kw (a :: as) (b :: bs)
theorem Kw.refl : ∀ l : List ac, Kw l l
 | [] => .nil
 | a :: r => .cons (.refl a) (Kw.refl r)
inductive Yk : aN -> aN -> Prop
 |refl (o : aN) : Yk o o
 |cells {as bs : List ac} (h : Kw as bs) (hb : cK bs = false) : Yk (.cells as) (.cells bs)
inductive Yd : Heap -> Heap -> Prop
 |nil : Yd [] []
 |cons {n : Name} {o p : aN} {h k : Heap} (ho : Yk o p) (t : Yd h k) : Yd ((n, o) :: h) ((n, p) :: k)
section
variable {w : World} {R : Own} {M : Name -> Option Nat}
theorem ak.wk {a b : ac} (h : VB a b) {v : Value} {bs : List Nat} (hr : ak w R M a v bs) : ∃ bs', ak w R M b v bs' /\ bs'.Sublist bs := by
 cases h with
 | refl => exact ⟨bs, hr, List.Sublist.refl _⟩
 | own es => exact ⟨[], bS (bX hr).rep, List.nil_sublist _⟩
 | nil =>
  simp only [ak] at hr
  obtain ⟨rfl, hd⟩ := hr
  refine ⟨[], ?_, List.Sublist.refl _⟩
  refine bS ?_
  cases hd with
  | flat h => exact .nil none 0
theorem ag.wk {as cs : List ac} (h : Kw as cs) : ∀ {vs : List Value} {bs : List Nat}, ag w R M as vs bs -> ∃ bs', ag w R M cs vs bs' /\ bs'.Sublist bs := by
 induction h with
 | nil => intro vs bs hr; exact ⟨bs, hr, List.Sublist.refl _⟩
 | cons h _ ih =>
  intro vs bs hr
  simp only [ag] at hr
  obtain ⟨v, vs', b1, b2, rfl, rfl, h1, h2⟩ := hr
  obtain ⟨c1, k1, s1⟩ := h1.wk h
  obtain ⟨c2, k2, s2⟩ := ih h2
  refine ⟨c1 ++ c2, ?_, s1.append s2⟩
  simp only [ag]
  exact ⟨v, vs', c1, c2, rfl, rfl, k1, k2⟩
theorem Kw.append {as bs : List ac} (h : Kw as bs) (c : List ac) : Kw (as ++ c) (bs ++ c) := by
 induction h with
 | nil => exact Kw.refl c
 | cons h _ ih => exact .cons h ih
theorem aQ.wk {o p : aN} (h : Yk o p) {b : Nat} {bs : List Nat} (hr : aQ w R M o b bs) : ∃ bs', aQ w R M p b bs' /\ bs'.Sublist bs := by
 cases h with
 | refl => exact ⟨bs, hr, List.Sublist.refl _⟩
 | cells hl hb =>
  simp only [aQ] at hr
  obtain ⟨vs, elem, sp, h1, h2, h3, h4⟩ := hr
  obtain ⟨bs', k, s⟩ := h2.wk (hl.append _)
  refine ⟨bs', ?_, s⟩
  simp only [aQ]
  exact ⟨vs, elem, sp, h1, k, h3, fun h => by rw [hb] at h; simp at h⟩
theorem al.wk {h k : Heap} (hw : Yd h k) : ∀ {bs : List Nat}, al w R M h bs -> ∃ bs', al w R M k bs' /\ bs'.Sublist bs := by
 induction hw with
 | nil => intro bs hr; exact ⟨bs, hr, List.Sublist.refl _⟩
 | cons ho _ ih =>
  intro bs hr
  simp only [al] at hr
  obtain ⟨b, b1, b2, rfl, hn, h1, h2⟩ := hr
  obtain ⟨c1, k1, s1⟩ := h1.wk ho
  obtain ⟨c2, k2, s2⟩ := ih h2
  refine ⟨b :: (c1 ++ c2), ?_, (s1.append s2).cons_cons b⟩
  simp only [al]
  exact ⟨b, c1, c2, rfl, hn, k1, k2⟩
end
section
variable {P : Program} {G : bF}
/-- A call with less said of what it leaves. -/
theorem aB.VC {g : FuncId} {args : List ac} {heap : Heap} {next : Nat} {v v2 : ac} {h h2 : Heap} {m : Nat} (hc : aB P G g args heap next (XQ ⟨v, h, m⟩)) (hv : VB v v2) (hh : Yd h h2) : aB P G g args heap next (XQ ⟨v2, h2, m⟩) := by
 intro w R N cargs bsA bsH bsF ha hp hnd hnx hg hF
 refine (hc w R N cargs bsA bsH bsF ha hp hnd hnx hg hF).mono ?_
 rintro e w' ⟨v', cv, h1, next', R', N', bsV, bsH', rfl, ⟨rfl, rfl, rfl⟩, hv1, hh', hnd', hnx', hk, hN⟩
 obtain ⟨b1, k1, s1⟩ := hv1.wk hv
 obtain ⟨b2, k2, s2⟩ := hh'.wk hh
 exact ⟨_, cv, _, _, R', N', b1, b2, rfl, ⟨rfl, rfl, rfl⟩, k1, k2, (s1.append (s2.append_right _)).nodup hnd', hnx', hk, hN⟩
end
end Go.Tp

namespace Go.Tp
open Go.ChangeShapes Go.WideShapes
/-- The integers of a slice, as data. -/
def JH (x : Int) : an := .flat (.int .i64 x)
/-- An argument that is a slice of integers. -/
theorem EN {H : Type} {enc : TypeId × Value -> H} {P : Program} {W : World} {base : Nat} {sp : Nat -> Bool} {held : Bool} {t e : TypeId} {v : Value} {d : DataW H} {ps : List MemPlace} (N : Name -> Option Nat)
  (ht : P.underlying t = some (.slice e)) (he : P.underlying e = some (.int .i64)) (hc : P.cellsOf e = 1) (hv : v.cells = #[v]) (h : DataW.Trod enc P W base sp held t v d ps) :
  ∃ l : List Int, ((d = .nil /\ l = []) ∨ (∃ els rest, d = .slice els rest /\ els.length = l.length)) /\ (l.length <= jv -> ak W uC N (.dat (.slice (l.map JH))) v []) := by
 obtain ⟨fuel, hf⟩ := h
 rcases open_ints ht he hc hf with ⟨hcs, hx⟩ | ⟨a, len, cap, zs, hcs, _, hl, hm, hz, hx, hi, hw⟩
 ·rw [hv] at hcs
  simp only [List.cons.injEq, and_true] at hcs
  have hvn : v = .slice none 0 0 := by simpa using hcs
  subst hvn
  refine ⟨[], .inl ⟨?_, rfl⟩, fun _ => bS (d := .slice []) (.nil none 0)⟩
  simp only [Prod.mk.injEq] at hx
  exact hx.1
 rw [hv] at hcs
 have hvn : v = .slice (some a) len cap := by simpa using hcs
 subst hvn
 simp only [Prod.mk.injEq] at hx
 have hlz : len <= zs.length := by rw [hz]; split <;> omega
 refine ⟨zs.take len, .inr ⟨_, _, hx.1, by simp [lits]⟩, fun hb => ?_⟩
 have htl : (zs.take len).length = len := by rw [List.length_take]; omega
 rw [htl] at hb
 refine bS (d := .slice _) ?_
 cases hk : len with
 | zero =>
  rw [hk] at hl
  simp only [List.take_zero, List.map_nil]
  exact .nil (some a) cap
 | succ k0 =>
  have hspot : a.spot = none := by
   have := hi 0 (by omega)
   have := World.cell?_spot this
   simpa [Addr.add] using this
  obtain ⟨b, off, spot⟩ := a
  simp only at hspot
  subst hspot
  rw [← hk]
  have el : ((zs.take len).map JH).length = len := by rw [List.length_map, htl]
  have hgoal : ep W uC (.slice (some ⟨b, off, none⟩) ((zs.take len).map JH).length cap) (.slice ((zs.take len).map JH)) := by
   refine .slice b off cap 1 _ (fun i _ => .int .i64 (zs.getD i 0)) (by omega) ?_ (by omega) (by omega) ?_ ?_
   ·intro d hd
    obtain ⟨x, _, rfl⟩ := List.mem_map.1 hd
    rfl
   ·intro i j hil hj
    obtain rfl : j = 0 := by omega
    rw [el] at hil
    refine ⟨?_, fun h => h⟩
    have := hi i (by omega)
    simp only [Addr.add] at this
    simp only [Nat.mul_one, Nat.add_zero]
    split at this
    ·rename_i h0; subst h0; exact this
    exact this
   intro i j d c hd hcc
   rw [List.getElem?_map] at hd
   cases hb2 : (zs.take len)[i]? with
   | none => rw [hb2] at hd; simp at hd
   | some x =>
    rw [hb2] at hd
    simp at hd
    subst hd
    have : c = .flat (.int .i64 x) := by
     cases j with
     | zero => simp [JH, an.cells] at hcc; exact hcc.symm
     | succ j => simp [JH, an.cells] at hcc
    subst this
    have hx2 : zs[i]? = some x := by
     rw [List.getElem?_take] at hb2
     split at hb2
     ·exact hb2
     simp at hb2
    have : zs.getD i 0 = x := by simp [List.getD, hx2]
    rw [this]
    exact .flat (hw x (List.mem_of_getElem? hx2))
  rw [el] at hgoal
  exact hgoal
/-- A call from outside: what comes back, and that no block changes. -/
theorem tD {P : Program} {G : bF} {f : FuncId} {as : List ac} {args : List Value} {b : Bool} {r : eQ} (W : World) (ha : ag W uC (outs fun _ => none) as args []) (h : aB P G f as [] 0 (XQ r)) (hr : r.val = bv b) (hG : ∀ g cs, G g = some cs -> dE W uC g 0 cs) :
  Calls P f args.toArray W fun e W' => e = .returned (.bool b) /\ W.keptBut W' (fun _ => False) /\ ∀ i, i < W.heap.size -> W'.heap[i]? = W.heap[i]? := by
 refine (h W uC (fun _ => none) args [] [] [] ha rfl (by simp) (by intro o b h; simp at h) hG (by simp)).mono ?_
 rintro e W' ⟨v, cv, heap', next', R', N', bsV, bsH', rfl, ⟨rfl, _, _⟩, hv, _, _, _, hk, _⟩
 rw [hr] at hv
 obtain ⟨_, rfl, _⟩ := aF hv
 exact ⟨rfl, vv hk.step, fun i hi => (hk.step.block i hi (fun _ h => h)).1⟩
/-- What was read is read again, where no block has changed. -/
theorem wm {H : Type} {enc : TypeId × Value -> H} {P : Program} {W W' : World} {base : Nat} {sp : Nat -> Bool} {hd : Bool} (hB : ∀ i, i < W.heap.size -> W'.heap[i]? = W.heap[i]?) : ∀ {ts : List TypeId} {vs : List Value} {ds : List (DataW H)} {ps : List MemPlace},
  DataW.TrodAll enc P W base sp hd ts vs ds ps -> DataW.TrodAll enc P W' base sp hd ts vs ds ps
 | [], _, _, _, h => by
  obtain ⟨rfl, rfl, rfl⟩ := trodAll_nil h
  exact trodAll_mk0
 | _ :: _, _, _, _, h => by
  obtain ⟨v, vs1, d, ds1, a, b, rfl, rfl, rfl, ⟨n, hn⟩, h2⟩ := trodAll_cons h
  refine ⟨a, b, ⟨n, DataW.trod_carry n _ _ _ hn (fun p hp => ?_)⟩, wm hB h2, rfl⟩
  have hl := DataW.trod_lt n _ _ _ hn p hp
  cases p with
  | cell b o => exact World.cell?_of_block (w := W) (hB b hl)
  | map b => exact hB b hl
end Go.Tp
