/- HierarchyTree returns true and changes nothing, for arguments of bulk at most 1048576 (the card of the second form; conditions: those of the given row). Names are shortened by a program, for the claim's bound. Part 3. -/
import Derived.Scope
import Derived.Deep.Slices
import Derived.ChangeSame
import Derived.LaidLaws
import Derived.RowKit
import Derived.KernelRfl
import Derived.ChangeSlices
import Derived.ReadAgain
import Derived.ChangeMaps5
import Derived.Test.YtiihadmgkoamoaaGreatDoorQ02
set_option linter.unusedVariables false
set_option linter.unusedSimpArgs false
set_option maxRecDepth 100000
set_option maxHeartbeats 4000000
namespace Go.Tp
/-! ### Slots that are not read any more -/
noncomputable def dW (l : Sl) : Nat -> Sl :=
 @List.rec (Nat × ae) (fun _ => Nat -> Sl) (fun _ => []) (fun p _ ih m => @Bool.rec (fun _ => Sl) (p :: ih (Nat.xor m (Nat.pow 2 p.1))) (ih m) (Nat.beq (Nat.land 1 (Nat.shiftRight m p.1)) 0)) l
theorem XU (m d : Nat) : Nat.beq (Nat.land 1 (Nat.shiftRight m d)) 0 = !(m.testBit d) := by
 have e : m.testBit d = (Nat.land 1 (Nat.shiftRight m d) != 0) := rfl
 rw [e]
 generalize Nat.land 1 (Nat.shiftRight m d) = x
 by_cases h : x = 0
 ·subst h; rfl
 have h1 : Nat.beq x 0 = false := by rw [Bool.eq_false_iff]; intro hc; rw [Nat.beq_eq] at hc; exact h hc
 have h2 : (x != 0) = true := by simpa using h
 rw [h1, h2]; rfl
theorem uG (d : Nat) (v : ae) (r : Sl) (m : Nat) : dW ((d, v) :: r) m = if m.testBit d = true then (d, v) :: dW r (m ^^^ 2 ^ d) else dW r m := by
 have e : dW ((d, v) :: r) m = @Bool.rec (fun _ => Sl) ((d, v) :: dW r (m ^^^ 2 ^ d)) (dW r m) (Nat.beq (Nat.land 1 (Nat.shiftRight m d)) 0) := rfl
 rw [e, XU]
 cases m.testBit d <;> simp
theorem qp : ∀ (l : Sl) (m t : Nat), m.testBit t = false -> pB (dW l m) t = .undef
 | [], _, _, _ => rfl
 |(d, v) :: r, m, t, h => by
  rw [uG]
  split
  ·rename_i hd
   have hne : d ≠ t := fun e => by rw [e, h] at hd; simp at hd
   rw [gA, if_neg hne]
   apply qp
   rw [Nat.testBit_xor, h, Nat.testBit_two_pow_of_ne hne]; rfl
  exact qp r m t h
theorem qq : ∀ (l : Sl) (m t : Nat), pB (dW l m) t = pB l t ∨ pB (dW l m) t = .undef
 | [], _, _ => .inl rfl
 |(d, v) :: r, m, t => by
  rw [uG, gA]
  split
  ·rw [gA]
   split
   ·exact .inl rfl
   exact qq r _ t
  rename_i hd
  split
  ·rename_i he
   subst he
   exact .inr (qp r m d (by simpa using hd))
  exact qq r m t
theorem D0 {w : World} {R : Own} {N : Name -> Option Nat} : ∀ {as as' : List ae} {vs : List Value} {bs : List Nat}, as'.length = as.length -> (∀ i : Nat, as'[i]? = as[i]? ∨ as'[i]? = some .undef) -> aj w R N as vs bs -> ∃ bs', aj w R N as' vs bs' /\ bs'.Sublist bs
 | [], [], _, bs, _, _, h => ⟨bs, h, .refl _⟩
 | [], _ :: _, _, _, hl, _, _ => by simp at hl
 | _ :: _, [], _, _, hl, _, _ => by simp at hl
 | a :: as, a' :: as', vs, bs, hl, hi, h => by
  obtain ⟨v, vs', b1, b2, rfl, rfl, h1, h2⟩ := aD h
  obtain ⟨bs', k1, k2⟩ := D0 (as := as) (as' := as') (by simpa using hl) (fun i => by simpa using hi (i + 1)) h2
  rcases hi 0 with h0 | h0
  ·simp at h0
   subst h0
   exact ⟨b1 ++ bs', aG h1 k1, List.Sublist.append (.refl _) k2⟩
  simp at h0
  subst h0
  exact ⟨[] ++ bs', aG (aP _) k1, List.Sublist.append (List.nil_sublist _) k2⟩
def kb (f : ac) (m : Sl -> Sl) : ac := match f with | ⟨sl, locs, heap, next⟩ => ⟨m sl, locs, heap, next⟩
theorem cR.prune {G : bE} {w : World} {R : Own} {N : Name -> Option Nat} {tmps : List Value} {n : Nat} {f : ac} {bsT bsL bsH bsF : List Nat} (h : cR G w R N tmps (f.aw n) undef .undef [] bsT bsL bsH bsF) (m : Nat) :
  ∃ bsT', cR G w R N tmps ((kb f (fun l => dW l m)).aw n) undef .undef [] bsT' bsL bsH bsF := by
 obtain ⟨sl, locs, heap, next⟩ := f
 obtain ⟨bsT', k1, k2⟩ := D0 (as' := DY n 0 (dW sl m)) (by simp [ac.aw, mr]) (fun i => by
  simp only [ac.aw, kN]
  split
  ·rcases qq sl m (0 + i) with h | h
   ·exact .inl (by rw [h])
   exact .inr (by rw [h])
  exact .inl rfl) h.tmps
 exact ⟨bsT', aP _, k1, h.locs, h.heap, List.Nodup.sublist (List.Sublist.append (.refl _) (List.Sublist.append k2 (.refl _))) h.nodup, h.next, h.glob, h.frame⟩
/-! ### What a call leaves and nobody names -/
mutual
/-- Names a new object. -/
def dL (k : Nat) : ae -> Bool
 | .ptr (.out o) _ => Nat.ble k o
 | .ptr (.loc _) _ => true
 | .map (.out o) => Nat.ble k o
 | .map (.loc _) => true
 | .win (.out o) _ _ _ => Nat.ble k o
 | .win (.loc _) _ _ _ => true
 | .fn _ a b => dX k a || dX k b
 | .agg cs => dX k cs
 | .tup cs => dX k cs
 | _ => false
def dX (k : Nat) : List ae -> Bool
 | [] => false
 | a :: r => dL k a || dX k r
end
def jv (k : Nat) : Name -> Bool
 | .out o => Nat.blt o k
 | .loc _ => false
def eM (k : Nat) : Heap -> Heap
 | [] => []
 |(m, o) :: r => match jv k m with | true => (m, o) :: eM k r | false => eM k r
def pA (k : Nat) : aN -> Bool
 | .cells cs => dX k cs
 | .map _ => false
def cT (k : Nat) : Heap -> Bool
 | [] => false
 |(_, o) :: r => pA k o || cT k r
mutual
def HR : ae -> List Nat
 | .ptr (.out o) _ => [o]
 | .map (.out o) => [o]
 | .win (.out o) _ _ _ => [o]
 | .fn _ a b => As a ++ As b
 | .agg cs => As cs
 | .tup cs => As cs
 | _ => []
def As : List ae -> List Nat
 | [] => []
 | a :: r => HR a ++ As r
end
def ir (o : Nat) : List Nat -> Bool
 | [] => false
 | x :: r => match Nat.beq x o with | true => true | false => ir o r
def UU : List Nat -> List Nat -> List Nat
 | [], l => l
 | n :: ns, l => match ir n l with | true => UU ns l | false => UU ns (n :: l)
def oY (k : Nat) (l : List Nat) : Heap -> List Nat
 | [] => l
 |(.out o, .cells cs) :: r => (match Nat.blt o k || ir o l with | true => oY k (UU (As cs) l) r | false => oY k l r)
 | _ :: r => oY k l r
def Ct (k : Nat) (h : Heap) : Nat -> List Nat -> List Nat
 | 0, l => l
 | n + 1, l => Ct k h n (oY k l h)
def lK (k : Nat) (l : List Nat) : Heap -> Heap
 | [] => []
 |(.out o, x) :: r => (match Nat.blt o k || ir o l with | true => (.out o, x) :: lK k l r | false => lK k l r)
 | _ :: r => lK k l r
def rT (k : Nat) (r : eW) : eW :=
 match r with
 | ⟨val, heap, next⟩ => match dL k val || cT k (eM k heap) with
  | false => ⟨val, eM k heap, k⟩
  | true => ⟨val, lK k (Ct k heap 3 (HR val)) heap, next⟩
section
variable {w : World} {R : Own} {M M2 : Name -> Option Nat}
theorem nI (k : Nat) : ∀ {os : Heap} {bs : List Nat}, an w R M os bs -> ∃ bs', an w R M (eM k os) bs' /\ bs'.Sublist bs
 | [], bs, h => ⟨bs, h, .refl _⟩
 |(m, o) :: os, _, ⟨b, b1, b2, e, hn, ho, hr⟩ => by
  subst e
  obtain ⟨bs', k1, k2⟩ := nI k hr
  simp only [eM]
  split
  ·exact ⟨b :: (b1 ++ bs'), ⟨b, b1, bs', rfl, hn, ho, k1⟩, (List.Sublist.append (.refl _) k2).cons_cons _⟩
  exact ⟨bs', k1, k2.trans ((List.sublist_append_right b1 b2).cons _)⟩
theorem jz (k : Nat) (l : List Nat) : ∀ {os : Heap} {bs : List Nat}, an w R M os bs -> ∃ bs', an w R M (lK k l os) bs' /\ bs'.Sublist bs
 | [], bs, h => ⟨bs, h, .refl _⟩
 |(.out m, o) :: os, _, ⟨b, b1, b2, e, hn, ho, hr⟩ => by
  subst e
  obtain ⟨bs', k1, k2⟩ := jz k l hr
  simp only [lK]
  split
  ·exact ⟨b :: (b1 ++ bs'), ⟨b, b1, bs', rfl, hn, ho, k1⟩, (List.Sublist.append (.refl _) k2).cons_cons _⟩
  exact ⟨bs', k1, k2.trans ((List.sublist_append_right b1 b2).cons _)⟩
 |(.loc m, o) :: os, _, ⟨b, b1, b2, e, hn, ho, hr⟩ => by
  subst e
  obtain ⟨bs', k1, k2⟩ := jz k l hr
  exact ⟨bs', k1, k2.trans ((List.sublist_append_right b1 b2).cons _)⟩
variable (hM : ∀ m b, (∃ o, m = .out o) -> M m = some b -> M2 m = some b)
mutual
theorem ak.low {k : Nat} (hM : ∀ o b, o < k -> M (.out o) = some b -> M2 (.out o) = some b) : ∀ {a : ae} {v : Value} {bs : List Nat}, dL k a = false -> ak w R M a v bs -> ak w R M2 a v bs
 | .dat _, _, _, _, h => by simp only [ak] at h ⊢; exact h
 | .own _, _, _, _, h => by simp only [ak] at h ⊢; exact h
 | .ref _, _, _, _, h => by simp only [ak] at h ⊢; exact h
 | .ptr (.loc _) _, _, _, hn, _ => by simp [dL] at hn
 | .ptr (.out o) _, _, _, hn, h => by
  simp only [dL] at hn
  simp only [ak] at h ⊢
  obtain ⟨h1, b, hb, e⟩ := h
  exact ⟨h1, b, hM o b (by rcases Nat.lt_or_ge o k with h | h; exact h; rw [hJ h] at hn; simp at hn) hb, e⟩
 | .map (.loc _), _, _, hn, _ => by simp [dL] at hn
 | .win (.loc _) _ _ _, _, _, hn, _ => by simp [dL] at hn
 | .win (.out o) _ _ _, _, _, hn, h => by
  simp only [dL] at hn
  simp only [ak] at h ⊢
  obtain ⟨h1, b, cap, hb, e⟩ := h
  exact ⟨h1, b, cap, hM o b (by rcases Nat.lt_or_ge o k with h | h; exact h; rw [hJ h] at hn; simp at hn) hb, e⟩
 | .map (.out o), _, _, hn, h => by
  simp only [dL] at hn
  simp only [ak] at h ⊢
  obtain ⟨h1, b, hb, e⟩ := h
  exact ⟨h1, b, hM o b (by rcases Nat.lt_or_ge o k with h | h; exact h; rw [hJ h] at hn; simp at hn) hb, e⟩
 | .fn _ first captured, _, _, hn, h => by
  simp only [dL, Bool.or_eq_false_iff] at hn
  simp only [ak] at h ⊢
  obtain ⟨h1, vs', us', e, h2, h3⟩ := h
  exact ⟨h1, vs', us', e, aj.low hM (as := first) hn.1 h2, aj.low hM (as := captured) hn.2 h3⟩
 | .agg cs, _, _, hn, h => by
  simp only [dL] at hn
  simp only [ak] at h ⊢
  obtain ⟨vs', e, h2⟩ := h
  exact ⟨vs', e, aj.low hM (as := cs) hn h2⟩
 | .tup cs, _, _, hn, h => by
  simp only [dL] at hn
  simp only [ak] at h ⊢
  obtain ⟨vs', e, h2⟩ := h
  exact ⟨vs', e, aj.low hM (as := cs) hn h2⟩
 | .undef, _, _, _, h => by simp only [ak] at h ⊢; exact h
theorem aj.low {k : Nat} (hM : ∀ o b, o < k -> M (.out o) = some b -> M2 (.out o) = some b) : ∀ {as : List ae} {vs : List Value} {bs : List Nat}, dX k as = false -> aj w R M as vs bs -> aj w R M2 as vs bs
 | [], _, _, _, h => by simp only [aj] at h ⊢; exact h
 | a :: as, _, _, hn, h => by
  simp only [dX, Bool.or_eq_false_iff] at hn
  simp only [aj] at h ⊢
  obtain ⟨v', vs', b1', b2', e1, e2, h1, h2⟩ := h
  exact ⟨v', vs', b1', b2', e1, e2, ak.low hM (a := a) hn.1 h1, aj.low hM (as := as) hn.2 h2⟩
end
theorem nL (k : Nat) : ∀ (l m : List ae), dX k (l ++ m) = (dX k l || dX k m)
 | [], m => by simp [dX]
 | a :: l, m => by simp [dX, nL k l m, Bool.or_assoc]
theorem M3 (k : Nat) (cs : List ae) (j : Nat) : dX k (cs ++ List.replicate j .undef) = dX k cs := by
 rw [nL]
 have : dX k (List.replicate j .undef) = false := by
  induction j with
  | zero => rfl
  | succ j ih => simp [List.replicate_succ, dX, dL, ih]
 rw [this, Bool.or_false]
theorem an.low {k : Nat} (hM : ∀ o b, o < k -> M (.out o) = some b -> M2 (.out o) = some b) : ∀ {os : Heap} {bs : List Nat}, (∀ p ∈ os, jv k p.1 = true) -> cT k os = false -> an w R M os bs -> an w R M2 os bs
 | [], _, _, _, h => h
 |(m, o) :: os, _, hs, hn, ⟨b, b1, b2, e, hb, ho, hr⟩ => by
  simp only [cT, Bool.or_eq_false_iff] at hn
  have hm := hs (m, o) (by simp)
  refine ⟨b, b1, b2, e, ?_, ?_, an.low hM (fun p hp => hs p (by simp [hp])) hn.2 hr⟩
  ·cases m with
   | loc i => simp [jv] at hm
   | out i => exact hM i b (oA (by simpa [jv] using hm)) hb
  cases o with
  | cells cs =>
   obtain ⟨vs, el, sp, hblk, hrr, hR⟩ := ho
   exact ⟨vs, el, sp, hblk, hrr.low hM (by rw [M3]; simpa [pA] using hn.1), hR⟩
  | map es => exact ho
theorem kK (k : Nat) : ∀ os : Heap, ∀ p ∈ eM k os, jv k p.1 = true
 | [], p, h => by simp [eM] at h
 |(m, o) :: os, p, h => by
  simp only [eM] at h
  split at h
  ·rename_i hm
   rcases List.mem_cons.1 h with rfl | h
   ·exact hm
   exact kK k os p h
  exact kK k os p h
end
theorem aB.gc {P : Program} {G : bE} {f : FuncId} {args : List ae} {heap : Heap} {next : Nat} {r : eW} (h : aB P G f args heap next (XQ r)) : aB P G f args heap next (XQ (rT next r)) := by
 intro w R N cargs bsA bsH bsF ha hh hnd hnx hg hF
 refine (h w R N cargs bsA bsH bsF ha hh hnd hnx hg hF).mono ?_
 rintro e w' ⟨v', cv, heap', next', R', N', bsV, bsH', rfl, ⟨rfl, rfl, rfl⟩, hv', hh', hnd', hnx', hk, hN⟩
 obtain ⟨val, heap', next'⟩ := r
 dsimp only at hv' hh' hnx' ⊢
 unfold rT
 dsimp only
 split
 ·rename_i hnew
  simp only [Bool.or_eq_false_iff] at hnew
  obtain ⟨bs', k1, k2⟩ := nI next hh'
  let N2 : Name -> Option Nat := fun m => match m with | .loc i => N' (.loc i) | .out o => if o < next then N' (.out o) else none
  have hM : ∀ o b, o < next -> outs N' (.out o) = some b -> outs N2 (.out o) = some b := by
   intro o b ho hb
   simp only [outs] at hb ⊢
   simp only [N2]
   rw [if_pos ho]; exact hb
  refine ⟨val, cv, eM next heap', next, R', N2, bsV, bs', rfl, ⟨rfl, rfl, rfl⟩, hv'.low hM hnew.1, k1.low hM (kK next heap') hnew.2, ?_, ?_, hk, ?_⟩
  ·exact List.Nodup.sublist (List.Sublist.append (.refl _) (List.Sublist.append k2 (.refl _))) hnd'
  ·intro o b hb
   simp only [N2] at hb
   split at hb
   ·assumption
   simp at hb
  intro o b hb
  simp only [N2]
  rw [if_pos (hnx o b hb)]
  exact hN o b hb
 obtain ⟨bs', k1, k2⟩ := jz next (Ct next heap' 3 (HR val)) hh'
 exact ⟨val, cv, _, next', R', N', bsV, bs', rfl, ⟨rfl, rfl, rfl⟩, hv', k1, List.Nodup.sublist (List.Sublist.append (.refl _) (List.Sublist.append k2 (.refl _))) hnd', hnx', hk, hN⟩
/-! ### Code -/
section
variable (X : iI) (E : bq) (G : bE) (H : Hints) (n : Nat)
def sg (f : ac) (r : eW) (dst : Option Tmp) : ac :=
 match f, r with
 | ⟨sl, locs, _, _⟩, ⟨v, heap, next⟩ => jc ⟨sl, locs, heap, next⟩ dst v
theorem kd (f : ac) (r : eW) (dst : Option Tmp) : (sg f r dst).aw n = ({ f.aw n with heap := r.heap, next := r.next } : aa).put dst r.val := by
 obtain ⟨sl, locs, heap, next⟩ := f
 obtain ⟨v, h, k⟩ := r
 simp only [sg, dT]; rfl
noncomputable def GM (all : List Oper) (o : Oper) (f : ac) : Option ac :=
 match gm n all f o.guard with
 | none => none
 | some b => match b with
  | true =>
   (match cV o.op with
    | some c => (match pn E G H n c f with
     | some (g, args, f2) => (match X g args f2.heap f2.next with
      | some r => some (sg f2 r o.dst)
      | none => none)
     | none => none)
    | none => uR E G n (readOnly H.moves all o) (ku H all o) o f)
  | false => some (jc f o.dst (.tup []))
theorem tL {all : List Oper} {o : Oper} {f f' : ac} (h : GM X E G H n all o f = some f') : Fe X E G H all o (f.aw n) = some (f'.aw n) := by
 unfold GM at h
 unfold Fe
 rw [jZ]
 cases hw : gm n all f o.guard with
 | none => rw [hw] at h; simp at h
 | some b =>
  rw [hw] at h
  cases b with
  | false => simp at h; subst h; simp [dT]
  | true =>
   dsimp only at h ⊢
   rw [if_pos rfl]
   cases hc : cV o.op with
   | none =>
    rw [hc] at h
    dsimp only at h ⊢
    rw [rV, h]; rfl
   | some c =>
    rw [hc] at h
    dsimp only at h ⊢
    rw [yz]
    cases hcal : pn E G H n c f with
    | none => rw [hcal] at h; simp at h
    | some x =>
     obtain ⟨g, args, f2⟩ := x
     rw [hcal] at h
     dsimp only [Option.map_some] at h ⊢
     have e1 : (f2.aw n).heap = f2.heap := rfl
     have e2 : (f2.aw n).next = f2.next := rfl
     rw [e1, e2]
     cases hr : X g args f2.heap f2.next with
     | none => rw [hr] at h; simp at h
     | some r =>
      rw [hr] at h
      simp at h
      subst h
      simp [kd]
noncomputable def Cg (all : List Oper) (ops : List Oper) : ac -> Option ac :=
 @List.rec Oper (fun _ => ac -> Option ac) (fun f => some f) (fun o _ ih f => match GM X E G H n all o f with | some f' => ih f' | none => none) ops
theorem ph {all : List Oper} : ∀ {ops : List Oper} {f f' : ac}, Cg X E G H n all ops f = some f' -> CN X E G H all ops (f.aw n) = some (f'.aw n)
 | [], f, f', h => by
  have e : Cg X E G H n all [] f = some f := rfl
  rw [e] at h; simp at h; subst h; rfl
 | o :: rest, f, f', h => by
  have e : Cg X E G H n all (o :: rest) f = (match GM X E G H n all o f with | some f' => Cg X E G H n all rest f' | none => none) := rfl
  rw [e] at h
  simp only [CN]
  cases ho : GM X E G H n all o f with
  | none => rw [ho] at h; simp at h
  | some f1 =>
   rw [ho] at h
   rw [tL X E G H n ho]
   exact ph h
noncomputable def tI (tk : List Nat) (t : Tmp) (f : ac) : List Nat := match Gy (pC n f t) with | true => [] | false => tk
theorem AI (tk : List Nat) (t : Tmp) (f : ac) : kq tk t (f.aw n) = tI n tk t f := by
 unfold kq tI
 rw [iP]
 cases Gy (pC n f t) <;> rfl
noncomputable def GL (fh : Bool) (tk : List Nat) (all : List Oper) (o : Oper) (f : ac) : Option ac :=
 match gm n all f o.guard with
 | none => none
 | some b => match b with
  | true =>
   (match cV o.op with
    | some c => (match lQ E G H n c f with
     | some (g, args, f2) => (match gq H o with
      | true => (match X g args [] f2.next with
       | some ⟨v, [], k⟩ => some (sg f2 ⟨v, f2.heap, k⟩ o.dst)
       | _ => none)
      | false => (match X g args f2.heap f2.next with
       | some r => (match !lm H o || sU f2.heap r.heap with
        | true => some (sg f2 r o.dst)
        | false => none)
       | none => none))
     | none => none)
    | none => (match eQ o.op with
     | some t => (match kQ n fh all (fp all t (tI n tk t f)) f with
      | some f1 => uR E G n false false o f1
      | none => none)
     | none => (match jA o.op with
      | true => uR E G n (readOnly H.moves all o) (ku H all o) o f
      | false => none)))
  | false => some (jc f o.dst (.tup []))
theorem tK {fh : Bool} {tk : List Nat} {all : List Oper} {o : Oper} {f f' : ac} (h : GL X E G H n fh tk all o f = some f') : Fc X E G H fh tk all o (f.aw n) = some (f'.aw n) := by
 unfold GL at h
 unfold Fc
 rw [jZ]
 cases hw : gm n all f o.guard with
 | none => rw [hw] at h; simp at h
 | some b =>
  rw [hw] at h
  cases b with
  | false => simp at h; subst h; simp [dT]
  | true =>
   dsimp only at h ⊢
   rw [if_pos rfl]
   cases hc : cV o.op with
   | none =>
    rw [hc] at h
    dsimp only at h ⊢
    cases ht : eQ o.op with
    | none =>
     rw [ht] at h
     dsimp only at h ⊢
     cases hst : jA o.op with
     | false => rw [hst] at h; simp at h
     | true =>
      rw [hst] at h
      dsimp only at h ⊢
      rw [rV, h]; rfl
    | some t =>
     rw [ht] at h
     dsimp only at h ⊢
     rw [AI]
     cases hs : kQ n fh all (fp all t (tI n tk t f)) f with
     | none => rw [hs] at h; simp at h
     | some f1 =>
      rw [hs] at h
      rw [mG n fh all _ _ _ hs]
      dsimp only at h ⊢
      rw [rV, h]; rfl
   | some c =>
    rw [hc] at h
    dsimp only at h ⊢
    rw [uZ]
    cases hcal : lQ E G H n c f with
    | none => rw [hcal] at h; simp at h
    | some x =>
     obtain ⟨g, args, f2⟩ := x
     rw [hcal] at h
     dsimp only [Option.map_some] at h ⊢
     have e1 : (f2.aw n).heap = f2.heap := rfl
     have e2 : (f2.aw n).next = f2.next := rfl
     rw [e1, e2]
     cases hpu : gq H o with
     | true =>
      rw [hpu] at h
      dsimp only at h ⊢
      split at h
      ·rename_i v k hr
       simp at h
       subst h
       simp [kd, hr]
      simp at h
     | false =>
      rw [hpu] at h
      dsimp only at h ⊢
      cases hr : X g args f2.heap f2.next with
      | none => rw [hr] at h; simp at h
      | some r =>
       rw [hr] at h
       dsimp only at h ⊢
       cases hst : (!lm H o || sU f2.heap r.heap) with
       | false => rw [hst] at h; simp at h
       | true =>
        rw [hst] at h
        simp at h
        subst h
        simp [kd]
noncomputable def Em (tk : List Nat) (fh : Bool) (fq : Nat -> Bool) (all : List Oper) (l : List (Nat × Bool)) : ac -> Option ac :=
 @List.rec (Nat × Bool) (fun _ => ac -> Option ac) (fun f => some f) (fun p _ ih f =>
  match all[p.1]? with
  | none => none
  | some o => match p.2 with
   | true => (match GL X E G H n fh tk all o f with | some f' => ih f' | none => none)
   | false => (match nY E G n (fh || fq p.1) all o f with
    | some a => ih (jc f o.dst a)
    | none => none)) l
theorem J2 {tk : List Nat} {fh : Bool} {fq : Nat -> Bool} {all : List Oper} {i : Nat} {lone : Bool} {rest : List (Nat × Bool)} {f : ac} : Em X E G H n tk fh fq all ((i, lone) :: rest) f = (match all[i]? with
   | none => none
   | some o => match lone with
    | true => (match GL X E G H n fh tk all o f with | some f' => Em X E G H n tk fh fq all rest f' | none => none)
    | false => (match nY E G n (fh || fq i) all o f with
     | some a => Em X E G H n tk fh fq all rest (jc f o.dst a)
     | none => none)) := rfl
theorem pg {tk : List Nat} {fh : Bool} {fq : Nat -> Bool} {all : List Oper} : ∀ {l : List (Nat × Bool)} {f f' : ac}, Em X E G H n tk fh fq all l f = some f' -> Bf X E G H tk fh fq all l (f.aw n) = some (f'.aw n)
 | [], f, f', h => by
  have e : Em X E G H n tk fh fq all [] f = some f := rfl
  rw [e] at h; simp at h; subst h; rfl
 |(i, lone) :: rest, f, f', h => by
  rw [J2] at h
  simp only [Bf]
  cases hi : all[i]? with
  | none => rw [hi] at h; simp at h
  | some o =>
   rw [hi] at h
   cases lone
   ·dsimp only at h ⊢
    rw [if_neg (by simp), AJ]
    cases ho : nY E G n (fh || fq i) all o f with
    | none => rw [ho] at h; simp at h
    | some a =>
     rw [ho] at h
     dsimp only at h ⊢
     rw [← dT]
     exact pg h
   dsimp only at h ⊢
   rw [if_pos rfl]
   cases ho : GL X E G H n fh tk all o f with
   | none => rw [ho] at h; simp at h
   | some f1 =>
    rw [ho] at h
    rw [tK X E G H n ho]
    exact pg h
noncomputable def yx (all : List Oper) : Nat -> Array Bool -> ac -> Option ac
 | 0, _, f => some f
 | m + 1, listed, f => match Region.ready .any all.toArray listed with
  | [] => some f
  | i :: _ => (match all[i]? with
   | some o => (match GM X E G H n all o f with | some f1 => yx all m (bK listed i) f1 | none => none)
   | none => none)
noncomputable def Cm (all : List Oper) (k : Nat) (s0 : aa) : Nat -> Array Bool -> ac -> Bool
 | 0, listed, f => (Region.ready .any all.toArray listed).isEmpty && Js k s0 (f.aw n)
 | m + 1, listed, f => match Region.ready .any all.toArray listed with
  | [] => Js k s0 (f.aw n)
  | i :: l => (i :: l).all fun i => match all[i]? with
   | some o => (match GM X E G H n all o f with | some f1 => Cm all k s0 m (bK listed i) f1 | none => false)
   | none => false
theorem uX {all : List Oper} : ∀ (m : Nat) (listed : Array Bool) (f f' : ac), yx X E G H n all m listed f = some f' -> Bh X E G H all m listed (f.aw n) = some (f'.aw n)
 | 0, listed, f, f', h => by simp only [yx, Option.some.injEq] at h; subst h; rfl
 | m + 1, listed, f, f', h => by
  simp only [yx] at h
  simp only [Bh]
  split at h
  ·rename_i he
   rw [he]
   simp only [Option.some.injEq] at h
   subst h
   rfl
  rename_i i l he
  rw [he]
  dsimp only
  split at h
  ·rename_i o ho
   rw [ho]
   dsimp only
   split at h
   ·rename_i f1 hf1
    rw [tL X E G H n hf1]
    exact uX m _ f1 f' h
   simp at h
  simp at h
theorem uY {all : List Oper} {k : Nat} {s0 : aa} : ∀ (m : Nat) (listed : Array Bool) (f : ac), Cm X E G H n all k s0 m listed f = true -> qb X E G H all k s0 m listed (f.aw n) = true
 | 0, listed, f, h => h
 | m + 1, listed, f, h => by
  simp only [Cm] at h
  simp only [qb]
  split at h
  ·rename_i he
   rw [he]
   exact h
  rename_i i l he
  rw [he]
  dsimp only
  refine List.all_eq_true.2 fun j hj => ?_
  have h1 := List.all_eq_true.1 h j hj
  split at h1
  ·rename_i o ho
   rw [ho]
   dsimp only
   split at h1
   ·rename_i f1 hf1
    rw [tL X E G H n hf1]
    exact uY m _ f1 h1
   simp at h1
  simp at h1
noncomputable def yu (h : az) (all : List Oper) : Nat -> Array Bool -> ac -> Option ac
 | 0, _, f => some f
 | m + 1, listed, f => match Region.ready .any all.toArray listed with
  | [] => none
  | i :: _ => (match all[i]? with
   | some o => (match GL X E G H n (aO H all h.pre) h.tk all o f with | some f1 => yu h all m (bK listed i) f1 | none => none)
   | none => none)
noncomputable def Cj (h : az) (all : List Oper) (p : Array Bool) (s0 : aa) : Nat -> Array Bool -> ac -> Bool
 | 0, listed, f => pD listed.toList p.toList && Ac s0 (f.aw n)
 | m + 1, listed, f => !pD listed.toList p.toList && !(Region.ready .any all.toArray listed).isEmpty && (Region.ready .any all.toArray listed).all fun i => h.pre.contains (i, true) && (match all[i]? with
   | some o => (match GL X E G H n (aO H all h.pre) h.tk all o f with | some f1 => Cj h all p s0 m (bK listed i) f1 | none => false)
   | none => false)
noncomputable def GW (all : List Oper) (h : az) (f : ac) : Option ac :=
 match Em X E G H n h.tk (aO H all h.pre) (quietAt H all h.pre) all (bL h.pre) f with
 | some f1 => (match yu X E G H n h all (h.pre.length - (bL h.pre).length) (dI (bL h.pre) (Array.replicate all.length false)) f1 with
  | some f0 => (match Cj X E G H n h all (dI h.pre (Array.replicate all.length false)) (f0.aw n) (h.pre.length - (bL h.pre).length) (dI (bL h.pre) (Array.replicate all.length false)) f1 with
   | true => (match mH E n all h.nw f0 with
    | some f2 => Cg X E G H n all (dw all h.tail) f2
    | none => none)
   | false => none)
  | none => none)
 | none => none
theorem uU {h : az} {all : List Oper} : ∀ (m : Nat) (listed : Array Bool) (f f' : ac), yu X E G H n h all m listed f = some f' -> Bg X E G H h all m listed (f.aw n) = some (f'.aw n)
 | 0, listed, f, f', hh => by simp only [yu, Option.some.injEq] at hh; subst hh; rfl
 | m + 1, listed, f, f', hh => by
  simp only [yu] at hh
  simp only [Bg]
  split at hh
  ·simp at hh
  rename_i i l he
  rw [he]
  dsimp only
  split at hh
  ·rename_i o ho
   rw [ho]
   dsimp only
   split at hh
   ·rename_i f1 hf1
    rw [tK X E G H n hf1]
    exact uU m _ f1 f' hh
   simp at hh
  simp at hh
theorem uV {h : az} {all : List Oper} {p : Array Bool} {s0 : aa} : ∀ (m : Nat) (listed : Array Bool) (f : ac), Cj X E G H n h all p s0 m listed f = true -> pZ X E G H h all p s0 m listed (f.aw n) = true
 | 0, listed, f, hh => hh
 | m + 1, listed, f, hh => by
  simp only [Cj, Bool.and_eq_true] at hh
  simp only [pZ, Bool.and_eq_true]
  refine ⟨hh.1, List.all_eq_true.2 fun j hj => ?_⟩
  have h1 := List.all_eq_true.1 hh.2 j hj
  simp only [Bool.and_eq_true] at h1 ⊢
  refine ⟨h1.1, ?_⟩
  have h2 := h1.2
  split at h2
  ·rename_i o ho
   rw [ho]
   dsimp only
   split at h2
   ·rename_i f1 hf1
    rw [tK X E G H n hf1]
    exact uV m _ f1 h2
   simp at h2
  simp at h2
theorem Ew {all : List Oper} {h : az} {f f' : ac} (hh : GW X E G H n all h f = some f') : wx X E G H all h (f.aw n) = some (f'.aw n) := by
 unfold GW at hh
 unfold wx
 split at hh
 ·rename_i f1 h1
  rw [pg X E G H n h1]
  dsimp only
  split at hh
  ·rename_i f0 h0
   rw [uU X E G H n _ _ _ _ h0]
   dsimp only
   split at hh
   ·rename_i h2
    rw [uV X E G H n _ _ _ h2]
    dsimp only
    split at hh
    ·rename_i f2 h3
     rw [jB E n all h.nw f0 f2 h3]
     exact ph X E G H n hh
    simp at hh
   simp at hh
  simp at hh
 simp at hh
noncomputable def Ex (all : List Oper) (h : az) (f : ac) : Option ac :=
 match fG h with
 | true => (match yx X E G H n all all.length (Array.replicate all.length false) f with
  | some f0 => (match Cm X E G H n all f.next (f0.aw n) all.length (Array.replicate all.length false) f with | true => some f0 | false => none)
  | none => none)
 | false =>
 match fZ h with
 | true => GW X E G H n all (fj h) f
 | false =>
 match Em X E G H n h.tk (aO H all h.pre) (quietAt H all h.pre) all h.pre f with
 | some f1 => (match mH E n all h.nw f1 with
  | some f2 => Cg X E G H n all (dw all h.tail) f2
  | none => none)
 | none => none
theorem GV {all : List Oper} {h : az} {f f' : ac} (hh : Ex X E G H n all h f = some f') : Hq X E G H all h (f.aw n) = some (f'.aw n) := by
 unfold Ex at hh
 unfold Hq
 cases hx : fG h with
 | true =>
  rw [hx] at hh
  dsimp only at hh
  rw [if_pos rfl]
  split at hh
  ·rename_i f0 h0
   rw [uX X E G H n _ _ _ _ h0]
   dsimp only
   split at hh
   ·rename_i h2
    simp only [Option.some.injEq] at hh
    subst hh
    have := uY X E G H n _ _ _ h2
    have e : (f.aw n).next = f.next := rfl
    rw [e, this]
   simp at hh
  simp at hh
 | false =>
 rw [hx] at hh
 rw [if_neg (by simp)]
 dsimp only at hh
 cases hlm : fZ h with
 | true =>
  rw [hlm] at hh
  rw [if_pos rfl]
  exact Ew X E G H n hh
 | false =>
 rw [hlm] at hh
 rw [if_neg (by simp)]
 dsimp only at hh
 cases h1 : Em X E G H n h.tk (aO H all h.pre) (quietAt H all h.pre) all h.pre f with
 | none => rw [h1] at hh; simp at hh
 | some f1 =>
  rw [h1] at hh
  rw [pg X E G H n h1]
  dsimp only at hh ⊢
  cases h2 : mH E n all h.nw f1 with
  | none => rw [h2] at hh; simp at hh
  | some f2 =>
   rw [h2] at hh
   rw [jB E n all h.nw f1 f2 h2]
   exact ph X E G H n hh
noncomputable def AL (body : ac -> Option (Exit × ac)) (fuel : Nat) : ac -> Option (Exit × ac) :=
 @Nat.rec (fun _ => ac -> Option (Exit × ac)) (fun _ => none) (fun _ ih f => match body f with
  | some (.normal, f') => ih f'
  | r => r) fuel
/-! Steps that the program does not take, behind a region: the live slots' number holds, from bit 4096 on, the slots whose rows become data, from bit 5120 on the slots whose variables become objects. -/
def sv : Nat -> Nat -> Nat -> List Nat
 | 0, _, _ => []
 | m + 1, k, g => match Nat.beq g 0 with
  | true => []
  | false => (match Nat.beq (Nat.land g 1) 1 with | true => k :: sv m (k + 1) (Nat.shiftRight g 1) | false => sv m (k + 1) (Nat.shiftRight g 1))
def xg (a : ae) (heap : Heap) : Option (Nat × List aq) :=
 match rowOf a with
 | some x => Bq x.1 x.2 (zg (.out x.1) heap)
 | none => none
theorem Di (a : ae) (heap : Heap) : xg a heap = vN a heap := by
 unfold xg vN
 cases rowOf a with
 | none => rfl
 | some x => simp only [sH]
noncomputable def Uv (n t : Nat) (f : ac) : Option ac :=
 match xg (pC n f t) f.heap with
 | some (m, es) => (match jc f (some t) (.dat (.slice es)) with
  | ⟨sl, locs, heap, next⟩ => some ⟨sl, locs, sI (.out m) heap, next⟩)
 | none => none
noncomputable def Eu (n : Nat) : List Nat -> ac -> Option ac
 | [], f => some f
 | t :: r, f => (match Uv n t f with | some f' => Eu n r f' | none => none)
noncomputable def Cf (n : Nat) : List Nat -> ac -> ac
 | [], f => f
 | t :: r, f => Cf n r (uT false (sd f [pC n f t]) f []).1
noncomputable def kc (n mask : Nat) (f : ac) : Option ac :=
 match Nat.beq (Nat.shiftRight mask 4096) 0 with
 | true => some f
 | false => Eu n (sv 1000 0 (Nat.land (Nat.shiftRight mask 4096) (2 ^ 1024 - 1))) (Cf n (sv 1000 0 (Nat.shiftRight mask 5120)) f)
theorem GU {n t : Nat} {f f' : ac} (h : Uv n t f = some f') : gH G (f.aw n) (f'.aw n) := by
 unfold Uv at h
 rw [Di] at h
 split at h
 ·rename_i m es hv
  have e : Br t (f.aw n) = some (f'.aw n) := by
   unfold Br
   rw [iP]
   have e2 : (f.aw n).heap = f.heap := rfl
   rw [e2, hv]
   have hp := dT (n := n) f (some t) (.dat (.slice es))
   generalize jc f (some t) (.dat (.slice es)) = g at h hp
   obtain ⟨sl, locs, heap, next⟩ := g
   simp only [Option.some.injEq] at h
   subst h
   simp only [ac.aw, aa.put, oE] at hp ⊢
   have q1 := congrArg aa.tmps hp
   have q2 := congrArg aa.locs hp
   have q3 := congrArg aa.heap hp
   have q4 := congrArg aa.next hp
   simp only at q1 q2 q3 q4
   rw [q1, q2, q3, q4]
  exact J1 e
 simp at h
theorem uW {n : Nat} : ∀ (l : List Nat) {f f' : ac}, Eu n l f = some f' -> gH G (f.aw n) (f'.aw n)
 | [], f, f', h => by simp [Eu] at h; subst h; exact .refl _ _
 | t :: r, f, f', h => by
  simp only [Eu] at h
  split at h
  ·rename_i f1 h1
   exact (GU G h1).trans (uW r h)
  simp at h
theorem rY {n : Nat} : ∀ (l : List Nat) (f : ac), gH G (f.aw n) ((Cf n l f).aw n)
 | [], f => .refl _ _
 | t :: r, f => by
  simp only [Cf]
  refine gH.trans ?_ (rY r _)
  have h := GI (G := G) (sd f [pC n f t]) (f.aw n)
  rw [rZ] at h
  exact h
theorem mK {n mask : Nat} {f f' : ac} (h : kc n mask f = some f') : gH G (f.aw n) (f'.aw n) := by
 unfold kc at h
 split at h
 ·simp at h; subst h; exact .refl _ _
 exact (rY G _ _).trans (uW G _ h)
noncomputable def gW (live : Nat -> Nat) (fuel : Nat) (c : Code) : ac -> Option (Exit × ac) :=
 Code.rec (motive := fun _ => ac -> Option (Exit × ac))
  (skip := fun f => some (.normal, f))
  (region := fun id ops draw f =>
   (match (match draw with | true => Ex X E G H n ops.toList (H.ord id) f | false => Cg X E G (H.at id) n ops.toList ops.toList f) with
    | some f' => (match kc n (live id) (kb f' (fun l => dW l (live id))) with | some f2 => some (.normal, f2) | none => none)
    | none => none))
  (seq := fun _ _ ix iy f => (match ix f with
   | some (.normal, f') => iy f'
   | r => r))
  (cond := fun c _ _ ix iy f => (match nb G n f c with
   | .dat (.flat (.bool b)) => (match b with | true => ix f | false => iy f)
   | _ => none))
  (block := fun id _ ic f => (match ic f with
   | some (.exit i, f') => (match Nat.beq i id with | true => some (.normal, f') | false => some (.exit i, f'))
   | r => r))
  (loop := fun _ ic f => AL ic fuel f)
  (rangeFunc := fun _ _ _ _ _ _ _ => none)
  (exit := fun id f => some (.exit id, f))
  (scope := fun _ ic f => (match ic f with
   | some (.goto _, _) => none
   | r => r))
  (label := fun _ f => some (.normal, f))
  (goto := fun _ _ => none)
  (ret := fun f => some (.ret, f))
  (refuse := fun _ _ => none) c
theorem Ez {live : Nat -> Nat} {fuel : Nat} {c : Code} {f : ac} : gW X E G H n live fuel (.scope c) f = (match gW X E G H n live fuel c f with
   | some (.goto _, _) => none
   | r => r) := rfl
theorem J7 {live : Nat -> Nat} {fuel : Nat} {x y : Code} {f : ac} : gW X E G H n live fuel (.seq x y) f = (match gW X E G H n live fuel x f with
   | some (.normal, f') => gW X E G H n live fuel y f'
   | r => r) := rfl
theorem EA {live : Nat -> Nat} {fuel : Nat} {id : Nat} {c : Code} {f : ac} : gW X E G H n live fuel (.block id c) f = (match gW X E G H n live fuel c f with
   | some (.exit i, f') => (match Nat.beq i id with | true => some (.normal, f') | false => some (.exit i, f'))
   | r => r) := rfl
theorem GX {live : Nat -> Nat} {fuel : Nat} {c : Operand} {x y : Code} {f : ac} : gW X E G H n live fuel (.cond c x y) f = (match nb G n f c with
   | .dat (.flat (.bool b)) => (match b with | true => gW X E G H n live fuel x f | false => gW X E G H n live fuel y f)
   | _ => none) := rfl
theorem Cn {live : Nat -> Nat} {fuel : Nat} {id : Nat} {ops : Array Oper} {draw : Bool} {f : ac} : gW X E G H n live fuel (.region id ops draw) f =
   (match (match draw with | true => Ex X E G H n ops.toList (H.ord id) f | false => Cg X E G (H.at id) n ops.toList ops.toList f) with
    | some f' => (match kc n (live id) (kb f' (fun l => dW l (live id))) with | some f2 => some (.normal, f2) | none => none)
    | none => none) := rfl
theorem En {P : Program} {c : Code} {body : ac -> Option (Exit × ac)} (hb : ∀ f e f', body f = some (e, f') -> ∀ Q : Exit -> aa -> Prop, Q e (f'.aw n) -> df P G c Q (f.aw n)) {k : Nat} {f f' : ac} {e : Exit}
  (h : AL body k f = some (e, f')) {Q : Exit -> aa -> Prop} (hQ : Q e (f'.aw n)) : df P G (.loop c) Q (f.aw n) := by
 intro w R N act bsT bsL bsH bsF hr D hd
 refine wp_loop_ghost (I := fun k a w' => ∃ f1 R' N' bsT' bsL' bsH', AL body k f1 = some (e, f') /\ cR G w' R' N' a.tmps.toList (f1.aw n) undef .undef [] bsT' bsL' bsH' bsF /\ a.defers = D /\ bz w R w' R' bsF /\ (∀ o b, N (.out o) = some b -> N' (.out o) = some b)) (n0 := k) ?_ ?_
 ·exact ⟨f, R, N, bsT, bsL, bsH, h, hr, hd, bg _, fun _ _ h => h⟩
 rintro k a w' ⟨f1, R', N', bsT', bsL', bsH', hx, hr', hd', hk, hN⟩
 cases k with
 | zero => exact absurd hx (by intro hx; cases hx)
 | succ k =>
  have hx : (match body f1 with
   | some (.normal, f') => AL body k f'
   | r => r) = some (e, f') := hx
  have key : ∀ e1 f2, body f1 = some (e1, f2) -> (e1 = .normal -> AL body k f2 = some (e, f')) -> (e1 ≠ .normal -> e1 = e /\ f2 = f') -> c.wp P (Exit.then (fun a' w' => ∃ n', n' < k + 1 /\ ∃ f1 R' N' bsT' bsL' bsH', AL body n' f1 = some (e, f') /\ cR G w' R' N' a'.tmps.toList (f1.aw n) undef .undef [] bsT' bsL' bsH' bsF /\ a'.defers = D /\ bz w R w' R' bsF /\ (∀ o b, N (.out o) = some b -> N' (.out o) = some b)) (Be G D Q w R N bsF)) a w' := by
   intro e1 f2 hbody h1 h2
   refine wp_mono (hb f1 e1 f2 hbody (fun e' s'' => e' = e1 /\ s'' = f2.aw n) ⟨rfl, rfl⟩ w' R' N' a bsT' bsL' bsH' bsF hr' hd') ?_
   rintro e3 a3 w3 ⟨s3, R3, N3, bsT3, bsL3, bsH3, ⟨rfl, rfl⟩, hr3, hd3, hk3, hN3⟩
   by_cases he : e3 = .normal
   ·subst he
    exact ⟨k, Nat.lt_succ_self k, f2, R3, N3, bsT3, bsL3, bsH3, h1 rfl, hr3, hd3, hk.trans hk3, fun o b h => hN3 o b (hN o b h)⟩
   obtain ⟨rfl, rfl⟩ := h2 he
   have : Be G D Q w R N bsF e3 a3 w3 := ⟨_, R3, N3, bsT3, bsL3, bsH3, hQ, hr3, hd3, hk.trans hk3, fun o b h => hN3 o b (hN o b h)⟩
   cases e3 with
   | normal => exact (he rfl).elim
   | _ => exact this
  cases hbd : body f1 with
  | none => rw [hbd] at hx; simp at hx
  | some r =>
   obtain ⟨e1, f2⟩ := r
   rw [hbd] at hx
   cases e1 with
   | normal => exact key _ _ hbd (fun _ => hx) (fun h => (h rfl).elim)
   | _ => simp at hx; exact key _ _ hbd (fun h => by simp at h) (fun _ => hx)
theorem vq {P : Program} {c : Code} {s s2 : aa} {Q : Exit -> aa -> Prop} (h : df P G c (fun e s' => e = .normal /\ s' = s2) s) {s3 : aa} (hg : gH G s2 s3) (hQ : Q .normal s3) : df P G c Q s := by
 intro w R N act bsT bsL bsH bsF hr D hd
 refine wp_mono (h w R N act bsT bsL bsH bsF hr hd) ?_
 rintro e a w' ⟨s', R', N', bsT', bsL', bsH', ⟨rfl, rfl⟩, hr', hd', hk, hN⟩
 obtain ⟨R2, N2, t2, l2, h2, hr2, hk2, hN2⟩ := hg _ _ _ _ _ _ _ _ hr'
 exact ⟨s3, R2, N2, t2, l2, h2, hQ, hr2, hd', hk.trans hk2, fun o b ho => hN2 o b (hN o b ho)⟩
theorem zk {P : Program} {c : Code} {s s2 : aa} {Q : Exit -> aa -> Prop} (h : df P G c (fun e s' => e = .normal /\ s' = s2) s) {s3 : aa}
  (hw : ∀ (w : World) (R : Own) (N : Name -> Option Nat) (tmps : List Value) (bsT bsL bsH bsF : List Nat), cR G w R N tmps s2 undef .undef [] bsT bsL bsH bsF -> ∃ bsT', cR G w R N tmps s3 undef .undef [] bsT' bsL bsH bsF) (hQ : Q .normal s3) : df P G c Q s := by
 intro w R N act bsT bsL bsH bsF hr D hd
 refine wp_mono (h w R N act bsT bsL bsH bsF hr hd) ?_
 rintro e a w' ⟨s', R', N', bsT', bsL', bsH', ⟨rfl, rfl⟩, hr', hd', hk, hN⟩
 obtain ⟨bsT2, hr2⟩ := hw _ _ _ _ _ _ _ _ hr'
 exact ⟨s3, R', N', bsT2, bsL', bsH', hQ, hr2, hd', hk, hN⟩
theorem dU {P : Program} (hE : E.Ok P) (hX : E9 P G X) (live : Nat -> Nat) (fuel : Nat) : ∀ (c : Code) (f f' : ac) (e : Exit), cF H c = true -> gW X E G H n live fuel c f = some (e, f') -> ∀ Q : Exit -> aa -> Prop, Q e (f'.aw n) -> df P G c Q (f.aw n)
 | .skip, f, f', e, _, h, Q, hQ => by
  have h : some (Exit.normal, f) = some (e, f') := h
  simp at h; obtain ⟨rfl, rfl⟩ := h; exact fK wp_skip hQ
 | .region id ops draw, f, f', e, hc, h, Q, hQ => by
  rw [Cn] at h
  cases draw
  ·dsimp only at h
   cases h1 : Cg X E G (H.at id) n ops.toList ops.toList f with
   | none => rw [h1] at h; simp at h
   | some f1 =>
    rw [h1] at h
    dsimp only at h
    cases h2 : kc n (live id) (kb f1 (fun l => dW l (live id))) with
    | none => rw [h2] at h; simp at h
    | some f2 =>
    rw [h2] at h
    simp at h
    obtain ⟨rfl, rfl⟩ := h
    refine vq G (zk G (sJ hE (ma hX (ph X E G (H.at id) n h1) ⟨rfl, rfl⟩)) ?_ ⟨rfl, rfl⟩) (mK G h2) hQ
    intro w R N tmps bsT bsL bsH bsF hr
    exact hr.prune _
  dsimp only at h
  cases h1 : Ex X E G H n ops.toList (H.ord id) f with
  | none => rw [h1] at h; simp at h
  | some f1 =>
   rw [h1] at h
   dsimp only at h
   cases h2 : kc n (live id) (kb f1 (fun l => dW l (live id))) with
   | none => rw [h2] at h; simp at h
   | some f2 =>
   rw [h2] at h
   simp at h
   obtain ⟨rfl, rfl⟩ := h
   refine vq G (zk G (zl hE hE.mixed (by simpa [cF] using hc) (CO hX (GV X E G H n h1) ⟨rfl, rfl⟩)) ?_ ⟨rfl, rfl⟩) (mK G h2) hQ
   intro w R N tmps bsT bsL bsH bsF hr
   exact hr.prune _
 | .seq x y, f, f', e, hc, h, Q, hQ => by
  simp only [cF, Bool.and_eq_true] at hc
  rw [J7] at h
  refine Ba ?_
  cases hx : gW X E G H n live fuel x f with
  | none => rw [hx] at h; simp at h
  | some r =>
   obtain ⟨e1, f1⟩ := r
   rw [hx] at h
   refine dU hE hX live fuel x f f1 e1 hc.1 hx _ ?_
   cases e1 with
   | normal => exact dU hE hX live fuel y f1 f' e hc.2 h Q hQ
   | _ => simp at h; obtain ⟨rfl, rfl⟩ := h; exact hQ
 | .cond c x y, f, f', e, hc, h, Q, hQ => by
  simp only [cF, Bool.and_eq_true] at hc
  intro w R N act bsT bsL bsH bsF hr D hd
  rw [GX] at h
  split at h
  ·rename_i b hb
   obtain ⟨bs, he⟩ := om hr.tmps hr.glob c
   rw [lP, hb] at he
   obtain ⟨_, he, _⟩ := aF he
   refine wp_cond he ?_
   cases b
   ·exact dU hE hX live fuel y f f' e hc.2 h Q hQ w R N act bsT bsL bsH bsF hr hd
   exact dU hE hX live fuel x f f' e hc.1 h Q hQ w R N act bsT bsL bsH bsF hr hd
  simp at h
 | .block id c, f, f', e, hc, h, Q, hQ => by
  simp only [cF] at hc
  rw [EA] at h
  cases hx : gW X E G H n live fuel c f with
  | none => rw [hx] at h; simp at h
  | some r =>
   obtain ⟨e1, f1⟩ := r
   rw [hx] at h
   intro w R N act bsT bsL bsH bsF hr D hd
   apply wp_block
   refine wp_mono (dU hE hX live fuel c f f1 e1 hc hx (fun e' s'' => e' = e1 /\ s'' = f1.aw n) ⟨rfl, rfl⟩ w R N act bsT bsL bsH bsF hr hd) ?_
   rintro e2 a w' ⟨s2, R', N', bsT', bsL', bsH', ⟨rfl, rfl⟩, rest⟩
   cases e2 with
   | exit i =>
    simp only [Exit.inBlock]
    dsimp only at h
    by_cases hi : i = id
    ·have hb : Nat.beq i id = true := by rw [Nat.beq_eq]; exact hi
     rw [if_pos hi]
     rw [hb] at h
     simp at h; obtain ⟨rfl, rfl⟩ := h
     exact ⟨_, R', N', bsT', bsL', bsH', hQ, rest⟩
    have hb : Nat.beq i id = false := by rw [Bool.eq_false_iff]; intro hc; rw [Nat.beq_eq] at hc; exact hi hc
    rw [if_neg hi]
    rw [hb] at h
    simp at h; obtain ⟨rfl, rfl⟩ := h
    exact ⟨_, R', N', bsT', bsL', bsH', hQ, rest⟩
   | _ => simp at h; obtain ⟨rfl, rfl⟩ := h; exact ⟨_, R', N', bsT', bsL', bsH', hQ, rest⟩
 | .exit id, f, f', e, _, h, Q, hQ => by
  have h : some (Exit.exit id, f) = some (e, f') := h
  simp at h; obtain ⟨rfl, rfl⟩ := h; exact fK wp_exit hQ
 | .ret, f, f', e, _, h, Q, hQ => by
  have h : some (Exit.ret, f) = some (e, f') := h
  simp at h; obtain ⟨rfl, rfl⟩ := h; exact fK wp_ret hQ
 | .loop c, f, f', e, hc, h, Q, hQ => by
  simp only [cF] at hc
  exact En G n (fun f e f' hb Q hQ => dU hE hX live fuel c f f' e hc hb Q hQ) h hQ
 | .rangeFunc _ _ _ _, _, _, _, _, h, _, _ => by cases h
 | .scope c, f, f', e, hc, h, Q, hQ => by
  simp only [cF] at hc
  rw [Ez] at h
  cases hx : gW X E G H n live fuel c f with
  | none => rw [hx] at h; simp at h
  | some r =>
   obtain ⟨e1, f1⟩ := r
   rw [hx] at h
   intro w R N act bsT bsL bsH bsF hr D hd
   apply wp_scope_straight
   refine wp_mono (dU hE hX live fuel c f f1 e1 hc hx (fun e' s'' => e' = e1 /\ s'' = f1.aw n) ⟨rfl, rfl⟩ w R N act bsT bsL bsH bsF hr hd) ?_
   rintro e2 a w' ⟨s2, R', N', bsT', bsL', bsH', ⟨rfl, rfl⟩, rest⟩
   cases e2 with
   | goto l => simp at h
   | _ => simp at h; obtain ⟨rfl, rfl⟩ := h; exact ⟨_, R', N', bsT', bsL', bsH', hQ, rest⟩
 | .label _, f, f', e, _, h, Q, hQ => by
  have h : some (Exit.normal, f) = some (e, f') := h
  simp at h; obtain ⟨rfl, rfl⟩ := h; exact fK wp_label hQ
 | .goto _, _, _, _, _, h, _, _ => by cases h
 | .refuse _, _, _, _, _, h, _, _ => by cases h
/-! ### Results -/
noncomputable def sf (f : ac) (a : Tmp) (t : TypeId) : Option ae :=
 match pC n f a with
 | .ptr k off => (match NY f k, E.ty t with
  | some (.cells cs), some i => loadCells i off cs
  | _, _ => none)
 | _ => none
theorem EB (f : ac) (a : Tmp) (t : TypeId) : wq E (f.aw n) a t = sf E n f a t := by
 unfold wq sf
 rw [iP]
 cases pC n f a with
 | ptr k off => dsimp only; rw [Ch]; rfl
 | _ => rfl
noncomputable def gU : ac -> List ResultVar -> Option (List ae)
 | _, [] => some []
 | f, .tmp t :: r => (match gU (se n f (some 0) [.tmp t]) r with | some vs => some (pC n f t :: vs) | none => none)
 | f, .cell a t :: r => (match sf E n f a t, gU f r with | some v, some vs => some (v :: vs) | _, _ => none)
theorem nZ : ∀ (rs : List ResultVar) (f : ac), gk E (f.aw n) rs = gU E n f rs
 | [], _ => rfl
 | .tmp t :: r, f => by
  simp only [gk, gU, ← yy, nZ r, iP]
  cases gU E n (se n f (some 0) [.tmp t]) r <;> rfl
 | .cell a t :: r, f => by
  simp only [gk, gU, EB, nZ r]
  cases sf E n f a t <;> cases gU E n f r <;> rfl
noncomputable def Ev : List Name -> ac -> List ae -> ac × List ae
 | [], f, args => (f, args)
 | k :: ks, f, args =>
  (match (aX k args || iX k f.locs) with
   | true => (match tJ true k f args with
   | some (f', args') => Ev ks f' args'
   | none => Ev ks f args)
   | false => Ev ks f args)
theorem wm : ∀ (ks : List Name) (f : ac) (args : List ae), gu ks (f.aw n) args = ((Ev ks f args).1.aw n, (Ev ks f args).2)
 | [], _, _ => rfl
 | k :: ks, f, args => by
  simp only [gu, Ev, AK]
  have e : (f.aw n).locs = f.locs := rfl
  rw [e]
  cases (aX k args || iX k f.locs) with
  | false => rw [if_neg (by simp)]; exact wm ks f args
  | true =>
   rw [if_pos rfl]
   cases tJ true k f args with
   | none => exact wm ks f args
   | some x => exact wm ks x.1 x.2
noncomputable def vG (rs : List ResultVar) (f : ac) : Option eW :=
 match gU E n f rs with
 | none => none
 | some vs =>
  match bF (iS vs) with
  | true => some ⟨pack (iS vs), f.heap, f.next⟩
  | false => match Ev (oS f.locs.length (lJ f.locs)) f (iS vs) with
   |(f', vs') => if bF vs' = true then some ⟨pack vs', f'.heap, f'.next⟩ else none
theorem Ce (rs : List ResultVar) (f : ac) : Pt E rs (f.aw n) = vG E n rs f := by
 unfold Pt vG
 rw [nZ]
 cases gU E n f rs with
 | none => rfl
 | some vs =>
  dsimp only
  cases bF (iS vs) with
  | true => rw [if_pos rfl]; rfl
  | false =>
   rw [if_neg (by simp)]
   dsimp only
   have e : (f.aw n).locs = f.locs := rfl
   rw [e, wm]
   generalize Ev (oS f.locs.length (lJ f.locs)) f (iS vs) = pr
   obtain ⟨f', vs'⟩ := pr
   rfl
def wR : Nat -> List ae -> Sl
 | _, [] => []
 | k, a :: r => (k, a) :: wR (k + 1) r
theorem qW : ∀ (as : List ae) (k t : Nat), pB (wR k as) t = if k <= t then bp as (t - k) else .undef
 | [], k, t => by
  rw [wR, yn]
  split <;> simp [bp]
 | a :: r, k, t => by
  rw [wR, gA, qW r (k + 1) t]
  by_cases h : k = t
  ·subst h; simp [bp]
  rw [if_neg h]
  by_cases h2 : k <= t
  ·rw [if_pos (by omega), if_pos h2]
   unfold bp
   rw [show t - k = (t - (k + 1)) + 1 by omega]
   simp
  rw [if_neg (by omega), if_neg h2]
end
section
variable (E : bq) (G : bE) (moves caps : FuncId -> Bool) (F : FuncId -> Option lY) (M : iI) (fuel : Nat)
/-- A call, run; M: calls that are known. -/
noncomputable def yA : Nat -> iI
 | 0 => fun _ _ _ _ => none
 | k + 1 => fun g args heap next =>
  match F g with
  | none => none
  | some x => match Nat.ble args.length x.ntmps with
   | false => none
   | true => (match gW (fun g args heap next => match M g args heap next with | some r => some r | none => yA k g args heap next) E G ⟨moves, x.ord, caps, rowsOf caps g⟩ x.ntmps x.live fuel x.code ⟨wR 0 args, [], heap, next⟩ with
    | some (.ret, f) => (match vG E x.ntmps x.results f with | some r => some (rT next r) | none => none)
    | some (.normal, f) => (match vG E x.ntmps x.results f with | some r => some (rT next r) | none => none)
    | _ => none)
variable {E G moves caps F M}
theorem od {P : Program} (hE : E.Ok P) (hF : Xt P moves caps F) (hM : E9 P G M) : ∀ k, E9 P G (yA E G moves caps F M fuel k)
 | 0 => by intro f args heap next r h; cases h
 | k + 1 => by
  intro g args heap next r h
  simp only [yA] at h
  split at h
  ·simp at h
  rename_i x hx
  obtain ⟨fn, h1, h2, h3, h4, h5⟩ := hF g x hx
  have ih := od hE hF hM k
  have hX : E9 P G (fun g args heap next => match M g args heap next with | some r => some r | none => yA E G moves caps F M fuel k g args heap next) := by
   intro g args heap next r h
   dsimp only at h
   split at h
   ·rename_i r' hr'
    simp at h
    subst h
    exact hM _ _ _ _ _ hr'
   exact ih _ _ _ _ _ h
  split at h
  ·simp at h
  rename_i hlen
  have hlen := fW hlen
  have hent : (⟨wR 0 args, [], heap, next⟩ : ac).aw x.ntmps = enter x.ntmps args heap next := by
   simp only [ac.aw, enter]
   congr 1
   apply List.ext_getElem?
   intro i
   rw [kN, Nat.zero_add, qW, if_pos (Nat.zero_le _), Nat.sub_zero, List.getElem?_append]
   split
   ·split
    ·rename_i hi; unfold bp; rw [List.getElem?_eq_getElem hi]
    rename_i hi1 hi
    rw [List.getElem?_replicate, if_pos (by omega)]
    unfold bp
    rw [List.getElem?_eq_none (by omega)]
   rename_i hi
   rw [if_neg (by omega), List.getElem?_replicate, if_neg (by omega)]
  have key : ∀ e f, gW (fun g args heap next => match M g args heap next with | some r => some r | none => yA E G moves caps F M fuel k g args heap next) E G ⟨moves, x.ord, caps, rowsOf caps g⟩ x.ntmps x.live fuel x.code ⟨wR 0 args, [], heap, next⟩ = some (e, f) -> e = .ret ∨ e = .normal ->
    (match vG E x.ntmps x.results f with | some r => some (rT next r) | none => none) = some r -> aB P G g args heap next (XQ r) := by
   intro e f hx he hr
   cases hf : vG E x.ntmps x.results f with
   | none => rw [hf] at hr; simp at hr
   | some r0 =>
    rw [hf] at hr
    simp at hr
    subst hr
    apply aB.gc
    refine jo hE h1 h2 ?_
    intro _ _
    rw [h3, h4, ← hent]
    refine dU _ E G ⟨moves, x.ord, caps, rowsOf caps g⟩ x.ntmps hE hX x.live fuel x.code _ _ _ (by rw [dF]; exact h5) hx _ ?_
    have := pY (E := E) (rs := x.results) (s := f.aw x.ntmps) (r := r0) (by rw [Ce]; exact hf)
    rcases he with rfl | rfl <;> exact this
  split at h
  ·rename_i f hf; exact key _ _ hf (.inl rfl) h
  ·rename_i f hf; exact key _ _ hf (.inr rfl) h
  simp at h
end
end Go.Tp

namespace Go.Tp
variable {P : Program} {G : bE}
end Go.Tp

namespace Go.Tp
mutual
/-- Values that name no object. -/
def JH : ae -> Bool
 | .dat _ => true
 | .own _ => true
 | .ref _ => true
 | .undef => true
 | .agg cs => DW cs
 | .tup cs => DW cs
 | .fn _ x y => DW x && DW y
 | .ptr _ _ => false
 | .map _ => false
 | .win _ _ _ _ => false
def DW : List ae -> Bool
 | [] => true
 | a :: r => JH a && DW r
end
section
variable {w : World} {R : Own} {N N' : Name -> Option Nat}
mutual
theorem ak.nm : ∀ {a : ae} {v : Value} {bs : List Nat}, ak w R N a v bs -> JH a = true -> ak w R N' a v bs
 | .dat _, _, _, h, _ => by simp only [ak] at h ⊢; exact h
 | .own _, _, _, h, _ => by simp only [ak] at h ⊢; exact h
 | .ref _, _, _, h, _ => by simp only [ak] at h ⊢; exact h
 | .ptr _ _, _, _, _, hn => by simp [JH] at hn
 | .map _, _, _, _, hn => by simp [JH] at hn
 | .win _ _ _ _, _, _, _, hn => by simp [JH] at hn
 | .fn _ x y, _, _, h, hn => by
  simp only [JH, Bool.and_eq_true] at hn
  simp only [ak] at h ⊢
  obtain ⟨h1, vs, us, e, h2, h3⟩ := h
  exact ⟨h1, vs, us, e, aj.nm (l := x) h2 hn.1, aj.nm (l := y) h3 hn.2⟩
 | .agg cs, _, _, h, hn => by
  simp only [JH] at hn
  simp only [ak] at h ⊢
  obtain ⟨vs, e, h⟩ := h
  exact ⟨vs, e, aj.nm (l := cs) h hn⟩
 | .tup cs, _, _, h, hn => by
  simp only [JH] at hn
  simp only [ak] at h ⊢
  obtain ⟨vs, e, h⟩ := h
  exact ⟨vs, e, aj.nm (l := cs) h hn⟩
 | .undef, _, _, h, _ => by simp only [ak] at h ⊢; exact h
theorem aj.nm : ∀ {l : List ae} {vs : List Value} {bs : List Nat}, aj w R N l vs bs -> DW l = true -> aj w R N' l vs bs
 | [], _, _, h, _ => by simp only [aj] at h ⊢; exact h
 | a :: l, _, _, h, hn => by
  simp only [DW, Bool.and_eq_true] at hn
  simp only [aj] at h ⊢
  obtain ⟨v, vs', b1, b2, e1, e2, h1, h2⟩ := h
  exact ⟨v, vs', b1, b2, e1, e2, ak.nm (a := a) h1 hn.1, aj.nm (l := l) h2 hn.2⟩
end
end
/-- A call that looks at no object, and its value. -/
structure zo where
 fn : FuncId
 args : List ae
 val : ae
def zo.ok (m : zo) : Bool := DW m.args && JH m.val
def qs : List zo -> iI
 | [] => fun _ _ _ _ => none
 | m :: l => fun g args heap next =>
  match Nat.beq m.fn g with
  | false => qs l g args heap next
  | true => (match vH m.args args with
   | true => some ⟨m.val, heap, next⟩
   | false => qs l g args heap next)
variable {P : Program} {G : bE}
theorem FJ {m : zo} (hm : m.ok = true) (h : aB P G m.fn m.args [] 0 (XQ ⟨m.val, [], 0⟩)) (heap : Heap) (next : Nat) : aB P G m.fn m.args heap next (XQ ⟨m.val, heap, next⟩) := by
 unfold zo.ok at hm
 simp only [Bool.and_eq_true] at hm
 intro w R N cargs bsA bsH bsF hargs hheap hnd hnx hglob hF
 have h2 := h w R (fun _ => none) cargs bsA [] (bsH ++ bsF) (hargs.nm hm.1) (by simp [an]) (by simpa using hnd) (by intro o b ho; simp at ho) hglob (by
  intro b hb
  rcases List.mem_append.1 hb with hb | hb
  ·exact hheap.lt b hb
  exact hF b hb)
 refine h2.mono ?_
 rintro e w' ⟨v, cv, heap', next', R', N', bsV, bsH', rfl, ⟨rfl, rfl, rfl⟩, hv, hh, hnd', _, hk, _⟩
 have hH' : bsH' = [] := by simpa [an] using hh
 subst hH'
 exact ⟨_, cv, heap, next, R', N, bsV, bsH, rfl, ⟨rfl, rfl, rfl⟩, hv.nm hm.2, hheap.keep (hk.sub (by intro b hb; simp [hb])), by simpa using hnd', hnx, hk.sub (by intro b hb; simp [hb]), fun _ _ h => h⟩
theorem Ap : ∀ {l : List zo}, (∀ m ∈ l, m.ok = true /\ aB P G m.fn m.args [] 0 (XQ ⟨m.val, [], 0⟩)) -> E9 P G (qs l)
 | [], _ => by intro f args heap next r h; simp [qs] at h
 | m :: l, hall => by
  intro f args heap next r h
  have ih := Ap (l := l) fun m hm => hall m (by simp [hm])
  simp only [qs] at h
  split at h
  ·exact ih f args heap next r h
  rename_i hf
  have hf := Nat.eq_of_beq_eq_true hf
  split at h
  ·rename_i hc
   have h2 := gD hc
   subst hf
   subst h2
   simp only [Option.some.injEq] at h
   subst h
   obtain ⟨q1, q2⟩ := hall m (by simp)
   exact FJ q1 q2 heap next
  exact ih f args heap next r h
end Go.Tp

namespace Go.Tp
/-- A run, up to where it asks. -/
inductive Qy (α : Type) : Type where
 |fin (a : α)
 |fail
 /-- which truth value is this? -/
 |bool (t : Nat) (b : Bool) (k : Bool -> Qy α)
 /-- what does this operation give? -/
 |out (t : Nat) (o : Option Out) (k : Out -> Qy α)
 /-- what does this call give? -/
 |res (g : FuncId) (args : List ae) (heap : Heap) (next : Nat) (k : eW -> Qy α)
 /-- do the objects stay? -/
 |stay (h h' : Heap) (k : Qy α)
 /-- how does this loop end? -/
 |loop (n : Nat) (c : Code) (f : ac) (k : Exit × ac -> Qy α)
 /-- both orders -/
 |both (a b : Qy α)
section
variable (P : Program) (G : bE) {α : Type} (T : α -> Prop)
def Qy.qO : Qy α -> Prop
 | .fin a => T a
 | .fail => False
 | .bool _ b k => (k b).qO
 | .out _ o k => ∃ x, o = some x /\ (k x).qO
 | .res g args heap next k => aB P G g args heap next (fun v h m => lW v -> vI h -> (k ⟨v, h, m⟩).qO)
 | .stay h h' k => Pk h h' /\ k.qO
 | .loop n c f k => df P G (.loop c) (fun e s => ∃ f', s = f'.aw n /\ (k (e, f')).qO) (f.aw n)
 | .both a b => a.qO /\ b.qO
end
/-! ### The run -/
/-- What an operation is asked by. -/
def DO (o : Oper) : Nat :=
 match o.dst with
 | some t => t
 | none => (match o.op with
  | .store _ (.tmp u) _ => 100000 + u
  | .mapUpdate _ (.tmp u) _ _ => 100000 + u
  | .insert _ (.tmp u) _ _ => 100000 + u
  | .call c => (match c.args.toList with | .tmp u :: _ => 100000 + u | _ => 0)
  | _ => 0)
section
variable {α : Type} (A B : Nat -> Bool) (E : bq) (G : bE) (H : Hints) (n : Nat)
noncomputable def vB (d : Option Tmp) (f : ac) (k : ac -> Qy α) : Qy α :=
 match d with
 | none => k f
 | some t => (match A t with
  | true => (match pC n f t with
   | .dat (.flat (.bool b)) => .bool t b (fun b => k (jc f (some t) (.dat (.flat (.bool b)))))
   | _ => k f)
  | false => k f)
/-- The object of a row that grows. -/
def wh (out : Out) : Option aN :=
 match out with
 | ⟨_, eff⟩ => match eff with
  | .grow ob' _ _ => some ob'
  | _ => none
/-- .. which names no variable of the frame. -/
noncomputable def Cl (o : Oper) (k : Option Name) (f : ac) (out : Out) : Option ac :=
 match out with
 | ⟨_, eff⟩ => match eff with
  | .grow ob' sz len => (match f with
   | ⟨sl, locs, heap, next⟩ => match k with
    | some (.loc j) => some (jc ⟨sl, sI (.loc j) locs, (.out next, ob') :: heap, next + 1⟩ o.dst (.win (.out next) sz 0 len))
    | some (.out j) => some (jc ⟨sl, locs, (.out next, ob') :: sI (.out j) heap, next + 1⟩ o.dst (.win (.out next) sz 0 len))
    | none => some (jc ⟨sl, locs, (.out next, ob') :: heap, next + 1⟩ o.dst (.win (.out next) sz 0 len)))
  | _ => none
theorem J6 {o : Oper} {k : Option Name} {f f' : ac} {out : Out} {ob : aN} (h1 : wh out = some ob) (h2 : cS ob = true) (h3 : Cl o k f out = some f') : lL o k f out = some f' := by
 obtain ⟨val, eff⟩ := out
 obtain ⟨sl, locs, heap, next⟩ := f
 cases eff with
 | grow ob' sz len =>
  simp only [wh, Option.some.injEq] at h1
  subst h1
  rcases k with _ | ⟨_ | _⟩ <;> simp only [Cl] at h3 <;> simp only [lL, h2, if_true] <;> exact h3
 | _ => simp [wh] at h1
noncomputable def Dx (q take : Bool) (o : Oper) (f : ac) (k : ac -> Qy α) : Qy α :=
 match B (DO o) with
 | true => .out (DO o) (iR E take o.op (fF G n f (jL q o.op) 0 (opsL o.op)) (pj f o.op (fF G n f (jL q o.op) 0 (opsL o.op))))
   (fun out => match wh out with
    | some ob => .bool (DO o + 500000) (cS ob) (fun b => match b with
     | true => (match Cl o (looks o.op (fF G n f (jL q o.op) 0 (opsL o.op))) (se n f (jL q o.op) (opsL o.op)) out with
      | some f' => vB A n o.dst f' k
      | none => .fail)
     | false => .fail)
    | none => (match lL o (looks o.op (fF G n f (jL q o.op) 0 (opsL o.op))) (se n f (jL q o.op) (opsL o.op)) out with
     | some f' => vB A n o.dst f' k
     | none => .fail))
 | false => (match uR E G n q take o f with
  | some f' => vB A n o.dst f' k
  | none => .fail)
noncomputable def L2 (all : List Oper) (o : Oper) (f : ac) (k : ac -> Qy α) : Qy α :=
 match gm n all f o.guard with
 | none => .fail
 | some b => match b with
  | true =>
   (match cV o.op with
    | some c => (match pn E G H n c f with
     | some (g, args, f2) => .res g args f2.heap f2.next (fun r => vB A n o.dst (sg f2 r o.dst) k)
     | none => .fail)
    | none => Dx A B E G n (readOnly H.moves all o) (ku H all o) o f k)
  | false => k (jc f o.dst (.tup []))
noncomputable def L0 (all : List Oper) (ops : List Oper) : ac -> (ac -> Qy α) -> Qy α :=
 @List.rec Oper (fun _ => ac -> (ac -> Qy α) -> Qy α) (fun f k => k f) (fun o _ ih f k => L2 A B E G H n all o f (fun f' => ih f' k)) ops
noncomputable def L1 (fh : Bool) (tk : List Nat) (all : List Oper) (o : Oper) (f : ac) (k : ac -> Qy α) : Qy α :=
 match gm n all f o.guard with
 | none => .fail
 | some b => match b with
  | true =>
   (match cV o.op with
    | some c => (match lQ E G H n c f with
     | some (g, args, f2) => (match gq H o with
      | true => .res g args [] f2.next (fun r => match r with
       | ⟨v, [], m⟩ => vB A n o.dst (sg f2 ⟨v, f2.heap, m⟩ o.dst) k
       | _ => .fail)
      | false => .res g args f2.heap f2.next (fun r => match lm H o with
       | true => .stay f2.heap r.heap (vB A n o.dst (sg f2 r o.dst) k)
       | false => vB A n o.dst (sg f2 r o.dst) k))
     | none => .fail)
    | none => (match eQ o.op with
     | some t => (match kQ n fh all (fp all t (tI n tk t f)) f with
      | some f1 => Dx A B E G n false false o f1 k
      | none => .fail)
     | none => (match jA o.op with
      | true => Dx A B E G n (readOnly H.moves all o) (ku H all o) o f k
      | false => .fail)))
  | false => k (jc f o.dst (.tup []))
/-- A quiet operation's value. -/
noncomputable def Bw (fh : Bool) (all : List Oper) (o : Oper) (f : ac) (k : ae -> Qy α) : Qy α :=
 match B (DO o) with
 | true => (match gm n all f o.guard with
  | none => .fail
  | some b => match b with
   | true => (match mC o.op with
    | true => (match iR E false o.op [] none with | some _ => k .undef | none => .fail)
    | false => (match cV o.op with
     | some _ => .fail
     | none => (match im o.op && nO fh (looks o.op (fF G n f none 0 (opsL o.op))) with
      | true => .out (DO o) (iR E false o.op (fF G n f none 0 (opsL o.op)) (pj f o.op (fF G n f none 0 (opsL o.op)))) (fun out => match out with | ⟨v, .keep⟩ => k v | _ => .fail)
      | false => .fail)))
   | false => k (.tup []))
 | false => (match nY E G n fh all o f with
  | some a => k a
  | none => .fail)
noncomputable def Jy (tk : List Nat) (fh : Bool) (fq : Nat -> Bool) (all : List Oper) (l : List (Nat × Bool)) : ac -> (ac -> Qy α) -> Qy α :=
 @List.rec (Nat × Bool) (fun _ => ac -> (ac -> Qy α) -> Qy α) (fun f k => k f) (fun p _ ih f k =>
  match all[p.1]? with
  | none => .fail
  | some o => match p.2 with
   | true => L1 A B E G H n fh tk all o f (fun f' => ih f' k)
   | false => Bw B E G n (fh || fq p.1) all o f (fun a => vB A n o.dst (jc f o.dst a) (fun f' => ih f' k))) l
def HP (F : Nat -> Qy α) : Nat -> List Nat -> Qy α
 | i, [] => F i
 | i, j :: l => .both (F i) (HP F j l)
noncomputable def DB (all : List Oper) : Nat -> Array Bool -> ac -> (ac -> Qy α) -> Qy α
 | 0, listed, f, k => (match Region.ready .any all.toArray listed with
  | [] => k f
  | _ => .fail)
 | m + 1, listed, f, k => (match Region.ready .any all.toArray listed with
  | [] => k f
  | i :: l => HP (fun i => match all[i]? with
   | some o => L2 A B E G H n all o f (fun f' => DB all m (bK listed i) f' k)
   | none => .fail) i l)
noncomputable def Dz (h : az) (all : List Oper) (p : Array Bool) : Nat -> Array Bool -> ac -> (ac -> Qy α) -> Qy α
 | 0, listed, f, k => (match pD listed.toList p.toList with
  | true => k f
  | false => .fail)
 | m + 1, listed, f, k => (match pD listed.toList p.toList with
  | true => .fail
  | false => (match Region.ready .any all.toArray listed with
   | [] => .fail
   | i :: l => HP (fun i => match h.pre.contains (i, true) with
    | true => (match all[i]? with
     | some o => L1 A B E G H n (aO H all h.pre) h.tk all o f (fun f' => Dz h all p m (bK listed i) f' k)
     | none => .fail)
    | false => .fail) i l))
noncomputable def L7 (all : List Oper) (h : az) (f : ac) (k : ac -> Qy α) : Qy α :=
 match fG h with
 | true => DB A B E G H n all all.length (Array.replicate all.length false) f k
 | false => (match fZ h with
  | true => Jy A B E G H n (fj h).tk (aO H all (fj h).pre) (quietAt H all (fj h).pre) all (bL (fj h).pre) f (fun f1 =>
    Dz A B E G H n (fj h) all (dI (fj h).pre (Array.replicate all.length false)) ((fj h).pre.length - (bL (fj h).pre).length) (dI (bL (fj h).pre) (Array.replicate all.length false)) f1 (fun f0 =>
     match mH E n all (fj h).nw f0 with
     | some f2 => L0 A B E G H n all (dw all (fj h).tail) f2 k
     | none => .fail))
  | false => Jy A B E G H n h.tk (aO H all h.pre) (quietAt H all h.pre) all h.pre f (fun f1 =>
    match mH E n all h.nw f1 with
    | some f2 => L0 A B E G H n all (dw all h.tail) f2 k
    | none => .fail))
/-- Only the variables that are still in sight. -/
def sY : Sl -> List Name
 | [] => []
 | p :: r => M5 p.2 ++ sY r
def V6 (m : Name) : List Name -> Bool
 | [] => false
 | x :: r => match rC x m with | true => true | false => V6 m r
def DP (l : List Name) : Heap -> Heap
 | [] => []
 |(m, o) :: r => match V6 m l with | true => (m, o) :: DP l r | false => DP l r
def XO (f : ac) : ac :=
 match f with
 | ⟨sl, [], heap, next⟩ => ⟨sl, [], heap, next⟩
 | ⟨sl, p :: locs, heap, next⟩ => ⟨sl, DP (yK (p :: locs) (p :: locs).length (qJ (sY sl) [])) (p :: locs), heap, next⟩
/-- The number under which 'caps' says whether variables out of sight are dropped. -/
def Tu : FuncId := 4000000
def GS (caps : FuncId -> Bool) (f : ac) : ac := match caps Tu with | true => XO f | false => f
noncomputable def vP (live : Nat -> Nat) (id : Nat) (ops : Array Oper) (draw : Bool) (f : ac) (k : ac -> Qy α) : Qy α :=
 match draw with
 | true => L7 A B E G H n ops.toList (H.ord id) f (fun f' => match kc n (live id) (kb f' (fun l => dW l (live id))) with | some f2 => k (GS H.caps f2) | none => .fail)
 | false => L0 A B E G (H.at id) n ops.toList ops.toList f (fun f' => match kc n (live id) (kb f' (fun l => dW l (live id))) with | some f2 => k (GS H.caps f2) | none => .fail)
noncomputable def rm (live : Nat -> Nat) (c : Code) : ac -> (Exit × ac -> Qy α) -> Qy α :=
 Code.rec (motive := fun _ => ac -> (Exit × ac -> Qy α) -> Qy α)
  (skip := fun f k => k (.normal, f))
  (region := fun id ops draw f k => vP A B E G H n live id ops draw f (fun f => k (.normal, f)))
  (seq := fun _ _ ix iy f k => ix f (fun r => match r with
   |(.normal, f') => iy f' k
   | r => k r))
  (cond := fun c _ _ ix iy f k => (match nb G n f c with
   | .dat (.flat (.bool b)) => (match b with | true => ix f k | false => iy f k)
   | _ => .fail))
  (block := fun id _ ic f k => ic f (fun r => match r with
   |(.exit i, f') => (match Nat.beq i id with | true => k (.normal, f') | false => k (.exit i, f'))
   | r => k r))
  (loop := fun c _ f k => .loop n c f k)
  (rangeFunc := fun _ _ _ _ _ _ _ _ => .fail)
  (exit := fun id f k => k (.exit id, f))
  (scope := fun _ ic f k => ic f (fun r => match r with
   |(.goto _, _) => .fail
   | r => k r))
  (label := fun _ f k => k (.normal, f))
  (goto := fun _ _ _ => .fail)
  (ret := fun f k => k (.ret, f))
  (refuse := fun _ _ _ => .fail) c
end
noncomputable def L5 (A B : Nat -> Bool) (E : bq) (G : bE) (moves caps : FuncId -> Bool) (x : lY) (g : FuncId) (args : List ae) (heap : Heap) (next : Nat) : Qy eW :=
 match Nat.ble args.length x.ntmps with
 | false => .fail
 | true => rm A B E G ⟨moves, x.ord, caps, rowsOf caps g⟩ x.ntmps x.live x.code ⟨wR 0 args, [], heap, next⟩ (fun r => match r with
  |(.ret, f) => (match vG E x.ntmps x.results f with | some r => .fin (rT next r) | none => .fail)
  |(.normal, f) => (match vG E x.ntmps x.results f with | some r => .fin (rT next r) | none => .fail)
  | _ => .fail)
/-! ### Soundness -/
section
variable {P : Program} {E : bq} {G : bE} {H : Hints} {n : Nat} {α : Type} {A B : Nat -> Bool} {T : α -> Prop}
theorem uc {all : List Oper} {o : Oper} {K K' : aa -> Prop} {s : aa} (hk : ∀ s, K s -> K' s) (h : lx (aB P G) E G H all o K s) : lx (aB P G) E G H all o K' s := by
 unfold lx at h ⊢
 split
 ·rename_i hw; simp [hw] at h
 rename_i b hw
 simp only [hw] at h
 split
 ·rename_i hb
  simp only [hb, if_true] at h
  split
  ·rename_i c hc
   simp only [hc] at h
   split
   ·rename_i f args s2 ha
    simp only [ha] at h
    exact h.mono fun v heap n hq h1 h2 => hk _ (hq h1 h2)
   rename_i ha
   simp [ha] at h
  rename_i hc
  simp only [hc] at h
  split
  ·rename_i s' hs'
   simp only [hs'] at h
   exact hk _ h
  rename_i hs'; simp [hs'] at h
 rename_i hb
 simp only [hb] at h
 exact hk _ h
/-- After a state, the run goes on. -/
def sN (P : Program) (G : bE) (n : Nat) (T : α -> Prop) (k : ac -> Qy α) (s : aa) : Prop := ∃ f', s = f'.aw n /\ (k f').qO P G T
theorem kG {d : Option Tmp} {f : ac} {k : ac -> Qy α} (h : (vB A n d f k).qO P G T) : sN P G n T k (f.aw n) := by
 unfold vB at h
 cases d with
 | none => exact ⟨f, rfl, h⟩
 | some t =>
  dsimp only at h
  split at h
  ·split at h
   ·rename_i b hb
    refine ⟨jc f (some t) (.dat (.flat (.bool b))), ?_, h⟩
    rw [dT]
    rw [← iP] at hb
    unfold aa.put
    dsimp only
    have hb2 : (f.aw n).tmps[t]? = some (.dat (.flat (.bool b))) := by
     unfold bp at hb
     cases he : (f.aw n).tmps[t]? with
     | none => rw [he] at hb; simp at hb
     | some v => rw [he] at hb; simpa using hb
    rw [wZ hb2]
   exact ⟨f, rfl, h⟩
  exact ⟨f, rfl, h⟩
theorem xD {q take : Bool} {o : Oper} {f : ac} {k : ac -> Qy α} (h : (Dx A B E G n q take o f k).qO P G T) : ∃ s', cK E G q take o (f.aw n) = some s' /\ sN P G n T k s' := by
 rw [rV]
 unfold Dx at h
 split at h
 ·obtain ⟨out, ho, h⟩ := h
  dsimp only at h
  split at h
  ·rename_i ob hob
   have h : (match cS ob with
     | true => (match Cl o (looks o.op (fF G n f (jL q o.op) 0 (opsL o.op))) (se n f (jL q o.op) (opsL o.op)) out with
      | some f' => vB A n o.dst f' k
      | none => .fail)
     | false => .fail : Qy α).qO P G T := h
   cases hn : cS ob with
   | false => rw [hn] at h; exact h.elim
   | true =>
    rw [hn] at h
    dsimp only at h
    split at h
    ·rename_i f' hf'
     refine ⟨f'.aw n, ?_, kG h⟩
     unfold uR Cd
     rw [ho]
     dsimp only
     rw [J6 hob hn hf']; rfl
    exact h.elim
  split at h
  ·rename_i f' hf'
   refine ⟨f'.aw n, ?_, kG h⟩
   unfold uR Cd
   rw [ho]
   dsimp only
   rw [hf']; rfl
  exact h.elim
 split at h
 ·rename_i f' hf'
  exact ⟨f'.aw n, by rw [hf']; rfl, kG h⟩
 exact h.elim
theorem HN {all : List Oper} {o : Oper} {f : ac} {k : ac -> Qy α} (h : (L2 A B E G H n all o f k).qO P G T) : lx (aB P G) E G H all o (sN P G n T k) (f.aw n) := by
 unfold L2 at h
 unfold lx
 rw [jZ]
 cases hw : gm n all f o.guard with
 | none => rw [hw] at h; exact h.elim
 | some b =>
  rw [hw] at h
  cases b with
  | false =>
   dsimp only at h ⊢
   rw [if_neg (by simp)]
   exact ⟨_, by rw [dT], h⟩
  | true =>
   dsimp only at h ⊢
   rw [if_pos rfl]
   cases hc : cV o.op with
   | none =>
    rw [hc] at h
    dsimp only at h ⊢
    obtain ⟨s', h1, h2⟩ := xD h
    rw [h1]
    exact h2
   | some c =>
    rw [hc] at h
    dsimp only at h ⊢
    rw [yz]
    cases hcal : pn E G H n c f with
    | none => rw [hcal] at h; exact h.elim
    | some x =>
     obtain ⟨g, args, f2⟩ := x
     rw [hcal] at h
     dsimp only [Option.map_some] at h ⊢
     refine aB.mono h ?_
     intro v hh m hq b1 b2
     have := kG (hq b1 b2)
     rw [kd] at this
     exact this
theorem vR {all : List Oper} {k : ac -> Qy α} : ∀ {ops : List Oper} {f : ac}, (L0 A B E G H n all ops f k).qO P G T -> lv (aB P G) E G H all (sN P G n T k) ops (f.aw n)
 | [], f, h => ⟨f, rfl, h⟩
 | o :: rest, f, h => by
  have h : (L2 A B E G H n all o f (fun f' => L0 A B E G H n all rest f' k)).qO P G T := h
  simp only [lv, hO]
  refine uc ?_ (HN h)
  rintro s ⟨f', rfl, h'⟩
  exact vR h'
theorem HM {fh : Bool} {tk : List Nat} {all : List Oper} {o : Oper} {f : ac} {k : ac -> Qy α} (h : (L1 A B E G H n fh tk all o f k).qO P G T) : JD (aB P G) E G H fh tk all o (sN P G n T k) (f.aw n) := by
 unfold L1 at h
 unfold JD
 rw [jZ]
 cases hw : gm n all f o.guard with
 | none => rw [hw] at h; exact h.elim
 | some b =>
  rw [hw] at h
  cases b with
  | false =>
   dsimp only at h ⊢
   rw [if_neg (by simp)]
   exact ⟨_, by rw [dT], h⟩
  | true =>
   dsimp only at h ⊢
   rw [if_pos rfl]
   cases hc : cV o.op with
   | none =>
    rw [hc] at h
    dsimp only at h ⊢
    cases ht : eQ o.op with
    | none =>
     rw [ht] at h
     dsimp only at h ⊢
     cases hst : jA o.op with
     | false => rw [hst] at h; exact h.elim
     | true =>
      rw [hst] at h
      dsimp only at h ⊢
      obtain ⟨s', h1, h2⟩ := xD h
      rw [h1]
      exact h2
    | some t =>
     rw [ht] at h
     dsimp only at h ⊢
     rw [AI]
     cases hs : kQ n fh all (fp all t (tI n tk t f)) f with
     | none => rw [hs] at h; exact h.elim
     | some f1 =>
      rw [hs] at h
      rw [mG n fh all _ _ _ hs]
      dsimp only at h ⊢
      obtain ⟨s', h1, h2⟩ := xD h
      rw [h1]
      exact h2
   | some c =>
    rw [hc] at h
    dsimp only at h ⊢
    rw [uZ]
    cases hcal : lQ E G H n c f with
    | none => rw [hcal] at h; exact h.elim
    | some x =>
     obtain ⟨g, args, f2⟩ := x
     rw [hcal] at h
     dsimp only [Option.map_some] at h ⊢
     cases hpu : gq H o with
     | true =>
      rw [hpu] at h
      dsimp only at h ⊢
      refine aB.mono h ?_
      intro v hh m hq b1 b2
      have hq := hq b1 b2
      dsimp only at hq
      cases hh with
      | nil =>
       dsimp only at hq
       have := kG hq
       rw [kd] at this
       exact ⟨rfl, this⟩
      | cons _ _ => exact hq.elim
     | false =>
      rw [hpu] at h
      dsimp only at h ⊢
      refine aB.mono h ?_
      intro v hh m hq b1 b2
      have hq := hq b1 b2
      cases hrd : lm H o with
      | true =>
       rw [hrd] at hq
       dsimp only at hq
       obtain ⟨q1, q2⟩ := hq
       have := kG q2
       rw [kd] at this
       exact ⟨fun _ => q1, this⟩
      | false =>
       rw [hrd] at hq
       dsimp only at hq
       have := kG hq
       rw [kd] at this
       exact ⟨fun hx => by simp at hx, this⟩
theorem Jw {fh : Bool} {all : List Oper} {o : Oper} {f : ac} {k : ae -> Qy α} (h : (Bw B E G n fh all o f k).qO P G T) : ∃ a, nY E G n fh all o f = some a /\ (k a).qO P G T := by
 unfold Bw at h
 split at h
 ·unfold nY
  split at h
  ·exact h.elim
  rename_i b hw
  rw [hw]
  dsimp only
  cases b with
  | false => exact ⟨_, rfl, h⟩
  | true =>
   rw [if_pos rfl]
   dsimp only at h
   split at h
   ·rename_i hal
    rw [if_pos hal]
    split at h
    ·rename_i x hx
     rw [hx]
     exact ⟨_, rfl, h⟩
    exact h.elim
   rename_i hal
   rw [if_neg (by simp [hal])]
   split at h
   ·exact h.elim
   rename_i hc
   rw [hc]
   dsimp only
   split at h
   ·rename_i hq
    rw [if_pos hq]
    obtain ⟨out, ho, h⟩ := h
    rw [ho]
    dsimp only at h ⊢
    split at h
    ·exact ⟨_, rfl, h⟩
    exact h.elim
   exact h.elim
 split at h
 ·rename_i a ha
  exact ⟨a, ha, h⟩
 exact h.elim
theorem Jx {tk : List Nat} {fh : Bool} {fq : Nat -> Bool} {all : List Oper} {i : Nat} {lone : Bool} {rest : List (Nat × Bool)} {f : ac} {k : ac -> Qy α} : Jy A B E G H n tk fh fq all ((i, lone) :: rest) f k = (match all[i]? with
  | none => .fail
  | some o => match lone with
   | true => L1 A B E G H n fh tk all o f (fun f' => Jy A B E G H n tk fh fq all rest f' k)
   | false => Bw B E G n (fh || fq i) all o f (fun a => vB A n o.dst (jc f o.dst a) (fun f' => Jy A B E G H n tk fh fq all rest f' k))) := rfl
theorem vQ {tk : List Nat} {fh : Bool} {fq : Nat -> Bool} {all : List Oper} {k : ac -> Qy α} {K : aa -> Prop} (hK : ∀ s, sN P G n T k s -> K s) : ∀ {l : List (Nat × Bool)} {f : ac}, (Jy A B E G H n tk fh fq all l f k).qO P G T -> kX (aB P G) E G H tk fh fq all K l (f.aw n)
 | [], f, h => hK _ ⟨f, rfl, h⟩
 |(i, lone) :: rest, f, h => by
  rw [Jx] at h
  simp only [kX, hO]
  cases hi : all[i]? with
  | none => rw [hi] at h; exact h.elim
  | some o =>
   rw [hi] at h
   cases lone
   ·dsimp only at h ⊢
    rw [if_neg (by simp), AJ]
    obtain ⟨a, h1, h2⟩ := Jw h
    rw [h1]
    dsimp only
    rw [← dT]
    obtain ⟨f', e, h'⟩ := kG h2
    rw [e]
    exact vQ hK h'
   dsimp only at h ⊢
   rw [if_pos rfl]
   refine nH ?_ (HM h)
   rintro s ⟨f', rfl, h'⟩
   exact vQ hK h'
theorem xE {F : Nat -> Qy α} : ∀ {l : List Nat} {i : Nat}, (HP F i l).qO P G T -> ∀ j ∈ i :: l, (F j).qO P G T
 | [], i, h, j, hj => by simp at hj; subst hj; exact h
 | x :: l, i, h, j, hj => by
  obtain ⟨h1, h2⟩ := h
  rcases List.mem_cons.1 hj with rfl | hj
  ·exact h1
  exact xE h2 j hj
theorem DA {all : List Oper} {k : ac -> Qy α} : ∀ (m : Nat) (listed : Array Bool) (f : ac), (DB A B E G H n all m listed f k).qO P G T -> ng (aB P G) E G H all (sN P G n T k) m listed (f.aw n)
 | 0, listed, f, h => by
  simp only [DB] at h
  split at h
  ·rename_i he
   exact ⟨he, f, rfl, h⟩
  exact h.elim
 | m + 1, listed, f, h => by
  simp only [DB] at h
  simp only [ng]
  split at h
  ·rename_i he
   exact .inl ⟨he, f, rfl, h⟩
  rename_i i l he
  refine .inr ⟨by rw [he]; simp, ?_⟩
  rw [he]
  intro j hj
  have h1 := xE h j hj
  split at h1
  ·rename_i o ho
   refine ⟨o, ho, uc ?_ (HN h1)⟩
   rintro s ⟨f', rfl, h'⟩
   exact DA m _ f' h'
  exact h1.elim
theorem zh {all : List Oper} {Q Q' : aa -> Prop} (hq : ∀ s, Q s -> Q' s) : ∀ (m : Nat) (listed : Array Bool) (s : aa), ng (aB P G) E G H all Q m listed s -> ng (aB P G) E G H all Q' m listed s
 | 0, listed, s, h => ⟨h.1, hq _ h.2⟩
 | m + 1, listed, s, h => by
  simp only [ng] at h ⊢
  rcases h with h | h
  ·exact .inl ⟨h.1, hq _ h.2⟩
  refine .inr ⟨h.1, fun i hi => ?_⟩
  obtain ⟨o, ho, hh⟩ := h.2 i hi
  exact ⟨o, ho, uc (fun s hs => zh hq m _ s hs) hh⟩
theorem Dy {h : az} {all : List Oper} {p : Array Bool} {k : ac -> Qy α} {K : aa -> Prop} (hK : ∀ s, sN P G n T k s -> K s) : ∀ (m : Nat) (listed : Array Bool) (f : ac), (Dz A B E G H n h all p m listed f k).qO P G T -> ud (aB P G) E G H h all p K m listed (f.aw n)
 | 0, listed, f, hh => by
  simp only [Dz] at hh
  split at hh
  ·rename_i he
   exact ⟨Array.ext' (jN.1 he), hK _ ⟨f, rfl, hh⟩⟩
  exact hh.elim
 | m + 1, listed, f, hh => by
  simp only [Dz] at hh
  split at hh
  ·exact hh.elim
  rename_i hne
  split at hh
  ·exact hh.elim
  rename_i i l he
  refine ⟨fun e => ?_, by rw [he]; simp, fun j hj => ?_⟩
  ·rw [e, jN.2 rfl] at hne
   simp at hne
  rw [he] at hj
  have h1 := xE hh j hj
  split at h1
  ·rename_i hc
   refine ⟨by simpa using hc, ?_⟩
   split at h1
   ·rename_i o ho
    refine ⟨o, ho, nH ?_ (HM h1)⟩
    rintro s ⟨f', rfl, h'⟩
    exact Dy hK m _ f' h'
   exact h1.elim
  exact h1.elim
theorem L6 {all : List Oper} {h : az} {f : ac} {k : ac -> Qy α} (hh : (L7 A B E G H n all h f k).qO P G T) : zj (aB P G) E G H all h (sN P G n T k) (f.aw n) := by
 unfold L7 at hh
 unfold zj
 cases hx : fG h with
 | true =>
  rw [hx] at hh
  dsimp only at hh
  rw [if_pos rfl]
  refine zh ?_ _ _ _ (DA _ _ _ hh)
  intro s hs
  exact ⟨s, hs, fun w R N tmps bsT bsL bsH bsF hr => ⟨N, bsT, bsL, bsH, hr, fun _ _ _ h => h⟩⟩
 | false =>
  rw [hx] at hh
  dsimp only at hh
  rw [if_neg (by simp)]
  cases hlm : fZ h with
  | true =>
   rw [hlm] at hh
   dsimp only at hh
   rw [if_pos rfl]
   unfold zi
   refine vQ ?_ hh
   rintro s ⟨f1, rfl, h1⟩
   refine Dy ?_ _ _ _ h1
   rintro s ⟨f0, rfl, h0⟩
   dsimp only at h0
   split at h0
   ·rename_i f2 hf2
    rw [jB E n all _ f0 f2 hf2]
    exact vR h0
   exact h0.elim
  | false =>
   rw [hlm] at hh
   dsimp only at hh
   rw [if_neg (by simp)]
   refine vQ ?_ hh
   rintro s ⟨f1, rfl, h1⟩
   dsimp only at h1
   split at h1
   ·rename_i f2 hf2
    rw [jB E n all _ f1 f2 hf2]
    exact vR h1
   exact h1.elim
theorem Ei (f : ac) (m : Nat) : gH G (f.aw n) ((kb f (fun l => dW l m)).aw n) := by
 intro w R N tmps bsT bsL bsH bsF hr
 obtain ⟨bsT', hr'⟩ := hr.prune m
 exact ⟨R, N, bsT', bsL, bsH, hr', bg _, fun _ _ h => h⟩
theorem Aw {w : World} {R : Own} {M : Name -> Option Nat} (l : List Name) : ∀ {os : Heap} {bs : List Nat}, an w R M os bs -> ∃ bs', an w R M (DP l os) bs' /\ bs'.Sublist bs
 | [], bs, h => ⟨bs, h, .refl _⟩
 |(m, o) :: os, _, ⟨b, b1, b2, e, hn, ho, hr⟩ => by
  subst e
  obtain ⟨bs', k1, k2⟩ := Aw l hr
  simp only [DP]
  split
  ·exact ⟨b :: (b1 ++ bs'), ⟨b, b1, bs', rfl, hn, ho, k1⟩, (List.Sublist.append (.refl _) k2).cons_cons _⟩
  exact ⟨bs', k1, k2.trans ((List.sublist_append_right b1 b2).cons _)⟩
theorem J0 (caps : FuncId -> Bool) (f : ac) : gH G (f.aw n) ((GS caps f).aw n) := by
 unfold GS
 split
 ·obtain ⟨sl, locs, heap, next⟩ := f
  cases locs with
  | nil => exact gH.refl _ _
  | cons p locs =>
   intro w R N tmps bsT bsL bsH bsF hr
   obtain ⟨bs', k1, k2⟩ := Aw (yK (p :: locs) (p :: locs).length (qJ (sY sl) [])) hr.locs
   refine ⟨R, N, bsT, bs', bsH, ⟨aP _, hr.tmps, k1, hr.heap, ?_, hr.next, hr.glob, hr.frame⟩, bg _, fun _ _ h => h⟩
   refine List.Nodup.sublist ?_ hr.nodup
   exact List.Sublist.append (.refl _) (List.Sublist.append (.refl _) (List.Sublist.append k2 (.refl _)))
 exact gH.refl _ _
theorem sK {c : Code} {s : aa} {Q Q' : Exit -> aa -> Prop} (h : df P G c Q s) (hg : ∀ e s1, Q e s1 -> ∃ s2, gH G s1 s2 /\ Q' e s2) : df P G c Q' s := by
 intro w R N act bsT bsL bsH bsF hr D hd
 refine wp_mono (h w R N act bsT bsL bsH bsF hr hd) ?_
 rintro e a w' ⟨s', R', N', bsT', bsL', bsH', hq, hr', hd', hk, hN⟩
 obtain ⟨s2, hg, hq2⟩ := hg e s' hq
 obtain ⟨R2, N2, t2, l2, h2, hr2, hk2, hN2⟩ := hg _ _ _ _ _ _ _ _ hr'
 exact ⟨s2, R2, N2, t2, l2, h2, hq2, hr2, hd', hk.trans hk2, fun o b ho => hN2 o b (hN o b ho)⟩
theorem FG (hE : E.Ok P) {live : Nat -> Nat} {id : Nat} {ops : Array Oper} {draw : Bool} {f : ac} {k : ac -> Qy α} (hc : cF H (.region id ops draw) = true) (h : (vP A B E G H n live id ops draw f k).qO P G T) :
  df P G (.region id ops draw) (fun e s => e = .normal /\ sN P G n T k s) (f.aw n) := by
 have key : ∀ s1, sN P G n T (fun f' => match kc n (live id) (kb f' (fun l => dW l (live id))) with | some f2 => k (GS H.caps f2) | none => .fail) s1 -> ∃ s2, gH G s1 s2 /\ sN P G n T k s2 := by
  rintro s1 ⟨f1, rfl, h1⟩
  dsimp only at h1
  split at h1
  ·rename_i f2 hf2
   exact ⟨_, ((Ei f1 (live id)).trans (mK G hf2)).trans (J0 H.caps f2), _, rfl, h1⟩
  exact h1.elim
 unfold vP at h
 cases draw
 ·dsimp only at h
  refine sK (sJ (H := H.at id) (Q := fun e s => e = .normal /\ sN P G n T (fun f' => match kc n (live id) (kb f' (fun l => dW l (live id))) with | some f2 => k (GS H.caps f2) | none => .fail) s) hE ?_) ?_
  ·have := vR h
   simpa using this
  rintro e s1 ⟨rfl, h1⟩
  obtain ⟨s2, g, h2⟩ := key s1 h1
  exact ⟨s2, g, rfl, h2⟩
 dsimp only at h
 refine sK (zl (H := H) (Q := fun e s => e = .normal /\ sN P G n T (fun f' => match kc n (live id) (kb f' (fun l => dW l (live id))) with | some f2 => k (GS H.caps f2) | none => .fail) s) hE hE.mixed (by simpa [cF] using hc) ?_) ?_
 ·have := L6 h
  simpa using this
 rintro e s1 ⟨rfl, h1⟩
 obtain ⟨s2, g, h2⟩ := key s1 h1
 exact ⟨s2, g, rfl, h2⟩
/-- After an exit, the run goes on. -/
def Xs (P : Program) (G : bE) (n : Nat) (T : α -> Prop) (k : Exit × ac -> Qy α) (e : Exit) (s : aa) : Prop := ∃ f', s = f'.aw n /\ (k (e, f')).qO P G T
theorem Bx {live : Nat -> Nat} {id : Nat} {ops : Array Oper} {draw : Bool} {f : ac} {k : Exit × ac -> Qy α} : rm A B E G H n live (.region id ops draw) f k = vP A B E G H n live id ops draw f (fun f => k (.normal, f)) := rfl
theorem gQ (hE : E.Ok P) (live : Nat -> Nat) : ∀ (c : Code) (f : ac) (k : Exit × ac -> Qy α), cF H c = true -> (rm A B E G H n live c f k).qO P G T -> df P G c (Xs P G n T k) (f.aw n)
 | .skip, f, k, _, h => fK wp_skip ⟨f, rfl, h⟩
 | .region id ops draw, f, k, hc, h => by
  rw [Bx] at h
  refine (FG hE hc h).mono ?_
  rintro e s ⟨rfl, f', rfl, h'⟩
  exact ⟨f', rfl, h'⟩
 | .seq x y, f, k, hc, h => by
  simp only [cF, Bool.and_eq_true] at hc
  refine Ba ?_
  refine (gQ hE live x f (fun r => match r with | (.normal, f') => rm A B E G H n live y f' k | r => k r) hc.1 h).mono ?_
  rintro e s ⟨f', rfl, h'⟩
  cases e with
  | normal => exact gQ hE live y f' k hc.2 h'
  | _ => exact ⟨f', rfl, h'⟩
 | .cond c x y, f, k, hc, h => by
  simp only [cF, Bool.and_eq_true] at hc
  intro w R N act bsT bsL bsH bsF hr D hd
  have h : (match nb G n f c with
   | .dat (.flat (.bool b)) => (match b with | true => rm A B E G H n live x f k | false => rm A B E G H n live y f k)
   | _ => .fail).qO P G T := h
  split at h
  ·rename_i b hb
   obtain ⟨bs, he⟩ := om hr.tmps hr.glob c
   rw [lP, hb] at he
   obtain ⟨_, he, _⟩ := aF he
   refine wp_cond he ?_
   cases b
   ·exact gQ hE live y f k hc.2 h w R N act bsT bsL bsH bsF hr hd
   exact gQ hE live x f k hc.1 h w R N act bsT bsL bsH bsF hr hd
  exact h.elim
 | .block id c, f, k, hc, h => by
  simp only [cF] at hc
  intro w R N act bsT bsL bsH bsF hr D hd
  apply wp_block
  refine wp_mono (gQ hE live c f (fun r => match r with
   |(.exit i, f') => (match Nat.beq i id with | true => k (.normal, f') | false => k (.exit i, f'))
   | r => k r) hc h w R N act bsT bsL bsH bsF hr hd) ?_
  rintro e2 a w' ⟨s2, R', N', bsT', bsL', bsH', ⟨f', rfl, h'⟩, rest⟩
  cases e2 with
  | exit i =>
   simp only [Exit.inBlock]
   dsimp only at h'
   by_cases hi : i = id
   ·have hb : Nat.beq i id = true := by rw [Nat.beq_eq]; exact hi
    rw [if_pos hi]
    rw [hb] at h'
    exact ⟨_, R', N', bsT', bsL', bsH', ⟨f', rfl, h'⟩, rest⟩
   have hb : Nat.beq i id = false := by rw [Bool.eq_false_iff]; intro hc; rw [Nat.beq_eq] at hc; exact hi hc
   rw [if_neg hi]
   rw [hb] at h'
   exact ⟨_, R', N', bsT', bsL', bsH', ⟨f', rfl, h'⟩, rest⟩
  | _ => exact ⟨_, R', N', bsT', bsL', bsH', ⟨f', rfl, h'⟩, rest⟩
 | .exit id, f, k, _, h => fK wp_exit ⟨f, rfl, h⟩
 | .ret, f, k, _, h => fK wp_ret ⟨f, rfl, h⟩
 | .loop c, f, k, _, h => h
 | .rangeFunc _ _ _ _, _, _, _, h => h.elim
 | .scope c, f, k, hc, h => by
  simp only [cF] at hc
  intro w R N act bsT bsL bsH bsF hr D hd
  apply wp_scope_straight
  refine wp_mono (gQ hE live c f (fun r => match r with
   |(.goto _, _) => .fail
   | r => k r) hc h w R N act bsT bsL bsH bsF hr hd) ?_
  rintro e2 a w' ⟨s2, R', N', bsT', bsL', bsH', ⟨f', rfl, h'⟩, rest⟩
  cases e2 with
  | goto l => exact h'.elim
  | _ => exact ⟨_, R', N', bsT', bsL', bsH', ⟨f', rfl, h'⟩, rest⟩
 | .label _, f, k, _, h => fK wp_label ⟨f, rfl, h⟩
 | .goto _, _, _, _, h => h.elim
 | .refuse _, _, _, _, h => h.elim
end
/-- The same, as a word of its own: it is not reckoned out where it stands as a goal. -/
structure Qy.Ok {α : Type} (P : Program) (G : bE) (T : α -> Prop) (q : Qy α) : Prop where
 ok : q.qO P G T
end Go.Tp

namespace Go.Tp
mutual
def fS (ρ : Nat -> Nat) : ae -> ae
 | .ptr (.out o) off => .ptr (.out (ρ o)) off
 | .map (.out o) => .map (.out (ρ o))
 | .win (.out o) s off len => .win (.out (ρ o)) s off len
 | .fn f a b => .fn f (iL ρ a) (iL ρ b)
 | .agg cs => .agg (iL ρ cs)
 | .tup cs => .tup (iL ρ cs)
 | a => a
def iL (ρ : Nat -> Nat) : List ae -> List ae
 | [] => []
 | a :: r => fS ρ a :: iL ρ r
end
def re (ρ : Nat -> Nat) : aN -> aN
 | .cells cs => .cells (iL ρ cs)
 | .map es => .map es
def Af (ρ : Nat -> Nat) : Name -> Name
 | .out o => .out (ρ o)
 | m => m
def pz (ρ : Nat -> Nat) : Heap -> Heap
 | [] => []
 |(m, o) :: r => (Af ρ m, re ρ o) :: pz ρ r
section
variable {w : World} {R : Own} {M M2 : Name -> Option Nat} {ρ : Nat -> Nat}
mutual
theorem ak.rn (hL : ∀ i, M (.loc i) = none) (hM : ∀ o b, M (.out o) = some b -> M2 (.out (ρ o)) = some b) : ∀ {a : ae} {v : Value} {bs : List Nat}, ak w R M a v bs -> ak w R M2 (fS ρ a) v bs
 | .dat _, _, _, h => by simp only [fS, ak] at h ⊢; exact h
 | .own _, _, _, h => by simp only [fS, ak] at h ⊢; exact h
 | .ref _, _, _, h => by simp only [fS, ak] at h ⊢; exact h
 | .undef, _, _, h => by simp only [fS, ak] at h ⊢; exact h
 | .ptr (.loc i) _, _, _, h => by simp only [ak] at h; obtain ⟨_, b, h2, _⟩ := h; rw [hL] at h2; simp at h2
 | .map (.loc i), _, _, h => by simp only [ak] at h; obtain ⟨_, b, h2, _⟩ := h; rw [hL] at h2; simp at h2
 | .win (.loc i) _ _ _, _, _, h => by simp only [ak] at h; obtain ⟨_, b, cap, h2, _⟩ := h; rw [hL] at h2; simp at h2
 | .ptr (.out o) off, _, _, h => by
  simp only [fS, ak] at h ⊢
  obtain ⟨h1, b, h2, h3⟩ := h
  exact ⟨h1, b, hM o b h2, h3⟩
 | .map (.out o), _, _, h => by
  simp only [fS, ak] at h ⊢
  obtain ⟨h1, b, h2, h3⟩ := h
  exact ⟨h1, b, hM o b h2, h3⟩
 | .win (.out o) s off len, _, _, h => by
  simp only [fS, ak] at h ⊢
  obtain ⟨h1, b, cap, h2, h3⟩ := h
  exact ⟨h1, b, cap, hM o b h2, h3⟩
 | .fn f a b, _, _, h => by
  simp only [fS, ak] at h ⊢
  obtain ⟨h1, vs, us, e, h2, h3⟩ := h
  exact ⟨h1, vs, us, e, aj.rn hL hM h2, aj.rn hL hM h3⟩
 | .agg cs, _, _, h => by
  simp only [fS, ak] at h ⊢
  obtain ⟨vs, e, h⟩ := h
  exact ⟨vs, e, aj.rn hL hM h⟩
 | .tup cs, _, _, h => by
  simp only [fS, ak] at h ⊢
  obtain ⟨vs, e, h⟩ := h
  exact ⟨vs, e, aj.rn hL hM h⟩
theorem aj.rn (hL : ∀ i, M (.loc i) = none) (hM : ∀ o b, M (.out o) = some b -> M2 (.out (ρ o)) = some b) : ∀ {as : List ae} {vs : List Value} {bs : List Nat}, aj w R M as vs bs -> aj w R M2 (iL ρ as) vs bs
 | [], _, _, h => by simp only [iL, aj] at h ⊢; exact h
 | a :: r, _, _, h => by
  simp only [iL, aj] at h ⊢
  obtain ⟨v, vs', b1, b2, e1, e2, h1, h2⟩ := h
  exact ⟨v, vs', b1, b2, e1, e2, ak.rn hL hM h1, aj.rn hL hM h2⟩
end
/-! .. and back. -/
mutual
theorem ak.gN {k : Nat} (hM : ∀ o b, o < k -> M2 (.out (ρ o)) = some b -> M (.out o) = some b) : ∀ {a : ae} {v : Value} {bs : List Nat}, dL k a = false -> ak w R M2 (fS ρ a) v bs -> ak w R M a v bs
 | .dat _, _, _, _, h => by simp only [fS, ak] at h ⊢; exact h
 | .own _, _, _, _, h => by simp only [fS, ak] at h ⊢; exact h
 | .ref _, _, _, _, h => by simp only [fS, ak] at h ⊢; exact h
 | .undef, _, _, _, h => by simp only [fS, ak] at h ⊢; exact h
 | .ptr (.loc _) _, _, _, hn, _ => by simp [dL] at hn
 | .map (.loc _), _, _, hn, _ => by simp [dL] at hn
 | .win (.loc _) _ _ _, _, _, hn, _ => by simp [dL] at hn
 | .ptr (.out o) off, _, _, hn, h => by
  simp only [dL] at hn
  have ho : o < k := by
   cases Nat.lt_or_ge o k with
   | inl h => exact h
   | inr h => rw [hJ h] at hn; simp at hn
  simp only [fS, ak] at h ⊢
  obtain ⟨h1, b, h2, h3⟩ := h
  exact ⟨h1, b, hM o b ho h2, h3⟩
 | .map (.out o), _, _, hn, h => by
  simp only [dL] at hn
  have ho : o < k := by
   cases Nat.lt_or_ge o k with
   | inl h => exact h
   | inr h => rw [hJ h] at hn; simp at hn
  simp only [fS, ak] at h ⊢
  obtain ⟨h1, b, h2, h3⟩ := h
  exact ⟨h1, b, hM o b ho h2, h3⟩
 | .win (.out o) s off len, _, _, hn, h => by
  simp only [dL] at hn
  have ho : o < k := by
   cases Nat.lt_or_ge o k with
   | inl h => exact h
   | inr h => rw [hJ h] at hn; simp at hn
  simp only [fS, ak] at h ⊢
  obtain ⟨h1, b, cap, h2, h3⟩ := h
  exact ⟨h1, b, cap, hM o b ho h2, h3⟩
 | .fn f a b, _, _, hn, h => by
  simp only [dL, Bool.or_eq_false_iff] at hn
  simp only [fS, ak] at h ⊢
  obtain ⟨h1, vs, us, e, h2, h3⟩ := h
  exact ⟨h1, vs, us, e, aj.gN hM hn.1 h2, aj.gN hM hn.2 h3⟩
 | .agg cs, _, _, hn, h => by
  simp only [dL] at hn
  simp only [fS, ak] at h ⊢
  obtain ⟨vs, e, h⟩ := h
  exact ⟨vs, e, aj.gN hM hn h⟩
 | .tup cs, _, _, hn, h => by
  simp only [dL] at hn
  simp only [fS, ak] at h ⊢
  obtain ⟨vs, e, h⟩ := h
  exact ⟨vs, e, aj.gN hM hn h⟩
theorem aj.gN {k : Nat} (hM : ∀ o b, o < k -> M2 (.out (ρ o)) = some b -> M (.out o) = some b) : ∀ {as : List ae} {vs : List Value} {bs : List Nat}, dX k as = false -> aj w R M2 (iL ρ as) vs bs -> aj w R M as vs bs
 | [], _, _, _, h => by simp only [iL, aj] at h ⊢; exact h
 | a :: r, _, _, hn, h => by
  simp only [dX, Bool.or_eq_false_iff] at hn
  simp only [iL, aj] at h ⊢
  obtain ⟨v, vs', b1, b2, e1, e2, h1, h2⟩ := h
  exact ⟨v, vs', b1, b2, e1, e2, ak.gN hM hn.1 h1, aj.gN hM hn.2 h2⟩
end
theorem Gx (a : ae) : AG (fS ρ a) = AG a := by
 cases a with
 | ptr n off => cases n <;> rfl
 | map n => cases n <;> rfl
 | win n s off len => cases n <;> rfl
 | _ => rfl
theorem O2 (a b c : ae) (r : List ae) : cI (a :: b :: c :: r) = false := by
 unfold cI
 split <;> rename_i h <;> first | rfl | simp at h
theorem yW : ∀ (cs : List ae), cI (iL ρ cs) = cI cs
 | [] => rfl
 | [a] => by
  simp only [iL]
  unfold cI
  split <;> rename_i h <;> simp at h
  rfl
 | [a, b] => by
  simp only [iL]
  cases b with
  | ptr n off => cases n <;> rfl
  | map n => cases n <;> rfl
  | win n s off len => cases n <;> rfl
  | own es => simp only [fS, cI, Gx]
  | dat d =>
   simp only [fS]
   cases d with
   | slice es => simp only [cI, Gx]
   | agg es => rfl
   | flat v =>
    have h := Gx (ρ := ρ) a
    cases v with
    | slice p len cap =>
     cases p with
     | some _ => rfl
     | none =>
      cases len with
      | succ _ => rfl
      | zero =>
       cases cap with
       | succ _ => rfl
       | zero => exact h
    | _ => rfl
  | _ => rfl
 | a :: b :: c :: r => by
  simp only [iL, O2]
theorem qg (l m : List ae) : iL ρ (l ++ m) = iL ρ l ++ iL ρ m := by
 induction l with
 | nil => rfl
 | cons a l ih => simp [iL, ih]
theorem oR : ∀ k : Nat, iL ρ (List.replicate k .undef) = List.replicate k .undef
 | 0 => rfl
 | k + 1 => by simp [List.replicate_succ, iL, fS, oR k]
theorem xS (k : Nat) : ∀ j : Nat, dX k (List.replicate j .undef) = false
 | 0 => rfl
 | j + 1 => by simp [List.replicate_succ, dX, dL, xS k j]
theorem aQ.rn (hL : ∀ i, M (.loc i) = none) (hM : ∀ o b, M (.out o) = some b -> M2 (.out (ρ o)) = some b) {o : aN} {b : Nat} {bs : List Nat} (h : aQ w R M o b bs) : aQ w R M2 (re ρ o) b bs := by
 cases o with
 | map es => simp only [re, aQ] at h ⊢; exact h
 | cells cs =>
  simp only [re, aQ] at h ⊢
  obtain ⟨vs, elem, sp, h1, h2, h3, h4⟩ := h
  refine ⟨vs, elem, sp, h1, ?_, h3, by rw [yW]; exact h4⟩
  have := aj.rn (ρ := ρ) hL hM (as := cs ++ List.replicate sp .undef) h2
  rwa [qg, oR] at this
theorem aQ.gN {k : Nat} (hM : ∀ o b, o < k -> M2 (.out (ρ o)) = some b -> M (.out o) = some b) {o : aN} {b : Nat} {bs : List Nat} (hn : pA k o = false) (h : aQ w R M2 (re ρ o) b bs) : aQ w R M o b bs := by
 cases o with
 | map es => simp only [re, aQ] at h ⊢; exact h
 | cells cs =>
  simp only [pA] at hn
  simp only [re, aQ] at h ⊢
  obtain ⟨vs, elem, sp, h1, h2, h3, h4⟩ := h
  refine ⟨vs, elem, sp, h1, ?_, h3, by rw [yW] at h4; exact h4⟩
  refine aj.gN (ρ := ρ) hM (as := cs ++ List.replicate sp .undef) (by rw [nL, hn, xS]; rfl) ?_
  rw [qg, oR]
  exact h2
/-- The names of the heap are below k. -/
def rE (k : Nat) : Heap -> Bool
 | [] => true
 |(m, _) :: r => jv k m && rE k r
theorem DQ {k : Nat} {m : Name} (h : jv k m = true) : ∃ o, m = .out o /\ o < k := by
 cases m with
 | loc i => simp [jv] at h
 | out o => exact ⟨o, rfl, oA h⟩
theorem an.rn (hL : ∀ i, M (.loc i) = none) (hM : ∀ o b, M (.out o) = some b -> M2 (.out (ρ o)) = some b) : ∀ {os : Heap} {bs : List Nat}, an w R M os bs -> an w R M2 (pz ρ os) bs
 | [], _, h => h
 |(.loc i, o) :: r, _, ⟨b, b1, b2, e, h1, h2, h3⟩ => by rw [hL] at h1; simp at h1
 |(.out m, o) :: r, _, ⟨b, b1, b2, e, h1, h2, h3⟩ => ⟨b, b1, b2, e, hM m b h1, h2.rn hL hM, an.rn hL hM h3⟩
theorem an.gN {k : Nat} (hM : ∀ o b, o < k -> M2 (.out (ρ o)) = some b -> M (.out o) = some b) : ∀ {os : Heap} {bs : List Nat}, rE k os = true -> cT k os = false -> an w R M2 (pz ρ os) bs -> an w R M os bs
 | [], _, _, _, h => h
 |(m, o) :: r, _, hl, hn, ⟨b, b1, b2, e, h1, h2, h3⟩ => by
  simp only [rE, Bool.and_eq_true] at hl
  simp only [cT, Bool.or_eq_false_iff] at hn
  obtain ⟨i, rfl, hi⟩ := DQ hl.1
  exact ⟨b, b1, b2, e, hM i b hi h1, h2.gN hM hn.1, an.gN hM hl.2 hn.2 h3⟩
theorem an.append : ∀ {os os2 : Heap} {bs : List Nat}, an w R M (os ++ os2) bs -> ∃ b1 b2, bs = b1 ++ b2 /\ an w R M os b1 /\ an w R M os2 b2
 | [], os2, bs, h => ⟨[], bs, rfl, rfl, h⟩
 |(m, o) :: r, os2, bs, ⟨b, b1, b2, e, h1, h2, h3⟩ => by
  obtain ⟨c1, c2, e2, k1, k2⟩ := an.append h3
  subst e
  subst e2
  exact ⟨b :: (b1 ++ c1), c2, by simp, ⟨b, b1, c1, rfl, h1, h2, k1⟩, k2⟩
theorem an.join : ∀ {os os2 : Heap} {b1 b2 : List Nat}, an w R M os b1 -> an w R M os2 b2 -> an w R M (os ++ os2) (b1 ++ b2)
 | [], os2, b1, b2, h, k => by
  have h : b1 = [] := h
  subst h; exact k
 |(m, o) :: r, os2, _, b2, ⟨b, c1, c2, e, h1, h2, h3⟩, k => by
  subst e
  exact ⟨b, c1, c2 ++ b2, by simp, h1, h2, h3.join k⟩
theorem an.perm {os os2 : Heap} (hp : os.Perm os2) : ∀ {bs : List Nat}, an w R M os bs -> ∃ bs', an w R M os2 bs' /\ bs.Perm bs' := by
 induction hp with
 | nil => intro bs h; exact ⟨bs, h, .refl _⟩
 | cons x _ ih =>
  intro bs h
  obtain ⟨b, b1, b2, e, h1, h2, h3⟩ := h
  obtain ⟨bs', k1, k2⟩ := ih h3
  subst e
  exact ⟨b :: (b1 ++ bs'), ⟨b, b1, bs', rfl, h1, h2, k1⟩, (k2.append_left b1).cons b⟩
 | swap x y l =>
  intro bs h
  obtain ⟨b, b1, _, e, h1, h2, c, c1, c2, e2, k1, k2, k3⟩ := h
  subst e2
  subst e
  refine ⟨c :: (c1 ++ (b :: (b1 ++ c2))), ⟨c, c1, _, rfl, k1, k2, b, b1, c2, rfl, h1, h2, k3⟩, ?_⟩
  rw [← List.cons_append, ← List.cons_append, ← List.append_assoc, ← List.cons_append, ← List.cons_append, ← List.append_assoc]
  exact List.Perm.append_right _ List.perm_append_comm
 | trans _ _ ih1 ih2 =>
  intro bs h
  obtain ⟨b1, k1, k2⟩ := ih1 h
  obtain ⟨b2, k3, k4⟩ := ih2 k1
  exact ⟨b2, k3, k2.trans k4⟩
/-- Each name is one of the heap's. -/
def hasName (o : Nat) : Heap -> Bool
 | [] => false
 |(.out m, _) :: r => Nat.beq m o || hasName o r
 |(.loc _, _) :: r => hasName o r
def sF (h : Heap) : Nat -> Bool
 | 0 => true
 | k + 1 => hasName k h && sF h k
theorem an.named {o : Nat} : ∀ {os : Heap} {bs : List Nat}, hasName o os = true -> an w R M (pz ρ os) bs -> ∃ b, M (.out (ρ o)) = some b
 | [], _, h, _ => by simp [hasName] at h
 |(.out m, x) :: r, _, h, ⟨b, b1, b2, e, h1, h2, h3⟩ => by
  simp only [hasName, Bool.or_eq_true] at h
  rcases h with h | h
  ·have := Nat.eq_of_beq_eq_true h
   subst this
   exact ⟨b, h1⟩
  exact an.named h h3
 |(.loc m, x) :: r, _, h, ⟨b, b1, b2, e, h1, h2, h3⟩ => an.named (os := r) (by simpa [hasName] using h) h3
theorem vo {h : Heap} : ∀ {k : Nat}, sF h k = true -> ∀ o, o < k -> hasName o h = true
 | 0, _, _, ho => by omega
 | k + 1, hh, o, ho => by
  simp only [sF, Bool.and_eq_true] at hh
  rcases Nat.lt_or_ge o k with h1 | h1
  ·exact vo hh.2 o h1
  have : o = k := by omega
  subst this; exact hh.1
end
/-- What stands below n0 as ρ says, the rest from d on. -/
def kP (ρ : Nat -> Nat) (n0 d o : Nat) : Nat := match Nat.blt o n0 with | true => ρ o | false => d + (o - n0)
variable {P : Program} {G : bE}
/-- A contract, said of the objects that it is about, beside others and under other names. -/
theorem aB.frame {g : FuncId} {args0 : List ae} {h0 : Heap} {n0 : Nat} {Q : ae -> Heap -> Nat -> Prop} (hc : aB P G g args0 h0 n0 Q) (ρ : Nat -> Nat) {heap rest : Heap} {next : Nat}
  (hp : heap.Perm (pz ρ h0 ++ rest)) (hlow : rE n0 h0 = true) (hnew : cT n0 h0 = false) (hall : sF h0 n0 = true) (ha : dX n0 args0 = false) :
  aB P G g (iL ρ args0) heap next (fun v h m => ∃ v0 h1 n1, Q v0 h1 n1 /\ v = fS (kP ρ n0 next) v0 /\ h = pz (kP ρ n0 next) h1 ++ rest /\ m = next + (n1 - n0)) := by
 intro w R N cargs bsA bsH bsF hargs hheap hnd hnx hglob hF
 obtain ⟨bsP, hP, pP⟩ := hheap.perm hp
 obtain ⟨b1, b2, e, h1, h2⟩ := an.append hP
 subst e
 let N0 : Name -> Option Nat := fun m => match m with | .loc _ => none | .out o => if o < n0 then N (.out (ρ o)) else none
 have hback : ∀ o b, o < n0 -> outs N (.out (ρ o)) = some b -> outs N0 (.out o) = some b := by
  intro o b ho hb
  simp only [outs] at hb ⊢
  simp only [N0]
  rw [if_pos ho]; exact hb
 have hnd1 : (bsA ++ (b1 ++ (b2 ++ bsF))).Nodup := by
  refine (List.Perm.nodup_iff ?_).1 hnd
  rw [← List.append_assoc b1]
  exact List.Perm.append_left _ (List.Perm.append_right _ pP)
 have h3 := hc w R N0 cargs bsA b1 (b2 ++ bsF) (hargs.gN hback ha) (h1.gN hback hlow hnew) hnd1 (by
  intro o b ho
  simp only [N0] at ho
  split at ho
  ·assumption
  ·simp at ho) hglob (by
  intro b hb
  rcases List.mem_append.1 hb with hb | hb
  ·exact h2.lt b hb
  exact hF b hb)
 refine h3.mono ?_
 rintro e w' ⟨v0, cv, h1', n1, R', N1, bsV, bsH', rfl, hq, hv, hh, hnd', hnx', hk, hN⟩
 let N2 : Name -> Option Nat := fun m => match m with | .loc i => N (.loc i) | .out x => if x < next then N (.out x) else N1 (.out (x - next + n0))
 have hfwd : ∀ o b, outs N1 (.out o) = some b -> outs N2 (.out (kP ρ n0 next o)) = some b := by
  intro o b hb
  simp only [outs] at hb ⊢
  unfold kP
  cases hlt : Nat.blt o n0 with
  | true =>
   have ho := oA hlt
   dsimp only
   obtain ⟨b', hb'⟩ := an.named (M := outs N) (ρ := ρ) (vo hall o ho) h1
   simp only [outs] at hb'
   have h4 : N0 (.out o) = some b' := by simp only [N0]; rw [if_pos ho]; exact hb'
   have h5 := hN o b' h4
   rw [hb] at h5
   simp only [N2]
   rw [if_pos (hnx _ _ hb'), hb', h5]
  | false =>
   dsimp only
   have ho : ¬ o < n0 := fun h => by rw [← Nat.blt_eq, hlt] at h; simp at h
   simp only [N2]
   rw [if_neg (by omega), show next + (o - n0) - next + n0 = o by omega]
   exact hb
 have hloc : ∀ i, outs N1 (.loc i) = none := fun i => rfl
 refine ⟨_, cv, _, _, R', N2, bsV, bsH' ++ b2, rfl, ⟨v0, h1', n1, hq, rfl, rfl, rfl⟩, hv.rn hloc hfwd, (hh.rn hloc hfwd).join ?_, by simpa using hnd', ?_, hk.sub (by intro b hb; simp [hb]), ?_⟩
 ·have h5 := h2.keep (hk.sub (by intro b hb; simp [hb]))
  refine h5.ext ?_
  intro m b hm
  cases m with
  | loc i => simp [outs] at hm
  | out x =>
   simp only [outs] at hm ⊢
   simp only [N2]
   rw [if_pos (hnx x b hm)]; exact hm
 ·intro x b hx
  simp only [N2] at hx
  split at hx
  ·omega
  have := hnx' _ _ hx
  omega
 intro x b hx
 simp only [N2]
 rw [if_pos (hnx x b hx)]; exact hx
end Go.Tp

namespace Go.Tp
section
variable {P : Program} {E : bq} {G : bE}
theorem aB.Yb {f : FuncId} {args : List ae} {heap : Heap} {next : Nat} {Q : ae -> Heap -> Nat -> Prop} (h : aB P G f args heap next Q) : aB P G f args heap next (fun v h m => ∃ r : eW, Q r.val r.heap r.next /\ (⟨v, h, m⟩ : eW) = rT next r) := by
 intro w R N cargs bsA bsH bsF ha hh hnd hnx hg hF
 refine (h w R N cargs bsA bsH bsF ha hh hnd hnx hg hF).mono ?_
 rintro e w' ⟨val, cv, heap', next', R', N', bsV, bsH', rfl, hq, hv', hh', hnd', hnx', hk, hN⟩
 have key : ∀ r : eW, r = rT next ⟨val, heap', next'⟩ -> ∃ R2 N2 bsV2 bsH2, ak w' R2 (outs N2) r.val cv bsV2 /\ an w' R2 (outs N2) r.heap bsH2 /\ (bsV2 ++ (bsH2 ++ bsF)).Nodup /\ (∀ o b, N2 (.out o) = some b -> o < r.next) /\ bz w R w' R2 bsF /\ (∀ o b, N (.out o) = some b -> N2 (.out o) = some b) := by
  intro r hr
  unfold rT at hr
  dsimp only at hr
  split at hr
  ·rename_i hnew
   subst hr
   simp only [Bool.or_eq_false_iff] at hnew
   obtain ⟨bs', k1, k2⟩ := nI next hh'
   let N2 : Name -> Option Nat := fun m => match m with | .loc i => N' (.loc i) | .out o => if o < next then N' (.out o) else none
   have hM : ∀ o b, o < next -> outs N' (.out o) = some b -> outs N2 (.out o) = some b := by
    intro o b ho hb
    simp only [outs] at hb ⊢
    simp only [N2]
    rw [if_pos ho]; exact hb
   refine ⟨R', N2, bsV, bs', hv'.low hM hnew.1, k1.low hM (kK next heap') hnew.2, ?_, ?_, hk, ?_⟩
   ·exact List.Nodup.sublist (List.Sublist.append (.refl _) (List.Sublist.append k2 (.refl _))) hnd'
   ·intro o b hb
    simp only [N2] at hb
    split at hb
    ·assumption
    simp at hb
   intro o b hb
   simp only [N2]
   rw [if_pos (hnx o b hb)]
   exact hN o b hb
  subst hr
  obtain ⟨bs', k1, k2⟩ := jz next (Ct next heap' 3 (HR val)) hh'
  exact ⟨R', N', bsV, bs', hv', k1, List.Nodup.sublist (List.Sublist.append (.refl _) (List.Sublist.append k2 (.refl _))) hnd', hnx', hk, hN⟩
 obtain ⟨R2, N2, bsV2, bsH2, k⟩ := key _ rfl
 exact ⟨_, cv, _, _, R2, N2, bsV2, bsH2, rfl, ⟨⟨val, heap', next'⟩, hq, rfl⟩, k⟩
theorem A5 {rs : List ResultVar} {Q Q' : ae -> List (Name × aN) -> Nat -> Prop} {s : aa} (hq : ∀ v h n, Q v h n -> Q' v h n) (h : vJ E rs Q s) : vJ E rs Q' s := by
 unfold vJ at h ⊢
 generalize gk E s rs = rv at h ⊢
 cases rv with
 | none => exact h
 | some vs =>
  dsimp only at h ⊢
  by_cases hn : bF (iS vs) = true
  ·rw [if_pos hn] at h ⊢
   exact hq _ _ _ h
  rw [if_neg hn] at h ⊢
  generalize gu (oS s.locs.length (lJ s.locs)) s (iS vs) = x at h ⊢
  obtain ⟨s', vs'⟩ := x
  dsimp only at h ⊢
  by_cases hn2 : bF vs' = true
  ·rw [if_pos hn2] at h ⊢
   exact hq _ _ _ h
  rw [if_neg hn2] at h ⊢
  exact h
/-- A function's contract. -/
theorem HO {A B : Nat -> Bool} {moves caps : FuncId -> Bool} {F : FuncId -> Option lY} (hE : E.Ok P) (hF : Xt P moves caps F) {g : FuncId} {x : lY} (hx : F g = some x) {args : List ae} {heap : Heap} {next : Nat} {T : eW -> Prop}
  (h : pF args -> vI heap -> (L5 A B E G moves caps x g args heap next).Ok P G T) : aB P G g args heap next (fun v h m => T ⟨v, h, m⟩) := by
 obtain ⟨fn, h1, h2, h3, h4, h5⟩ := hF g x hx
 have h6 : aB P G g args heap next (fun v h m => T (rT next ⟨v, h, m⟩)) := by
  refine jo hE h1 h2 ?_
  intro b1 b2
  have h := (h b1 b2).ok
  rw [h3, h4]
  unfold L5 at h
  split at h
  ·exact h.elim
  rename_i hlen
  have hlen := fW hlen
  have hent : (⟨wR 0 args, [], heap, next⟩ : ac).aw x.ntmps = enter x.ntmps args heap next := by
   simp only [ac.aw, enter]
   congr 1
   apply List.ext_getElem?
   intro i
   rw [kN, Nat.zero_add, qW, if_pos (Nat.zero_le _), Nat.sub_zero, List.getElem?_append]
   split
   ·split
    ·rename_i hi; unfold bp; rw [List.getElem?_eq_getElem hi]
    rename_i hi1 hi
    rw [List.getElem?_replicate, if_pos (by omega)]
    unfold bp
    rw [List.getElem?_eq_none (by omega)]
   rename_i hi
   rw [if_neg (by omega), List.getElem?_replicate, if_neg (by omega)]
  rw [← hent]
  refine (gQ (H := ⟨moves, x.ord, caps, rowsOf caps g⟩) hE x.live x.code _ _ (by rw [dF]; exact h5) h).mono ?_
  rintro e s ⟨f', rfl, h'⟩
  have key : (match vG E x.ntmps x.results f' with | some r => (Qy.fin (rT next r) : Qy eW) | none => .fail).qO P G T -> vJ E x.results (fun v h m => T (rT next ⟨v, h, m⟩)) (f'.aw x.ntmps) := by
   intro hh
   split at hh
   ·rename_i r hr
    have := pY (E := E) (rs := x.results) (s := f'.aw x.ntmps) (r := r) (by rw [Ce]; exact hr)
    exact A5 (by rintro v h m ⟨rfl, rfl, rfl⟩; exact hh) this
   exact hh.elim
  cases e with
  | ret => exact key h'
  | normal => exact key h'
  | _ => exact h'.elim
 refine h6.Yb.mono ?_
 rintro v h m ⟨r, hr, e⟩
 rw [e]; exact hr
/-! ### Loops -/
/-- A loop: I m s is what holds at the head of a round, m goes down. -/
theorem Sb {c : Code} {T : Exit -> aa -> Prop} (I : Nat -> aa -> Prop)
  (step : ∀ m s, I m s -> df P G c (qc (fun s' => ∃ m', m' < m /\ I m' s') T) s) {m : Nat} {s : aa} (h : I m s) : df P G (.loop c) T s := by
 intro w R N act bsT bsL bsH bsF hr D hd
 refine wp_loop_ghost (I := fun k a w' => ∃ s1 R' N' bsT' bsL' bsH', I k s1 /\ cR G w' R' N' a.tmps.toList s1 undef .undef [] bsT' bsL' bsH' bsF /\ a.defers = D /\ bz w R w' R' bsF /\ (∀ o b, N (.out o) = some b -> N' (.out o) = some b)) (n0 := m) ?_ ?_
 ·exact ⟨s, R, N, bsT, bsL, bsH, h, hr, hd, bg _, fun _ _ h => h⟩
 rintro k a w' ⟨s1, R', N', bsT', bsL', bsH', hI, hr', hd', hk, hN⟩
 refine wp_mono (step k s1 hI w' R' N' a bsT' bsL' bsH' bsF hr' hd') ?_
 rintro e a2 w2 ⟨s2, R2, N2, bsT2, bsL2, bsH2, hq, hr2, hd2, hk2, hN2⟩
 cases e with
 | normal =>
  obtain ⟨m', hlt, hI'⟩ := hq
  exact ⟨m', hlt, s2, R2, N2, bsT2, bsL2, bsH2, hI', hr2, hd2, hk.trans hk2, fun o b h => hN2 o b (hN o b h)⟩
 | _ => exact ⟨s2, R2, N2, bsT2, bsL2, bsH2, hq, hr2, hd2, hk.trans hk2, fun o b h => hN2 o b (hN o b h)⟩
/-- Code from a run that asks; what is said of the end is said of abstract states. -/
theorem Jz {A B : Nat -> Bool} {H : Hints} {n : Nat} (hE : E.Ok P) (live : Nat -> Nat) {c : Code} (hc : cF H c = true) {f : ac} {T : Exit -> aa -> Prop}
  (h : (rm A B E G H n live c f (fun r => .fin r)).Ok P G (fun r => T r.1 (r.2.aw n))) : df P G c T (f.aw n) := by
 refine (gQ hE live c f (fun r => .fin r) hc h.ok).mono ?_
 rintro e s ⟨f', rfl, h'⟩
 exact h'
end
/-! ### Answers -/
section
variable {P : Program} {G : bE} {α : Type} {T : α -> Prop}
def Qy.GQ : Qy α -> Option α
 | .fin a => some a
 | _ => none
def Qy.yU : Qy α -> Option Bool
 | .bool _ b _ => some b
 | _ => none
def Qy.U4 : Qy α -> Bool -> Qy α
 | .bool _ _ k, b => k b
 | _, _ => .fail
def Qy.P8 : Qy α -> Option (Option Out)
 | .out _ o _ => some o
 | _ => none
def Qy.X1 : Qy α -> Out -> Qy α
 | .out _ _ k, x => k x
 | _, _ => .fail
def Qy.NZ : Qy α -> Option FuncId
 | .res g _ _ _ _ => some g
 | _ => none
def Qy.vn : Qy α -> List ae
 | .res _ args _ _ _ => args
 | _ => []
def Qy.uO : Qy α -> Nat
 | .res _ _ _ next _ => next
 | _ => 0
def Qy.uQ : Qy α -> Heap
 | .res _ _ h _ _ => h
 | _ => []
def Qy.VU : Qy α -> eW -> Qy α
 | .res _ _ _ _ k, r => k r
 | _, _ => .fail
def Qy.Az : Qy α -> Option (Nat × Code)
 | .loop n c _ _ => some (n, c)
 | _ => none
def Qy.D4 : Qy α -> ac
 | .loop _ _ f _ => f
 | _ => ⟨[], [], [], 0⟩
def Qy.VV : Qy α -> Exit × ac -> Qy α
 | .loop _ _ _ k, r => k r
 | _, _ => .fail
theorem br {q : Qy α} {a : α} (e : q.GQ = some a) (h : T a) : q.Ok P G T := by
 cases q with
 | fin x => simp only [Qy.GQ, Option.some.injEq] at e; subst e; exact ⟨h⟩
 | _ => simp [Qy.GQ] at e
theorem bj {q : Qy α} {c b : Bool} (hc : c = b) (e : q.yU = some c) (h : (q.U4 b).Ok P G T) : q.Ok P G T := by
 cases q with
 | bool _ x k => simp only [Qy.yU, Option.some.injEq] at e; subst e; subst hc; exact ⟨h.ok⟩
 | _ => simp [Qy.yU] at e
/-- A truth value by cases. -/
theorem DR {q : Qy α} {c : Bool} (e : q.yU = some c) (ht : c = true -> (q.U4 true).Ok P G T) (hf : c = false -> (q.U4 false).Ok P G T) : q.Ok P G T := by
 cases c
 ·exact bj rfl e (hf rfl)
 exact bj rfl e (ht rfl)
theorem S8 {q : Qy α} {o : Option Out} {x : Out} (ho : o = some x) (e : q.P8 = some o) (h : (q.X1 x).Ok P G T) : q.Ok P G T := by
 cases q with
 | out _ y k => simp only [Qy.P8, Option.some.injEq] at e; subst e; exact ⟨⟨x, ho, h.ok⟩⟩
 | _ => simp [Qy.P8] at e
theorem gR {q : Qy α} {n : Nat} {c : Code} {f : ac} {L : Exit -> aa -> Prop} (e : q.Az = some (n, c)) (hs : q.D4.aw n = f.aw n) (hl : df P G (.loop c) L (f.aw n))
  (h : ∀ ex s, L ex s -> ∃ f', s = f'.aw n /\ (q.VV (ex, f')).Ok P G T) : q.Ok P G T := by
 cases q with
 | loop n' c' f' k =>
  simp only [Qy.Az, Option.some.injEq, Prod.mk.injEq] at e
  obtain ⟨rfl, rfl⟩ := e
  simp only [Qy.D4] at hs
  refine ⟨?_⟩
  show df P G (.loop c') _ (f'.aw n')
  rw [hs]
  exact hl.mono (fun e s hL => by obtain ⟨f2, h1, h2⟩ := h e s hL; exact ⟨f2, h1, h2.ok⟩)
 | _ => simp [Qy.Az] at e
/-! Many answers at once. -/
end
end Go.Tp

namespace Go.Tp
mutual
/-- Every object that is named is one of p. -/
def DT (p : Nat -> Bool) : ae -> Bool
 | .ptr (.out o) _ => p o
 | .map (.out o) => p o
 | .win (.out o) _ _ _ => p o
 | .fn _ a b => io p a && io p b
 | .agg cs => io p cs
 | .tup cs => io p cs
 | _ => true
def io (p : Nat -> Bool) : List ae -> Bool
 | [] => true
 | a :: r => DT p a && io p r
end
def MW (p : Nat -> Bool) : aN -> Bool
 | .cells cs => io p cs
 | .map _ => true
def JE (p : Nat -> Bool) : Heap -> Bool
 | [] => true
 |(.out m, o) :: r => p m && MW p o && JE p r
 |(.loc _, o) :: r => MW p o && JE p r
section
variable {w : World} {R : Own} {M M2 : Name -> Option Nat} {ρ : Nat -> Nat} {p : Nat -> Bool}
mutual
theorem ak.Fa (hL : ∀ i b, M (.loc i) = some b -> M2 (.loc i) = some b) (hM : ∀ o b, p o = true -> M (.out o) = some b -> M2 (.out (ρ o)) = some b) : ∀ {a : ae} {v : Value} {bs : List Nat}, DT p a = true -> ak w R M a v bs -> ak w R M2 (fS ρ a) v bs
 | .dat _, _, _, _, h => by simp only [fS, ak] at h ⊢; exact h
 | .own _, _, _, _, h => by simp only [fS, ak] at h ⊢; exact h
 | .ref _, _, _, _, h => by simp only [fS, ak] at h ⊢; exact h
 | .undef, _, _, _, h => by simp only [fS, ak] at h ⊢; exact h
 | .ptr (.loc i) _, _, _, _, h => by simp only [fS, ak] at h ⊢; obtain ⟨h1, b, h2, h3⟩ := h; exact ⟨h1, b, hL _ _ h2, h3⟩
 | .map (.loc i), _, _, _, h => by simp only [fS, ak] at h ⊢; obtain ⟨h1, b, h2, h3⟩ := h; exact ⟨h1, b, hL _ _ h2, h3⟩
 | .win (.loc i) _ _ _, _, _, _, h => by simp only [fS, ak] at h ⊢; obtain ⟨h1, b, cap, h2, h3⟩ := h; exact ⟨h1, b, cap, hL _ _ h2, h3⟩
 | .ptr (.out o) off, _, _, hp, h => by
  simp only [fS, ak] at h ⊢
  obtain ⟨h1, b, h2, h3⟩ := h
  exact ⟨h1, b, hM o b hp h2, h3⟩
 | .map (.out o), _, _, hp, h => by
  simp only [fS, ak] at h ⊢
  obtain ⟨h1, b, h2, h3⟩ := h
  exact ⟨h1, b, hM o b hp h2, h3⟩
 | .win (.out o) s off len, _, _, hp, h => by
  simp only [fS, ak] at h ⊢
  obtain ⟨h1, b, cap, h2, h3⟩ := h
  exact ⟨h1, b, cap, hM o b hp h2, h3⟩
 | .fn f a b, _, _, hp, h => by
  simp only [DT, Bool.and_eq_true] at hp
  simp only [fS, ak] at h ⊢
  obtain ⟨h1, vs, us, e, h2, h3⟩ := h
  exact ⟨h1, vs, us, e, aj.Fa hL hM hp.1 h2, aj.Fa hL hM hp.2 h3⟩
 | .agg cs, _, _, hp, h => by
  simp only [fS, ak] at h ⊢
  obtain ⟨vs, e, h⟩ := h
  exact ⟨vs, e, aj.Fa hL hM (by simpa only [DT] using hp) h⟩
 | .tup cs, _, _, hp, h => by
  simp only [fS, ak] at h ⊢
  obtain ⟨vs, e, h⟩ := h
  exact ⟨vs, e, aj.Fa hL hM (by simpa only [DT] using hp) h⟩
theorem aj.Fa (hL : ∀ i b, M (.loc i) = some b -> M2 (.loc i) = some b) (hM : ∀ o b, p o = true -> M (.out o) = some b -> M2 (.out (ρ o)) = some b) : ∀ {as : List ae} {vs : List Value} {bs : List Nat}, io p as = true -> aj w R M as vs bs -> aj w R M2 (iL ρ as) vs bs
 | [], _, _, _, h => by simp only [iL, aj] at h ⊢; exact h
 | a :: r, _, _, hp, h => by
  simp only [io, Bool.and_eq_true] at hp
  simp only [iL, aj] at h ⊢
  obtain ⟨v, vs', b1, b2, e1, e2, h1, h2⟩ := h
  exact ⟨v, vs', b1, b2, e1, e2, ak.Fa hL hM hp.1 h1, aj.Fa hL hM hp.2 h2⟩
end
theorem DS (l m : List ae) : io p (l ++ m) = (io p l && io p m) := by
 induction l with
 | nil => simp [io]
 | cons a l ih => simp [io, ih, Bool.and_assoc]
theorem xP : ∀ j : Nat, io p (List.replicate j .undef) = true
 | 0 => rfl
 | j + 1 => by simp [List.replicate_succ, io, DT, xP j]
theorem aQ.Fa (hL : ∀ i b, M (.loc i) = some b -> M2 (.loc i) = some b) (hM : ∀ o b, p o = true -> M (.out o) = some b -> M2 (.out (ρ o)) = some b) {o : aN} {b : Nat} {bs : List Nat} (hp : MW p o = true) (h : aQ w R M o b bs) : aQ w R M2 (re ρ o) b bs := by
 cases o with
 | map es => simp only [re, aQ] at h ⊢; exact h
 | cells cs =>
  simp only [MW] at hp
  simp only [re, aQ] at h ⊢
  obtain ⟨vs, elem, sp, h1, h2, h3, h4⟩ := h
  refine ⟨vs, elem, sp, h1, ?_, h3, by rw [yW]; exact h4⟩
  have := aj.Fa (ρ := ρ) hL hM (as := cs ++ List.replicate sp .undef) (by rw [DS, hp, xP]; rfl) h2
  rwa [qg, oR] at this
theorem an.Fa (hL : ∀ i b, M (.loc i) = some b -> M2 (.loc i) = some b) (hM : ∀ o b, p o = true -> M (.out o) = some b -> M2 (.out (ρ o)) = some b) : ∀ {os : Heap} {bs : List Nat}, JE p os = true -> an w R M os bs -> an w R M2 (pz ρ os) bs
 | [], _, _, h => h
 |(.loc i, o) :: r, _, hp, ⟨b, b1, b2, e, h1, h2, h3⟩ => by
  simp only [JE, Bool.and_eq_true] at hp
  exact ⟨b, b1, b2, e, hL i b h1, h2.Fa hL hM hp.1, an.Fa hL hM hp.2 h3⟩
 |(.out m, o) :: r, _, hp, ⟨b, b1, b2, e, h1, h2, h3⟩ => by
  simp only [JE, Bool.and_eq_true] at hp
  exact ⟨b, b1, b2, e, hM m b hp.1.1 h1, h2.Fa hL hM hp.1.2, an.Fa hL hM hp.2 h3⟩
end
section
variable {P : Program} {G : bE}
end
/-- Where a name stands in a list. -/
def qz (o : Nat) : List Nat -> Nat -> Nat
 | [], _ => o
 | q :: r, k => match Nat.beq q o with | true => k | false => qz o r (k + 1)
/-- Objects of these names alone. -/
def cq (q : Nat -> Bool) : Heap -> Heap
 | [] => []
 |(.out m, o) :: r => (match q m with | true => (.out m, o) :: cq q r | false => cq q r)
 |(.loc m, o) :: r => (.loc m, o) :: cq q r
theorem lg {w : World} {R : Own} {M : Name -> Option Nat} (q : Nat -> Bool) : ∀ {os : Heap} {bs : List Nat}, an w R M os bs -> ∃ bs', an w R M (cq q os) bs' /\ bs'.Sublist bs
 | [], bs, h => ⟨bs, h, .refl _⟩
 |(.out m, o) :: os, _, ⟨b, b1, b2, e, hn, ho, hr⟩ => by
  subst e
  obtain ⟨bs', k1, k2⟩ := lg q hr
  simp only [cq]
  split
  ·exact ⟨b :: (b1 ++ bs'), ⟨b, b1, bs', rfl, hn, ho, k1⟩, (List.Sublist.append (.refl _) k2).cons_cons _⟩
  exact ⟨bs', k1, k2.trans ((List.sublist_append_right b1 b2).cons _)⟩
 |(.loc m, o) :: os, _, ⟨b, b1, b2, e, hn, ho, hr⟩ => by
  subst e
  obtain ⟨bs', k1, k2⟩ := lg q hr
  exact ⟨b :: (b1 ++ bs'), ⟨b, b1, bs', rfl, hn, ho, k1⟩, (List.Sublist.append (.refl _) k2).cons_cons _⟩
theorem IE {o : Nat} : ∀ {ps : List Nat} {k : Nat}, ir o ps = true -> k <= qz o ps k /\ qz o ps k < k + ps.length /\ ps[qz o ps k - k]? = some o
 | [], k, h => by simp [ir] at h
 | q :: r, k, h => by
  simp only [qz]
  cases hq : Nat.beq q o with
  | true =>
   have := Nat.eq_of_beq_eq_true hq
   subst this
   dsimp only
   refine ⟨Nat.le_refl _, by simp, by simp⟩
  | false =>
   dsimp only
   have h2 : ir o r = true := by
    simp only [ir, hq] at h
    exact h
   obtain ⟨h3, h4, h5⟩ := IE (ps := r) (k := k + 1) h2
   refine ⟨by omega, by simp; omega, ?_⟩
   rw [show qz o r (k + 1) - k = (qz o r (k + 1) - (k + 1)) + 1 by omega]
   simpa using h5
end Go.Tp

namespace Go.Tp
open Go.Deep
/-! ### Pieces of code -/
section
variable {X : iI} {E : bq} {G : bE} {H : Hints} {n : Nat} {live : Nat -> Nat} {fuel : Nat}
end
/-! ### The last step -/
/-- No cell may be written: what a call that comes from outside finds. -/
def uN : Own := fun _ _ => False
/-- A package-level variable that holds a slice of strings. -/
theorem pf {P : Program} {W : World} {name : String} {g : Nat} {t e : TypeId} {l : List (List UInt8)} (hg : P.globalNamed name = some g) (hty : (P.globals[g]?).map (·.type) = some t) (ht : P.underlying t = some (.slice e)) (he : P.underlying e = some .string) (hc : P.cellsOf e = 1)
  (hlen : l.length <= jy) (h : ∃ g t cs fuel p, P.globalNamed name = some g /\ (P.globals[g]?).map (·.type) = some t /\ W.var? P name = some cs /\ DataW.trod (fun _ => ()) P W 0 (fun _ => true) false fuel t cs.toList = some (.slice (l.map fun b => .lit (.string b)) [], p)) :
  dG W uN g 0 [.slice (l.map fun b => .flat (.string ⟨⟨b⟩⟩))] := by
 obtain ⟨g', t', cs, fuel, p, hg', ht', hvar, hd⟩ := h
 obtain rfl := Option.some.inj (hg.symm.trans hg')
 obtain rfl := Option.some.inj (hty.symm.trans ht')
 have hcell := World.var?_cell hg hvar 0
 refine ⟨?_, trivial⟩
 rcases open_slice1 ht hc hd with ⟨_, h0⟩ | ⟨a, len, cap, m, k, V, D, Pl, hcs, _, hl, hm, hmm, hx, hi⟩
 ·simp at h0
 have h0 : cs[0]? = some (.slice (some a) len cap) := by
  have : cs.toList[0]? = some (.slice (some a) len cap) := by rw [hcs]; rfl
  simpa using this
 refine ⟨_, hcell.trans h0, fun h => h, ?_⟩
 simp only [Prod.mk.injEq, DataW.slice.injEq] at hx
 obtain ⟨⟨hx1, _⟩, _⟩ := hx
 have hll : l.length = len := by have := congrArg List.length hx1; simpa using this
 have hlm : len <= m := by rw [hmm]; split <;> omega
 have hel : ∀ (i : Nat) b, l[i]? = some b -> V i = .string ⟨⟨b⟩⟩ /\ b.length <= maxLen := by
  intro i b hb
  have hil : i < len := by rw [← hll]; exact (List.getElem?_eq_some_iff.1 hb).1
  obtain ⟨_, h2⟩ := hi i (by omega)
  obtain ⟨s, e1, e2, e3⟩ := DataW.trod_string he h2
  have h3 : ((List.range len).map D)[i]? = (l.map fun b => (DataW.lit (.string b) : DataW Unit))[i]? := by rw [hx1]
  rw [List.getElem?_map, List.getElem?_map, hb, List.getElem?_range hil] at h3
  simp only [Option.map_some, Option.some.injEq] at h3
  simp only [List.cons.injEq, and_true] at e1
  simp only [Prod.mk.injEq] at e2
  rw [h3] at e2
  simp at e2
  obtain ⟨⟨sl⟩⟩ := s
  simp at e2
  rw [e1, e2.1]
  exact ⟨rfl, e3⟩
 cases hz : len with
 | zero =>
  have : l = [] := List.length_eq_zero_iff.1 (by omega)
  subst this
  exact .nil _ _
 | succ k0 =>
  have hsp : a.spot = none := by
   have := (hi 0 (by omega)).1
   have := World.cell?_spot this
   simpa [Addr.add] using this
  obtain ⟨b, off, spot⟩ := a
  simp only at hsp
  subst hsp
  have e : k0 + 1 = (l.map fun b => (aq.flat (.string ⟨⟨b⟩⟩) : aq)).length := by simp; omega
  rw [e]
  refine .slice b off cap 1 _ (fun i _ => V i) (by omega) ?_ (by simp; omega) (by simpa using hlen) ?_ ?_
  ·intro d hd
   obtain ⟨x, _, rfl⟩ := List.mem_map.1 hd
   rfl
  ·intro i j hil hj
   obtain rfl : j = 0 := by omega
   simp at hil
   refine ⟨?_, fun h => h⟩
   have := (hi i (by omega)).1
   simp only [Addr.add] at this
   simp only [Nat.mul_one, Nat.add_zero]
   split at this
   ·rename_i h0; subst h0; exact this
   exact this
  intro i j d c hd hc
  rw [List.getElem?_map] at hd
  cases hb : l[i]? with
  | none => rw [hb] at hd; simp at hd
  | some x =>
   rw [hb] at hd
   simp at hd
   subst hd
   obtain ⟨e1, e2⟩ := hel i x hb
   have : c = .flat (.string ⟨⟨x⟩⟩) := by
    cases j with
    | zero => simp [aq.cells] at hc; exact hc.symm
    | succ j => simp [aq.cells] at hc
   subst this
   rw [e1]
   refine .flat ?_
   simp only [bZ, decide_eq_true_eq]
   have : (ByteArray.mk ⟨x⟩).size = x.length := rfl
   rw [this]
   unfold maxLen at e2
   omega
theorem vD {W W' : World} {R' : Own} (h : Step W uN W' R') : W.keptBut W' (fun _ => False) := by
 refine ⟨h.os, h.output, fun i hi => ?_⟩
 rw [(h.block i hi (fun _ h => h)).1]
 split
 ·rename_i e1 e2
  rw [e1] at e2
  simp at e2
  obtain ⟨rfl, rfl, rfl⟩ := e2
  exact ⟨rfl, rfl, rfl, fun _ _ => rfl⟩
 ·rename_i e1 e2
  rw [e1] at e2
  simp at e2
  obtain ⟨rfl, rfl⟩ := e2
  exact .inr ⟨rfl, rfl⟩
 rfl
end Go.Tp

namespace Go.Tp
section
variable {X : iI} {E : bq} {G : bE} {H : Hints} {n : Nat}
/-- An element of a row. -/
theorem we {t : TypeId} {ti : TI} {m : Name} {s off len k : Nat} (he : elemOf E t = some ti) (hs : s = ti.size) (hk : k < len) :
  aK E t [.win m s off len, .dat (.flat (.int .i64 (Int.ofNat k)))] = some ⟨.ptr m (off + k * s), .keep⟩ := by
 have h1 : Nat.blt k len = true := by rw [Nat.blt_eq]; exact hk
 have h2 : Nat.beq s ti.size = true := by rw [Nat.beq_eq]; exact hs
 simp only [aK, he, h1, h2]
 simp
/-! ### Rounds of a loop -/
/-- What the quick run reads of a slice. -/
theorem N8 {es : List aq} {i : Nat} {d : aq} (h : es[i]? = some d) : ay.aT.elt es (Int.ofNat i) = some d := by
 show B9 es i = some d
 rw [rS]; exact h
end
end Go.Tp

namespace Go.Tp
variable {E : bq}
/-- Appending to a row of one's own. -/
theorem sE {t : TypeId} {i : TI} {es ds : List aq} {ob : Option aN} {take : Bool} {k : Nat} (he : elemOf E t = some i) (hp : E.pr = ay.aT) (hs : i.size = k + 1) (hd : sizedB (k + 1) ds = true) (hes : sizedB (k + 1) es = true)
  (hb : Nat.blt 0 i.bytes = true) (hl : (es.length + ds.length) * i.bytes <= 140737488355328) (hl2 : es.length + ds.length <= jy) (hby : iF E t (es ++ ds) = true) (htake : (take && es.isEmpty && yf (.dat (.slice ds))) = false) :
  dc E take t [.own es, .dat (.slice ds)] ob = some ⟨.own (es ++ ds), .keep⟩ := by
 simp only [dc, he]
 rw [if_neg (by rw [htake]; simp)]
 simp only [hU, hp, hs, ay.aT, hd, hes, hb, hJ hl, hJ hl2]
 rw [if_pos hby]
/-- An element, by its number. -/
theorem sC {t : TypeId} {ti : TI} {es : List aq} {i : Nat} {d : aq} (he : elemOf E t = some ti) (hp : E.pr = ay.aT) (h : es[i]? = some d) (hs : d.cells.length = ti.size) (h0 : 0 < ti.size) :
  aK E t [.dat (.slice es), .dat (.flat (.int .i64 (Int.ofNat i)))] = some ⟨.ref d.cells, .keep⟩ := by
 have hel : E.pr.elt es (Int.ofNat i) = some d := by rw [hp]; exact N8 h
 simp only [aK, he, hel]
 rw [if_pos ⟨hs, h0⟩]
theorem QU {α : Type} {l : List α} {i : Nat} {a : α} (h : l[i]? = some a) : B9 l i = some a := by rw [rS]; exact h
theorem jI {k : Nat} {l : List aq} (h : ∀ d ∈ l, d.cells.length = k) : sizedB k l = true := fw.2 h
theorem jj {i L : Nat} : bm (Int.ofNat i) (Int.ofNat L) = decide (i < L) := by rw [gp]; simp
theorem bH {i L : Nat} (h : i < L) : bm (Int.ofNat i) (Int.ofNat L) = true := by rw [jj, decide_eq_true h]
theorem bR {i L : Nat} (h : ¬ i < L) : bm (Int.ofNat i) (Int.ofNat L) = false := by rw [jj, decide_eq_false h]
theorem bn {i : Nat} (h : i < 9223372036854775807) : aI .i64 (Int.ofNat i + 1) = Int.ofNat (i + 1) := by
 rw [dz]
 exact wrap_i64 (by simp; omega) (by simp; omega)
theorem tO {i L : Nat} : aZ (Int.ofNat i) (Int.ofNat L) = decide (i = L) := by
 rw [fV]
 by_cases h : i = L
 ·subst h; simp
 rw [decide_eq_false h]
 simp only [beq_eq_false_iff_ne]
 exact fun e => h (Int.ofNat.inj e)
end Go.Tp

namespace Go.Tp
/-- The rounds of the loops in a piece of code, in the order of the text. -/
noncomputable def Qg (c : Code) : List Code :=
 Code.rec (motive := fun _ => List Code)
  (skip := []) (region := fun _ _ _ => []) (seq := fun _ _ ix iy => ix ++ iy) (cond := fun _ _ _ ix iy => ix ++ iy) (block := fun _ _ ic => ic) (loop := fun c ic => c :: ic)
  (rangeFunc := fun _ _ _ _ _ _ => []) (exit := fun _ => []) (scope := fun _ ic => ic) (label := fun _ => []) (goto := fun _ => []) (ret := []) (refuse := fun _ => []) c
noncomputable def roundOf (fn : Func) (k : Nat) : Code := match (Qg (match fn.body with | some c => c | none => .skip))[k]? with | some c => c | none => .skip
/-- A set of numbers. -/
def Pq (l : List Nat) (t : Nat) : Bool := ir t l
/-! ### Pointers that a callee does not look at -/
mutual
def KJ : ae -> ae
 | .ptr _ _ => .undef
 | .map _ => .undef
 | .win _ _ _ _ => .undef
 | .fn f a b => .fn f (JG a) (JG b)
 | .agg cs => .agg (JG cs)
 | .tup cs => .tup (JG cs)
 | a => a
def JG : List ae -> List ae
 | [] => []
 | a :: r => KJ a :: JG r
end
section
variable {w : World} {R : Own} {M M2 : Name -> Option Nat}
mutual
theorem ak.np : ∀ {a : ae} {v : Value} {bs : List Nat}, ak w R M a v bs -> ak w R M2 (KJ a) v bs
 | .dat _, _, _, h => by simp only [KJ, ak] at h ⊢; exact h
 | .own _, _, _, h => by simp only [KJ, ak] at h ⊢; exact h
 | .ref _, _, _, h => by simp only [KJ, ak] at h ⊢; exact h
 | .undef, _, _, h => by simp only [KJ, ak] at h ⊢; exact h
 | .ptr _ _, _, _, h => by simp only [KJ, ak] at h ⊢; exact h.1
 | .map _, _, _, h => by simp only [KJ, ak] at h ⊢; exact h.1
 | .win _ _ _ _, _, _, h => by simp only [KJ, ak] at h ⊢; exact h.1
 | .fn f a b, _, _, h => by
  simp only [KJ, ak] at h ⊢
  obtain ⟨h1, vs, us, e, h2, h3⟩ := h
  exact ⟨h1, vs, us, e, aj.np h2, aj.np h3⟩
 | .agg cs, _, _, h => by
  simp only [KJ, ak] at h ⊢
  obtain ⟨vs, e, h⟩ := h
  exact ⟨vs, e, aj.np h⟩
 | .tup cs, _, _, h => by
  simp only [KJ, ak] at h ⊢
  obtain ⟨vs, e, h⟩ := h
  exact ⟨vs, e, aj.np h⟩
theorem aj.np : ∀ {as : List ae} {vs : List Value} {bs : List Nat}, aj w R M as vs bs -> aj w R M2 (JG as) vs bs
 | [], _, _, h => by simp only [JG, aj] at h ⊢; exact h
 | a :: r, _, _, h => by
  simp only [JG, aj] at h ⊢
  obtain ⟨v, vs', b1, b2, e1, e2, h1, h2⟩ := h
  exact ⟨v, vs', b1, b2, e1, e2, ak.np h1, aj.np h2⟩
end
end
section
variable {P : Program} {G : bE} {α : Type} {T : α -> Prop}
theorem DU {g : FuncId} {args : List ae} {Q : ae -> Prop} (hQ : ∀ v, Q v -> JH v = true) (h : aB P G g (JG args) [] 0 (fun v h m => Q v /\ h = [] /\ m = 0)) (heap : Heap) (next : Nat) : aB P G g args heap next (fun v h m => Q v /\ h = heap /\ m = next) := by
 intro w R N cargs bsA bsH bsF hargs hheap hnd hnx hglob hF
 have h2 := h w R (fun _ => none) cargs bsA [] (bsH ++ bsF) hargs.np (by simp [an]) (by simpa using hnd) (by intro o b ho; simp at ho) hglob (by
  intro b hb
  rcases List.mem_append.1 hb with hb | hb
  ·exact hheap.lt b hb
  exact hF b hb)
 refine h2.mono ?_
 rintro e w' ⟨v, cv, heap', next', R', N', bsV, bsH', rfl, ⟨hq, rfl, rfl⟩, hv, hh, hnd', _, hk, _⟩
 have hH' : bsH' = [] := by simpa [an] using hh
 subst hH'
 exact ⟨_, cv, heap, next, R', N, bsV, bsH, rfl, ⟨hq, rfl, rfl⟩, hv.nm (hQ _ hq), hheap.keep (hk.sub (by intro b hb; simp [hb])), by simpa using hnd', hnx, hk.sub (by intro b hb; simp [hb]), fun _ _ h => h⟩
/-- A call that looks at no object, whatever it is handed. -/
theorem VS {q : Qy α} {g : FuncId} {args0 : List ae} {v : ae} (hc : aB P G g args0 [] 0 (XQ ⟨v, [], 0⟩)) (e : q.NZ = some g) (ha : JG q.vn = args0) (hm : JH v = true)
  (h : lW v -> (q.VU ⟨v, q.uQ, q.uO⟩).Ok P G T) : q.Ok P G T := by
 cases q with
 | res g' args' heap next' k =>
  simp only [Qy.NZ, Option.some.injEq] at e
  subst e
  simp only [Qy.uQ, Qy.vn, Qy.uO] at ha h
  refine ⟨?_⟩
  show aB P G g' _ heap next' _
  subst ha
  have h1 : aB P G g' (JG args') [] 0 (fun u h m => u = v /\ h = [] /\ m = 0) := hc.mono (by rintro u h m ⟨rfl, rfl, rfl⟩; exact ⟨rfl, rfl, rfl⟩)
  refine (DU (Q := fun u => u = v) (by rintro u rfl; exact hm) h1 heap next').mono ?_
  rintro v' h' m ⟨rfl, rfl, rfl⟩ b1 b2
  exact (h b1).ok
 | _ => simp [Qy.NZ] at e
/-- .. whose value is only known by a property. -/
theorem Ga {q : Qy α} {g : FuncId} {args0 : List ae} {Q : ae -> Prop} (hc : aB P G g args0 [] 0 (fun v h m => Q v /\ h = [] /\ m = 0)) (e : q.NZ = some g) (ha : JG q.vn = args0) (hQ : ∀ v, Q v -> JH v = true)
  (h : ∀ v, Q v -> lW v -> (q.VU ⟨v, q.uQ, q.uO⟩).Ok P G T) : q.Ok P G T := by
 cases q with
 | res g' args' heap next' k =>
  simp only [Qy.NZ, Option.some.injEq] at e
  subst e
  simp only [Qy.uQ, Qy.vn, Qy.uO] at ha h
  refine ⟨?_⟩
  show aB P G g' _ heap next' _
  subst ha
  refine (DU hQ hc heap next').mono ?_
  rintro v' h' m ⟨hq, rfl, rfl⟩ b1 b2
  exact (h v' hq b1).ok
 | _ => simp [Qy.NZ] at e
/-- A call as it stands. -/
theorem Qb {q : Qy α} {g : FuncId} {args : List ae} {heap : Heap} {next : Nat} {r : eW} (hc : aB P G g args heap next (XQ r)) (e : q.NZ = some g) (ha : q.vn = args) (hh : q.uQ = heap) (hn : q.uO = next)
  (h : (q.VU r).Ok P G T) : q.Ok P G T := by
 cases q with
 | res g' args' heap' next' k =>
  simp only [Qy.NZ, Option.some.injEq] at e
  simp only [Qy.uQ, Qy.vn, Qy.uO] at ha hh hn
  subst e
  subst ha
  subst hh
  subst hn
  refine ⟨?_⟩
  show aB P G g' _ heap' next' _
  refine hc.mono ?_
  rintro v h' m ⟨rfl, rfl, rfl⟩ b1 b2
  exact h.ok
 | _ => simp [Qy.NZ] at e
theorem Bb {g : FuncId} {args : List ae} {heap : Heap} {next : Nat} {r : eW} (h : aB P G g args heap next (fun v h m => (⟨v, h, m⟩ : eW) = r)) : aB P G g args heap next (XQ r) := by
 refine h.mono ?_
 rintro v h m e
 subst e
 exact ⟨rfl, rfl, rfl⟩
/-- Code that is run to its end. -/
theorem OI {E : bq} {H : Hints} {n : Nat} {X : iI} (hE : E.Ok P) (hX : E9 P G X) {live : Nat -> Nat} (fuel : Nat) {c : Code} (hc : cF H c = true) {f f' : ac} {e : Exit} (h : gW X E G H n live fuel c f = some (e, f')) :
  df P G c (fun e2 s => e2 = e /\ s = f'.aw n) (f.aw n) := dU X E G H n hE hX live fuel c f f' e hc h _ ⟨rfl, rfl⟩
def Qy.Q7 : Qy (Exit × ac) -> Option Exit
 | .fin r => some r.1
 | _ => none
def Qy.Uu : Qy (Exit × ac) -> ac
 | .fin r => r.2
 | _ => ⟨[], [], [], 0⟩
/-- The end of a piece of code, its state said slot by slot. -/
theorem bN {q : Qy (Exit × ac)} {T : Exit -> aa -> Prop} {n : Nat} {ex : Exit} (f : ac) (e : q.Q7 = some ex) (hs : q.Uu.aw n = f.aw n) (h : T ex (f.aw n)) : q.Ok P G (fun r => T r.1 (r.2.aw n)) := by
 cases q with
 | fin r =>
  simp only [Qy.Q7, Option.some.injEq] at e
  simp only [Qy.Uu] at hs
  refine ⟨?_⟩
  show T r.1 (r.2.aw n)
  rw [e, hs]; exact h
 | _ => simp [Qy.Q7] at e
/-- A loop that counts. -/
theorem bu {c : Code} {T : Exit -> aa -> Prop} (St : Nat -> aa) (L : Nat) (round : ∀ i, i < L -> df P G c (qc (fun s => s = St (i + 1)) T) (St i))
  (last : df P G c (qc (fun _ => False) T) (St L)) {i : Nat} (hi : i <= L) : df P G (.loop c) T (St i) := by
 refine Sb (I := fun m s => ∃ j, j <= L /\ m = L - j /\ s = St j) ?_ (m := L - i) ⟨i, hi, rfl, rfl⟩
 rintro m s ⟨j, hj, rfl, rfl⟩
 by_cases h : j < L
 ·refine (round j h).mono ?_
  intro e s hs
  cases e with
  | normal =>
   have hs : s = St (j + 1) := hs
   exact ⟨L - (j + 1), by omega, j + 1, by omega, rfl, hs⟩
  | _ => exact hs
 have : j = L := by omega
 subst this
 refine last.mono ?_
 intro e s hs
 cases e with
 | normal => exact hs.elim
 | _ => exact hs
/-- .. with what holds beside. -/
theorem cj {c : Code} {T : Exit -> aa -> Prop} (St : Nat -> aa) (Inv : Nat -> Prop) (L : Nat) (round : ∀ i, i < L -> Inv i -> df P G c (qc (fun s => s = St (i + 1) /\ Inv (i + 1)) T) (St i))
  (last : Inv L -> df P G c (qc (fun _ => False) T) (St L)) {i : Nat} (hi : i <= L) (h0 : Inv i) : df P G (.loop c) T (St i) := by
 refine Sb (I := fun m s => ∃ j, j <= L /\ m = L - j /\ s = St j /\ Inv j) ?_ (m := L - i) ⟨i, hi, rfl, rfl, h0⟩
 rintro m s ⟨j, hj, rfl, rfl, hI⟩
 by_cases h : j < L
 ·refine (round j h hI).mono ?_
  intro e s hs
  cases e with
  | normal =>
   have hs : s = St (j + 1) /\ Inv (j + 1) := hs
   exact ⟨L - (j + 1), by omega, j + 1, by omega, rfl, hs⟩
  | _ => exact hs
 have : j = L := by omega
 subst this
 refine (last hI).mono ?_
 intro e s hs
 cases e with
 | normal => exact hs.elim
 | _ => exact hs
end
end Go.Tp

namespace Go.Tp
section
variable {P : Program} {G : bE} {α : Type} {T : α -> Prop}
theorem oh {q : Qy α} {g : FuncId} {args : List ae} {heap : Heap} {next : Nat} {r : eW} (hc : aB P G g args heap next (XQ r)) (h : (q.VU r).Ok P G T) (e : q.NZ = some g := by kernel_rfl) (ha : q.vn = args := by kernel_rfl) (hh : q.uQ = heap := by kernel_rfl) (hn : q.uO = next := by kernel_rfl) : q.Ok P G T :=
 Qb hc e ha hh hn h
theorem on {q : Qy α} {g : FuncId} {args0 : List ae} {v : ae} (hc : aB P G g args0 [] 0 (XQ ⟨v, [], 0⟩)) (h : (q.VU ⟨v, q.uQ, q.uO⟩).Ok P G T) (e : q.NZ = some g := by kernel_rfl) (ha : JG q.vn = args0 := by kernel_rfl) (hm : JH v = true := by exact rfl) : q.Ok P G T :=
 VS hc e ha hm (fun _ => h)
theorem ob {q : Qy α} {c b : Bool} (hc : c = b) (h : (q.U4 b).Ok P G T) (e : q.yU = some c := by kernel_rfl) : q.Ok P G T := bj hc e h
theorem ox {q : Qy α} {c b : Bool} (hc : c = b) (h : (q.U4 (!b)).Ok P G T) (e : q.yU = some (!c) := by kernel_rfl) : q.Ok P G T := bj (by rw [hc]) e h
theorem oo {q : Qy α} {o : Option Out} {x : Out} (ho : o = some x) (h : (q.X1 x).Ok P G T) (e : q.P8 = some o := by kernel_rfl) : q.Ok P G T := S8 ho e h
theorem fi {q : Qy α} {a : α} (e : q.GQ = some a := by kernel_rfl) : q.Ok P G (fun y => y = a) := br e rfl
theorem oe {q : Qy (Exit × ac)} {T : Exit -> aa -> Prop} {n : Nat} {ex : Exit} {f : ac} (h : T ex (f.aw n)) (e : q.Q7 = some ex := by kernel_rfl) (hs : q.Uu.aw n = f.aw n := by kernel_rfl) : q.Ok P G (fun r => T r.1 (r.2.aw n)) := bN f e hs h
theorem lo {q : Qy α} {n : Nat} {c : Code} {f : ac} {L : Exit -> aa -> Prop} (hl : df P G (.loop c) L (f.aw n)) (h : ∀ e s, L e s -> ∃ f', s = f'.aw n /\ (q.VV (e, f')).Ok P G T) (e : q.Az = some (n, c) := by kernel_rfl) (hs : q.D4.aw n = f.aw n := by kernel_rfl) : q.Ok P G T := gR e hs hl h
end
end Go.Tp

namespace Go.Tp
noncomputable def L4 (A B : Nat -> Bool) (E : bq) (G : bE) (moves caps : FuncId -> Bool) (x : lY) (g : FuncId) (args : List ae) (heap : Heap) (next : Nat) : Qy eW :=
 match Nat.ble args.length x.ntmps with
 | false => .fail
 | true => rm A B E G ⟨moves, x.ord, caps, rowsOf caps g⟩ x.ntmps x.live x.code ⟨wR 0 args, [], heap, next⟩ (fun r => match r with
  |(.ret, f) => (match vG E x.ntmps x.results f with | some r => .fin r | none => .fail)
  |(.normal, f) => (match vG E x.ntmps x.results f with | some r => .fin r | none => .fail)
  | _ => .fail)
section
variable {P : Program} {E : bq} {G : bE}
/-- A function's contract, as its run ends. -/
theorem L3 {A B : Nat -> Bool} {moves caps : FuncId -> Bool} {F : FuncId -> Option lY} (hE : E.Ok P) (hF : Xt P moves caps F) {g : FuncId} {x : lY} (hx : F g = some x) {args : List ae} {heap : Heap} {next : Nat} {T : eW -> Prop}
  (h : pF args -> vI heap -> (L4 A B E G moves caps x g args heap next).Ok P G T) : aB P G g args heap next (fun v h m => T ⟨v, h, m⟩) := by
 obtain ⟨fn, h1, h2, h3, h4, h5⟩ := hF g x hx
 refine jo hE h1 h2 ?_
 intro b1 b2
 have h := (h b1 b2).ok
 rw [h3, h4]
 unfold L4 at h
 split at h
 ·exact h.elim
 rename_i hlen
 have hlen := fW hlen
 have hent : (⟨wR 0 args, [], heap, next⟩ : ac).aw x.ntmps = enter x.ntmps args heap next := by
  simp only [ac.aw, enter]
  congr 1
  apply List.ext_getElem?
  intro i
  rw [kN, Nat.zero_add, qW, if_pos (Nat.zero_le _), Nat.sub_zero, List.getElem?_append]
  split
  ·split
   ·rename_i hi; unfold bp; rw [List.getElem?_eq_getElem hi]
   rename_i hi1 hi
   rw [List.getElem?_replicate, if_pos (by omega)]
   unfold bp
   rw [List.getElem?_eq_none (by omega)]
  rename_i hi
  rw [if_neg (by omega), List.getElem?_replicate, if_neg (by omega)]
 rw [← hent]
 refine (gQ (H := ⟨moves, x.ord, caps, rowsOf caps g⟩) hE x.live x.code _ _ (by rw [dF]; exact h5) h).mono ?_
 rintro e s ⟨f', rfl, h'⟩
 have key : (match vG E x.ntmps x.results f' with | some r => (Qy.fin r : Qy eW) | none => .fail).qO P G T -> vJ E x.results (fun v h m => T ⟨v, h, m⟩) (f'.aw x.ntmps) := by
  intro hh
  split at hh
  ·rename_i r hr
   have := pY (E := E) (rs := x.results) (s := f'.aw x.ntmps) (r := r) (by rw [Ce]; exact hr)
   exact A5 (by rintro v h m ⟨rfl, rfl, rfl⟩; exact hh) this
  exact hh.elim
 cases e with
 | ret => exact key h'
 | normal => exact key h'
 | _ => exact h'.elim
/-- Names in the list become k0, k0 + 1, ..; the others stay. -/
def nh (k0 : Nat) (ps : List Nat) (o : Nat) : Nat := match ir o ps with | true => qz o ps k0 | false => o
def eI (k0 : Nat) (ps : List Nat) (o : Nat) : Bool := Nat.blt o k0 || ir o ps
theorem aB.rn {g : FuncId} {args : List ae} {heap : Heap} {next : Nat} {Q Q' : ae -> Heap -> Nat -> Prop} (h : aB P G g args heap next Q)
  (hq : ∀ v hp m, Q v hp m -> ∃ ps, DT (eI next ps) v = true /\ JE (eI next ps) (cq (eI next ps) hp) = true /\ Q' (fS (nh next ps) v) (pz (nh next ps) (cq (eI next ps) hp)) (next + ps.length)) : aB P G g args heap next Q' := by
 intro w R N cargs bsA bsH bsF ha hh hnd hnx hg hF
 refine (h w R N cargs bsA bsH bsF ha hh hnd hnx hg hF).mono ?_
 rintro e w' ⟨v, cv, hp, m, R', N', bsV, bsH', rfl, hq1, hv, hh', hnd', hnx', hk, hN⟩
 obtain ⟨ps, p1, p2, p3⟩ := hq _ _ _ hq1
 let N2 : Name -> Option Nat := fun m => match m with | .loc i => N' (.loc i) | .out x => if x < next then N' (.out x) else (match ps[x - next]? with | some o => N' (.out o) | none => none)
 have hM : ∀ o b, eI next ps o = true -> outs N' (.out o) = some b -> outs N2 (.out (nh next ps o)) = some b := by
  intro o b ho hb
  simp only [outs] at hb ⊢
  unfold nh
  cases hm : ir o ps with
  | true =>
   obtain ⟨q1, q2, q3⟩ := IE (k := next) hm
   dsimp only [N2]
   rw [if_neg (by omega), q3]
   exact hb
  | false =>
   unfold eI at ho
   rw [hm, Bool.or_false] at ho
   dsimp only [N2]
   rw [if_pos (oA ho)]
   exact hb
 have hL : ∀ i b, outs N' (.loc i) = some b -> outs N2 (.loc i) = some b := fun i b h => h
 obtain ⟨bs', k1, k2⟩ := lg (eI next ps) hh'
 refine ⟨_, cv, _, _, R', N2, bsV, bs', rfl, p3, hv.Fa hL hM p1, k1.Fa hL hM p2, ?_, ?_, hk, ?_⟩
 ·exact List.Nodup.sublist (List.Sublist.append (.refl _) (List.Sublist.append k2 (.refl _))) hnd'
 ·intro x b hx
  dsimp only [N2] at hx
  split at hx
  ·omega
  split at hx
  ·rename_i o ho
   have := (List.getElem?_eq_some_iff.1 ho).1
   omega
  simp at hx
 intro o b hb
 dsimp only [N2]
 rw [if_pos (hnx o b hb)]
 exact hN o b hb
end
end Go.Tp

namespace Go.Tp
/-- The second says no more than the first. -/
inductive U6 : ae -> ae -> Prop
 |refl (a : ae) : U6 a a
 |own (es : List aq) : U6 (.own es) (.dat (.slice es))
 |nil : U6 (.dat (.flat (.slice none 0 0))) (.dat (.slice []))
inductive KN : List ae -> List ae -> Prop
 |nil : KN [] []
 |cons {a b : ae} {as bs : List ae} (h : U6 a b) (t : KN as bs) : KN (a :: as) (b :: bs)
theorem KN.refl : ∀ l : List ae, KN l l
 | [] => .nil
 | a :: r => .cons (.refl a) (KN.refl r)
inductive Xz : aN -> aN -> Prop
 |refl (o : aN) : Xz o o
 |cells {as bs : List ae} (h : KN as bs) (hb : cI bs = false) : Xz (.cells as) (.cells bs)
inductive Xr : Heap -> Heap -> Prop
 |nil : Xr [] []
 |cons {n : Name} {o p : aN} {h k : Heap} (ho : Xz o p) (t : Xr h k) : Xr ((n, o) :: h) ((n, p) :: k)
section
variable {w : World} {R : Own} {M : Name -> Option Nat}
theorem ak.wk {a b : ae} (h : U6 a b) {v : Value} {bs : List Nat} (hr : ak w R M a v bs) : ∃ bs', ak w R M b v bs' /\ bs'.Sublist bs := by
 cases h with
 | refl => exact ⟨bs, hr, List.Sublist.refl _⟩
 | own es => exact ⟨[], bV (bX hr).rep, List.nil_sublist _⟩
 | nil =>
  simp only [ak] at hr
  obtain ⟨rfl, hd⟩ := hr
  refine ⟨[], ?_, List.Sublist.refl _⟩
  refine bV ?_
  cases hd with
  | flat h => exact .nil none 0
theorem aj.wk {as cs : List ae} (h : KN as cs) : ∀ {vs : List Value} {bs : List Nat}, aj w R M as vs bs -> ∃ bs', aj w R M cs vs bs' /\ bs'.Sublist bs := by
 induction h with
 | nil => intro vs bs hr; exact ⟨bs, hr, List.Sublist.refl _⟩
 | cons h _ ih =>
  intro vs bs hr
  simp only [aj] at hr
  obtain ⟨v, vs', b1, b2, rfl, rfl, h1, h2⟩ := hr
  obtain ⟨c1, k1, s1⟩ := h1.wk h
  obtain ⟨c2, k2, s2⟩ := ih h2
  refine ⟨c1 ++ c2, ?_, s1.append s2⟩
  simp only [aj]
  exact ⟨v, vs', c1, c2, rfl, rfl, k1, k2⟩
theorem KN.append {as bs : List ae} (h : KN as bs) (c : List ae) : KN (as ++ c) (bs ++ c) := by
 induction h with
 | nil => exact KN.refl c
 | cons h _ ih => exact .cons h ih
theorem aQ.wk {o p : aN} (h : Xz o p) {b : Nat} {bs : List Nat} (hr : aQ w R M o b bs) : ∃ bs', aQ w R M p b bs' /\ bs'.Sublist bs := by
 cases h with
 | refl => exact ⟨bs, hr, List.Sublist.refl _⟩
 | cells hl hb =>
  simp only [aQ] at hr
  obtain ⟨vs, elem, sp, h1, h2, h3, h4⟩ := hr
  obtain ⟨bs', k, s⟩ := h2.wk (hl.append _)
  refine ⟨bs', ?_, s⟩
  simp only [aQ]
  exact ⟨vs, elem, sp, h1, k, h3, fun h => by rw [hb] at h; simp at h⟩
theorem an.wk {h k : Heap} (hw : Xr h k) : ∀ {bs : List Nat}, an w R M h bs -> ∃ bs', an w R M k bs' /\ bs'.Sublist bs := by
 induction hw with
 | nil => intro bs hr; exact ⟨bs, hr, List.Sublist.refl _⟩
 | cons ho _ ih =>
  intro bs hr
  simp only [an] at hr
  obtain ⟨b, b1, b2, rfl, hn, h1, h2⟩ := hr
  obtain ⟨c1, k1, s1⟩ := h1.wk ho
  obtain ⟨c2, k2, s2⟩ := ih h2
  refine ⟨b :: (c1 ++ c2), ?_, (s1.append s2).cons_cons b⟩
  simp only [an]
  exact ⟨b, c1, c2, rfl, hn, k1, k2⟩
end
section
variable {P : Program} {G : bE}
/-- A call with less said of what it leaves. -/
theorem aB.U7 {g : FuncId} {args : List ae} {heap : Heap} {next : Nat} {v v2 : ae} {h h2 : Heap} {m : Nat} (hc : aB P G g args heap next (XQ ⟨v, h, m⟩)) (hv : U6 v v2) (hh : Xr h h2) : aB P G g args heap next (XQ ⟨v2, h2, m⟩) := by
 intro w R N cargs bsA bsH bsF ha hp hnd hnx hg hF
 refine (hc w R N cargs bsA bsH bsF ha hp hnd hnx hg hF).mono ?_
 rintro e w' ⟨v', cv, h1, next', R', N', bsV, bsH', rfl, ⟨rfl, rfl, rfl⟩, hv1, hh', hnd', hnx', hk, hN⟩
 obtain ⟨b1, k1, s1⟩ := hv1.wk hv
 obtain ⟨b2, k2, s2⟩ := hh'.wk hh
 exact ⟨_, cv, _, _, R', N', b1, b2, rfl, ⟨rfl, rfl, rfl⟩, k1, k2, (s1.append (s2.append_right _)).nodup hnd', hnx', hk, hN⟩
end
end Go.Tp

namespace Go.Tp
open Go.ChangeShapes Go.WideShapes
/-- The integers of a slice, as data. -/
def JT (x : Int) : aq := .flat (.int .i64 x)
/-- An argument that is a slice of integers. -/
theorem E3 {H : Type} {enc : TypeId × Value -> H} {P : Program} {W : World} {base : Nat} {sp : Nat -> Bool} {held : Bool} {t e : TypeId} {v : Value} {d : DataW H} {ps : List MemPlace} (N : Name -> Option Nat)
  (ht : P.underlying t = some (.slice e)) (he : P.underlying e = some (.int .i64)) (hc : P.cellsOf e = 1) (hv : v.cells = #[v]) (h : DataW.Trod enc P W base sp held t v d ps) :
  ∃ l : List Int, ((d = .nil /\ l = []) ∨ (∃ els rest, d = .slice els rest /\ els.length = l.length)) /\ (l.length <= jy -> ak W uN N (.dat (.slice (l.map JT))) v []) := by
 obtain ⟨fuel, hf⟩ := h
 rcases open_ints ht he hc hf with ⟨hcs, hx⟩ | ⟨a, len, cap, zs, hcs, _, hl, hm, hz, hx, hi, hw⟩
 ·rw [hv] at hcs
  simp only [List.cons.injEq, and_true] at hcs
  have hvn : v = .slice none 0 0 := by simpa using hcs
  subst hvn
  refine ⟨[], .inl ⟨?_, rfl⟩, fun _ => bV (d := .slice []) (.nil none 0)⟩
  simp only [Prod.mk.injEq] at hx
  exact hx.1
 rw [hv] at hcs
 have hvn : v = .slice (some a) len cap := by simpa using hcs
 subst hvn
 simp only [Prod.mk.injEq] at hx
 have hlz : len <= zs.length := by rw [hz]; split <;> omega
 refine ⟨zs.take len, .inr ⟨_, _, hx.1, by simp [lits]⟩, fun hb => ?_⟩
 have htl : (zs.take len).length = len := by rw [List.length_take]; omega
 rw [htl] at hb
 refine bV (d := .slice _) ?_
 cases hk : len with
 | zero =>
  rw [hk] at hl
  simp only [List.take_zero, List.map_nil]
  exact .nil (some a) cap
 | succ k0 =>
  have hspot : a.spot = none := by
   have := hi 0 (by omega)
   have := World.cell?_spot this
   simpa [Addr.add] using this
  obtain ⟨b, off, spot⟩ := a
  simp only at hspot
  subst hspot
  rw [← hk]
  have el : ((zs.take len).map JT).length = len := by rw [List.length_map, htl]
  have hgoal : eA W uN (.slice (some ⟨b, off, none⟩) ((zs.take len).map JT).length cap) (.slice ((zs.take len).map JT)) := by
   refine .slice b off cap 1 _ (fun i _ => .int .i64 (zs.getD i 0)) (by omega) ?_ (by omega) (by omega) ?_ ?_
   ·intro d hd
    obtain ⟨x, _, rfl⟩ := List.mem_map.1 hd
    rfl
   ·intro i j hil hj
    obtain rfl : j = 0 := by omega
    rw [el] at hil
    refine ⟨?_, fun h => h⟩
    have := hi i (by omega)
    simp only [Addr.add] at this
    simp only [Nat.mul_one, Nat.add_zero]
    split at this
    ·rename_i h0; subst h0; exact this
    exact this
   intro i j d c hd hcc
   rw [List.getElem?_map] at hd
   cases hb2 : (zs.take len)[i]? with
   | none => rw [hb2] at hd; simp at hd
   | some x =>
    rw [hb2] at hd
    simp at hd
    subst hd
    have : c = .flat (.int .i64 x) := by
     cases j with
     | zero => simp [JT, aq.cells] at hcc; exact hcc.symm
     | succ j => simp [JT, aq.cells] at hcc
    subst this
    have hx2 : zs[i]? = some x := by
     rw [List.getElem?_take] at hb2
     split at hb2
     ·exact hb2
     simp at hb2
    have : zs.getD i 0 = x := by simp [List.getD, hx2]
    rw [this]
    exact .flat (hw x (List.mem_of_getElem? hx2))
  rw [el] at hgoal
  exact hgoal
/-- A call from outside: what comes back, and that no block changes. -/
theorem tS {P : Program} {G : bE} {f : FuncId} {as : List ae} {args : List Value} {b : Bool} {r : eW} (W : World) (ha : aj W uN (outs fun _ => none) as args []) (h : aB P G f as [] 0 (XQ r)) (hr : r.val = bv b) (hG : ∀ g cs, G g = some cs -> dG W uN g 0 cs) :
  Calls P f args.toArray W fun e W' => e = .returned (.bool b) /\ W.keptBut W' (fun _ => False) /\ ∀ i, i < W.heap.size -> W'.heap[i]? = W.heap[i]? := by
 refine (h W uN (fun _ => none) args [] [] [] ha rfl (by simp) (by intro o b h; simp at h) hG (by simp)).mono ?_
 rintro e W' ⟨v, cv, heap', next', R', N', bsV, bsH', rfl, ⟨rfl, _, _⟩, hv, _, _, _, hk, _⟩
 rw [hr] at hv
 obtain ⟨_, rfl, _⟩ := aF hv
 exact ⟨rfl, vD hk.step, fun i hi => (hk.step.block i hi (fun _ h => h)).1⟩
/-- What was read is read again, where no block has changed. -/
theorem wC {H : Type} {enc : TypeId × Value -> H} {P : Program} {W W' : World} {base : Nat} {sp : Nat -> Bool} {hd : Bool} (hB : ∀ i, i < W.heap.size -> W'.heap[i]? = W.heap[i]?) : ∀ {ts : List TypeId} {vs : List Value} {ds : List (DataW H)} {ps : List MemPlace},
  DataW.TrodAll enc P W base sp hd ts vs ds ps -> DataW.TrodAll enc P W' base sp hd ts vs ds ps
 | [], _, _, _, h => by
  obtain ⟨rfl, rfl, rfl⟩ := trodAll_nil h
  exact trodAll_mk0
 | _ :: _, _, _, _, h => by
  obtain ⟨v, vs1, d, ds1, a, b, rfl, rfl, rfl, ⟨n, hn⟩, h2⟩ := trodAll_cons h
  refine ⟨a, b, ⟨n, DataW.trod_carry n _ _ _ hn (fun p hp => ?_)⟩, wC hB h2, rfl⟩
  have hl := DataW.trod_lt n _ _ _ hn p hp
  cases p with
  | cell b o => exact World.cell?_of_block (w := W) (hB b hl)
  | map b => exact hB b hl
end Go.Tp
