/- HierarchyClone returns true and changes nothing, for arguments of bulk at most 1048576 (the card of the second form; conditions: those of the given row). Names are shortened by a program, for the claim's bound. Part 6. -/
import Derived.Shelf.SlGeneric
import Derived.Ground.SlmcProg
import Derived.Shelf.SlLaysW
import Derived.Shelf.SlMaps.Clone
import Derived.Test.YtiihadmgkoamoaaGreatDoorProg
import Derived.Test.YtiihadmgkoamoaaGreatDoorCards
import Derived.Test.YtiihadmgkoamoaaGreatDoorTie
import Derived.WalkKit
import Derived.ProofKit
import Derived.OpenShut
import Derived.Deep.DeepHandedRow
import Derived.Deep.DeepWitnessRowRef
import Derived.Test.YtiihadmgkoamoaaGreatDoorQ05
set_option linter.unusedVariables false
set_option linter.unusedSimpArgs false
set_option maxRecDepth 100000
set_option maxHeartbeats 4000000
namespace Go.Proofs.YtiihadmgkoamoaaGreatDoor
open Go.Tp
/-! ### Closed terms have no free variables -/
theorem yV {s : List Int} {x : Int} : hJ s x ≠ [] := by
 unfold hJ
 cases h : s.contains x with
 | true => intro h2; dsimp only at h2; rw [h2] at h; simp at h
 | false => exact C4
theorem Kw {k ix : Int} {u : Nat} {s : List Int} (h : s ≠ []) : dH k ix u s ≠ [] := by
 unfold dH
 cases bj k 5 with
 | false => exact h
 | true =>
  cases ba ix (Int.ofNat u) with
  | true => exact h
  | false => exact yV
mutual
theorem V9 : ∀ (t : Ty) (u : Nat) {s : List Int}, s ≠ [] -> t.cf u s ≠ []
 | .mk k nm ix l, u, s, h => by rw [Ty.cf]; exact Bt l u (Kw h)
theorem Bt {k : Int} : ∀ (l : List Ty) {j : Nat} (u : Nat) {s : List Int}, s ≠ [] -> pv k l j u s ≠ []
 | [], j, u, s, h => by rw [pv]; exact h
 | t :: r, j, u, s, h => by rw [pv]; exact Bt r u (V9 t _ h)
end
mutual
theorem zQ : ∀ (t : Ty) (u : Nat), JG (t.cf u []) = t.closed u
 | .mk k nm ix l, u => by
  rw [Ty.cf, Ty.closed]
  cases hk : bj k 5 with
  | false =>
   have e : dH k ix u [] = [] := by unfold dH; rw [hk]
   rw [e, Bool.false_and, Bool.not_false, Bool.true_and]
   exact qf l u 0
  | true =>
   cases hg : ba ix (Int.ofNat u) with
   | true =>
    have e : dH k ix u [] = [] := by unfold dH; rw [hk, hg]
    rw [e, Bool.not_true, Bool.and_false, Bool.not_false, Bool.true_and]
    exact qf l u 0
   | false =>
    have e : dH k ix u [] ≠ [] := by unfold dH; rw [hk, hg]; exact yV
    have h2 := Bt (k := k) l (j := 0) u e
    rw [Bool.not_false, Bool.true_and, Bool.not_true, Bool.false_and]
    cases h : pv k l 0 u (dH k ix u []) with
    | nil => exact absurd h h2
    | cons _ _ => rfl
theorem qf {k : Int} : ∀ (l : List Ty) (u j : Nat), JG (pv k l j u []) = dY k j l u
 | [], u, j => by rw [pv, dY]; rfl
 | t :: r, u, j => by
  rw [pv, dY]
  have h := zQ t (u + cW k j)
  cases hc : t.closed (u + cW k j) with
  | true =>
   rw [hc] at h
   have e : t.cf (u + cW k j) [] = [] := by cases h3 : t.cf (u + cW k j) [] with | nil => rfl | cons _ _ => rw [h3] at h; simp [JG] at h
   rw [e, Bool.true_and]
   exact qf r u (j + 1)
  | false =>
   rw [hc] at h
   have e : t.cf (u + cW k j) [] ≠ [] := by intro h3; rw [h3] at h; simp [JG] at h
   have h2 := Bt (k := k) r (j := j + 1) u e
   rw [Bool.false_and]
   cases h4 : pv k r (j + 1) u (t.cf (u + cW k j) []) with
   | nil => exact absurd h4 h2
   | cons _ _ => rfl
end
theorem zd {t : Ty} (h : t.cA) : ae 178 [.dat t.enc] (bv (t.closed 0)) := by
 rw [← zQ t 0]
 exact KP h.1 h.2
/-! ### TermPlain -/
noncomputable def Ww : Hints := ⟨au, AA, ax, rowsOf ax 150⟩
def Uk (lo : Heap) (i : Int) : ab := ⟨[(3, iv i), (1, .ptr (.loc 1) 0)], lo, [], 0⟩
def Ui (lo : Heap) (i : Int) : ab := ⟨[(15, bv false), (3, iv i), (1, .ptr (.loc 1) 0)], lo, [], 0⟩
def Uj : ab := ⟨[(2, bv false)], [], [], 0⟩
theorem Kt {k : Int} {nm : List UInt8} {ix : Int} {l : List Ty} {t : Ty} {i : Nat} {c : Bool} (hi : i < (an l).length) (ht : l[i]? = some t) (hc : ae 150 [.dat t.enc] (bv c)) {T : Exit -> aa -> Prop}
  (e1 : c = true -> T .normal ((Uk (jg 1 k nm ix (.slice (an l))) (aG .i64 (Int.ofNat i + 1))).aw Tryz.f150.ntmps)) (e2 : c = false -> T .ret (Uj.aw Tryz.f150.ntmps)) :
  KD (roundOf Tryz.f150 0) T ((Uk (jg 1 k nm ix (.slice (an l))) (Int.ofNat i)).aw Tryz.f150.ntmps) := by
 have h1 := bN hi
 have h2 := jT ht
 generalize an l = es at *
 clear ht hi
 obtain ⟨k2, nm2, ix2, a2⟩ := t
 rcases a2 with _ | ⟨b, d⟩ <;>
 ·refine az [15] [21] (H := Ww) (live := qS) (by kernel_rfl) ?_; refine ob h1 ?_; refine oo h2 ?_; refine on hc ?_
  cases c
  ·exact oe (e2 rfl)
  exact oe (e1 rfl)
theorem Oq {k : Int} {nm : List UInt8} {ix : Int} {l : List aq} {T : Exit -> aa -> Prop} (e : T (.exit 0) ((Ui (jg 1 k nm ix (sl l)) (Int.ofNat l.length)).aw Tryz.f150.ntmps)) :
  KD (roundOf Tryz.f150 0) T ((Uk (jg 1 k nm ix (sl l)) (Int.ofNat l.length)).aw Tryz.f150.ntmps) := by
 have h1 := bO (i := l.length) (L := l.length) (by omega)
 rcases l with _ | ⟨x, l⟩
 ·refine az [] [] (H := Ww) (live := qS) (by kernel_rfl) ?_; exact oe e
 refine az [15] [] (H := Ww) (live := qS) (by kernel_rfl) ?_; refine ob h1 ?_; exact oe e
theorem RA {k : Int} {nm : List UInt8} {ix : Int} {l : List aq} {c2 c5 cc ca : Bool} (h5 : bj k 5 = c5) (hc : ae 178 [.dat (.agg [i64 k, sb nm, i64 ix, sl l])] (bv cc)) (h2 : bj k 2 = c2)
  (hl : KD (.loop (roundOf Tryz.f150 0)) (fun e s => (e = .exit 0 /\ ca = false /\ s = (Ui (jg 1 k nm ix (sl l)) (Int.ofNat l.length)).aw Tryz.f150.ntmps) ∨ (e = .ret /\ ca = true /\ s = Uj.aw Tryz.f150.ntmps)) ((Uk (jg 1 k nm ix (sl l)) (Int.ofNat 0)).aw Tryz.f150.ntmps)) :
  ae 150 [.dat (.agg [i64 k, sb nm, i64 ix, sl l])] (bv (c5 || cc || (c2 && !ca))) := by
 rcases l with _ | ⟨x, l⟩ <;>
 ·cases c2 <;>
  ·refine co [6, 27] [] (x := .of Tryz.f150 AA qS) ?_; refine ob h5 ?_
   cases c5
   ·refine on hc ?_
    cases cc
    ·refine lo hl ?_
     rintro ex s (⟨rfl, rfl, rfl⟩ | ⟨rfl, rfl, rfl⟩)
     ·refine ⟨_, rfl, ?_⟩; refine ob h2 ?_; exact fi
     refine ⟨_, rfl, ?_⟩; exact fi
    exact fi
   exact fi
theorem ye {l : List Ty} {i : Nat} {t : Ty} (h : l[i]? = some t) : fU (l.drop i) = (!t.plain || fU (l.drop (i + 1))) := by rw [dv h, fU]
mutual
theorem Gw : ∀ t : Ty, t.cA -> ae 150 [.dat t.enc] (bv t.plain)
 | .mk k nm ix l, h => by
  have hc := zd h
  obtain ⟨h1, h2⟩ := h
  simp only [Ty.size] at h1
  simp only [Ty.eI] at h2
  have ih := wE l (by omega) h2.2
  have hlen := eg l
  rw [Ty.plain]
  refine RA rfl hc rfl ?_
  refine ct (St := fun i => (Uk (jg 1 k nm ix (sl (an l))) (Int.ofNat i)).aw Tryz.f150.ntmps) (fun i => fU l = fU (l.drop i)) (an l).length ?_ ?_ (i := 0) (Nat.zero_le _) rfl
  ·intro i hi hI
   obtain ⟨t, ht, hm⟩ := get_mem hi
   have hd := ye ht
   rw [← hI] at hd
   have hsl := ka hi
   have hw : aG .i64 (Int.ofNat i + 1) = Int.ofNat (i + 1) := bi (by rw [aE] at hi; omega)
   have hc := ih t hm
   rw [hsl]
   generalize t.plain = c at hc hd
   refine Kt hi ht hc ?_ ?_
   ·rintro rfl
    rw [hw]
    exact ⟨rfl, hd⟩
   rintro rfl
   exact .inr ⟨rfl, hd, rfl⟩
  intro hI
  refine Oq (.inl ⟨rfl, ?_, rfl⟩)
  rw [hI, aE, List.drop_length, fU]
theorem wE : ∀ l : List Ty, aR l < 100000000 -> di l -> ∀ t ∈ l, ae 150 [.dat t.enc] (bv t.plain)
 | [], _, _, t, ht => by simp at ht
 | u :: r, h, hx, t, ht => by
  simp only [aR] at h
  simp only [di] at hx
  rcases List.mem_cons.1 ht with h1 | ht
  ·rw [h1]; exact Gw u ⟨by omega, hx.1⟩
  exact wE r (by omega) hx.2 t ht
end
/-! ### Identifiers, keywords -/
theorem Ce : Gc (fun n => zV (iA n) (X 146 [JF n] [] 0)) 256 = true := by kernel_rfl
theorem KM (c : UInt8) : ae 146 [JF c.toNat] (bv (iA c.toNat)) := pf _ _ _ _ _ (rB (rM Ce _ c.toNat_lt))
theorem Ia : Gc (fun n => zV (yI n) (X 147 [JF n] [] 0)) 256 = true := by kernel_rfl
theorem RI (c : UInt8) : ae 147 [JF c.toNat] (bv (yI c.toNat)) := pf _ _ _ _ _ (rB (rM Ia _ c.toNat_lt))
noncomputable def WV : Hints := ⟨au, wS, ax, rowsOf ax 122⟩
def Ur (b : List UInt8) (i : Int) : ab := ⟨[(3, iv i), (0, .dat (sb b))], [], [], 0⟩
def Up (b : List UInt8) (i : Int) : ab := ⟨[(21, bv false), (3, iv i), (0, .dat (sb b))], [], [], 0⟩
def Uq : ab := ⟨[(2, bv false)], [], [], 0⟩
theorem Ie {b : List UInt8} {c : UInt8} {i : Nat} {cw c3 : Bool} {L : Int} (hL : Int.ofNat b.length = L) (h1 : ba (Int.ofNat i) (Int.ofNat b.length) = true) (h2 : tu (env ap.aK) 9 [.dat (sb b), .dat (.flat (.int .i64 (Int.ofNat i)))] = some ⟨JF c.toNat, .keep⟩) (h3 : ae 147 [JF c.toNat] (bv cw)) (h4 : bj (Int.ofNat c.toNat) 45 = c3) {T : Exit -> aa -> Prop}
  (e1 : (cw && !c3) = true -> T .normal ((Ur b (aG .i64 (Int.ofNat i + 1))).aw Tryz.f122.ntmps)) (e2 : (cw && !c3) = false -> T .ret (Uq.aw Tryz.f122.ntmps)) :
  KD (roundOf Tryz.f122 0) T ((Ur b (Int.ofNat i)).aw Tryz.f122.ntmps) := by
 refine az [21, 33] [26, 32] (H := WV) (live := qU) (by kernel_rfl) ?_; refine ob h1 ?_; refine oo h2 ?_; refine on h3 ?_
 cases cw
 ·exact oe (e2 rfl)
 refine oo h2 ?_; refine ob h4 ?_
 cases c3
 ·exact oe (e1 rfl)
 exact oe (e2 rfl)
theorem Kz {b : List UInt8} {T : Exit -> aa -> Prop} (e : T (.exit 0) ((Up b (Int.ofNat b.length)).aw Tryz.f122.ntmps)) :
  KD (roundOf Tryz.f122 0) T ((Ur b (Int.ofNat b.length)).aw Tryz.f122.ntmps) := by
 have h1 := bO (i := b.length) (L := b.length) (by omega)
 refine az [21] [] (H := WV) (live := qU) (by kernel_rfl) ?_; refine ob h1 ?_; exact oe e
theorem Ou {b : List UInt8} {c : UInt8} {c1 c2 ca : Bool} (h2 : ba 24 (Int.ofNat (c :: b).length) = c1) (h3 : ae 146 [JF c.toNat] (bv c2))
  (hl : c1 = false -> KD (.loop (roundOf Tryz.f122 0)) (fun e s => (e = .exit 0 /\ ca = true /\ s = (Up (c :: b) (Int.ofNat (c :: b).length)).aw Tryz.f122.ntmps) ∨ (e = .ret /\ ca = false /\ s = Uq.aw Tryz.f122.ntmps)) ((Ur (c :: b) (Int.ofNat 0)).aw Tryz.f122.ntmps)) :
  ae 122 [.dat (sb (c :: b))] (bv (!c1 && c2 && ca)) := by
 have g1 := rJ (b := c :: b) (i := 0) rfl
 cases c1
 ·have hl2 := hl rfl
  clear hl
  refine co [10] [14] (x := .of Tryz.f122 wS qU) ?_; refine ob h2 ?_; refine oo g1 ?_; refine on h3 ?_
  cases c2
  ·exact fi
  refine lo hl2 ?_
  rintro ex s (⟨rfl, rfl, rfl⟩ | ⟨rfl, rfl, rfl⟩) <;>
  ·refine ⟨_, rfl, ?_⟩; exact fi
 clear hl
 refine co [10] [] (x := .of Tryz.f122 wS qU) ?_; refine ob h2 ?_; exact fi
theorem Ot : ae 122 [.dat (sb [])] (bv false) := pf _ _ _ _ _ (by kernel_rfl)
theorem As (b : List UInt8) : ae 122 [.dat (sb b)] (bv (isIdent b)) := by
 cases b with
 | nil => exact Ot
 | cons c b =>
  have h3 := KM c
  have e : isIdent (c :: b) = (!ba 24 (Int.ofNat (c :: b).length) && iA c.toNat && (c :: b).all (fun c => dw c.toNat)) := by
   have e2 : Nat.ble (b.length + 1) 24 = !ba 24 (Int.ofNat (c :: b).length) := by
    rw [show (24 : Int) = Int.ofNat 24 from rfl, fZ]
    by_cases h : 24 < (c :: b).length
    ·rw [decide_eq_true h]
     simp at h ⊢
     rw [Bool.eq_false_iff, ne_eq, Nat.ble_eq]; omega
    rw [decide_eq_false h]
    simp at h ⊢
    omega
   show (Nat.ble (b.length + 1) 24 && iA c.toNat && (c :: b).all (fun c => dw c.toNat)) = _
   rw [e2]
  rw [e]
  refine Ou rfl h3 (fun hc => ?_)
  have hlen : (c :: b).length < 1000 := by
   rw [show (24 : Int) = Int.ofNat 24 from rfl, fZ] at hc
   simp only [decide_eq_false_iff_not] at hc
   omega
  obtain ⟨l, hl⟩ : ∃ l, l = c :: b := ⟨_, rfl⟩
  rw [← hl] at hlen ⊢
  clear hl hc e h3
  refine ct (St := fun i => (Ur l (Int.ofNat i)).aw Tryz.f122.ntmps) (fun i => l.all (fun c => dw c.toNat) = (l.drop i).all (fun c => dw c.toNat)) l.length ?_ ?_ (i := 0) (Nat.zero_le _) rfl
  ·intro i hi hI
   have ht : l[i]? = some l[i] := List.getElem?_eq_getElem hi
   generalize l[i] = t at ht
   have hd : (l.drop i).all (fun c => dw c.toNat) = (dw t.toNat && (l.drop (i + 1)).all (fun c => dw c.toNat)) := by rw [dv ht]; rfl
   rw [← hI] at hd
   have hw : aG .i64 (Int.ofNat i + 1) = Int.ofNat (i + 1) := bi (by omega)
   have e2 : dw t.toNat = (yI t.toNat && !(bj (Int.ofNat t.toNat) 45)) := by
    show (!Nat.beq t.toNat 45 && yI t.toNat) = (yI t.toNat && !(Nat.beq t.toNat 45))
    rw [Bool.and_comm]
   rw [e2] at hd
   refine Ie rfl (bN hi) (rJ ht) (RI t) rfl ?_ ?_
   ·intro h
    rw [h] at hd
    rw [hw]
    exact ⟨rfl, hd⟩
   intro h
   rw [h] at hd
   exact .inr ⟨rfl, hd, rfl⟩
  intro hI
  rw [List.drop_length] at hI
  exact Kz (.inl ⟨rfl, hI, rfl⟩)
theorem QH (b : List UInt8) : ae 123 [.dat (sb b)] (bv (fL b)) := by
 have e : fL b = (fY b [65, 110, 121] || fY b [78, 101, 118, 101, 114] || fY b [116, 117, 112, 108, 101] || fY b [117, 110, 105, 111, 110] || fY b [101, 120, 105, 115, 116, 115]) := by
  unfold fL mN
  simp only [List.any_cons, List.any_nil, Bool.or_false, Bool.or_assoc]
 rw [e]
 generalize h1 : fY b [65, 110, 121] = c1
 generalize h2 : fY b [78, 101, 118, 101, 114] = c2
 generalize h3 : fY b [116, 117, 112, 108, 101] = c3
 generalize h4 : fY b [117, 110, 105, 111, 110] = c4
 generalize h5 : fY b [101, 120, 105, 115, 116, 115] = c5
 refine co [4, 7, 11, 15, 19] [] (x := .of Tryz.f123 ES Hi) ?_; refine ob h1 ?_
 cases c1
 ·refine ob h2 ?_
  cases c2
  ·refine ob h3 ?_
   cases c3
   ·refine ob h4 ?_
    cases c4
    ·refine ob h5 ?_
     cases c5 <;>
     ·exact fi
    exact fi
   exact fi
  exact fi
 exact fi
theorem qb {k j : Int} (h : k ≠ j) : bj k j = false := by rw [fM]; simpa using h
theorem kinds (k : Int) {c0 c1 c2 c3 c4 c5 c6 : Bool} (h0 : bj k 0 = c0) (h1 : bj k 1 = c1) (h2 : bj k 2 = c2) (h3 : bj k 3 = c3) (h4 : bj k 4 = c4) (h5 : bj k 5 = c5) (h6 : bj k 6 = c6) :
  (c0 = true /\ c1 = false /\ c2 = false /\ c3 = false /\ c4 = false /\ c5 = false /\ c6 = false) ∨ (c0 = false /\ c1 = true /\ c2 = false /\ c3 = false /\ c4 = false /\ c5 = false /\ c6 = false) ∨ (c0 = false /\ c1 = false /\ c2 = true /\ c3 = false /\ c4 = false /\ c5 = false /\ c6 = false) ∨ (c0 = false /\ c1 = false /\ c2 = false /\ c3 = true /\ c4 = false /\ c5 = false /\ c6 = false) ∨ (c0 = false /\ c1 = false /\ c2 = false /\ c3 = false /\ c4 = true /\ c5 = false /\ c6 = false) ∨ (c0 = false /\ c1 = false /\ c2 = false /\ c3 = false /\ c4 = false /\ c5 = true /\ c6 = false) ∨ (c0 = false /\ c1 = false /\ c2 = false /\ c3 = false /\ c4 = false /\ c5 = false /\ c6 = true) ∨ (c0 = false /\ c1 = false /\ c2 = false /\ c3 = false /\ c4 = false /\ c5 = false /\ c6 = false) := by
 subst h0 h1 h2 h3 h4 h5 h6
 by_cases q0 : k = 0
 ·subst q0; exact .inl ⟨rfl, rfl, rfl, rfl, rfl, rfl, rfl⟩
 by_cases q1 : k = 1
 ·subst q1; exact .inr (.inl ⟨rfl, rfl, rfl, rfl, rfl, rfl, rfl⟩)
 by_cases q2 : k = 2
 ·subst q2; exact .inr (.inr (.inl ⟨rfl, rfl, rfl, rfl, rfl, rfl, rfl⟩))
 by_cases q3 : k = 3
 ·subst q3; exact .inr (.inr (.inr (.inl ⟨rfl, rfl, rfl, rfl, rfl, rfl, rfl⟩)))
 by_cases q4 : k = 4
 ·subst q4; exact .inr (.inr (.inr (.inr (.inl ⟨rfl, rfl, rfl, rfl, rfl, rfl, rfl⟩))))
 by_cases q5 : k = 5
 ·subst q5; exact .inr (.inr (.inr (.inr (.inr (.inl ⟨rfl, rfl, rfl, rfl, rfl, rfl, rfl⟩)))))
 by_cases q6 : k = 6
 ·subst q6; exact .inr (.inr (.inr (.inr (.inr (.inr (.inl ⟨rfl, rfl, rfl, rfl, rfl, rfl, rfl⟩))))))
 exact .inr (.inr (.inr (.inr (.inr (.inr (.inr ⟨qb q0, qb q1, qb q2, qb q3, qb q4, qb q5, qb q6⟩))))))
noncomputable def TR : Hints := ⟨au, eF, ax, rowsOf ax 177⟩
def NX (j : Nat) (lo : Heap) (n : Nat) (i : Int) : ab := ⟨[(j, iv i), (3, iv (Int.ofNat n)), (1, .ptr (.loc 1) 0)], lo, [], 0⟩
def J3 (q j : Nat) (lo : Heap) (n : Nat) (i : Int) : ab := ⟨[(q, bv false), (j, iv i), (3, iv (Int.ofNat n)), (1, .ptr (.loc 1) 0)], lo, [], 0⟩
def Oh : ab := ⟨[(2, bv false)], [], [], 0⟩
theorem Ic {k : Int} {nm : List UInt8} {ix : Int} {l : List Ty} {t : Ty} {i : Nat} {c : Bool} (hi : i < (an l).length) (ht : l[i]? = some t) (hc : ae 150 [.dat t.enc] (bv c)) {T : Exit -> aa -> Prop}
  (e1 : c = true -> T .normal ((NX 4 (jg 1 k nm ix (.slice (an l))) (an l).length (aG .i64 (Int.ofNat i + 1))).aw Tryz.f177.ntmps)) (e2 : c = false -> T .ret (Oh.aw Tryz.f177.ntmps)) :
  KD (roundOf Tryz.f177 0) T ((NX 4 (jg 1 k nm ix (.slice (an l))) (an l).length (Int.ofNat i)).aw Tryz.f177.ntmps) := by
 have h1 := bN hi
 have h2 := jT ht
 generalize an l = es at *
 clear ht hi
 obtain ⟨k2, nm2, ix2, a2⟩ := t
 rcases a2 with _ | ⟨b, d⟩ <;>
 ·refine az [65] [71] (H := TR) (live := cT) (by kernel_rfl) ?_; refine ob h1 ?_; refine oo h2 ?_; refine on hc ?_
  cases c
  ·exact oe (e2 rfl)
  exact oe (e1 rfl)
theorem Kr {k : Int} {nm : List UInt8} {ix : Int} {l : List aq} {T : Exit -> aa -> Prop} (e : T (.exit 1) ((J3 65 4 (jg 1 k nm ix (sl l)) l.length (Int.ofNat l.length)).aw Tryz.f177.ntmps)) :
  KD (roundOf Tryz.f177 0) T ((NX 4 (jg 1 k nm ix (sl l)) l.length (Int.ofNat l.length)).aw Tryz.f177.ntmps) := by
 have h1 := bO (i := l.length) (L := l.length) (by omega)
 rcases l with _ | ⟨x, l⟩
 ·refine az [] [] (H := TR) (live := cT) (by kernel_rfl) ?_; exact oe e
 refine az [65] [] (H := TR) (live := cT) (by kernel_rfl) ?_; refine ob h1 ?_; exact oe e
theorem Ib {k : Int} {nm : List UInt8} {ix : Int} {l : List Ty} {t : Ty} {i : Nat} {c : Bool} (hi : i < (an l).length) (ht : l[i]? = some t) (hc : ae 177 [.dat t.enc] (bv c)) {T : Exit -> aa -> Prop}
  (e1 : c = true -> T .normal ((NX 5 (jg 1 k nm ix (.slice (an l))) (an l).length (aG .i64 (Int.ofNat i + 1))).aw Tryz.f177.ntmps)) (e2 : c = false -> T .ret (Oh.aw Tryz.f177.ntmps)) :
  KD (roundOf Tryz.f177 1) T ((NX 5 (jg 1 k nm ix (.slice (an l))) (an l).length (Int.ofNat i)).aw Tryz.f177.ntmps) := by
 have h1 := bN hi
 have h2 := jT ht
 generalize an l = es at *
 clear ht hi
 obtain ⟨k2, nm2, ix2, a2⟩ := t
 rcases a2 with _ | ⟨b, d⟩ <;>
 ·refine az [97] [103] (H := TR) (live := cT) (by kernel_rfl) ?_; refine ob h1 ?_; refine oo h2 ?_; refine on hc ?_
  cases c
  ·exact oe (e2 rfl)
  exact oe (e1 rfl)
theorem Kq {k : Int} {nm : List UInt8} {ix : Int} {l : List aq} {T : Exit -> aa -> Prop} (e : T (.exit 3) ((J3 97 5 (jg 1 k nm ix (sl l)) l.length (Int.ofNat l.length)).aw Tryz.f177.ntmps)) :
  KD (roundOf Tryz.f177 1) T ((NX 5 (jg 1 k nm ix (sl l)) l.length (Int.ofNat l.length)).aw Tryz.f177.ntmps) := by
 have h1 := bO (i := l.length) (L := l.length) (by omega)
 rcases l with _ | ⟨x, l⟩
 ·refine az [] [] (H := TR) (live := cT) (by kernel_rfl) ?_; exact oe e
 refine az [97] [] (H := TR) (live := cT) (by kernel_rfl) ?_; refine ob h1 ?_; exact oe e
theorem Rw {k ix : Int} {nm : List UInt8} {l : List Ty} {cp ca : Bool} (hi : ae 122 [.dat (sb nm)] (bv (isIdent nm))) (hr : ae 123 [.dat (sb nm)] (bv (fL nm))) (hcp : fU l = cp) (hnil : l = [] -> ca = false)
  (hcl : ∀ t r, l = t :: r -> ae 178 [.dat t.enc] (bv (gm l)))
  (hl0 : KD (.loop (roundOf Tryz.f177 0)) (fun e s => (e = .exit 1 /\ cp = false /\ s = (J3 65 4 (jg 1 k nm ix (sl (an l))) (an l).length (Int.ofNat (an l).length)).aw Tryz.f177.ntmps) ∨ (e = .ret /\ cp = true /\ s = Oh.aw Tryz.f177.ntmps)) ((NX 4 (jg 1 k nm ix (sl (an l))) (an l).length (Int.ofNat 0)).aw Tryz.f177.ntmps))
  (hl1 : KD (.loop (roundOf Tryz.f177 1)) (fun e s => (e = .exit 3 /\ ca = false /\ s = (J3 97 5 (jg 1 k nm ix (sl (an l))) (an l).length (Int.ofNat (an l).length)).aw Tryz.f177.ntmps) ∨ (e = .ret /\ ca = true /\ s = Oh.aw Tryz.f177.ntmps)) ((NX 5 (jg 1 k nm ix (sl (an l))) (an l).length (Int.ofNat 0)).aw Tryz.f177.ntmps)) :
  ae 177 [.dat (Ty.mk k nm ix l).enc] (bv (pR k nm ix l && !ca)) := by
 unfold pR
 rw [hcp]
 clear hcp
 generalize gm l = fc at hcl
 generalize isIdent nm = ci at hi
 generalize fL nm = cr at hr
 generalize h0 : bj k 0 = c0
 generalize h1 : bj k 1 = c1
 generalize h2 : bj k 2 = c2
 generalize h3 : bj k 3 = c3
 generalize h4 : bj k 4 = c4
 generalize h5 : bj k 5 = c5
 generalize h6 : bj k 6 = c6
 generalize hn : fY nm [] = cn
 generalize hx : bj ix 0 = cx
 generalize hl6 : ba 6 (Int.ofNat (an l).length) = l6
 generalize hl2 : ba (Int.ofNat (an l).length) 2 = l2
 generalize he0 : bj (Int.ofNat (an l).length) 0 = e0
 generalize he2 : bj (Int.ofNat (an l).length) 2 = e2
 generalize hx0 : ba ix 0 = x0
 generalize hx2 : ba 200 ix = x2
 have hk := kinds k h0 h1 h2 h3 h4 h5 h6
 rcases l with _ | ⟨t, r⟩
 ·have hca := hnil rfl
  subst hca
  have z6 : l6 = false := hl6.symm
  have z2 : l2 = true := hl2.symm
  have z0 : e0 = true := he0.symm
  have y2 : e2 = false := he2.symm
  subst z6
  subst z2
  subst z0
  subst y2
  have hl2' := hl1.mono (Q' := fun e s => e = .exit 3 /\ s = (J3 97 5 (jg 1 k nm ix (sl (an []))) (an []).length (Int.ofNat (an []).length)).aw Tryz.f177.ntmps) (by
   rintro e s (⟨q1, _, q2⟩ | ⟨_, q, _⟩)
   ·exact ⟨q1, q2⟩
   simp at q)
  clear hcl hnil hl6 hl2 he0 he2 hl1
  rcases hk with ⟨rfl, rfl, rfl, rfl, rfl, rfl, rfl⟩ | ⟨rfl, rfl, rfl, rfl, rfl, rfl, rfl⟩ | ⟨rfl, rfl, rfl, rfl, rfl, rfl, rfl⟩ | ⟨rfl, rfl, rfl, rfl, rfl, rfl, rfl⟩ | ⟨rfl, rfl, rfl, rfl, rfl, rfl, rfl⟩ | ⟨rfl, rfl, rfl, rfl, rfl, rfl, rfl⟩ | ⟨rfl, rfl, rfl, rfl, rfl, rfl, rfl⟩ | ⟨rfl, rfl, rfl, rfl, rfl, rfl, rfl⟩
  ·refine co [11, 15, 20, 24, 30] [] (x := .of Tryz.f177 eF cT) ?_; refine ox h2 ?_; refine ox hn ?_
   cases cn
   ·exact fi
   refine ox h5 ?_; refine ox hx ?_
   cases cx
   ·exact fi
   refine ob h0 ?_; exact fi
  ·refine co [11, 15, 20, 24, 30, 31] [] (x := .of Tryz.f177 eF cT) ?_; refine ox h2 ?_; refine ox hn ?_
   cases cn
   ·exact fi
   refine ox h5 ?_; refine ox hx ?_
   cases cx
   ·exact fi
   refine ob h0 ?_; refine ob h1 ?_; exact fi
  ·refine co [11, 20, 24, 30, 31, 35, 49] [] (x := .of Tryz.f177 eF cT) ?_; refine ox h2 ?_; refine ox h5 ?_; refine ox hx ?_
   cases cx
   ·exact fi
   refine ob h0 ?_; refine ob h1 ?_; refine ob h5 ?_; refine ob h2 ?_; refine on hi ?_
   cases ci
   ·exact fi
   refine on hr ?_
   cases cr
   ·refine lo hl0 ?_
    rintro ex s (⟨rfl, rfl, rfl⟩ | ⟨rfl, rfl, rfl⟩)
    ·refine ⟨_, rfl, ?_⟩; refine lo hl2' ?_; rintro ex s ⟨rfl, rfl⟩; refine ⟨_, rfl, ?_⟩; exact fi
    refine ⟨_, rfl, ?_⟩; exact fi
   exact fi
  ·refine co [11, 15, 20, 24, 30, 31, 35, 49, 76] [] (x := .of Tryz.f177 eF cT) ?_; refine ox h2 ?_; refine ox hn ?_
   cases cn
   ·exact fi
   refine ox h5 ?_; refine ox hx ?_
   cases cx
   ·exact fi
   refine ob h0 ?_; refine ob h1 ?_; refine ob h5 ?_; refine ob h2 ?_; refine ob h3 ?_; refine lo hl2' ?_; rintro ex s ⟨rfl, rfl⟩; refine ⟨_, rfl, ?_⟩; exact fi
  ·refine co [11, 15, 20, 24, 30, 31, 35, 49, 76, 80] [] (x := .of Tryz.f177 eF cT) ?_; refine ox h2 ?_; refine ox hn ?_
   cases cn
   ·exact fi
   refine ox h5 ?_; refine ox hx ?_
   cases cx
   ·exact fi
   refine ob h0 ?_; refine ob h1 ?_; refine ob h5 ?_; refine ob h2 ?_; refine ob h3 ?_; refine ob h4 ?_; exact fi
  ·refine co [11, 15, 20, 30, 31, 35, 41, 46] [] (x := .of Tryz.f177 eF cT) ?_; refine ox h2 ?_; refine ox hn ?_
   cases cn
   ·exact fi
   refine ox h5 ?_; refine ob h0 ?_; refine ob h1 ?_; refine ob h5 ?_; refine ox hx0 ?_
   cases x0
   ·refine ox hx2 ?_
    cases x2 <;>
    ·exact fi
   exact fi
  ·refine co [11, 15, 20, 24, 30, 31, 35, 49, 76, 80, 84] [] (x := .of Tryz.f177 eF cT) ?_; refine ox h2 ?_; refine ox hn ?_
   cases cn
   ·exact fi
   refine ox h5 ?_; refine ox hx ?_
   cases cx
   ·exact fi
   refine ob h0 ?_; refine ob h1 ?_; refine ob h5 ?_; refine ob h2 ?_; refine ob h3 ?_; refine ob h4 ?_; refine ob h6 ?_; exact fi
  refine co [11, 15, 20, 24, 30, 31, 35, 49, 76, 80, 84] [] (x := .of Tryz.f177 eF cT) ?_; refine ox h2 ?_; refine ox hn ?_
  cases cn
  ·exact fi
  refine ox h5 ?_; refine ox hx ?_
  cases cx
  ·exact fi
  refine ob h0 ?_; refine ob h1 ?_; refine ob h5 ?_; refine ob h2 ?_; refine ob h3 ?_; refine ob h4 ?_; refine ob h6 ?_; exact fi
 have hcl2 := hcl t r rfl
 have z0 : e0 = false := he0.symm
 subst z0
 have g0 := jT (l := t :: r) (i := 0) rfl
 clear hcl hnil he0
 obtain ⟨tk, tn, tix, ta⟩ := t
 rcases ta with _ | ⟨y, ta⟩ <;>
 ·rcases hk with ⟨rfl, rfl, rfl, rfl, rfl, rfl, rfl⟩ | ⟨rfl, rfl, rfl, rfl, rfl, rfl, rfl⟩ | ⟨rfl, rfl, rfl, rfl, rfl, rfl, rfl⟩ | ⟨rfl, rfl, rfl, rfl, rfl, rfl, rfl⟩ | ⟨rfl, rfl, rfl, rfl, rfl, rfl, rfl⟩ | ⟨rfl, rfl, rfl, rfl, rfl, rfl, rfl⟩ | ⟨rfl, rfl, rfl, rfl, rfl, rfl, rfl⟩ | ⟨rfl, rfl, rfl, rfl, rfl, rfl, rfl⟩
  ·refine co [11, 15, 20, 24, 30] [] (x := .of Tryz.f177 eF cT) ?_; refine ox h2 ?_; refine ox hn ?_
   cases cn
   ·exact fi
   refine ox h5 ?_; refine ox hx ?_
   cases cx
   ·exact fi
   refine ob h0 ?_; exact fi
  ·refine co [11, 15, 20, 24, 30, 31] [] (x := .of Tryz.f177 eF cT) ?_; refine ox h2 ?_; refine ox hn ?_
   cases cn
   ·exact fi
   refine ox h5 ?_; refine ox hx ?_
   cases cx
   ·exact fi
   refine ob h0 ?_; refine ob h1 ?_; exact fi
  ·refine co [11, 20, 24, 30, 31, 35, 49, 61] [] (x := .of Tryz.f177 eF cT) ?_; refine ox h2 ?_; refine ox h5 ?_; refine ox hx ?_
   cases cx
   ·exact fi
   refine ob h0 ?_; refine ob h1 ?_; refine ob h5 ?_; refine ob h2 ?_; refine on hi ?_
   cases ci
   ·exact fi
   refine on hr ?_
   cases cr
   ·refine ob hl6 ?_
    cases l6
    ·refine lo hl0 ?_
     rintro ex s (⟨rfl, rfl, rfl⟩ | ⟨rfl, rfl, rfl⟩)
     ·refine ⟨_, rfl, ?_⟩; refine lo hl1 ?_
      rintro ex s (⟨rfl, rfl, rfl⟩ | ⟨rfl, rfl, rfl⟩) <;>
      ·refine ⟨_, rfl, ?_⟩; exact fi
     refine ⟨_, rfl, ?_⟩; exact fi
    exact fi
   exact fi
  ·refine co [11, 15, 20, 24, 30, 31, 35, 49, 76, 78] [] (x := .of Tryz.f177 eF cT) ?_; refine ox h2 ?_; refine ox hn ?_
   cases cn
   ·exact fi
   refine ox h5 ?_; refine ox hx ?_
   cases cx
   ·exact fi
   refine ob h0 ?_; refine ob h1 ?_; refine ob h5 ?_; refine ob h2 ?_; refine ob h3 ?_; refine ob hl6 ?_
   cases l6
   ·refine lo hl1 ?_
    rintro ex s (⟨rfl, rfl, rfl⟩ | ⟨rfl, rfl, rfl⟩) <;>
    ·refine ⟨_, rfl, ?_⟩; exact fi
   exact fi
  ·refine co [11, 15, 20, 24, 30, 31, 35, 49, 76, 80, 82] [] (x := .of Tryz.f177 eF cT) ?_; refine ox h2 ?_; refine ox hn ?_
   cases cn
   ·exact fi
   refine ox h5 ?_; refine ox hx ?_
   cases cx
   ·exact fi
   refine ob h0 ?_; refine ob h1 ?_; refine ob h5 ?_; refine ob h2 ?_; refine ob h3 ?_; refine ob h4 ?_; refine ob hl2 ?_
   cases l2
   ·refine lo hl1 ?_
    rintro ex s (⟨rfl, rfl, rfl⟩ | ⟨rfl, rfl, rfl⟩) <;>
    ·refine ⟨_, rfl, ?_⟩; exact fi
   exact fi
  ·refine co [11, 15, 20, 30, 31, 35] [] (x := .of Tryz.f177 eF cT) ?_; refine ox h2 ?_; refine ox hn ?_
   cases cn
   ·exact fi
   refine ox h5 ?_; refine ob h0 ?_; refine ob h1 ?_; refine ob h5 ?_; exact fi
  ·refine co [11, 15, 20, 24, 30, 31, 35, 49, 76, 80, 84, 86] [90] (x := .of Tryz.f177 eF cT) ?_; refine ox h2 ?_; refine ox hn ?_
   cases cn
   ·exact fi
   refine ox h5 ?_; refine ox hx ?_
   cases cx
   ·exact fi
   refine ob h0 ?_; refine ob h1 ?_; refine ob h5 ?_; refine ob h2 ?_; refine ob h3 ?_; refine ob h4 ?_; refine ob h6 ?_; refine ox he2 ?_
   cases e2
   ·exact fi
   refine oo g0 ?_; refine on hcl2 ?_
   cases fc
   ·exact fi
   refine lo hl1 ?_
   rintro ex s (⟨rfl, rfl, rfl⟩ | ⟨rfl, rfl, rfl⟩) <;>
   ·refine ⟨_, rfl, ?_⟩; exact fi
  refine co [11, 15, 20, 24, 30, 31, 35, 49, 76, 80, 84] [] (x := .of Tryz.f177 eF cT) ?_; refine ox h2 ?_; refine ox hn ?_
  cases cn
  ·exact fi
  refine ox h5 ?_; refine ox hx ?_
  cases cx
  ·exact fi
  refine ob h0 ?_; refine ob h1 ?_; refine ob h5 ?_; refine ob h2 ?_; refine ob h3 ?_; refine ob h4 ?_; refine ob h6 ?_; exact fi
theorem Gb {l : List Ty} {i : Nat} {t : Ty} (h : l[i]? = some t) : mL (l.drop i) = (!t.valid || mL (l.drop (i + 1))) := by rw [dv h, mL]
mutual
theorem KK : ∀ t : Ty, t.cA -> ae 177 [.dat t.enc] (bv t.valid)
 | .mk k nm ix l, h => by
  obtain ⟨h1, h2⟩ := h
  simp only [Ty.size] at h1
  simp only [Ty.eI] at h2
  have ih := Gu l (by omega) h2.2
  have ihp := wE l (by omega) h2.2
  have hlen := eg l
  have hcl : ∀ t r, l = t :: r -> ae 178 [.dat t.enc] (bv (gm l)) := by
   rintro t r rfl
   simp only [aR] at h1
   simp only [di] at h2
   exact zd ⟨by omega, h2.2.1⟩
  rw [Ty.valid]
  refine Rw (cp := fU l) (As nm) (QH nm) rfl (by rintro rfl; rw [mL]) hcl ?_ ?_
  ·refine ct (St := fun i => (NX 4 (jg 1 k nm ix (sl (an l))) (an l).length (Int.ofNat i)).aw Tryz.f177.ntmps) (fun i => fU l = fU (l.drop i)) (an l).length ?_ ?_ (i := 0) (Nat.zero_le _) rfl
   ·intro i hi hI
    obtain ⟨t, ht, hm⟩ := get_mem hi
    have hd := ye ht
    rw [← hI] at hd
    have hsl := ka hi
    have hw : aG .i64 (Int.ofNat i + 1) = Int.ofNat (i + 1) := bi (by rw [aE] at hi; omega)
    have hc := ihp t hm
    rw [hsl]
    generalize t.plain = c at hc hd
    refine Ic hi ht hc ?_ ?_
    ·rintro rfl
     rw [hw]
     exact ⟨rfl, hd⟩
    rintro rfl
    exact .inr ⟨rfl, hd, rfl⟩
   intro hI
   refine Kr (.inl ⟨rfl, ?_, rfl⟩)
   rw [hI, aE, List.drop_length, fU]
  refine ct (St := fun i => (NX 5 (jg 1 k nm ix (sl (an l))) (an l).length (Int.ofNat i)).aw Tryz.f177.ntmps) (fun i => mL l = mL (l.drop i)) (an l).length ?_ ?_ (i := 0) (Nat.zero_le _) rfl
  ·intro i hi hI
   obtain ⟨t, ht, hm⟩ := get_mem hi
   have hd := Gb ht
   rw [← hI] at hd
   have hsl := ka hi
   have hw : aG .i64 (Int.ofNat i + 1) = Int.ofNat (i + 1) := bi (by rw [aE] at hi; omega)
   have hc := ih t hm
   rw [hsl]
   generalize t.valid = c at hc hd
   refine Ib hi ht hc ?_ ?_
   ·rintro rfl
    rw [hw]
    exact ⟨rfl, hd⟩
   rintro rfl
   exact .inr ⟨rfl, hd, rfl⟩
  intro hI
  refine Kq (.inl ⟨rfl, ?_, rfl⟩)
  rw [hI, aE, List.drop_length, mL]
theorem Gu : ∀ l : List Ty, aR l < 100000000 -> di l -> ∀ t ∈ l, ae 177 [.dat t.enc] (bv t.valid)
 | [], _, _, t, ht => by simp at ht
 | u :: r, h, hx, t, ht => by
  simp only [aR] at h
  simp only [di] at hx
  rcases List.mem_cons.1 ht with h1 | ht
  ·rw [h1]; exact KK u ⟨by omega, hx.1⟩
  exact Gu r (by omega) hx.2 t ht
end
def D7 (cn cm c : Bool) : Int := match cn || cm with | true => 4 | false => (match c with | true => 0 | false => 2)
theorem Ob (t : Ty) : t.validate = D7 (ba 200 (Int.ofNat t.size)) (ba 12 (Int.ofNat t.depth)) t.valid := by
 unfold Ty.validate D7
 cases (ba 200 (Int.ofNat t.size) || ba 12 (Int.ofNat t.depth)) <;> cases t.valid <;> rfl
theorem UB {k ix : Int} {nm : List UInt8} {l : List aq} {n m : Int} {cn cm c : Bool} (h1 : ae 175 [.dat (.agg [i64 k, sb nm, i64 ix, sl l])] (iv n)) (hn : ba 200 n = cn) (h2 : ae 176 [.dat (.agg [i64 k, sb nm, i64 ix, sl l])] (iv m)) (hm : ba 12 m = cm)
  (h3 : ae 177 [.dat (.agg [i64 k, sb nm, i64 ix, sl l])] (bv c)) : ae 149 [.dat (.agg [i64 k, sb nm, i64 ix, sl l])] (iv (D7 cn cm c)) := by
 rcases l with _ | ⟨x, l⟩ <;>
 ·refine co [6, 10] [] (x := .of Tryz.f149 EK Ha) ?_; refine on h1 ?_; refine ob hn ?_
  cases cn
  ·refine on h2 ?_; refine ob hm ?_
   cases cm
   ·refine on h3 ?_
    cases c <;>
    ·exact fi
   exact fi
  exact fi
theorem Ev {t : Ty} (h : t.cA) : ae 149 [.dat t.enc] (iv t.validate) := by
 have h1 := KL t (by have := h.1; omega)
 have h2 := Gz t (by have := h.1; omega)
 have h3 := KK t h
 rw [Ob]
 obtain ⟨k, nm, ix, l⟩ := t
 exact UB h1 rfl h2 rfl h3
theorem Rx {k ix ar v y : Int} {nm : List UInt8} {l fv : List aq} {c1 c2 c3 : Bool} (h0 : ae 148 [.dat (.agg [i64 k, sb nm, i64 ix, sl l])] (.dat (sl fv))) (h1 : ae 149 [.dat (.agg [i64 k, sb nm, i64 ix, sl l])] (iv v)) (hv : bj v 0 = c1)
  (h2 : ae 150 [.dat (.agg [i64 k, sb nm, i64 ix, sl l])] (bv c2)) (hi : fv ≠ [] -> aC (env ap.aK) 22 [.dat (.slice fv), .dat (.flat (.int .i64 (aG .i64 (Int.ofNat fv.length - 1))))] = some ⟨.ref [iN y], .keep⟩) (h3 : ba y ar = c3) :
  ae 124 [.dat (.agg [i64 k, sb nm, i64 ix, sl l]), iv ar] (bv (c1 && (c2 && (JG fv || c3)))) := by
 rcases fv with _ | ⟨x, fv⟩
 ·clear hi
  rcases l with _ | ⟨z, l⟩ <;>
  ·refine co [10] [] (x := .of Tryz.f124 AG AV) ?_; refine on h0 ?_; refine on h1 ?_; refine ob hv ?_
   cases c1
   ·exact fi
   refine on h2 ?_
   cases c2 <;>
   ·exact fi
 have hj := hi (by simp)
 clear hi
 rcases l with _ | ⟨z, l⟩ <;>
 ·refine co [10, 27] [24] (x := .of Tryz.f124 AG AV) ?_; refine on h0 ?_; refine on h1 ?_; refine ob hv ?_
  cases c1
  ·exact fi
  refine on h2 ?_
  cases c2
  ·exact fi
  refine oo hj ?_; refine ob h3 ?_
  cases c3 <;>
  ·exact fi
theorem C0 : ∀ {l : List Int} {y ar : Int}, l.Pairwise (· <= ·) -> l.getLast? = some y -> l.any (fun x => !ba x ar) = !ba y ar
 | [], y, ar, _, h => by simp at h
 | [x], y, ar, _, h => by simp at h; subst h; simp
 | x :: z :: r, y, ar, hs, h => by
  rw [List.getLast?_cons_cons] at h
  rw [List.any_cons, C0 (List.pairwise_cons.1 hs).2 h]
  have hm : y ∈ z :: r := List.mem_of_getLast? h
  have hxy := (List.pairwise_cons.1 hs).1 y hm
  rw [gd, gd]
  by_cases h1 : y < ar
  ·rw [decide_eq_true h1, decide_eq_true (by omega)]; rfl
  rw [decide_eq_false h1]; simp
theorem UG {t : Ty} {ar : Int} (h : t.cA) : ae 124 [.dat t.enc, iv ar] (bv (t.over ar)) := by
 have h0 := wD h.1 h.2
 have h1 := Ev h
 have h2 := Gw t h
 have hs := (A8 (t := t)).1
 have hlen := (A8 (t := t)).2
 have hsz := h.1
 unfold Ty.over
 generalize t.validate = v at *
 generalize t.plain = c2 at *
 generalize t.fv = fv at *
 obtain ⟨k, nm, ix, l⟩ := t
 have key : ∃ y, (fv ≠ [] -> fv.getLast? = some y) := by
  cases hf : fv.getLast? with
  | none => exact ⟨0, fun h => absurd (List.getLast?_eq_none_iff.1 hf) h⟩
  | some y => exact ⟨y, fun _ => rfl⟩
 obtain ⟨y, hy⟩ := key
 have h := Rx (y := y) (ar := ar) h0 h1 rfl h2 (fun hne => by
  have hne2 : fv ≠ [] := by rintro rfl; exact hne rfl
  have hl := hy hne2
  have hw : aG .i64 (Int.ofNat (fv.map iN).length - 1) = Int.ofNat (fv.length - 1) := by
   have hp : 0 < fv.length := List.length_pos_iff.2 hne2
   rw [List.length_map, dx, wrap_i64 (by simp; omega) (by simp; omega)]
   simp; omega
  rw [hw]
  exact IS (by rw [List.getLast?_eq_getElem?] at hl; exact hl)) rfl
 have e : (JG (fv.map iN) || ba y ar) = !(fv.any (fun x => !ba x ar)) := by
  cases fv with
  | nil => simp [JG]
  | cons x r =>
   rw [C0 hs (hy (by simp))]
   simp [JG]
 rw [e] at h
 exact h
noncomputable def UY : Hints := ⟨au, CB, ax, rowsOf ax 93⟩
def BJ (cs : List ac) : Heap := [(.loc 1, .cells cs)]
def HW (lo : Heap) (i : Int) : ab := ⟨[(3, iv i), (1, .ptr (.loc 1) 0)], lo, [], 0⟩
def J2 (lo : Heap) (i : Int) : ab := ⟨[(53, bv false), (3, iv i), (1, .ptr (.loc 1) 0)], lo, [], 0⟩
def yS : ab := ⟨[(2, bv false)], [], [], 0⟩
def HV (lo : Heap) (i k : Int) : ab := ⟨[(4, iv k), (3, iv i), (1, .ptr (.loc 1) 0)], lo, [], 0⟩
def J1 (lo : Heap) (i k : Int) : ab := ⟨[(78, bv false), (4, iv k), (3, iv i), (1, .ptr (.loc 1) 0)], lo, [], 0⟩
theorem JN {nm nm2 : List UInt8} {ar kk ix : Int} {A : aq} {con : Bool} {l : List dZ} {t u : dZ} {i k : Nat} {c : Bool} {T : Exit -> aa -> Prop} (hk : k < i) (ht : l[k]? = some t) (hu : l[i]? = some u) (hc : fY t.nm u.nm = c)
  (e1 : c = false -> T .normal ((HV (BJ (bH nm ar kk nm2 ix A con (.slice (aH l)))) (Int.ofNat i) (aG .i64 (Int.ofNat k + 1))).aw Tryz.f93.ntmps)) (e2 : c = true -> T .ret (yS.aw Tryz.f93.ntmps)) :
  KD (roundOf Tryz.f93 1) T ((HV (BJ (bH nm ar kk nm2 ix A con (.slice (aH l)))) (Int.ofNat i) (Int.ofNat k)).aw Tryz.f93.ntmps) := by
 have h1 := bN hk
 have h2 := xl ht
 have h3 := xl hu
 generalize aH l = es at *
 clear ht hu hk
 obtain ⟨fn, tk, tn', tix, ta⟩ := t
 obtain ⟨gn, uk, un', uix, ua⟩ := u
 refine az [78, 93] [84, 90] (H := UY) (live := nv) (by kernel_rfl) ?_; refine ob h1 ?_; refine oo h2 ?_; refine oo h3 ?_; refine ob hc ?_
 cases c
 ·exact oe (e1 rfl)
 exact oe (e2 rfl)
theorem N8 {nm nm2 : List UInt8} {ar kk ix : Int} {A B : aq} {con : Bool} {i : Nat} {T : Exit -> aa -> Prop} (e : T (.exit 2) ((J1 (BJ (bH nm ar kk nm2 ix A con B)) (Int.ofNat i) (Int.ofNat i)).aw Tryz.f93.ntmps)) :
  KD (roundOf Tryz.f93 1) T ((HV (BJ (bH nm ar kk nm2 ix A con B)) (Int.ofNat i) (Int.ofNat i)).aw Tryz.f93.ntmps) := by
 have h1 := bO (i := i) (L := i) (by omega)
 refine az [78] [] (H := UY) (live := nv) (by kernel_rfl) ?_; refine ob h1 ?_; exact oe e
def rH (nm : List UInt8) (l : List dZ) : Bool := l.any (fun f => fY f.nm nm)
theorem N7 {nm nm2 : List UInt8} {ar kk ix : Int} {A : aq} {con : Bool} {l : List dZ} {u : dZ} {i : Nat} (hu : l[i]? = some u) (hn : l.length < 1000000000) :
  KD (.loop (roundOf Tryz.f93 1)) (fun e s => (e = .exit 2 /\ rH u.nm (l.take i) = false /\ s = (J1 (BJ (bH nm ar kk nm2 ix A con (.slice (aH l)))) (Int.ofNat i) (Int.ofNat i)).aw Tryz.f93.ntmps) ∨ (e = .ret /\ rH u.nm (l.take i) = true /\ s = yS.aw Tryz.f93.ntmps))
   ((HV (BJ (bH nm ar kk nm2 ix A con (.slice (aH l)))) (Int.ofNat i) (Int.ofNat 0)).aw Tryz.f93.ntmps) := by
 have hil := (List.getElem?_eq_some_iff.1 hu).1
 refine ct (St := fun k => (HV (BJ (bH nm ar kk nm2 ix A con (.slice (aH l)))) (Int.ofNat i) (Int.ofNat k)).aw Tryz.f93.ntmps) (fun k => rH u.nm (l.take k) = false) i ?_ ?_ (i := 0) (Nat.zero_le _) rfl
 ·intro k hk hI
  have ht : l[k]? = some l[k] := List.getElem?_eq_getElem (by omega)
  have htk := ee ht
  have hw : aG .i64 (Int.ofNat k + 1) = Int.ofNat (k + 1) := bi (by omega)
  refine JN hk ht hu rfl ?_ ?_
  ·intro hc
   rw [hw]
   refine ⟨rfl, ?_⟩
   rw [htk]
   unfold rH at hI ⊢
   rw [List.any_append, hI]
   simp [hc]
  intro hc
  refine .inr ⟨rfl, ?_, rfl⟩
  unfold rH
  rw [List.any_eq_true]
  refine ⟨l[k], ?_, hc⟩
  rw [List.mem_take_iff_getElem]
  exact ⟨k, by omega, rfl⟩
 intro hI
 exact N8 (.inl ⟨rfl, hI, rfl⟩)
theorem JP {nm nm2 : List UInt8} {ar k ix : Int} {A : aq} {con : Bool} {l : List dZ} {t : dZ} {i : Nat} {c1 c2 c3 : Bool} {T : Exit -> aa -> Prop} (hi : i < (aH l).length) (ht : l[i]? = some t) (hn : ae 122 [.dat (sb t.nm)] (bv c1)) (hc : ae 124 [.dat t.ty.enc, iv ar] (bv c2))
  (hl : KD (.loop (roundOf Tryz.f93 1)) (fun e s => (e = .exit 2 /\ c3 = false /\ s = (J1 (BJ (bH nm ar k nm2 ix A con (.slice (aH l)))) (Int.ofNat i) (Int.ofNat i)).aw Tryz.f93.ntmps) ∨ (e = .ret /\ c3 = true /\ s = yS.aw Tryz.f93.ntmps))
   ((HV (BJ (bH nm ar k nm2 ix A con (.slice (aH l)))) (Int.ofNat i) (Int.ofNat 0)).aw Tryz.f93.ntmps))
  (e1 : (c1 && (c2 && !c3)) = true -> T .normal ((HW (BJ (bH nm ar k nm2 ix A con (.slice (aH l)))) (aG .i64 (Int.ofNat i + 1))).aw Tryz.f93.ntmps)) (e2 : (c1 && (c2 && !c3)) = false -> T .ret (yS.aw Tryz.f93.ntmps)) :
  KD (roundOf Tryz.f93 0) T ((HW (BJ (bH nm ar k nm2 ix A con (.slice (aH l)))) (Int.ofNat i)).aw Tryz.f93.ntmps) := by
 have h1 := bN hi
 have h2 := xl ht
 generalize aH l = es at *
 clear ht hi
 obtain ⟨fn, tk, tn', tix, ta⟩ := t
 rcases ta with _ | ⟨b, d⟩ <;>
 ·refine az [53] [59, 68] (H := UY) (live := nv) (by kernel_rfl) ?_; refine ob h1 ?_; refine oo h2 ?_; refine on hn ?_
  cases c1
  ·exact oe (e2 rfl)
  refine oo h2 ?_; refine on hc ?_
  cases c2
  ·exact oe (e2 rfl)
  refine lo hl ?_
  rintro ex s (⟨rfl, rfl, rfl⟩ | ⟨rfl, rfl, rfl⟩)
  ·refine ⟨_, rfl, ?_⟩; exact oe (e1 rfl)
  refine ⟨_, rfl, ?_⟩; exact oe (e2 rfl)
theorem Oa {nm nm2 : List UInt8} {ar k ix : Int} {A : aq} {con : Bool} {l : List aq} {T : Exit -> aa -> Prop} (e : T (.exit 0) ((J2 (BJ (bH nm ar k nm2 ix A con (sl l))) (Int.ofNat l.length)).aw Tryz.f93.ntmps)) :
  KD (roundOf Tryz.f93 0) T ((HW (BJ (bH nm ar k nm2 ix A con (sl l))) (Int.ofNat l.length)).aw Tryz.f93.ntmps) := by
 have h1 := bO (i := l.length) (L := l.length) (by omega)
 rcases l with _ | ⟨x, l⟩
 ·refine az [] [] (H := UY) (live := nv) (by kernel_rfl) ?_; exact oe e
 refine az [53] [] (H := UY) (live := nv) (by kernel_rfl) ?_; refine ob h1 ?_; exact oe e
theorem Q9 {nm nm2 : List UInt8} {ar k ix : Int} {la lb : List aq} {con c1 c2 c3 c4 c5 c6 c7 d : Bool} (h1 : ae 122 [.dat (sb nm)] (bv c1)) (h2 : ae 123 [.dat (sb nm)] (bv c2)) (h3 : ba ar 0 = c3) (h4 : R0 lb = c4) (h5 : bj k 2 = c5)
  (h6 : ae 24 [.dat (.agg [i64 k, sb nm2, i64 ix, sl la]), .dat (Ty.mk 0 [] 0 []).enc] (bv c6)) (h7 : ae 124 [.dat (.agg [i64 k, sb nm2, i64 ix, sl la]), iv ar] (bv c7))
  (hl : KD (.loop (roundOf Tryz.f93 0)) (fun e s => (e = .exit 0 /\ d = true /\ s = (J2 (BJ (bH nm ar k nm2 ix (sl la) con (sl lb))) (Int.ofNat lb.length)).aw Tryz.f93.ntmps) ∨ (e = .ret /\ d = false /\ s = yS.aw Tryz.f93.ntmps)) ((HW (BJ (bH nm ar k nm2 ix (sl la) con (sl lb))) (Int.ofNat 0)).aw Tryz.f93.ntmps)) :
  ae 93 [.dat (eT nm ar k nm2 ix la con lb)] (bv (c1 && (!c2 && (!c3 && (!(!con && c4) && ((c5 || c6) && (c7 && d))))))) := by
 have q1 := rz nm ar k nm2 ix la con lb
 have q3 := AY false 1 nm ar k nm2 ix la con lb
 have q4 := xt
 rcases lb with _ | ⟨y, lb⟩
 ·have z : c4 = false := h4.symm
  subst z
  clear h4
  refine co [17, 33] [1, 43, 36] (x := .of Tryz.f93 CB nv) ?_; refine oo q1 ?_; refine on h1 ?_
  cases c1
  ·exact fi
  refine on h2 ?_
  cases c2
  ·refine ob h3 ?_
   cases c3
   ·cases con <;>
    ·refine ox h5 ?_
     cases c5
     ·refine oo q3 ?_; refine on q4 ?_; refine on h6 ?_
      cases c6
      ·exact fi
      refine oo q3 ?_; refine on h7 ?_
      cases c7
      ·exact fi
      refine lo hl ?_
      rintro ex s (⟨rfl, rfl, rfl⟩ | ⟨rfl, rfl, rfl⟩) <;>
      ·refine ⟨_, rfl, ?_⟩; exact fi
     refine oo q3 ?_; refine on h7 ?_
     cases c7
     ·exact fi
     refine lo hl ?_
     rintro ex s (⟨rfl, rfl, rfl⟩ | ⟨rfl, rfl, rfl⟩) <;>
     ·refine ⟨_, rfl, ?_⟩; exact fi
   exact fi
  exact fi
 have z : c4 = true := h4.symm
 subst z
 clear h4
 refine co [17, 33] [1, 43, 36] (x := .of Tryz.f93 CB nv) ?_; refine oo q1 ?_; refine on h1 ?_
 cases c1
 ·exact fi
 refine on h2 ?_
 cases c2
 ·refine ob h3 ?_
  cases c3
  ·cases con
   ·exact fi
   refine ox h5 ?_
   cases c5
   ·refine oo q3 ?_; refine on q4 ?_; refine on h6 ?_
    cases c6
    ·exact fi
    refine oo q3 ?_; refine on h7 ?_
    cases c7
    ·exact fi
    refine lo hl ?_
    rintro ex s (⟨rfl, rfl, rfl⟩ | ⟨rfl, rfl, rfl⟩) <;>
    ·refine ⟨_, rfl, ?_⟩; exact fi
   refine oo q3 ?_; refine on h7 ?_
   cases c7
   ·exact fi
   refine lo hl ?_
   rintro ex s (⟨rfl, rfl, rfl⟩ | ⟨rfl, rfl, rfl⟩) <;>
   ·refine ⟨_, rfl, ?_⟩; exact fi
  exact fi
 exact fi
theorem B7 (nm : List UInt8) : ∀ l : List dZ, mE l nm = rH nm l
 | [] => rfl
 | f :: r => by
  have ih := B7 nm r
  unfold rH at ih ⊢
  unfold mE
  rw [List.any_cons, ← ih]
  have e : fY f.nm nm = fY nm f.nm := by
   rw [Bool.eq_iff_iff, jN, jN, beq_iff_eq, beq_iff_eq]
   exact eq_comm
  rw [e]
  cases fY nm f.nm <;> rfl
theorem N9 {nm nm2 : List UInt8} {ar k ix : Int} {A B : aq} {con : Bool} {l : List dZ} (hb : B = sl (aH l)) (hn : l.length < 1000000000) (hf : ∀ f ∈ l, f.ty.cA) :
  KD (.loop (roundOf Tryz.f93 0)) (fun e s => (e = .exit 0 /\ Gi ar [] l = true /\ s = (J2 (BJ (bH nm ar k nm2 ix A con B)) (Int.ofNat (aH l).length)).aw Tryz.f93.ntmps) ∨ (e = .ret /\ Gi ar [] l = false /\ s = yS.aw Tryz.f93.ntmps)) ((HW (BJ (bH nm ar k nm2 ix A con B)) (Int.ofNat 0)).aw Tryz.f93.ntmps) := by
 refine ct (St := fun i => (HW (BJ (bH nm ar k nm2 ix A con B)) (Int.ofNat i)).aw Tryz.f93.ntmps) (fun i => Gi ar [] l = Gi ar (l.take i) (l.drop i)) (aH l).length ?_ ?_ (i := 0) (Nat.zero_le _) (by simp)
 ·intro i hi hI
  obtain ⟨t, ht, hm⟩ := jH hi
  have hd := BM (ar := ar) ht
  rw [← hI] at hd
  have hw : aG .i64 (Int.ofNat i + 1) = Int.ofNat (i + 1) := bi (by rw [bw] at hi; omega)
  have hb2 : B = .slice (aH l) := by
   rw [hb]
   cases l with
   | nil => simp at ht
   | cons x r => rfl
  subst hb2
  have e : (isIdent t.nm && (!mE (l.take i) t.nm && t.ty.over ar)) = (isIdent t.nm && (t.ty.over ar && !rH t.nm (l.take i))) := by
   rw [B7, Bool.and_comm (!rH t.nm (l.take i))]
  rw [e] at hd
  refine JP hi ht (As t.nm) (UG (hf t hm)) (N7 ht hn) ?_ ?_
  ·intro hc
   rw [hw]
   refine ⟨rfl, ?_⟩
   rw [hd, hc, Bool.true_and]
  intro hc
  refine .inr ⟨rfl, ?_, rfl⟩
  rw [hd, hc, Bool.false_and]
 intro hI
 rw [hb]
 refine Oa (.inl ⟨rfl, ?_, rfl⟩)
 rw [hI, bw, List.drop_length]
 rfl
theorem zn {t : Ty} {ar : Int} (h : t.over ar = true) (hk : bj t.kind 0 = true) : t = .mk 0 [] 0 [] := by
 obtain ⟨k, nm, ix, l⟩ := t
 have hk2 : k = 0 := iW hk
 subst hk2
 unfold Ty.over at h
 simp only [Bool.and_eq_true] at h
 have h1 := iW h.1
 unfold Ty.validate at h1
 split at h1
 ·simp at h1
 split at h1
 ·rename_i hv
  rw [Ty.valid, Bool.and_eq_true] at hv
  have hn := hv.1
  unfold pR at hn
  split at hn
  ·simp at hn
  rename_i g1
  split at hn
  ·simp at hn
  rename_i g2
  split at hn
  ·have g3 := iW hn
   rw [aE] at g3
   have g4 : l = [] := List.length_eq_zero_iff.1 (Int.ofNat.inj (g3.trans (show (0 : Int) = Int.ofNat 0 from rfl)))
   subst g4
   have g5 : fY nm [] = true := by
    cases hh : fY nm [] with
    | true => rfl
    | false => exact absurd (by rw [hh]; rfl) g1
   have g6 : bj ix 0 = true := by
    cases hh : bj ix 0 with
    | true => rfl
    | false => exact absurd (by rw [hh]; rfl) g2
   rw [Bk g5, iW g6]
  rename_i g3
  exact absurd (by rfl) g3
 simp at h1
theorem Cm {d : bc} (h : d.cA) : ae 93 [.dat d.enc] (bv d.wf) := by
 have h6 := wF d.sup (.mk 0 [] 0 []) (by have := h.1.1; omega)
 have h7 := UG (ar := d.ar) h.1
 have hf := h.2.1
 have hn := h.2.2
 have e : ((bj d.sup.kind 2 || I3 d.sup (.mk 0 [] 0 [])) && (d.sup.over d.ar && Gi d.ar [] d.fl)) = ((bj d.sup.kind 0 || bj d.sup.kind 2) && (d.sup.over d.ar && Gi d.ar [] d.fl)) := by
  cases ho : d.sup.over d.ar with
  | false => simp
  | true =>
   have hh : I3 d.sup (.mk 0 [] 0 []) = bj d.sup.kind 0 := by
    rw [Bool.eq_iff_iff, vw]
    constructor
    ·intro h; rw [h]; rfl
    exact zn ho
   rw [hh, Bool.or_comm]
 unfold bc.wf
 rw [← e]
 obtain ⟨nm, ar, ⟨k, tn, ix, la⟩, con, fl⟩ := d
 exact Q9 (As nm) (QH nm) rfl rfl rfl h6 h7 (N9 rfl hn hf)
def Nq (c1 c2 c3 : Bool) : Int := match c1 with | false => 2 | true => match c2 || c3 with | true => 4 | false => 0
theorem V8 {nm nm2 : List UInt8} {ar k ix : Int} {la lb : List aq} {con c1 c2 c3 : Bool} (h1 : ae 93 [.dat (eT nm ar k nm2 ix la con lb)] (bv c1)) (h2 : ba 6 ar = c2) (h3 : ba 6 (Int.ofNat lb.length) = c3) :
  ae 57 [.dat (eT nm ar k nm2 ix la con lb)] (iv (Nq c1 c2 c3)) := by
 have q1 := rz nm ar k nm2 ix la con lb
 rcases lb with _ | ⟨y, lb⟩
 ·have z : c3 = false := h3.symm
  subst z
  clear h3
  refine co [8] [1] (x := .of Tryz.f57 GL E6) ?_; refine oo q1 ?_
  rcases la with _ | ⟨v0, v1⟩ <;>
  ·refine on h1 ?_
   cases c1
   ·exact fi
   refine ob h2 ?_
   cases c2 <;>
   ·exact fi
 refine co [8, 13] [1] (x := .of Tryz.f57 GL E6) ?_; refine oo q1 ?_
 rcases la with _ | ⟨v0, v1⟩ <;>
 ·refine on h1 ?_
  cases c1
  ·exact fi
  refine ob h2 ?_
  cases c2
  ·refine ob h3 ?_
   cases c3 <;>
   ·exact fi
  exact fi
def bc.Tt (d : bc) : Int := Nq d.wf (ba 6 d.ar) (ba 6 (Int.ofNat (aH d.fl).length))
theorem OE {d : bc} (h : d.cA) : ae 57 [.dat d.enc] (iv d.Tt) := by
 have h1 := Cm h
 unfold bc.Tt
 generalize d.wf = c1 at h1 ⊢
 obtain ⟨nm, ar, ⟨k, tn, ix, la⟩, con, fl⟩ := d
 exact V8 h1 rfl rfl
def rP (o : Nat) : ac := .ptr (.out o) 0
def hF (o : Nat) (es : List aq) : Heap := [(.out o, .cells [.dat (.slice es)])]
theorem UH : KC 45 [] [] 0 (XQ ⟨rP 0, hF 0 (aJ cY), 1⟩) := by
 exact ay.TU (pf _ _ _ _ ⟨rP 0, [(.out 0, .cells [.own (aJ cY)])], 1⟩ (by kernel_rfl)) (.refl _) (.cons (.cells (.cons (.own _) .nil) rfl) .nil)
noncomputable def WW : Hints := ⟨au, GU, ax, rowsOf ax 36⟩
theorem P7 (k : Int) (tn : List UInt8) (ix : Int) (la : List aq) :
  Qk [.dat (.agg [i64 k, sb tn, i64 ix, sl la])] = some ⟨.undef, .new (.cells [iv k, .dat (sb tn), iv ix, .dat (sl la)])⟩ := by
 rcases la with _ | ⟨x, la⟩ <;> kernel_rfl
def WU : Heap := [(.loc 4, .cells (cellsD [] 0 0 [] 0 [] false []))]
def HX (es : List aq) (nm : List UInt8) (i : Int) : ab := ⟨[(6, iv i), (4, .ptr (.loc 4) 0), (0, rP 0), (1, .dat (sb nm))], WU, hF 0 es, 1⟩
def J5 (es : List aq) (nm : List UInt8) (i : Int) : ab := ⟨[(13, bv false), (6, iv i), (4, .ptr (.loc 4) 0), (0, rP 0), (1, .dat (sb nm))], WU, hF 0 es, 1⟩
def J6 (es : List aq) (d : bc) : ab := ⟨[(5, bv true), (4, .ptr (.loc 4) 0)], [(.loc 4, .cells (cellsD d.nm d.ar d.sup.kind d.sup.nm d.sup.IK (an d.sup.args) d.con (aH d.fl)))], hF 0 es, 1⟩
theorem L4 {nm : List UInt8} {ds : List bc} {i : Nat} {t : bc} {c : Bool} (hi : i < (aJ ds).length) (ht : ds[i]? = some t) (hc : fY t.nm nm = c) {T : Exit -> aa -> Prop}
  (e1 : c = false -> T .normal ((HX (aJ ds) nm (aG .i64 (Int.ofNat i + 1))).aw Tryz.f36.ntmps)) (e2 : c = true -> T .ret ((J6 (aJ ds) t).aw Tryz.f36.ntmps)) :
  KD (roundOf Tryz.f36 0) T ((HX (aJ ds) nm (Int.ofNat i)).aw Tryz.f36.ntmps) := by
 have h1 := bN hi
 have h2 := xm ht
 generalize aJ ds = es at *
 clear ht hi
 obtain ⟨dn, ar, ⟨k, tn, ix, la⟩, con, fl⟩ := t
 have q1 := cC 4 dn ar k tn ix (an la) con (aH fl)
 refine az [13, 25] [21, 31, 100004] (H := WW) (live := AT) (by kernel_rfl) ?_; refine ob h1 ?_; refine oo h2 ?_; refine ob hc ?_
 cases c
 ·exact oe (e1 rfl)
 refine oo h2 ?_; refine oo q1 ?_; exact oe (e2 rfl)
theorem OX {nm : List UInt8} {es : List aq} {T : Exit -> aa -> Prop} (e : T (.exit 0) ((J5 es nm (Int.ofNat es.length)).aw Tryz.f36.ntmps)) :
  KD (roundOf Tryz.f36 0) T ((HX es nm (Int.ofNat es.length)).aw Tryz.f36.ntmps) := by
 have h1 := bO (i := es.length) (L := es.length) (by omega)
 refine az [13] [] (H := WW) (live := AT) (by kernel_rfl) ?_; refine ob h1 ?_; exact oe e
theorem RS {nm : List UInt8} {es : List aq} {o : Option bc}
  (hl : KD (.loop (roundOf Tryz.f36 0)) (fun e s => (e = .exit 0 /\ o = none /\ s = (J5 es nm (Int.ofNat es.length)).aw Tryz.f36.ntmps) ∨ (∃ d, e = .ret /\ o = some d /\ s = (J6 es d).aw Tryz.f36.ntmps)) ((HX es nm 0).aw Tryz.f36.ntmps)) :
  KC 36 [rP 0, .dat (sb nm)] (hF 0 es) 1 (XQ ⟨.tup [.dat (oS o).enc, bv (km o)], hF 0 es, 1⟩) := by
 refine co [] [] (x := .of Tryz.f36 GU AT) ?_; refine lo hl ?_
 rintro ex s (⟨rfl, rfl, rfl⟩ | ⟨x0, rfl, rfl, rfl⟩)
 ·refine ⟨_, rfl, ?_⟩; exact fi
 refine ⟨_, rfl, ?_⟩
 obtain ⟨v1, v2, v3, v4, v5⟩ := x0
 obtain ⟨v6, v7, v8, v9⟩ := v3
 rcases v9 with _ | ⟨v12, v13⟩
 ·rcases v5 with _ | ⟨v10, v11⟩ <;>
  ·exact fi
 rcases v5 with _ | ⟨v14, v15⟩ <;>
 ·exact fi
noncomputable def WA : Hints := ⟨au, GQ, ax, rowsOf ax 40⟩
def RR (k : Int) (nm : List UInt8) (ix : Int) (a : aq) : Heap := [(.loc 3, .cells [iv k, .dat (sb nm), iv ix, .dat a])]
def J7 (lo : Heap) (es : List aq) (i : Int) : ab := ⟨[(7, iv i), (3, .ptr (.loc 3) 0), (0, rP 0)], lo, hF 0 es, 1⟩
def Qs (lo : Heap) (es : List aq) (i : Int) : ab := ⟨[(32, bv false), (7, iv i), (3, .ptr (.loc 3) 0), (0, rP 0)], lo, hF 0 es, 1⟩
def Qt (es : List aq) : ab := ⟨[(4, bv false)], [], hF 0 es, 1⟩
theorem Mv {k ix : Int} {nm : List UInt8} {es : List aq} {l : List Ty} {t : Ty} {i : Nat} {c : Bool} (hi : i < (an l).length) (ht : l[i]? = some t) (hc : KC 40 [rP 0, .dat t.enc] (hF 0 es) 1 (XQ ⟨bv c, hF 0 es, 1⟩)) {T : Exit -> aa -> Prop}
  (e1 : c = true -> T .normal ((J7 (RR k nm ix (.slice (an l))) es (aG .i64 (Int.ofNat i + 1))).aw Tryz.f40.ntmps)) (e2 : c = false -> T .ret ((Qt es).aw Tryz.f40.ntmps)) :
  KD (roundOf Tryz.f40 0) T ((J7 (RR k nm ix (.slice (an l))) es (Int.ofNat i)).aw Tryz.f40.ntmps) := by
 have h1 := bN hi
 have h2 := jT ht
 generalize an l = ls at *
 clear ht hi
 obtain ⟨tk, tn, tix, ta⟩ := t
 rcases ta with _ | ⟨b, d⟩ <;>
 ·refine az [32] [39] (H := WA) (live := xf) (by kernel_rfl) ?_; refine ob h1 ?_; refine oo h2 ?_; refine oh hc ?_
  cases c
  ·exact oe (e2 rfl)
  exact oe (e1 rfl)
theorem Ph {k ix : Int} {nm : List UInt8} {es l : List aq} {T : Exit -> aa -> Prop} (e : T (.exit 0) ((Qs (RR k nm ix (sl l)) es (Int.ofNat l.length)).aw Tryz.f40.ntmps)) :
  KD (roundOf Tryz.f40 0) T ((J7 (RR k nm ix (sl l)) es (Int.ofNat l.length)).aw Tryz.f40.ntmps) := by
 have h1 := bO (i := l.length) (L := l.length) (by omega)
 rcases l with _ | ⟨x, l⟩
 ·refine az [] [] (H := WA) (live := xf) (by kernel_rfl) ?_; exact oe e
 refine az [32] [] (H := WA) (live := xf) (by kernel_rfl) ?_; refine ob h1 ?_; exact oe e
theorem R5 {nm nm2 tn2 : List UInt8} {es : List aq} {l la lb : List aq} {k ix ar2 k2 ix2 : Int} {con2 cw c ck d : Bool} (h : bj k 2 = ck) (hf : KC 36 [rP 0, .dat (sb nm)] (hF 0 es) 1 (XQ ⟨.tup [.dat (eT nm2 ar2 k2 tn2 ix2 la con2 lb), bv cw], hF 0 es, 1⟩)) (hc : bj ar2 (Int.ofNat l.length) = c)
  (hl : KD (.loop (roundOf Tryz.f40 0)) (fun e s => (e = .exit 0 /\ d = true /\ s = (Qs (RR k nm ix (sl l)) es (Int.ofNat l.length)).aw Tryz.f40.ntmps) ∨ (e = .ret /\ d = false /\ s = (Qt es).aw Tryz.f40.ntmps)) ((J7 (RR k nm ix (sl l)) es (Int.ofNat 0)).aw Tryz.f40.ntmps)) :
  KC 40 [rP 0, .dat (.agg [i64 k, sb nm, i64 ix, sl l])] (hF 0 es) 1 (XQ ⟨bv (!(ck && !(cw && c)) && d), hF 0 es, 1⟩) := by
 have q1 := P7 k nm ix l
 have q4 := cC 5 nm2 ar2 k2 tn2 ix2 la con2 lb
 rcases l with _ | ⟨x, l⟩ <;>
 ·refine co [10, 26] [3, 100005] (x := .of Tryz.f40 GQ xf) ?_; refine oo q1 ?_; refine ob h ?_
  cases ck
  ·refine lo hl ?_
   rintro ex s (⟨rfl, rfl, rfl⟩ | ⟨rfl, rfl, rfl⟩) <;>
   ·refine ⟨_, rfl, ?_⟩; exact fi
  refine oh hf ?_; refine oo q4 ?_
  cases cw
  ·exact fi
  refine ox hc ?_
  cases c
  ·exact fi
  refine lo hl ?_
  rintro ex s (⟨rfl, rfl, rfl⟩ | ⟨rfl, rfl, rfl⟩) <;>
  ·refine ⟨_, rfl, ?_⟩; exact fi
theorem FC {ds : List bc} {nm : List UInt8} {i : Nat} {t : bc} (h : ds[i]? = some t) : aW (ds.drop i) nm = (match fY nm t.nm with | true => some t | false => aW (ds.drop (i + 1)) nm) := by rw [dv h]; rfl
theorem OW {nm : List UInt8} {ds : List bc} (hn : ds.length < 1000000000) :
  KD (.loop (roundOf Tryz.f36 0)) (fun e s => (e = .exit 0 /\ aW ds nm = none /\ s = (J5 (aJ ds) nm (Int.ofNat (aJ ds).length)).aw Tryz.f36.ntmps) ∨ (∃ d, e = .ret /\ aW ds nm = some d /\ s = (J6 (aJ ds) d).aw Tryz.f36.ntmps)) ((HX (aJ ds) nm (Int.ofNat 0)).aw Tryz.f36.ntmps) := by
 refine ct (St := fun i => (HX (aJ ds) nm (Int.ofNat i)).aw Tryz.f36.ntmps) (fun i => aW ds nm = aW (ds.drop i) nm) (aJ ds).length ?_ ?_ (i := 0) (Nat.zero_le _) rfl
 ·intro i hi hI
  obtain ⟨t, ht, hm⟩ := kq hi
  have hd := FC (nm := nm) ht
  rw [← hI] at hd
  have hw : aG .i64 (Int.ofNat i + 1) = Int.ofNat (i + 1) := bi (by rw [aX] at hi; omega)
  have e : fY t.nm nm = fY nm t.nm := by
   rw [Bool.eq_iff_iff, jN, jN, beq_iff_eq, beq_iff_eq]
   exact eq_comm
  refine L4 hi ht e ?_ ?_
  ·intro hc
   rw [hw]
   rw [hc] at hd
   exact ⟨rfl, hd⟩
  intro hc
  rw [hc] at hd
  exact .inr ⟨t, rfl, hd, rfl⟩
 intro hI
 refine OX (.inl ⟨rfl, ?_, rfl⟩)
 rw [hI, aX, List.drop_length]
 rfl
theorem wH {ds : List bc} (nm : List UInt8) (hn : ds.length < 1000000000) : KC 36 [rP 0, .dat (sb nm)] (hF 0 (aJ ds)) 1 (XQ ⟨.tup [.dat (oS (aW ds nm)).enc, bv (km (aW ds nm))], hF 0 (aJ ds), 1⟩) := RS (OW hn)
theorem CO {ds : List bc} {l : List Ty} {i : Nat} {t : Ty} (h : l[i]? = some t) : hZ ds (l.drop i) = (!cH ds t || hZ ds (l.drop (i + 1))) := by rw [dv h, hZ]
mutual
theorem At {ds : List bc} (hn : ds.length < 1000000000) : ∀ t : Ty, t.size < 1000000000 -> KC 40 [rP 0, .dat t.enc] (hF 0 (aJ ds)) 1 (XQ ⟨bv (cH ds t), hF 0 (aJ ds), 1⟩)
 | .mk k nm ix l, hs => by
  have hsl : aR l < 1000000000 := by simp only [Ty.size] at hs; omega
  have hlen := eg l
  have ih := Cp hn l hsl
  have hf := wH (ds := ds) nm hn
  have e : cH ds (.mk k nm ix l) = (!(bj k 2 && !(km (aW ds nm) && bj (oS (aW ds nm)).ar (Int.ofNat (an l).length))) && !hZ ds l) := by
   rw [cH]
   have e1 : xJ ds (.mk k nm ix l) = (km (aW ds nm) && bj (oS (aW ds nm)).ar (Int.ofNat (an l).length)) := by
    show (match aW ds nm with | some d => bj d.ar (Int.ofNat (an l).length) | none => false) = _
    cases aW ds nm <;> rfl
   rw [e1]
  rw [e]
  generalize km (aW ds nm) = cw at *
  generalize oS (aW ds nm) = o at *
  obtain ⟨nm2, ar2, ⟨k2, tn2, ix2, la2⟩, con2, fl2⟩ := o
  refine R5 (la := an la2) (lb := aH fl2) rfl hf rfl ?_
  refine ct (St := fun i => (J7 (RR k nm ix (sl (an l))) (aJ ds) (Int.ofNat i)).aw Tryz.f40.ntmps) (fun i => hZ ds l = hZ ds (l.drop i)) (an l).length ?_ ?_ (i := 0) (Nat.zero_le _) rfl
  ·intro i hi hI
   obtain ⟨t, ht, hm⟩ := get_mem hi
   have hd := CO (ds := ds) ht
   rw [← hI] at hd
   have hsl := ka hi
   have hw : aG .i64 (Int.ofNat i + 1) = Int.ofNat (i + 1) := bi (by rw [aE] at hi; omega)
   have hc := ih t hm
   rw [hsl]
   generalize cH ds t = c at hc hd
   refine Mv hi ht hc ?_ ?_
   ·rintro rfl
    rw [hw]
    exact ⟨rfl, hd⟩
   rintro rfl
   refine .inr ⟨rfl, ?_, rfl⟩
   rw [hd]
   rfl
  intro hI
  refine Ph (.inl ⟨rfl, ?_, rfl⟩)
  rw [hI, aE, List.drop_length, hZ]
  rfl
theorem Cp {ds : List bc} (hn : ds.length < 1000000000) : ∀ l : List Ty, aR l < 1000000000 -> ∀ t ∈ l, KC 40 [rP 0, .dat t.enc] (hF 0 (aJ ds)) 1 (XQ ⟨bv (cH ds t), hF 0 (aJ ds), 1⟩)
 | [], _, t, ht => by simp at ht
 | x :: r, h, t, ht => by
  simp only [aR] at h
  rcases List.mem_cons.1 ht with h1 | ht
  ·rw [h1]; exact At hn x (by omega)
  exact Cp hn r (by omega) t ht
end
theorem Jy {a b : List bc} (h : a.length + b.length < 100000000) : bq (env ap.aK) false 23 [.own (aJ a), .dat (.slice (aJ b))] none = some ⟨.own (aJ (a ++ b)), .keep⟩ := by
 rw [rq]
 refine rK (i := Ea) (ds := aJ b) (k := 7) D9 rfl qn (mo b) (mo a) (by kernel_rfl) ?_ ?_ ?_ ?_
 ·have h1 : Ea.bytes <= 1000 := fN (by kernel_rfl)
  rw [aX, aX]
  calc (a.length + b.length) * Ea.bytes <= 100000000 * 1000 := Nat.mul_le_mul (by omega) h1
   _ <= 140737488355328 := by decide
 ·rw [aX, aX]; simp [iV]; omega
 ·unfold io
  rw [show aJ a ++ aJ b = aJ (a ++ b) by rw [rq], xF]
 simp
theorem GA {ds : List bc} (hn : ds.length < 1000000) : KC 20 [rP 0] (hF 0 (aJ ds)) 1 (XQ ⟨.own (aJ ds), hF 0 (aJ ds), 1⟩) := by
 have h1 := Jy (a := []) (b := ds) (by simp; omega)
 rw [List.nil_append] at h1
 have h2 : aJ ([] : List bc) = [] := rfl
 rw [h2] at h1
 generalize aJ ds = es at *
 refine co [] [8] (x := .of Tryz.f20 Lw Mq) ?_; refine oo h1 ?_; exact fi
noncomputable def R7 : Hints := ⟨au, CH, ax, rowsOf ax 17⟩
def U0 (a b : List aq) : Heap := [(.out 1, .cells [.own b]), (.out 0, .cells [.own a])]
def UP (cs : List ac) (es : List aq) : Heap := [(.loc 40, .cells [.dat (.slice es)]), (.loc 3, .cells cs)]
def UQ (cs : List ac) : Heap := [(.loc 3, .cells cs)]
/-- The loop of the fields: before the first call the new hierarchy is the frame's own. -/
def HY (cs : List ac) (es es2 : List aq) (i : Int) : Nat -> ab
 | 0 => ⟨[(9, iv i), (8, .ptr (.loc 40) 0), (3, .ptr (.loc 3) 0), (0, rP 0)], UP cs es2, hF 0 es, 1⟩
 | _ + 1 => ⟨[(9, iv i), (8, .ptr (.out 1) 0), (3, .ptr (.loc 3) 0), (0, rP 0)], UQ cs, hF 1 es2 ++ hF 0 es, 2⟩
def Kc (cs : List ac) (es es2 : List aq) (i : Int) : Nat -> ab
 | 0 => ⟨[(50, bv false), (9, iv i), (8, .ptr (.loc 40) 0), (3, .ptr (.loc 3) 0), (0, rP 0)], UP cs es2, hF 0 es, 1⟩
 | _ + 1 => ⟨[(50, bv false), (9, iv i), (8, .ptr (.out 1) 0), (3, .ptr (.loc 3) 0), (0, rP 0)], UQ cs, hF 1 es2 ++ hF 0 es, 2⟩
def Kd (es es2 : List aq) : ab := ⟨[(4, iv 5)], [], hF 1 es2 ++ hF 0 es, 2⟩
/-- What is said of a hierarchy holds beside other objects. -/
theorem va {g : FuncId} {args args2 : List ac} {v : ac} {es es2 : List aq} (o m : Nat) (pre post : Heap) (h : KC g args (hF 0 es) 1 (XQ ⟨v, hF 0 es2, 1⟩)) (ha : dR 1 args = false) (he : gv (fun _ => o) args = args2) (hv : eX (ln (fun _ => o) 1 m) v = v) :
  KC g args2 (pre ++ (hF o es ++ post)) m (XQ ⟨v, pre ++ (hF o es2 ++ post), m⟩) := by
 have e1 : ∀ (es : List aq) (ρ : Nat -> Nat), ρ 0 = o -> lF ρ (hF 0 es) = hF o es := by
  intro es ρ h0
  simp [hF, lF, oX, uZ, gv, eX, h0]
 have hf := ay.frame h (fun _ => o) (heap := pre ++ (hF o es ++ post)) (rest := pre ++ post) (next := m) (by
  rw [e1 _ _ rfl]
  rw [← List.append_assoc, ← List.append_assoc]
  exact List.Perm.append_right _ List.perm_append_comm) (by rfl) (by simp [cO, hF, nj, dR, dG]) (by rfl) ha
 rw [he] at hf
 refine ay.hU hf ?_
 rintro v' h' m' ⟨v0, h1, n1, ⟨rfl, rfl, rfl⟩, rfl, rfl, rfl⟩
 rw [hv, e1 _ _ rfl]
 refine ⟨pre ++ (hF o es2 ++ post), ?_, rfl, rfl, rfl⟩
 rw [← List.append_assoc, ← List.append_assoc]
 exact List.Perm.append_right _ List.perm_append_comm
theorem Nj {nm nm2 : List UInt8} {ar k ix : Int} {A : aq} {con : Bool} {es es2 : List aq} {l : List dZ} {t : dZ} {i : Nat} {c : Bool} (hi : i < (aH l).length) (ht : l[i]? = some t) (hk : KC 40 [rP 1, .dat t.ty.enc] (hF 1 es2 ++ hF 0 es) 2 (XQ ⟨bv c, hF 1 es2 ++ hF 0 es, 2⟩)) {T : Exit -> aa -> Prop}
  (e1 : c = true -> T .normal ((HY (bH nm ar k nm2 ix A con (.slice (aH l))) es es2 (aG .i64 (Int.ofNat i + 1)) 1).aw Tryz.f17.ntmps)) (e2 : c = false -> T .ret ((Kd es es2).aw Tryz.f17.ntmps)) :
  KD (roundOf Tryz.f17 0) T ((HY (bH nm ar k nm2 ix A con (.slice (aH l))) es es2 (Int.ofNat i) i).aw Tryz.f17.ntmps) := by
 have h1 := bN hi
 have h2 := xl ht
 generalize aH l = ls at *
 clear ht hi
 obtain ⟨fn, tk, tn, tix, ta⟩ := t
 rcases i with _ | i <;>
 ·rcases ta with _ | ⟨b, d⟩ <;>
  ·refine az [50] [57] (H := R7) (live := sB) (by kernel_rfl) ?_; refine ob h1 ?_; refine oo h2 ?_; refine oh hk ?_
   cases c
   ·exact oe (e2 rfl)
   exact oe (e1 rfl)
theorem PW {nm nm2 : List UInt8} {ar k ix : Int} {A : aq} {con : Bool} {es es2 l : List aq} {T : Exit -> aa -> Prop} (e : T (.exit 0) ((Kc (bH nm ar k nm2 ix A con (sl l)) es es2 (Int.ofNat l.length) l.length).aw Tryz.f17.ntmps)) :
  KD (roundOf Tryz.f17 0) T ((HY (bH nm ar k nm2 ix A con (sl l)) es es2 (Int.ofNat l.length) l.length).aw Tryz.f17.ntmps) := by
 have h1 := bO (i := l.length) (L := l.length) (by omega)
 rcases l with _ | ⟨x, l⟩
 ·refine az [] [] (H := R7) (live := sB) (by kernel_rfl) ?_; exact oe e
 refine az [50] [] (H := R7) (live := sB) (by kernel_rfl) ?_; refine ob h1 ?_; exact oe e
def Q3 (v : Int) (c0 oex c1 c3 c4 d c6 : Bool) : Int := match c0 with
 | false => v
 | true => match oex with
  | true => (match c1 with | true => 0 | false => 6)
  | false => match c3 with
   | false => 8
   | true => match c4 with
    | false => 5
    | true => match d with
     | false => 5
     | true => match c6 with | true => 10 | false => 0
def V7 (es es2 : List aq) (c0 oex c3 c4 d c6 : Bool) : List aq := match c0 with
 | false => es
 | true => match oex with
  | true => es
  | false => match c3 with
   | false => es
   | true => match c4 with
    | false => es
    | true => match d with
     | false => es
     | true => match c6 with | true => es | false => es2
theorem To {nm nm2 onm otn snm stn : List UInt8} {ar k ix oar ok oix sar sk six v : Int} {la lb ola olb sla slb es es2 : List aq} {con ocon c0 oex c1 c3 c4 d sc sex : Bool} (h0 : ae 57 [.dat (eT nm ar k nm2 ix la con lb)] (iv v)) (hv : bj v 0 = c0)
  (hl : KC 36 [rP 0, .dat (sb nm)] (hF 0 es) 1 (XQ ⟨.tup [.dat (eT onm oar ok otn oix ola ocon olb), bv oex], hF 0 es, 1⟩)) (he : ae 37 [.dat (eT onm oar ok otn oix ola ocon olb), .dat (eT nm ar k nm2 ix la con lb)] (bv c1))
  (hn : ba (Int.ofNat es.length) 60 = c3) (hd : KC 20 [rP 0] (hF 0 es) 1 (XQ ⟨.own es, hF 0 es, 1⟩)) (ha : bq (env ap.aK) false 23 [.own es, .dat (.slice [eT nm ar k nm2 ix la con lb])] none = some ⟨.own es2, .keep⟩)
  (hk : KC 40 [rP 0, .dat (.agg [i64 k, sb nm2, i64 ix, sl la])] (hF 0 es) 1 (XQ ⟨bv c4, hF 0 es, 1⟩))
  (hlp : KD (.loop (roundOf Tryz.f17 0)) (fun e s => (e = .exit 0 /\ d = true /\ s = (Kc (bH nm ar k nm2 ix (sl la) con (sl lb)) es es2 (Int.ofNat lb.length) lb.length).aw Tryz.f17.ntmps) ∨ (e = .ret /\ d = false /\ s = (Kd es es2).aw Tryz.f17.ntmps)) ((HY (bH nm ar k nm2 ix (sl la) con (sl lb)) es es2 (Int.ofNat 0) 0).aw Tryz.f17.ntmps))
  (hs : KC 36 [rP 0, .dat (sb nm2)] (hF 0 es) 1 (XQ ⟨.tup [.dat (eT snm sar sk stn six sla sc slb), bv sex], hF 0 es, 1⟩))
  (hs2 : KC 36 [rP 0, .dat (sb nm2)] (hF 1 es2 ++ hF 0 es) 2 (XQ ⟨.tup [.dat (eT snm sar sk stn six sla sc slb), bv sex], hF 1 es2 ++ hF 0 es, 2⟩)) :
  KC 17 [rP 0, .dat (eT nm ar k nm2 ix la con lb)] (hF 0 es) 1 (XQ ⟨iv (Q3 v c0 oex c1 c3 c4 d (sex && sc)), hF 0 (V7 es es2 c0 oex c3 c4 d (sex && sc)), 1⟩) := by
 have q1 := rz nm ar k nm2 ix la con lb
 have q3 := AY false 3 nm ar k nm2 ix la con lb
 have q5 := br false 3 nm ar k nm2 ix la con lb
 have q6 := br true 3 nm ar k nm2 ix la con lb
 have q4 := cC 6 onm oar ok otn oix ola ocon olb
 have q7 := cC 10 snm sar sk stn six sla sc slb
 rcases lb with _ | ⟨y, lb⟩
 ·refine co [15, 33] [3, 12, 100006, 26, 36, 38, 43, 100010] (x := .of Tryz.f17 CH sB) ?_; refine oo q1 ?_; refine oo q5 ?_; refine on h0 ?_; refine ox hv ?_
  cases c0
  ·exact fi
  refine oh hl ?_; refine oo q4 ?_
  cases oex
  ·refine ox hn ?_
   cases c3
   ·exact fi
   refine oo q5 ?_; refine oh hd ?_; refine oo ha ?_; refine oo q3 ?_; refine oh hk ?_
   cases c4
   ·exact fi
   refine lo hlp ?_
   rintro ex s (⟨rfl, rfl, rfl⟩ | ⟨rfl, rfl, rfl⟩)
   ·refine ⟨_, rfl, ?_⟩; refine oh hs ?_; refine oo q7 ?_
    cases sex
    ·exact fi
    cases sc <;>
    ·exact fi
   refine ⟨_, rfl, ?_⟩; exact fi
  refine oo q5 ?_
  rcases ola with _ | ⟨v2, v3⟩
  ·rcases olb with _ | ⟨v0, v1⟩ <;>
   ·refine on he ?_
    cases c1 <;>
    ·exact fi
  rcases olb with _ | ⟨v4, v5⟩ <;>
  ·refine on he ?_
   cases c1 <;>
   ·exact fi
 refine co [15, 33] [3, 12, 100006, 26, 36, 38, 43, 100010] (x := .of Tryz.f17 CH sB) ?_; refine oo q1 ?_; refine oo q5 ?_; refine on h0 ?_; refine ox hv ?_
 cases c0
 ·exact fi
 refine oh hl ?_; refine oo q4 ?_
 cases oex
 ·refine ox hn ?_
  cases c3
  ·exact fi
  refine oo q5 ?_; refine oh hd ?_; refine oo ha ?_; refine oo q3 ?_; refine oh hk ?_
  cases c4
  ·exact fi
  refine lo hlp ?_
  rintro ex s (⟨rfl, rfl, rfl⟩ | ⟨rfl, rfl, rfl⟩)
  ·refine ⟨_, rfl, ?_⟩; refine oh hs2 ?_; refine oo q7 ?_
   cases sex
   ·exact fi
   cases sc <;>
   ·exact fi
  refine ⟨_, rfl, ?_⟩; exact fi
 refine oo q5 ?_
 rcases ola with _ | ⟨v2, v3⟩
 ·rcases olb with _ | ⟨v0, v1⟩ <;>
  ·refine on he ?_
   cases c1 <;>
   ·exact fi
 rcases olb with _ | ⟨v4, v5⟩ <;>
 ·refine on he ?_
  cases c1 <;>
  ·exact fi
theorem IZ {a b : List bc} {nm : List UInt8} {o : bc} : aW a nm = some o -> aW (a ++ b) nm = some o := by
 induction a with
 | nil => intro h; simp [aW] at h
 | cons d r ih =>
  intro h
  rw [List.cons_append]
  unfold aW at h ⊢
  split at h
  ·exact h
  exact ih h
theorem JA {ds : List bc} {l : List dZ} {i : Nat} {f : dZ} (h : l[i]? = some f) : (l.drop i).any (fun f => !cH ds f.ty) = (!cH ds f.ty || (l.drop (i + 1)).any (fun f => !cH ds f.ty)) := by rw [dv h, List.any_cons]
theorem PV {ds : List bc} {nm nm2 : List UInt8} {ar k ix : Int} {A B : aq} {con : Bool} {es : List aq} {l : List dZ} (hb : B = sl (aH l)) (hn : l.length < 1000000000) (hf : ∀ f ∈ l, f.ty.cA) (hds : ds.length < 1000000) :
  KD (.loop (roundOf Tryz.f17 0)) (fun e s => (e = .exit 0 /\ (!(l.any (fun f => !cH ds f.ty))) = true /\ s = (Kc (bH nm ar k nm2 ix A con B) es (aJ ds) (Int.ofNat (aH l).length) (aH l).length).aw Tryz.f17.ntmps) ∨ (e = .ret /\ (!(l.any (fun f => !cH ds f.ty))) = false /\ s = (Kd es (aJ ds)).aw Tryz.f17.ntmps)) ((HY (bH nm ar k nm2 ix A con B) es (aJ ds) (Int.ofNat 0) 0).aw Tryz.f17.ntmps) := by
 refine ct (St := fun i => (HY (bH nm ar k nm2 ix A con B) es (aJ ds) (Int.ofNat i) i).aw Tryz.f17.ntmps) (fun i => l.any (fun f => !cH ds f.ty) = (l.drop i).any (fun f => !cH ds f.ty)) (aH l).length ?_ ?_ (i := 0) (Nat.zero_le _) rfl
 ·intro i hi hI
  obtain ⟨t, ht, hm⟩ := jH hi
  have hd := JA (ds := ds) ht
  rw [← hI] at hd
  have hw : aG .i64 (Int.ofNat i + 1) = Int.ofNat (i + 1) := bi (by rw [bw] at hi; omega)
  have hb2 : B = .slice (aH l) := by
   rw [hb]
   cases l with
   | nil => simp at ht
   | cons x r => rfl
  subst hb2
  have hk := At (ds := ds) (by omega) t.ty (by have := (hf t hm).1; omega)
  have hk2 := va 1 2 [] (hF 0 es) hk (args2 := [rP 1, .dat t.ty.enc]) rfl rfl rfl
  refine Nj hi ht hk2 ?_ ?_
  ·intro hc
   rw [hw]
   refine ⟨rfl, ?_⟩
   rw [hd, hc]
   rfl
  intro hc
  refine .inr ⟨rfl, ?_, rfl⟩
  rw [hd, hc]
  rfl
 intro hI
 rw [hb]
 refine PW (.inl ⟨rfl, ?_, rfl⟩)
 rw [hI, bw, List.drop_length]
 rfl
theorem Nd {ds : List bc} {d : bc} (h0 : aW ds [] = none) :
  (iR ds d).1 = Q3 d.Tt (bj d.Tt 0) (km (aW ds d.nm)) ((oS (aW ds d.nm)).eq d) (ba (Int.ofNat (aJ ds).length) 60) (cH ds d.sup) (!(d.fl.any (fun f => !cH (ds ++ [d]) f.ty))) (km (aW ds d.sup.nm) && (oS (aW ds d.sup.nm)).con) ∧
   aJ (iR ds d).2 = V7 (aJ ds) (aJ (ds ++ [d])) (bj d.Tt 0) (km (aW ds d.nm)) (ba (Int.ofNat (aJ ds).length) 60) (cH ds d.sup) (!(d.fl.any (fun f => !cH (ds ++ [d]) f.ty))) (km (aW ds d.sup.nm) && (oS (aW ds d.sup.nm)).con) := by
 unfold iR bc.Tt
 rw [aX]
 cases hw : d.wf with
 | false => exact ⟨rfl, rfl⟩
 | true =>
  cases h1 : ba 6 d.ar with
  | true => exact ⟨rfl, rfl⟩
  | false =>
   cases h2 : ba 6 (Int.ofNat (aH d.fl).length) with
   | true => exact ⟨rfl, rfl⟩
   | false =>
    cases hf : aW ds d.nm with
    | some o =>
     cases h3 : o.eq d with
     | true => exact ⟨by simp only [h3, oS, km]; rfl, by simp only [h3, oS, km]; rfl⟩
     | false => exact ⟨by simp only [h3, oS, km]; rfl, by simp only [h3, oS, km]; rfl⟩
    | none =>
     cases h4 : ba (Int.ofNat ds.length) 60 with
     | false => exact ⟨rfl, rfl⟩
     | true =>
      cases h5 : cH ds d.sup with
      | false => exact ⟨rfl, rfl⟩
      | true =>
       cases h6 : d.fl.any (fun f => !cH (ds ++ [d]) f.ty) with
       | true => exact ⟨rfl, rfl⟩
       | false =>
        have hwf := hw
        unfold bc.wf at hwf
        simp only [Bool.and_eq_true] at hwf
        have hkd := hwf.2.2.2.2.1
        have hov := hwf.2.2.2.2.2.1
        cases h7 : bj d.sup.kind 2 with
        | false =>
         rw [h7, Bool.or_false] at hkd
         have hs := zn hov hkd
         rw [hs]
         rw [show Ty.nm (.mk 0 [] 0 []) = [] from rfl, h0]
         exact ⟨rfl, rfl⟩
        | true =>
         have hsm : ∃ o, aW ds d.sup.nm = some o := by
          have hh := h5
          generalize d.sup = su at hh h7 ⊢
          obtain ⟨kk, nn, ii, ll⟩ := su
          rw [cH, Bool.and_eq_true] at hh
          have h8 := hh.1
          rw [show bj kk 2 = true from h7] at h8
          have h9 : xJ ds (.mk kk nn ii ll) = true := by
           cases hq : xJ ds (.mk kk nn ii ll) with
           | true => rfl
           | false => rw [hq] at h8; simp at h8
          unfold xJ at h9
          dsimp only at h9
          show ∃ o, aW ds nn = some o
          cases hq : aW ds nn with
          | some o => exact ⟨o, rfl⟩
          | none => rw [hq] at h9; simp at h9
         obtain ⟨o, hso⟩ := hsm
         rw [IZ hso, hso]
         cases hcon : o.con with
         | true => exact ⟨by simp only [oS, km, hcon]; rfl, by simp only [oS, km, hcon]; rfl⟩
         | false => exact ⟨by simp only [oS, km, hcon]; rfl, by simp only [oS, km, hcon]; rfl⟩
theorem Il {ds : List bc} {d : bc} (hd : d.cA) (hds : ∀ o ∈ ds, o.cA) (hn : ds.length < 1000) (h0 : aW ds [] = none) :
  KC 17 [rP 0, .dat d.enc] (hF 0 (aJ ds)) 1 (XQ ⟨iv (iR ds d).1, hF 0 (aJ (iR ds d).2), 1⟩) := by
 have hck := OE hd
 have hl := wH (ds := ds) d.nm (by omega)
 have ho : (oS (aW ds d.nm)).cA := by
  cases h : aW ds d.nm with
  | none => exact yH
  | some o => exact hds o (oN h)
 have he := Co (o := d) ho
 have hdc := GA (ds := ds) (by omega)
 have ha := BC (pre := ds) (t := d) (by omega)
 have hk := At (ds := ds) (by omega) d.sup (by have := hd.1.1; omega)
 have hs := wH (ds := ds) d.sup.nm (by omega)
 have hs2 := va 0 2 (hF 1 (aJ (ds ++ [d]))) [] hs (args2 := [rP 0, .dat (sb d.sup.nm)]) rfl rfl rfl
 rw [List.append_nil] at hs2
 have hlp := fun nm ar k nm2 ix A con => PV (ds := ds ++ [d]) (nm := nm) (ar := ar) (k := k) (nm2 := nm2) (ix := ix) (A := A) (con := con) (es := aJ ds) (B := sl (aH d.fl)) rfl hd.2.2 hd.2.1 (by simp; omega)
 have e := Nd (d := d) h0
 rw [e.1, e.2]
 clear e ho hds h0
 generalize (oS (aW ds d.nm)).eq d = c1 at *
 generalize cH ds d.sup = c4 at *
 generalize d.Tt = v at *
 generalize km (aW ds d.nm) = oex at *
 generalize km (aW ds d.sup.nm) = sex at *
 generalize oS (aW ds d.nm) = o at *
 generalize oS (aW ds d.sup.nm) = so at *
 have hlp2 := hlp
 clear hlp
 generalize (!(d.fl.any (fun f => !cH (ds ++ [d]) f.ty))) = c6 at *
 generalize aJ (ds ++ [d]) = es2 at *
 generalize aJ ds = es at *
 obtain ⟨nm, ar, ⟨k, tn, ix, la⟩, con, fl⟩ := d
 obtain ⟨onm, oar, ⟨ok, otn, oix, ola⟩, ocon, ofl⟩ := o
 obtain ⟨snm, sar, ⟨sk, stn, six, sla⟩, scon, sfl⟩ := so
 exact To hck rfl hl he rfl hdc ha hk (hlp2 _ _ _ _ _ _ _) hs hs2
/-! ### DeclsEqual -/
def pb : List bc -> List bc -> Bool
 | f :: r, g :: s => f.eq g && pb r s
 | _, _ => true
def mO (a b : List bc) : Bool := bj (Int.ofNat (aJ a).length) (Int.ofNat (aJ b).length) && pb a b
noncomputable def WZ : Hints := ⟨au, GW, ax, rowsOf ax 18⟩
def Kb (a b : List aq) (i : Int) : ab := ⟨[(5, iv i), (0, .dat (.slice a)), (1, .dat (.slice b))], [], [], 0⟩
def QB (a b : List aq) (i : Int) : ab := ⟨[(14, bv false), (5, iv i), (0, .dat (.slice a)), (1, .dat (.slice b))], [], [], 0⟩
def QC : ab := ⟨[(4, bv false)], [], [], 0⟩
theorem Jj {a b : List bc} {t u : bc} {i : Nat} {c : Bool} {T : Exit -> aa -> Prop} (hi : i < (aJ a).length) (ht : a[i]? = some t) (hu : b[i]? = some u) (hc : ae 37 [.dat t.enc, .dat u.enc] (bv c))
  (e1 : c = true -> T .normal ((Kb (aJ a) (aJ b) (aG .i64 (Int.ofNat i + 1))).aw Tryz.f18.ntmps)) (e2 : c = false -> T .ret (QC.aw Tryz.f18.ntmps)) :
  KD (roundOf Tryz.f18 0) T ((Kb (aJ a) (aJ b) (Int.ofNat i)).aw Tryz.f18.ntmps) := by
 have h1 := bN hi
 have h2 := xm ht
 have h3 := xm hu
 generalize aJ a = es at *
 generalize aJ b = es2 at *
 clear ht hi hu
 obtain ⟨dn, ar, ⟨k, tn, ix, la⟩, con, fl⟩ := t
 obtain ⟨dn2, ar2, ⟨k2, tn2, ix2, la2⟩, con2, fl2⟩ := u
 refine az [14] [19, 23] (H := WZ) (live := AU) (by kernel_rfl) ?_; refine ob h1 ?_; refine oo h2 ?_; refine oo h3 ?_; refine on hc ?_
 cases c
 ·exact oe (e2 rfl)
 exact oe (e1 rfl)
theorem M8 {a b : List aq} {T : Exit -> aa -> Prop} (e : T (.exit 0) ((QB a b (Int.ofNat a.length)).aw Tryz.f18.ntmps)) :
  KD (roundOf Tryz.f18 0) T ((Kb a b (Int.ofNat a.length)).aw Tryz.f18.ntmps) := by
 have h1 := bO (i := a.length) (L := a.length) (by omega)
 refine az [14] [] (H := WZ) (live := AU) (by kernel_rfl) ?_; refine ob h1 ?_; exact oe e
theorem PR {a b : List aq} {c d : Bool} (h1 : bj (Int.ofNat a.length) (Int.ofNat b.length) = c)
  (hl : c = true -> KD (.loop (roundOf Tryz.f18 0)) (fun e s => (e = .exit 0 /\ d = true /\ s = (QB a b (Int.ofNat a.length)).aw Tryz.f18.ntmps) ∨ (e = .ret /\ d = false /\ s = QC.aw Tryz.f18.ntmps)) ((Kb a b (Int.ofNat 0)).aw Tryz.f18.ntmps)) :
  ae 18 [.dat (.slice a), .dat (.slice b)] (bv (c && d)) := by
 refine co [10] [] (x := .of Tryz.f18 GW AU) ?_; refine ox h1 ?_
 cases c
 ·exact fi
 refine lo (hl rfl) ?_
 rintro ex s (⟨rfl, rfl, rfl⟩ | ⟨rfl, rfl, rfl⟩) <;>
 ·refine ⟨_, rfl, ?_⟩; exact fi
theorem zK {l l2 : List bc} {i : Nat} {t u : bc} (ht : l[i]? = some t) (hu : l2[i]? = some u) : pb (l.drop i) (l2.drop i) = (t.eq u && pb (l.drop (i + 1)) (l2.drop (i + 1))) := by rw [dv ht, dv hu]; rfl
theorem ze {a b : List bc} (ha : ∀ d ∈ a, d.cA) (hn : a.length < 1000000) : ae 18 [.dat (.slice (aJ a)), .dat (.slice (aJ b))] (bv (mO a b)) := by
 refine PR rfl ?_
 intro hc
 have hlen : a.length = b.length := by
  rw [aX, aX] at hc
  exact Int.ofNat.inj (iW hc)
 refine ct (St := fun i => (Kb (aJ a) (aJ b) (Int.ofNat i)).aw Tryz.f18.ntmps) (fun i => pb a b = pb (a.drop i) (b.drop i)) (aJ a).length ?_ ?_ (i := 0) (Nat.zero_le _) rfl
 ·intro i hi hI
  obtain ⟨t, ht, hm⟩ := kq hi
  have hi2 := hi
  rw [aX] at hi2
  have hu : b[i]? = some b[i] := List.getElem?_eq_getElem (by omega)
  generalize b[i] = u at hu
  have hd := zK ht hu
  rw [← hI] at hd
  have hw : aG .i64 (Int.ofNat i + 1) = Int.ofNat (i + 1) := bi (by omega)
  refine Jj hi ht hu (Co (ha t hm)) ?_ ?_
  ·intro hc
   rw [hw]
   rw [hc, Bool.true_and] at hd
   exact ⟨rfl, hd⟩
  intro hc
  rw [hc, Bool.false_and] at hd
  exact .inr ⟨rfl, hd, rfl⟩
 intro hI
 refine M8 (.inl ⟨rfl, ?_, rfl⟩)
 rw [hI, aX, List.drop_length]
 cases b.drop a.length <;> rfl
theorem sQ (a : List bc) : mO a a = true := by
 have h : ∀ l : List bc, pb l l = true := by
  intro l
  induction l with
  | nil => rfl
  | cons x r ih => rw [pb, ih, bc.eq_iff.2 rfl]; rfl
 unfold mO
 rw [h a, dq]
 rfl
theorem MW {a b : List bc} : mO a b = true ↔ a = b := by
 constructor
 ·have h : ∀ (l m : List bc), l.length = m.length -> pb l m = true -> l = m := by
   intro l
   induction l with
   | nil => intro m h _; cases m with | nil => rfl | cons x r => simp at h
   | cons x r ih =>
    intro m h h2
    cases m with
    | nil => simp at h
    | cons y s =>
     rw [pb, Bool.and_eq_true] at h2
     rw [bc.eq_iff.1 h2.1, ih s (by simpa using h) h2.2]
  intro h2
  unfold mO at h2
  rw [Bool.and_eq_true, aX, aX] at h2
  exact h a b (Int.ofNat.inj (iW h2.1)) h2.2
 rintro rfl
 exact sQ a
theorem LR {g : FuncId} {args args2 : List ac} {v : ac} {h : Heap} {n : Nat} (m : Nat) (heap : Heap) (hc : KC g args [] 0 (XQ ⟨v, h, n⟩)) (ha : dR 0 args = false) (he : gv (fun o => o) args = args2) :
  KC g args2 heap m (XQ ⟨eX (fun o => m + o) v, lF (fun o => m + o) h ++ heap, m + n⟩) := by
 have hf := ay.frame hc (fun o => o) (heap := heap) (rest := heap) (next := m) (List.Perm.refl _) rfl rfl rfl ha
 rw [he] at hf
 refine hf.mono ?_
 rintro v' h' m' ⟨v0, h1, n1, ⟨rfl, rfl, rfl⟩, rfl, rfl, rfl⟩
 have e : ln (fun o => o) 0 m = fun o => m + o := by
  funext o
  show (match Nat.blt o 0 with | true => o | false => m + (o - 0)) = m + o
  rfl
 rw [e]
 exact ⟨rfl, rfl, rfl⟩
theorem OF : KC 45 [] (hH 2 cY []) 3 (XQ ⟨rP 3, hF 3 (aJ cY) ++ hH 2 cY [], 4⟩) := LR 3 (hH 2 cY []) UH rfl rfl
/-! ### Declare side by side -/
def Im : Nat -> Nat
 | 0 => 2
 | i + 1 => i + 4
theorem Jn {x : aq} {ds ds2 : List bc} {tl tl2 : List aq} {c : Int} (r m : Nat) (pre post : Heap) (h : KC 16 [hP, .dat x] (hH 2 ds tl) 3 (XQ ⟨iv c, hH 3 ds2 tl2, 4⟩)) :
  KC 16 [hP, .dat x] (pre ++ (hH r ds tl ++ post)) m (XQ ⟨iv c, pre ++ (hH m ds2 tl2 ++ post), m + 1⟩) := by
 have e1 : ∀ (cs : List aq) (es : List (Go.Value × aq)) (n q : Nat) (ρ : Nat -> Nat), ρ 0 = 0 -> ρ 1 = 1 -> lF ρ (hG q (av cs) es n) = hG (ρ q) (av cs) es n := by
  intro cs es n q ρ h0 h1
  simp [hG, lF, oX, uZ, iT, gv, eX, h0, h1]
 have hf := ay.frame h (Qo r) (heap := pre ++ (hH r ds tl ++ post)) (rest := pre ++ post) (next := m) (by
  unfold hH
  rw [e1 _ _ _ _ _ rfl rfl]
  rw [← List.append_assoc, ← List.append_assoc]
  exact List.Perm.append_right _ List.perm_append_comm) (by rfl) (by simp [cO, hH, hG, nj, iz, dR, dG]; exact ⟨rfl, rfl⟩) (by rfl) (by rfl)
 rw [show gv (Qo r) [hP, .dat x] = [hP, .dat x] from rfl] at hf
 refine ay.hU hf ?_
 rintro v' h' m' ⟨v0, h1, n1, ⟨rfl, rfl, rfl⟩, rfl, rfl, rfl⟩
 unfold hH
 rw [e1 _ _ _ _ _ rfl rfl]
 refine ⟨pre ++ (hG m (av (bm ds2 ++ tl2)) (bu ds2 0) ds2.length ++ post), ?_, rfl, ?_, rfl⟩
 ·rw [← List.append_assoc, ← List.append_assoc]
  exact List.Perm.append_right _ List.perm_append_comm
 rfl
theorem Ng {d : bc} {ds ds2 : List bc} {tl tl2 : List aq} {c : Int} (r m : Nat) (pre post : Heap) (h : KC 16 [hP, .dat d.enc] (hH 2 ds tl) 3 (XQ ⟨iv c, hH 3 ds2 tl2, 4⟩)) :
  KC 16 [hP, .dat d.enc] (pre ++ (hH r ds tl ++ post)) m (XQ ⟨iv c, pre ++ (hH m ds2 tl2 ++ post), m + 1⟩) := Jn r m pre post h
noncomputable def WX : Hints := ⟨au, GY, ax, rowsOf ax 10⟩
def yp (l : List aq) (H : Heap) (m : Nat) (i : Int) : ab := ⟨[(7, iv i), (6, rP 3), (5, hP), (0, .dat (.slice l))], [], H, m⟩
def Gp (l : List aq) (H : Heap) (m : Nat) (i : Int) : ab := ⟨[(16, bv false), (7, iv i), (6, rP 3), (5, hP), (0, .dat (.slice l))], [], H, m⟩
theorem My {l : List aq} {d : bc} {i : Nat} {c : Int} {H1 H2 H3 : Heap} {m1 m2 m3 : Nat} (h1 : ba (Int.ofNat i) (Int.ofNat l.length) = true) (h2 : aC (env ap.aK) 23 [.dat (.slice l), .dat (.flat (.int .i64 (Int.ofNat i)))] = some ⟨.ref d.cells, .keep⟩)
  (hd : KC 16 [hP, .dat d.enc] H1 m1 (XQ ⟨iv c, H2, m2⟩)) (hr : KC 17 [rP 3, .dat d.enc] H2 m2 (XQ ⟨iv c, H3, m3⟩)) {T : Exit -> aa -> Prop}
  (e : T .normal ((yp l H3 m3 (aG .i64 (Int.ofNat i + 1))).aw Tryz.f10.ntmps)) :
  KD (roundOf Tryz.f10 0) T ((yp l H1 m1 (Int.ofNat i)).aw Tryz.f10.ntmps) := by
 obtain ⟨dn, ar, ⟨k, tn, ix, la⟩, con, fl⟩ := d
 have h3 : bj c c = true := dq c
 refine az [16, 31] [22, 28] (H := WX) (live := AX) (by kernel_rfl) ?_; refine ob h1 ?_; refine oo h2 ?_; refine oo h2 ?_; refine oh hd ?_; refine oh hr ?_; refine ox h3 ?_; exact oe e
theorem Ps {l : List aq} {H : Heap} {m : Nat} {T : Exit -> aa -> Prop} (e : T (.exit 0) ((Gp l H m (Int.ofNat l.length)).aw Tryz.f10.ntmps)) :
  KD (roundOf Tryz.f10 0) T ((yp l H m (Int.ofNat l.length)).aw Tryz.f10.ntmps) := by
 have h1 := bO (i := l.length) (L := l.length) (by omega)
 refine az [16] [] (H := WX) (live := AX) (by kernel_rfl) ?_; refine ob h1 ?_; exact oe e
theorem R6 {l bs es2 : List aq} {H : Heap} {m : Nat}
  (h1 : KC 44 [] [] 0 (XQ ⟨hP, hH 2 cY [], 3⟩)) (h2 : KC 45 [] (hH 2 cY []) 3 (XQ ⟨rP 3, hF 3 bs ++ hH 2 cY [], 4⟩))
  (hl : KD (.loop (roundOf Tryz.f10 0)) (fun e s => e = .exit 0 /\ s = (Gp l H m (Int.ofNat l.length)).aw Tryz.f10.ntmps) ((yp l (hF 3 bs ++ hH 2 cY []) 4 (Int.ofNat 0)).aw Tryz.f10.ntmps))
  (h3 : KC 19 [hP] H m (XQ ⟨.own es2, H, m⟩)) (h4 : KC 20 [rP 3] H m (XQ ⟨.own es2, H, m⟩)) (h5 : ae 18 [.dat (.slice es2), .dat (.slice es2)] (bv true)) :
  KC 10 [.dat (.slice l)] [] 0 (XQ ⟨.tup [hP, rP 3, bv true], H, m⟩) := by
 unfold hH at h1 h2 hl
 generalize bm cY ++ [] = cs at *
 generalize bu cY 0 = es at *
 generalize cY.length = n at *
 refine cV [] [] (x := kD.of Tryz.f10 GY AX) (by kernel_rfl) ?_; refine oh h1 ?_; refine oh h2 ?_; refine lo hl ?_; rintro ex s ⟨rfl, rfl⟩; refine ⟨_, rfl, ?_⟩; refine oh h3 ?_; refine oh h4 ?_; refine on h5 ?_; exact fi
/-- The declarations behind those of a list. -/
def eK (l : List bc) : List bc := l.foldl (fun ds d => (iR ds d).2) cY
theorem oP {l : List bc} {i : Nat} {d : bc} (h : l[i]? = some d) : eK (l.take (i + 1)) = (iR (eK (l.take i)) d).2 := by
 rw [ee h]
 unfold eK
 rw [List.foldl_append]
 rfl
theorem nP (ds : List bc) (d : bc) : (iR ds d).2 = ds ∨ ((iR ds d).2 = ds ++ [d] /\ d.wf = true) := by
 unfold iR
 cases hw : d.wf with
 | false => exact .inl rfl
 | true =>
  cases ba 6 d.ar with
  | true => exact .inl rfl
  | false =>
   cases ba 6 (Int.ofNat (aH d.fl).length) with
   | true => exact .inl rfl
   | false =>
    cases aW ds d.nm with
    | some o => dsimp only; cases o.eq d <;> exact .inl rfl
    | none =>
     cases ba (Int.ofNat ds.length) 60 with
     | false => exact .inl rfl
     | true =>
      cases cH ds d.sup with
      | false => exact .inl rfl
      | true =>
       cases d.fl.any (fun f => !cH (ds ++ [d]) f.ty) with
       | true => exact .inl rfl
       | false =>
        cases bj d.sup.kind 2 with
        | false => exact .inr ⟨rfl, rfl⟩
        | true =>
         dsimp only
         cases (oS (aW (ds ++ [d]) d.sup.nm)).con with
         | true => exact .inl rfl
         | false => exact .inr ⟨rfl, rfl⟩
/-- What holds of every hierarchy that Declare makes. -/
structure Q7 (ds : List bc) : Prop where
 cA : ∀ o ∈ ds, o.cA
 nm : ∀ o ∈ ds, isIdent o.nm = true
 ne : ds ≠ []
theorem Q7.none {ds : List bc} (h : Q7 ds) : aW ds [] = none := by
 cases hf : aW ds [] with
 | none => rfl
 | some o =>
  have hm := oN hf
  have hi := h.nm o hm
  have key : ∀ {l : List bc} {o : bc}, aW l [] = some o -> o.nm = [] := by
   intro l
   induction l with
   | nil => intro o h; simp [aW] at h
   | cons d r ih =>
    intro o h
    unfold aW at h
    split at h
    ·rename_i he
     simp at h; subst h
     exact (Bk he).symm
    exact ih h
  rw [key hf] at hi
  simp [isIdent] at hi
theorem Ju : Q7 cY where
 cA := by
  intro o ho
  simp only [cY, fQ, List.map_cons, List.map_nil, List.mem_cons, List.mem_nil_iff, or_false] at ho
  rcases ho with rfl | rfl | rfl | rfl <;> exact ⟨⟨by simp [xT, Ty.size, aR], by simp [xT, Ty.eI, di, bj]⟩, by simp [xT], by simp [xT]⟩
 nm := by
  intro o ho
  simp only [cY, fQ, List.map_cons, List.map_nil, List.mem_cons, List.mem_nil_iff, or_false] at ho
  rcases ho with rfl | rfl | rfl | rfl <;> decide
 ne := by simp [cY, fQ]
theorem Q7.step {ds : List bc} (h : Q7 ds) {d : bc} (hd : d.cA) : Q7 (iR ds d).2 := by
 rcases nP ds d with e | ⟨e, hw⟩
 ·rw [e]; exact h
 rw [e]
 refine ⟨?_, ?_, by simp⟩
 ·intro o ho
  rcases List.mem_append.1 ho with ho | ho
  ·exact h.cA o ho
  rw [List.mem_singleton.1 ho]; exact hd
 intro o ho
 rcases List.mem_append.1 ho with ho | ho
 ·exact h.nm o ho
 rw [List.mem_singleton.1 ho]
 unfold bc.wf at hw
 rw [Bool.and_eq_true] at hw
 exact hw.1
theorem ru : ∀ (i : Nat) (l : List bc), (eK (l.take i)).length <= 4 + i := by
 intro i l
 induction i with
 | zero => simp [eK, cY, fQ]
 | succ i ih =>
  cases hg : l[i]? with
  | none => rw [List.take_of_length_le (by have := List.getElem?_eq_none_iff.1 hg; omega)]; rw [List.take_of_length_le (by have := List.getElem?_eq_none_iff.1 hg; omega)] at ih; omega
  | some d =>
   rw [oP hg]
   rcases nP (eK (l.take i)) d with e | ⟨e, _⟩
   ·rw [e]; omega
   rw [e, List.length_append, List.length_singleton]; omega
theorem vx {l : List bc} (hl : ∀ d ∈ l, d.cA) : ∀ i : Nat, Q7 (eK (l.take i)) := by
 intro i
 induction i with
 | zero => exact Ju
 | succ i ih =>
  cases hg : l[i]? with
  | none => rw [List.take_of_length_le (by have := List.getElem?_eq_none_iff.1 hg; omega)]; rw [List.take_of_length_le (by have := List.getElem?_eq_none_iff.1 hg; omega)] at ih; exact ih
  | some d => rw [oP hg]; exact ih.step (hl d (List.mem_of_getElem? hg))
theorem Pr {l : List bc} (hl : ∀ d ∈ l, d.cA) (hn : l.length < 900) : ∃ tl : List aq,
  KD (.loop (roundOf Tryz.f10 0)) (fun e s => e = .exit 0 /\ s = (Gp (aJ l) (hF 3 (aJ (eK l)) ++ hH (Im l.length) (eK l) tl) (4 + l.length) (Int.ofNat (aJ l).length)).aw Tryz.f10.ntmps) ((yp (aJ l) (hF 3 (aJ cY) ++ hH 2 cY []) 4 (Int.ofNat 0)).aw Tryz.f10.ntmps) := by
 obtain ⟨f, f0, fI, fR⟩ := Ns (α := List aq) (n := l.length) (Inv := fun _ _ => True)
  (R := fun i a b => ∀ T : Exit -> aa -> Prop, T .normal ((yp (aJ l) (hF 3 (aJ (eK (l.take (i + 1)))) ++ hH (Im (i + 1)) (eK (l.take (i + 1))) b) (4 + (i + 1)) (Int.ofNat (i + 1))).aw Tryz.f10.ntmps) ->
   KD (roundOf Tryz.f10 0) T ((yp (aJ l) (hF 3 (aJ (eK (l.take i))) ++ hH (Im i) (eK (l.take i)) a) (4 + i) (Int.ofNat i)).aw Tryz.f10.ntmps))
  [] trivial (by
   intro i a hi _
   have hg : l[i]? = some l[i] := List.getElem?_eq_getElem hi
   have hm : l[i] ∈ l := List.getElem_mem hi
   generalize l[i] = d at hg hm
   have hlen := ru i l
   have hok := vx hl i
   obtain ⟨b, hc⟩ := sX (tl := a) (hl d hm) hok.cA (by omega)
   refine ⟨b, ?_, trivial⟩
   intro T hT
   have h1 := Ng (Im i) (4 + i) (hF 3 (aJ (eK (l.take i)))) [] hc
   simp only [List.append_nil] at h1
   have h2 := va 3 (4 + i + 1) [] (hH (4 + i) (iR (eK (l.take i)) d).2 b) (Il (hl d hm) hok.cA (by omega) hok.none) (args2 := [rP 3, .dat d.enc]) rfl rfl rfl
   simp only [List.nil_append] at h2
   refine My (fu (by rw [aX]; exact hi)) (xm hg) h1 h2 ?_
   rw [bi (by omega)]
   rw [oP hg] at hT
   rw [show Im (i + 1) = 4 + i by show i + 4 = 4 + i; omega] at hT
   exact hT)
 refine ⟨f l.length, ?_⟩
 have e0 : yp (aJ l) (hF 3 (aJ cY) ++ hH 2 cY []) 4 (Int.ofNat 0) = yp (aJ l) (hF 3 (aJ (eK (l.take 0))) ++ hH (Im 0) (eK (l.take 0)) (f 0)) (4 + 0) (Int.ofNat 0) := by rw [f0]; rfl
 rw [e0]
 refine bG (St := fun i => (yp (aJ l) (hF 3 (aJ (eK (l.take i))) ++ hH (Im i) (eK (l.take i)) (f i)) (4 + i) (Int.ofNat i)).aw Tryz.f10.ntmps) l.length ?_ ?_ (i := 0) (Nat.zero_le _)
 ·intro i hi
  exact fR i hi _ rfl
 have e1 := Ps (l := aJ l) (H := hF 3 (aJ (eK l)) ++ hH (Im l.length) (eK l) (f l.length)) (m := 4 + l.length) (T := qv (fun _ => False) (fun e s => e = .exit 0 /\ s = (Gp (aJ l) (hF 3 (aJ (eK l)) ++ hH (Im l.length) (eK l) (f l.length)) (4 + l.length) (Int.ofNat (aJ l).length)).aw Tryz.f10.ntmps)) ⟨rfl, rfl⟩
 rw [aX] at e1
 rw [List.take_length]
 rw [aX]
 exact e1
theorem Ky {args : List ac} {g : FuncId} {c : Bool} {bs cs : List aq} {es : List (Go.Value × aq)} {n k m : Nat} (h : KC g args [] 0 (XQ ⟨.tup [hP, rP 3, bv c], hF 3 bs ++ hG (Im k) (av cs) es n, m⟩)) :
  KC g args [] 0 (XQ ⟨.tup [hP, rP 3, bv c], hF 3 bs ++ hG 2 (av cs) es n, 4⟩) := by
 refine ay.rn h ?_
 rintro v hp m' ⟨rfl, rfl, rfl⟩
 have hr : ∃ r, r = Im k /\ Nat.beq r 0 = false /\ Nat.beq 0 r = false /\ Nat.beq r 1 = false /\ Nat.beq 1 r = false /\ Nat.beq r 3 = false /\ Nat.beq 3 r = false /\ Nat.beq r r = true /\ Nat.blt r 0 = false := by
  cases k with
  | zero => exact ⟨2, rfl, rfl, rfl, rfl, rfl, rfl, rfl, rfl, rfl⟩
  | succ k => exact ⟨k + 4, rfl, rfl, rfl, rfl, rfl, rfl, rfl, Nat.beq_refl _, rfl⟩
 obtain ⟨r, e, h1, h2, h3, h4, h5, h6, h7, h8⟩ := hr
 rw [← e]
 have g1 : Nat.blt 0 0 = false := rfl
 have g2 : Nat.blt 1 0 = false := rfl
 have g3 : Nat.blt 3 0 = false := rfl
 have g4 : Nat.beq 0 0 = true := rfl
 have g5 : Nat.beq 1 0 = false := rfl
 have g6 : Nat.beq 3 0 = false := rfl
 have g7 : Nat.beq 1 1 = true := rfl
 have g8 : Nat.beq 3 1 = false := rfl
 have g9 : Nat.beq 3 3 = true := rfl
 have ga : Nat.beq 0 1 = false := rfl
 have gb : Nat.beq 0 3 = false := rfl
 have gc : Nat.beq 1 3 = false := rfl
 have k0 : dB 0 [0, 1, r, 3] 0 = true := rfl
 have k1 : dB 0 [0, 1, r, 3] 1 = true := rfl
 have k3 : dB 0 [0, 1, r, 3] 3 = true := by simp only [dB, gF, h1, h2, h3, h4, h5, h6, h7, h8, g1, g2, g3, g4, g5, g6, g7, g8, g9, ga, gb, gc, Bool.false_or]
 have kr : dB 0 [0, 1, r, 3] r = true := by simp only [dB, gF, h1, h2, h3, h4, h5, h6, h7, h8, g1, g2, g3, g4, g5, g6, g7, g8, g9, ga, gb, gc, Bool.false_or]
 have q0 : jD 0 [0, 1, r, 3] 0 = 0 := rfl
 have q1 : jD 0 [0, 1, r, 3] 1 = 1 := rfl
 have q3 : jD 0 [0, 1, r, 3] 3 = 3 := by simp only [jD, gF, oY, h1, h2, h3, h4, h5, h6, h7, h8, g1, g2, g3, g4, g5, g6, g7, g8, g9, ga, gb, gc]
 have qr : jD 0 [0, 1, r, 3] r = 2 := by simp only [jD, gF, oY, h1, h2, h3, h4, h5, h6, h7, h8, g1, g2, g3, g4, g5, g6, g7, g8, g9, ga, gb, gc]
 have er : bY (dB 0 [0, 1, r, 3]) (hF 3 bs ++ hG r (av cs) es n) = hF 3 bs ++ hG r (av cs) es n := by
  simp only [hF, hG, List.cons_append, List.nil_append, bY, k0, k1, k3, kr]
 refine ⟨[0, 1, r, 3], ?_, ?_, ?_⟩
 ·simp only [AL, gW, hP, rP, bv, k1, k3, Bool.and_self]
 ·rw [er]
  simp only [hF, hG, List.cons_append, List.nil_append, GZ, JD, gW, AL, qH, k0, k1, k3, kr, Bool.and_self]
 rw [er]
 simp only [XQ, hF, hG, List.cons_append, List.nil_append, lF, oX, uZ, gv, eX, iT, q0, q1, q3, qr, hP, rP, bv]
 exact ⟨trivial, trivial, rfl⟩
theorem Hv {l : List bc} (hl : ∀ d ∈ l, d.cA) (hn : l.length < 900) : ∃ tl : List aq, KC 10 [.dat (.slice (aJ l))] [] 0 (XQ ⟨.tup [hP, rP 3, bv true], hF 3 (aJ (eK l)) ++ hH 2 (eK l) tl, 4⟩) := by
 obtain ⟨tl, hlp⟩ := Pr hl hn
 have hok := vx hl l.length
 have hlen := ru l.length l
 rw [List.take_length] at hok hlen
 have h3 := Bz (Im l.length) (4 + l.length) (hF 3 (aJ (eK l))) (ds := eK l) (tl := tl) hok.cA (by omega)
 have eo : yx (eK l) = .own (aJ (eK l)) := by
  have := hok.ne
  cases hd : eK l with
  | nil => rw [hd] at this; exact absurd rfl this
  | cons x r => rfl
 rw [eo] at h3
 have h4 := va 3 (4 + l.length) [] (hH (Im l.length) (eK l) tl) (GA (ds := eK l) (by omega)) (args2 := [rP 3]) rfl rfl rfl
 simp only [List.nil_append] at h4
 have h5 := ze (a := eK l) (b := eK l) hok.cA (by omega)
 rw [sQ] at h5
 exact ⟨tl, Ky (R6 Wc OF hlp h3 h4 h5)⟩
/-- A hierarchy under any names. -/
def hX (a b r : Nat) (cs : List aq) (es : List (Go.Value × aq)) (n : Nat) : Heap := [(.out r, .cells (av cs)), (.out b, .cells [.win (.out r) 8 0 n, .map (.out a)]), (.out a, .map es)]
def pX (b : Nat) : ac := .ptr (.out b) 0
def Wm : ac := .fn (.func 51) [] []
noncomputable def WY : Hints := ⟨au, CE, ax, rowsOf ax 63⟩
def Ka (H : Heap) (nx : Nat) (u v : ac) (n : Nat) (i : Int) : ab := ⟨[(17, iv i), (16, iv (Int.ofNat n)), (15, u), (1, v), (2, Wm)], [], H, nx⟩
def J8 (H : Heap) (nx : Nat) (u v : ac) (n : Nat) (i : Int) : ab := ⟨[(18, bv false), (17, iv i), (16, iv (Int.ofNat n)), (15, u), (1, v), (2, Wm)], [], H, nx⟩
def J9 (H : Heap) (nx : Nat) : ab := ⟨[(6, bv false)], [], H, nx⟩
theorem US {n : Nat} (r : Nat) (h : n < 1000) : kY (env ap.aK) 23 [.win (.out r) 8 0 n] none = some ⟨iv (Int.ofNat n), .keep⟩ := oF (by simp only [iV]; omega)
theorem I2 {ca cb : List aq} {ea eb : List (Go.Value × aq)} {na : Nat} {nb : Nat} {i : Nat} {t w : bc} {c : Bool} (hi : ba (Int.ofNat i) (Int.ofNat na) = true) (a1 : aC (env ap.aK) 23 [.win (.out 2) 8 0 na, iv (Int.ofNat i)] = some ⟨.ptr (.out 2) (0 + i * 8), .keep⟩) (a2 : dD (env ap.aK) false 35 [.ptr (.out 2) (0 + i * 8)] (some (.cells (av ca))) = some ⟨.dat t.enc, .keep⟩) (b1 : aC (env ap.aK) 23 [.win (.out 5) 8 0 nb, iv (Int.ofNat i)] = some ⟨.ptr (.out 5) (0 + i * 8), .keep⟩) (b2 : dD (env ap.aK) false 35 [.ptr (.out 5) (0 + i * 8)] (some (.cells (av cb))) = some ⟨.dat w.enc, .keep⟩) (hc : ae 51 [.dat t.enc, .dat w.enc] (bv c)) {T : Exit -> aa -> Prop}
  (e1 : c = true -> T .normal ((Ka (hX 0 1 2 ca ea na ++ hX 3 4 5 cb eb nb) 6 (.win (.out 2) 8 0 na) (.win (.out 5) 8 0 nb) na (aG .i64 (Int.ofNat i + 1))).aw Tryz.f63.ntmps)) (e2 : c = false -> T .ret ((J9 (hX 0 1 2 ca ea na ++ hX 3 4 5 cb eb nb) 6).aw Tryz.f63.ntmps)) :
  KD (roundOf Tryz.f63 0) T ((Ka (hX 0 1 2 ca ea na ++ hX 3 4 5 cb eb nb) 6 (.win (.out 2) 8 0 na) (.win (.out 5) 8 0 nb) na (Int.ofNat i)).aw Tryz.f63.ntmps) := by
 obtain ⟨nm, ar, ⟨k, tn, ix, la⟩, con, fl⟩ := t
 obtain ⟨nm2, ar2, ⟨k2, tn2, ix2, la2⟩, con2, fl2⟩ := w
 have q1 := cC 8 nm ar k tn ix (an la) con (aH fl)
 have q2 := br true 8 nm ar k tn ix (an la) con (aH fl)
 have q3 := br false 8 nm ar k tn ix (an la) con (aH fl)
 have p1 := cC 9 nm2 ar2 k2 tn2 ix2 (an la2) con2 (aH fl2)
 have p2 := br true 9 nm2 ar2 k2 tn2 ix2 (an la2) con2 (aH fl2)
 have p3 := br false 9 nm2 ar2 k2 tn2 ix2 (an la2) con2 (aH fl2)
 refine az [18] [20, 21, 100008, 24, 25, 100009, 27, 28] (H := WY) (live := xd) (by kernel_rfl) ?_; refine ob hi ?_; refine oo a1 ?_; refine oo a2 ?_; refine oo q1 ?_; refine oo b1 ?_; refine oo b2 ?_; refine oo p1 ?_; refine oo q2 ?_; refine oo p2 ?_; refine on hc ?_
 cases c
 ·exact oe (e2 rfl)
 exact oe (e1 rfl)
theorem MT {ca cb : List aq} {ea eb : List (Go.Value × aq)} {na : Nat} {nb : Nat} {T : Exit -> aa -> Prop} (e : T (.exit 0) ((J8 (hX 0 1 2 ca ea na ++ hX 3 4 5 cb eb nb) 6 (.win (.out 2) 8 0 na) (.win (.out 5) 8 0 nb) na (Int.ofNat na)).aw Tryz.f63.ntmps)) :
  KD (roundOf Tryz.f63 0) T ((Ka (hX 0 1 2 ca ea na ++ hX 3 4 5 cb eb nb) 6 (.win (.out 2) 8 0 na) (.win (.out 5) 8 0 nb) na (Int.ofNat na)).aw Tryz.f63.ntmps) := by
 have h1 := bO (i := na) (L := na) (by omega)
 refine az [18] [] (H := WY) (live := xd) (by kernel_rfl) ?_; refine ob h1 ?_; exact oe e
theorem PJ {ca cb : List aq} {ea eb : List (Go.Value × aq)} {na : Nat} {nb : Nat} {c d : Bool} (l1 : kY (env ap.aK) 23 [.win (.out 2) 8 0 na] none = some ⟨iv (Int.ofNat na), .keep⟩) (l2 : kY (env ap.aK) 23 [.win (.out 5) 8 0 nb] none = some ⟨iv (Int.ofNat nb), .keep⟩) (h1 : bj (Int.ofNat na) (Int.ofNat nb) = c)
  (hl : c = true -> KD (.loop (roundOf Tryz.f63 0)) (fun e s => (e = .exit 0 /\ d = true /\ s = (J8 (hX 0 1 2 ca ea na ++ hX 3 4 5 cb eb nb) 6 (.win (.out 2) 8 0 na) (.win (.out 5) 8 0 nb) na (Int.ofNat na)).aw Tryz.f63.ntmps) ∨ (e = .ret /\ d = false /\ s = (J9 (hX 0 1 2 ca ea na ++ hX 3 4 5 cb eb nb) 6).aw Tryz.f63.ntmps)) ((Ka (hX 0 1 2 ca ea na ++ hX 3 4 5 cb eb nb) 6 (.win (.out 2) 8 0 na) (.win (.out 5) 8 0 nb) na (Int.ofNat 0)).aw Tryz.f63.ntmps)) :
  KC 63 [.win (.out 2) 8 0 na, .win (.out 5) 8 0 nb, Wm] (hX 0 1 2 ca ea na ++ hX 3 4 5 cb eb nb) 6 (XQ ⟨bv (c && d), (hX 0 1 2 ca ea na ++ hX 3 4 5 cb eb nb), 6⟩) := by
 cases c with
 | false =>
  clear hl
  refine cV [14] [11, 13] (x := kD.of Tryz.f63 CE xd) (by kernel_rfl) ?_; refine oo l1 ?_; refine oo l2 ?_; refine ox h1 ?_; exact fi
 | true =>
  have hl2 := hl rfl
  clear hl
  refine cV [14] [11, 13, 16] (x := kD.of Tryz.f63 CE xd) (by kernel_rfl) ?_; refine oo l1 ?_; refine oo l2 ?_; refine ox h1 ?_; refine oo l1 ?_; refine lo hl2 ?_
  rintro ex s (⟨rfl, rfl, rfl⟩ | ⟨rfl, rfl, rfl⟩) <;>
  ·refine ⟨_, rfl, ?_⟩; exact fi
theorem Th {ca cb : List aq} {ea eb : List (Go.Value × aq)} {na : Nat} {nb : Nat} {c : Bool} (h : KC 63 [.win (.out 2) 8 0 na, .win (.out 5) 8 0 nb, Wm] (hX 0 1 2 ca ea na ++ hX 3 4 5 cb eb nb) 6 (XQ ⟨bv c, (hX 0 1 2 ca ea na ++ hX 3 4 5 cb eb nb), 6⟩)) :
  KC 27 [pX 1, pX 4] (hX 0 1 2 ca ea na ++ hX 3 4 5 cb eb nb) 6 (XQ ⟨bv c, (hX 0 1 2 ca ea na ++ hX 3 4 5 cb eb nb), 6⟩) := by
 refine cV [] [] (x := kD.of Tryz.f27 Lp Mn) (by kernel_rfl) ?_; refine oh h ?_; exact fi
theorem nS {a b : List bc} {tla : List aq} {tlb : List aq} (fa : ∀ o ∈ a, o.cA) (fb : ∀ o ∈ b, o.cA) (ha : a.length < 1000) (hb : b.length < 1000) :
  KC 27 [pX 1, pX 4] (hX 0 1 2 (bm a ++ tla) (bu a 0) a.length ++ hX 3 4 5 (bm b ++ tlb) (bu b 0) b.length) 6 (XQ ⟨bv (mO a b), (hX 0 1 2 (bm a ++ tla) (bu a 0) a.length ++ hX 3 4 5 (bm b ++ tlb) (bu b 0) b.length), 6⟩) := by
 refine Th ?_
 have hlen : ∀ {c : Bool}, bj (Int.ofNat (aJ a).length) (Int.ofNat (aJ b).length) = c -> c = true -> a.length = b.length := by
  rintro c h rfl
  rw [qa, aX, aX] at h
  simpa using h
 refine PJ (US 2 ha) (US 5 hb) (c := bj (Int.ofNat (aJ a).length) (Int.ofNat (aJ b).length)) (d := pb a b) (by simp only [aX]) ?_
 intro hc
 have hle := hlen rfl hc
 refine ct (St := fun i => (Ka (hX 0 1 2 (bm a ++ tla) (bu a 0) a.length ++ hX 3 4 5 (bm b ++ tlb) (bu b 0) b.length) 6 (.win (.out 2) 8 0 a.length) (.win (.out 5) 8 0 b.length) a.length (Int.ofNat i)).aw Tryz.f63.ntmps) (fun i => pb a b = pb (a.drop i) (b.drop i)) a.length ?_ ?_ (i := 0) (Nat.zero_le _) rfl
 ·intro i hi2 hI
  have hj2 : i < b.length := by omega
  have ht : a[i]? = some a[i] := List.getElem?_eq_getElem hi2
  have hu : b[i]? = some b[i] := List.getElem?_eq_getElem hj2
  have m1 : a[i] ∈ a := List.getElem_mem hi2
  have m2 : b[i] ∈ b := List.getElem_mem hj2
  generalize a[i] = t at ht m1
  generalize b[i] = w at hu m2
  have hd := zK ht hu
  rw [← hI] at hd
  have hw : aG .i64 (Int.ofNat i + 1) = Int.ofNat (i + 1) := bi (by omega)
  have h := ry (fa t m1) (fb w m2)
  have hlt : ba (Int.ofNat i) (Int.ofNat a.length) = true := by rw [fZ, decide_eq_true hi2]
  generalize t.eq w = c at h hd
  refine I2 hlt (mb hi2) (nt ht) (mb hj2) (nt hu) h ?_ ?_
  ·rintro rfl
   rw [hw]
   exact ⟨rfl, hd⟩
  rintro rfl
  exact .inr ⟨rfl, hd, rfl⟩
 intro hI
 have hdr : pb a b = true := by
  rw [hI, List.drop_length]
  cases b.drop a.length <;> rfl
 have e := MT (T := qv (fun _ => False) (fun e s => (e = .exit 0 /\ pb a b = true /\ s = (J8 (hX 0 1 2 (bm a ++ tla) (bu a 0) a.length ++ hX 3 4 5 (bm b ++ tlb) (bu b 0) b.length) 6 (.win (.out 2) 8 0 a.length) (.win (.out 5) 8 0 b.length) a.length (Int.ofNat a.length)).aw Tryz.f63.ntmps) ∨ (e = .ret /\ pb a b = false /\ s = (J9 (hX 0 1 2 (bm a ++ tla) (bu a 0) a.length ++ hX 3 4 5 (bm b ++ tlb) (bu b 0) b.length) 6).aw Tryz.f63.ntmps))) (.inl ⟨rfl, hdr, rfl⟩)
 exact e
def Ai : FuncId -> Bool := fun f => match Nat.beq f (1000000 + 19) with | true => true | false => ax f
def K6 : Nat -> aB := zq
noncomputable def Rj : FuncId -> Option kD := fun g => match Nat.beq g 19 with | true => some (kD.of Tryz.f19 K6 dJ) | false => none
theorem Og : TT Tryz.prog au Ai Rj := by
 intro f x h
 unfold Rj at h
 cases hb : Nat.beq f 19 with
 | false => rw [hb] at h; simp at h
 | true =>
  rw [hb] at h
  have hf : f = 19 := Nat.eq_of_beq_eq_true hb
  subst hf
  simp at h
  subst h
  exact ⟨_, Tryz.func19, by kernel_rfl, rfl, rfl, by kernel_rfl⟩
theorem Nu (ls bs : List Nat) {g : FuncId} {x : kD} (hx : Rj g = some x) {args : List ac} {heap : Heap} {next : Nat} {r : eu} (h : (GG (JH ls) (JH bs) (env ap.aK) cI au Ai x g args heap next).Ok Tryz.prog cI (fun y => y = r)) :
  KC g args heap next (XQ r) := to (Ct Dx Og hx (fun _ _ => h))
noncomputable def C8 : Hints := ⟨au, zq, Ai, rowsOf Ai 19⟩
def UC (i : Nat) (cs : List aq) : Heap := match i with | 0 => [] | i + 1 => [(.out (i + 3), .cells (av cs))]
def TV (i : Nat) : ac := match i with | 0 => .dat nl | i + 1 => .win (.out (i + 3)) 8 0 (i + 1)
def eS (cs : List aq) (es : List (Go.Value × aq)) (n : Nat) (k : Nat) (pre : List aq) (i : Int) : ab := ⟨[(11, iv i), (10, iv (Int.ofNat n)), (9, .win (.out 2) 8 0 n), (3, TV k)], [], UC k pre ++ hG 2 (av cs) es n, k + 3⟩
def QD (cs : List aq) (es : List (Go.Value × aq)) (n : Nat) (k : Nat) (pre : List aq) (i : Int) : ab := ⟨[(12, bv false), (11, iv i), (10, iv (Int.ofNat n)), (9, .win (.out 2) 8 0 n), (3, TV k)], [], UC k pre ++ hG 2 (av cs) es n, k + 3⟩
theorem Ji {cs : List aq} {es : List (Go.Value × aq)} {n : Nat} {t : bc} (h1 : ba (Int.ofNat 0) (Int.ofNat n) = true) (h2 : aC (env ap.aK) 23 [.win (.out 2) 8 0 n, iv (Int.ofNat 0)] = some ⟨.ptr (.out 2) (0 + 0 * 8), .keep⟩)
  (h3 : dD (env ap.aK) false 35 [.ptr (.out 2) (0 + 0 * 8)] (some (.cells (av cs))) = some ⟨.dat t.enc, .keep⟩) (hc : ae 53 [.dat t.enc] (.dat t.enc)) {T : Exit -> aa -> Prop}
  (e : T .normal ((eS cs es n 1 t.cells (Int.ofNat 1)).aw Tryz.f19.ntmps)) :
  KD (roundOf Tryz.f19 0) T ((eS cs es n 0 [] (Int.ofNat 0)).aw Tryz.f19.ntmps) := by
 obtain ⟨nm, ar, ⟨sk, tn, ix, la⟩, con, fl⟩ := t
 have q1 := cC 5 nm ar sk tn ix (an la) con (aH fl)
 have q2 := br true 5 nm ar sk tn ix (an la) con (aH fl)
 have q3 := br false 5 nm ar sk tn ix (an la) con (aH fl)
 refine az [12] [13, 14, 100005, 16] (H := C8) (live := dJ) (by kernel_rfl) ?_; refine ob h1 ?_; refine oo h2 ?_; refine oo h3 ?_; refine oo q1 ?_; refine oo q2 ?_; refine on hc ?_; exact oe e
theorem Jh {cs : List aq} {es : List (Go.Value × aq)} {n : Nat} {pre pre2 : List aq} {t : bc} (h1 : ba (Int.ofNat 1) (Int.ofNat n) = true) (h2 : aC (env ap.aK) 23 [.win (.out 2) 8 0 n, iv (Int.ofNat 1)] = some ⟨.ptr (.out 2) (0 + 1 * 8), .keep⟩)
  (h3 : dD (env ap.aK) false 35 [.ptr (.out 2) (0 + 1 * 8)] (some (.cells (av cs))) = some ⟨.dat t.enc, .keep⟩) (hc : ae 53 [.dat t.enc] (.dat t.enc))
  (h4 : bq (env ap.aK) true 23 [.win (.out (1 + 2)) 8 0 1, .dat (.slice [t.enc])] (some (.cells (av pre))) = some ⟨.undef, .grow (.cells (av pre2)) 8 (1 + 1)⟩) (hn : bL (.cells (av pre2)) = true) {T : Exit -> aa -> Prop}
  (e : T .normal ((eS cs es n (1 + 1) pre2 (Int.ofNat (1 + 1))).aw Tryz.f19.ntmps)) :
  KD (roundOf Tryz.f19 0) T ((eS cs es n 1 pre (Int.ofNat 1)).aw Tryz.f19.ntmps) := by
 obtain ⟨nm, ar, ⟨sk, tn, ix, la⟩, con, fl⟩ := t
 have q1 := cC 5 nm ar sk tn ix (an la) con (aH fl)
 have q2 := br true 5 nm ar sk tn ix (an la) con (aH fl)
 have q3 := br false 5 nm ar sk tn ix (an la) con (aH fl)
 refine az [12, 500019] [13, 14, 100005, 16, 19] (H := C8) (live := dJ) (by kernel_rfl) ?_; refine ob h1 ?_; refine oo h2 ?_; refine oo h3 ?_; refine oo q1 ?_; refine oo q2 ?_; refine on hc ?_; refine oo h4 ?_; refine ob hn ?_; exact oe e
theorem Jg {cs : List aq} {es : List (Go.Value × aq)} {n : Nat} {pre pre2 : List aq} {t : bc} (h1 : ba (Int.ofNat 2) (Int.ofNat n) = true) (h2 : aC (env ap.aK) 23 [.win (.out 2) 8 0 n, iv (Int.ofNat 2)] = some ⟨.ptr (.out 2) (0 + 2 * 8), .keep⟩)
  (h3 : dD (env ap.aK) false 35 [.ptr (.out 2) (0 + 2 * 8)] (some (.cells (av cs))) = some ⟨.dat t.enc, .keep⟩) (hc : ae 53 [.dat t.enc] (.dat t.enc))
  (h4 : bq (env ap.aK) true 23 [.win (.out (2 + 2)) 8 0 2, .dat (.slice [t.enc])] (some (.cells (av pre))) = some ⟨.undef, .grow (.cells (av pre2)) 8 (2 + 1)⟩) (hn : bL (.cells (av pre2)) = true) {T : Exit -> aa -> Prop}
  (e : T .normal ((eS cs es n (2 + 1) pre2 (Int.ofNat (2 + 1))).aw Tryz.f19.ntmps)) :
  KD (roundOf Tryz.f19 0) T ((eS cs es n 2 pre (Int.ofNat 2)).aw Tryz.f19.ntmps) := by
 obtain ⟨nm, ar, ⟨sk, tn, ix, la⟩, con, fl⟩ := t
 have q1 := cC 5 nm ar sk tn ix (an la) con (aH fl)
 have q2 := br true 5 nm ar sk tn ix (an la) con (aH fl)
 have q3 := br false 5 nm ar sk tn ix (an la) con (aH fl)
 refine az [12, 500019] [13, 14, 100005, 16, 19] (H := C8) (live := dJ) (by kernel_rfl) ?_; refine ob h1 ?_; refine oo h2 ?_; refine oo h3 ?_; refine oo q1 ?_; refine oo q2 ?_; refine on hc ?_; refine oo h4 ?_; refine ob hn ?_; exact oe e
theorem Jf {cs : List aq} {es : List (Go.Value × aq)} {n : Nat} {pre pre2 : List aq} {t : bc} (h1 : ba (Int.ofNat 3) (Int.ofNat n) = true) (h2 : aC (env ap.aK) 23 [.win (.out 2) 8 0 n, iv (Int.ofNat 3)] = some ⟨.ptr (.out 2) (0 + 3 * 8), .keep⟩)
  (h3 : dD (env ap.aK) false 35 [.ptr (.out 2) (0 + 3 * 8)] (some (.cells (av cs))) = some ⟨.dat t.enc, .keep⟩) (hc : ae 53 [.dat t.enc] (.dat t.enc))
  (h4 : bq (env ap.aK) true 23 [.win (.out (3 + 2)) 8 0 3, .dat (.slice [t.enc])] (some (.cells (av pre))) = some ⟨.undef, .grow (.cells (av pre2)) 8 (3 + 1)⟩) (hn : bL (.cells (av pre2)) = true) {T : Exit -> aa -> Prop}
  (e : T .normal ((eS cs es n (3 + 1) pre2 (Int.ofNat (3 + 1))).aw Tryz.f19.ntmps)) :
  KD (roundOf Tryz.f19 0) T ((eS cs es n 3 pre (Int.ofNat 3)).aw Tryz.f19.ntmps) := by
 obtain ⟨nm, ar, ⟨sk, tn, ix, la⟩, con, fl⟩ := t
 have q1 := cC 5 nm ar sk tn ix (an la) con (aH fl)
 have q2 := br true 5 nm ar sk tn ix (an la) con (aH fl)
 have q3 := br false 5 nm ar sk tn ix (an la) con (aH fl)
 refine az [12, 500019] [13, 14, 100005, 16, 19] (H := C8) (live := dJ) (by kernel_rfl) ?_; refine ob h1 ?_; refine oo h2 ?_; refine oo h3 ?_; refine oo q1 ?_; refine oo q2 ?_; refine on hc ?_; refine oo h4 ?_; refine ob hn ?_; exact oe e
theorem Je {cs : List aq} {es : List (Go.Value × aq)} {n : Nat} {pre pre2 : List aq} {t : bc} (h1 : ba (Int.ofNat 4) (Int.ofNat n) = true) (h2 : aC (env ap.aK) 23 [.win (.out 2) 8 0 n, iv (Int.ofNat 4)] = some ⟨.ptr (.out 2) (0 + 4 * 8), .keep⟩)
  (h3 : dD (env ap.aK) false 35 [.ptr (.out 2) (0 + 4 * 8)] (some (.cells (av cs))) = some ⟨.dat t.enc, .keep⟩) (hc : ae 53 [.dat t.enc] (.dat t.enc))
  (h4 : bq (env ap.aK) true 23 [.win (.out (4 + 2)) 8 0 4, .dat (.slice [t.enc])] (some (.cells (av pre))) = some ⟨.undef, .grow (.cells (av pre2)) 8 (4 + 1)⟩) (hn : bL (.cells (av pre2)) = true) {T : Exit -> aa -> Prop}
  (e : T .normal ((eS cs es n (4 + 1) pre2 (Int.ofNat (4 + 1))).aw Tryz.f19.ntmps)) :
  KD (roundOf Tryz.f19 0) T ((eS cs es n 4 pre (Int.ofNat 4)).aw Tryz.f19.ntmps) := by
 obtain ⟨nm, ar, ⟨sk, tn, ix, la⟩, con, fl⟩ := t
 have q1 := cC 5 nm ar sk tn ix (an la) con (aH fl)
 have q2 := br true 5 nm ar sk tn ix (an la) con (aH fl)
 have q3 := br false 5 nm ar sk tn ix (an la) con (aH fl)
 refine az [12, 500019] [13, 14, 100005, 16, 19] (H := C8) (live := dJ) (by kernel_rfl) ?_; refine ob h1 ?_; refine oo h2 ?_; refine oo h3 ?_; refine oo q1 ?_; refine oo q2 ?_; refine on hc ?_; refine oo h4 ?_; refine ob hn ?_; exact oe e
theorem Jd {cs : List aq} {es : List (Go.Value × aq)} {n : Nat} {pre pre2 : List aq} {t : bc} (h1 : ba (Int.ofNat 5) (Int.ofNat n) = true) (h2 : aC (env ap.aK) 23 [.win (.out 2) 8 0 n, iv (Int.ofNat 5)] = some ⟨.ptr (.out 2) (0 + 5 * 8), .keep⟩)
  (h3 : dD (env ap.aK) false 35 [.ptr (.out 2) (0 + 5 * 8)] (some (.cells (av cs))) = some ⟨.dat t.enc, .keep⟩) (hc : ae 53 [.dat t.enc] (.dat t.enc))
  (h4 : bq (env ap.aK) true 23 [.win (.out (5 + 2)) 8 0 5, .dat (.slice [t.enc])] (some (.cells (av pre))) = some ⟨.undef, .grow (.cells (av pre2)) 8 (5 + 1)⟩) (hn : bL (.cells (av pre2)) = true) {T : Exit -> aa -> Prop}
  (e : T .normal ((eS cs es n (5 + 1) pre2 (Int.ofNat (5 + 1))).aw Tryz.f19.ntmps)) :
  KD (roundOf Tryz.f19 0) T ((eS cs es n 5 pre (Int.ofNat 5)).aw Tryz.f19.ntmps) := by
 obtain ⟨nm, ar, ⟨sk, tn, ix, la⟩, con, fl⟩ := t
 have q1 := cC 5 nm ar sk tn ix (an la) con (aH fl)
 have q2 := br true 5 nm ar sk tn ix (an la) con (aH fl)
 have q3 := br false 5 nm ar sk tn ix (an la) con (aH fl)
 refine az [12, 500019] [13, 14, 100005, 16, 19] (H := C8) (live := dJ) (by kernel_rfl) ?_; refine ob h1 ?_; refine oo h2 ?_; refine oo h3 ?_; refine oo q1 ?_; refine oo q2 ?_; refine on hc ?_; refine oo h4 ?_; refine ob hn ?_; exact oe e
theorem Jc {cs : List aq} {es : List (Go.Value × aq)} {n : Nat} {pre pre2 : List aq} {t : bc} (h1 : ba (Int.ofNat 6) (Int.ofNat n) = true) (h2 : aC (env ap.aK) 23 [.win (.out 2) 8 0 n, iv (Int.ofNat 6)] = some ⟨.ptr (.out 2) (0 + 6 * 8), .keep⟩)
  (h3 : dD (env ap.aK) false 35 [.ptr (.out 2) (0 + 6 * 8)] (some (.cells (av cs))) = some ⟨.dat t.enc, .keep⟩) (hc : ae 53 [.dat t.enc] (.dat t.enc))
  (h4 : bq (env ap.aK) true 23 [.win (.out (6 + 2)) 8 0 6, .dat (.slice [t.enc])] (some (.cells (av pre))) = some ⟨.undef, .grow (.cells (av pre2)) 8 (6 + 1)⟩) (hn : bL (.cells (av pre2)) = true) {T : Exit -> aa -> Prop}
  (e : T .normal ((eS cs es n (6 + 1) pre2 (Int.ofNat (6 + 1))).aw Tryz.f19.ntmps)) :
  KD (roundOf Tryz.f19 0) T ((eS cs es n 6 pre (Int.ofNat 6)).aw Tryz.f19.ntmps) := by
 obtain ⟨nm, ar, ⟨sk, tn, ix, la⟩, con, fl⟩ := t
 have q1 := cC 5 nm ar sk tn ix (an la) con (aH fl)
 have q2 := br true 5 nm ar sk tn ix (an la) con (aH fl)
 have q3 := br false 5 nm ar sk tn ix (an la) con (aH fl)
 refine az [12, 500019] [13, 14, 100005, 16, 19] (H := C8) (live := dJ) (by kernel_rfl) ?_; refine ob h1 ?_; refine oo h2 ?_; refine oo h3 ?_; refine oo q1 ?_; refine oo q2 ?_; refine on hc ?_; refine oo h4 ?_; refine ob hn ?_; exact oe e
theorem Jb {cs : List aq} {es : List (Go.Value × aq)} {n : Nat} {pre pre2 : List aq} {t : bc} (h1 : ba (Int.ofNat 7) (Int.ofNat n) = true) (h2 : aC (env ap.aK) 23 [.win (.out 2) 8 0 n, iv (Int.ofNat 7)] = some ⟨.ptr (.out 2) (0 + 7 * 8), .keep⟩)
  (h3 : dD (env ap.aK) false 35 [.ptr (.out 2) (0 + 7 * 8)] (some (.cells (av cs))) = some ⟨.dat t.enc, .keep⟩) (hc : ae 53 [.dat t.enc] (.dat t.enc))
  (h4 : bq (env ap.aK) true 23 [.win (.out (7 + 2)) 8 0 7, .dat (.slice [t.enc])] (some (.cells (av pre))) = some ⟨.undef, .grow (.cells (av pre2)) 8 (7 + 1)⟩) (hn : bL (.cells (av pre2)) = true) {T : Exit -> aa -> Prop}
  (e : T .normal ((eS cs es n (7 + 1) pre2 (Int.ofNat (7 + 1))).aw Tryz.f19.ntmps)) :
  KD (roundOf Tryz.f19 0) T ((eS cs es n 7 pre (Int.ofNat 7)).aw Tryz.f19.ntmps) := by
 obtain ⟨nm, ar, ⟨sk, tn, ix, la⟩, con, fl⟩ := t
 have q1 := cC 5 nm ar sk tn ix (an la) con (aH fl)
 have q2 := br true 5 nm ar sk tn ix (an la) con (aH fl)
 have q3 := br false 5 nm ar sk tn ix (an la) con (aH fl)
 refine az [12, 500019] [13, 14, 100005, 16, 19] (H := C8) (live := dJ) (by kernel_rfl) ?_; refine ob h1 ?_; refine oo h2 ?_; refine oo h3 ?_; refine oo q1 ?_; refine oo q2 ?_; refine on hc ?_; refine oo h4 ?_; refine ob hn ?_; exact oe e
theorem Ja {cs : List aq} {es : List (Go.Value × aq)} {n : Nat} {pre pre2 : List aq} {t : bc} (h1 : ba (Int.ofNat 8) (Int.ofNat n) = true) (h2 : aC (env ap.aK) 23 [.win (.out 2) 8 0 n, iv (Int.ofNat 8)] = some ⟨.ptr (.out 2) (0 + 8 * 8), .keep⟩)
  (h3 : dD (env ap.aK) false 35 [.ptr (.out 2) (0 + 8 * 8)] (some (.cells (av cs))) = some ⟨.dat t.enc, .keep⟩) (hc : ae 53 [.dat t.enc] (.dat t.enc))
  (h4 : bq (env ap.aK) true 23 [.win (.out (8 + 2)) 8 0 8, .dat (.slice [t.enc])] (some (.cells (av pre))) = some ⟨.undef, .grow (.cells (av pre2)) 8 (8 + 1)⟩) (hn : bL (.cells (av pre2)) = true) {T : Exit -> aa -> Prop}
  (e : T .normal ((eS cs es n (8 + 1) pre2 (Int.ofNat (8 + 1))).aw Tryz.f19.ntmps)) :
  KD (roundOf Tryz.f19 0) T ((eS cs es n 8 pre (Int.ofNat 8)).aw Tryz.f19.ntmps) := by
 obtain ⟨nm, ar, ⟨sk, tn, ix, la⟩, con, fl⟩ := t
 have q1 := cC 5 nm ar sk tn ix (an la) con (aH fl)
 have q2 := br true 5 nm ar sk tn ix (an la) con (aH fl)
 have q3 := br false 5 nm ar sk tn ix (an la) con (aH fl)
 refine az [12, 500019] [13, 14, 100005, 16, 19] (H := C8) (live := dJ) (by kernel_rfl) ?_; refine ob h1 ?_; refine oo h2 ?_; refine oo h3 ?_; refine oo q1 ?_; refine oo q2 ?_; refine on hc ?_; refine oo h4 ?_; refine ob hn ?_; exact oe e
theorem I9 {cs : List aq} {es : List (Go.Value × aq)} {n : Nat} {pre pre2 : List aq} {t : bc} (h1 : ba (Int.ofNat 9) (Int.ofNat n) = true) (h2 : aC (env ap.aK) 23 [.win (.out 2) 8 0 n, iv (Int.ofNat 9)] = some ⟨.ptr (.out 2) (0 + 9 * 8), .keep⟩)
  (h3 : dD (env ap.aK) false 35 [.ptr (.out 2) (0 + 9 * 8)] (some (.cells (av cs))) = some ⟨.dat t.enc, .keep⟩) (hc : ae 53 [.dat t.enc] (.dat t.enc))
  (h4 : bq (env ap.aK) true 23 [.win (.out (9 + 2)) 8 0 9, .dat (.slice [t.enc])] (some (.cells (av pre))) = some ⟨.undef, .grow (.cells (av pre2)) 8 (9 + 1)⟩) (hn : bL (.cells (av pre2)) = true) {T : Exit -> aa -> Prop}
  (e : T .normal ((eS cs es n (9 + 1) pre2 (Int.ofNat (9 + 1))).aw Tryz.f19.ntmps)) :
  KD (roundOf Tryz.f19 0) T ((eS cs es n 9 pre (Int.ofNat 9)).aw Tryz.f19.ntmps) := by
 obtain ⟨nm, ar, ⟨sk, tn, ix, la⟩, con, fl⟩ := t
 have q1 := cC 5 nm ar sk tn ix (an la) con (aH fl)
 have q2 := br true 5 nm ar sk tn ix (an la) con (aH fl)
 have q3 := br false 5 nm ar sk tn ix (an la) con (aH fl)
 refine az [12, 500019] [13, 14, 100005, 16, 19] (H := C8) (live := dJ) (by kernel_rfl) ?_; refine ob h1 ?_; refine oo h2 ?_; refine oo h3 ?_; refine oo q1 ?_; refine oo q2 ?_; refine on hc ?_; refine oo h4 ?_; refine ob hn ?_; exact oe e
theorem FT {cs : List aq} {es : List (Go.Value × aq)} {n : Nat} {pre pre2 : List aq} {t : bc} (h1 : ba (Int.ofNat 10) (Int.ofNat n) = true) (h2 : aC (env ap.aK) 23 [.win (.out 2) 8 0 n, iv (Int.ofNat 10)] = some ⟨.ptr (.out 2) (0 + 10 * 8), .keep⟩)
  (h3 : dD (env ap.aK) false 35 [.ptr (.out 2) (0 + 10 * 8)] (some (.cells (av cs))) = some ⟨.dat t.enc, .keep⟩) (hc : ae 53 [.dat t.enc] (.dat t.enc))
  (h4 : bq (env ap.aK) true 23 [.win (.out (10 + 2)) 8 0 10, .dat (.slice [t.enc])] (some (.cells (av pre))) = some ⟨.undef, .grow (.cells (av pre2)) 8 (10 + 1)⟩) (hn : bL (.cells (av pre2)) = true) {T : Exit -> aa -> Prop}
  (e : T .normal ((eS cs es n (10 + 1) pre2 (Int.ofNat (10 + 1))).aw Tryz.f19.ntmps)) :
  KD (roundOf Tryz.f19 0) T ((eS cs es n 10 pre (Int.ofNat 10)).aw Tryz.f19.ntmps) := by
 obtain ⟨nm, ar, ⟨sk, tn, ix, la⟩, con, fl⟩ := t
 have q1 := cC 5 nm ar sk tn ix (an la) con (aH fl)
 have q2 := br true 5 nm ar sk tn ix (an la) con (aH fl)
 have q3 := br false 5 nm ar sk tn ix (an la) con (aH fl)
 refine az [12, 500019] [13, 14, 100005, 16, 19] (H := C8) (live := dJ) (by kernel_rfl) ?_; refine ob h1 ?_; refine oo h2 ?_; refine oo h3 ?_; refine oo q1 ?_; refine oo q2 ?_; refine on hc ?_; refine oo h4 ?_; refine ob hn ?_; exact oe e
theorem FR {cs : List aq} {es : List (Go.Value × aq)} {n : Nat} {pre pre2 : List aq} {t : bc} (h1 : ba (Int.ofNat 11) (Int.ofNat n) = true) (h2 : aC (env ap.aK) 23 [.win (.out 2) 8 0 n, iv (Int.ofNat 11)] = some ⟨.ptr (.out 2) (0 + 11 * 8), .keep⟩)
  (h3 : dD (env ap.aK) false 35 [.ptr (.out 2) (0 + 11 * 8)] (some (.cells (av cs))) = some ⟨.dat t.enc, .keep⟩) (hc : ae 53 [.dat t.enc] (.dat t.enc))
  (h4 : bq (env ap.aK) true 23 [.win (.out (11 + 2)) 8 0 11, .dat (.slice [t.enc])] (some (.cells (av pre))) = some ⟨.undef, .grow (.cells (av pre2)) 8 (11 + 1)⟩) (hn : bL (.cells (av pre2)) = true) {T : Exit -> aa -> Prop}
  (e : T .normal ((eS cs es n (11 + 1) pre2 (Int.ofNat (11 + 1))).aw Tryz.f19.ntmps)) :
  KD (roundOf Tryz.f19 0) T ((eS cs es n 11 pre (Int.ofNat 11)).aw Tryz.f19.ntmps) := by
 obtain ⟨nm, ar, ⟨sk, tn, ix, la⟩, con, fl⟩ := t
 have q1 := cC 5 nm ar sk tn ix (an la) con (aH fl)
 have q2 := br true 5 nm ar sk tn ix (an la) con (aH fl)
 have q3 := br false 5 nm ar sk tn ix (an la) con (aH fl)
 refine az [12, 500019] [13, 14, 100005, 16, 19] (H := C8) (live := dJ) (by kernel_rfl) ?_; refine ob h1 ?_; refine oo h2 ?_; refine oo h3 ?_; refine oo q1 ?_; refine oo q2 ?_; refine on hc ?_; refine oo h4 ?_; refine ob hn ?_; exact oe e
theorem FQ {cs : List aq} {es : List (Go.Value × aq)} {n : Nat} {pre pre2 : List aq} {t : bc} (h1 : ba (Int.ofNat 12) (Int.ofNat n) = true) (h2 : aC (env ap.aK) 23 [.win (.out 2) 8 0 n, iv (Int.ofNat 12)] = some ⟨.ptr (.out 2) (0 + 12 * 8), .keep⟩)
  (h3 : dD (env ap.aK) false 35 [.ptr (.out 2) (0 + 12 * 8)] (some (.cells (av cs))) = some ⟨.dat t.enc, .keep⟩) (hc : ae 53 [.dat t.enc] (.dat t.enc))
  (h4 : bq (env ap.aK) true 23 [.win (.out (12 + 2)) 8 0 12, .dat (.slice [t.enc])] (some (.cells (av pre))) = some ⟨.undef, .grow (.cells (av pre2)) 8 (12 + 1)⟩) (hn : bL (.cells (av pre2)) = true) {T : Exit -> aa -> Prop}
  (e : T .normal ((eS cs es n (12 + 1) pre2 (Int.ofNat (12 + 1))).aw Tryz.f19.ntmps)) :
  KD (roundOf Tryz.f19 0) T ((eS cs es n 12 pre (Int.ofNat 12)).aw Tryz.f19.ntmps) := by
 obtain ⟨nm, ar, ⟨sk, tn, ix, la⟩, con, fl⟩ := t
 have q1 := cC 5 nm ar sk tn ix (an la) con (aH fl)
 have q2 := br true 5 nm ar sk tn ix (an la) con (aH fl)
 have q3 := br false 5 nm ar sk tn ix (an la) con (aH fl)
 refine az [12, 500019] [13, 14, 100005, 16, 19] (H := C8) (live := dJ) (by kernel_rfl) ?_; refine ob h1 ?_; refine oo h2 ?_; refine oo h3 ?_; refine oo q1 ?_; refine oo q2 ?_; refine on hc ?_; refine oo h4 ?_; refine ob hn ?_; exact oe e
theorem FP {cs : List aq} {es : List (Go.Value × aq)} {n : Nat} {pre pre2 : List aq} {t : bc} (h1 : ba (Int.ofNat 13) (Int.ofNat n) = true) (h2 : aC (env ap.aK) 23 [.win (.out 2) 8 0 n, iv (Int.ofNat 13)] = some ⟨.ptr (.out 2) (0 + 13 * 8), .keep⟩)
  (h3 : dD (env ap.aK) false 35 [.ptr (.out 2) (0 + 13 * 8)] (some (.cells (av cs))) = some ⟨.dat t.enc, .keep⟩) (hc : ae 53 [.dat t.enc] (.dat t.enc))
  (h4 : bq (env ap.aK) true 23 [.win (.out (13 + 2)) 8 0 13, .dat (.slice [t.enc])] (some (.cells (av pre))) = some ⟨.undef, .grow (.cells (av pre2)) 8 (13 + 1)⟩) (hn : bL (.cells (av pre2)) = true) {T : Exit -> aa -> Prop}
  (e : T .normal ((eS cs es n (13 + 1) pre2 (Int.ofNat (13 + 1))).aw Tryz.f19.ntmps)) :
  KD (roundOf Tryz.f19 0) T ((eS cs es n 13 pre (Int.ofNat 13)).aw Tryz.f19.ntmps) := by
 obtain ⟨nm, ar, ⟨sk, tn, ix, la⟩, con, fl⟩ := t
 have q1 := cC 5 nm ar sk tn ix (an la) con (aH fl)
 have q2 := br true 5 nm ar sk tn ix (an la) con (aH fl)
 have q3 := br false 5 nm ar sk tn ix (an la) con (aH fl)
 refine az [12, 500019] [13, 14, 100005, 16, 19] (H := C8) (live := dJ) (by kernel_rfl) ?_; refine ob h1 ?_; refine oo h2 ?_; refine oo h3 ?_; refine oo q1 ?_; refine oo q2 ?_; refine on hc ?_; refine oo h4 ?_; refine ob hn ?_; exact oe e
theorem FO {cs : List aq} {es : List (Go.Value × aq)} {n : Nat} {pre pre2 : List aq} {t : bc} (h1 : ba (Int.ofNat 14) (Int.ofNat n) = true) (h2 : aC (env ap.aK) 23 [.win (.out 2) 8 0 n, iv (Int.ofNat 14)] = some ⟨.ptr (.out 2) (0 + 14 * 8), .keep⟩)
  (h3 : dD (env ap.aK) false 35 [.ptr (.out 2) (0 + 14 * 8)] (some (.cells (av cs))) = some ⟨.dat t.enc, .keep⟩) (hc : ae 53 [.dat t.enc] (.dat t.enc))
  (h4 : bq (env ap.aK) true 23 [.win (.out (14 + 2)) 8 0 14, .dat (.slice [t.enc])] (some (.cells (av pre))) = some ⟨.undef, .grow (.cells (av pre2)) 8 (14 + 1)⟩) (hn : bL (.cells (av pre2)) = true) {T : Exit -> aa -> Prop}
  (e : T .normal ((eS cs es n (14 + 1) pre2 (Int.ofNat (14 + 1))).aw Tryz.f19.ntmps)) :
  KD (roundOf Tryz.f19 0) T ((eS cs es n 14 pre (Int.ofNat 14)).aw Tryz.f19.ntmps) := by
 obtain ⟨nm, ar, ⟨sk, tn, ix, la⟩, con, fl⟩ := t
 have q1 := cC 5 nm ar sk tn ix (an la) con (aH fl)
 have q2 := br true 5 nm ar sk tn ix (an la) con (aH fl)
 have q3 := br false 5 nm ar sk tn ix (an la) con (aH fl)
 refine az [12, 500019] [13, 14, 100005, 16, 19] (H := C8) (live := dJ) (by kernel_rfl) ?_; refine ob h1 ?_; refine oo h2 ?_; refine oo h3 ?_; refine oo q1 ?_; refine oo q2 ?_; refine on hc ?_; refine oo h4 ?_; refine ob hn ?_; exact oe e
theorem FN {cs : List aq} {es : List (Go.Value × aq)} {n : Nat} {pre pre2 : List aq} {t : bc} (h1 : ba (Int.ofNat 15) (Int.ofNat n) = true) (h2 : aC (env ap.aK) 23 [.win (.out 2) 8 0 n, iv (Int.ofNat 15)] = some ⟨.ptr (.out 2) (0 + 15 * 8), .keep⟩)
  (h3 : dD (env ap.aK) false 35 [.ptr (.out 2) (0 + 15 * 8)] (some (.cells (av cs))) = some ⟨.dat t.enc, .keep⟩) (hc : ae 53 [.dat t.enc] (.dat t.enc))
  (h4 : bq (env ap.aK) true 23 [.win (.out (15 + 2)) 8 0 15, .dat (.slice [t.enc])] (some (.cells (av pre))) = some ⟨.undef, .grow (.cells (av pre2)) 8 (15 + 1)⟩) (hn : bL (.cells (av pre2)) = true) {T : Exit -> aa -> Prop}
  (e : T .normal ((eS cs es n (15 + 1) pre2 (Int.ofNat (15 + 1))).aw Tryz.f19.ntmps)) :
  KD (roundOf Tryz.f19 0) T ((eS cs es n 15 pre (Int.ofNat 15)).aw Tryz.f19.ntmps) := by
 obtain ⟨nm, ar, ⟨sk, tn, ix, la⟩, con, fl⟩ := t
 have q1 := cC 5 nm ar sk tn ix (an la) con (aH fl)
 have q2 := br true 5 nm ar sk tn ix (an la) con (aH fl)
 have q3 := br false 5 nm ar sk tn ix (an la) con (aH fl)
 refine az [12, 500019] [13, 14, 100005, 16, 19] (H := C8) (live := dJ) (by kernel_rfl) ?_; refine ob h1 ?_; refine oo h2 ?_; refine oo h3 ?_; refine oo q1 ?_; refine oo q2 ?_; refine on hc ?_; refine oo h4 ?_; refine ob hn ?_; exact oe e
theorem PQ {cs : List aq} {es : List (Go.Value × aq)} {n k : Nat} {pre : List aq} {T : Exit -> aa -> Prop} (e : T (.exit 0) ((QD cs es n k pre (Int.ofNat n)).aw Tryz.f19.ntmps)) :
  KD (roundOf Tryz.f19 0) T ((eS cs es n k pre (Int.ofNat n)).aw Tryz.f19.ntmps) := by
 have h1 := bO (i := n) (L := n) (by omega)
 rcases k with _ | k <;>
 ·refine az [12] [] (H := C8) (live := dJ) (by kernel_rfl) ?_; refine ob h1 ?_; exact oe e
theorem Tm {cs : List aq} {es : List (Go.Value × aq)} {n k : Nat} {pre : List aq} (h0 : kY (env ap.aK) 23 [.win (.out 2) 8 0 n] none = some ⟨iv (Int.ofNat n), .keep⟩)
  (hl : KD (.loop (roundOf Tryz.f19 0)) (fun e s => e = .exit 0 /\ s = (QD cs es n (k + 1) pre (Int.ofNat n)).aw Tryz.f19.ntmps) ((eS cs es n 0 [] (Int.ofNat 0)).aw Tryz.f19.ntmps)) :
  KC 19 [hP] (hG 2 (av cs) es n) 3 (XQ ⟨.win (.out (k + 3)) 8 0 (k + 1), (.out (k + 3), .cells (av pre)) :: hG 2 (av cs) es n, k + 4⟩) := by
 refine Nu [] [10] (x := kD.of Tryz.f19 K6 dJ) (by kernel_rfl) ?_
 refine oo h0 ?_; refine lo hl ?_; rintro ex s ⟨rfl, rfl⟩; refine ⟨_, rfl, ?_⟩; exact fi
theorem NU (q : Nat) {ds : List bc} {d : bc} {tl : List aq} (hn : ds.length < 1000) : bq (env ap.aK) true 23 [.win (.out q) 8 0 ds.length, .dat (.slice [d.enc])] (some (.cells (av (bm ds ++ tl)))) = some ⟨.undef, .grow (.cells (av (bm (ds ++ [d])))) 8 (ds.length + 1)⟩ :=
 (show bq (env ap.aK) true 23 [.win (.out q) 8 0 ds.length, .dat (.slice [d.enc])] (some (.cells (av (bm ds ++ tl)))) = bq (env ap.aK) true 23 [.win (.out 2) 8 0 ds.length, .dat (.slice [d.enc])] (some (.cells (av (bm ds ++ tl)))) by kernel_rfl).trans (HJ hn)
theorem PO {ds : List bc} {tl : List aq} {i : Nat} {t : bc} (hi : i < ds.length) (h16 : i < 16) (ht : ds[i]? = some t) (hc : ae 53 [.dat t.enc] (.dat t.enc)) {T : Exit -> aa -> Prop}
  (e : T .normal ((eS (bm ds ++ tl) (bu ds 0) ds.length (i + 1) (bm (ds.take (i + 1))) (Int.ofNat (i + 1))).aw Tryz.f19.ntmps)) :
  KD (roundOf Tryz.f19 0) T ((eS (bm ds ++ tl) (bu ds 0) ds.length i (bm (ds.take i)) (Int.ofNat i)).aw Tryz.f19.ntmps) := by
 have h1 : ba (Int.ofNat i) (Int.ofNat ds.length) = true := by rw [fZ, decide_eq_true hi]
 have h2 := mb (r := 2) hi
 have h3 := nt (r := 2) (tl := tl) ht
 have hl : (ds.take i).length = i := by rw [List.length_take]; omega
 have h4 := NU (i + 2) (ds := ds.take i) (d := t) (tl := []) (by omega)
 rw [← ee ht, hl, List.append_nil] at h4
 have hn := CP (bm (ds.take (i + 1)))
 have hcs : i = 0 ∨ i = 1 ∨ i = 2 ∨ i = 3 ∨ i = 4 ∨ i = 5 ∨ i = 6 ∨ i = 7 ∨ i = 8 ∨ i = 9 ∨ i = 10 ∨ i = 11 ∨ i = 12 ∨ i = 13 ∨ i = 14 ∨ i = 15 := by omega
 rcases hcs with rfl | rfl | rfl | rfl | rfl | rfl | rfl | rfl | rfl | rfl | rfl | rfl | rfl | rfl | rfl | rfl
 ·have e0 : bm (ds.take (0 + 1)) = t.cells := by
   rw [ee ht]
   simp only [List.take_zero, List.nil_append, bm, List.append_nil]
  rw [e0] at e
  exact Ji h1 h2 h3 hc e
 ·exact Jh h1 h2 h3 hc h4 hn e
 ·exact Jg h1 h2 h3 hc h4 hn e
 ·exact Jf h1 h2 h3 hc h4 hn e
 ·exact Je h1 h2 h3 hc h4 hn e
 ·exact Jd h1 h2 h3 hc h4 hn e
 ·exact Jc h1 h2 h3 hc h4 hn e
 ·exact Jb h1 h2 h3 hc h4 hn e
 ·exact Ja h1 h2 h3 hc h4 hn e
 ·exact I9 h1 h2 h3 hc h4 hn e
 ·exact FT h1 h2 h3 hc h4 hn e
 ·exact FR h1 h2 h3 hc h4 hn e
 ·exact FQ h1 h2 h3 hc h4 hn e
 ·exact FP h1 h2 h3 hc h4 hn e
 ·exact FO h1 h2 h3 hc h4 hn e
 exact FN h1 h2 h3 hc h4 hn e
theorem NF {ds : List bc} {tl : List aq} (hds : ∀ o ∈ ds, o.cA) (h0 : 0 < ds.length) (hn : ds.length <= 16) :
  KC 19 [hP] (hH 2 ds tl) 3 (XQ ⟨.win (.out 3) 8 0 ds.length, (.out 3, .cells (av (bm ds))) :: hH 2 ds tl, 4⟩) := by
 obtain ⟨k, hk⟩ : ∃ k, ds.length = k + 1 := ⟨ds.length - 1, by omega⟩
 have h : KC 19 [hP] (hG 2 (av (bm ds ++ tl)) (bu ds 0) ds.length) 3 (XQ ⟨.win (.out (k + 3)) 8 0 (k + 1), (.out (k + 3), .cells (av (bm ds))) :: hG 2 (av (bm ds ++ tl)) (bu ds 0) ds.length, k + 4⟩) := by
  refine Tm (oF (by simp only [iV]; omega)) ?_
  refine bG (St := fun i => (eS (bm ds ++ tl) (bu ds 0) ds.length i (bm (ds.take i)) (Int.ofNat i)).aw Tryz.f19.ntmps) ds.length ?_ ?_ (i := 0) (Nat.zero_le _)
  ·intro i hi
   have ht : ds[i]? = some ds[i] := List.getElem?_eq_getElem hi
   exact PO hi (by omega) ht (nR (hds _ (List.getElem_mem hi))) rfl
  refine PQ ⟨rfl, ?_⟩
  rw [List.take_length, hk]
 refine ay.rn h ?_
 rintro v hp m ⟨rfl, rfl, rfl⟩
 have k0 : dB 3 [k + 3] 0 = true := rfl
 have k1 : dB 3 [k + 3] 1 = true := rfl
 have k2 : dB 3 [k + 3] 2 = true := rfl
 have k3 : dB 3 [k + 3] (k + 3) = true := by simp [dB, gF]
 have q0 : jD 3 [k + 3] 0 = 0 := rfl
 have q1 : jD 3 [k + 3] 1 = 1 := rfl
 have q2 : jD 3 [k + 3] 2 = 2 := rfl
 have q3 : jD 3 [k + 3] (k + 3) = 3 := by simp [jD, gF, oY]
 have er : bY (dB 3 [k + 3]) ((.out (k + 3), .cells (av (bm ds))) :: hG 2 (av (bm ds ++ tl)) (bu ds 0) ds.length) = (.out (k + 3), .cells (av (bm ds))) :: hG 2 (av (bm ds ++ tl)) (bu ds 0) ds.length := by
  simp only [hG, bY, k0, k1, k2, k3]
 refine ⟨[k + 3], ?_, ?_, ?_⟩
 ·simp only [AL, k3]
 ·rw [er]
  simp only [hG, GZ, JD, gW, AL, qH, k0, k1, k2, k3, Bool.and_self]
 rw [er]
 simp only [XQ, hG, hH, lF, oX, uZ, gv, eX, iT, q0, q1, q2, q3]
 exact ⟨by rw [hk], trivial, rfl⟩
/-! ### The program -/
/-! ### The reference -/
/-! ### Lists with such a declaration at the end -/
def OS : Ty := .mk 2 [76, 105, 115, 116] 0 [.mk 5 [] 0 []]
def L0 : List yn := [⟨119, [.dat OS.enc], .dat (sl (OS.fv.map iN))⟩]
theorem LZ : ∀ m ∈ L0, m.ok = true /\ KC m.fn m.args [] 0 (XQ ⟨m.val, [], 0⟩) := by
 intro m hm
 rw [List.mem_singleton.1 hm]
 exact ⟨rfl, xS (by simp [OS, Ty.size, aR]) (by simp [OS, Ty.eI, di, bj, ba])⟩
noncomputable def X2 : iu := xB (env ap.aK) cI au ax Fw.find (pO L0) 3000 60
theorem Wg : D0 Tryz.prog cI X2 := fun f args heap next r h => nH 3000 Dx qZ (M := pO L0) (zl LZ) 60 f args heap next r h
theorem P5 : ae 11 [] (bv true) := Wg _ _ _ _ _ (by kernel_rfl)
theorem Hr {ds : List bc} {tl : List aq} (hok : Q7 ds) (hn : ds.length < 1000) (r m : Nat) (pre : Heap) : KC 19 [hP] (pre ++ hH r ds tl) m (XQ ⟨.own (aJ ds), pre ++ hH r ds tl, m⟩) := by
 have h3 := Bz r m pre (ds := ds) (tl := tl) hok.cA hn
 have eo : yx ds = .own (aJ ds) := by
  have := hok.ne
  cases hd : ds with
  | nil => rw [hd] at this; exact absurd rfl this
  | cons x r => rfl
 rw [eo] at h3
 exact h3
end Go.Proofs.YtiihadmgkoamoaaGreatDoor

namespace Go.Proofs
open Go.Shelf
def Tryz.qN : Go.Shelf.Ren := ⟨fun | 5 => 62 | 7 => 97 | n => n, fun | 23 => 80 | 25 => 9 | 3 => 3 | 4 => 4 | 20 => 20 | n => n, fun | n => n⟩
theorem Tryz.L1 : Go.Proofs.SlLaysW.n5 Tryz.prog Tryz.qN := {
 mixed := by kernel_rfl
 f5 := ⟨Tryz.f62.name, by decide, Tryz.func62.trans (congrArg some (by kernel_rfl))⟩
 f7 := Tryz.func97.trans (congrArg some (by kernel_rfl))
 t4 := Tryz.underlying4
 a4 := Tryz.isAgg4
 z4 := Tryz.sizeOf4
 v4 := Tryz.zeroValue4
 t20 := Tryz.underlying20
 a20 := Tryz.isAgg20
 z20 := Tryz.sizeOf20
 v20 := Tryz.zeroValue20
 t23 := Tryz.underlying80
 a23 := Tryz.isAgg80
 z23 := Tryz.sizeOf80
 v23 := Tryz.zeroValue80 }
end Go.Proofs

namespace Go.Proofs.YtiihadmgkoamoaaGreatDoor
open Go.Tp
theorem Np {cs ds : List aq} {es : List (Go.Value × aq)} {n : Nat} (hd : KC 19 [hP] (hG 2 (av cs) es n) 3 (XQ ⟨.win (.out 3) 8 0 n, (.out 3, .cells (av ds)) :: hG 2 (av cs) es n, 4⟩)) :
  KC 26 [hP] (hG 2 (av cs) es n) 3 (XQ ⟨.ptr (.out 5) 0, (.out 5, .cells [.win (.out 3) 8 0 n, .map (.out 4)]) :: (.out 4, .map es) :: (.out 3, .cells (av ds)) :: hG 2 (av cs) es n, 6⟩) := by
 have hm : KC 62 [.map (.out 0)] ((.out 3, .cells (av ds)) :: hG 2 (av cs) es n) 4 (XQ ⟨.map (.out 4), (.out 4, .map es) :: (.out 3, .cells (av ds)) :: hG 2 (av cs) es n, 5⟩) := NC (ρ := Tryz.qN) Tryz.L1 rfl
 refine cV [] [] (x := kD.of Tryz.f26 Lq Mo) (by kernel_rfl) ?_; refine oh hd ?_; refine ON (h := hG 2 (av cs) es n) (h' := (.out 3, .cells (av ds)) :: hG 2 (av cs) es n) (HU rfl (Ej _)) (by kernel_rfl) ?_; refine oh hm ?_; exact fi
/-- The clone, and the hierarchy as it was. -/
theorem P6 {ds : List bc} {tl : List aq} (hds : ∀ o ∈ ds, o.cA) (h0 : 0 < ds.length) (hn : ds.length <= 16) :
  KC 26 [hP] (hX 0 1 2 (bm ds ++ tl) (bu ds 0) ds.length) 3 (XQ ⟨pX 5, hX 4 5 3 (bm ds) (bu ds 0) ds.length ++ hX 0 1 2 (bm ds ++ tl) (bu ds 0) ds.length, 6⟩) := by
 refine ay.hU (Np (NF hds h0 hn)) ?_
 rintro v h m ⟨rfl, rfl, rfl⟩
 refine ⟨_, ?_, rfl, rfl, rfl⟩
 exact List.Perm.append_right (hG 2 (av (bm ds ++ tl)) (bu ds 0) ds.length) (l₁ := [(.out 5, .cells [.win (.out 3) 8 0 ds.length, .map (.out 4)]), (.out 4, .map (bu ds 0)), (.out 3, .cells (av (bm ds)))]) (l₂ := [(.out 3, .cells (av (bm ds))), (.out 5, .cells [.win (.out 3) 8 0 ds.length, .map (.out 4)]), (.out 4, .map (bu ds 0))])
  ((List.Perm.cons _ (List.Perm.swap _ _ _)).trans (List.Perm.swap _ _ _))
/-! ### Under other names -/
def TO (a b r o : Nat) : Nat := match o with | 0 => a | 1 => b | _ => r
theorem Cd (ρ : Nat -> Nat) (a b r : Nat) (cs : List aq) (es : List (Go.Value × aq)) (n : Nat) : lF ρ (hX a b r cs es n) = hX (ρ a) (ρ b) (ρ r) cs es n := by
 simp [hX, lF, oX, uZ, iT, gv, eX]
theorem E0 (k a b r : Nat) (cs : List aq) (es : List (Go.Value × aq)) (n : Nat) (ha : Nat.ble k a = false) (hb : Nat.ble k b = false) (hr : Nat.ble k r = false) : cO k (hX a b r cs es n) = false := by
 simp [cO, hX, nj, iz, dR, dG, ha, hb, hr]
/-- What only reads, or changes, one hierarchy serves under other names, beside other objects. -/
theorem Wl {g : FuncId} {args : List ac} {v : ac} {cs cs2 : List aq} {es es2 : List (Go.Value × aq)} {n n2 : Nat} (a b r m : Nat) (pre post : Heap) (ha : dR 3 args = false) (he : gv (TO a b r) args = args) (hv : eX (ln (TO a b r) 3 m) v = v)
  (h : KC g (hP :: args) (hX 0 1 2 cs es n) 3 (XQ ⟨v, hX 0 1 2 cs2 es2 n2, 3⟩)) :
  KC g (pX b :: args) (pre ++ (hX a b r cs es n ++ post)) m (XQ ⟨v, pre ++ (hX a b r cs2 es2 n2 ++ post), m⟩) := by
 have hf := ay.frame h (TO a b r) (heap := pre ++ (hX a b r cs es n ++ post)) (rest := pre ++ post) (next := m) (by
  rw [Cd]
  rw [← List.append_assoc, ← List.append_assoc]
  exact List.Perm.append_right _ List.perm_append_comm) (by rfl) (E0 3 0 1 2 cs es n rfl rfl rfl) (by rfl) (by show (dG 3 hP || dR 3 args) = false; rw [ha]; rfl)
 rw [show gv (TO a b r) (hP :: args) = pX b :: args by show eX _ hP :: gv _ args = _; rw [he]; rfl] at hf
 refine ay.hU hf ?_
 rintro v' h' m' ⟨v0, h1, n1, ⟨rfl, rfl, rfl⟩, rfl, rfl, rfl⟩
 rw [hv, Cd]
 refine ⟨pre ++ (hX a b r cs2 es2 n2 ++ post), ?_, rfl, rfl, rfl⟩
 rw [← List.append_assoc, ← List.append_assoc]
 exact List.Perm.append_right _ List.perm_append_comm
/-- Declare makes a new row. -/
theorem xI {x : aq} {c : Int} {cs cs2 : List aq} {es es2 : List (Go.Value × aq)} {n n2 : Nat} (a b r m : Nat) (pre post : Heap)
  (h : KC 16 [hP, .dat x] (hX 0 1 2 cs es n) 3 (XQ ⟨iv c, hX 0 1 3 cs2 es2 n2, 4⟩)) :
  KC 16 [pX b, .dat x] (pre ++ (hX a b r cs es n ++ post)) m (XQ ⟨iv c, pre ++ (hX a b m cs2 es2 n2 ++ post), m + 1⟩) := by
 have hf := ay.frame h (TO a b r) (heap := pre ++ (hX a b r cs es n ++ post)) (rest := pre ++ post) (next := m) (by
  rw [Cd]
  rw [← List.append_assoc, ← List.append_assoc]
  exact List.Perm.append_right _ List.perm_append_comm) (by rfl) (E0 3 0 1 2 cs es n rfl rfl rfl) (by rfl) (by rfl)
 rw [show gv (TO a b r) [hP, .dat x] = [pX b, .dat x] from rfl] at hf
 refine ay.hU hf ?_
 rintro v' h' m' ⟨v0, h1, n1, ⟨rfl, rfl, rfl⟩, rfl, rfl, rfl⟩
 rw [Cd]
 refine ⟨pre ++ (hX a b m cs2 es2 n2 ++ post), ?_, rfl, ?_, rfl⟩
 ·rw [← List.append_assoc, ← List.append_assoc]
  exact List.Perm.append_right _ List.perm_append_comm
 rfl
def W3 (a b r a' b' r' o : Nat) : Nat := match o with | 0 => a | 1 => b | 2 => r | 3 => a' | 4 => b' | _ => r'
/-- Two hierarchies side by side. -/
theorem V4 {cs cs2 : List aq} {es es2 : List (Go.Value × aq)} {n n2 : Nat} {c : Bool} (a b r a' b' r' m : Nat) {heap rest : Heap} (hp : (hX a b r cs es n ++ hX a' b' r' cs2 es2 n2 ++ rest).Perm heap)
  (h : KC 27 [pX 1, pX 4] (hX 0 1 2 cs es n ++ hX 3 4 5 cs2 es2 n2) 6 (XQ ⟨bv c, hX 0 1 2 cs es n ++ hX 3 4 5 cs2 es2 n2, 6⟩)) :
  KC 27 [pX b, pX b'] heap m (XQ ⟨bv c, heap, m⟩) := by
 have e : ∀ ρ : Nat -> Nat, lF ρ (hX 0 1 2 cs es n ++ hX 3 4 5 cs2 es2 n2) = hX (ρ 0) (ρ 1) (ρ 2) cs es n ++ hX (ρ 3) (ρ 4) (ρ 5) cs2 es2 n2 := by
  intro ρ
  simp [hX, lF, oX, uZ, iT, gv, eX]
 have hf := ay.frame h (W3 a b r a' b' r') (heap := heap) (rest := rest) (next := m) (by rw [e]; exact hp.symm) (by rfl) (by simp [cO, hX, nj, iz, dR, dG]; repeat' (first | rfl | constructor)) (by rfl) (by rfl)
 refine ay.hU hf ?_
 rintro v' h' m' ⟨v0, h1, n1, ⟨rfl, rfl, rfl⟩, rfl, rfl, rfl⟩
 rw [e]
 exact ⟨heap, hp, rfl, rfl, rfl⟩
def AZ : List UInt8 := [76, 97, 116, 101, 114]
def later : bc := ⟨AZ, 0, .mk 0 [] 0 [], false, []⟩
theorem pV : later.cA := ⟨⟨by decide, by simp [later, Ty.eI, di, bj]⟩, by simp [later], by decide⟩
/-! ### Chains of supertypes -/
/-! ### What an instance is like -/
/-! ### The contract of Supertype -/
theorem Tq {l m d1 d2 e1 e2 e3 : List aq} {H1 H2 H3 H4 H5 : Heap} {q : Bool}
  (g1 : ae 9 [.dat (.slice l)] (.own d1)) (g2 : ae 9 [.dat (.slice m)] (.own d2))
  (k1 : KC 10 [.dat (.slice d1)] [] 0 (XQ ⟨.tup [hP, rP 3, bv true], H1, 4⟩))
  (k2 : KC 10 [.dat (.slice d2)] H1 4 (XQ ⟨.tup [pX 5, rP 7, bv true], H2, 8⟩))
  (k3 : KC 26 [hP] H2 8 (XQ ⟨pX 10, H3, 11⟩))
  (x1 : KC 27 [pX 10, hP] H3 11 (XQ ⟨bv true, H3, 11⟩)) (x2 : KC 27 [hP, pX 10] H3 11 (XQ ⟨bv true, H3, 11⟩))
  (x3 : KC 27 [hP, pX 5] H3 11 (XQ ⟨bv q, H3, 11⟩))
  (y1 : KC 19 [hP] H3 11 (XQ ⟨.own e1, H3, 11⟩)) (y2 : KC 19 [pX 5] H3 11 (XQ ⟨.own e2, H3, 11⟩))
  (z : ae 18 [.dat (.slice e1), .dat (.slice e2)] (bv q))
  (a1 : KC 16 [pX 10, .dat later.enc] H3 11 (XQ ⟨iv 0, H4, 12⟩))
  (y3 : KC 19 [hP] H4 12 (XQ ⟨.own e1, H4, 12⟩)) (y4 : KC 19 [pX 10] H4 12 (XQ ⟨.own e3, H4, 12⟩))
  (n1 : bj (Int.ofNat e3.length) (aG .i64 (Int.ofNat e1.length + 1)) = true)
  (x4 : KC 27 [pX 10, hP] H4 12 (XQ ⟨bv false, H4, 12⟩))
  (a2 : KC 16 [hP, .dat later.enc] H4 12 (XQ ⟨iv 0, H5, 13⟩))
  (x5 : KC 27 [pX 10, hP] H5 13 (XQ ⟨bv true, H5, 13⟩)) :
  KC 5 [.dat (.slice l), .dat (.slice m)] [] 0 (XQ ⟨bv true, H5, 13⟩) := by
 have hc := P5
 have n2 := dq (Int.ofNat e1.length)
 cases q <;>
 ·refine cV [76, 84] [] (x := kD.of Tryz.f5 RK QS) (by kernel_rfl) ?_; refine on g1 ?_; refine oh k1 ?_; refine on g2 ?_; refine oh k2 ?_; refine on hc ?_; refine oh k3 ?_; refine oh x1 ?_; refine oh x2 ?_; refine oh x3 ?_; refine oh y1 ?_; refine oh y2 ?_; refine on z ?_; refine oh y1 ?_; refine oh a1 ?_; refine oh y3 ?_; refine ob n2 ?_; refine oh y4 ?_; refine ob n1 ?_; refine oh x4 ?_; refine oh a2 ?_; refine oh x5 ?_; exact fi
theorem FY {ds : List bc} {tl : List aq} (hds : ∀ o ∈ ds, o.cA) (h0 : 0 < ds.length) (hn : ds.length <= 16) (pre : Heap) (m : Nat) :
  KC 26 [hP] (pre ++ hX 0 1 2 (bm ds ++ tl) (bu ds 0) ds.length) m (XQ ⟨pX (m + 2), hX (m + 1) (m + 2) m (bm ds ++ []) (bu ds 0) ds.length ++ (pre ++ hX 0 1 2 (bm ds ++ tl) (bu ds 0) ds.length), m + 3⟩) := by
 have hf := ay.frame (P6 (tl := tl) hds h0 hn) (fun o => o) (heap := pre ++ hX 0 1 2 (bm ds ++ tl) (bu ds 0) ds.length) (rest := pre) (next := m) (by rw [Cd]; exact List.perm_append_comm) (by rfl) (E0 3 0 1 2 _ _ _ rfl rfl rfl) (by rfl) (by rfl)
 have e : ∀ ρ : Nat -> Nat, lF ρ (hX 4 5 3 (bm ds) (bu ds 0) ds.length ++ hX 0 1 2 (bm ds ++ tl) (bu ds 0) ds.length) = hX (ρ 4) (ρ 5) (ρ 3) (bm ds) (bu ds 0) ds.length ++ hX (ρ 0) (ρ 1) (ρ 2) (bm ds ++ tl) (bu ds 0) ds.length := by
  intro ρ
  simp [hX, lF, oX, uZ, iT, gv, eX]
 refine ay.hU hf ?_
 rintro v' h' m' ⟨v0, h1, n1, ⟨rfl, rfl, rfl⟩, rfl, rfl, rfl⟩
 rw [e, List.append_nil]
 refine ⟨hX (m + 1) (m + 2) m (bm ds) (bu ds 0) ds.length ++ (pre ++ hX 0 1 2 (bm ds ++ tl) (bu ds 0) ds.length), ?_, rfl, rfl, rfl⟩
 rw [List.append_assoc]
 exact List.Perm.append_left _ List.perm_append_comm
theorem pq {nm : List UInt8} : ∀ {ds : List bc}, (∀ o ∈ ds, fY nm o.nm = false) -> aW ds nm = none
 | [], _ => rfl
 | d :: r, h => by
  unfold aW
  rw [h d (by simp)]
  exact pq (fun o ho => h o (by simp [ho]))
theorem DF {ds : List bc} (h : aW ds AZ = none) (hn : ds.length < 60) : iR ds later = (0, ds ++ [later]) := by
 unfold iR
 rw [show later.wf = true by decide, show ba 6 later.ar = false from rfl, show ba 6 (Int.ofNat (aH later.fl).length) = false from rfl, show aW ds later.nm = none from h]
 rw [show ba (Int.ofNat ds.length) 60 = true by rw [show (60 : Int) = Int.ofNat 60 from rfl, fZ, decide_eq_true hn]]
 have hk : cH ds later.sup = true := by show cH ds (.mk 0 [] 0 []) = true; rw [cH, hZ]; rfl
 rw [hk]
 rfl
theorem Jk {l : List bc} : ∀ (i : Nat) {o : bc}, o ∈ eK (l.take i) -> o ∈ cY ∨ o ∈ l := by
 intro i
 induction i with
 | zero => intro o h; exact .inl h
 | succ i ih =>
  intro o h
  cases hg : l[i]? with
  | none => rw [List.take_of_length_le (by have := List.getElem?_eq_none_iff.1 hg; omega)] at h; rw [List.take_of_length_le (by have := List.getElem?_eq_none_iff.1 hg; omega)] at ih; exact ih h
  | some d =>
   rw [oP hg] at h
   rcases nP (eK (l.take i)) d with e | ⟨e, _⟩
   ·rw [e] at h; exact ih h
   rw [e] at h
   rcases List.mem_append.1 h with h | h
   ·exact ih h
   rw [List.mem_singleton.1 h]; exact .inr (List.mem_of_getElem? hg)
theorem IH {l : List bc} (hl : ∀ d ∈ l, Wq d) : aW (eK l) AZ = none := by
 refine pq fun o ho => ?_
 have hm := @Jk l l.length o
 rw [List.take_length] at hm
 rcases hm ho with h | h
 ·simp only [cY, fQ, List.map_cons, List.map_nil, List.mem_cons, List.mem_nil_iff, or_false] at h
  rcases h with rfl | rfl | rfl | rfl <;> decide
 have hg := (hl o h).nm
 have key : ∀ b ∈ Fu, fY AZ b = false := by decide
 exact key _ hg
/-- The law. -/
theorem Jt {l m : List Int} (hl : l.length < 10000000) (hm : m.length < 10000000) :
  ∃ (H : Heap) (q : Nat), KC 5 [.dat (.slice (l.map iN)), .dat (.slice (m.map iN))] [] 0 (XQ ⟨bv true, H, q⟩) := by
 obtain ⟨m1, hG1, hm1, g1⟩ := Hw hl
 obtain ⟨m2, hG2, hm2, g2⟩ := Hw hm
 have f1 : ∀ d ∈ gr ++ m1, d.cA := fun d hd => (hG1.each d hd).cA
 have f2 : ∀ d ∈ gr ++ m2, d.cA := fun d hd => (hG2.each d hd).cA
 have hb : gr.length = 8 := rfl
 have l1 : (gr ++ m1).length <= 12 := by rw [List.length_append, hb]; omega
 have l2 : (gr ++ m2).length <= 12 := by rw [List.length_append, hb]; omega
 obtain ⟨t1, k1⟩ := Hv f1 (by omega)
 obtain ⟨t2, k2⟩ := Hv f2 (by omega)
 have o1 := vx f1 (gr ++ m1).length
 have o2 := vx f2 (gr ++ m2).length
 have n1 := ru (gr ++ m1).length (gr ++ m1)
 have n2 := ru (gr ++ m2).length (gr ++ m2)
 have hla := IH hG1.each
 rw [List.take_length] at o1 o2 n1 n2
 generalize eK (gr ++ m1) = D at *
 generalize eK (gr ++ m2) = E at *
 have hp1 : 0 < D.length := List.length_pos_iff.2 o1.ne
 -- the second pair of hierarchies
 have k2' := LR 4 (hF 3 (aJ D) ++ hX 0 1 2 (bm D ++ t1) (bu D 0) D.length) k2 rfl rfl
 have e2 : lF (fun o => 4 + o) (hF 3 (aJ E) ++ hH 2 E t2) = hF 7 (aJ E) ++ hX 4 5 6 (bm E ++ t2) (bu E 0) E.length := by
  simp [hF, hH, hG, hX, lF, oX, uZ, iT, gv, eX]
 rw [e2] at k2'
 have dm := DF hla (by omega)
 have fl : ∀ o ∈ D ++ [later], o.cA := by
  intro o ho
  rcases List.mem_append.1 ho with h | h
  ·exact o1.cA o h
  rw [List.mem_singleton.1 h]; exact pV
 have nl : (D ++ [later]).length = D.length + 1 := by simp
 obtain ⟨t3, hD1⟩ := sX (ds := D) (d := later) (tl := []) pV o1.cA (by omega)
 obtain ⟨t4, hD2⟩ := sX (ds := D) (d := later) (tl := t1) pV o1.cA (by omega)
 rw [dm] at hD1 hD2
 dsimp only at hD1 hD2
 have k3 := FY (tl := t1) o1.cA hp1 (by omega) ((hF 7 (aJ E) ++ hX 4 5 6 (bm E ++ t2) (bu E 0) E.length) ++ hF 3 (aJ D)) 8
 have q1 := nS (a := D) (b := D) (tla := []) (tlb := t1) o1.cA o1.cA (by omega) (by omega)
 have q2 := nS (a := D) (b := D) (tla := t1) (tlb := []) o1.cA o1.cA (by omega) (by omega)
 have q3 := nS (a := D) (b := E) (tla := t1) (tlb := t2) o1.cA o2.cA (by omega) (by omega)
 have q4 := nS (a := D ++ [later]) (b := D) (tla := t3) (tlb := t1) fl o1.cA (by omega) (by omega)
 have q5 := nS (a := D ++ [later]) (b := D ++ [later]) (tla := t3) (tlb := t4) fl fl (by omega) (by omega)
 rw [sQ] at q1 q2 q5
 have ne : mO (D ++ [later]) D = false := by
  cases h : mO (D ++ [later]) D with
  | false => rfl
  | true =>
   have h2 := congrArg List.length (MW.1 h)
   rw [nl] at h2
   omega
 rw [ne] at q4
 have d1 := Hr (tl := t1) o1 (by omega) 2 3 []
 have d2 := Hr (tl := t2) o2 (by omega) 2 3 []
 have d3 : KC 19 [hP] (hX 0 1 2 (bm (D ++ [later]) ++ t3) (bu (D ++ [later]) 0) (D ++ [later]).length) 3 (XQ ⟨.own (aJ (D ++ [later])), hX 0 1 2 (bm (D ++ [later]) ++ t3) (bu (D ++ [later]) 0) (D ++ [later]).length, 3⟩) := by
  have h := Bz 2 3 [] (ds := D ++ [later]) (tl := t3) fl (by omega)
  rw [show yx (D ++ [later]) = .own (aJ (D ++ [later])) by cases D <;> rfl] at h
  exact h
 have z := ze (a := D) (b := E) o1.cA (by omega)
 let R : Heap := (hF 7 (aJ E) ++ hX 4 5 6 (bm E ++ t2) (bu E 0) E.length) ++ hF 3 (aJ D)
 let X1 : Heap := hX 0 1 2 (bm D ++ t1) (bu D 0) D.length
 let C : Heap := hX 9 10 8 (bm D ++ []) (bu D 0) D.length
 let C' : Heap := hX 9 10 11 (bm (D ++ [later]) ++ t3) (bu (D ++ [later]) 0) (D ++ [later]).length
 let X1' : Heap := hX 0 1 12 (bm (D ++ [later]) ++ t4) (bu (D ++ [later]) 0) (D ++ [later]).length
 have x1 := V4 9 10 8 0 1 2 11 (heap := C ++ (R ++ X1)) (rest := R) (by classical exact List.perm_iff_count.2 (fun a => by simp only [List.count_append, C, X1]; omega)) q1
 have x2 := V4 0 1 2 9 10 8 11 (heap := C ++ (R ++ X1)) (rest := R) (by classical exact List.perm_iff_count.2 (fun a => by simp only [List.count_append, C, X1]; omega)) q2
 have x3 := V4 0 1 2 4 5 6 11 (heap := C ++ (R ++ X1)) (rest := hF 7 (aJ E) ++ (hF 3 (aJ D) ++ C)) (by classical exact List.perm_iff_count.2 (fun a => by simp only [List.count_append, C, X1, R]; omega)) q3
 have y1 := Wl 0 1 2 11 (C ++ R) [] (args := []) rfl rfl rfl d1
 have y2 := Wl 4 5 6 11 (C ++ hF 7 (aJ E)) (hF 3 (aJ D) ++ X1) (args := []) rfl rfl rfl d2
 have a1 := xI 9 10 8 11 [] (R ++ X1) hD1
 have y3 := Wl 0 1 2 12 (C' ++ R) [] (args := []) rfl rfl rfl d1
 have y4 := Wl 9 10 11 12 [] (R ++ X1) (args := []) rfl rfl rfl d3
 have x4 := V4 9 10 11 0 1 2 12 (heap := C' ++ (R ++ X1)) (rest := R) (by classical exact List.perm_iff_count.2 (fun a => by simp only [List.count_append, C', X1]; omega)) q4
 have a2 := xI 0 1 2 12 (C' ++ R) [] hD2
 have x5 := V4 9 10 11 0 1 12 13 (heap := C' ++ (R ++ X1')) (rest := R) (by classical exact List.perm_iff_count.2 (fun a => by simp only [List.count_append, C', X1']; omega)) q5
 have hn1 : bj (Int.ofNat (aJ (D ++ [later])).length) (aG .i64 (Int.ofNat (aJ D).length + 1)) = true := by
  rw [aX, aX, nl, bi (by omega)]
  exact dq _
 exact ⟨_, _, Tq (H5 := C' ++ (R ++ X1')) g1 g2 k1 k2' k3 x1 x2 x3 y1 y2 z a1 y3 y4 hn1 x4 a2 x5⟩
theorem DJ {l m : List Int} (hl : l.length < 10000000) (hm : m.length < 10000000) :
  ∃ r : eu, r.val = bv true /\ KC 5 [.dat (.slice (l.map iN)), .dat (.slice (m.map iN))] [] 0 (XQ r) := by
 obtain ⟨H, q, h⟩ := Jt hl hm
 exact ⟨_, rfl, h⟩
end Go.Proofs.YtiihadmgkoamoaaGreatDoor

namespace Go.Proofs.YtiihadmgkoamoaaGreatDoor
open Go.ChangeShapes Go.WideShapes Go.ChangeAt Go.RowKit Go.Tp
open Go.ChangeMaps (open_string shut_string)
theorem own : ownKnob Tryz.prog.godebug = none := by kernel_rfl
theorem kids : Kids Tryz.prog (· < Tryz.prog.types.size) := kids_rows (by kernel_rfl) (by kernel_rfl)
theorem full : ∀ t e, t < Tryz.prog.types.size -> Tryz.prog.underlying t = some (.slice e) -> 0 < Tryz.prog.cellsOf e := slices_full_of Tryz.prog (by kernel_rfl)
theorem gE : Tryz.prog.globalNamed "telpher/telmake.extraNames" = some 0 := by kernel_rfl
theorem gL : Tryz.prog.globalNamed "telpher/telmake.leafNames" = some 1 := by kernel_rfl
theorem gP : Tryz.prog.globalNamed "telpher/hierarchy.reserved" = some 2 := by kernel_rfl
theorem gT : Tryz.prog.globalNamed "telpher/typeterm.reserved" = some 4 := by kernel_rfl
theorem MG {W : World} (h : laidMetH Tryz.prog Rows.hierarchyCloneUptoRow.laid W) : ∀ g cs, cI g = some cs -> dF W tT g 0 cs := by
 have h' : laidMet Tryz.prog Rows.hierarchyCloneUptoRow.laid W := h
 obtain ⟨ps, ⟨g1, t1, cs1, fuel1, p1, q1, a1, a2, a3, a4, ⟨g2, t2, cs2, fuel2, p2, q2, b1, b2, b3, b4, ⟨g3, t3, cs3, fuel3, p3, q3, c1, c2, c3, c4, ⟨g4, t4, cs4, fuel4, p4, q4, d1, d2, d3, d4, _, _⟩, _⟩, _⟩, _⟩, _⟩ := h'
 intro g cs hg
 unfold cI at hg
 split at hg
 ·obtain rfl := Option.some.inj hg
  exact oJ (l := gK) gE (by kernel_rfl) Tryz.underlying60 Tryz.underlying9 (by kernel_rfl) (by decide) ⟨g3, t3, cs3, fuel3, p3, c1, c2, c3, c4⟩
 ·obtain rfl := Option.some.inj hg
  exact oJ (l := fQ) gL (by kernel_rfl) Tryz.underlying60 Tryz.underlying9 (by kernel_rfl) (by decide) ⟨g4, t4, cs4, fuel4, p4, d1, d2, d3, d4⟩
 ·obtain rfl := Option.some.inj hg
  exact oJ (l := mN) gP (by kernel_rfl) Tryz.underlying60 Tryz.underlying9 (by kernel_rfl) (by decide) ⟨g2, t2, cs2, fuel2, p2, b1, b2, b3, b4⟩
 ·obtain rfl := Option.some.inj hg
  exact oJ (l := mN) gT (by kernel_rfl) Tryz.underlying60 Tryz.underlying9 (by kernel_rfl) (by decide) ⟨g1, t1, cs1, fuel1, p1, a1, a2, a3, a4⟩
 simp at hg
/-! ### The bound -/
theorem one_le {H : Type} (d : DataW H) : 1 <= Rows.uptoBulk d := by
 cases d with
 | lit l => cases l <;> simp [Rows.uptoBulk]
 | nil => simp [Rows.uptoBulk]
 | ptr d => simp [Rows.uptoBulk]
 | slice elems spare => simp [Rows.uptoBulk]
 | agg parts => simp [Rows.uptoBulk]
 | iface t d => simp [Rows.uptoBulk]
 | map entries => simp [Rows.uptoBulk]
 | held h => simp [Rows.uptoBulk]
theorem CZ {H : Type} : ∀ l : List (DataW H), l.length <= Rows.uptoBulkAll l
 | [] => by simp [Rows.uptoBulkAll]
 | x :: r => by
  have h1 := one_le x
  have h2 := CZ r
  simp only [Rows.uptoBulkAll, List.length_cons]
  omega
theorem zm {H : Type} {d : DataW H} : ∀ {l : List (DataW H)}, d ∈ l -> Rows.uptoBulk d <= Rows.uptoBulkAll l
 | [], h => by cases h
 | x :: r, h => by
  simp only [Rows.uptoBulkAll]
  rcases List.mem_cons.1 h with e | h
  ·subst e; omega
  have := zm h; omega
theorem HI {H : Type} {l els rest : List (DataW H)} (hk : Rows.uptoSmall H l = true) (hm : DataW.slice els rest ∈ l) : els.length <= 1048576 := by
 have h : Rows.uptoBulkAll l <= 1048576 := of_decide_eq_true hk
 have h1 := zm hm
 have h2 := CZ els
 simp only [Rows.uptoBulk] at h1
 omega
set_option maxRecDepth 100000 in
theorem Nl (H : Type) (enc : TypeId × Value -> H) (W : World) (base : Nat) (args : Array Value) (ds gs : List (DataW H)) (before : List MemPlace)
  (hval : ∀ (j : Nat) t v, Tryz.f5.params[j]? = some t -> args[j]? = some v -> Value.okWide Tryz.prog W .any base t v)
  (hW : DataW.Whole enc Tryz.prog Tryz.f5.params.toList Rows.hierarchyCloneSpec.vars false W args.toList ds gs before) (hL : laidMetH Tryz.prog Rows.hierarchyCloneUptoRow.laid W) (hk : Rows.uptoSmall H (ds ++ gs) = true) :
  Calls Tryz.prog 5 args W fun e W' => ∃ v, e = .returned v /\ Rows.hierarchyCloneSpec.post enc Tryz.prog Tryz.f5 false true false false W args v W' := by
 have hW' := hW
 obtain ⟨p, q, hA0, hV, rfl, hfz, hnd⟩ := hW
 have hA : DataW.TrodAll enc Tryz.prog W 0 (fun _ => true) true Tryz.f5.params.toList args.toList ds p := hA0
 have hAk := hA
 rw [Tryz.params5] at hA hval
 obtain ⟨v0, vs0, d0, ds0, p0, q0, hargs, rfl, rfl, h0, r0⟩ := trodAll_cons hA
 obtain ⟨v1, vs1, d1, ds1, p1, q1, rfl, rfl, rfl, h1, r1⟩ := trodAll_cons r0
 obtain ⟨rfl, rfl, rfl⟩ := trodAll_nil r1
 obtain rfl : args = #[v0, v1] := by cases args; simp_all
 obtain ⟨rfl, rfl⟩ := trodVars_none hV
 obtain ⟨a0, len0, cap0, hv0⟩ := okWide_slice Tryz.underlying22 (hval 0 22 v0 rfl rfl)
 obtain ⟨l0, hd0, hr0⟩ := DV (outs fun _ => none) Tryz.underlying22 Tryz.underlying3 (by kernel_rfl) (by rw [hv0]; rfl) h0
 obtain ⟨a1, len1, cap1, hv1⟩ := okWide_slice Tryz.underlying22 (hval 1 22 v1 rfl rfl)
 obtain ⟨l1, hd1, hr1⟩ := DV (outs fun _ => none) Tryz.underlying22 Tryz.underlying3 (by kernel_rfl) (by rw [hv1]; rfl) h1
 have hb0 : l0.length <= 1048576 := by
  rcases hd0 with ⟨_, e⟩ | ⟨els, rest, e, e2⟩
  ·rw [e]; simp
  rw [← e2]
  exact HI (rest := rest) hk (by rw [← e]; simp)
 have hb1 : l1.length <= 1048576 := by
  rcases hd1 with ⟨_, e⟩ | ⟨els, rest, e, e2⟩
  ·rw [e]; simp
  rw [← e2]
  exact HI (rest := rest) hk (by rw [← e]; simp)
 obtain ⟨r, hr, hcall⟩ := DJ (by omega : l0.length < 10000000) (by omega : l1.length < 10000000) 
 refine (sT W (args := [v0, v1]) (aI (b1 := []) (b2 := []) (hr0 (by unfold iV; omega)) (aI (b1 := []) (b2 := []) (hr1 (by unfold iV; omega)) aS)) hcall hr (MG hL)).mono ?_
 rintro e W' ⟨rfl, hkp, hB⟩
 refine ⟨_, rfl, ?_⟩
 simp only [List.append_nil] at hW' hAk
 have hargs := DataW.TrodAll.respare (spare' := fun b => decide (b < W.heap.size)) kids full (by rw [Tryz.params5]; decide) (vG hB hAk) (fun p hp => by simpa using hW'.lt p hp)
 refine ⟨_, _, _, [], _, [], hW', ?_, hargs, rfl, World.keptBut_mono (fun p hp => hp.elim) hkp, fun h => by cases h⟩
 exact trodAll_cons_mk (shut_bool Tryz.underlying4 _) trodAll_mk0
/-- A world for the witness. -/
noncomputable def sC (os : Os) : World :=
 let N := (World.settled Tryz.prog os).heap.size
 let strs (l : List (List UInt8)) : Array Value := (l.map fun b => Value.string ⟨⟨b⟩⟩).toArray
 let w0 := World.holding Tryz.prog os ⟨#[.cells (strs gK) 9, .cells (strs fQ) 9, .cells (strs mN) 9, .cells (strs mN) 9], #[], []⟩
 let put (h : Array Obj) (g : Nat) (cs : Array Value) : Array Obj := h.modify g fun
  | .cells _ t frozen => .cells cs t frozen
  | o => o
 let h1 := put w0.heap 0 #[.slice (some ⟨N, 0, none⟩) 4 4]
 let h2 := put h1 1 #[.slice (some ⟨N + 1, 0, none⟩) 4 4]
 let h3 := put h2 2 #[.slice (some ⟨N + 2, 0, none⟩) 5 5]
 let h4 := put h3 4 #[.slice (some ⟨N + 3, 0, none⟩) 5 5]
 {w0 with heap := h4 }
theorem Mt (os : Os) (args : Array Value) : laidMet Tryz.prog Rows.hierarchyCloneUptoRow.laid ((sC os).forCall (fun _ _ => 0) ⟨#[], args, []⟩).memory :=
 laidMet_of_run' 8 (by kernel_rfl) (by kernel_rfl)
noncomputable def JM : Array Value := #[.slice none 0 0, .slice none 0 0]
theorem reads (os : Os) {H : Type} (enc : TypeId × Value -> H) : ∃ places, DataW.whole enc Tryz.prog ((sC os).forCall (fun _ _ => 0) ⟨#[], JM, []⟩).memory Tryz.f5.params.toList Rows.hierarchyCloneSpec.vars false JM.toList 8 = some ([.nil, .nil], [], places) :=
 ⟨[], by kernel_rfl⟩
set_option maxRecDepth 100000 in
theorem lifted (os : Os) (started : os.Started) (H : Type) (enc : TypeId × Value -> H) (F : Stop.Interp) :
  ReturnsInHanded {} Tryz.checked os 5 .any ((Rows.OpenSpec.upto Rows.hierarchyCloneSpec).preRow enc Tryz.prog Tryz.f5 Rows.hierarchyCloneUptoRow.domain false Rows.hierarchyCloneUptoRow.laid) (((Rows.OpenSpec.upto Rows.hierarchyCloneSpec).at F).post enc Tryz.prog Tryz.f5 false true false false) := by
 obtain ⟨places, hx⟩ := reads os enc
 refine returnsInHanded_of_row (C := Tryz.checked) (s := (Rows.OpenSpec.upto Rows.hierarchyCloneSpec)) own started (by kernel_rfl) Tryz.func5
  (witness_row_atRef (enc := enc) (C := Tryz.checked) false (sC os) JM rfl (by kernel_rfl) (by kernel_rfl) (by kernel_rfl)
   (OpenSpec.preRow_of_cond 8 hx (by kernel_rfl) (fun k hk => by cases hk; kernel_rfl) (by kernel_rfl) (Mt os _))) ?_
 intro W base args ds gs before hval hW _ hcond _ hL _ _
 exact Nl H enc W base args ds gs before hval hW hL (hcond _ rfl)
end Go.Proofs.YtiihadmgkoamoaaGreatDoor

namespace Go.Proofs.YtiihadmgkoamoaaGreatDoor
open Go.ChangeShapes Go.WideShapes Go.ChangeAt Go.RowKit Go.Tp
set_option maxHeartbeats 4000000 in
set_option maxRecDepth 100000 in
theorem said : Rows.HierarchyCloneUptoSaid :=
 OpenClaim.holds_of_cond 5 Tryz.f5 rfl rfl rfl rfl rfl rfl rfl ⟨rfl, rfl, rfl, rfl, rfl⟩ rfl rfl rfl rfl rfl (by as_aux_lemma => kernel_rfl) Tryz.func5 (by as_aux_lemma => kernel_rfl)
  (of_decide_eq_true (by as_aux_lemma => kernel_rfl)) (by unfold Func.isWrapper; first | (rw [if_pos (by decide +kernel)]; kernel_rfl) | (rw [if_neg (by decide +kernel)]; exact ⟨rfl, rfl⟩))
  (fun os started H enc _ F => by rw [OpenClaim.pre_eq_preRow]; exact lifted os started H enc F)
set_option maxRecDepth 100000 in
theorem plain (f : FuncId) (fn : Func) (hf : Tryz.pinned.checked.prog.funcNamed "telpher/tellaw3.HierarchyClone" = some f) (hfn : Tryz.pinned.checked.prog.funcs[f]? = some fn) :
  true = Tryz.pinned.checked.prog.looks [] /\ ∀ (j : Nat) t, fn.params[j]? = some t -> Tryz.pinned.checked.prog.wantsStandIn t = false := by
 obtain rfl : f = 5 := Option.some.inj ((show Tryz.prog.funcNamed "telpher/tellaw3.HierarchyClone" = some 5 by kernel_rfl).symm.trans hf) |>.symm
 obtain rfl : fn = Tryz.f5 := (Option.some.inj (Tryz.func5.symm.trans hfn)).symm
 refine ⟨by kernel_rfl, fun j t ht => ?_⟩
 rw [Tryz.params5] at ht
 have w22 : Tryz.prog.wantsStandIn 22 = false := by kernel_rfl
 have hm := Array.mem_of_getElem? ht
 have key : ∀ x ∈ ([22, 22] : List Nat), x = 22 := by decide
 have h3 := key t (by simpa using hm)
 rcases h3 with rfl
 ·exact w22
/-- The card. -/
theorem hierarchyClone_card : Rows.HierarchyCloneUptoCardSaid :=
 Claim7.holds_tied_plain_at .later [] _ _ _ _ said (fun _ h => by cases h) (by kernel_rfl) (fun _ h => by cases h) hierarchyCloneUpto_row_tie rfl ⟨rfl, rfl⟩ (by kernel_rfl) rfl plain (by kernel_rfl)
end Go.Proofs.YtiihadmgkoamoaaGreatDoor
#print axioms Go.Proofs.YtiihadmgkoamoaaGreatDoor.hierarchyClone_card
