/- HierarchyDeclare returns true and changes nothing, for arguments of bulk at most 1048576 (the card of the second form; conditions: those of the given row). Part 6. -/
import Derived.Test.YtiihadmgkoamoaaGreatDoorCards
import Derived.Test.YtiihadmgkoamoaaGreatDoorTie
import Derived.WalkKit
import Derived.ProofKit
import Derived.OpenShut
import Derived.Deep.DeepHandedRow
import Derived.Deep.DeepWitnessRowRef
import Derived.Test.YtiihadmgkoamoaaGreatDoorQ05
set_option linter.unusedVariables false
set_option linter.unusedSimpArgs false
set_option maxRecDepth 100000
set_option maxHeartbeats 4000000
namespace Go.Proofs.YtiihadmgkoamoaaGreatDoor
open Go.Tp
/-! ### Closed terms have no free variables -/
theorem setAdd_ne {s : List Int} {x : Int} : setAdd s x ≠ [] := by
 unfold setAdd
 cases h : s.contains x with
 | true => intro h2; dsimp only at h2; rw [h2] at h; simp at h
 | false => exact insAt_ne
theorem rootF_ne {k ix : Int} {u : Nat} {s : List Int} (h : s ≠ []) : rootF k ix u s ≠ [] := by
 unfold rootF
 cases eqF k 5 with
 | false => exact h
 | true =>
  cases ltF ix (Int.ofNat u) with
  | true => exact h
  | false => exact setAdd_ne
mutual
theorem cf_ne : ∀ (t : Ty) (u : Nat) {s : List Int}, s ≠ [] -> t.cf u s ≠ []
 | .mk k nm ix l, u, s, h => by rw [Ty.cf]; exact cfL_ne l u (rootF_ne h)
theorem cfL_ne {k : Int} : ∀ (l : List Ty) {j : Nat} (u : Nat) {s : List Int}, s ≠ [] -> cfL k l j u s ≠ []
 | [], j, u, s, h => by rw [cfL]; exact h
 | t :: r, j, u, s, h => by rw [cfL]; exact cfL_ne r u (cf_ne t _ h)
end
mutual
theorem cf_closed : ∀ (t : Ty) (u : Nat), isE (t.cf u []) = t.closed u
 | .mk k nm ix l, u => by
  rw [Ty.cf, Ty.closed]
  cases hk : eqF k 5 with
  | false =>
   have e : rootF k ix u [] = [] := by unfold rootF; rw [hk]
   rw [e, Bool.false_and, Bool.not_false, Bool.true_and]
   exact cfL_closed l u 0
  | true =>
   cases hg : ltF ix (Int.ofNat u) with
   | true =>
    have e : rootF k ix u [] = [] := by unfold rootF; rw [hk, hg]
    rw [e, Bool.not_true, Bool.and_false, Bool.not_false, Bool.true_and]
    exact cfL_closed l u 0
   | false =>
    have e : rootF k ix u [] ≠ [] := by unfold rootF; rw [hk, hg]; exact setAdd_ne
    have h2 := cfL_ne (k := k) l (j := 0) u e
    rw [Bool.not_false, Bool.true_and, Bool.not_true, Bool.false_and]
    cases h : cfL k l 0 u (rootF k ix u []) with
    | nil => exact absurd h h2
    | cons _ _ => rfl
theorem cfL_closed {k : Int} : ∀ (l : List Ty) (u j : Nat), isE (cfL k l j u []) = closedL k j l u
 | [], u, j => by rw [cfL, closedL]; rfl
 | t :: r, u, j => by
  rw [cfL, closedL]
  have h := cf_closed t (u + bindN k j)
  cases hc : t.closed (u + bindN k j) with
  | true =>
   rw [hc] at h
   have e : t.cf (u + bindN k j) [] = [] := by cases h3 : t.cf (u + bindN k j) [] with | nil => rfl | cons _ _ => rw [h3] at h; simp [isE] at h
   rw [e, Bool.true_and]
   exact cfL_closed r u (j + 1)
  | false =>
   rw [hc] at h
   have e : t.cf (u + bindN k j) [] ≠ [] := by intro h3; rw [h3] at h; simp [isE] at h
   have h2 := cfL_ne (k := k) r (j := j + 1) u e
   rw [Bool.false_and]
   cases h4 : cfL k r (j + 1) u (t.cf (u + bindN k j) []) with
   | nil => exact absurd h4 h2
   | cons _ _ => rfl
end
theorem r_closed0 {t : Ty} (h : t.fine) : Calls1 178 [.dat t.enc] (bv (t.closed 0)) := by
 rw [← cf_closed t 0]
 exact r_closed h.1 h.2
/-! ### TermPlain -/
noncomputable def hRP : Hints := ⟨xmoves, ord150, xcaps, rowsOf xcaps 150⟩
def stP (lo : Heap) (i : Int) : FState := ⟨[(3, iv i), (1, .ptr (.loc 1) 0)], lo, [], 0⟩
def stPX (lo : Heap) (i : Int) : FState := ⟨[(15, bv false), (3, iv i), (1, .ptr (.loc 1) 0)], lo, [], 0⟩
def stPR : FState := ⟨[(2, bv false)], [], [], 0⟩
theorem rp_round {k : Int} {nm : List UInt8} {ix : Int} {l : List Ty} {t : Ty} {i : Nat} {c : Bool} (hi : i < (encL l).length) (ht : l[i]? = some t) (hc : Calls1 150 [.dat t.enc] (bv c)) {T : Exit -> AState -> Prop}
  (e1 : c = true -> T .normal ((stP (loR 1 k nm ix (.slice (encL l))) (wrapF .i64 (Int.ofNat i + 1))).toA Tryz.f150.ntmps)) (e2 : c = false -> T .ret (stPR.toA Tryz.f150.ntmps)) :
  KD (roundOf Tryz.f150 0) T ((stP (loR 1 k nm ix (.slice (encL l))) (Int.ofNat i)).toA Tryz.f150.ntmps) := by
 have h1 := ltF_yes hi
 have h2 := idxT ht
 generalize encL l = es at *
 clear ht hi
 obtain ⟨k2, nm2, ix2, a2⟩ := t
 rcases a2 with _ | ⟨b, d⟩ <;>
 ·refine run_of [15] [21] (H := hRP) (live := live150) (by kernel_rfl) ?_; refine ob h1 ?_; refine oo h2 ?_; refine on hc ?_
  cases c
  ·exact oe (e2 rfl)
  exact oe (e1 rfl)
theorem rp_last {k : Int} {nm : List UInt8} {ix : Int} {l : List Dat} {T : Exit -> AState -> Prop} (e : T (.exit 0) ((stPX (loR 1 k nm ix (sl l)) (Int.ofNat l.length)).toA Tryz.f150.ntmps)) :
  KD (roundOf Tryz.f150 0) T ((stP (loR 1 k nm ix (sl l)) (Int.ofNat l.length)).toA Tryz.f150.ntmps) := by
 have h1 := ltF_no (i := l.length) (L := l.length) (by omega)
 rcases l with _ | ⟨x, l⟩
 ·refine run_of [] [] (H := hRP) (live := live150) (by kernel_rfl) ?_; exact oe e
 refine run_of [15] [] (H := hRP) (live := live150) (by kernel_rfl) ?_; refine ob h1 ?_; exact oe e
theorem rp_all {k : Int} {nm : List UInt8} {ix : Int} {l : List Dat} {c2 c5 cc ca : Bool} (h5 : eqF k 5 = c5) (hc : Calls1 178 [.dat (.agg [i64 k, sb nm, i64 ix, sl l])] (bv cc)) (h2 : eqF k 2 = c2)
  (hl : KD (.loop (roundOf Tryz.f150 0)) (fun e s => (e = .exit 0 /\ ca = false /\ s = (stPX (loR 1 k nm ix (sl l)) (Int.ofNat l.length)).toA Tryz.f150.ntmps) ∨ (e = .ret /\ ca = true /\ s = stPR.toA Tryz.f150.ntmps)) ((stP (loR 1 k nm ix (sl l)) (Int.ofNat 0)).toA Tryz.f150.ntmps)) :
  Calls1 150 [.dat (.agg [i64 k, sb nm, i64 ix, sl l])] (bv (c5 || cc || (c2 && !ca))) := by
 rcases l with _ | ⟨x, l⟩ <;>
 ·cases c2 <;>
  ·refine co [6, 27] [] (x := .of Tryz.f150 ord150 live150) ?_; refine ob h5 ?_
   cases c5
   ·refine on hc ?_
    cases cc
    ·refine lo hl ?_
     rintro ex s (⟨rfl, rfl, rfl⟩ | ⟨rfl, rfl, rfl⟩)
     ·refine ⟨_, rfl, ?_⟩; refine ob h2 ?_; exact fi
     refine ⟨_, rfl, ?_⟩; exact fi
    exact fi
   exact fi
theorem anyNP_drop {l : List Ty} {i : Nat} {t : Ty} (h : l[i]? = some t) : anyNP (l.drop i) = (!t.plain || anyNP (l.drop (i + 1))) := by rw [dropA_get h, anyNP]
mutual
theorem r_plain : ∀ t : Ty, t.fine -> Calls1 150 [.dat t.enc] (bv t.plain)
 | .mk k nm ix l, h => by
  have hc := r_closed0 h
  obtain ⟨h1, h2⟩ := h
  simp only [Ty.size] at h1
  simp only [Ty.ixOk] at h2
  have ih := r_plainL l (by omega) h2.2
  have hlen := len_size l
  rw [Ty.plain]
  refine rp_all rfl hc rfl ?_
  refine loop_inv (St := fun i => (stP (loR 1 k nm ix (sl (encL l))) (Int.ofNat i)).toA Tryz.f150.ntmps) (fun i => anyNP l = anyNP (l.drop i)) (encL l).length ?_ ?_ (i := 0) (Nat.zero_le _) rfl
  ·intro i hi hI
   obtain ⟨t, ht, hm⟩ := get_mem hi
   have hd := anyNP_drop ht
   rw [← hI] at hd
   have hsl := sl_cons hi
   have hw : wrapF .i64 (Int.ofNat i + 1) = Int.ofNat (i + 1) := wrap_of (by rw [encL_length] at hi; omega)
   have hc := ih t hm
   rw [hsl]
   generalize t.plain = c at hc hd
   refine rp_round hi ht hc ?_ ?_
   ·rintro rfl
    rw [hw]
    exact ⟨rfl, hd⟩
   rintro rfl
   exact .inr ⟨rfl, hd, rfl⟩
  intro hI
  refine rp_last (.inl ⟨rfl, ?_, rfl⟩)
  rw [hI, encL_length, List.drop_length, anyNP]
theorem r_plainL : ∀ l : List Ty, sizeL l < 100000000 -> ixOkL l -> ∀ t ∈ l, Calls1 150 [.dat t.enc] (bv t.plain)
 | [], _, _, t, ht => by simp at ht
 | u :: r, h, hx, t, ht => by
  simp only [sizeL] at h
  simp only [ixOkL] at hx
  rcases List.mem_cons.1 ht with h1 | ht
  ·rw [h1]; exact r_plain u ⟨by omega, hx.1⟩
  exact r_plainL r (by omega) hx.2 t ht
end
/-! ### Identifiers, keywords -/
theorem rletter_run : allN (fun n => boolR (letterN n) (X 146 [iv8 n] [] 0)) 256 = true := by kernel_rfl
theorem r_letter (c : UInt8) : Calls1 146 [iv8 c.toNat] (bv (letterN c.toNat)) := X_ok _ _ _ _ _ (boolR_eq (allN_lt rletter_run _ c.toNat_lt))
theorem rword_run : allN (fun n => boolR (wordN n) (X 147 [iv8 n] [] 0)) 256 = true := by kernel_rfl
theorem r_word (c : UInt8) : Calls1 147 [iv8 c.toNat] (bv (wordN c.toNat)) := X_ok _ _ _ _ _ (boolR_eq (allN_lt rword_run _ c.toNat_lt))
noncomputable def hRI : Hints := ⟨xmoves, ord122, xcaps, rowsOf xcaps 122⟩
def stJ (b : List UInt8) (i : Int) : FState := ⟨[(3, iv i), (0, .dat (sb b))], [], [], 0⟩
def stJX (b : List UInt8) (i : Int) : FState := ⟨[(21, bv false), (3, iv i), (0, .dat (sb b))], [], [], 0⟩
def stJR : FState := ⟨[(2, bv false)], [], [], 0⟩
theorem rid_round {b : List UInt8} {c : UInt8} {i : Nat} {cw c3 : Bool} {L : Int} (hL : Int.ofNat b.length = L) (h1 : ltF (Int.ofNat i) (Int.ofNat b.length) = true) (h2 : aIndex (env Prims.fast) 9 [.dat (sb b), .dat (.flat (.int .i64 (Int.ofNat i)))] = some ⟨iv8 c.toNat, .keep⟩) (h3 : Calls1 147 [iv8 c.toNat] (bv cw)) (h4 : eqF (Int.ofNat c.toNat) 45 = c3) {T : Exit -> AState -> Prop}
  (e1 : (cw && !c3) = true -> T .normal ((stJ b (wrapF .i64 (Int.ofNat i + 1))).toA Tryz.f122.ntmps)) (e2 : (cw && !c3) = false -> T .ret (stJR.toA Tryz.f122.ntmps)) :
  KD (roundOf Tryz.f122 0) T ((stJ b (Int.ofNat i)).toA Tryz.f122.ntmps) := by
 refine run_of [21, 33] [26, 32] (H := hRI) (live := live122) (by kernel_rfl) ?_; refine ob h1 ?_; refine oo h2 ?_; refine on h3 ?_
 cases cw
 ·exact oe (e2 rfl)
 refine oo h2 ?_; refine ob h4 ?_
 cases c3
 ·exact oe (e1 rfl)
 exact oe (e2 rfl)
theorem rid_last {b : List UInt8} {T : Exit -> AState -> Prop} (e : T (.exit 0) ((stJX b (Int.ofNat b.length)).toA Tryz.f122.ntmps)) :
  KD (roundOf Tryz.f122 0) T ((stJ b (Int.ofNat b.length)).toA Tryz.f122.ntmps) := by
 have h1 := ltF_no (i := b.length) (L := b.length) (by omega)
 refine run_of [21] [] (H := hRI) (live := live122) (by kernel_rfl) ?_; refine ob h1 ?_; exact oe e
theorem rid_all {b : List UInt8} {c : UInt8} {c1 c2 ca : Bool} (h2 : ltF 24 (Int.ofNat (c :: b).length) = c1) (h3 : Calls1 146 [iv8 c.toNat] (bv c2))
  (hl : c1 = false -> KD (.loop (roundOf Tryz.f122 0)) (fun e s => (e = .exit 0 /\ ca = true /\ s = (stJX (c :: b) (Int.ofNat (c :: b).length)).toA Tryz.f122.ntmps) ∨ (e = .ret /\ ca = false /\ s = stJR.toA Tryz.f122.ntmps)) ((stJ (c :: b) (Int.ofNat 0)).toA Tryz.f122.ntmps)) :
  Calls1 122 [.dat (sb (c :: b))] (bv (!c1 && c2 && ca)) := by
 have g1 := ans_byte (b := c :: b) (i := 0) rfl
 cases c1
 ·have hl2 := hl rfl
  clear hl
  refine co [10] [14] (x := .of Tryz.f122 ord122 live122) ?_; refine ob h2 ?_; refine oo g1 ?_; refine on h3 ?_
  cases c2
  ·exact fi
  refine lo hl2 ?_
  rintro ex s (⟨rfl, rfl, rfl⟩ | ⟨rfl, rfl, rfl⟩) <;>
  ·refine ⟨_, rfl, ?_⟩; exact fi
 clear hl
 refine co [10] [] (x := .of Tryz.f122 ord122 live122) ?_; refine ob h2 ?_; exact fi
theorem rid_nil : Calls1 122 [.dat (sb [])] (bv false) := X_ok _ _ _ _ _ (by kernel_rfl)
theorem r_ident (b : List UInt8) : Calls1 122 [.dat (sb b)] (bv (isIdent b)) := by
 cases b with
 | nil => exact rid_nil
 | cons c b =>
  have h3 := r_letter c
  have e : isIdent (c :: b) = (!ltF 24 (Int.ofNat (c :: b).length) && letterN c.toNat && (c :: b).all (fun c => identN c.toNat)) := by
   have e2 : Nat.ble (b.length + 1) 24 = !ltF 24 (Int.ofNat (c :: b).length) := by
    rw [show (24 : Int) = Int.ofNat 24 from rfl, ltF_of]
    by_cases h : 24 < (c :: b).length
    ·rw [decide_eq_true h]
     simp at h ⊢
     rw [Bool.eq_false_iff, ne_eq, Nat.ble_eq]; omega
    rw [decide_eq_false h]
    simp at h ⊢
    omega
   show (Nat.ble (b.length + 1) 24 && letterN c.toNat && (c :: b).all (fun c => identN c.toNat)) = _
   rw [e2]
  rw [e]
  refine rid_all rfl h3 (fun hc => ?_)
  have hlen : (c :: b).length < 1000 := by
   rw [show (24 : Int) = Int.ofNat 24 from rfl, ltF_of] at hc
   simp only [decide_eq_false_iff_not] at hc
   omega
  obtain ⟨l, hl⟩ : ∃ l, l = c :: b := ⟨_, rfl⟩
  rw [← hl] at hlen ⊢
  clear hl hc e h3
  refine loop_inv (St := fun i => (stJ l (Int.ofNat i)).toA Tryz.f122.ntmps) (fun i => l.all (fun c => identN c.toNat) = (l.drop i).all (fun c => identN c.toNat)) l.length ?_ ?_ (i := 0) (Nat.zero_le _) rfl
  ·intro i hi hI
   have ht : l[i]? = some l[i] := List.getElem?_eq_getElem hi
   generalize l[i] = t at ht
   have hd : (l.drop i).all (fun c => identN c.toNat) = (identN t.toNat && (l.drop (i + 1)).all (fun c => identN c.toNat)) := by rw [dropA_get ht]; rfl
   rw [← hI] at hd
   have hw : wrapF .i64 (Int.ofNat i + 1) = Int.ofNat (i + 1) := wrap_of (by omega)
   have e2 : identN t.toNat = (wordN t.toNat && !(eqF (Int.ofNat t.toNat) 45)) := by
    show (!Nat.beq t.toNat 45 && wordN t.toNat) = (wordN t.toNat && !(Nat.beq t.toNat 45))
    rw [Bool.and_comm]
   rw [e2] at hd
   refine rid_round rfl (ltF_yes hi) (ans_byte ht) (r_word t) rfl ?_ ?_
   ·intro h
    rw [h] at hd
    rw [hw]
    exact ⟨rfl, hd⟩
   intro h
   rw [h] at hd
   exact .inr ⟨rfl, hd, rfl⟩
  intro hI
  rw [List.drop_length] at hI
  exact rid_last (.inl ⟨rfl, hI, rfl⟩)
theorem r_key (b : List UInt8) : Calls1 123 [.dat (sb b)] (bv (isResv b)) := by
 have e : isResv b = (eqB b [65, 110, 121] || eqB b [78, 101, 118, 101, 114] || eqB b [116, 117, 112, 108, 101] || eqB b [117, 110, 105, 111, 110] || eqB b [101, 120, 105, 115, 116, 115]) := by
  unfold isResv resv
  simp only [List.any_cons, List.any_nil, Bool.or_false, Bool.or_assoc]
 rw [e]
 generalize h1 : eqB b [65, 110, 121] = c1
 generalize h2 : eqB b [78, 101, 118, 101, 114] = c2
 generalize h3 : eqB b [116, 117, 112, 108, 101] = c3
 generalize h4 : eqB b [117, 110, 105, 111, 110] = c4
 generalize h5 : eqB b [101, 120, 105, 115, 116, 115] = c5
 refine co [4, 7, 11, 15, 19] [] (x := .of Tryz.f123 ord123 live123) ?_; refine ob h1 ?_
 cases c1
 ·refine ob h2 ?_
  cases c2
  ·refine ob h3 ?_
   cases c3
   ·refine ob h4 ?_
    cases c4
    ·refine ob h5 ?_
     cases c5 <;>
     ·exact fi
    exact fi
   exact fi
  exact fi
 exact fi
theorem eqF_ne {k j : Int} (h : k ≠ j) : eqF k j = false := by rw [eqF_eq]; simpa using h
theorem kinds (k : Int) {c0 c1 c2 c3 c4 c5 c6 : Bool} (h0 : eqF k 0 = c0) (h1 : eqF k 1 = c1) (h2 : eqF k 2 = c2) (h3 : eqF k 3 = c3) (h4 : eqF k 4 = c4) (h5 : eqF k 5 = c5) (h6 : eqF k 6 = c6) :
  (c0 = true /\ c1 = false /\ c2 = false /\ c3 = false /\ c4 = false /\ c5 = false /\ c6 = false) ∨ (c0 = false /\ c1 = true /\ c2 = false /\ c3 = false /\ c4 = false /\ c5 = false /\ c6 = false) ∨ (c0 = false /\ c1 = false /\ c2 = true /\ c3 = false /\ c4 = false /\ c5 = false /\ c6 = false) ∨ (c0 = false /\ c1 = false /\ c2 = false /\ c3 = true /\ c4 = false /\ c5 = false /\ c6 = false) ∨ (c0 = false /\ c1 = false /\ c2 = false /\ c3 = false /\ c4 = true /\ c5 = false /\ c6 = false) ∨ (c0 = false /\ c1 = false /\ c2 = false /\ c3 = false /\ c4 = false /\ c5 = true /\ c6 = false) ∨ (c0 = false /\ c1 = false /\ c2 = false /\ c3 = false /\ c4 = false /\ c5 = false /\ c6 = true) ∨ (c0 = false /\ c1 = false /\ c2 = false /\ c3 = false /\ c4 = false /\ c5 = false /\ c6 = false) := by
 subst h0 h1 h2 h3 h4 h5 h6
 by_cases q0 : k = 0
 ·subst q0; exact .inl ⟨rfl, rfl, rfl, rfl, rfl, rfl, rfl⟩
 by_cases q1 : k = 1
 ·subst q1; exact .inr (.inl ⟨rfl, rfl, rfl, rfl, rfl, rfl, rfl⟩)
 by_cases q2 : k = 2
 ·subst q2; exact .inr (.inr (.inl ⟨rfl, rfl, rfl, rfl, rfl, rfl, rfl⟩))
 by_cases q3 : k = 3
 ·subst q3; exact .inr (.inr (.inr (.inl ⟨rfl, rfl, rfl, rfl, rfl, rfl, rfl⟩)))
 by_cases q4 : k = 4
 ·subst q4; exact .inr (.inr (.inr (.inr (.inl ⟨rfl, rfl, rfl, rfl, rfl, rfl, rfl⟩))))
 by_cases q5 : k = 5
 ·subst q5; exact .inr (.inr (.inr (.inr (.inr (.inl ⟨rfl, rfl, rfl, rfl, rfl, rfl, rfl⟩)))))
 by_cases q6 : k = 6
 ·subst q6; exact .inr (.inr (.inr (.inr (.inr (.inr (.inl ⟨rfl, rfl, rfl, rfl, rfl, rfl, rfl⟩))))))
 exact .inr (.inr (.inr (.inr (.inr (.inr (.inr ⟨eqF_ne q0, eqF_ne q1, eqF_ne q2, eqF_ne q3, eqF_ne q4, eqF_ne q5, eqF_ne q6⟩))))))
noncomputable def hRW : Hints := ⟨xmoves, ord177, xcaps, rowsOf xcaps 177⟩
def stV (j : Nat) (lo : Heap) (n : Nat) (i : Int) : FState := ⟨[(j, iv i), (3, iv (Int.ofNat n)), (1, .ptr (.loc 1) 0)], lo, [], 0⟩
def stVX (q j : Nat) (lo : Heap) (n : Nat) (i : Int) : FState := ⟨[(q, bv false), (j, iv i), (3, iv (Int.ofNat n)), (1, .ptr (.loc 1) 0)], lo, [], 0⟩
def stVR : FState := ⟨[(2, bv false)], [], [], 0⟩
theorem rw0_round {k : Int} {nm : List UInt8} {ix : Int} {l : List Ty} {t : Ty} {i : Nat} {c : Bool} (hi : i < (encL l).length) (ht : l[i]? = some t) (hc : Calls1 150 [.dat t.enc] (bv c)) {T : Exit -> AState -> Prop}
  (e1 : c = true -> T .normal ((stV 4 (loR 1 k nm ix (.slice (encL l))) (encL l).length (wrapF .i64 (Int.ofNat i + 1))).toA Tryz.f177.ntmps)) (e2 : c = false -> T .ret (stVR.toA Tryz.f177.ntmps)) :
  KD (roundOf Tryz.f177 0) T ((stV 4 (loR 1 k nm ix (.slice (encL l))) (encL l).length (Int.ofNat i)).toA Tryz.f177.ntmps) := by
 have h1 := ltF_yes hi
 have h2 := idxT ht
 generalize encL l = es at *
 clear ht hi
 obtain ⟨k2, nm2, ix2, a2⟩ := t
 rcases a2 with _ | ⟨b, d⟩ <;>
 ·refine run_of [65] [71] (H := hRW) (live := live177) (by kernel_rfl) ?_; refine ob h1 ?_; refine oo h2 ?_; refine on hc ?_
  cases c
  ·exact oe (e2 rfl)
  exact oe (e1 rfl)
theorem rw0_last {k : Int} {nm : List UInt8} {ix : Int} {l : List Dat} {T : Exit -> AState -> Prop} (e : T (.exit 1) ((stVX 65 4 (loR 1 k nm ix (sl l)) l.length (Int.ofNat l.length)).toA Tryz.f177.ntmps)) :
  KD (roundOf Tryz.f177 0) T ((stV 4 (loR 1 k nm ix (sl l)) l.length (Int.ofNat l.length)).toA Tryz.f177.ntmps) := by
 have h1 := ltF_no (i := l.length) (L := l.length) (by omega)
 rcases l with _ | ⟨x, l⟩
 ·refine run_of [] [] (H := hRW) (live := live177) (by kernel_rfl) ?_; exact oe e
 refine run_of [65] [] (H := hRW) (live := live177) (by kernel_rfl) ?_; refine ob h1 ?_; exact oe e
theorem rw1_round {k : Int} {nm : List UInt8} {ix : Int} {l : List Ty} {t : Ty} {i : Nat} {c : Bool} (hi : i < (encL l).length) (ht : l[i]? = some t) (hc : Calls1 177 [.dat t.enc] (bv c)) {T : Exit -> AState -> Prop}
  (e1 : c = true -> T .normal ((stV 5 (loR 1 k nm ix (.slice (encL l))) (encL l).length (wrapF .i64 (Int.ofNat i + 1))).toA Tryz.f177.ntmps)) (e2 : c = false -> T .ret (stVR.toA Tryz.f177.ntmps)) :
  KD (roundOf Tryz.f177 1) T ((stV 5 (loR 1 k nm ix (.slice (encL l))) (encL l).length (Int.ofNat i)).toA Tryz.f177.ntmps) := by
 have h1 := ltF_yes hi
 have h2 := idxT ht
 generalize encL l = es at *
 clear ht hi
 obtain ⟨k2, nm2, ix2, a2⟩ := t
 rcases a2 with _ | ⟨b, d⟩ <;>
 ·refine run_of [97] [103] (H := hRW) (live := live177) (by kernel_rfl) ?_; refine ob h1 ?_; refine oo h2 ?_; refine on hc ?_
  cases c
  ·exact oe (e2 rfl)
  exact oe (e1 rfl)
theorem rw1_last {k : Int} {nm : List UInt8} {ix : Int} {l : List Dat} {T : Exit -> AState -> Prop} (e : T (.exit 3) ((stVX 97 5 (loR 1 k nm ix (sl l)) l.length (Int.ofNat l.length)).toA Tryz.f177.ntmps)) :
  KD (roundOf Tryz.f177 1) T ((stV 5 (loR 1 k nm ix (sl l)) l.length (Int.ofNat l.length)).toA Tryz.f177.ntmps) := by
 have h1 := ltF_no (i := l.length) (L := l.length) (by omega)
 rcases l with _ | ⟨x, l⟩
 ·refine run_of [] [] (H := hRW) (live := live177) (by kernel_rfl) ?_; exact oe e
 refine run_of [97] [] (H := hRW) (live := live177) (by kernel_rfl) ?_; refine ob h1 ?_; exact oe e
theorem rw_all {k ix : Int} {nm : List UInt8} {l : List Ty} {cp ca : Bool} (hi : Calls1 122 [.dat (sb nm)] (bv (isIdent nm))) (hr : Calls1 123 [.dat (sb nm)] (bv (isResv nm))) (hcp : anyNP l = cp) (hnil : l = [] -> ca = false)
  (hcl : ∀ t r, l = t :: r -> Calls1 178 [.dat t.enc] (bv (firstClosed l)))
  (hl0 : KD (.loop (roundOf Tryz.f177 0)) (fun e s => (e = .exit 1 /\ cp = false /\ s = (stVX 65 4 (loR 1 k nm ix (sl (encL l))) (encL l).length (Int.ofNat (encL l).length)).toA Tryz.f177.ntmps) ∨ (e = .ret /\ cp = true /\ s = stVR.toA Tryz.f177.ntmps)) ((stV 4 (loR 1 k nm ix (sl (encL l))) (encL l).length (Int.ofNat 0)).toA Tryz.f177.ntmps))
  (hl1 : KD (.loop (roundOf Tryz.f177 1)) (fun e s => (e = .exit 3 /\ ca = false /\ s = (stVX 97 5 (loR 1 k nm ix (sl (encL l))) (encL l).length (Int.ofNat (encL l).length)).toA Tryz.f177.ntmps) ∨ (e = .ret /\ ca = true /\ s = stVR.toA Tryz.f177.ntmps)) ((stV 5 (loR 1 k nm ix (sl (encL l))) (encL l).length (Int.ofNat 0)).toA Tryz.f177.ntmps)) :
  Calls1 177 [.dat (Ty.mk k nm ix l).enc] (bv (nodeOk k nm ix l && !ca)) := by
 unfold nodeOk
 rw [hcp]
 clear hcp
 generalize firstClosed l = fc at hcl
 generalize isIdent nm = ci at hi
 generalize isResv nm = cr at hr
 generalize h0 : eqF k 0 = c0
 generalize h1 : eqF k 1 = c1
 generalize h2 : eqF k 2 = c2
 generalize h3 : eqF k 3 = c3
 generalize h4 : eqF k 4 = c4
 generalize h5 : eqF k 5 = c5
 generalize h6 : eqF k 6 = c6
 generalize hn : eqB nm [] = cn
 generalize hx : eqF ix 0 = cx
 generalize hl6 : ltF 6 (Int.ofNat (encL l).length) = l6
 generalize hl2 : ltF (Int.ofNat (encL l).length) 2 = l2
 generalize he0 : eqF (Int.ofNat (encL l).length) 0 = e0
 generalize he2 : eqF (Int.ofNat (encL l).length) 2 = e2
 generalize hx0 : ltF ix 0 = x0
 generalize hx2 : ltF 200 ix = x2
 have hk := kinds k h0 h1 h2 h3 h4 h5 h6
 rcases l with _ | ⟨t, r⟩
 ·have hca := hnil rfl
  subst hca
  have z6 : l6 = false := hl6.symm
  have z2 : l2 = true := hl2.symm
  have z0 : e0 = true := he0.symm
  have y2 : e2 = false := he2.symm
  subst z6
  subst z2
  subst z0
  subst y2
  have hl2' := hl1.mono (Q' := fun e s => e = .exit 3 /\ s = (stVX 97 5 (loR 1 k nm ix (sl (encL []))) (encL []).length (Int.ofNat (encL []).length)).toA Tryz.f177.ntmps) (by
   rintro e s (⟨q1, _, q2⟩ | ⟨_, q, _⟩)
   ·exact ⟨q1, q2⟩
   simp at q)
  clear hcl hnil hl6 hl2 he0 he2 hl1
  rcases hk with ⟨rfl, rfl, rfl, rfl, rfl, rfl, rfl⟩ | ⟨rfl, rfl, rfl, rfl, rfl, rfl, rfl⟩ | ⟨rfl, rfl, rfl, rfl, rfl, rfl, rfl⟩ | ⟨rfl, rfl, rfl, rfl, rfl, rfl, rfl⟩ | ⟨rfl, rfl, rfl, rfl, rfl, rfl, rfl⟩ | ⟨rfl, rfl, rfl, rfl, rfl, rfl, rfl⟩ | ⟨rfl, rfl, rfl, rfl, rfl, rfl, rfl⟩ | ⟨rfl, rfl, rfl, rfl, rfl, rfl, rfl⟩
  ·refine co [11, 15, 20, 24, 30] [] (x := .of Tryz.f177 ord177 live177) ?_; refine ox h2 ?_; refine ox hn ?_
   cases cn
   ·exact fi
   refine ox h5 ?_; refine ox hx ?_
   cases cx
   ·exact fi
   refine ob h0 ?_; exact fi
  ·refine co [11, 15, 20, 24, 30, 31] [] (x := .of Tryz.f177 ord177 live177) ?_; refine ox h2 ?_; refine ox hn ?_
   cases cn
   ·exact fi
   refine ox h5 ?_; refine ox hx ?_
   cases cx
   ·exact fi
   refine ob h0 ?_; refine ob h1 ?_; exact fi
  ·refine co [11, 20, 24, 30, 31, 35, 49] [] (x := .of Tryz.f177 ord177 live177) ?_; refine ox h2 ?_; refine ox h5 ?_; refine ox hx ?_
   cases cx
   ·exact fi
   refine ob h0 ?_; refine ob h1 ?_; refine ob h5 ?_; refine ob h2 ?_; refine on hi ?_
   cases ci
   ·exact fi
   refine on hr ?_
   cases cr
   ·refine lo hl0 ?_
    rintro ex s (⟨rfl, rfl, rfl⟩ | ⟨rfl, rfl, rfl⟩)
    ·refine ⟨_, rfl, ?_⟩; refine lo hl2' ?_; rintro ex s ⟨rfl, rfl⟩; refine ⟨_, rfl, ?_⟩; exact fi
    refine ⟨_, rfl, ?_⟩; exact fi
   exact fi
  ·refine co [11, 15, 20, 24, 30, 31, 35, 49, 76] [] (x := .of Tryz.f177 ord177 live177) ?_; refine ox h2 ?_; refine ox hn ?_
   cases cn
   ·exact fi
   refine ox h5 ?_; refine ox hx ?_
   cases cx
   ·exact fi
   refine ob h0 ?_; refine ob h1 ?_; refine ob h5 ?_; refine ob h2 ?_; refine ob h3 ?_; refine lo hl2' ?_; rintro ex s ⟨rfl, rfl⟩; refine ⟨_, rfl, ?_⟩; exact fi
  ·refine co [11, 15, 20, 24, 30, 31, 35, 49, 76, 80] [] (x := .of Tryz.f177 ord177 live177) ?_; refine ox h2 ?_; refine ox hn ?_
   cases cn
   ·exact fi
   refine ox h5 ?_; refine ox hx ?_
   cases cx
   ·exact fi
   refine ob h0 ?_; refine ob h1 ?_; refine ob h5 ?_; refine ob h2 ?_; refine ob h3 ?_; refine ob h4 ?_; exact fi
  ·refine co [11, 15, 20, 30, 31, 35, 41, 46] [] (x := .of Tryz.f177 ord177 live177) ?_; refine ox h2 ?_; refine ox hn ?_
   cases cn
   ·exact fi
   refine ox h5 ?_; refine ob h0 ?_; refine ob h1 ?_; refine ob h5 ?_; refine ox hx0 ?_
   cases x0
   ·refine ox hx2 ?_
    cases x2 <;>
    ·exact fi
   exact fi
  ·refine co [11, 15, 20, 24, 30, 31, 35, 49, 76, 80, 84] [] (x := .of Tryz.f177 ord177 live177) ?_; refine ox h2 ?_; refine ox hn ?_
   cases cn
   ·exact fi
   refine ox h5 ?_; refine ox hx ?_
   cases cx
   ·exact fi
   refine ob h0 ?_; refine ob h1 ?_; refine ob h5 ?_; refine ob h2 ?_; refine ob h3 ?_; refine ob h4 ?_; refine ob h6 ?_; exact fi
  refine co [11, 15, 20, 24, 30, 31, 35, 49, 76, 80, 84] [] (x := .of Tryz.f177 ord177 live177) ?_; refine ox h2 ?_; refine ox hn ?_
  cases cn
  ·exact fi
  refine ox h5 ?_; refine ox hx ?_
  cases cx
  ·exact fi
  refine ob h0 ?_; refine ob h1 ?_; refine ob h5 ?_; refine ob h2 ?_; refine ob h3 ?_; refine ob h4 ?_; refine ob h6 ?_; exact fi
 have hcl2 := hcl t r rfl
 have z0 : e0 = false := he0.symm
 subst z0
 have g0 := idxT (l := t :: r) (i := 0) rfl
 clear hcl hnil he0
 obtain ⟨tk, tn, tix, ta⟩ := t
 rcases ta with _ | ⟨y, ta⟩ <;>
 ·rcases hk with ⟨rfl, rfl, rfl, rfl, rfl, rfl, rfl⟩ | ⟨rfl, rfl, rfl, rfl, rfl, rfl, rfl⟩ | ⟨rfl, rfl, rfl, rfl, rfl, rfl, rfl⟩ | ⟨rfl, rfl, rfl, rfl, rfl, rfl, rfl⟩ | ⟨rfl, rfl, rfl, rfl, rfl, rfl, rfl⟩ | ⟨rfl, rfl, rfl, rfl, rfl, rfl, rfl⟩ | ⟨rfl, rfl, rfl, rfl, rfl, rfl, rfl⟩ | ⟨rfl, rfl, rfl, rfl, rfl, rfl, rfl⟩
  ·refine co [11, 15, 20, 24, 30] [] (x := .of Tryz.f177 ord177 live177) ?_; refine ox h2 ?_; refine ox hn ?_
   cases cn
   ·exact fi
   refine ox h5 ?_; refine ox hx ?_
   cases cx
   ·exact fi
   refine ob h0 ?_; exact fi
  ·refine co [11, 15, 20, 24, 30, 31] [] (x := .of Tryz.f177 ord177 live177) ?_; refine ox h2 ?_; refine ox hn ?_
   cases cn
   ·exact fi
   refine ox h5 ?_; refine ox hx ?_
   cases cx
   ·exact fi
   refine ob h0 ?_; refine ob h1 ?_; exact fi
  ·refine co [11, 20, 24, 30, 31, 35, 49, 61] [] (x := .of Tryz.f177 ord177 live177) ?_; refine ox h2 ?_; refine ox h5 ?_; refine ox hx ?_
   cases cx
   ·exact fi
   refine ob h0 ?_; refine ob h1 ?_; refine ob h5 ?_; refine ob h2 ?_; refine on hi ?_
   cases ci
   ·exact fi
   refine on hr ?_
   cases cr
   ·refine ob hl6 ?_
    cases l6
    ·refine lo hl0 ?_
     rintro ex s (⟨rfl, rfl, rfl⟩ | ⟨rfl, rfl, rfl⟩)
     ·refine ⟨_, rfl, ?_⟩; refine lo hl1 ?_
      rintro ex s (⟨rfl, rfl, rfl⟩ | ⟨rfl, rfl, rfl⟩) <;>
      ·refine ⟨_, rfl, ?_⟩; exact fi
     refine ⟨_, rfl, ?_⟩; exact fi
    exact fi
   exact fi
  ·refine co [11, 15, 20, 24, 30, 31, 35, 49, 76, 78] [] (x := .of Tryz.f177 ord177 live177) ?_; refine ox h2 ?_; refine ox hn ?_
   cases cn
   ·exact fi
   refine ox h5 ?_; refine ox hx ?_
   cases cx
   ·exact fi
   refine ob h0 ?_; refine ob h1 ?_; refine ob h5 ?_; refine ob h2 ?_; refine ob h3 ?_; refine ob hl6 ?_
   cases l6
   ·refine lo hl1 ?_
    rintro ex s (⟨rfl, rfl, rfl⟩ | ⟨rfl, rfl, rfl⟩) <;>
    ·refine ⟨_, rfl, ?_⟩; exact fi
   exact fi
  ·refine co [11, 15, 20, 24, 30, 31, 35, 49, 76, 80, 82] [] (x := .of Tryz.f177 ord177 live177) ?_; refine ox h2 ?_; refine ox hn ?_
   cases cn
   ·exact fi
   refine ox h5 ?_; refine ox hx ?_
   cases cx
   ·exact fi
   refine ob h0 ?_; refine ob h1 ?_; refine ob h5 ?_; refine ob h2 ?_; refine ob h3 ?_; refine ob h4 ?_; refine ob hl2 ?_
   cases l2
   ·refine lo hl1 ?_
    rintro ex s (⟨rfl, rfl, rfl⟩ | ⟨rfl, rfl, rfl⟩) <;>
    ·refine ⟨_, rfl, ?_⟩; exact fi
   exact fi
  ·refine co [11, 15, 20, 30, 31, 35] [] (x := .of Tryz.f177 ord177 live177) ?_; refine ox h2 ?_; refine ox hn ?_
   cases cn
   ·exact fi
   refine ox h5 ?_; refine ob h0 ?_; refine ob h1 ?_; refine ob h5 ?_; exact fi
  ·refine co [11, 15, 20, 24, 30, 31, 35, 49, 76, 80, 84, 86] [90] (x := .of Tryz.f177 ord177 live177) ?_; refine ox h2 ?_; refine ox hn ?_
   cases cn
   ·exact fi
   refine ox h5 ?_; refine ox hx ?_
   cases cx
   ·exact fi
   refine ob h0 ?_; refine ob h1 ?_; refine ob h5 ?_; refine ob h2 ?_; refine ob h3 ?_; refine ob h4 ?_; refine ob h6 ?_; refine ox he2 ?_
   cases e2
   ·exact fi
   refine oo g0 ?_; refine on hcl2 ?_
   cases fc
   ·exact fi
   refine lo hl1 ?_
   rintro ex s (⟨rfl, rfl, rfl⟩ | ⟨rfl, rfl, rfl⟩) <;>
   ·refine ⟨_, rfl, ?_⟩; exact fi
  refine co [11, 15, 20, 24, 30, 31, 35, 49, 76, 80, 84] [] (x := .of Tryz.f177 ord177 live177) ?_; refine ox h2 ?_; refine ox hn ?_
  cases cn
  ·exact fi
  refine ox h5 ?_; refine ox hx ?_
  cases cx
  ·exact fi
  refine ob h0 ?_; refine ob h1 ?_; refine ob h5 ?_; refine ob h2 ?_; refine ob h3 ?_; refine ob h4 ?_; refine ob h6 ?_; exact fi
theorem anyNV_drop {l : List Ty} {i : Nat} {t : Ty} (h : l[i]? = some t) : anyNV (l.drop i) = (!t.valid || anyNV (l.drop (i + 1))) := by rw [dropA_get h, anyNV]
mutual
theorem r_well : ∀ t : Ty, t.fine -> Calls1 177 [.dat t.enc] (bv t.valid)
 | .mk k nm ix l, h => by
  obtain ⟨h1, h2⟩ := h
  simp only [Ty.size] at h1
  simp only [Ty.ixOk] at h2
  have ih := r_wellL l (by omega) h2.2
  have ihp := r_plainL l (by omega) h2.2
  have hlen := len_size l
  have hcl : ∀ t r, l = t :: r -> Calls1 178 [.dat t.enc] (bv (firstClosed l)) := by
   rintro t r rfl
   simp only [sizeL] at h1
   simp only [ixOkL] at h2
   exact r_closed0 ⟨by omega, h2.2.1⟩
  rw [Ty.valid]
  refine rw_all (cp := anyNP l) (r_ident nm) (r_key nm) rfl (by rintro rfl; rw [anyNV]) hcl ?_ ?_
  ·refine loop_inv (St := fun i => (stV 4 (loR 1 k nm ix (sl (encL l))) (encL l).length (Int.ofNat i)).toA Tryz.f177.ntmps) (fun i => anyNP l = anyNP (l.drop i)) (encL l).length ?_ ?_ (i := 0) (Nat.zero_le _) rfl
   ·intro i hi hI
    obtain ⟨t, ht, hm⟩ := get_mem hi
    have hd := anyNP_drop ht
    rw [← hI] at hd
    have hsl := sl_cons hi
    have hw : wrapF .i64 (Int.ofNat i + 1) = Int.ofNat (i + 1) := wrap_of (by rw [encL_length] at hi; omega)
    have hc := ihp t hm
    rw [hsl]
    generalize t.plain = c at hc hd
    refine rw0_round hi ht hc ?_ ?_
    ·rintro rfl
     rw [hw]
     exact ⟨rfl, hd⟩
    rintro rfl
    exact .inr ⟨rfl, hd, rfl⟩
   intro hI
   refine rw0_last (.inl ⟨rfl, ?_, rfl⟩)
   rw [hI, encL_length, List.drop_length, anyNP]
  refine loop_inv (St := fun i => (stV 5 (loR 1 k nm ix (sl (encL l))) (encL l).length (Int.ofNat i)).toA Tryz.f177.ntmps) (fun i => anyNV l = anyNV (l.drop i)) (encL l).length ?_ ?_ (i := 0) (Nat.zero_le _) rfl
  ·intro i hi hI
   obtain ⟨t, ht, hm⟩ := get_mem hi
   have hd := anyNV_drop ht
   rw [← hI] at hd
   have hsl := sl_cons hi
   have hw : wrapF .i64 (Int.ofNat i + 1) = Int.ofNat (i + 1) := wrap_of (by rw [encL_length] at hi; omega)
   have hc := ih t hm
   rw [hsl]
   generalize t.valid = c at hc hd
   refine rw1_round hi ht hc ?_ ?_
   ·rintro rfl
    rw [hw]
    exact ⟨rfl, hd⟩
   rintro rfl
   exact .inr ⟨rfl, hd, rfl⟩
  intro hI
  refine rw1_last (.inl ⟨rfl, ?_, rfl⟩)
  rw [hI, encL_length, List.drop_length, anyNV]
theorem r_wellL : ∀ l : List Ty, sizeL l < 100000000 -> ixOkL l -> ∀ t ∈ l, Calls1 177 [.dat t.enc] (bv t.valid)
 | [], _, _, t, ht => by simp at ht
 | u :: r, h, hx, t, ht => by
  simp only [sizeL] at h
  simp only [ixOkL] at hx
  rcases List.mem_cons.1 ht with h1 | ht
  ·rw [h1]; exact r_well u ⟨by omega, hx.1⟩
  exact r_wellL r (by omega) hx.2 t ht
end
def valSel (cn cm c : Bool) : Int := match cn || cm with | true => 4 | false => (match c with | true => 0 | false => 2)
theorem val_sel (t : Ty) : t.validate = valSel (ltF 200 (Int.ofNat t.size)) (ltF 12 (Int.ofNat t.depth)) t.valid := by
 unfold Ty.validate valSel
 cases (ltF 200 (Int.ofNat t.size) || ltF 12 (Int.ofNat t.depth)) <;> cases t.valid <;> rfl
theorem rv_of {k ix : Int} {nm : List UInt8} {l : List Dat} {n m : Int} {cn cm c : Bool} (h1 : Calls1 175 [.dat (.agg [i64 k, sb nm, i64 ix, sl l])] (iv n)) (hn : ltF 200 n = cn) (h2 : Calls1 176 [.dat (.agg [i64 k, sb nm, i64 ix, sl l])] (iv m)) (hm : ltF 12 m = cm)
  (h3 : Calls1 177 [.dat (.agg [i64 k, sb nm, i64 ix, sl l])] (bv c)) : Calls1 149 [.dat (.agg [i64 k, sb nm, i64 ix, sl l])] (iv (valSel cn cm c)) := by
 rcases l with _ | ⟨x, l⟩ <;>
 ·refine co [6, 10] [] (x := .of Tryz.f149 ord149 live149) ?_; refine on h1 ?_; refine ob hn ?_
  cases cn
  ·refine on h2 ?_; refine ob hm ?_
   cases cm
   ·refine on h3 ?_
    cases c <;>
    ·exact fi
   exact fi
  exact fi
theorem r_validate {t : Ty} (h : t.fine) : Calls1 149 [.dat t.enc] (iv t.validate) := by
 have h1 := r_size t (by have := h.1; omega)
 have h2 := r_depth t (by have := h.1; omega)
 have h3 := r_well t h
 rw [val_sel]
 obtain ⟨k, nm, ix, l⟩ := t
 exact rv_of h1 rfl h2 rfl h3
theorem rvp_of {k ix ar v y : Int} {nm : List UInt8} {l fv : List Dat} {c1 c2 c3 : Bool} (h0 : Calls1 148 [.dat (.agg [i64 k, sb nm, i64 ix, sl l])] (.dat (sl fv))) (h1 : Calls1 149 [.dat (.agg [i64 k, sb nm, i64 ix, sl l])] (iv v)) (hv : eqF v 0 = c1)
  (h2 : Calls1 150 [.dat (.agg [i64 k, sb nm, i64 ix, sl l])] (bv c2)) (hi : fv ≠ [] -> aIndexAddr (env Prims.fast) 22 [.dat (.slice fv), .dat (.flat (.int .i64 (wrapF .i64 (Int.ofNat fv.length - 1))))] = some ⟨.ref [iN y], .keep⟩) (h3 : ltF y ar = c3) :
  Calls1 124 [.dat (.agg [i64 k, sb nm, i64 ix, sl l]), iv ar] (bv (c1 && (c2 && (isE fv || c3)))) := by
 rcases fv with _ | ⟨x, fv⟩
 ·clear hi
  rcases l with _ | ⟨z, l⟩ <;>
  ·refine co [10] [] (x := .of Tryz.f124 ord124 live124) ?_; refine on h0 ?_; refine on h1 ?_; refine ob hv ?_
   cases c1
   ·exact fi
   refine on h2 ?_
   cases c2 <;>
   ·exact fi
 have hj := hi (by simp)
 clear hi
 rcases l with _ | ⟨z, l⟩ <;>
 ·refine co [10, 27] [24] (x := .of Tryz.f124 ord124 live124) ?_; refine on h0 ?_; refine on h1 ?_; refine ob hv ?_
  cases c1
  ·exact fi
  refine on h2 ?_
  cases c2
  ·exact fi
  refine oo hj ?_; refine ob h3 ?_
  cases c3 <;>
  ·exact fi
theorem last_any : ∀ {l : List Int} {y ar : Int}, l.Pairwise (· <= ·) -> l.getLast? = some y -> l.any (fun x => !ltF x ar) = !ltF y ar
 | [], y, ar, _, h => by simp at h
 | [x], y, ar, _, h => by simp at h; subst h; simp
 | x :: z :: r, y, ar, hs, h => by
  rw [List.getLast?_cons_cons] at h
  rw [List.any_cons, last_any (List.pairwise_cons.1 hs).2 h]
  have hm : y ∈ z :: r := List.mem_of_getLast? h
  have hxy := (List.pairwise_cons.1 hs).1 y hm
  rw [ltF_eq, ltF_eq]
  by_cases h1 : y < ar
  ·rw [decide_eq_true h1, decide_eq_true (by omega)]; rfl
  rw [decide_eq_false h1]; simp
theorem r_VP {t : Ty} {ar : Int} (h : t.fine) : Calls1 124 [.dat t.enc, iv ar] (bv (t.over ar)) := by
 have h0 := r_termFree h.1 h.2
 have h1 := r_validate h
 have h2 := r_plain t h
 have hs := (fv_set (t := t)).1
 have hlen := (fv_set (t := t)).2
 have hsz := h.1
 unfold Ty.over
 generalize t.validate = v at *
 generalize t.plain = c2 at *
 generalize t.fv = fv at *
 obtain ⟨k, nm, ix, l⟩ := t
 have key : ∃ y, (fv ≠ [] -> fv.getLast? = some y) := by
  cases hf : fv.getLast? with
  | none => exact ⟨0, fun h => absurd (List.getLast?_eq_none_iff.1 hf) h⟩
  | some y => exact ⟨y, fun _ => rfl⟩
 obtain ⟨y, hy⟩ := key
 have h := rvp_of (y := y) (ar := ar) h0 h1 rfl h2 (fun hne => by
  have hne2 : fv ≠ [] := by rintro rfl; exact hne rfl
  have hl := hy hne2
  have hw : wrapF .i64 (Int.ofNat (fv.map iN).length - 1) = Int.ofNat (fv.length - 1) := by
   have hp : 0 < fv.length := List.length_pos_iff.2 hne2
   rw [List.length_map, wrapF_eq, wrap_i64 (by simp; omega) (by simp; omega)]
   simp; omega
  rw [hw]
  exact idxI (by rw [List.getLast?_eq_getElem?] at hl; exact hl)) rfl
 have e : (isE (fv.map iN) || ltF y ar) = !(fv.any (fun x => !ltF x ar)) := by
  cases fv with
  | nil => simp [isE]
  | cons x r =>
   rw [last_any hs (hy (by simp))]
   simp [isE]
 rw [e] at h
 exact h
noncomputable def hVD : Hints := ⟨xmoves, ord93, xcaps, rowsOf xcaps 93⟩
def loV (cs : List AVal) : Heap := [(.loc 1, .cells cs)]
def stVd (lo : Heap) (i : Int) : FState := ⟨[(3, iv i), (1, .ptr (.loc 1) 0)], lo, [], 0⟩
def stVdX (lo : Heap) (i : Int) : FState := ⟨[(53, bv false), (3, iv i), (1, .ptr (.loc 1) 0)], lo, [], 0⟩
def stVdR : FState := ⟨[(2, bv false)], [], [], 0⟩
def stVk (lo : Heap) (i k : Int) : FState := ⟨[(4, iv k), (3, iv i), (1, .ptr (.loc 1) 0)], lo, [], 0⟩
def stVkX (lo : Heap) (i k : Int) : FState := ⟨[(78, bv false), (4, iv k), (3, iv i), (1, .ptr (.loc 1) 0)], lo, [], 0⟩
theorem vk_round {nm nm2 : List UInt8} {ar kk ix : Int} {A : Dat} {con : Bool} {l : List Fld} {t u : Fld} {i k : Nat} {c : Bool} {T : Exit -> AState -> Prop} (hk : k < i) (ht : l[k]? = some t) (hu : l[i]? = some u) (hc : eqB t.nm u.nm = c)
  (e1 : c = false -> T .normal ((stVk (loV (cellsR nm ar kk nm2 ix A con (.slice (encF l)))) (Int.ofNat i) (wrapF .i64 (Int.ofNat k + 1))).toA Tryz.f93.ntmps)) (e2 : c = true -> T .ret (stVdR.toA Tryz.f93.ntmps)) :
  KD (roundOf Tryz.f93 1) T ((stVk (loV (cellsR nm ar kk nm2 ix A con (.slice (encF l)))) (Int.ofNat i) (Int.ofNat k)).toA Tryz.f93.ntmps) := by
 have h1 := ltF_yes hk
 have h2 := idxF ht
 have h3 := idxF hu
 generalize encF l = es at *
 clear ht hu hk
 obtain ⟨fn, tk, tn', tix, ta⟩ := t
 obtain ⟨gn, uk, un', uix, ua⟩ := u
 refine run_of [78, 93] [84, 90] (H := hVD) (live := live93) (by kernel_rfl) ?_; refine ob h1 ?_; refine oo h2 ?_; refine oo h3 ?_; refine ob hc ?_
 cases c
 ·exact oe (e1 rfl)
 exact oe (e2 rfl)
theorem vk_last {nm nm2 : List UInt8} {ar kk ix : Int} {A B : Dat} {con : Bool} {i : Nat} {T : Exit -> AState -> Prop} (e : T (.exit 2) ((stVkX (loV (cellsR nm ar kk nm2 ix A con B)) (Int.ofNat i) (Int.ofNat i)).toA Tryz.f93.ntmps)) :
  KD (roundOf Tryz.f93 1) T ((stVk (loV (cellsR nm ar kk nm2 ix A con B)) (Int.ofNat i) (Int.ofNat i)).toA Tryz.f93.ntmps) := by
 have h1 := ltF_no (i := i) (L := i) (by omega)
 refine run_of [78] [] (H := hVD) (live := live93) (by kernel_rfl) ?_; refine ob h1 ?_; exact oe e
def anyNm (nm : List UInt8) (l : List Fld) : Bool := l.any (fun f => eqB f.nm nm)
theorem vk_loop {nm nm2 : List UInt8} {ar kk ix : Int} {A : Dat} {con : Bool} {l : List Fld} {u : Fld} {i : Nat} (hu : l[i]? = some u) (hn : l.length < 1000000000) :
  KD (.loop (roundOf Tryz.f93 1)) (fun e s => (e = .exit 2 /\ anyNm u.nm (l.take i) = false /\ s = (stVkX (loV (cellsR nm ar kk nm2 ix A con (.slice (encF l)))) (Int.ofNat i) (Int.ofNat i)).toA Tryz.f93.ntmps) ∨ (e = .ret /\ anyNm u.nm (l.take i) = true /\ s = stVdR.toA Tryz.f93.ntmps))
   ((stVk (loV (cellsR nm ar kk nm2 ix A con (.slice (encF l)))) (Int.ofNat i) (Int.ofNat 0)).toA Tryz.f93.ntmps) := by
 have hil := (List.getElem?_eq_some_iff.1 hu).1
 refine loop_inv (St := fun k => (stVk (loV (cellsR nm ar kk nm2 ix A con (.slice (encF l)))) (Int.ofNat i) (Int.ofNat k)).toA Tryz.f93.ntmps) (fun k => anyNm u.nm (l.take k) = false) i ?_ ?_ (i := 0) (Nat.zero_le _) rfl
 ·intro k hk hI
  have ht : l[k]? = some l[k] := List.getElem?_eq_getElem (by omega)
  have htk := take_get ht
  have hw : wrapF .i64 (Int.ofNat k + 1) = Int.ofNat (k + 1) := wrap_of (by omega)
  refine vk_round hk ht hu rfl ?_ ?_
  ·intro hc
   rw [hw]
   refine ⟨rfl, ?_⟩
   rw [htk]
   unfold anyNm at hI ⊢
   rw [List.any_append, hI]
   simp [hc]
  intro hc
  refine .inr ⟨rfl, ?_, rfl⟩
  unfold anyNm
  rw [List.any_eq_true]
  refine ⟨l[k], ?_, hc⟩
  rw [List.mem_take_iff_getElem]
  exact ⟨k, by omega, rfl⟩
 intro hI
 exact vk_last (.inl ⟨rfl, hI, rfl⟩)
theorem vd_round {nm nm2 : List UInt8} {ar k ix : Int} {A : Dat} {con : Bool} {l : List Fld} {t : Fld} {i : Nat} {c1 c2 c3 : Bool} {T : Exit -> AState -> Prop} (hi : i < (encF l).length) (ht : l[i]? = some t) (hn : Calls1 122 [.dat (sb t.nm)] (bv c1)) (hc : Calls1 124 [.dat t.ty.enc, iv ar] (bv c2))
  (hl : KD (.loop (roundOf Tryz.f93 1)) (fun e s => (e = .exit 2 /\ c3 = false /\ s = (stVkX (loV (cellsR nm ar k nm2 ix A con (.slice (encF l)))) (Int.ofNat i) (Int.ofNat i)).toA Tryz.f93.ntmps) ∨ (e = .ret /\ c3 = true /\ s = stVdR.toA Tryz.f93.ntmps))
   ((stVk (loV (cellsR nm ar k nm2 ix A con (.slice (encF l)))) (Int.ofNat i) (Int.ofNat 0)).toA Tryz.f93.ntmps))
  (e1 : (c1 && (c2 && !c3)) = true -> T .normal ((stVd (loV (cellsR nm ar k nm2 ix A con (.slice (encF l)))) (wrapF .i64 (Int.ofNat i + 1))).toA Tryz.f93.ntmps)) (e2 : (c1 && (c2 && !c3)) = false -> T .ret (stVdR.toA Tryz.f93.ntmps)) :
  KD (roundOf Tryz.f93 0) T ((stVd (loV (cellsR nm ar k nm2 ix A con (.slice (encF l)))) (Int.ofNat i)).toA Tryz.f93.ntmps) := by
 have h1 := ltF_yes hi
 have h2 := idxF ht
 generalize encF l = es at *
 clear ht hi
 obtain ⟨fn, tk, tn', tix, ta⟩ := t
 rcases ta with _ | ⟨b, d⟩ <;>
 ·refine run_of [53] [59, 68] (H := hVD) (live := live93) (by kernel_rfl) ?_; refine ob h1 ?_; refine oo h2 ?_; refine on hn ?_
  cases c1
  ·exact oe (e2 rfl)
  refine oo h2 ?_; refine on hc ?_
  cases c2
  ·exact oe (e2 rfl)
  refine lo hl ?_
  rintro ex s (⟨rfl, rfl, rfl⟩ | ⟨rfl, rfl, rfl⟩)
  ·refine ⟨_, rfl, ?_⟩; exact oe (e1 rfl)
  refine ⟨_, rfl, ?_⟩; exact oe (e2 rfl)
theorem vd_last {nm nm2 : List UInt8} {ar k ix : Int} {A : Dat} {con : Bool} {l : List Dat} {T : Exit -> AState -> Prop} (e : T (.exit 0) ((stVdX (loV (cellsR nm ar k nm2 ix A con (sl l))) (Int.ofNat l.length)).toA Tryz.f93.ntmps)) :
  KD (roundOf Tryz.f93 0) T ((stVd (loV (cellsR nm ar k nm2 ix A con (sl l))) (Int.ofNat l.length)).toA Tryz.f93.ntmps) := by
 have h1 := ltF_no (i := l.length) (L := l.length) (by omega)
 rcases l with _ | ⟨x, l⟩
 ·refine run_of [] [] (H := hVD) (live := live93) (by kernel_rfl) ?_; exact oe e
 refine run_of [53] [] (H := hVD) (live := live93) (by kernel_rfl) ?_; refine ob h1 ?_; exact oe e
theorem vd_all {nm nm2 : List UInt8} {ar k ix : Int} {la lb : List Dat} {con c1 c2 c3 c4 c5 c6 c7 d : Bool} (h1 : Calls1 122 [.dat (sb nm)] (bv c1)) (h2 : Calls1 123 [.dat (sb nm)] (bv c2)) (h3 : ltF ar 0 = c3) (h4 : lenP lb = c4) (h5 : eqF k 2 = c5)
  (h6 : Calls1 24 [.dat (.agg [i64 k, sb nm2, i64 ix, sl la]), .dat (Ty.mk 0 [] 0 []).enc] (bv c6)) (h7 : Calls1 124 [.dat (.agg [i64 k, sb nm2, i64 ix, sl la]), iv ar] (bv c7))
  (hl : KD (.loop (roundOf Tryz.f93 0)) (fun e s => (e = .exit 0 /\ d = true /\ s = (stVdX (loV (cellsR nm ar k nm2 ix (sl la) con (sl lb))) (Int.ofNat lb.length)).toA Tryz.f93.ntmps) ∨ (e = .ret /\ d = false /\ s = stVdR.toA Tryz.f93.ntmps)) ((stVd (loV (cellsR nm ar k nm2 ix (sl la) con (sl lb))) (Int.ofNat 0)).toA Tryz.f93.ntmps)) :
  Calls1 93 [.dat (dRaw nm ar k nm2 ix la con lb)] (bv (c1 && (!c2 && (!c3 && (!(!con && c4) && ((c5 || c6) && (c7 && d))))))) := by
 have q1 := bx_decl nm ar k nm2 ix la con lb
 have q3 := ld_sup false 1 nm ar k nm2 ix la con lb
 have q4 := g_Any
 rcases lb with _ | ⟨y, lb⟩
 ·have z : c4 = false := h4.symm
  subst z
  clear h4
  refine co [17, 33] [1, 43, 36] (x := .of Tryz.f93 ord93 live93) ?_; refine oo q1 ?_; refine on h1 ?_
  cases c1
  ·exact fi
  refine on h2 ?_
  cases c2
  ·refine ob h3 ?_
   cases c3
   ·cases con <;>
    ·refine ox h5 ?_
     cases c5
     ·refine oo q3 ?_; refine on q4 ?_; refine on h6 ?_
      cases c6
      ·exact fi
      refine oo q3 ?_; refine on h7 ?_
      cases c7
      ·exact fi
      refine lo hl ?_
      rintro ex s (⟨rfl, rfl, rfl⟩ | ⟨rfl, rfl, rfl⟩) <;>
      ·refine ⟨_, rfl, ?_⟩; exact fi
     refine oo q3 ?_; refine on h7 ?_
     cases c7
     ·exact fi
     refine lo hl ?_
     rintro ex s (⟨rfl, rfl, rfl⟩ | ⟨rfl, rfl, rfl⟩) <;>
     ·refine ⟨_, rfl, ?_⟩; exact fi
   exact fi
  exact fi
 have z : c4 = true := h4.symm
 subst z
 clear h4
 refine co [17, 33] [1, 43, 36] (x := .of Tryz.f93 ord93 live93) ?_; refine oo q1 ?_; refine on h1 ?_
 cases c1
 ·exact fi
 refine on h2 ?_
 cases c2
 ·refine ob h3 ?_
  cases c3
  ·cases con
   ·exact fi
   refine ox h5 ?_
   cases c5
   ·refine oo q3 ?_; refine on q4 ?_; refine on h6 ?_
    cases c6
    ·exact fi
    refine oo q3 ?_; refine on h7 ?_
    cases c7
    ·exact fi
    refine lo hl ?_
    rintro ex s (⟨rfl, rfl, rfl⟩ | ⟨rfl, rfl, rfl⟩) <;>
    ·refine ⟨_, rfl, ?_⟩; exact fi
   refine oo q3 ?_; refine on h7 ?_
   cases c7
   ·exact fi
   refine lo hl ?_
   rintro ex s (⟨rfl, rfl, rfl⟩ | ⟨rfl, rfl, rfl⟩) <;>
   ·refine ⟨_, rfl, ?_⟩; exact fi
  exact fi
 exact fi
theorem seen_any (nm : List UInt8) : ∀ l : List Fld, seenB l nm = anyNm nm l
 | [] => rfl
 | f :: r => by
  have ih := seen_any nm r
  unfold anyNm at ih ⊢
  unfold seenB
  rw [List.any_cons, ← ih]
  have e : eqB f.nm nm = eqB nm f.nm := by
   rw [Bool.eq_iff_iff, eqB_eq, eqB_eq, beq_iff_eq, beq_iff_eq]
   exact eq_comm
  rw [e]
  cases eqB nm f.nm <;> rfl
theorem vd_loop {nm nm2 : List UInt8} {ar k ix : Int} {A B : Dat} {con : Bool} {l : List Fld} (hb : B = sl (encF l)) (hn : l.length < 1000000000) (hf : ∀ f ∈ l, f.ty.fine) :
  KD (.loop (roundOf Tryz.f93 0)) (fun e s => (e = .exit 0 /\ wfL ar [] l = true /\ s = (stVdX (loV (cellsR nm ar k nm2 ix A con B)) (Int.ofNat (encF l).length)).toA Tryz.f93.ntmps) ∨ (e = .ret /\ wfL ar [] l = false /\ s = stVdR.toA Tryz.f93.ntmps)) ((stVd (loV (cellsR nm ar k nm2 ix A con B)) (Int.ofNat 0)).toA Tryz.f93.ntmps) := by
 refine loop_inv (St := fun i => (stVd (loV (cellsR nm ar k nm2 ix A con B)) (Int.ofNat i)).toA Tryz.f93.ntmps) (fun i => wfL ar [] l = wfL ar (l.take i) (l.drop i)) (encF l).length ?_ ?_ (i := 0) (Nat.zero_le _) (by simp)
 ·intro i hi hI
  obtain ⟨t, ht, hm⟩ := getF_mem hi
  have hd := wfL_drop (ar := ar) ht
  rw [← hI] at hd
  have hw : wrapF .i64 (Int.ofNat i + 1) = Int.ofNat (i + 1) := wrap_of (by rw [encF_length] at hi; omega)
  have hb2 : B = .slice (encF l) := by
   rw [hb]
   cases l with
   | nil => simp at ht
   | cons x r => rfl
  subst hb2
  have e : (isIdent t.nm && (!seenB (l.take i) t.nm && t.ty.over ar)) = (isIdent t.nm && (t.ty.over ar && !anyNm t.nm (l.take i))) := by
   rw [seen_any, Bool.and_comm (!anyNm t.nm (l.take i))]
  rw [e] at hd
  refine vd_round hi ht (r_ident t.nm) (r_VP (hf t hm)) (vk_loop ht hn) ?_ ?_
  ·intro hc
   rw [hw]
   refine ⟨rfl, ?_⟩
   rw [hd, hc, Bool.true_and]
  intro hc
  refine .inr ⟨rfl, ?_, rfl⟩
  rw [hd, hc, Bool.false_and]
 intro hI
 rw [hb]
 refine vd_last (.inl ⟨rfl, ?_, rfl⟩)
 rw [hI, encF_length, List.drop_length]
 rfl
theorem over_kind {t : Ty} {ar : Int} (h : t.over ar = true) (hk : eqF t.kind 0 = true) : t = .mk 0 [] 0 [] := by
 obtain ⟨k, nm, ix, l⟩ := t
 have hk2 : k = 0 := eqF_to hk
 subst hk2
 unfold Ty.over at h
 simp only [Bool.and_eq_true] at h
 have h1 := eqF_to h.1
 unfold Ty.validate at h1
 split at h1
 ·simp at h1
 split at h1
 ·rename_i hv
  rw [Ty.valid, Bool.and_eq_true] at hv
  have hn := hv.1
  unfold nodeOk at hn
  split at hn
  ·simp at hn
  rename_i g1
  split at hn
  ·simp at hn
  rename_i g2
  split at hn
  ·have g3 := eqF_to hn
   rw [encL_length] at g3
   have g4 : l = [] := List.length_eq_zero_iff.1 (Int.ofNat.inj (g3.trans (show (0 : Int) = Int.ofNat 0 from rfl)))
   subst g4
   have g5 : eqB nm [] = true := by
    cases hh : eqB nm [] with
    | true => rfl
    | false => exact absurd (by rw [hh]; rfl) g1
   have g6 : eqF ix 0 = true := by
    cases hh : eqF ix 0 with
    | true => rfl
    | false => exact absurd (by rw [hh]; rfl) g2
   rw [eqB_to g5, eqF_to g6]
  rename_i g3
  exact absurd (by rfl) g3
 simp at h1
theorem r_validDecl {d : Dcl} (h : d.fine) : Calls1 93 [.dat d.enc] (bv d.wf) := by
 have h6 := r_equalT d.sup (.mk 0 [] 0 []) (by have := h.1.1; omega)
 have h7 := r_VP (ar := d.ar) h.1
 have hf := h.2.1
 have hn := h.2.2
 have e : ((eqF d.sup.kind 2 || eqT d.sup (.mk 0 [] 0 [])) && (d.sup.over d.ar && wfL d.ar [] d.fl)) = ((eqF d.sup.kind 0 || eqF d.sup.kind 2) && (d.sup.over d.ar && wfL d.ar [] d.fl)) := by
  cases ho : d.sup.over d.ar with
  | false => simp
  | true =>
   have hh : eqT d.sup (.mk 0 [] 0 []) = eqF d.sup.kind 0 := by
    rw [Bool.eq_iff_iff, eqT_iff]
    constructor
    ·intro h; rw [h]; rfl
    exact over_kind ho
   rw [hh, Bool.or_comm]
 unfold Dcl.wf
 rw [← e]
 obtain ⟨nm, ar, ⟨k, tn, ix, la⟩, con, fl⟩ := d
 exact vd_all (r_ident nm) (r_key nm) rfl rfl rfl h6 h7 (vd_loop rfl hn hf)
def chkSel (c1 c2 c3 : Bool) : Int := match c1 with | false => 2 | true => match c2 || c3 with | true => 4 | false => 0
theorem ck_of {nm nm2 : List UInt8} {ar k ix : Int} {la lb : List Dat} {con c1 c2 c3 : Bool} (h1 : Calls1 93 [.dat (dRaw nm ar k nm2 ix la con lb)] (bv c1)) (h2 : ltF 6 ar = c2) (h3 : ltF 6 (Int.ofNat lb.length) = c3) :
  Calls1 57 [.dat (dRaw nm ar k nm2 ix la con lb)] (iv (chkSel c1 c2 c3)) := by
 have q1 := bx_decl nm ar k nm2 ix la con lb
 rcases lb with _ | ⟨y, lb⟩
 ·have z : c3 = false := h3.symm
  subst z
  clear h3
  refine co [8] [1] (x := .of Tryz.f57 ord57 live57) ?_; refine oo q1 ?_
  rcases la with _ | ⟨v0, v1⟩ <;>
  ·refine on h1 ?_
   cases c1
   ·exact fi
   refine ob h2 ?_
   cases c2 <;>
   ·exact fi
 refine co [8, 13] [1] (x := .of Tryz.f57 ord57 live57) ?_; refine oo q1 ?_
 rcases la with _ | ⟨v0, v1⟩ <;>
 ·refine on h1 ?_
  cases c1
  ·exact fi
  refine ob h2 ?_
  cases c2
  ·refine ob h3 ?_
   cases c3 <;>
   ·exact fi
  exact fi
def Dcl.chk (d : Dcl) : Int := chkSel d.wf (ltF 6 d.ar) (ltF 6 (Int.ofNat (encF d.fl).length))
theorem r_check {d : Dcl} (h : d.fine) : Calls1 57 [.dat d.enc] (iv d.chk) := by
 have h1 := r_validDecl h
 unfold Dcl.chk
 generalize d.wf = c1 at h1 ⊢
 obtain ⟨nm, ar, ⟨k, tn, ix, la⟩, con, fl⟩ := d
 exact ck_of h1 rfl rfl
def rP (o : Nat) : AVal := .ptr (.out o) 0
def hF (o : Nat) (es : List Dat) : Heap := [(.out o, .cells [.dat (.slice es)])]
theorem r_New : KC 45 [] [] 0 (XQ ⟨rP 0, hF 0 (encD builtD), 1⟩) := by
 exact ACalls.wkOut (X_ok _ _ _ _ ⟨rP 0, [(.out 0, .cells [.own (encD builtD)])], 1⟩ (by kernel_rfl)) (.refl _) (.cons (.cells (.cons (.own _) .nil) rfl) .nil)
noncomputable def hLk : Hints := ⟨xmoves, ord36, xcaps, rowsOf xcaps 36⟩
theorem bx_type (k : Int) (tn : List UInt8) (ix : Int) (la : List Dat) :
  aBox [.dat (.agg [i64 k, sb tn, i64 ix, sl la])] = some ⟨.undef, .new (.cells [iv k, .dat (sb tn), iv ix, .dat (sl la)])⟩ := by
 rcases la with _ | ⟨x, la⟩ <;> kernel_rfl
def loZ : Heap := [(.loc 4, .cells (cellsD [] 0 0 [] 0 [] false []))]
def stLk (es : List Dat) (nm : List UInt8) (i : Int) : FState := ⟨[(6, iv i), (4, .ptr (.loc 4) 0), (0, rP 0), (1, .dat (sb nm))], loZ, hF 0 es, 1⟩
def stLkX (es : List Dat) (nm : List UInt8) (i : Int) : FState := ⟨[(13, bv false), (6, iv i), (4, .ptr (.loc 4) 0), (0, rP 0), (1, .dat (sb nm))], loZ, hF 0 es, 1⟩
def stLkR (es : List Dat) (d : Dcl) : FState := ⟨[(5, bv true), (4, .ptr (.loc 4) 0)], [(.loc 4, .cells (cellsD d.nm d.ar d.sup.kind d.sup.nm d.sup.ixn (encL d.sup.args) d.con (encF d.fl)))], hF 0 es, 1⟩
theorem lk_round {nm : List UInt8} {ds : List Dcl} {i : Nat} {t : Dcl} {c : Bool} (hi : i < (encD ds).length) (ht : ds[i]? = some t) (hc : eqB t.nm nm = c) {T : Exit -> AState -> Prop}
  (e1 : c = false -> T .normal ((stLk (encD ds) nm (wrapF .i64 (Int.ofNat i + 1))).toA Tryz.f36.ntmps)) (e2 : c = true -> T .ret ((stLkR (encD ds) t).toA Tryz.f36.ntmps)) :
  KD (roundOf Tryz.f36 0) T ((stLk (encD ds) nm (Int.ofNat i)).toA Tryz.f36.ntmps) := by
 have h1 := ltF_yes hi
 have h2 := idxDs ht
 generalize encD ds = es at *
 clear ht hi
 obtain ⟨dn, ar, ⟨k, tn, ix, la⟩, con, fl⟩ := t
 have q1 := st_decl 4 dn ar k tn ix (encL la) con (encF fl)
 refine run_of [13, 25] [21, 31, 100004] (H := hLk) (live := live36) (by kernel_rfl) ?_; refine ob h1 ?_; refine oo h2 ?_; refine ob hc ?_
 cases c
 ·exact oe (e1 rfl)
 refine oo h2 ?_; refine oo q1 ?_; exact oe (e2 rfl)
theorem lk_last {nm : List UInt8} {es : List Dat} {T : Exit -> AState -> Prop} (e : T (.exit 0) ((stLkX es nm (Int.ofNat es.length)).toA Tryz.f36.ntmps)) :
  KD (roundOf Tryz.f36 0) T ((stLk es nm (Int.ofNat es.length)).toA Tryz.f36.ntmps) := by
 have h1 := ltF_no (i := es.length) (L := es.length) (by omega)
 refine run_of [13] [] (H := hLk) (live := live36) (by kernel_rfl) ?_; refine ob h1 ?_; exact oe e
theorem lk_all {nm : List UInt8} {es : List Dat} {o : Option Dcl}
  (hl : KD (.loop (roundOf Tryz.f36 0)) (fun e s => (e = .exit 0 /\ o = none /\ s = (stLkX es nm (Int.ofNat es.length)).toA Tryz.f36.ntmps) ∨ (∃ d, e = .ret /\ o = some d /\ s = (stLkR es d).toA Tryz.f36.ntmps)) ((stLk es nm 0).toA Tryz.f36.ntmps)) :
  KC 36 [rP 0, .dat (sb nm)] (hF 0 es) 1 (XQ ⟨.tup [.dat (dOf o).enc, bv (isS o)], hF 0 es, 1⟩) := by
 refine co [] [] (x := .of Tryz.f36 ord36 live36) ?_; refine lo hl ?_
 rintro ex s (⟨rfl, rfl, rfl⟩ | ⟨x0, rfl, rfl, rfl⟩)
 ·refine ⟨_, rfl, ?_⟩; exact fi
 refine ⟨_, rfl, ?_⟩
 obtain ⟨v1, v2, v3, v4, v5⟩ := x0
 obtain ⟨v6, v7, v8, v9⟩ := v3
 rcases v9 with _ | ⟨v12, v13⟩
 ·rcases v5 with _ | ⟨v10, v11⟩ <;>
  ·exact fi
 rcases v5 with _ | ⟨v14, v15⟩ <;>
 ·exact fi
noncomputable def hKn : Hints := ⟨xmoves, ord40, xcaps, rowsOf xcaps 40⟩
def loK (k : Int) (nm : List UInt8) (ix : Int) (a : Dat) : Heap := [(.loc 3, .cells [iv k, .dat (sb nm), iv ix, .dat a])]
def stKn (lo : Heap) (es : List Dat) (i : Int) : FState := ⟨[(7, iv i), (3, .ptr (.loc 3) 0), (0, rP 0)], lo, hF 0 es, 1⟩
def stKnX (lo : Heap) (es : List Dat) (i : Int) : FState := ⟨[(32, bv false), (7, iv i), (3, .ptr (.loc 3) 0), (0, rP 0)], lo, hF 0 es, 1⟩
def stKnR (es : List Dat) : FState := ⟨[(4, bv false)], [], hF 0 es, 1⟩
theorem kn_round {k ix : Int} {nm : List UInt8} {es : List Dat} {l : List Ty} {t : Ty} {i : Nat} {c : Bool} (hi : i < (encL l).length) (ht : l[i]? = some t) (hc : KC 40 [rP 0, .dat t.enc] (hF 0 es) 1 (XQ ⟨bv c, hF 0 es, 1⟩)) {T : Exit -> AState -> Prop}
  (e1 : c = true -> T .normal ((stKn (loK k nm ix (.slice (encL l))) es (wrapF .i64 (Int.ofNat i + 1))).toA Tryz.f40.ntmps)) (e2 : c = false -> T .ret ((stKnR es).toA Tryz.f40.ntmps)) :
  KD (roundOf Tryz.f40 0) T ((stKn (loK k nm ix (.slice (encL l))) es (Int.ofNat i)).toA Tryz.f40.ntmps) := by
 have h1 := ltF_yes hi
 have h2 := idxT ht
 generalize encL l = ls at *
 clear ht hi
 obtain ⟨tk, tn, tix, ta⟩ := t
 rcases ta with _ | ⟨b, d⟩ <;>
 ·refine run_of [32] [39] (H := hKn) (live := live40) (by kernel_rfl) ?_; refine ob h1 ?_; refine oo h2 ?_; refine oh hc ?_
  cases c
  ·exact oe (e2 rfl)
  exact oe (e1 rfl)
theorem kn_last {k ix : Int} {nm : List UInt8} {es l : List Dat} {T : Exit -> AState -> Prop} (e : T (.exit 0) ((stKnX (loK k nm ix (sl l)) es (Int.ofNat l.length)).toA Tryz.f40.ntmps)) :
  KD (roundOf Tryz.f40 0) T ((stKn (loK k nm ix (sl l)) es (Int.ofNat l.length)).toA Tryz.f40.ntmps) := by
 have h1 := ltF_no (i := l.length) (L := l.length) (by omega)
 rcases l with _ | ⟨x, l⟩
 ·refine run_of [] [] (H := hKn) (live := live40) (by kernel_rfl) ?_; exact oe e
 refine run_of [32] [] (H := hKn) (live := live40) (by kernel_rfl) ?_; refine ob h1 ?_; exact oe e
theorem kn_all {nm nm2 tn2 : List UInt8} {es : List Dat} {l la lb : List Dat} {k ix ar2 k2 ix2 : Int} {con2 cw c ck d : Bool} (h : eqF k 2 = ck) (hf : KC 36 [rP 0, .dat (sb nm)] (hF 0 es) 1 (XQ ⟨.tup [.dat (dRaw nm2 ar2 k2 tn2 ix2 la con2 lb), bv cw], hF 0 es, 1⟩)) (hc : eqF ar2 (Int.ofNat l.length) = c)
  (hl : KD (.loop (roundOf Tryz.f40 0)) (fun e s => (e = .exit 0 /\ d = true /\ s = (stKnX (loK k nm ix (sl l)) es (Int.ofNat l.length)).toA Tryz.f40.ntmps) ∨ (e = .ret /\ d = false /\ s = (stKnR es).toA Tryz.f40.ntmps)) ((stKn (loK k nm ix (sl l)) es (Int.ofNat 0)).toA Tryz.f40.ntmps)) :
  KC 40 [rP 0, .dat (.agg [i64 k, sb nm, i64 ix, sl l])] (hF 0 es) 1 (XQ ⟨bv (!(ck && !(cw && c)) && d), hF 0 es, 1⟩) := by
 have q1 := bx_type k nm ix l
 have q4 := st_decl 5 nm2 ar2 k2 tn2 ix2 la con2 lb
 rcases l with _ | ⟨x, l⟩ <;>
 ·refine co [10, 26] [3, 100005] (x := .of Tryz.f40 ord40 live40) ?_; refine oo q1 ?_; refine ob h ?_
  cases ck
  ·refine lo hl ?_
   rintro ex s (⟨rfl, rfl, rfl⟩ | ⟨rfl, rfl, rfl⟩) <;>
   ·refine ⟨_, rfl, ?_⟩; exact fi
  refine oh hf ?_; refine oo q4 ?_
  cases cw
  ·exact fi
  refine ox hc ?_
  cases c
  ·exact fi
  refine lo hl ?_
  rintro ex s (⟨rfl, rfl, rfl⟩ | ⟨rfl, rfl, rfl⟩) <;>
  ·refine ⟨_, rfl, ?_⟩; exact fi
theorem findD_drop {ds : List Dcl} {nm : List UInt8} {i : Nat} {t : Dcl} (h : ds[i]? = some t) : findD (ds.drop i) nm = (match eqB nm t.nm with | true => some t | false => findD (ds.drop (i + 1)) nm) := by rw [dropA_get h]; rfl
theorem lk_loop {nm : List UInt8} {ds : List Dcl} (hn : ds.length < 1000000000) :
  KD (.loop (roundOf Tryz.f36 0)) (fun e s => (e = .exit 0 /\ findD ds nm = none /\ s = (stLkX (encD ds) nm (Int.ofNat (encD ds).length)).toA Tryz.f36.ntmps) ∨ (∃ d, e = .ret /\ findD ds nm = some d /\ s = (stLkR (encD ds) d).toA Tryz.f36.ntmps)) ((stLk (encD ds) nm (Int.ofNat 0)).toA Tryz.f36.ntmps) := by
 refine loop_inv (St := fun i => (stLk (encD ds) nm (Int.ofNat i)).toA Tryz.f36.ntmps) (fun i => findD ds nm = findD (ds.drop i) nm) (encD ds).length ?_ ?_ (i := 0) (Nat.zero_le _) rfl
 ·intro i hi hI
  obtain ⟨t, ht, hm⟩ := encD_get_lt hi
  have hd := findD_drop (nm := nm) ht
  rw [← hI] at hd
  have hw : wrapF .i64 (Int.ofNat i + 1) = Int.ofNat (i + 1) := wrap_of (by rw [encD_length] at hi; omega)
  have e : eqB t.nm nm = eqB nm t.nm := by
   rw [Bool.eq_iff_iff, eqB_eq, eqB_eq, beq_iff_eq, beq_iff_eq]
   exact eq_comm
  refine lk_round hi ht e ?_ ?_
  ·intro hc
   rw [hw]
   rw [hc] at hd
   exact ⟨rfl, hd⟩
  intro hc
  rw [hc] at hd
  exact .inr ⟨t, rfl, hd, rfl⟩
 intro hI
 refine lk_last (.inl ⟨rfl, ?_, rfl⟩)
 rw [hI, encD_length, List.drop_length]
 rfl
theorem r_Lookup {ds : List Dcl} (nm : List UInt8) (hn : ds.length < 1000000000) : KC 36 [rP 0, .dat (sb nm)] (hF 0 (encD ds)) 1 (XQ ⟨.tup [.dat (dOf (findD ds nm)).enc, bv (isS (findD ds nm))], hF 0 (encD ds), 1⟩) := lk_all (lk_loop hn)
theorem notAll_drop {ds : List Dcl} {l : List Ty} {i : Nat} {t : Ty} (h : l[i]? = some t) : notAll ds (l.drop i) = (!knowT ds t || notAll ds (l.drop (i + 1))) := by rw [dropA_get h, notAll]
mutual
theorem r_Knows {ds : List Dcl} (hn : ds.length < 1000000000) : ∀ t : Ty, t.size < 1000000000 -> KC 40 [rP 0, .dat t.enc] (hF 0 (encD ds)) 1 (XQ ⟨bv (knowT ds t), hF 0 (encD ds), 1⟩)
 | .mk k nm ix l, hs => by
  have hsl : sizeL l < 1000000000 := by simp only [Ty.size] at hs; omega
  have hlen := len_size l
  have ih := r_KnowsL hn l hsl
  have hf := r_Lookup (ds := ds) nm hn
  have e : knowT ds (.mk k nm ix l) = (!(eqF k 2 && !(isS (findD ds nm) && eqF (dOf (findD ds nm)).ar (Int.ofNat (encL l).length))) && !notAll ds l) := by
   rw [knowT]
   have e1 : declT ds (.mk k nm ix l) = (isS (findD ds nm) && eqF (dOf (findD ds nm)).ar (Int.ofNat (encL l).length)) := by
    show (match findD ds nm with | some d => eqF d.ar (Int.ofNat (encL l).length) | none => false) = _
    cases findD ds nm <;> rfl
   rw [e1]
  rw [e]
  generalize isS (findD ds nm) = cw at *
  generalize dOf (findD ds nm) = o at *
  obtain ⟨nm2, ar2, ⟨k2, tn2, ix2, la2⟩, con2, fl2⟩ := o
  refine kn_all (la := encL la2) (lb := encF fl2) rfl hf rfl ?_
  refine loop_inv (St := fun i => (stKn (loK k nm ix (sl (encL l))) (encD ds) (Int.ofNat i)).toA Tryz.f40.ntmps) (fun i => notAll ds l = notAll ds (l.drop i)) (encL l).length ?_ ?_ (i := 0) (Nat.zero_le _) rfl
  ·intro i hi hI
   obtain ⟨t, ht, hm⟩ := get_mem hi
   have hd := notAll_drop (ds := ds) ht
   rw [← hI] at hd
   have hsl := sl_cons hi
   have hw : wrapF .i64 (Int.ofNat i + 1) = Int.ofNat (i + 1) := wrap_of (by rw [encL_length] at hi; omega)
   have hc := ih t hm
   rw [hsl]
   generalize knowT ds t = c at hc hd
   refine kn_round hi ht hc ?_ ?_
   ·rintro rfl
    rw [hw]
    exact ⟨rfl, hd⟩
   rintro rfl
   refine .inr ⟨rfl, ?_, rfl⟩
   rw [hd]
   rfl
  intro hI
  refine kn_last (.inl ⟨rfl, ?_, rfl⟩)
  rw [hI, encL_length, List.drop_length, notAll]
  rfl
theorem r_KnowsL {ds : List Dcl} (hn : ds.length < 1000000000) : ∀ l : List Ty, sizeL l < 1000000000 -> ∀ t ∈ l, KC 40 [rP 0, .dat t.enc] (hF 0 (encD ds)) 1 (XQ ⟨bv (knowT ds t), hF 0 (encD ds), 1⟩)
 | [], _, t, ht => by simp at ht
 | x :: r, h, t, ht => by
  simp only [sizeL] at h
  rcases List.mem_cons.1 ht with h1 | ht
  ·rw [h1]; exact r_Knows hn x (by omega)
  exact r_KnowsL hn r (by omega) t ht
end
theorem app_decls {a b : List Dcl} (h : a.length + b.length < 100000000) : aAppend (env Prims.fast) false 23 [.own (encD a), .dat (.slice (encD b))] none = some ⟨.own (encD (a ++ b)), .keep⟩ := by
 rw [encD_app]
 refine ans_app (i := tiD) (ds := encD b) (k := 7) tiD_eq rfl tiD_size (encD_sized b) (encD_sized a) (by kernel_rfl) ?_ ?_ ?_ ?_
 ·have h1 : tiD.bytes <= 1000 := ble_to (by kernel_rfl)
  rw [encD_length, encD_length]
  calc (a.length + b.length) * tiD.bytes <= 100000000 * 1000 := Nat.mul_le_mul (by omega) h1
   _ <= 140737488355328 := by decide
 ·rw [encD_length, encD_length]; simp [lim]; omega
 ·unfold byteOk
  rw [show encD a ++ encD b = encD (a ++ b) by rw [encD_app], encD_bytes]
 simp
theorem r_Decls {ds : List Dcl} (hn : ds.length < 1000000) : KC 20 [rP 0] (hF 0 (encD ds)) 1 (XQ ⟨.own (encD ds), hF 0 (encD ds), 1⟩) := by
 have h1 := app_decls (a := []) (b := ds) (by simp; omega)
 rw [List.nil_append] at h1
 have h2 : encD ([] : List Dcl) = [] := rfl
 rw [h2] at h1
 generalize encD ds = es at *
 refine co [] [8] (x := .of Tryz.f20 ord20 live20) ?_; refine oo h1 ?_; exact fi
noncomputable def hRDc : Hints := ⟨xmoves, ord17, xcaps, rowsOf xcaps 17⟩
def hF2 (a b : List Dat) : Heap := [(.out 1, .cells [.own b]), (.out 0, .cells [.own a])]
def loDc (cs : List AVal) (es : List Dat) : Heap := [(.loc 40, .cells [.dat (.slice es)]), (.loc 3, .cells cs)]
def loD3 (cs : List AVal) : Heap := [(.loc 3, .cells cs)]
/-- The loop of the fields: before the first call the new hierarchy is the frame's own. -/
def stDc (cs : List AVal) (es es2 : List Dat) (i : Int) : Nat -> FState
 | 0 => ⟨[(9, iv i), (8, .ptr (.loc 40) 0), (3, .ptr (.loc 3) 0), (0, rP 0)], loDc cs es2, hF 0 es, 1⟩
 | _ + 1 => ⟨[(9, iv i), (8, .ptr (.out 1) 0), (3, .ptr (.loc 3) 0), (0, rP 0)], loD3 cs, hF 1 es2 ++ hF 0 es, 2⟩
def stDcX (cs : List AVal) (es es2 : List Dat) (i : Int) : Nat -> FState
 | 0 => ⟨[(50, bv false), (9, iv i), (8, .ptr (.loc 40) 0), (3, .ptr (.loc 3) 0), (0, rP 0)], loDc cs es2, hF 0 es, 1⟩
 | _ + 1 => ⟨[(50, bv false), (9, iv i), (8, .ptr (.out 1) 0), (3, .ptr (.loc 3) 0), (0, rP 0)], loD3 cs, hF 1 es2 ++ hF 0 es, 2⟩
def stDcR (es es2 : List Dat) : FState := ⟨[(4, iv 5)], [], hF 1 es2 ++ hF 0 es, 2⟩
/-- What is said of a hierarchy holds beside other objects. -/
theorem rf_move {g : FuncId} {args args2 : List AVal} {v : AVal} {es es2 : List Dat} (o m : Nat) (pre post : Heap) (h : KC g args (hF 0 es) 1 (XQ ⟨v, hF 0 es2, 1⟩)) (ha : newL 1 args = false) (he : rnL (fun _ => o) args = args2) (hv : rnV (liftN (fun _ => o) 1 m) v = v) :
  KC g args2 (pre ++ (hF o es ++ post)) m (XQ ⟨v, pre ++ (hF o es2 ++ post), m⟩) := by
 have e1 : ∀ (es : List Dat) (ρ : Nat -> Nat), ρ 0 = o -> rnH ρ (hF 0 es) = hF o es := by
  intro es ρ h0
  simp [hF, rnH, rnO, rnN, rnL, rnV, h0]
 have hf := ACalls.frame h (fun _ => o) (heap := pre ++ (hF o es ++ post)) (rest := pre ++ post) (next := m) (by
  rw [e1 _ _ rfl]
  rw [← List.append_assoc, ← List.append_assoc]
  exact List.Perm.append_right _ List.perm_append_comm) (by rfl) (by simp [newHeap, hF, newO, newL, newV]) (by rfl) ha
 rw [he] at hf
 refine ACalls.reheap hf ?_
 rintro v' h' m' ⟨v0, h1, n1, ⟨rfl, rfl, rfl⟩, rfl, rfl, rfl⟩
 rw [hv, e1 _ _ rfl]
 refine ⟨pre ++ (hF o es2 ++ post), ?_, rfl, rfl, rfl⟩
 rw [← List.append_assoc, ← List.append_assoc]
 exact List.Perm.append_right _ List.perm_append_comm
theorem dc_round {nm nm2 : List UInt8} {ar k ix : Int} {A : Dat} {con : Bool} {es es2 : List Dat} {l : List Fld} {t : Fld} {i : Nat} {c : Bool} (hi : i < (encF l).length) (ht : l[i]? = some t) (hk : KC 40 [rP 1, .dat t.ty.enc] (hF 1 es2 ++ hF 0 es) 2 (XQ ⟨bv c, hF 1 es2 ++ hF 0 es, 2⟩)) {T : Exit -> AState -> Prop}
  (e1 : c = true -> T .normal ((stDc (cellsR nm ar k nm2 ix A con (.slice (encF l))) es es2 (wrapF .i64 (Int.ofNat i + 1)) 1).toA Tryz.f17.ntmps)) (e2 : c = false -> T .ret ((stDcR es es2).toA Tryz.f17.ntmps)) :
  KD (roundOf Tryz.f17 0) T ((stDc (cellsR nm ar k nm2 ix A con (.slice (encF l))) es es2 (Int.ofNat i) i).toA Tryz.f17.ntmps) := by
 have h1 := ltF_yes hi
 have h2 := idxF ht
 generalize encF l = ls at *
 clear ht hi
 obtain ⟨fn, tk, tn, tix, ta⟩ := t
 rcases i with _ | i <;>
 ·rcases ta with _ | ⟨b, d⟩ <;>
  ·refine run_of [50] [57] (H := hRDc) (live := live17) (by kernel_rfl) ?_; refine ob h1 ?_; refine oo h2 ?_; refine oh hk ?_
   cases c
   ·exact oe (e2 rfl)
   exact oe (e1 rfl)
theorem dc_last {nm nm2 : List UInt8} {ar k ix : Int} {A : Dat} {con : Bool} {es es2 l : List Dat} {T : Exit -> AState -> Prop} (e : T (.exit 0) ((stDcX (cellsR nm ar k nm2 ix A con (sl l)) es es2 (Int.ofNat l.length) l.length).toA Tryz.f17.ntmps)) :
  KD (roundOf Tryz.f17 0) T ((stDc (cellsR nm ar k nm2 ix A con (sl l)) es es2 (Int.ofNat l.length) l.length).toA Tryz.f17.ntmps) := by
 have h1 := ltF_no (i := l.length) (L := l.length) (by omega)
 rcases l with _ | ⟨x, l⟩
 ·refine run_of [] [] (H := hRDc) (live := live17) (by kernel_rfl) ?_; exact oe e
 refine run_of [50] [] (H := hRDc) (live := live17) (by kernel_rfl) ?_; refine ob h1 ?_; exact oe e
def dcSel (v : Int) (c0 oex c1 c3 c4 d c6 : Bool) : Int := match c0 with
 | false => v
 | true => match oex with
  | true => (match c1 with | true => 0 | false => 6)
  | false => match c3 with
   | false => 8
   | true => match c4 with
    | false => 5
    | true => match d with
     | false => 5
     | true => match c6 with | true => 10 | false => 0
def dcEs (es es2 : List Dat) (c0 oex c3 c4 d c6 : Bool) : List Dat := match c0 with
 | false => es
 | true => match oex with
  | true => es
  | false => match c3 with
   | false => es
   | true => match c4 with
    | false => es
    | true => match d with
     | false => es
     | true => match c6 with | true => es | false => es2
theorem dc_all {nm nm2 onm otn snm stn : List UInt8} {ar k ix oar ok oix sar sk six v : Int} {la lb ola olb sla slb es es2 : List Dat} {con ocon c0 oex c1 c3 c4 d sc sex : Bool} (h0 : Calls1 57 [.dat (dRaw nm ar k nm2 ix la con lb)] (iv v)) (hv : eqF v 0 = c0)
  (hl : KC 36 [rP 0, .dat (sb nm)] (hF 0 es) 1 (XQ ⟨.tup [.dat (dRaw onm oar ok otn oix ola ocon olb), bv oex], hF 0 es, 1⟩)) (he : Calls1 37 [.dat (dRaw onm oar ok otn oix ola ocon olb), .dat (dRaw nm ar k nm2 ix la con lb)] (bv c1))
  (hn : ltF (Int.ofNat es.length) 60 = c3) (hd : KC 20 [rP 0] (hF 0 es) 1 (XQ ⟨.own es, hF 0 es, 1⟩)) (ha : aAppend (env Prims.fast) false 23 [.own es, .dat (.slice [dRaw nm ar k nm2 ix la con lb])] none = some ⟨.own es2, .keep⟩)
  (hk : KC 40 [rP 0, .dat (.agg [i64 k, sb nm2, i64 ix, sl la])] (hF 0 es) 1 (XQ ⟨bv c4, hF 0 es, 1⟩))
  (hlp : KD (.loop (roundOf Tryz.f17 0)) (fun e s => (e = .exit 0 /\ d = true /\ s = (stDcX (cellsR nm ar k nm2 ix (sl la) con (sl lb)) es es2 (Int.ofNat lb.length) lb.length).toA Tryz.f17.ntmps) ∨ (e = .ret /\ d = false /\ s = (stDcR es es2).toA Tryz.f17.ntmps)) ((stDc (cellsR nm ar k nm2 ix (sl la) con (sl lb)) es es2 (Int.ofNat 0) 0).toA Tryz.f17.ntmps))
  (hs : KC 36 [rP 0, .dat (sb nm2)] (hF 0 es) 1 (XQ ⟨.tup [.dat (dRaw snm sar sk stn six sla sc slb), bv sex], hF 0 es, 1⟩))
  (hs2 : KC 36 [rP 0, .dat (sb nm2)] (hF 1 es2 ++ hF 0 es) 2 (XQ ⟨.tup [.dat (dRaw snm sar sk stn six sla sc slb), bv sex], hF 1 es2 ++ hF 0 es, 2⟩)) :
  KC 17 [rP 0, .dat (dRaw nm ar k nm2 ix la con lb)] (hF 0 es) 1 (XQ ⟨iv (dcSel v c0 oex c1 c3 c4 d (sex && sc)), hF 0 (dcEs es es2 c0 oex c3 c4 d (sex && sc)), 1⟩) := by
 have q1 := bx_decl nm ar k nm2 ix la con lb
 have q3 := ld_sup false 3 nm ar k nm2 ix la con lb
 have q5 := ld_decl false 3 nm ar k nm2 ix la con lb
 have q6 := ld_decl true 3 nm ar k nm2 ix la con lb
 have q4 := st_decl 6 onm oar ok otn oix ola ocon olb
 have q7 := st_decl 10 snm sar sk stn six sla sc slb
 rcases lb with _ | ⟨y, lb⟩
 ·refine co [15, 33] [3, 12, 100006, 26, 36, 38, 43, 100010] (x := .of Tryz.f17 ord17 live17) ?_; refine oo q1 ?_; refine oo q5 ?_; refine on h0 ?_; refine ox hv ?_
  cases c0
  ·exact fi
  refine oh hl ?_; refine oo q4 ?_
  cases oex
  ·refine ox hn ?_
   cases c3
   ·exact fi
   refine oo q5 ?_; refine oh hd ?_; refine oo ha ?_; refine oo q3 ?_; refine oh hk ?_
   cases c4
   ·exact fi
   refine lo hlp ?_
   rintro ex s (⟨rfl, rfl, rfl⟩ | ⟨rfl, rfl, rfl⟩)
   ·refine ⟨_, rfl, ?_⟩; refine oh hs ?_; refine oo q7 ?_
    cases sex
    ·exact fi
    cases sc <;>
    ·exact fi
   refine ⟨_, rfl, ?_⟩; exact fi
  refine oo q5 ?_
  rcases ola with _ | ⟨v2, v3⟩
  ·rcases olb with _ | ⟨v0, v1⟩ <;>
   ·refine on he ?_
    cases c1 <;>
    ·exact fi
  rcases olb with _ | ⟨v4, v5⟩ <;>
  ·refine on he ?_
   cases c1 <;>
   ·exact fi
 refine co [15, 33] [3, 12, 100006, 26, 36, 38, 43, 100010] (x := .of Tryz.f17 ord17 live17) ?_; refine oo q1 ?_; refine oo q5 ?_; refine on h0 ?_; refine ox hv ?_
 cases c0
 ·exact fi
 refine oh hl ?_; refine oo q4 ?_
 cases oex
 ·refine ox hn ?_
  cases c3
  ·exact fi
  refine oo q5 ?_; refine oh hd ?_; refine oo ha ?_; refine oo q3 ?_; refine oh hk ?_
  cases c4
  ·exact fi
  refine lo hlp ?_
  rintro ex s (⟨rfl, rfl, rfl⟩ | ⟨rfl, rfl, rfl⟩)
  ·refine ⟨_, rfl, ?_⟩; refine oh hs2 ?_; refine oo q7 ?_
   cases sex
   ·exact fi
   cases sc <;>
   ·exact fi
  refine ⟨_, rfl, ?_⟩; exact fi
 refine oo q5 ?_
 rcases ola with _ | ⟨v2, v3⟩
 ·rcases olb with _ | ⟨v0, v1⟩ <;>
  ·refine on he ?_
   cases c1 <;>
   ·exact fi
 rcases olb with _ | ⟨v4, v5⟩ <;>
 ·refine on he ?_
  cases c1 <;>
  ·exact fi
theorem findD_app {a b : List Dcl} {nm : List UInt8} {o : Dcl} : findD a nm = some o -> findD (a ++ b) nm = some o := by
 induction a with
 | nil => intro h; simp [findD] at h
 | cons d r ih =>
  intro h
  rw [List.cons_append]
  unfold findD at h ⊢
  split at h
  ·exact h
  exact ih h
theorem any_dropF {ds : List Dcl} {l : List Fld} {i : Nat} {f : Fld} (h : l[i]? = some f) : (l.drop i).any (fun f => !knowT ds f.ty) = (!knowT ds f.ty || (l.drop (i + 1)).any (fun f => !knowT ds f.ty)) := by rw [dropA_get h, List.any_cons]
theorem dc_loop {ds : List Dcl} {nm nm2 : List UInt8} {ar k ix : Int} {A B : Dat} {con : Bool} {es : List Dat} {l : List Fld} (hb : B = sl (encF l)) (hn : l.length < 1000000000) (hf : ∀ f ∈ l, f.ty.fine) (hds : ds.length < 1000000) :
  KD (.loop (roundOf Tryz.f17 0)) (fun e s => (e = .exit 0 /\ (!(l.any (fun f => !knowT ds f.ty))) = true /\ s = (stDcX (cellsR nm ar k nm2 ix A con B) es (encD ds) (Int.ofNat (encF l).length) (encF l).length).toA Tryz.f17.ntmps) ∨ (e = .ret /\ (!(l.any (fun f => !knowT ds f.ty))) = false /\ s = (stDcR es (encD ds)).toA Tryz.f17.ntmps)) ((stDc (cellsR nm ar k nm2 ix A con B) es (encD ds) (Int.ofNat 0) 0).toA Tryz.f17.ntmps) := by
 refine loop_inv (St := fun i => (stDc (cellsR nm ar k nm2 ix A con B) es (encD ds) (Int.ofNat i) i).toA Tryz.f17.ntmps) (fun i => l.any (fun f => !knowT ds f.ty) = (l.drop i).any (fun f => !knowT ds f.ty)) (encF l).length ?_ ?_ (i := 0) (Nat.zero_le _) rfl
 ·intro i hi hI
  obtain ⟨t, ht, hm⟩ := getF_mem hi
  have hd := any_dropF (ds := ds) ht
  rw [← hI] at hd
  have hw : wrapF .i64 (Int.ofNat i + 1) = Int.ofNat (i + 1) := wrap_of (by rw [encF_length] at hi; omega)
  have hb2 : B = .slice (encF l) := by
   rw [hb]
   cases l with
   | nil => simp at ht
   | cons x r => rfl
  subst hb2
  have hk := r_Knows (ds := ds) (by omega) t.ty (by have := (hf t hm).1; omega)
  have hk2 := rf_move 1 2 [] (hF 0 es) hk (args2 := [rP 1, .dat t.ty.enc]) rfl rfl rfl
  refine dc_round hi ht hk2 ?_ ?_
  ·intro hc
   rw [hw]
   refine ⟨rfl, ?_⟩
   rw [hd, hc]
   rfl
  intro hc
  refine .inr ⟨rfl, ?_, rfl⟩
  rw [hd, hc]
  rfl
 intro hI
 rw [hb]
 refine dc_last (.inl ⟨rfl, ?_, rfl⟩)
 rw [hI, encF_length, List.drop_length]
 rfl
theorem declM_eq {ds : List Dcl} {d : Dcl} (h0 : findD ds [] = none) :
  (declM ds d).1 = dcSel d.chk (eqF d.chk 0) (isS (findD ds d.nm)) ((dOf (findD ds d.nm)).eq d) (ltF (Int.ofNat (encD ds).length) 60) (knowT ds d.sup) (!(d.fl.any (fun f => !knowT (ds ++ [d]) f.ty))) (isS (findD ds d.sup.nm) && (dOf (findD ds d.sup.nm)).con) ∧
   encD (declM ds d).2 = dcEs (encD ds) (encD (ds ++ [d])) (eqF d.chk 0) (isS (findD ds d.nm)) (ltF (Int.ofNat (encD ds).length) 60) (knowT ds d.sup) (!(d.fl.any (fun f => !knowT (ds ++ [d]) f.ty))) (isS (findD ds d.sup.nm) && (dOf (findD ds d.sup.nm)).con) := by
 unfold declM Dcl.chk
 rw [encD_length]
 cases hw : d.wf with
 | false => exact ⟨rfl, rfl⟩
 | true =>
  cases h1 : ltF 6 d.ar with
  | true => exact ⟨rfl, rfl⟩
  | false =>
   cases h2 : ltF 6 (Int.ofNat (encF d.fl).length) with
   | true => exact ⟨rfl, rfl⟩
   | false =>
    cases hf : findD ds d.nm with
    | some o =>
     cases h3 : o.eq d with
     | true => exact ⟨by simp only [h3, dOf, isS]; rfl, by simp only [h3, dOf, isS]; rfl⟩
     | false => exact ⟨by simp only [h3, dOf, isS]; rfl, by simp only [h3, dOf, isS]; rfl⟩
    | none =>
     cases h4 : ltF (Int.ofNat ds.length) 60 with
     | false => exact ⟨rfl, rfl⟩
     | true =>
      cases h5 : knowT ds d.sup with
      | false => exact ⟨rfl, rfl⟩
      | true =>
       cases h6 : d.fl.any (fun f => !knowT (ds ++ [d]) f.ty) with
       | true => exact ⟨rfl, rfl⟩
       | false =>
        have hwf := hw
        unfold Dcl.wf at hwf
        simp only [Bool.and_eq_true] at hwf
        have hkd := hwf.2.2.2.2.1
        have hov := hwf.2.2.2.2.2.1
        cases h7 : eqF d.sup.kind 2 with
        | false =>
         rw [h7, Bool.or_false] at hkd
         have hs := over_kind hov hkd
         rw [hs]
         rw [show Ty.nm (.mk 0 [] 0 []) = [] from rfl, h0]
         exact ⟨rfl, rfl⟩
        | true =>
         have hsm : ∃ o, findD ds d.sup.nm = some o := by
          have hh := h5
          generalize d.sup = su at hh h7 ⊢
          obtain ⟨kk, nn, ii, ll⟩ := su
          rw [knowT, Bool.and_eq_true] at hh
          have h8 := hh.1
          rw [show eqF kk 2 = true from h7] at h8
          have h9 : declT ds (.mk kk nn ii ll) = true := by
           cases hq : declT ds (.mk kk nn ii ll) with
           | true => rfl
           | false => rw [hq] at h8; simp at h8
          unfold declT at h9
          dsimp only at h9
          show ∃ o, findD ds nn = some o
          cases hq : findD ds nn with
          | some o => exact ⟨o, rfl⟩
          | none => rw [hq] at h9; simp at h9
         obtain ⟨o, hso⟩ := hsm
         rw [findD_app hso, hso]
         cases hcon : o.con with
         | true => exact ⟨by simp only [dOf, isS, hcon]; rfl, by simp only [dOf, isS, hcon]; rfl⟩
         | false => exact ⟨by simp only [dOf, isS, hcon]; rfl, by simp only [dOf, isS, hcon]; rfl⟩
theorem r_Declare {ds : List Dcl} {d : Dcl} (hd : d.fine) (hds : ∀ o ∈ ds, o.fine) (hn : ds.length < 1000) (h0 : findD ds [] = none) :
  KC 17 [rP 0, .dat d.enc] (hF 0 (encD ds)) 1 (XQ ⟨iv (declM ds d).1, hF 0 (encD (declM ds d).2), 1⟩) := by
 have hck := r_check hd
 have hl := r_Lookup (ds := ds) d.nm (by omega)
 have ho : (dOf (findD ds d.nm)).fine := by
  cases h : findD ds d.nm with
  | none => exact zero_fine
  | some o => exact hds o (findD_mem h)
 have he := r_declEq (o := d) ho
 have hdc := r_Decls (ds := ds) (by omega)
 have ha := appD (pre := ds) (t := d) (by omega)
 have hk := r_Knows (ds := ds) (by omega) d.sup (by have := hd.1.1; omega)
 have hs := r_Lookup (ds := ds) d.sup.nm (by omega)
 have hs2 := rf_move 0 2 (hF 1 (encD (ds ++ [d]))) [] hs (args2 := [rP 0, .dat (sb d.sup.nm)]) rfl rfl rfl
 rw [List.append_nil] at hs2
 have hlp := fun nm ar k nm2 ix A con => dc_loop (ds := ds ++ [d]) (nm := nm) (ar := ar) (k := k) (nm2 := nm2) (ix := ix) (A := A) (con := con) (es := encD ds) (B := sl (encF d.fl)) rfl hd.2.2 hd.2.1 (by simp; omega)
 have e := declM_eq (d := d) h0
 rw [e.1, e.2]
 clear e ho hds h0
 generalize (dOf (findD ds d.nm)).eq d = c1 at *
 generalize knowT ds d.sup = c4 at *
 generalize d.chk = v at *
 generalize isS (findD ds d.nm) = oex at *
 generalize isS (findD ds d.sup.nm) = sex at *
 generalize dOf (findD ds d.nm) = o at *
 generalize dOf (findD ds d.sup.nm) = so at *
 have hlp2 := hlp
 clear hlp
 generalize (!(d.fl.any (fun f => !knowT (ds ++ [d]) f.ty))) = c6 at *
 generalize encD (ds ++ [d]) = es2 at *
 generalize encD ds = es at *
 obtain ⟨nm, ar, ⟨k, tn, ix, la⟩, con, fl⟩ := d
 obtain ⟨onm, oar, ⟨ok, otn, oix, ola⟩, ocon, ofl⟩ := o
 obtain ⟨snm, sar, ⟨sk, stn, six, sla⟩, scon, sfl⟩ := so
 exact dc_all hck rfl hl he rfl hdc ha hk (hlp2 _ _ _ _ _ _ _) hs hs2
/-! ### DeclsEqual -/
def eqDL : List Dcl -> List Dcl -> Bool
 | f :: r, g :: s => f.eq g && eqDL r s
 | _, _ => true
def eqDs (a b : List Dcl) : Bool := eqF (Int.ofNat (encD a).length) (Int.ofNat (encD b).length) && eqDL a b
noncomputable def hDs : Hints := ⟨xmoves, ord18, xcaps, rowsOf xcaps 18⟩
def stDs (a b : List Dat) (i : Int) : FState := ⟨[(5, iv i), (0, .dat (.slice a)), (1, .dat (.slice b))], [], [], 0⟩
def stDsX (a b : List Dat) (i : Int) : FState := ⟨[(14, bv false), (5, iv i), (0, .dat (.slice a)), (1, .dat (.slice b))], [], [], 0⟩
def stDsR : FState := ⟨[(4, bv false)], [], [], 0⟩
theorem dse_round {a b : List Dcl} {t u : Dcl} {i : Nat} {c : Bool} {T : Exit -> AState -> Prop} (hi : i < (encD a).length) (ht : a[i]? = some t) (hu : b[i]? = some u) (hc : Calls1 37 [.dat t.enc, .dat u.enc] (bv c))
  (e1 : c = true -> T .normal ((stDs (encD a) (encD b) (wrapF .i64 (Int.ofNat i + 1))).toA Tryz.f18.ntmps)) (e2 : c = false -> T .ret (stDsR.toA Tryz.f18.ntmps)) :
  KD (roundOf Tryz.f18 0) T ((stDs (encD a) (encD b) (Int.ofNat i)).toA Tryz.f18.ntmps) := by
 have h1 := ltF_yes hi
 have h2 := idxDs ht
 have h3 := idxDs hu
 generalize encD a = es at *
 generalize encD b = es2 at *
 clear ht hi hu
 obtain ⟨dn, ar, ⟨k, tn, ix, la⟩, con, fl⟩ := t
 obtain ⟨dn2, ar2, ⟨k2, tn2, ix2, la2⟩, con2, fl2⟩ := u
 refine run_of [14] [19, 23] (H := hDs) (live := live18) (by kernel_rfl) ?_; refine ob h1 ?_; refine oo h2 ?_; refine oo h3 ?_; refine on hc ?_
 cases c
 ·exact oe (e2 rfl)
 exact oe (e1 rfl)
theorem dse_last {a b : List Dat} {T : Exit -> AState -> Prop} (e : T (.exit 0) ((stDsX a b (Int.ofNat a.length)).toA Tryz.f18.ntmps)) :
  KD (roundOf Tryz.f18 0) T ((stDs a b (Int.ofNat a.length)).toA Tryz.f18.ntmps) := by
 have h1 := ltF_no (i := a.length) (L := a.length) (by omega)
 refine run_of [14] [] (H := hDs) (live := live18) (by kernel_rfl) ?_; refine ob h1 ?_; exact oe e
theorem dse_all {a b : List Dat} {c d : Bool} (h1 : eqF (Int.ofNat a.length) (Int.ofNat b.length) = c)
  (hl : c = true -> KD (.loop (roundOf Tryz.f18 0)) (fun e s => (e = .exit 0 /\ d = true /\ s = (stDsX a b (Int.ofNat a.length)).toA Tryz.f18.ntmps) ∨ (e = .ret /\ d = false /\ s = stDsR.toA Tryz.f18.ntmps)) ((stDs a b (Int.ofNat 0)).toA Tryz.f18.ntmps)) :
  Calls1 18 [.dat (.slice a), .dat (.slice b)] (bv (c && d)) := by
 refine co [10] [] (x := .of Tryz.f18 ord18 live18) ?_; refine ox h1 ?_
 cases c
 ·exact fi
 refine lo (hl rfl) ?_
 rintro ex s (⟨rfl, rfl, rfl⟩ | ⟨rfl, rfl, rfl⟩) <;>
 ·refine ⟨_, rfl, ?_⟩; exact fi
theorem eqDL_drop {l l2 : List Dcl} {i : Nat} {t u : Dcl} (ht : l[i]? = some t) (hu : l2[i]? = some u) : eqDL (l.drop i) (l2.drop i) = (t.eq u && eqDL (l.drop (i + 1)) (l2.drop (i + 1))) := by rw [dropA_get ht, dropA_get hu]; rfl
theorem r_DeclsEq {a b : List Dcl} (ha : ∀ d ∈ a, d.fine) (hn : a.length < 1000000) : Calls1 18 [.dat (.slice (encD a)), .dat (.slice (encD b))] (bv (eqDs a b)) := by
 refine dse_all rfl ?_
 intro hc
 have hlen : a.length = b.length := by
  rw [encD_length, encD_length] at hc
  exact Int.ofNat.inj (eqF_to hc)
 refine loop_inv (St := fun i => (stDs (encD a) (encD b) (Int.ofNat i)).toA Tryz.f18.ntmps) (fun i => eqDL a b = eqDL (a.drop i) (b.drop i)) (encD a).length ?_ ?_ (i := 0) (Nat.zero_le _) rfl
 ·intro i hi hI
  obtain ⟨t, ht, hm⟩ := encD_get_lt hi
  have hi2 := hi
  rw [encD_length] at hi2
  have hu : b[i]? = some b[i] := List.getElem?_eq_getElem (by omega)
  generalize b[i] = u at hu
  have hd := eqDL_drop ht hu
  rw [← hI] at hd
  have hw : wrapF .i64 (Int.ofNat i + 1) = Int.ofNat (i + 1) := wrap_of (by omega)
  refine dse_round hi ht hu (r_declEq (ha t hm)) ?_ ?_
  ·intro hc
   rw [hw]
   rw [hc, Bool.true_and] at hd
   exact ⟨rfl, hd⟩
  intro hc
  rw [hc, Bool.false_and] at hd
  exact .inr ⟨rfl, hd, rfl⟩
 intro hI
 refine dse_last (.inl ⟨rfl, ?_, rfl⟩)
 rw [hI, encD_length, List.drop_length]
 cases b.drop a.length <;> rfl
theorem eqDs_self (a : List Dcl) : eqDs a a = true := by
 have h : ∀ l : List Dcl, eqDL l l = true := by
  intro l
  induction l with
  | nil => rfl
  | cons x r ih => rw [eqDL, ih, Dcl.eq_iff.2 rfl]; rfl
 unfold eqDs
 rw [h a, eqF_self]
 rfl
theorem new_at {g : FuncId} {args args2 : List AVal} {v : AVal} {h : Heap} {n : Nat} (m : Nat) (heap : Heap) (hc : KC g args [] 0 (XQ ⟨v, h, n⟩)) (ha : newL 0 args = false) (he : rnL (fun o => o) args = args2) :
  KC g args2 heap m (XQ ⟨rnV (fun o => m + o) v, rnH (fun o => m + o) h ++ heap, m + n⟩) := by
 have hf := ACalls.frame hc (fun o => o) (heap := heap) (rest := heap) (next := m) (List.Perm.refl _) rfl rfl rfl ha
 rw [he] at hf
 refine hf.mono ?_
 rintro v' h' m' ⟨v0, h1, n1, ⟨rfl, rfl, rfl⟩, rfl, rfl, rfl⟩
 have e : liftN (fun o => o) 0 m = fun o => m + o := by
  funext o
  show (match Nat.blt o 0 with | true => o | false => m + (o - 0)) = m + o
  rfl
 rw [e]
 exact ⟨rfl, rfl, rfl⟩
theorem r_NewAt : KC 45 [] (hH 2 builtD []) 3 (XQ ⟨rP 3, hF 3 (encD builtD) ++ hH 2 builtD [], 4⟩) := new_at 3 (hH 2 builtD []) r_New rfl rfl
/-! ### Declare side by side -/
def rAt : Nat -> Nat
 | 0 => 2
 | i + 1 => i + 4
theorem dec_moveA {x : Dat} {ds ds2 : List Dcl} {tl tl2 : List Dat} {c : Int} (r m : Nat) (pre post : Heap) (h : KC 16 [hP, .dat x] (hH 2 ds tl) 3 (XQ ⟨iv c, hH 3 ds2 tl2, 4⟩)) :
  KC 16 [hP, .dat x] (pre ++ (hH r ds tl ++ post)) m (XQ ⟨iv c, pre ++ (hH m ds2 tl2 ++ post), m + 1⟩) := by
 have e1 : ∀ (cs : List Dat) (es : List (Go.Value × Dat)) (n q : Nat) (ρ : Nat -> Nat), ρ 0 = 0 -> ρ 1 = 1 -> rnH ρ (hG q (av cs) es n) = hG (ρ q) (av cs) es n := by
  intro cs es n q ρ h0 h1
  simp [hG, rnH, rnO, rnN, rnL_av, rnL, rnV, h0, h1]
 have hf := ACalls.frame h (toR r) (heap := pre ++ (hH r ds tl ++ post)) (rest := pre ++ post) (next := m) (by
  unfold hH
  rw [e1 _ _ _ _ _ rfl rfl]
  rw [← List.append_assoc, ← List.append_assoc]
  exact List.Perm.append_right _ List.perm_append_comm) (by rfl) (by simp [newHeap, hH, hG, newO, newL_av, newL, newV]; exact ⟨rfl, rfl⟩) (by rfl) (by rfl)
 rw [show rnL (toR r) [hP, .dat x] = [hP, .dat x] from rfl] at hf
 refine ACalls.reheap hf ?_
 rintro v' h' m' ⟨v0, h1, n1, ⟨rfl, rfl, rfl⟩, rfl, rfl, rfl⟩
 unfold hH
 rw [e1 _ _ _ _ _ rfl rfl]
 refine ⟨pre ++ (hG m (av (rowC ds2 ++ tl2)) (idxD ds2 0) ds2.length ++ post), ?_, rfl, ?_, rfl⟩
 ·rw [← List.append_assoc, ← List.append_assoc]
  exact List.Perm.append_right _ List.perm_append_comm
 rfl
theorem dec_move {d : Dcl} {ds ds2 : List Dcl} {tl tl2 : List Dat} {c : Int} (r m : Nat) (pre post : Heap) (h : KC 16 [hP, .dat d.enc] (hH 2 ds tl) 3 (XQ ⟨iv c, hH 3 ds2 tl2, 4⟩)) :
  KC 16 [hP, .dat d.enc] (pre ++ (hH r ds tl ++ post)) m (XQ ⟨iv c, pre ++ (hH m ds2 tl2 ++ post), m + 1⟩) := dec_moveA r m pre post h
noncomputable def hHs : Hints := ⟨xmoves, ord10, xcaps, rowsOf xcaps 10⟩
def stHs (l : List Dat) (H : Heap) (m : Nat) (i : Int) : FState := ⟨[(7, iv i), (6, rP 3), (5, hP), (0, .dat (.slice l))], [], H, m⟩
def stHsX (l : List Dat) (H : Heap) (m : Nat) (i : Int) : FState := ⟨[(16, bv false), (7, iv i), (6, rP 3), (5, hP), (0, .dat (.slice l))], [], H, m⟩
theorem hs_round {l : List Dat} {d : Dcl} {i : Nat} {c : Int} {H1 H2 H3 : Heap} {m1 m2 m3 : Nat} (h1 : ltF (Int.ofNat i) (Int.ofNat l.length) = true) (h2 : aIndexAddr (env Prims.fast) 23 [.dat (.slice l), .dat (.flat (.int .i64 (Int.ofNat i)))] = some ⟨.ref d.cells, .keep⟩)
  (hd : KC 16 [hP, .dat d.enc] H1 m1 (XQ ⟨iv c, H2, m2⟩)) (hr : KC 17 [rP 3, .dat d.enc] H2 m2 (XQ ⟨iv c, H3, m3⟩)) {T : Exit -> AState -> Prop}
  (e : T .normal ((stHs l H3 m3 (wrapF .i64 (Int.ofNat i + 1))).toA Tryz.f10.ntmps)) :
  KD (roundOf Tryz.f10 0) T ((stHs l H1 m1 (Int.ofNat i)).toA Tryz.f10.ntmps) := by
 obtain ⟨dn, ar, ⟨k, tn, ix, la⟩, con, fl⟩ := d
 have h3 : eqF c c = true := eqF_self c
 refine run_of [16, 31] [22, 28] (H := hHs) (live := live10) (by kernel_rfl) ?_; refine ob h1 ?_; refine oo h2 ?_; refine oo h2 ?_; refine oh hd ?_; refine oh hr ?_; refine ox h3 ?_; exact oe e
theorem hs_last {l : List Dat} {H : Heap} {m : Nat} {T : Exit -> AState -> Prop} (e : T (.exit 0) ((stHsX l H m (Int.ofNat l.length)).toA Tryz.f10.ntmps)) :
  KD (roundOf Tryz.f10 0) T ((stHs l H m (Int.ofNat l.length)).toA Tryz.f10.ntmps) := by
 have h1 := ltF_no (i := l.length) (L := l.length) (by omega)
 refine run_of [16] [] (H := hHs) (live := live10) (by kernel_rfl) ?_; refine ob h1 ?_; exact oe e
theorem hs_all {l bs es2 : List Dat} {H : Heap} {m : Nat}
  (h1 : KC 44 [] [] 0 (XQ ⟨hP, hH 2 builtD [], 3⟩)) (h2 : KC 45 [] (hH 2 builtD []) 3 (XQ ⟨rP 3, hF 3 bs ++ hH 2 builtD [], 4⟩))
  (hl : KD (.loop (roundOf Tryz.f10 0)) (fun e s => e = .exit 0 /\ s = (stHsX l H m (Int.ofNat l.length)).toA Tryz.f10.ntmps) ((stHs l (hF 3 bs ++ hH 2 builtD []) 4 (Int.ofNat 0)).toA Tryz.f10.ntmps))
  (h3 : KC 19 [hP] H m (XQ ⟨.own es2, H, m⟩)) (h4 : KC 20 [rP 3] H m (XQ ⟨.own es2, H, m⟩)) (h5 : Calls1 18 [.dat (.slice es2), .dat (.slice es2)] (bv true)) :
  KC 10 [.dat (.slice l)] [] 0 (XQ ⟨.tup [hP, rP 3, bv true], H, m⟩) := by
 unfold hH at h1 h2 hl
 generalize rowC builtD ++ [] = cs at *
 generalize idxD builtD 0 = es at *
 generalize builtD.length = n at *
 refine call_of0 [] [] (x := XFn.of Tryz.f10 ord10 live10) (by kernel_rfl) ?_; refine oh h1 ?_; refine oh h2 ?_; refine lo hl ?_; rintro ex s ⟨rfl, rfl⟩; refine ⟨_, rfl, ?_⟩; refine oh h3 ?_; refine oh h4 ?_; refine on h5 ?_; exact fi
/-- The declarations behind those of a list. -/
def dsOf (l : List Dcl) : List Dcl := l.foldl (fun ds d => (declM ds d).2) builtD
theorem dsOf_take {l : List Dcl} {i : Nat} {d : Dcl} (h : l[i]? = some d) : dsOf (l.take (i + 1)) = (declM (dsOf (l.take i)) d).2 := by
 rw [take_get h]
 unfold dsOf
 rw [List.foldl_append]
 rfl
theorem declM_cases (ds : List Dcl) (d : Dcl) : (declM ds d).2 = ds ∨ ((declM ds d).2 = ds ++ [d] /\ d.wf = true) := by
 unfold declM
 cases hw : d.wf with
 | false => exact .inl rfl
 | true =>
  cases ltF 6 d.ar with
  | true => exact .inl rfl
  | false =>
   cases ltF 6 (Int.ofNat (encF d.fl).length) with
   | true => exact .inl rfl
   | false =>
    cases findD ds d.nm with
    | some o => dsimp only; cases o.eq d <;> exact .inl rfl
    | none =>
     cases ltF (Int.ofNat ds.length) 60 with
     | false => exact .inl rfl
     | true =>
      cases knowT ds d.sup with
      | false => exact .inl rfl
      | true =>
       cases d.fl.any (fun f => !knowT (ds ++ [d]) f.ty) with
       | true => exact .inl rfl
       | false =>
        cases eqF d.sup.kind 2 with
        | false => exact .inr ⟨rfl, rfl⟩
        | true =>
         dsimp only
         cases (dOf (findD (ds ++ [d]) d.sup.nm)).con with
         | true => exact .inl rfl
         | false => exact .inr ⟨rfl, rfl⟩
/-- What holds of every hierarchy that Declare makes. -/
structure HOk (ds : List Dcl) : Prop where
 fine : ∀ o ∈ ds, o.fine
 nm : ∀ o ∈ ds, isIdent o.nm = true
 ne : ds ≠ []
theorem HOk.none {ds : List Dcl} (h : HOk ds) : findD ds [] = none := by
 cases hf : findD ds [] with
 | none => rfl
 | some o =>
  have hm := findD_mem hf
  have hi := h.nm o hm
  have key : ∀ {l : List Dcl} {o : Dcl}, findD l [] = some o -> o.nm = [] := by
   intro l
   induction l with
   | nil => intro o h; simp [findD] at h
   | cons d r ih =>
    intro o h
    unfold findD at h
    split at h
    ·rename_i he
     simp at h; subst h
     exact (eqB_to he).symm
    exact ih h
  rw [key hf] at hi
  simp [isIdent] at hi
theorem builtD_ok : HOk builtD where
 fine := by
  intro o ho
  simp only [builtD, leafN, List.map_cons, List.map_nil, List.mem_cons, List.mem_nil_iff, or_false] at ho
  rcases ho with rfl | rfl | rfl | rfl <;> exact ⟨⟨by simp [builtN, Ty.size, sizeL], by simp [builtN, Ty.ixOk, ixOkL, eqF]⟩, by simp [builtN], by simp [builtN]⟩
 nm := by
  intro o ho
  simp only [builtD, leafN, List.map_cons, List.map_nil, List.mem_cons, List.mem_nil_iff, or_false] at ho
  rcases ho with rfl | rfl | rfl | rfl <;> decide
 ne := by simp [builtD, leafN]
theorem HOk.step {ds : List Dcl} (h : HOk ds) {d : Dcl} (hd : d.fine) : HOk (declM ds d).2 := by
 rcases declM_cases ds d with e | ⟨e, hw⟩
 ·rw [e]; exact h
 rw [e]
 refine ⟨?_, ?_, by simp⟩
 ·intro o ho
  rcases List.mem_append.1 ho with ho | ho
  ·exact h.fine o ho
  rw [List.mem_singleton.1 ho]; exact hd
 intro o ho
 rcases List.mem_append.1 ho with ho | ho
 ·exact h.nm o ho
 rw [List.mem_singleton.1 ho]
 unfold Dcl.wf at hw
 rw [Bool.and_eq_true] at hw
 exact hw.1
theorem dsOf_len : ∀ (i : Nat) (l : List Dcl), (dsOf (l.take i)).length <= 4 + i := by
 intro i l
 induction i with
 | zero => simp [dsOf, builtD, leafN]
 | succ i ih =>
  cases hg : l[i]? with
  | none => rw [List.take_of_length_le (by have := List.getElem?_eq_none_iff.1 hg; omega)]; rw [List.take_of_length_le (by have := List.getElem?_eq_none_iff.1 hg; omega)] at ih; omega
  | some d =>
   rw [dsOf_take hg]
   rcases declM_cases (dsOf (l.take i)) d with e | ⟨e, _⟩
   ·rw [e]; omega
   rw [e, List.length_append, List.length_singleton]; omega
theorem dsOf_ok {l : List Dcl} (hl : ∀ d ∈ l, d.fine) : ∀ i : Nat, HOk (dsOf (l.take i)) := by
 intro i
 induction i with
 | zero => exact builtD_ok
 | succ i ih =>
  cases hg : l[i]? with
  | none => rw [List.take_of_length_le (by have := List.getElem?_eq_none_iff.1 hg; omega)]; rw [List.take_of_length_le (by have := List.getElem?_eq_none_iff.1 hg; omega)] at ih; exact ih
  | some d => rw [dsOf_take hg]; exact ih.step (hl d (List.mem_of_getElem? hg))
theorem hs_loop {l : List Dcl} (hl : ∀ d ∈ l, d.fine) (hn : l.length < 900) : ∃ tl : List Dat,
  KD (.loop (roundOf Tryz.f10 0)) (fun e s => e = .exit 0 /\ s = (stHsX (encD l) (hF 3 (encD (dsOf l)) ++ hH (rAt l.length) (dsOf l) tl) (4 + l.length) (Int.ofNat (encD l).length)).toA Tryz.f10.ntmps) ((stHs (encD l) (hF 3 (encD builtD) ++ hH 2 builtD []) 4 (Int.ofNat 0)).toA Tryz.f10.ntmps) := by
 obtain ⟨f, f0, fI, fR⟩ := chainS (α := List Dat) (n := l.length) (Inv := fun _ _ => True)
  (R := fun i a b => ∀ T : Exit -> AState -> Prop, T .normal ((stHs (encD l) (hF 3 (encD (dsOf (l.take (i + 1)))) ++ hH (rAt (i + 1)) (dsOf (l.take (i + 1))) b) (4 + (i + 1)) (Int.ofNat (i + 1))).toA Tryz.f10.ntmps) ->
   KD (roundOf Tryz.f10 0) T ((stHs (encD l) (hF 3 (encD (dsOf (l.take i))) ++ hH (rAt i) (dsOf (l.take i)) a) (4 + i) (Int.ofNat i)).toA Tryz.f10.ntmps))
  [] trivial (by
   intro i a hi _
   have hg : l[i]? = some l[i] := List.getElem?_eq_getElem hi
   have hm : l[i] ∈ l := List.getElem_mem hi
   generalize l[i] = d at hg hm
   have hlen := dsOf_len i l
   have hok := dsOf_ok hl i
   obtain ⟨b, hc⟩ := c_Declare (tl := a) (hl d hm) hok.fine (by omega)
   refine ⟨b, ?_, trivial⟩
   intro T hT
   have h1 := dec_move (rAt i) (4 + i) (hF 3 (encD (dsOf (l.take i)))) [] hc
   simp only [List.append_nil] at h1
   have h2 := rf_move 3 (4 + i + 1) [] (hH (4 + i) (declM (dsOf (l.take i)) d).2 b) (r_Declare (hl d hm) hok.fine (by omega) hok.none) (args2 := [rP 3, .dat d.enc]) rfl rfl rfl
   simp only [List.nil_append] at h2
   refine hs_round (lt_lit (by rw [encD_length]; exact hi)) (idxDs hg) h1 h2 ?_
   rw [wrap_of (by omega)]
   rw [dsOf_take hg] at hT
   rw [show rAt (i + 1) = 4 + i by show i + 4 = 4 + i; omega] at hT
   exact hT)
 refine ⟨f l.length, ?_⟩
 have e0 : stHs (encD l) (hF 3 (encD builtD) ++ hH 2 builtD []) 4 (Int.ofNat 0) = stHs (encD l) (hF 3 (encD (dsOf (l.take 0))) ++ hH (rAt 0) (dsOf (l.take 0)) (f 0)) (4 + 0) (Int.ofNat 0) := by rw [f0]; rfl
 rw [e0]
 refine loop_count (St := fun i => (stHs (encD l) (hF 3 (encD (dsOf (l.take i))) ++ hH (rAt i) (dsOf (l.take i)) (f i)) (4 + i) (Int.ofNat i)).toA Tryz.f10.ntmps) l.length ?_ ?_ (i := 0) (Nat.zero_le _)
 ·intro i hi
  exact fR i hi _ rfl
 have e1 := hs_last (l := encD l) (H := hF 3 (encD (dsOf l)) ++ hH (rAt l.length) (dsOf l) (f l.length)) (m := 4 + l.length) (T := seqQ (fun _ => False) (fun e s => e = .exit 0 /\ s = (stHsX (encD l) (hF 3 (encD (dsOf l)) ++ hH (rAt l.length) (dsOf l) (f l.length)) (4 + l.length) (Int.ofNat (encD l).length)).toA Tryz.f10.ntmps)) ⟨rfl, rfl⟩
 rw [encD_length] at e1
 rw [List.take_length]
 rw [encD_length]
 exact e1
theorem rn_hiers {args : List AVal} {g : FuncId} {c : Bool} {bs cs : List Dat} {es : List (Go.Value × Dat)} {n k m : Nat} (h : KC g args [] 0 (XQ ⟨.tup [hP, rP 3, bv c], hF 3 bs ++ hG (rAt k) (av cs) es n, m⟩)) :
  KC g args [] 0 (XQ ⟨.tup [hP, rP 3, bv c], hF 3 bs ++ hG 2 (av cs) es n, 4⟩) := by
 refine ACalls.rn h ?_
 rintro v hp m' ⟨rfl, rfl, rfl⟩
 have hr : ∃ r, r = rAt k /\ Nat.beq r 0 = false /\ Nat.beq 0 r = false /\ Nat.beq r 1 = false /\ Nat.beq 1 r = false /\ Nat.beq r 3 = false /\ Nat.beq 3 r = false /\ Nat.beq r r = true /\ Nat.blt r 0 = false := by
  cases k with
  | zero => exact ⟨2, rfl, rfl, rfl, rfl, rfl, rfl, rfl, rfl, rfl⟩
  | succ k => exact ⟨k + 4, rfl, rfl, rfl, rfl, rfl, rfl, rfl, Nat.beq_refl _, rfl⟩
 obtain ⟨r, e, h1, h2, h3, h4, h5, h6, h7, h8⟩ := hr
 rw [← e]
 have g1 : Nat.blt 0 0 = false := rfl
 have g2 : Nat.blt 1 0 = false := rfl
 have g3 : Nat.blt 3 0 = false := rfl
 have g4 : Nat.beq 0 0 = true := rfl
 have g5 : Nat.beq 1 0 = false := rfl
 have g6 : Nat.beq 3 0 = false := rfl
 have g7 : Nat.beq 1 1 = true := rfl
 have g8 : Nat.beq 3 1 = false := rfl
 have g9 : Nat.beq 3 3 = true := rfl
 have ga : Nat.beq 0 1 = false := rfl
 have gb : Nat.beq 0 3 = false := rfl
 have gc : Nat.beq 1 3 = false := rfl
 have k0 : keptA 0 [0, 1, r, 3] 0 = true := rfl
 have k1 : keptA 0 [0, 1, r, 3] 1 = true := rfl
 have k3 : keptA 0 [0, 1, r, 3] 3 = true := by simp only [keptA, memN, h1, h2, h3, h4, h5, h6, h7, h8, g1, g2, g3, g4, g5, g6, g7, g8, g9, ga, gb, gc, Bool.false_or]
 have kr : keptA 0 [0, 1, r, 3] r = true := by simp only [keptA, memN, h1, h2, h3, h4, h5, h6, h7, h8, g1, g2, g3, g4, g5, g6, g7, g8, g9, ga, gb, gc, Bool.false_or]
 have q0 : rhoA 0 [0, 1, r, 3] 0 = 0 := rfl
 have q1 : rhoA 0 [0, 1, r, 3] 1 = 1 := rfl
 have q3 : rhoA 0 [0, 1, r, 3] 3 = 3 := by simp only [rhoA, memN, idxN, h1, h2, h3, h4, h5, h6, h7, h8, g1, g2, g3, g4, g5, g6, g7, g8, g9, ga, gb, gc]
 have qr : rhoA 0 [0, 1, r, 3] r = 2 := by simp only [rhoA, memN, idxN, h1, h2, h3, h4, h5, h6, h7, h8, g1, g2, g3, g4, g5, g6, g7, g8, g9, ga, gb, gc]
 have er : restrictH (keptA 0 [0, 1, r, 3]) (hF 3 bs ++ hG r (av cs) es n) = hF 3 bs ++ hG r (av cs) es n := by
  simp only [hF, hG, List.cons_append, List.nil_append, restrictH, k0, k1, k3, kr]
 refine ⟨[0, 1, r, 3], ?_, ?_, ?_⟩
 ·simp only [okV, okVs, hP, rP, bv, k1, k3, Bool.and_self]
 ·rw [er]
  simp only [hF, hG, List.cons_append, List.nil_append, okH, okO, okVs, okV, okVs_av, k0, k1, k3, kr, Bool.and_self]
 rw [er]
 simp only [XQ, hF, hG, List.cons_append, List.nil_append, rnH, rnO, rnN, rnL, rnV, rnL_av, q0, q1, q3, qr, hP, rP, bv]
 exact ⟨trivial, trivial, rfl⟩
theorem g_Hiers {l : List Dcl} (hl : ∀ d ∈ l, d.fine) (hn : l.length < 900) : ∃ tl : List Dat, KC 10 [.dat (.slice (encD l))] [] 0 (XQ ⟨.tup [hP, rP 3, bv true], hF 3 (encD (dsOf l)) ++ hH 2 (dsOf l) tl, 4⟩) := by
 obtain ⟨tl, hlp⟩ := hs_loop hl hn
 have hok := dsOf_ok hl l.length
 have hlen := dsOf_len l.length l
 rw [List.take_length] at hok hlen
 have h3 := c_Decls (rAt l.length) (4 + l.length) (hF 3 (encD (dsOf l))) (ds := dsOf l) (tl := tl) hok.fine (by omega)
 have eo : ownD (dsOf l) = .own (encD (dsOf l)) := by
  have := hok.ne
  cases hd : dsOf l with
  | nil => rw [hd] at this; exact absurd rfl this
  | cons x r => rfl
 rw [eo] at h3
 have h4 := rf_move 3 (4 + l.length) [] (hH (rAt l.length) (dsOf l) tl) (r_Decls (ds := dsOf l) (by omega)) (args2 := [rP 3]) rfl rfl rfl
 simp only [List.nil_append] at h4
 have h5 := r_DeclsEq (a := dsOf l) (b := dsOf l) hok.fine (by omega)
 rw [eqDs_self] at h5
 exact ⟨tl, rn_hiers (hs_all c_New r_NewAt hlp h3 h4 h5)⟩
def dZ (nm : List UInt8) (ar k : Int) (nm2 : List UInt8) (ix : Int) (la : List Dat) (con : Bool) : Dat := .agg [sb nm, i64 ar, i64 k, sb nm2, i64 ix, sl la, bl con, .slice []]
def Dcl.encZ (d : Dcl) : Dat := dZ d.nm d.ar d.sup.kind d.sup.nm d.sup.ixn (encL d.sup.args) d.con
def cellsZ (nm : List UInt8) (ar k : Int) (tn : List UInt8) (ix : Int) (la : List Dat) (con : Bool) : List AVal := [.dat (sb nm), iv ar, iv k, .dat (sb tn), iv ix, .dat (sl la), .dat (bl con), .dat (.slice [])]
theorem bx_declZ (nm : List UInt8) (ar k : Int) (tn : List UInt8) (ix : Int) (la : List Dat) (con : Bool) :
  aBox [.dat (dZ nm ar k tn ix la con)] = some ⟨.undef, .new (.cells (cellsZ nm ar k tn ix la con))⟩ := by
 rcases la with _ | ⟨x, la⟩ <;> kernel_rfl
theorem ld_supZ (t : Bool) (l : Nat) (nm : List UInt8) (ar k : Int) (tn : List UInt8) (ix : Int) (la : List Dat) (con : Bool) :
  aLoad (env Prims.fast) t 32 [.ptr (.loc l) 2] (some (.cells (cellsZ nm ar k tn ix la con))) = some ⟨.dat (.agg [i64 k, sb tn, i64 ix, sl la]), .keep⟩ := by
 cases t <;> rcases la with _ | ⟨x, la⟩ <;> kernel_rfl
theorem ld_declZ (t : Bool) (l : Nat) (nm : List UInt8) (ar k : Int) (tn : List UInt8) (ix : Int) (la : List Dat) (con : Bool) :
  aLoad (env Prims.fast) t 35 [.ptr (.loc l) 0] (some (.cells (cellsZ nm ar k tn ix la con))) = some ⟨.dat (dZ nm ar k tn ix la con), .keep⟩ := by
 cases t <;> rcases la with _ | ⟨x, la⟩ <;> kernel_rfl
theorem st_declZ (l : Nat) (nm : List UInt8) (ar k : Int) (tn : List UInt8) (ix : Int) (la : List Dat) (con : Bool) :
  aStore (env Prims.fast) 35 [.ptr (.loc l) 0, .dat (dZ nm ar k tn ix la con)] (some (.cells (cellsD [] 0 0 [] 0 [] false []))) = some ⟨.undef, .set (.cells (cellsZ nm ar k tn ix la con))⟩ := by
 rcases la with _ | ⟨x, la⟩ <;> kernel_rfl
/-! ### The program -/
theorem wellZ {nm nm2 : List UInt8} {ar k ix : Int} {la : List Dat} {con c1 c2 c3 c4 c5 c6 : Bool} (h1 : Calls1 87 [.dat (sb nm)] (bv c1)) (h2 : Calls1 88 [.dat (.slice (encS resv)), .dat (sb nm)] (bv c2)) (h3 : ltF ar 0 = c3)
  (h4 : eqF k 0 = c4) (h5 : eqF k 2 = c5) (h6 : Calls1 89 [.dat (.agg [i64 k, sb nm2, i64 ix, sl la]), iv ar] (bv c6)) :
  Calls1 50 [.dat (dZ nm ar k nm2 ix la con)] (bv (c1 && (!c2 && (!c3 && ((c4 || c5) && c6))))) := by
 have h7 : KD (.loop (roundOf Tryz.f50 0)) (fun e s => e = .exit 0 /\ s = (stWX (loW [] nm ar k nm2 ix (sl la) con (.slice [])) (.slice []) 0 (Int.ofNat 0)).toA Tryz.f50.ntmps) ((stW (loW [] nm ar k nm2 ix (sl la) con (.slice [])) (.slice []) 0 (Int.ofNat 0)).toA Tryz.f50.ntmps) :=
  loop_count (St := fun _ => (stW (loW [] nm ar k nm2 ix (sl la) con (.slice [])) (.slice []) 0 (Int.ofNat 0)).toA Tryz.f50.ntmps) 0 (fun i hi => absurd hi (Nat.not_lt_zero i)) (well_last ⟨rfl, rfl⟩) (i := 0) (Nat.le_refl _)
 rcases la with _ | ⟨x, la⟩ <;>
 ·refine co [19, 35, 40] [] (x := .of Tryz.f50 ord50 live50) ?_; refine on h1 ?_
  cases c1
  ·exact fi
  refine on h2 ?_
  cases c2
  ·refine ob h3 ?_
   cases c3
   ·cases con <;>
    ·refine ox h4 ?_
     cases c4
     ·refine ox h5 ?_
      cases c5
      ·exact fi
      refine on h6 ?_
      cases c6
      ·exact fi
      refine lo h7 ?_; rintro ex s ⟨rfl, rfl⟩; refine ⟨_, rfl, ?_⟩; exact fi
     refine on h6 ?_
     cases c6
     ·exact fi
     refine lo h7 ?_; rintro ex s ⟨rfl, rfl⟩; refine ⟨_, rfl, ?_⟩; exact fi
   exact fi
  exact fi
theorem efZ {la : List Dat} : Calls1 92 [.dat (sl la), .dat (.slice []), fnE] (bv (!lenP la)) := by
 have hl : KD (.loop (roundOf Tryz.f92 0)) (fun e s => e = .exit 0 /\ s = (stEX nl (.slice []) 0 (Int.ofNat 0)).toA Tryz.f92.ntmps) ((stE nl (.slice []) 0 (Int.ofNat 0)).toA Tryz.f92.ntmps) :=
  loop_count (St := fun _ => (stE nl (.slice []) 0 (Int.ofNat 0)).toA Tryz.f92.ntmps) 0 (fun i hi => absurd hi (Nat.not_lt_zero i)) (ef_last ⟨rfl, rfl⟩) (i := 0) (Nat.le_refl _)
 rcases la with _ | ⟨x, la⟩
 ·refine co [] [] (x := .of Tryz.f92 ord92 live92) ?_; refine lo hl ?_; rintro ex s ⟨rfl, rfl⟩; refine ⟨_, rfl, ?_⟩; exact fi
 refine co [] [] (x := .of Tryz.f92 ord92 live92) ?_; exact fi
theorem eqDZ {nm nm2 : List UInt8} {ar ar2 : Int} {con con2 : Bool} {k ix k2 ix2 : Int} {tn tn2 : List UInt8} {la la2 lb : List Dat} {c1 c2 c4 : Bool} (h1 : eqB nm nm2 = c1) (h2 : eqF ar ar2 = c2)
  (h4 : Calls1 91 [.dat (.agg [i64 k, sb tn, i64 ix, sl la]), .dat (.agg [i64 k2, sb tn2, i64 ix2, sl la2])] (bv c4)) :
  Calls1 51 [.dat (dRaw nm ar k tn ix la con lb), .dat (dZ nm2 ar2 k2 tn2 ix2 la2 con2)] (bv (c1 && (c2 && ((con == con2) && (c4 && !lenP lb))))) := by
 have h5 := efZ (la := lb)
 have q1 := bx_decl nm ar k tn ix la con lb
 have q2 := bx_declZ nm2 ar2 k2 tn2 ix2 la2 con2
 have q3 := ld_sup false 2 nm ar k tn ix la con lb
 have q4 := ld_supZ false 3 nm2 ar2 k2 tn2 ix2 la2 con2
 refine co [10, 16] [2, 3, 27, 29] (x := .of Tryz.f51 ord51 live51) ?_; refine oo q1 ?_; refine oo q2 ?_; refine ob h1 ?_
 cases c1
 ·exact fi
 refine ob h2 ?_
 cases c2
 ·exact fi
 cases con
 ·cases con2
  ·refine oo q3 ?_; refine oo q4 ?_; refine on h4 ?_
   cases c4
   ·exact fi
   refine on h5 ?_; exact fi
  exact fi
 cases con2
 ·exact fi
 refine oo q3 ?_; refine oo q4 ?_; refine on h4 ?_
 cases c4
 ·exact fi
 refine on h5 ?_; exact fi
theorem cloneZ {nm : List UInt8} {ar k ix : Int} {nm2 : List UInt8} {la : List Dat} {con : Bool} (hs : Calls1 58 [.dat (.agg [i64 k, sb nm2, i64 ix, sl la])] (.dat (.agg [i64 k, sb nm2, i64 ix, sl la]))) :
  Calls1 53 [.dat (dZ nm ar k nm2 ix la con)] (.dat (dRaw nm ar k nm2 ix la con [])) := by
 have hl : KD (.loop (roundOf Tryz.f53 0)) (fun e s => e = .exit 0 /\ s = (stCDX (loCD nm ar k nm2 ix (.dat (sl la)) con (ownF [])) (.slice []) 0 (Int.ofNat 0)).toA Tryz.f53.ntmps)
   ((stCD (loCD nm ar k nm2 ix (.dat (sl la)) con (ownF [])) (.slice []) 0 (Int.ofNat 0)).toA Tryz.f53.ntmps) :=
  loop_count (St := fun _ => (stCD (loCD nm ar k nm2 ix (.dat (sl la)) con (ownF [])) (.slice []) 0 (Int.ofNat 0)).toA Tryz.f53.ntmps) 0 (fun i hi => absurd hi (Nat.not_lt_zero i)) (cd_last ⟨rfl, rfl⟩) (i := 0) (Nat.le_refl _)
 rcases la with _ | ⟨x, la⟩ <;>
 ·refine co [] [] (x := .of Tryz.f53 ord53 live53) ?_; refine on hs ?_; refine lo hl ?_; rintro ex s ⟨rfl, rfl⟩; refine ⟨_, rfl, ?_⟩; exact fi
theorem anyZ {H : Heap} {nx : Nat} (hg : ∀ v, newV nx v = false -> gcR nx ⟨v, H, nx⟩ = ⟨v, H, nx⟩) : KC 54 [.dat (.slice []), fnD] H nx (XQ ⟨bv false, H, nx⟩) := by
 have h0 : KC 67 [.dat (.slice []), fnD] H nx (XQ ⟨iv (-1), H, nx⟩) := by
  have hg1 := hg (iv (-1)) rfl
  have hl : KD (.loop (roundOf Tryz.f67 0)) (fun e s => (e = .exit 0 /\ s = (sfIX H nx []).toA Tryz.f67.ntmps)) ((sfI H nx [] (Int.ofNat 0)).toA Tryz.f67.ntmps) :=
   loop_count (St := fun _ => (sfI H nx [] (Int.ofNat 0)).toA Tryz.f67.ntmps) 0 (fun i hi => absurd hi (Nat.not_lt_zero i)) (index_endF (l := []) ⟨rfl, rfl⟩) (i := 0) (Nat.le_refl _)
  clear hg
  refine co [] [] (x := .of Tryz.f67 ord67 live67) ?_; refine lo hl ?_; rintro ex s ⟨rfl, rfl⟩; refine ⟨_, rfl, ?_⟩
  exact ok_fin (by kernel_rfl) hg1
 have hg1 := hg (bv false) rfl
 clear hg
 refine co [] [] (x := .of Tryz.f54 ord54 live54) ?_; refine oh h0 ?_
 exact ok_fin (by kernel_rfl) hg1
theorem decl_z {cs cs2 : List Dat} {es es2 es3 : List (Go.Value × Dat)} {n : Nat} {nm nm2 : List UInt8} {ar k ix : Int} {con : Bool} {la : List Dat}
  {onm onm2 : List UInt8} {oar ok oix : Int} {ocon oex : Bool} {ola olb : List Dat} {snm snm2 : List UInt8} {sar sk six : Int} {c8 sex : Bool} {sla slb : List Dat} {c0 c1 c3 c4 c5 c7 : Bool}
  (hf : CallsR 49 [hP, .dat (sb nm)] cs es n (.tup [.dat (dRaw onm oar ok onm2 oix ola ocon olb), bv oex]))
  (hw : Calls1 50 [.dat (dZ nm ar k nm2 ix la con)] (bv c0))
  (h1 : ltF 6 ar = c1)
  (he : Calls1 51 [.dat (dRaw onm oar ok onm2 oix ola ocon olb), .dat (dZ nm ar k nm2 ix la con)] (bv c3))
  (hl : aLen (env Prims.fast) 23 [.win (.out 2) 8 0 n] none = some ⟨iv (Int.ofNat n), .keep⟩) (h3 : ltF (Int.ofNat n) 60 = c4)
  (hk : CallsR 39 [hP, .dat (.agg [i64 k, sb nm2, i64 ix, sl la])] cs es n (bv c5))
  (hc : Calls1 53 [.dat (dZ nm ar k nm2 ix la con)] (.dat (dRaw nm ar k nm2 ix la con [])))
  (ha : oex = false -> KC 52 [hP, .dat (dRaw nm ar k nm2 ix la con [])] (hG 2 (av cs) es n) 3 (XQ ⟨.tup [], hG 3 (av cs2) es2 (n + 1), 4⟩))
  (hcf : KC 54 [.dat (.slice []), fnD] (box4 :: hG 3 (av cs2) es2 (n + 1)) 5 (XQ ⟨bv false, box4 :: hG 3 (av cs2) es2 (n + 1), 5⟩))
  (hr : oex = false -> KC 56 [hP] (box4 :: hG 3 (av cs2) es2 (n + 1)) 5 (XQ ⟨.tup [], box4 :: hG 3 (av cs2) es3 n, 5⟩))
  (hs : KC 49 [hP, .dat (sb nm2)] (box4 :: hG 3 (av cs2) es2 (n + 1)) 5 (XQ ⟨.tup [.dat (dRaw snm sar sk snm2 six sla c8 slb), bv sex], box4 :: hG 3 (av cs2) es2 (n + 1), 5⟩))
  (h4 : eqF k 2 = c7) :
  KC 16 [hP, .dat (dZ nm ar k nm2 ix la con)] (hG 2 (av cs) es n) 3 (XQ (declX cs cs2 es es2 es3 n oex c0 c1 false c3 c4 c5 false c7 c8)) := by
 have q1 := st_decl 5 onm oar ok onm2 oix ola ocon olb
 have q2 := ld_decl false 5 onm oar ok onm2 oix ola ocon olb
 have q4 := st_decl 7 snm sar sk snm2 six sla c8 slb
 rcases la with _ | ⟨x, la⟩
 ·refine call_of0 [23, 45, 73] [100005, 33, 44, 100007] (x := XFn.of Tryz.f16 ord16 live16) (by kernel_rfl) ?_; refine oh hf ?_; refine oo q1 ?_; refine on hw ?_
  cases c0
  ·exact fi
  refine ob h1 ?_
  cases c1
  ·cases oex
   ·refine oo hl ?_; refine ox h3 ?_
    cases c4
    ·exact fi
    refine oh hk ?_
    cases c5
    ·exact fi
    refine on hc ?_; refine oh (ha rfl) ?_; refine oh hcf ?_; refine oh hs ?_; refine oo q4 ?_; refine ob h4 ?_
    cases c7
    ·exact fi
    cases c8
    ·exact fi
    refine oh (hr rfl) ?_; exact fi
   refine oo q2 ?_; refine on he ?_
   cases c3 <;>
   ·exact fi
  exact fi
 refine call_of0 [23, 45, 73] [100005, 33, 44, 100007] (x := XFn.of Tryz.f16 ord16 live16) (by kernel_rfl) ?_; refine oh hf ?_; refine oo q1 ?_; refine on hw ?_
 cases c0
 ·exact fi
 refine ob h1 ?_
 cases c1
 ·cases oex
  ·refine oo hl ?_; refine ox h3 ?_
   cases c4
   ·exact fi
   refine oh hk ?_
   cases c5
   ·exact fi
   refine on hc ?_; refine oh (ha rfl) ?_; refine oh hcf ?_; refine oh hs ?_; refine oo q4 ?_; refine ob h4 ?_
   cases c7
   ·exact fi
   cases c8
   ·exact fi
   refine oh (hr rfl) ?_; exact fi
  refine oo q2 ?_; refine on he ?_
  cases c3 <;>
  ·exact fi
 exact fi
/-! ### The reference -/
theorem vdZ {nm nm2 : List UInt8} {ar k ix : Int} {la : List Dat} {con c1 c2 c3 c5 c6 c7 : Bool} (h1 : Calls1 122 [.dat (sb nm)] (bv c1)) (h2 : Calls1 123 [.dat (sb nm)] (bv c2)) (h3 : ltF ar 0 = c3) (h5 : eqF k 2 = c5)
  (h6 : Calls1 24 [.dat (.agg [i64 k, sb nm2, i64 ix, sl la]), .dat (Ty.mk 0 [] 0 []).enc] (bv c6)) (h7 : Calls1 124 [.dat (.agg [i64 k, sb nm2, i64 ix, sl la]), iv ar] (bv c7)) :
  Calls1 93 [.dat (dZ nm ar k nm2 ix la con)] (bv (c1 && (!c2 && (!c3 && ((c5 || c6) && c7))))) := by
 have q1 := bx_declZ nm ar k nm2 ix la con
 have q3 := ld_supZ false 1 nm ar k nm2 ix la con
 have q4 := g_Any
 have hl : KD (.loop (roundOf Tryz.f93 0)) (fun e s => e = .exit 0 /\ s = (stVdX (loV (cellsR nm ar k nm2 ix (sl la) con (.slice []))) 0).toA Tryz.f93.ntmps) ((stVd (loV (cellsR nm ar k nm2 ix (sl la) con (.slice []))) 0).toA Tryz.f93.ntmps) := by
  refine loop_count (St := fun _ => (stVd (loV (cellsR nm ar k nm2 ix (sl la) con (.slice []))) 0).toA Tryz.f93.ntmps) 0 (fun i hi => absurd hi (Nat.not_lt_zero i)) ?_ (i := 0) (Nat.le_refl _)
  have e : seqQ (fun _ => False) (fun e s => e = .exit 0 /\ s = (stVdX (loV (cellsR nm ar k nm2 ix (sl la) con (.slice []))) 0).toA Tryz.f93.ntmps) (.exit 0) ((stVdX (loV (cellsR nm ar k nm2 ix (sl la) con (.slice []))) 0).toA Tryz.f93.ntmps) := ⟨rfl, rfl⟩
  refine run_of [] [] (H := hVD) (live := live93) (by kernel_rfl) ?_; exact oe e
 refine co [17, 33] [1, 43, 36] (x := .of Tryz.f93 ord93 live93) ?_; refine oo q1 ?_; refine on h1 ?_
 cases c1
 ·exact fi
 refine on h2 ?_
 cases c2
 ·refine ob h3 ?_
  cases c3
  ·cases con <;>
   ·refine ox h5 ?_
    cases c5
    ·refine oo q3 ?_; refine on q4 ?_; refine on h6 ?_
     cases c6
     ·exact fi
     refine oo q3 ?_; refine on h7 ?_
     cases c7
     ·exact fi
     refine lo hl ?_; rintro ex s ⟨rfl, rfl⟩; refine ⟨_, rfl, ?_⟩; exact fi
    refine oo q3 ?_; refine on h7 ?_
    cases c7
    ·exact fi
    refine lo hl ?_; rintro ex s ⟨rfl, rfl⟩; refine ⟨_, rfl, ?_⟩; exact fi
  exact fi
 exact fi
theorem ckZ {nm nm2 : List UInt8} {ar k ix : Int} {la : List Dat} {con c1 c2 : Bool} (h1 : Calls1 93 [.dat (dZ nm ar k nm2 ix la con)] (bv c1)) (h2 : ltF 6 ar = c2) :
  Calls1 57 [.dat (dZ nm ar k nm2 ix la con)] (iv (chkSel c1 c2 false)) := by
 have q1 := bx_declZ nm ar k nm2 ix la con
 have q2 := ld_declZ false 1 nm ar k nm2 ix la con
 refine co [8] [1, 3] (x := .of Tryz.f57 ord57 live57) ?_; refine oo q1 ?_; refine oo q2 ?_; refine on h1 ?_
 cases c1
 ·exact fi
 refine ob h2 ?_
 cases c2 <;>
 ·exact fi
theorem deZ {nm nm2 : List UInt8} {ar ar2 k ix k2 ix2 : Int} {tn tn2 : List UInt8} {la la2 lb : List Dat} {con con2 : Bool} {c1 c2 c3 c4 : Bool} (h1 : eqB nm nm2 = c1) (h2 : eqF ar ar2 = c2) (h3 : (con == con2) = c3) (h4 : Calls1 24 [.dat (.agg [i64 k, sb tn, i64 ix, sl la]), .dat (.agg [i64 k2, sb tn2, i64 ix2, sl la2])] (bv c4)) :
  Calls1 37 [.dat (dRaw nm ar k tn ix la con lb), .dat (dZ nm2 ar2 k2 tn2 ix2 la2 con2)] (bv (c1 && (c2 && (c3 && (c4 && !lenP lb))))) := by
 have q1 := bx_decl nm ar k tn ix la con lb
 have q2 := bx_declZ nm2 ar2 k2 tn2 ix2 la2 con2
 have q3 := ld_sup false 2 nm ar k tn ix la con lb
 have q4 := ld_supZ false 3 nm2 ar2 k2 tn2 ix2 la2 con2
 subst h3
 have hl : KD (.loop (roundOf Tryz.f37 0)) (fun e s => e = .exit 0 /\ s = (stDEX (lo2D (cellsR nm ar k tn ix (sl la) con nl) (cellsR nm2 ar2 k2 tn2 ix2 (sl la2) con2 (.slice []))) (Int.ofNat 0)).toA Tryz.f37.ntmps) ((stDE (lo2D (cellsR nm ar k tn ix (sl la) con nl) (cellsR nm2 ar2 k2 tn2 ix2 (sl la2) con2 (.slice []))) (Int.ofNat 0)).toA Tryz.f37.ntmps) :=
  loop_count (St := fun _ => (stDE (lo2D (cellsR nm ar k tn ix (sl la) con nl) (cellsR nm2 ar2 k2 tn2 ix2 (sl la2) con2 (.slice []))) (Int.ofNat 0)).toA Tryz.f37.ntmps) 0 (fun i hi => absurd hi (Nat.not_lt_zero i)) (de_last (l := []) ⟨rfl, rfl⟩) (i := 0) (Nat.le_refl _)
 rcases lb with _ | ⟨x, lb⟩
 ·refine co [10, 16] [2, 3, 27, 29] (x := .of Tryz.f37 ord37 live37) ?_; refine oo q1 ?_; refine oo q2 ?_; refine ox h1 ?_
  cases c1
  ·exact fi
  refine ox h2 ?_
  cases c2
  ·exact fi
  cases con
  ·cases con2
   ·refine oo q3 ?_; refine oo q4 ?_; refine on h4 ?_
    cases c4
    ·exact fi
    refine lo hl ?_; rintro ex s ⟨rfl, rfl⟩; refine ⟨_, rfl, ?_⟩; exact fi
   exact fi
  cases con2
  ·exact fi
  refine oo q3 ?_; refine oo q4 ?_; refine on h4 ?_
  cases c4
  ·exact fi
  refine lo hl ?_; rintro ex s ⟨rfl, rfl⟩; refine ⟨_, rfl, ?_⟩; exact fi
 clear hl
 refine co [10, 16] [2, 3, 27, 29] (x := .of Tryz.f37 ord37 live37) ?_; refine oo q1 ?_; refine oo q2 ?_; refine ox h1 ?_
 cases c1
 ·exact fi
 refine ox h2 ?_
 cases c2
 ·exact fi
 cases con
 ·cases con2
  ·refine oo q3 ?_; refine oo q4 ?_; refine on h4 ?_
   cases c4 <;>
   ·exact fi
  exact fi
 cases con2
 ·exact fi
 refine oo q3 ?_; refine oo q4 ?_; refine on h4 ?_
 cases c4 <;>
 ·exact fi
theorem hH_rem' (ds : List Dcl) (d : Dcl) : hH 2 ds (d.cells ++ []) = hG 2 (av (rowC (ds ++ [d]) ++ [])) (idxD ds 0) ds.length := by rw [List.append_nil]; exact hH_rem 2 ds d
theorem declX_to {ds : List Dcl} {d : Dcl} {tl : List Dat} {args : List AVal} (h : KC 16 args (hH 2 ds tl) 3 (XQ (declX (rowC ds ++ tl) (rowC (ds ++ [d]) ++ []) (idxD ds 0) (idxD (ds ++ [d]) 0) (idxD ds 0) ds.length (isS (findD ds d.nm)) d.wf (ltF 6 d.ar) (ltF 6 (Int.ofNat (encF d.fl).length)) ((dOf (findD ds d.nm)).eq d) (ltF (Int.ofNat ds.length) 60) (knowT ds d.sup) (d.fl.any (fun f => !knowT (ds ++ [d]) f.ty)) (eqF d.sup.kind 2) (dOf (findD (ds ++ [d]) d.sup.nm)).con))) :
  ∃ tl2, KC 16 args (hH 2 ds tl) 3 (XQ ⟨iv (declM ds d).1, hH 3 (declM ds d).2 tl2, 4⟩) := by
 unfold declM
 generalize d.wf = c0 at h ⊢
 cases c0 with
 | false => exact ⟨tl, rn3 h⟩
 | true =>
  generalize ltF 6 d.ar = c1 at h ⊢
  cases c1
  ·generalize ltF 6 (Int.ofNat (encF d.fl).length) = c2 at h ⊢
   cases c2
   ·generalize findD ds d.nm = fo at h ⊢
    cases fo with
    | some o =>
     dsimp only [dOf, isS] at h ⊢
     generalize o.eq d = c3 at h ⊢
     cases c3 <;>
     ·exact ⟨tl, rn3 h⟩
    | none =>
     dsimp only [dOf, isS] at h ⊢
     generalize ltF (Int.ofNat ds.length) 60 = c4 at h ⊢
     cases c4 with
     | false => exact ⟨tl, rn3 h⟩
     | true =>
      generalize knowT ds d.sup = c5 at h ⊢
      cases c5 with
      | false => exact ⟨tl, rn3 h⟩
      | true =>
       generalize d.fl.any (fun f => !knowT (ds ++ [d]) f.ty) = c6 at h ⊢
       cases c6
       ·generalize eqF d.sup.kind 2 = c7 at h ⊢
        cases c7 with
        | false =>
         dsimp only
         exact ⟨[], by rw [hH_app]; exact rn5 h⟩
        | true =>
         dsimp only [dOf] at h ⊢
         generalize (match findD (ds ++ [d]) d.sup.nm with | some d => d | none => Dcl.zero).con = c8 at h ⊢
         cases c8
         ·dsimp only
          exact ⟨[], by rw [hH_app]; exact rn5 h⟩
         dsimp only
         exact ⟨d.cells, by rw [hH_rem]; exact rn5 h⟩
       dsimp only
       exact ⟨d.cells, by rw [hH_rem]; exact rn5 h⟩
   exact ⟨tl, rn3 h⟩
  exact ⟨tl, rn3 h⟩
theorem eqFs_nil (l : List Fld) : eqFs l [] = !lenP (encF l) := by
 cases l with
 | nil => rfl
 | cons x r => rfl
theorem wfZ {d : Dcl} (h : d.fl = []) : d.wf = (isIdent d.nm && (!isResv d.nm && (!ltF d.ar 0 && ((eqF d.sup.kind 0 || eqF d.sup.kind 2) && d.sup.over d.ar)))) := by
 unfold Dcl.wf
 rw [h]
 simp [encF, lenP, wfL]
/-- Declare of such a declaration. -/
theorem c_DeclareZ {ds : List Dcl} {d : Dcl} {tl : List Dat} (hz : d.fl = []) (hd : d.fine) (hds : ∀ o ∈ ds, o.fine) (hn : ds.length < 999) :
  ∃ tl2, KC 16 [hP, .dat d.encZ] (hH 2 ds tl) 3 (XQ ⟨iv (declM ds d).1, hH 3 (declM ds d).2 tl2, 4⟩) := by
 refine declX_to ?_
 have hf : CallsR 49 [hP, .dat (sb d.nm)] (rowC ds ++ tl) (idxD ds 0) ds.length (.tup [.dat (dOf (findD ds d.nm)).enc, bv (isS (findD ds d.nm))]) := c_find2 ds tl d.nm
 have hw : Calls1 50 [.dat d.encZ] (bv d.wf) := by
  have g1 := c_isIdent d.nm
  have g2 := c_containsS d.nm
  have g6 := c_plainOver (ar := d.ar) hd.1
  rw [wfZ hz]
  obtain ⟨nm, ar, ⟨k, tn, ix, la⟩, con, fl⟩ := d
  exact wellZ g1 g2 rfl rfl rfl g6
 have ho : (dOf (findD ds d.nm)).fine := by
  cases h : findD ds d.nm with
  | none => exact zero_fine
  | some o => exact hds o (findD_mem h)
 have he : Calls1 51 [.dat (dOf (findD ds d.nm)).enc, .dat d.encZ] (bv ((dOf (findD ds d.nm)).eq d)) := by
  have h4 := c_equal (dOf (findD ds d.nm)).sup d.sup (by have := ho.1.1; omega)
  unfold Dcl.eq
  rw [hz, eqFs_nil]
  generalize dOf (findD ds d.nm) = o at *
  obtain ⟨nm, ar, ⟨k, tn, ix, la⟩, con, fl⟩ := d
  obtain ⟨onm, oar, ⟨ok, otn, oix, ola⟩, ocon, ofl⟩ := o
  exact eqDZ rfl rfl h4
 have hl := len_win (r := 2) (n := ds.length) (by simp only [lim]; omega)
 have hk : CallsR 39 [hP, .dat d.sup.enc] (rowC ds ++ tl) (idxD ds 0) ds.length (bv (knowT ds d.sup)) := c_knows ds tl d.sup (by have := hd.1.1; omega)
 have hc : Calls1 53 [.dat d.encZ] (.dat d.enc) := by
  have := c_cloneT hd.1
  obtain ⟨nm, ar, ⟨k, tn, ix, la⟩, con, fl⟩ := d
  dsimp only at hz
  subst hz
  exact cloneZ this
 have hpos : isS (findD ds d.nm) = false -> posD ds d.nm = none := by
  intro h
  cases hf : findD ds d.nm with
  | none => exact findD_pos hf
  | some o => rw [hf] at h; simp [isS] at h
 have ha := fun h => c_addD (tl := tl) (by omega) (hpos h)
 have hcf : KC 54 [.dat (.slice []), fnD] (box4 :: hG 3 (av (rowC (ds ++ [d]) ++ [])) (idxD (ds ++ [d]) 0) (ds.length + 1)) 5 (XQ ⟨bv false, box4 :: hG 3 (av (rowC (ds ++ [d]) ++ [])) (idxD (ds ++ [d]) 0) (ds.length + 1), 5⟩) :=
  anyZ (fun v hv => gcE v _ _ _ hv)
 have hr : isS (findD ds d.nm) = false -> KC 56 [hP] (box4 :: hG 3 (av (rowC (ds ++ [d]) ++ [])) (idxD (ds ++ [d]) 0) (ds.length + 1)) 5 (XQ ⟨.tup [], box4 :: hG 3 (av (rowC (ds ++ [d]) ++ [])) (idxD ds 0) ds.length, 5⟩) := by
  intro h
  have h2 := c_rem (tl := []) (by omega) (hpos h)
  rw [hH_rem' ds d, hH_app] at h2
  exact mv_move (r := 3) (m := 5) rfl rfl rfl [box4] h2
 have hs := c_find 3 5 [box4] (ds ++ [d]) [] d.sup.nm
 rw [hH_app] at hs
 simp only [hH_app] at ha
 rw [hz]
 have e0 : hH 2 ds tl = hG 2 (av (rowC ds ++ tl)) (idxD ds 0) ds.length := rfl
 rw [e0] at ha ⊢
 rw [show ltF 6 (Int.ofNat (encF []).length) = false from rfl, show ([] : List Fld).any (fun f => !knowT (ds ++ [d]) f.ty) = false from rfl]
 generalize (dOf (findD ds d.nm)).eq d = c3 at he ⊢
 generalize d.wf = c0 at hw ⊢
 generalize knowT ds d.sup = c5 at hk ⊢
 generalize dOf (findD ds d.nm) = o at *
 generalize dOf (findD (ds ++ [d]) d.sup.nm) = so at *
 generalize isS (findD (ds ++ [d]) d.sup.nm) = sb at *
 generalize rowC (ds ++ [d]) ++ [] = cs2 at *
 generalize idxD (ds ++ [d]) 0 = es2 at *
 generalize idxD ds 0 = es at *
 generalize rowC ds ++ tl = cs at *
 obtain ⟨nm, ar, ⟨k, tn, ix, la⟩, con, fl⟩ := d
 obtain ⟨onm, oar, ⟨ok, otn, oix, ola⟩, ocon, ofl⟩ := o
 obtain ⟨snm, sar, ⟨sk, stn, six, sla⟩, scon, sfl⟩ := so
 dsimp only at hz
 subst hz
 exact decl_z hf hw rfl he hl rfl hk hc ha hcf hr hs rfl
theorem dc_allZ {nm nm2 onm otn snm stn : List UInt8} {ar k ix oar ok oix sar sk six v : Int} {la ola olb sla slb es es2 : List Dat} {con ocon c0 oex c1 c3 c4 sc sex : Bool} (h0 : Calls1 57 [.dat (dZ nm ar k nm2 ix la con)] (iv v)) (hv : eqF v 0 = c0)
  (hl : KC 36 [rP 0, .dat (sb nm)] (hF 0 es) 1 (XQ ⟨.tup [.dat (dRaw onm oar ok otn oix ola ocon olb), bv oex], hF 0 es, 1⟩)) (he : Calls1 37 [.dat (dRaw onm oar ok otn oix ola ocon olb), .dat (dZ nm ar k nm2 ix la con)] (bv c1))
  (hn : ltF (Int.ofNat es.length) 60 = c3) (hd : KC 20 [rP 0] (hF 0 es) 1 (XQ ⟨.own es, hF 0 es, 1⟩)) (ha : aAppend (env Prims.fast) false 23 [.own es, .dat (.slice [dZ nm ar k nm2 ix la con])] none = some ⟨.own es2, .keep⟩)
  (hk : KC 40 [rP 0, .dat (.agg [i64 k, sb nm2, i64 ix, sl la])] (hF 0 es) 1 (XQ ⟨bv c4, hF 0 es, 1⟩))
  (hs : KC 36 [rP 0, .dat (sb nm2)] (hF 0 es) 1 (XQ ⟨.tup [.dat (dRaw snm sar sk stn six sla sc slb), bv sex], hF 0 es, 1⟩)) :
  KC 17 [rP 0, .dat (dZ nm ar k nm2 ix la con)] (hF 0 es) 1 (XQ ⟨iv (dcSel v c0 oex c1 c3 c4 true (sex && sc)), hF 0 (dcEs es es2 c0 oex c3 c4 true (sex && sc)), 1⟩) := by
 have q1 := bx_declZ nm ar k nm2 ix la con
 have q3 := ld_supZ false 3 nm ar k nm2 ix la con
 have q5 := ld_declZ false 3 nm ar k nm2 ix la con
 have q6 := ld_declZ true 3 nm ar k nm2 ix la con
 have q4 := st_decl 6 onm oar ok otn oix ola ocon olb
 have q7 := st_decl 10 snm sar sk stn six sla sc slb
 have hlp : KD (.loop (roundOf Tryz.f17 0)) (fun e s => e = .exit 0 /\ s = (stDcX (cellsR nm ar k nm2 ix (sl la) con (.slice [])) es es2 0 0).toA Tryz.f17.ntmps) ((stDc (cellsR nm ar k nm2 ix (sl la) con (.slice [])) es es2 0 0).toA Tryz.f17.ntmps) := by
  refine loop_count (St := fun _ => (stDc (cellsR nm ar k nm2 ix (sl la) con (.slice [])) es es2 0 0).toA Tryz.f17.ntmps) 0 (fun i hi => absurd hi (Nat.not_lt_zero i)) ?_ (i := 0) (Nat.le_refl _)
  have e : seqQ (fun _ => False) (fun e s => e = .exit 0 /\ s = (stDcX (cellsR nm ar k nm2 ix (sl la) con (.slice [])) es es2 0 0).toA Tryz.f17.ntmps) (.exit 0) ((stDcX (cellsR nm ar k nm2 ix (sl la) con (.slice [])) es es2 0 0).toA Tryz.f17.ntmps) := ⟨rfl, rfl⟩
  refine run_of [] [] (H := hRDc) (live := live17) (by kernel_rfl) ?_; exact oe e
 refine co [15, 33] [3, 12, 100006, 26, 36, 38, 43, 100010] (x := .of Tryz.f17 ord17 live17) ?_; refine oo q1 ?_; refine oo q5 ?_; refine on h0 ?_; refine ox hv ?_
 cases c0
 ·exact fi
 refine oh hl ?_; refine oo q4 ?_
 cases oex
 ·refine ox hn ?_
  cases c3
  ·exact fi
  refine oo q5 ?_; refine oh hd ?_; refine oo ha ?_; refine oo q3 ?_; refine oh hk ?_
  cases c4
  ·exact fi
  refine lo hlp ?_; rintro ex s ⟨rfl, rfl⟩; refine ⟨_, rfl, ?_⟩; refine oh hs ?_; refine oo q7 ?_
  cases sex
  ·exact fi
  cases sc <;>
  ·exact fi
 refine oo q5 ?_
 rcases ola with _ | ⟨v2, v3⟩
 ·rcases olb with _ | ⟨v0, v1⟩ <;>
  ·refine on he ?_
   cases c1 <;>
   ·exact fi
 rcases olb with _ | ⟨v4, v5⟩ <;>
 ·refine on he ?_
  cases c1 <;>
  ·exact fi
/-! ### Lists with such a declaration at the end -/
def encDZ (ds : List Dcl) (d : Dcl) : List Dat := encD ds ++ [d.encZ]
theorem sizedDZ (ds : List Dcl) (d : Dcl) : sizedB 8 (encDZ ds d) = true := sizedB_of (fun x hx => by
 rcases List.mem_append.1 hx with hx | hx
 ·obtain ⟨t, rfl⟩ := encD_mem hx; exact dcells t
 rw [List.mem_singleton.1 hx]; rfl)
theorem bytesDZ (ds : List Dcl) (d : Dcl) : isBytes (encDZ ds d) = false := by
 cases ds with
 | nil => rfl
 | cons t r => rfl
theorem lenDZ (ds : List Dcl) (d : Dcl) : (encDZ ds d).length = ds.length + 1 := by simp [encDZ, encD_length]
theorem appZ {ds : List Dcl} {d : Dcl} (h : ds.length < 1000000) : aAppend (env Prims.fast) false 23 [.own (encD ds), .dat (.slice [d.encZ])] none = some ⟨.own (encDZ ds d), .keep⟩ := by
 have h1 : tiD.bytes <= 1000 := ble_to (by kernel_rfl)
 refine ans_app (i := tiD) (ds := [d.encZ]) (k := 7) tiD_eq rfl tiD_size rfl (encD_sized ds) (by kernel_rfl) ?_ ?_ ?_ (by simp)
 ·rw [encD_length]
  calc (ds.length + 1) * tiD.bytes <= 1000000 * 1000 := Nat.mul_le_mul (by omega) h1
   _ <= 140737488355328 := by decide
 ·rw [encD_length]; simp [lim]; omega
 unfold byteOk
 rw [show encD ds ++ [d.encZ] = encDZ ds d from rfl, bytesDZ]
theorem appZ0 {ds : List Dcl} {d : Dcl} (h : ds.length < 1000000) : aAppend (env Prims.fast) false 23 [.own [], .dat (.slice (encDZ ds d))] none = some ⟨.own (encDZ ds d), .keep⟩ := by
 have h1 : tiD.bytes <= 1000 := ble_to (by kernel_rfl)
 refine ans_app (i := tiD) (es := []) (ds := encDZ ds d) (k := 7) tiD_eq rfl tiD_size (sizedDZ ds d) rfl (by kernel_rfl) ?_ ?_ ?_ (by simp)
 ·rw [lenDZ]
  calc (0 + (ds.length + 1)) * tiD.bytes <= 1000001 * 1000 := Nat.mul_le_mul (by omega) h1
   _ <= 140737488355328 := by decide
 ·rw [lenDZ]; simp [lim]; omega
 unfold byteOk
 rw [List.nil_append, bytesDZ]
theorem r_DeclsZ {es : List Dat} (h1 : aAppend (env Prims.fast) false 23 [.own [], .dat (.slice es)] none = some ⟨.own es, .keep⟩) : KC 20 [rP 0] (hF 0 es) 1 (XQ ⟨.own es, hF 0 es, 1⟩) := by
 refine co [] [8] (x := .of Tryz.f20 ord20 live20) ?_; refine oo h1 ?_; exact fi
theorem idxZ {ds : List Dcl} {d : Dcl} : aIndexAddr (env Prims.fast) 23 [.dat (.slice (encDZ ds d)), .dat (.flat (.int .i64 (Int.ofNat ds.length)))] = some ⟨.ref (d.encZ).cells, .keep⟩ :=
 ans_idx (es := encDZ ds d) (d := d.encZ) tiD_eq rfl (by unfold encDZ; rw [List.getElem?_append_right (by rw [encD_length]; omega), encD_length]; simp) (by rw [tiD_size]; rfl) (by rw [tiD_size]; decide)
theorem idxZl {ds : List Dcl} {d t : Dcl} {i : Nat} (h : ds[i]? = some t) : aIndexAddr (env Prims.fast) 23 [.dat (.slice (encDZ ds d)), .dat (.flat (.int .i64 (Int.ofNat i)))] = some ⟨.ref t.cells, .keep⟩ :=
 ans_idx (es := encDZ ds d) (d := t.enc) tiD_eq rfl (by unfold encDZ; rw [List.getElem?_append_left (by rw [encD_length]; exact (List.getElem?_eq_some_iff.1 h).1)]; exact encD_get h) (by rw [tiD_size]; exact dcells t) (by rw [tiD_size]; decide)
theorem dse_roundD {a b : List Dat} {t u : Dcl} {i : Nat} {T : Exit -> AState -> Prop} (h1 : ltF (Int.ofNat i) (Int.ofNat a.length) = true) (h2 : aIndexAddr (env Prims.fast) 23 [.dat (.slice a), .dat (.flat (.int .i64 (Int.ofNat i)))] = some ⟨.ref t.cells, .keep⟩)
  (h3 : aIndexAddr (env Prims.fast) 23 [.dat (.slice b), .dat (.flat (.int .i64 (Int.ofNat i)))] = some ⟨.ref u.cells, .keep⟩) (hc : Calls1 37 [.dat t.enc, .dat u.enc] (bv true))
  (e1 : T .normal ((stDs a b (wrapF .i64 (Int.ofNat i + 1))).toA Tryz.f18.ntmps)) :
  KD (roundOf Tryz.f18 0) T ((stDs a b (Int.ofNat i)).toA Tryz.f18.ntmps) := by
 obtain ⟨dn, ar, ⟨k, tn, ix, la⟩, con, fl⟩ := t
 obtain ⟨dn2, ar2, ⟨k2, tn2, ix2, la2⟩, con2, fl2⟩ := u
 refine run_of [14] [19, 23] (H := hDs) (live := live18) (by kernel_rfl) ?_; refine ob h1 ?_; refine oo h2 ?_; refine oo h3 ?_; refine on hc ?_; exact oe e1
theorem dse_roundZ {a b : List Dat} {t u : Dcl} {i : Nat} {T : Exit -> AState -> Prop} (h1 : ltF (Int.ofNat i) (Int.ofNat a.length) = true) (h2 : aIndexAddr (env Prims.fast) 23 [.dat (.slice a), .dat (.flat (.int .i64 (Int.ofNat i)))] = some ⟨.ref t.cells, .keep⟩)
  (h3 : aIndexAddr (env Prims.fast) 23 [.dat (.slice b), .dat (.flat (.int .i64 (Int.ofNat i)))] = some ⟨.ref (u.encZ).cells, .keep⟩) (hc : Calls1 37 [.dat t.enc, .dat u.encZ] (bv true))
  (e1 : T .normal ((stDs a b (wrapF .i64 (Int.ofNat i + 1))).toA Tryz.f18.ntmps)) :
  KD (roundOf Tryz.f18 0) T ((stDs a b (Int.ofNat i)).toA Tryz.f18.ntmps) := by
 obtain ⟨dn, ar, ⟨k, tn, ix, la⟩, con, fl⟩ := t
 obtain ⟨dn2, ar2, ⟨k2, tn2, ix2, la2⟩, con2, fl2⟩ := u
 refine run_of [14] [19, 23] (H := hDs) (live := live18) (by kernel_rfl) ?_; refine ob h1 ?_; refine oo h2 ?_; refine oo h3 ?_; refine on hc ?_; exact oe e1
theorem r_DeclsEqZ {ds : List Dcl} {d : Dcl} (hds : ∀ o ∈ ds, o.fine) (hd : d.fine) (hz : d.fl = []) (hn : ds.length < 1000000) : Calls1 18 [.dat (.slice (encD (ds ++ [d]))), .dat (.slice (encDZ ds d))] (bv true) := by
 have hlenA : (encD (ds ++ [d])).length = ds.length + 1 := by simp [encD_length]
 have hself : Calls1 37 [.dat d.enc, .dat d.encZ] (bv true) := by
  have h4 := r_equalT d.sup d.sup (by have := hd.1.1; omega)
  rw [eqT_iff.2 rfl] at h4
  obtain ⟨nm, ar, ⟨k, tn, ix, la⟩, con, fl⟩ := d
  dsimp only at hz
  subst hz
  have h := deZ (lb := []) (eqB_self nm) (eqF_self ar) (show (con == con) = true by simp) h4
  exact h
 have hc : eqF (Int.ofNat (encD (ds ++ [d])).length) (Int.ofNat (encDZ ds d).length) = true := by rw [hlenA, lenDZ, eqF_self]
 have hl : KD (.loop (roundOf Tryz.f18 0)) (fun e s => (e = .exit 0 /\ true = true /\ s = (stDsX (encD (ds ++ [d])) (encDZ ds d) (Int.ofNat (encD (ds ++ [d])).length)).toA Tryz.f18.ntmps) ∨ (e = .ret /\ true = false /\ s = stDsR.toA Tryz.f18.ntmps)) ((stDs (encD (ds ++ [d])) (encDZ ds d) (Int.ofNat 0)).toA Tryz.f18.ntmps) := by
  refine loop_count (St := fun i => (stDs (encD (ds ++ [d])) (encDZ ds d) (Int.ofNat i)).toA Tryz.f18.ntmps) (ds.length + 1) ?_ ?_ (i := 0) (Nat.zero_le _)
  ·intro i hi
   have hw : wrapF .i64 (Int.ofNat i + 1) = Int.ofNat (i + 1) := wrap_of (by omega)
   have h1 : ltF (Int.ofNat i) (Int.ofNat (encD (ds ++ [d])).length) = true := by rw [hlenA]; exact lt_lit hi
   by_cases hlt : i < ds.length
   ·have hg : ds[i]? = some ds[i] := List.getElem?_eq_getElem hlt
    have hm : ds[i] ∈ ds := List.getElem_mem hlt
    generalize ds[i] = t at hg hm
    have he := r_declEq (o := t) (hds t hm)
    rw [Dcl.eq_iff.2 rfl] at he
    refine dse_roundD h1 (idxDs (by rw [List.getElem?_append_left hlt]; exact hg)) (idxZl hg) he ?_
    rw [hw]
    exact rfl
   have hie : i = ds.length := by omega
   subst hie
   refine dse_roundZ (u := d) h1 (idxDs (t := d) (by simp)) idxZ hself ?_
   rw [hw]
   exact rfl
  have e1 := dse_last (a := encD (ds ++ [d])) (b := encDZ ds d) (T := seqQ (fun _ => False) (fun e s => (e = .exit 0 /\ true = true /\ s = (stDsX (encD (ds ++ [d])) (encDZ ds d) (Int.ofNat (encD (ds ++ [d])).length)).toA Tryz.f18.ntmps) ∨ (e = .ret /\ true = false /\ s = stDsR.toA Tryz.f18.ntmps))) (.inl ⟨rfl, rfl, rfl⟩)
  rw [← hlenA]
  exact e1
 exact dse_all (d := true) hc (fun _ => hl)
theorem dcEs_cases (c0 oex c3 c4 d c6 : Bool) : (∀ x y : List Dat, dcEs x y c0 oex c3 c4 d c6 = x) ∨ (∀ x y : List Dat, dcEs x y c0 oex c3 c4 d c6 = y) := by
 cases c0 <;> cases oex <;> cases c3 <;> cases c4 <;> cases d <;> cases c6 <;> first | exact .inl (fun _ _ => rfl) | exact .inr (fun _ _ => rfl)
/-- What the reference's list is behind it. -/
theorem r_DeclareZ {ds : List Dcl} {d : Dcl} (hz : d.fl = []) (hd : d.fine) (hds : ∀ o ∈ ds, o.fine) (hn : ds.length < 1000) (h0 : findD ds [] = none) :
  ∃ es, (((declM ds d).2 = ds /\ es = encD ds) ∨ ((declM ds d).2 = ds ++ [d] /\ es = encDZ ds d)) /\ KC 17 [rP 0, .dat d.encZ] (hF 0 (encD ds)) 1 (XQ ⟨iv (declM ds d).1, hF 0 es, 1⟩) := by
 have hck : Calls1 57 [.dat d.encZ] (iv d.chk) := by
  have h6 := r_equalT d.sup (.mk 0 [] 0 []) (by have := hd.1.1; omega)
  have h7 := r_VP (ar := d.ar) hd.1
  have e : ((eqF d.sup.kind 2 || eqT d.sup (.mk 0 [] 0 [])) && d.sup.over d.ar) = ((eqF d.sup.kind 0 || eqF d.sup.kind 2) && d.sup.over d.ar) := by
   cases ho : d.sup.over d.ar with
   | false => simp
   | true =>
    have hh : eqT d.sup (.mk 0 [] 0 []) = eqF d.sup.kind 0 := by
     rw [Bool.eq_iff_iff, eqT_iff]
     constructor
     ·intro h; rw [h]; rfl
     exact over_kind ho
    rw [hh, Bool.or_comm]
  have hv : Calls1 93 [.dat d.encZ] (bv d.wf) := by
   rw [wfZ hz, ← e]
   obtain ⟨nm, ar, ⟨k, tn, ix, la⟩, con, fl⟩ := d
   exact vdZ (r_ident nm) (r_key nm) rfl rfl h6 h7
  unfold Dcl.chk
  rw [hz]
  generalize d.wf = c1 at hv ⊢
  obtain ⟨nm, ar, ⟨k, tn, ix, la⟩, con, fl⟩ := d
  exact ckZ hv rfl
 have hl := r_Lookup (ds := ds) d.nm (by omega)
 have ho : (dOf (findD ds d.nm)).fine := by
  cases h : findD ds d.nm with
  | none => exact zero_fine
  | some o => exact hds o (findD_mem h)
 have he : Calls1 37 [.dat (dOf (findD ds d.nm)).enc, .dat d.encZ] (bv ((dOf (findD ds d.nm)).eq d)) := by
  have h4 := r_equalT (dOf (findD ds d.nm)).sup d.sup (by have := ho.1.1; omega)
  unfold Dcl.eq
  rw [hz, eqFs_nil]
  generalize dOf (findD ds d.nm) = o at *
  obtain ⟨nm, ar, ⟨k, tn, ix, la⟩, con, fl⟩ := d
  obtain ⟨onm, oar, ⟨ok, otn, oix, ola⟩, ocon, ofl⟩ := o
  exact deZ rfl rfl rfl h4
 have hdc := r_Decls (ds := ds) (by omega)
 have ha := appZ (ds := ds) (d := d) (by omega)
 have hk := r_Knows (ds := ds) (by omega) d.sup (by have := hd.1.1; omega)
 have hs := r_Lookup (ds := ds) d.sup.nm (by omega)
 have e := declM_eq (d := d) h0
 have hany : d.fl.any (fun f => !knowT (ds ++ [d]) f.ty) = false := by rw [hz]; rfl
 rw [hany] at e
 refine ⟨dcEs (encD ds) (encDZ ds d) (eqF d.chk 0) (isS (findD ds d.nm)) (ltF (Int.ofNat (encD ds).length) 60) (knowT ds d.sup) true (isS (findD ds d.sup.nm) && (dOf (findD ds d.sup.nm)).con), ?_, ?_⟩
 ·rcases dcEs_cases (eqF d.chk 0) (isS (findD ds d.nm)) (ltF (Int.ofNat (encD ds).length) 60) (knowT ds d.sup) true (isS (findD ds d.sup.nm) && (dOf (findD ds d.sup.nm)).con) with hx | hx
  ·rw [hx]
   refine .inl ⟨?_, rfl⟩
   have e2 := e.2
   rw [show (!false) = true from rfl, hx] at e2
   rcases declM_cases ds d with h | ⟨h, _⟩
   ·exact h
   rw [h] at e2
   have := congrArg List.length e2
   simp [encD_length] at this
  rw [hx]
  refine .inr ⟨?_, rfl⟩
  have e2 := e.2
  rw [show (!false) = true from rfl, hx] at e2
  rcases declM_cases ds d with h | ⟨h, _⟩
  ·rw [h] at e2
   have := congrArg List.length e2
   simp [encD_length] at this
  exact h
 rw [e.1]
 clear e ho hds h0 hany
 generalize (dOf (findD ds d.nm)).eq d = c1 at *
 generalize knowT ds d.sup = c4 at *
 generalize d.chk = v at *
 generalize isS (findD ds d.nm) = oex at *
 generalize isS (findD ds d.sup.nm) = sex at *
 generalize dOf (findD ds d.nm) = o at *
 generalize dOf (findD ds d.sup.nm) = so at *
 generalize encDZ ds d = es2 at *
 generalize encD ds = es at *
 obtain ⟨nm, ar, ⟨k, tn, ix, la⟩, con, fl⟩ := d
 obtain ⟨onm, oar, ⟨ok, otn, oix, ola⟩, ocon, ofl⟩ := o
 obtain ⟨snm, sar, ⟨sk, stn, six, sla⟩, scon, sfl⟩ := so
 exact dc_allZ hck rfl hl he rfl hdc ha hk hs
def lvTy : Ty := .mk 2 [76, 105, 115, 116] 0 [.mk 5 [] 0 []]
def memoF : List PMemo := [⟨119, [.dat lvTy.enc], .dat (sl (lvTy.fv.map iN))⟩]
theorem memoF_ok : ∀ m ∈ memoF, m.ok = true /\ KC m.fn m.args [] 0 (XQ ⟨m.val, [], 0⟩) := by
 intro m hm
 rw [List.mem_singleton.1 hm]
 exact ⟨rfl, c_FreeVars (by simp [lvTy, Ty.size, sizeL]) (by simp [lvTy, Ty.ixOk, ixOkL, eqF, ltF])⟩
noncomputable def X2 : XCalls := fcall (env Prims.fast) xglobs xmoves xcaps ftab.find (pmemoX memoF) 3000 60
theorem X2_ok : XOk Tryz.prog xglobs X2 := fun f args heap next r h => fcall_sound 3000 envF ftab_ok (M := pmemoX memoF) (pmemoX_ok memoF_ok) 60 f args heap next r h
theorem c_check : Calls1 11 [] (bv true) := X2_ok _ _ _ _ _ (by kernel_rfl)
theorem app_fld {a b : List Fld} (h : a.length + b.length < 100000000) : aAppend (env Prims.fast) false 33 [.own (encF a), .dat (.slice (encF b))] none = some ⟨.own (encF (a ++ b)), .keep⟩ := by
 rw [encF_app]
 have h1 : tiF.bytes <= 1000 := ble_to (by kernel_rfl)
 refine ans_app (i := tiF) (ds := encF b) (k := 4) tiF_eq rfl tiF_size (encF_sized b) (encF_sized a) (by kernel_rfl) ?_ ?_ ?_ (by simp)
 ·rw [encF_length, encF_length]
  calc (a.length + b.length) * tiF.bytes <= 100000000 * 1000 := Nat.mul_le_mul (by omega) h1
   _ <= 140737488355328 := by decide
 ·rw [encF_length, encF_length]; simp [lim]; omega
 unfold byteOk
 rw [show encF a ++ encF b = encF (a ++ b) by rw [encF_app], encF_bytes]
def boxN : List UInt8 := [66, 111, 120]
theorem sp0 {dn tn : List UInt8} {ar k ix how n : Int} {la lb : List Dat} {con : Bool} {name : List UInt8} {tk : Int} {tm : List UInt8} {ti : Int} {ta : List Dat} (h : Calls1 13 [iv how, iv 9] (iv 0)) :
  Calls1 12 [.dat (dRaw dn ar k tn ix la con lb), iv how, iv n, .dat (sb name), .dat (.agg [i64 tk, sb tm, i64 ti, sl ta])] (.dat (match (0 : Nat) with | 0 => dRaw name ar k tn ix la con lb | 1 => dRaw dn n k tn ix la con lb | 2 => dRaw dn ar tk tm ti ta con lb | 3 => dRaw dn ar k tn ix la (!con) lb | 7 => dRaw dn ar n [] 0 [] con lb | _ => dRaw dn ar k tn ix la con lb)) := by
 have q1 := bx_decl dn ar k tn ix la con lb
 have q2 := bx_type tk tm ti ta
 refine co [] [5, 9] (x := .of Tryz.f12 ord12 live12) ?_; refine oo q1 ?_; refine oo q2 ?_; refine on h ?_
 rcases la with _ | ⟨v2, v3⟩
 ·rcases lb with _ | ⟨v0, v1⟩ <;>
  ·exact fi
 rcases lb with _ | ⟨v4, v5⟩ <;>
 ·exact fi
theorem sp1 {dn tn : List UInt8} {ar k ix how n : Int} {la lb : List Dat} {con : Bool} {name : List UInt8} {tk : Int} {tm : List UInt8} {ti : Int} {ta : List Dat} (h : Calls1 13 [iv how, iv 9] (iv 1)) :
  Calls1 12 [.dat (dRaw dn ar k tn ix la con lb), iv how, iv n, .dat (sb name), .dat (.agg [i64 tk, sb tm, i64 ti, sl ta])] (.dat (match (1 : Nat) with | 0 => dRaw name ar k tn ix la con lb | 1 => dRaw dn n k tn ix la con lb | 2 => dRaw dn ar tk tm ti ta con lb | 3 => dRaw dn ar k tn ix la (!con) lb | 7 => dRaw dn ar n [] 0 [] con lb | _ => dRaw dn ar k tn ix la con lb)) := by
 have q1 := bx_decl dn ar k tn ix la con lb
 have q2 := bx_type tk tm ti ta
 refine co [] [5, 9] (x := .of Tryz.f12 ord12 live12) ?_; refine oo q1 ?_; refine oo q2 ?_; refine on h ?_
 rcases la with _ | ⟨v2, v3⟩
 ·rcases lb with _ | ⟨v0, v1⟩ <;>
  ·exact fi
 rcases lb with _ | ⟨v4, v5⟩ <;>
 ·exact fi
theorem sp2 {dn tn : List UInt8} {ar k ix how n : Int} {la lb : List Dat} {con : Bool} {name : List UInt8} {tk : Int} {tm : List UInt8} {ti : Int} {ta : List Dat} (h : Calls1 13 [iv how, iv 9] (iv 2)) :
  Calls1 12 [.dat (dRaw dn ar k tn ix la con lb), iv how, iv n, .dat (sb name), .dat (.agg [i64 tk, sb tm, i64 ti, sl ta])] (.dat (match (2 : Nat) with | 0 => dRaw name ar k tn ix la con lb | 1 => dRaw dn n k tn ix la con lb | 2 => dRaw dn ar tk tm ti ta con lb | 3 => dRaw dn ar k tn ix la (!con) lb | 7 => dRaw dn ar n [] 0 [] con lb | _ => dRaw dn ar k tn ix la con lb)) := by
 have q1 := bx_decl dn ar k tn ix la con lb
 have q2 := bx_type tk tm ti ta
 refine co [] [5, 9] (x := .of Tryz.f12 ord12 live12) ?_; refine oo q1 ?_; refine oo q2 ?_; refine on h ?_
 rcases ta with _ | ⟨v2, v3⟩
 ·rcases lb with _ | ⟨v0, v1⟩ <;>
  ·exact fi
 rcases lb with _ | ⟨v4, v5⟩ <;>
 ·exact fi
theorem sp3 {dn tn : List UInt8} {ar k ix how n : Int} {la lb : List Dat} {con : Bool} {name : List UInt8} {tk : Int} {tm : List UInt8} {ti : Int} {ta : List Dat} (h : Calls1 13 [iv how, iv 9] (iv 3)) :
  Calls1 12 [.dat (dRaw dn ar k tn ix la con lb), iv how, iv n, .dat (sb name), .dat (.agg [i64 tk, sb tm, i64 ti, sl ta])] (.dat (match (3 : Nat) with | 0 => dRaw name ar k tn ix la con lb | 1 => dRaw dn n k tn ix la con lb | 2 => dRaw dn ar tk tm ti ta con lb | 3 => dRaw dn ar k tn ix la (!con) lb | 7 => dRaw dn ar n [] 0 [] con lb | _ => dRaw dn ar k tn ix la con lb)) := by
 have q1 := bx_decl dn ar k tn ix la con lb
 have q2 := bx_type tk tm ti ta
 refine co [] [5, 9] (x := .of Tryz.f12 ord12 live12) ?_; refine oo q1 ?_; refine oo q2 ?_; refine on h ?_
 rcases la with _ | ⟨v2, v3⟩
 ·rcases lb with _ | ⟨v0, v1⟩ <;>
  ·exact fi
 rcases lb with _ | ⟨v4, v5⟩ <;>
 ·exact fi
theorem sp7 {dn tn : List UInt8} {ar k ix how n : Int} {la lb : List Dat} {con : Bool} {name : List UInt8} {tk : Int} {tm : List UInt8} {ti : Int} {ta : List Dat} (h : Calls1 13 [iv how, iv 9] (iv 7)) :
  Calls1 12 [.dat (dRaw dn ar k tn ix la con lb), iv how, iv n, .dat (sb name), .dat (.agg [i64 tk, sb tm, i64 ti, sl ta])] (.dat (match (7 : Nat) with | 0 => dRaw name ar k tn ix la con lb | 1 => dRaw dn n k tn ix la con lb | 2 => dRaw dn ar tk tm ti ta con lb | 3 => dRaw dn ar k tn ix la (!con) lb | 7 => dRaw dn ar n [] 0 [] con lb | _ => dRaw dn ar k tn ix la con lb)) := by
 have q1 := bx_decl dn ar k tn ix la con lb
 have q2 := bx_type tk tm ti ta
 refine co [] [5, 9] (x := .of Tryz.f12 ord12 live12) ?_; refine oo q1 ?_; refine oo q2 ?_; refine on h ?_
 rcases lb with _ | ⟨v0, v1⟩ <;>
 ·exact fi
theorem sp8 {dn tn : List UInt8} {ar k ix how n : Int} {la lb : List Dat} {con : Bool} {name : List UInt8} {tk : Int} {tm : List UInt8} {ti : Int} {ta : List Dat} (h : Calls1 13 [iv how, iv 9] (iv 8)) :
  Calls1 12 [.dat (dRaw dn ar k tn ix la con lb), iv how, iv n, .dat (sb name), .dat (.agg [i64 tk, sb tm, i64 ti, sl ta])] (.dat (match (8 : Nat) with | 0 => dRaw name ar k tn ix la con lb | 1 => dRaw dn n k tn ix la con lb | 2 => dRaw dn ar tk tm ti ta con lb | 3 => dRaw dn ar k tn ix la (!con) lb | 7 => dRaw dn ar n [] 0 [] con lb | _ => dRaw dn ar k tn ix la con lb)) := by
 have q1 := bx_decl dn ar k tn ix la con lb
 have q2 := bx_type tk tm ti ta
 refine co [] [5, 9] (x := .of Tryz.f12 ord12 live12) ?_; refine oo q1 ?_; refine oo q2 ?_; refine on h ?_
 rcases la with _ | ⟨v2, v3⟩
 ·rcases lb with _ | ⟨v0, v1⟩ <;>
  ·exact fi
 rcases lb with _ | ⟨v4, v5⟩ <;>
 ·exact fi
theorem sp6 {dn tn : List UInt8} {ar k ix how n : Int} {la lb : List Dat} {con : Bool} {name : List UInt8} {tk : Int} {tm : List UInt8} {ti : Int} {ta : List Dat} (h : Calls1 13 [iv how, iv 9] (iv 6)) :
  Calls1 12 [.dat (dRaw dn ar k tn ix la con lb), iv how, iv n, .dat (sb name), .dat (.agg [i64 tk, sb tm, i64 ti, sl ta])] (.dat (dRaw dn ar 2 boxN 0 [.agg [i64 tk, sb tm, i64 ti, sl ta]] con lb)) := by
 have q1 := bx_decl dn ar k tn ix la con lb
 have q2 := bx_type tk tm ti ta
 rcases ta with _ | ⟨x, ta⟩
 ·have q3 := g_NamedA boxN (.agg [i64 tk, sb tm, i64 ti, nl]) []
  refine co [] [5, 9] (x := .of Tryz.f12 ord12 live12) ?_; refine oo q1 ?_; refine oo q2 ?_; refine on h ?_; refine on q3 ?_
  rcases lb with _ | ⟨v0, v1⟩ <;>
  ·exact fi
 have q3 := g_NamedA boxN (.agg [i64 tk, sb tm, i64 ti, .slice (x :: ta)]) []
 refine co [] [5, 9] (x := .of Tryz.f12 ord12 live12) ?_; refine oo q1 ?_; refine oo q2 ?_; refine on h ?_; refine on q3 ?_
 rcases lb with _ | ⟨v0, v1⟩ <;>
 ·exact fi
theorem sp4 {dn tn : List UInt8} {ar k ix how n : Int} {la : List Dat} {fl : List Fld} {con : Bool} {name : List UInt8} {tk : Int} {tm : List UInt8} {ti : Int} {ta : List Ty} (h : Calls1 13 [iv how, iv 9] (iv 4)) (hn : fl.length < 1000) :
  Calls1 12 [.dat (dRaw dn ar k tn ix la con (encF fl)), iv how, iv n, .dat (sb name), .dat (Ty.mk tk tm ti ta).enc] (.dat (dRaw dn ar k tn ix la con (encF (fl ++ [⟨name, .mk tk tm ti ta⟩])))) := by
 have q1 := bx_decl dn ar k tn ix la con (encF fl)
 have q2 := bx_type tk tm ti (encL ta)
 have q3 := app_fld (a := []) (b := fl) (by simp; omega)
 have q4 := app_fld (a := fl) (b := [⟨name, .mk tk tm ti ta⟩]) (by simp; omega)
 rw [List.nil_append] at q3
 rcases fl with _ | ⟨f, fl⟩ <;>
 ·rcases ta with _ | ⟨x, ta⟩ <;>
  ·refine co [] [5, 9, 36, 41] (x := .of Tryz.f12 ord12 live12) ?_; refine oo q1 ?_; refine oo q2 ?_; refine on h ?_; refine oo q3 ?_; refine oo q4 ?_
   rcases la with _ | ⟨v0, v1⟩ <;>
   ·exact fi
theorem sp5 {dn tn : List UInt8} {ar k ix how n : Int} {la : List Dat} {f : Fld} {fl : List Fld} {con : Bool} {name : List UInt8} {tk : Int} {tm : List UInt8} {ti : Int} {ta : List Dat} (h : Calls1 13 [iv how, iv 9] (iv 5)) (hn : (f :: fl).length < 1000) :
  Calls1 12 [.dat (dRaw dn ar k tn ix la con (encF (f :: fl))), iv how, iv n, .dat (sb name), .dat (.agg [i64 tk, sb tm, i64 ti, sl ta])] (.dat (dRaw dn ar k tn ix la con (encF ((f :: fl) ++ (f :: fl))))) := by
 have q1 := bx_decl dn ar k tn ix la con (encF (f :: fl))
 have q2 := bx_type tk tm ti ta
 have q3 := app_fld (a := []) (b := f :: fl) (by simp at hn ⊢; omega)
 have q4 := app_fld (a := f :: fl) (b := f :: fl) (by simp at hn ⊢; omega)
 rw [List.nil_append] at q3
 refine co [] [5, 9, 48, 51] (x := .of Tryz.f12 ord12 live12) ?_; refine oo q1 ?_; refine oo q2 ?_; refine on h ?_; refine oo q3 ?_; refine oo q4 ?_
 rcases la with _ | ⟨v0, v1⟩ <;>
 ·exact fi
theorem sp5z {dn tn : List UInt8} {ar k ix how n : Int} {la : List Dat} {con : Bool} {name : List UInt8} {tk : Int} {tm : List UInt8} {ti : Int} {ta : List Dat} (h : Calls1 13 [iv how, iv 9] (iv 5)) :
  Calls1 12 [.dat (dRaw dn ar k tn ix la con []), iv how, iv n, .dat (sb name), .dat (.agg [i64 tk, sb tm, i64 ti, sl ta])] (.dat (dZ dn ar k tn ix la con)) := by
 have q1 := bx_decl dn ar k tn ix la con []
 have q2 := bx_type tk tm ti ta
 refine co [] [5, 9] (x := .of Tryz.f12 ord12 live12) ?_; refine oo q1 ?_; refine oo q2 ?_; refine on h ?_
 rcases la with _ | ⟨v0, v1⟩ <;>
 ·exact fi
def hStA (o : Nat) (l : List Dat) (k : Int) : Heap := [(.out o, .cells [.dat (.slice l), iv k])]
/-- What is done with a stream is done beside other objects. -/
theorem st_move {g : FuncId} {args args2 : List AVal} {v : AVal} {l : List Dat} {k k2 : Int} (o m : Nat) (H : Heap) (h : KC g args (hSt l k) 1 (XQ ⟨v, hSt l k2, 1⟩)) (ha : newL 1 args = false) (he : rnL (fun _ => o) args = args2) (hv : rnV (liftN (fun _ => o) 1 m) v = v) :
  KC g args2 (hStA o l k ++ H) m (XQ ⟨v, hStA o l k2 ++ H, m⟩) := by
 have e1 : ∀ (k : Int) (ρ : Nat -> Nat), ρ 0 = o -> rnH ρ (hSt l k) = hStA o l k := by
  intro k ρ h0
  simp [hSt, hStA, rnH, rnO, rnN, rnL, rnV, h0]
 have hf := ACalls.frame h (fun _ => o) (heap := hStA o l k ++ H) (rest := H) (next := m) (by rw [e1 _ _ rfl]) (by rfl) (by simp [newHeap, hSt, newO, newL, newV]) (by rfl) ha
 rw [he] at hf
 refine hf.mono ?_
 rintro v' h' m' ⟨v0, h1, n1, ⟨rfl, rfl, rfl⟩, rfl, rfl, rfl⟩
 rw [hv, e1 _ _ rfl]
 exact ⟨rfl, rfl, rfl⟩
def stayB {α : Type} (q : Qy α) : Bool := match q.stayH with | some _ => true | none => false
def stayL {α : Type} (q : Qy α) : Heap := match q.stayH with | some p => p.1 | none => []
def stayR {α : Type} (q : Qy α) : Heap := match q.stayH with | some p => p.2 | none => []
theorem ok_stayS {α : Type} {T : α -> Prop} {q : Qy α} (e : stayB q = true) (h : stayL q = stayR q) (hk : (q.ofS).Ok Tryz.prog xglobs T) : q.Ok Tryz.prog xglobs T := by
 unfold stayB at e
 unfold stayL stayR at h
 cases hq : q.stayH with
 | none => rw [hq] at e; simp at e
 | some p =>
  obtain ⟨a, b⟩ := p
  rw [hq] at h
  dsimp only at h
  subst h
  exact ok_stay (stays_refl _) hq hk
def freshN : List UInt8 := [70, 114, 101, 115, 104]
theorem law_rt {l m ds : List Dat} {which how n vars e : Int} {name dn1 tn1 : List UInt8} {ar1 k1 ix1 : Int} {la1 lb1 : List Dat} {con1 : Bool} {H H2 H3 : Heap} {j vv k4 : Int} {d0 : Dcl} {t : Ty} {es es2 : List Dat}
  (h1 : Calls1 9 [.dat (.slice l)] (.own ds)) (h2 : KC 10 [.dat (.slice ds)] [] 0 (XQ ⟨.tup [hP, rP 3, bv true], H, 4⟩))
  (h3 : Calls1 13 [iv which, iv (Int.ofNat ds.length)] (iv j)) (h4 : aIndexAddr (env Prims.fast) 23 [.dat (.slice ds), .dat (.flat (.int .i64 j))] = some ⟨.ref d0.cells, .keep⟩)
  (hn : KC 15 [.dat (.slice m)] H 4 (XQ ⟨.ptr (.out 4) 0, hStA 4 m 0 ++ H, 5⟩)) (h5 : Calls1 13 [iv vars, iv 3] (iv vv))
  (h6 : KC 14 [.ptr (.out 4) 0, .dat (.slice ds), iv vv] (hStA 4 m 0 ++ H) 5 (XQ ⟨.dat t.enc, hStA 4 m k4 ++ H, 5⟩))
  (h7 : Calls1 12 [.dat d0.enc, iv how, iv n, .dat (sb name), .dat t.enc] (.dat (dRaw dn1 ar1 k1 tn1 ix1 la1 con1 lb1)))
  (h8 : aBin (env Prims.fast) .rem 3 [iv n, iv 2] = some ⟨iv (n.tmod 2), .keep⟩) (h9 : eqF (n.tmod 2) 0 = true)
  (hD : KC 16 [hP, .dat (dRaw freshN ar1 k1 tn1 ix1 la1 con1 lb1)] (hStA 4 m k4 ++ H) 5 (XQ ⟨iv e, H2, 6⟩)) (hR : KC 17 [rP 3, .dat (dRaw freshN ar1 k1 tn1 ix1 la1 con1 lb1)] H2 6 (XQ ⟨iv e, H3, 6⟩))
  (hd : KC 19 [hP] H3 6 (XQ ⟨.own es, H3, 6⟩)) (hrd : KC 20 [rP 3] H3 6 (XQ ⟨.own es2, H3, 6⟩)) (hq : Calls1 18 [.dat (.slice es), .dat (.slice es2)] (bv true)) :
  KC 3 [.dat (.slice l), .dat (.slice m), iv which, iv how, iv n, .dat (sb name), iv vars] [] 0 (XQ ⟨bv true, H3, 6⟩) := by
 have hc := c_check
 have he := eqF_self e
 have q1 := st_decl 19 dn1 ar1 k1 tn1 ix1 la1 con1 lb1
 have q2 := ld_decl true 19 dn1 ar1 k1 tn1 ix1 la1 con1 lb1
 have q3 := ld_decl false 19 dn1 ar1 k1 tn1 ix1 la1 con1 lb1
 have q4 := ld_decl true 19 freshN ar1 k1 tn1 ix1 la1 con1 lb1
 have q5 := ld_decl false 19 freshN ar1 k1 tn1 ix1 la1 con1 lb1
 obtain ⟨dn, ar, ⟨k, tn, ix, la⟩, con, fl⟩ := d0
 obtain ⟨ek, en, ei, ea⟩ := t
 rcases ea with _ | ⟨x, ea⟩ <;>
 ·refine call_of0 [53, 61] [39, 100019, 52, 56, 59] (x := XFn.of Tryz.f3 ord3 live3) (by kernel_rfl) ?_; refine on h1 ?_; refine oh h2 ?_; refine on hc ?_; refine on h3 ?_; refine oo h4 ?_; refine oh hn ?_; refine on h5 ?_; refine oh h6 ?_; refine on h7 ?_; refine oo q1 ?_; refine oo h8 ?_; refine ob h9 ?_; refine oo q4 ?_; refine oo q4 ?_; refine oh hD ?_; refine oh hR ?_; refine ob he ?_; refine oh hd ?_; refine ok_stayS (by kernel_rfl) (by kernel_rfl) ?_; refine oh hrd ?_; refine on hq ?_; exact fi
theorem law_rf {l m ds : List Dat} {which how n vars e : Int} {name dn1 tn1 : List UInt8} {ar1 k1 ix1 : Int} {la1 lb1 : List Dat} {con1 : Bool} {H H2 H3 : Heap} {j vv k4 : Int} {d0 : Dcl} {t : Ty} {es es2 : List Dat}
  (h1 : Calls1 9 [.dat (.slice l)] (.own ds)) (h2 : KC 10 [.dat (.slice ds)] [] 0 (XQ ⟨.tup [hP, rP 3, bv true], H, 4⟩))
  (h3 : Calls1 13 [iv which, iv (Int.ofNat ds.length)] (iv j)) (h4 : aIndexAddr (env Prims.fast) 23 [.dat (.slice ds), .dat (.flat (.int .i64 j))] = some ⟨.ref d0.cells, .keep⟩)
  (hn : KC 15 [.dat (.slice m)] H 4 (XQ ⟨.ptr (.out 4) 0, hStA 4 m 0 ++ H, 5⟩)) (h5 : Calls1 13 [iv vars, iv 3] (iv vv))
  (h6 : KC 14 [.ptr (.out 4) 0, .dat (.slice ds), iv vv] (hStA 4 m 0 ++ H) 5 (XQ ⟨.dat t.enc, hStA 4 m k4 ++ H, 5⟩))
  (h7 : Calls1 12 [.dat d0.enc, iv how, iv n, .dat (sb name), .dat t.enc] (.dat (dRaw dn1 ar1 k1 tn1 ix1 la1 con1 lb1)))
  (h8 : aBin (env Prims.fast) .rem 3 [iv n, iv 2] = some ⟨iv (n.tmod 2), .keep⟩) (h9 : eqF (n.tmod 2) 0 = false)
  (hD : KC 16 [hP, .dat (dRaw dn1 ar1 k1 tn1 ix1 la1 con1 lb1)] (hStA 4 m k4 ++ H) 5 (XQ ⟨iv e, H2, 6⟩)) (hR : KC 17 [rP 3, .dat (dRaw dn1 ar1 k1 tn1 ix1 la1 con1 lb1)] H2 6 (XQ ⟨iv e, H3, 6⟩))
  (hd : KC 19 [hP] H3 6 (XQ ⟨.own es, H3, 6⟩)) (hrd : KC 20 [rP 3] H3 6 (XQ ⟨.own es2, H3, 6⟩)) (hq : Calls1 18 [.dat (.slice es), .dat (.slice es2)] (bv true)) :
  KC 3 [.dat (.slice l), .dat (.slice m), iv which, iv how, iv n, .dat (sb name), iv vars] [] 0 (XQ ⟨bv true, H3, 6⟩) := by
 have hc := c_check
 have he := eqF_self e
 have q1 := st_decl 19 dn1 ar1 k1 tn1 ix1 la1 con1 lb1
 have q2 := ld_decl true 19 dn1 ar1 k1 tn1 ix1 la1 con1 lb1
 have q3 := ld_decl false 19 dn1 ar1 k1 tn1 ix1 la1 con1 lb1
 have q4 := ld_decl true 19 freshN ar1 k1 tn1 ix1 la1 con1 lb1
 have q5 := ld_decl false 19 freshN ar1 k1 tn1 ix1 la1 con1 lb1
 obtain ⟨dn, ar, ⟨k, tn, ix, la⟩, con, fl⟩ := d0
 obtain ⟨ek, en, ei, ea⟩ := t
 rcases ea with _ | ⟨x, ea⟩ <;>
 ·refine call_of0 [53, 61] [39, 100019, 52, 56, 59] (x := XFn.of Tryz.f3 ord3 live3) (by kernel_rfl) ?_; refine on h1 ?_; refine oh h2 ?_; refine on hc ?_; refine on h3 ?_; refine oo h4 ?_; refine oh hn ?_; refine on h5 ?_; refine oh h6 ?_; refine on h7 ?_; refine oo q1 ?_; refine oo h8 ?_; refine ob h9 ?_; refine oo q2 ?_; refine oo q2 ?_; refine oh hD ?_; refine oh hR ?_; refine ob he ?_; refine oh hd ?_; refine ok_stayS (by kernel_rfl) (by kernel_rfl) ?_; refine oh hrd ?_; refine on hq ?_; exact fi
theorem law_zt {l m ds : List Dat} {which how n vars e : Int} {name dn1 tn1 : List UInt8} {ar1 k1 ix1 : Int} {la1 : List Dat} {con1 : Bool} {H H2 H3 : Heap} {j vv k4 : Int} {d0 : Dcl} {t : Ty} {es es2 : List Dat}
  (h1 : Calls1 9 [.dat (.slice l)] (.own ds)) (h2 : KC 10 [.dat (.slice ds)] [] 0 (XQ ⟨.tup [hP, rP 3, bv true], H, 4⟩))
  (h3 : Calls1 13 [iv which, iv (Int.ofNat ds.length)] (iv j)) (h4 : aIndexAddr (env Prims.fast) 23 [.dat (.slice ds), .dat (.flat (.int .i64 j))] = some ⟨.ref d0.cells, .keep⟩)
  (hn : KC 15 [.dat (.slice m)] H 4 (XQ ⟨.ptr (.out 4) 0, hStA 4 m 0 ++ H, 5⟩)) (h5 : Calls1 13 [iv vars, iv 3] (iv vv))
  (h6 : KC 14 [.ptr (.out 4) 0, .dat (.slice ds), iv vv] (hStA 4 m 0 ++ H) 5 (XQ ⟨.dat t.enc, hStA 4 m k4 ++ H, 5⟩))
  (h7 : Calls1 12 [.dat d0.enc, iv how, iv n, .dat (sb name), .dat t.enc] (.dat (dZ dn1 ar1 k1 tn1 ix1 la1 con1)))
  (h8 : aBin (env Prims.fast) .rem 3 [iv n, iv 2] = some ⟨iv (n.tmod 2), .keep⟩) (h9 : eqF (n.tmod 2) 0 = true)
  (hD : KC 16 [hP, .dat (dZ freshN ar1 k1 tn1 ix1 la1 con1)] (hStA 4 m k4 ++ H) 5 (XQ ⟨iv e, H2, 6⟩)) (hR : KC 17 [rP 3, .dat (dZ freshN ar1 k1 tn1 ix1 la1 con1)] H2 6 (XQ ⟨iv e, H3, 6⟩))
  (hd : KC 19 [hP] H3 6 (XQ ⟨.own es, H3, 6⟩)) (hrd : KC 20 [rP 3] H3 6 (XQ ⟨.own es2, H3, 6⟩)) (hq : Calls1 18 [.dat (.slice es), .dat (.slice es2)] (bv true)) :
  KC 3 [.dat (.slice l), .dat (.slice m), iv which, iv how, iv n, .dat (sb name), iv vars] [] 0 (XQ ⟨bv true, H3, 6⟩) := by
 have hc := c_check
 have he := eqF_self e
 have q1 := st_declZ 19 dn1 ar1 k1 tn1 ix1 la1 con1
 have q2 := ld_declZ true 19 dn1 ar1 k1 tn1 ix1 la1 con1
 have q3 := ld_declZ false 19 dn1 ar1 k1 tn1 ix1 la1 con1
 have q4 := ld_declZ true 19 freshN ar1 k1 tn1 ix1 la1 con1
 have q5 := ld_declZ false 19 freshN ar1 k1 tn1 ix1 la1 con1
 obtain ⟨dn, ar, ⟨k, tn, ix, la⟩, con, fl⟩ := d0
 obtain ⟨ek, en, ei, ea⟩ := t
 rcases ea with _ | ⟨x, ea⟩ <;>
 ·refine call_of0 [53, 61] [39, 100019, 52, 56, 59] (x := XFn.of Tryz.f3 ord3 live3) (by kernel_rfl) ?_; refine on h1 ?_; refine oh h2 ?_; refine on hc ?_; refine on h3 ?_; refine oo h4 ?_; refine oh hn ?_; refine on h5 ?_; refine oh h6 ?_; refine on h7 ?_; refine oo q1 ?_; refine oo h8 ?_; refine ob h9 ?_; refine oo q4 ?_; refine oo q4 ?_; refine oh hD ?_; refine oh hR ?_; refine ob he ?_; refine oh hd ?_; refine ok_stayS (by kernel_rfl) (by kernel_rfl) ?_; refine oh hrd ?_; refine on hq ?_; exact fi
theorem law_zf {l m ds : List Dat} {which how n vars e : Int} {name dn1 tn1 : List UInt8} {ar1 k1 ix1 : Int} {la1 : List Dat} {con1 : Bool} {H H2 H3 : Heap} {j vv k4 : Int} {d0 : Dcl} {t : Ty} {es es2 : List Dat}
  (h1 : Calls1 9 [.dat (.slice l)] (.own ds)) (h2 : KC 10 [.dat (.slice ds)] [] 0 (XQ ⟨.tup [hP, rP 3, bv true], H, 4⟩))
  (h3 : Calls1 13 [iv which, iv (Int.ofNat ds.length)] (iv j)) (h4 : aIndexAddr (env Prims.fast) 23 [.dat (.slice ds), .dat (.flat (.int .i64 j))] = some ⟨.ref d0.cells, .keep⟩)
  (hn : KC 15 [.dat (.slice m)] H 4 (XQ ⟨.ptr (.out 4) 0, hStA 4 m 0 ++ H, 5⟩)) (h5 : Calls1 13 [iv vars, iv 3] (iv vv))
  (h6 : KC 14 [.ptr (.out 4) 0, .dat (.slice ds), iv vv] (hStA 4 m 0 ++ H) 5 (XQ ⟨.dat t.enc, hStA 4 m k4 ++ H, 5⟩))
  (h7 : Calls1 12 [.dat d0.enc, iv how, iv n, .dat (sb name), .dat t.enc] (.dat (dZ dn1 ar1 k1 tn1 ix1 la1 con1)))
  (h8 : aBin (env Prims.fast) .rem 3 [iv n, iv 2] = some ⟨iv (n.tmod 2), .keep⟩) (h9 : eqF (n.tmod 2) 0 = false)
  (hD : KC 16 [hP, .dat (dZ dn1 ar1 k1 tn1 ix1 la1 con1)] (hStA 4 m k4 ++ H) 5 (XQ ⟨iv e, H2, 6⟩)) (hR : KC 17 [rP 3, .dat (dZ dn1 ar1 k1 tn1 ix1 la1 con1)] H2 6 (XQ ⟨iv e, H3, 6⟩))
  (hd : KC 19 [hP] H3 6 (XQ ⟨.own es, H3, 6⟩)) (hrd : KC 20 [rP 3] H3 6 (XQ ⟨.own es2, H3, 6⟩)) (hq : Calls1 18 [.dat (.slice es), .dat (.slice es2)] (bv true)) :
  KC 3 [.dat (.slice l), .dat (.slice m), iv which, iv how, iv n, .dat (sb name), iv vars] [] 0 (XQ ⟨bv true, H3, 6⟩) := by
 have hc := c_check
 have he := eqF_self e
 have q1 := st_declZ 19 dn1 ar1 k1 tn1 ix1 la1 con1
 have q2 := ld_declZ true 19 dn1 ar1 k1 tn1 ix1 la1 con1
 have q3 := ld_declZ false 19 dn1 ar1 k1 tn1 ix1 la1 con1
 have q4 := ld_declZ true 19 freshN ar1 k1 tn1 ix1 la1 con1
 have q5 := ld_declZ false 19 freshN ar1 k1 tn1 ix1 la1 con1
 obtain ⟨dn, ar, ⟨k, tn, ix, la⟩, con, fl⟩ := d0
 obtain ⟨ek, en, ei, ea⟩ := t
 rcases ea with _ | ⟨x, ea⟩ <;>
 ·refine call_of0 [53, 61] [39, 100019, 52, 56, 59] (x := XFn.of Tryz.f3 ord3 live3) (by kernel_rfl) ?_; refine on h1 ?_; refine oh h2 ?_; refine on hc ?_; refine on h3 ?_; refine oo h4 ?_; refine oh hn ?_; refine on h5 ?_; refine oh h6 ?_; refine on h7 ?_; refine oo q1 ?_; refine oo h8 ?_; refine ob h9 ?_; refine oo q2 ?_; refine oo q2 ?_; refine oh hD ?_; refine oh hR ?_; refine ob he ?_; refine oh hd ?_; refine ok_stayS (by kernel_rfl) (by kernel_rfl) ?_; refine oh hrd ?_; refine on hq ?_; exact fi
theorem mod_nat (x : Int) {n : Nat} (hn : 0 < n) : ∃ j : Nat, x % Int.ofNat n = Int.ofNat j /\ j < n := by
 have h0 := Int.emod_nonneg x (show Int.ofNat n ≠ 0 from fun h => absurd (Int.ofNat.inj (h.trans (show (0 : Int) = Int.ofNat 0 from rfl))) (by omega))
 have h2 := Int.emod_lt_of_pos x (show (0 : Int) < Int.ofNat n from Int.ofNat_lt.2 hn)
 exact ⟨(x % Int.ofNat n).toNat, (Int.toNat_of_nonneg h0).symm, (Int.toNat_lt h0).2 h2⟩
/-- What spoil hands back: a declaration, or one with no fields whose list is not nil. -/
theorem g_spoil {d : Dcl} {t : Ty} {how n : Int} {name : List UInt8} (hd : d.fine) (hfl : d.fl.length <= 2) (ht : t.fine) (hts : t.size < 90000000) :
  ∃ d1 : Dcl, d1.fine /\ (Calls1 12 [.dat d.enc, iv how, iv n, .dat (sb name), .dat t.enc] (.dat d1.enc) ∨ (d1.fl = [] /\ Calls1 12 [.dat d.enc, iv how, iv n, .dat (sb name), .dat t.enc] (.dat d1.encZ))) := by
 obtain ⟨r, hr, hlt⟩ := mod_nat how (show 0 < 9 by omega)
 have hm := g_mod how (show 0 < 9 by omega) (by omega)
 rw [hr] at hm
 obtain ⟨h1, h2, h3⟩ := hd
 obtain ⟨dn, ar, ⟨k, tn, ix, la⟩, con, fl⟩ := d
 obtain ⟨tk, tm, ti, ta⟩ := t
 dsimp only at h1 h2 h3 hfl
 have hc : r = 0 ∨ r = 1 ∨ r = 2 ∨ r = 3 ∨ r = 4 ∨ r = 5 ∨ r = 6 ∨ r = 7 ∨ r = 8 := by omega
 rcases hc with rfl | rfl | rfl | rfl | rfl | rfl | rfl | rfl | rfl
 ·exact ⟨⟨name, ar, .mk k tn ix la, con, fl⟩, ⟨h1, h2, h3⟩, .inl (sp0 hm)⟩
 ·exact ⟨⟨dn, n, .mk k tn ix la, con, fl⟩, ⟨h1, h2, h3⟩, .inl (sp1 hm)⟩
 ·exact ⟨⟨dn, ar, .mk tk tm ti ta, con, fl⟩, ⟨ht, h2, h3⟩, .inl (sp2 hm)⟩
 ·exact ⟨⟨dn, ar, .mk k tn ix la, !con, fl⟩, ⟨h1, h2, h3⟩, .inl (sp3 hm)⟩
 ·refine ⟨⟨dn, ar, .mk k tn ix la, con, fl ++ [(⟨name, .mk tk tm ti ta⟩ : Fld)]⟩, ⟨h1, ?_, by simp; omega⟩, .inl (sp4 (fl := fl) (ta := ta) (la := encL la) hm (by omega))⟩
  intro f hf
  rcases List.mem_append.1 hf with hf | hf
  ·exact h2 f hf
  rw [List.mem_singleton.1 hf]; exact ht
 ·rcases fl with _ | ⟨f, fl⟩
  ·exact ⟨⟨dn, ar, .mk k tn ix la, con, []⟩, ⟨h1, h2, h3⟩, .inr ⟨rfl, sp5z hm⟩⟩
  refine ⟨⟨dn, ar, .mk k tn ix la, con, (f :: fl) ++ (f :: fl)⟩, ⟨h1, ?_, by simp at hfl ⊢; omega⟩, .inl (sp5 hm (by omega))⟩
  intro g hg
  rcases List.mem_append.1 hg with hg | hg <;> exact h2 g hg
 ·refine ⟨⟨dn, ar, .mk 2 boxN 0 [.mk tk tm ti ta], con, fl⟩, ⟨⟨?_, ?_⟩, h2, h3⟩, .inl (sp6 hm)⟩
  ·simp only [Ty.size, sizeL] at hts ⊢; omega
  simp only [Ty.ixOk, ixOkL]; exact ⟨by simp [eqF], ht.2, trivial⟩
 ·refine ⟨⟨dn, ar, .mk n [] 0 [], con, fl⟩, ⟨⟨by simp [Ty.size, sizeL], by simp [Ty.ixOk, ixOkL, ltF]⟩, h2, h3⟩, .inl (sp7 hm)⟩
 exact ⟨⟨dn, ar, .mk k tn ix la, con, fl⟩, ⟨h1, h2, h3⟩, .inl (sp8 hm)⟩
theorem h_Decls {ds : List Dcl} {tl : List Dat} (hok : HOk ds) (hn : ds.length < 1000) (r m : Nat) (pre : Heap) : KC 19 [hP] (pre ++ hH r ds tl) m (XQ ⟨.own (encD ds), pre ++ hH r ds tl, m⟩) := by
 have h3 := c_Decls r m pre (ds := ds) (tl := tl) hok.fine hn
 have eo : ownD ds = .own (encD ds) := by
  have := hok.ne
  cases hd : ds with
  | nil => rw [hd] at this; exact absurd rfl this
  | cons x r => rfl
 rw [eo] at h3
 exact h3
/-- The law. -/
theorem law_ok {l m : List Int} (hl : l.length < 10000000) (hm : m.length < 10000000) (which how n vars : Int) (name : List UInt8) :
  ∃ (H : Heap) (q : Nat), KC 3 [.dat (.slice (l.map iN)), .dat (.slice (m.map iN)), iv which, iv how, iv n, .dat (sb name), iv vars] [] 0 (XQ ⟨bv true, H, q⟩) := by
 obtain ⟨mm, hGD, hmm, h1⟩ := g_Decls hl
 have hfine : ∀ d ∈ baseD ++ mm, d.fine := fun d hd => (hGD.each d hd).fine
 have hlen : (baseD ++ mm).length <= 12 := by
  have hb : baseD.length = 8 := rfl
  rw [List.length_append, hb]; omega
 have hpos : 0 < (baseD ++ mm).length := by
  have hb : baseD.length = 8 := rfl
  rw [List.length_append, hb]; omega
 obtain ⟨tl, h2⟩ := g_Hiers hfine (by omega)
 have hok := dsOf_ok hfine (baseD ++ mm).length
 have hdl := dsOf_len (baseD ++ mm).length (baseD ++ mm)
 rw [List.take_length] at hok hdl
 obtain ⟨j, hj, hjl⟩ := mod_nat which hpos
 have h3 := g_mod which (m := (encD (baseD ++ mm)).length) (by rw [encD_length]; exact hpos) (by rw [encD_length]; omega)
 rw [encD_length, hj] at h3
 rw [← encD_length] at h3
 have hg : (baseD ++ mm)[j]? = some (baseD ++ mm)[j] := List.getElem?_eq_getElem hjl
 have hdo := hGD.each _ (List.getElem_mem hjl)
 have h4 := idxDs hg
 generalize (baseD ++ mm)[j] = d0 at hg hdo h4
 obtain ⟨v, hv, hvl⟩ := mod_nat vars (show 0 < 3 by omega)
 have h5 := g_mod vars (show 0 < 3 by omega) (by omega)
 rw [hv] at h5
 obtain ⟨t, k4, hgt, hct⟩ := (gen_all (P := fun _ _ => True) (ds := baseD ++ mm) hm (by omega) (fun d hd => by obtain ⟨n, e1, e2⟩ := (hGD.each d hd).ar; exact ⟨n, e1, by omega, trivial⟩) (fun _ _ => trivial) trivial m.length 0 (Nat.zero_le _) (by omega)).2.2 3 v (by omega) (by omega) (by omega)
 have htf := gen_fine hm hgt
 have hts : t.size < 90000000 := by have := hgt.size; have := hgt.top; omega
 have hn := new_at 4 (hF 3 (encD (dsOf (baseD ++ mm))) ++ hH 2 (dsOf (baseD ++ mm)) tl) (g_New (l := m.map iN)) rfl rfl
 have h6 := st_move 4 5 (hF 3 (encD (dsOf (baseD ++ mm))) ++ hH 2 (dsOf (baseD ++ mm)) tl) (open_of hct) (args2 := [.ptr (.out 4) 0, .dat (.slice (encD (baseD ++ mm))), iv (Int.ofNat v)]) rfl rfl rfl
 have h8 := rem_ans (n := n) (m := 2) rfl
 obtain ⟨d1, hd1, hsp⟩ := g_spoil (how := how) (n := n) (name := name) hdo.fine hdo.flen htf hts
 generalize dsOf (baseD ++ mm) = D at *
 generalize encD (baseD ++ mm) = ds at *
 have hDl : D.length < 900 := by omega
 have both : ∀ d2 : Dcl, d2.fine -> ∃ tl2, KC 16 [hP, .dat d2.enc] (hStA 4 (m.map iN) (Int.ofNat k4) ++ (hF 3 (encD D) ++ hH 2 D tl)) 5 (XQ ⟨iv (declM D d2).1, (hStA 4 (m.map iN) (Int.ofNat k4) ++ hF 3 (encD D)) ++ hH 5 (declM D d2).2 tl2, 6⟩) ∧
   KC 17 [rP 3, .dat d2.enc] ((hStA 4 (m.map iN) (Int.ofNat k4) ++ hF 3 (encD D)) ++ hH 5 (declM D d2).2 tl2) 6 (XQ ⟨iv (declM D d2).1, (hStA 4 (m.map iN) (Int.ofNat k4) ++ hF 3 (encD (declM D d2).2)) ++ hH 5 (declM D d2).2 tl2, 6⟩) := by
  intro d2 hd2
  obtain ⟨tl2, hc⟩ := c_Declare (tl := tl) hd2 hok.fine (by omega)
  refine ⟨tl2, ?_, ?_⟩
  ·have h := dec_move 2 5 (hStA 4 (m.map iN) (Int.ofNat k4) ++ hF 3 (encD D)) [] hc
   simp only [List.append_nil] at h
   rw [← List.append_assoc]
   exact h
  have h := rf_move 3 6 (hStA 4 (m.map iN) (Int.ofNat k4)) (hH 5 (declM D d2).2 tl2) (r_Declare hd2 hok.fine (by omega) hok.none) (args2 := [rP 3, .dat d2.enc]) rfl rfl rfl
  rw [List.append_assoc, List.append_assoc]
  exact h
 have bothZ : ∀ d2 : Dcl, d2.fine -> d2.fl = [] -> ∃ tl2 es, (((declM D d2).2 = D /\ es = encD D) ∨ ((declM D d2).2 = D ++ [d2] /\ es = encDZ D d2)) /\ KC 16 [hP, .dat d2.encZ] (hStA 4 (m.map iN) (Int.ofNat k4) ++ (hF 3 (encD D) ++ hH 2 D tl)) 5 (XQ ⟨iv (declM D d2).1, (hStA 4 (m.map iN) (Int.ofNat k4) ++ hF 3 (encD D)) ++ hH 5 (declM D d2).2 tl2, 6⟩) ∧
   KC 17 [rP 3, .dat d2.encZ] ((hStA 4 (m.map iN) (Int.ofNat k4) ++ hF 3 (encD D)) ++ hH 5 (declM D d2).2 tl2) 6 (XQ ⟨iv (declM D d2).1, (hStA 4 (m.map iN) (Int.ofNat k4) ++ hF 3 es) ++ hH 5 (declM D d2).2 tl2, 6⟩) := by
  intro d2 hd2 hz
  obtain ⟨tl2, hc⟩ := c_DeclareZ (tl := tl) hz hd2 hok.fine (by omega)
  obtain ⟨es, hes, hr⟩ := r_DeclareZ hz hd2 hok.fine (by omega) hok.none
  refine ⟨tl2, es, hes, ?_, ?_⟩
  ·have h := dec_moveA 2 5 (hStA 4 (m.map iN) (Int.ofNat k4) ++ hF 3 (encD D)) [] hc
   simp only [List.append_nil] at h
   rw [← List.append_assoc]
   exact h
  have h := rf_move 3 6 (hStA 4 (m.map iN) (Int.ofNat k4)) (hH 5 (declM D d2).2 tl2) hr (args2 := [rP 3, .dat d2.encZ]) rfl rfl rfl
  rw [List.append_assoc, List.append_assoc]
  exact h
 have rest : ∀ d2 : Dcl, d2.fine -> ∀ tl2, KC 19 [hP] ((hStA 4 (m.map iN) (Int.ofNat k4) ++ hF 3 (encD (declM D d2).2)) ++ hH 5 (declM D d2).2 tl2) 6 (XQ ⟨.own (encD (declM D d2).2), (hStA 4 (m.map iN) (Int.ofNat k4) ++ hF 3 (encD (declM D d2).2)) ++ hH 5 (declM D d2).2 tl2, 6⟩) ∧
   KC 20 [rP 3] ((hStA 4 (m.map iN) (Int.ofNat k4) ++ hF 3 (encD (declM D d2).2)) ++ hH 5 (declM D d2).2 tl2) 6 (XQ ⟨.own (encD (declM D d2).2), (hStA 4 (m.map iN) (Int.ofNat k4) ++ hF 3 (encD (declM D d2).2)) ++ hH 5 (declM D d2).2 tl2, 6⟩) /\ Calls1 18 [.dat (.slice (encD (declM D d2).2)), .dat (.slice (encD (declM D d2).2))] (bv true) := by
  intro d2 hd2 tl2
  have hok2 := hok.step hd2
  have hl2 : (declM D d2).2.length < 1000 := by
   rcases declM_cases D d2 with h | ⟨h, _⟩
   ·rw [h]; omega
   rw [h, List.length_append, List.length_singleton]; omega
  refine ⟨h_Decls hok2 hl2 5 6 _, ?_, ?_⟩
  ·have h := rf_move 3 6 (hStA 4 (m.map iN) (Int.ofNat k4)) (hH 5 (declM D d2).2 tl2) (r_Decls (ds := (declM D d2).2) (by omega)) (args2 := [rP 3]) rfl rfl rfl
   rw [List.append_assoc]
   exact h
  have h := r_DeclsEq (a := (declM D d2).2) (b := (declM D d2).2) hok2.fine (by omega)
  rw [eqDs_self] at h
  exact h
 have restZ : ∀ d2 : Dcl, d2.fine -> d2.fl = [] -> ∀ tl2 es, (((declM D d2).2 = D /\ es = encD D) ∨ ((declM D d2).2 = D ++ [d2] /\ es = encDZ D d2)) -> KC 19 [hP] ((hStA 4 (m.map iN) (Int.ofNat k4) ++ hF 3 es) ++ hH 5 (declM D d2).2 tl2) 6 (XQ ⟨.own (encD (declM D d2).2), (hStA 4 (m.map iN) (Int.ofNat k4) ++ hF 3 es) ++ hH 5 (declM D d2).2 tl2, 6⟩) ∧
   KC 20 [rP 3] ((hStA 4 (m.map iN) (Int.ofNat k4) ++ hF 3 es) ++ hH 5 (declM D d2).2 tl2) 6 (XQ ⟨.own es, (hStA 4 (m.map iN) (Int.ofNat k4) ++ hF 3 es) ++ hH 5 (declM D d2).2 tl2, 6⟩) /\ Calls1 18 [.dat (.slice (encD (declM D d2).2)), .dat (.slice es)] (bv true) := by
  intro d2 hd2 hz tl2 es hes
  have hok2 := hok.step hd2
  have hl2 : (declM D d2).2.length < 1000 := by
   rcases declM_cases D d2 with h | ⟨h, _⟩
   ·rw [h]; omega
   rw [h, List.length_append, List.length_singleton]; omega
  refine ⟨h_Decls hok2 hl2 5 6 _, ?_, ?_⟩
  ·have h := rf_move 3 6 (hStA 4 (m.map iN) (Int.ofNat k4)) (hH 5 (declM D d2).2 tl2) (r_DeclsZ (es := es) (by
    rcases hes with ⟨_, e⟩ | ⟨_, e⟩
    ·rw [e]
     have h1 := app_decls (a := []) (b := D) (by simp; omega)
     rw [List.nil_append] at h1
     exact h1
    rw [e]; exact appZ0 (by omega))) (args2 := [rP 3]) rfl rfl rfl
   rw [List.append_assoc]
   exact h
  rcases hes with ⟨e1, e⟩ | ⟨e1, e⟩
  ·rw [e, e1]
   have h := r_DeclsEq (a := D) (b := D) hok.fine (by omega)
   rw [eqDs_self] at h
   exact h
  rw [e, e1]
  exact r_DeclsEqZ hok.fine hd2 hz (by omega)
 cases h9 : eqF (n.tmod 2) 0 with
 | true =>
  rcases hsp with h7 | ⟨hz, h7⟩
  ·obtain ⟨nm1, ar1, ⟨k1, tn1, ix1, la1⟩, con1, fl1⟩ := d1
   have hd2 : Dcl.fine ⟨freshN, ar1, .mk k1 tn1 ix1 la1, con1, fl1⟩ := hd1
   obtain ⟨tl2, hD, hR⟩ := both _ hd2
   obtain ⟨r1, r2, r3⟩ := rest _ hd2 tl2
   exact ⟨_, _, law_rt h1 h2 h3 h4 hn h5 h6 h7 h8 h9 hD hR r1 r2 r3⟩
  obtain ⟨nm1, ar1, ⟨k1, tn1, ix1, la1⟩, con1, fl1⟩ := d1
  have hd2 : Dcl.fine ⟨freshN, ar1, .mk k1 tn1 ix1 la1, con1, fl1⟩ := hd1
  obtain ⟨tl2, es, hes, hD, hR⟩ := bothZ _ hd2 hz
  obtain ⟨r1, r2, r3⟩ := restZ _ hd2 hz tl2 es hes
  exact ⟨_, _, law_zt h1 h2 h3 h4 hn h5 h6 h7 h8 h9 hD hR r1 r2 r3⟩
 | false =>
  rcases hsp with h7 | ⟨hz, h7⟩
  ·obtain ⟨tl2, hD, hR⟩ := both _ hd1
   obtain ⟨r1, r2, r3⟩ := rest _ hd1 tl2
   obtain ⟨nm1, ar1, ⟨k1, tn1, ix1, la1⟩, con1, fl1⟩ := d1
   exact ⟨_, _, law_rf h1 h2 h3 h4 hn h5 h6 h7 h8 h9 hD hR r1 r2 r3⟩
  obtain ⟨tl2, es, hes, hD, hR⟩ := bothZ _ hd1 hz
  obtain ⟨r1, r2, r3⟩ := restZ _ hd1 hz tl2 es hes
  obtain ⟨nm1, ar1, ⟨k1, tn1, ix1, la1⟩, con1, fl1⟩ := d1
  exact ⟨_, _, law_zf h1 h2 h3 h4 hn h5 h6 h7 h8 h9 hD hR r1 r2 r3⟩
theorem law_call {l m : List Int} (hl : l.length < 10000000) (hm : m.length < 10000000) (which how n : Int) (name : List UInt8) (vars : Int) :
  ∃ r : XRes, r.val = bv true /\ KC 3 [.dat (.slice (l.map iN)), .dat (.slice (m.map iN)), iv which, iv how, iv n, .dat (sb name), iv vars] [] 0 (XQ r) := by
 obtain ⟨H, q, h⟩ := law_ok hl hm which how n vars name
 exact ⟨_, rfl, h⟩
end Go.Proofs.YtiihadmgkoamoaaGreatDoor

namespace Go.Proofs.YtiihadmgkoamoaaGreatDoor
open Go.ChangeShapes Go.WideShapes Go.ChangeAt Go.RowKit Go.Tp
open Go.ChangeMaps (open_string shut_string)
theorem own : ownKnob Tryz.prog.godebug = none := by kernel_rfl
theorem kids : Kids Tryz.prog (· < Tryz.prog.types.size) := kids_rows (by kernel_rfl) (by kernel_rfl)
theorem full : ∀ t e, t < Tryz.prog.types.size -> Tryz.prog.underlying t = some (.slice e) -> 0 < Tryz.prog.cellsOf e := slices_full_of Tryz.prog (by kernel_rfl)
theorem gE : Tryz.prog.globalNamed "telpher/telmake.extraNames" = some 0 := by kernel_rfl
theorem gL : Tryz.prog.globalNamed "telpher/telmake.leafNames" = some 1 := by kernel_rfl
theorem gP : Tryz.prog.globalNamed "telpher/hierarchy.reserved" = some 2 := by kernel_rfl
theorem gT : Tryz.prog.globalNamed "telpher/typeterm.reserved" = some 4 := by kernel_rfl
theorem globs_ok {W : World} (h : laidMetH Tryz.prog Rows.hierarchyDeclareUptoRow.laid W) : ∀ g cs, xglobs g = some cs -> RepAt W noOwn g 0 cs := by
 have h' : laidMet Tryz.prog Rows.hierarchyDeclareUptoRow.laid W := h
 obtain ⟨ps, ⟨g1, t1, cs1, fuel1, p1, q1, a1, a2, a3, a4, ⟨g2, t2, cs2, fuel2, p2, q2, b1, b2, b3, b4, ⟨g3, t3, cs3, fuel3, p3, q3, c1, c2, c3, c4, ⟨g4, t4, cs4, fuel4, p4, q4, d1, d2, d3, d4, _, _⟩, _⟩, _⟩, _⟩, _⟩ := h'
 intro g cs hg
 unfold xglobs at hg
 split at hg
 ·obtain rfl := Option.some.inj hg
  exact glob_strs (l := extraN) gE (by kernel_rfl) Tryz.underlying60 Tryz.underlying9 (by kernel_rfl) (by decide) ⟨g3, t3, cs3, fuel3, p3, c1, c2, c3, c4⟩
 ·obtain rfl := Option.some.inj hg
  exact glob_strs (l := leafN) gL (by kernel_rfl) Tryz.underlying60 Tryz.underlying9 (by kernel_rfl) (by decide) ⟨g4, t4, cs4, fuel4, p4, d1, d2, d3, d4⟩
 ·obtain rfl := Option.some.inj hg
  exact glob_strs (l := resv) gP (by kernel_rfl) Tryz.underlying60 Tryz.underlying9 (by kernel_rfl) (by decide) ⟨g2, t2, cs2, fuel2, p2, b1, b2, b3, b4⟩
 ·obtain rfl := Option.some.inj hg
  exact glob_strs (l := resv) gT (by kernel_rfl) Tryz.underlying60 Tryz.underlying9 (by kernel_rfl) (by decide) ⟨g1, t1, cs1, fuel1, p1, a1, a2, a3, a4⟩
 simp at hg
/-! ### The bound -/
theorem one_le {H : Type} (d : DataW H) : 1 <= Rows.uptoBulk d := by
 cases d with
 | lit l => cases l <;> simp [Rows.uptoBulk]
 | nil => simp [Rows.uptoBulk]
 | ptr d => simp [Rows.uptoBulk]
 | slice elems spare => simp [Rows.uptoBulk]
 | agg parts => simp [Rows.uptoBulk]
 | iface t d => simp [Rows.uptoBulk]
 | map entries => simp [Rows.uptoBulk]
 | held h => simp [Rows.uptoBulk]
theorem len_bulk {H : Type} : ∀ l : List (DataW H), l.length <= Rows.uptoBulkAll l
 | [] => by simp [Rows.uptoBulkAll]
 | x :: r => by
  have h1 := one_le x
  have h2 := len_bulk r
  simp only [Rows.uptoBulkAll, List.length_cons]
  omega
theorem part_bulk {H : Type} {d : DataW H} : ∀ {l : List (DataW H)}, d ∈ l -> Rows.uptoBulk d <= Rows.uptoBulkAll l
 | [], h => by cases h
 | x :: r, h => by
  simp only [Rows.uptoBulkAll]
  rcases List.mem_cons.1 h with e | h
  ·subst e; omega
  have := part_bulk h; omega
theorem bulk_le {H : Type} {l els rest : List (DataW H)} (hk : Rows.uptoSmall H l = true) (hm : DataW.slice els rest ∈ l) : els.length <= 1048576 := by
 have h : Rows.uptoBulkAll l <= 1048576 := of_decide_eq_true hk
 have h1 := part_bulk hm
 have h2 := len_bulk els
 simp only [Rows.uptoBulk] at h1
 omega
theorem rep_str {W : World} {R : Own} {N : Name -> Option Nat} {s : ByteArray} (h : s.size <= maxLen) : RepV W R N (.dat (sb s.data.toList)) (.string s) [] := by
 have e : (ByteArray.mk ⟨s.data.toList⟩) = s := by cases s; rfl
 unfold sb
 rw [e]
 refine repV_flat (v := .string s) ?_
 simp only [isFlat, decide_eq_true_eq]
 unfold maxLen at h
 omega
set_option maxRecDepth 100000 in
theorem contract (H : Type) (enc : TypeId × Value -> H) (W : World) (base : Nat) (args : Array Value) (ds gs : List (DataW H)) (before : List MemPlace)
  (hval : ∀ (j : Nat) t v, Tryz.f3.params[j]? = some t -> args[j]? = some v -> Value.okWide Tryz.prog W .any base t v)
  (hW : DataW.Whole enc Tryz.prog Tryz.f3.params.toList Rows.hierarchyDeclareSpec.vars false W args.toList ds gs before) (hL : laidMetH Tryz.prog Rows.hierarchyDeclareUptoRow.laid W) (hk : Rows.uptoSmall H (ds ++ gs) = true) :
  Calls Tryz.prog 3 args W fun e W' => ∃ v, e = .returned v /\ Rows.hierarchyDeclareSpec.post enc Tryz.prog Tryz.f3 false true false false W args v W' := by
 have hW' := hW
 obtain ⟨p, q, hA0, hV, rfl, hfz, hnd⟩ := hW
 have hA : DataW.TrodAll enc Tryz.prog W 0 (fun _ => true) true Tryz.f3.params.toList args.toList ds p := hA0
 have hAk := hA
 rw [Tryz.params3] at hA hval
 obtain ⟨v0, vs0, d0, ds0, p0, q0, hargs, rfl, rfl, h0, r0⟩ := trodAll_cons hA
 obtain ⟨v1, vs1, d1, ds1, p1, q1, rfl, rfl, rfl, h1, r1⟩ := trodAll_cons r0
 obtain ⟨v2, vs2, d2, ds2, p2, q2, rfl, rfl, rfl, h2, r2⟩ := trodAll_cons r1
 obtain ⟨v3, vs3, d3, ds3, p3, q3, rfl, rfl, rfl, h3, r3⟩ := trodAll_cons r2
 obtain ⟨v4, vs4, d4, ds4, p4, q4, rfl, rfl, rfl, h4, r4⟩ := trodAll_cons r3
 obtain ⟨v5, vs5, d5, ds5, p5, q5, rfl, rfl, rfl, h5, r5⟩ := trodAll_cons r4
 obtain ⟨v6, vs6, d6, ds6, p6, q6, rfl, rfl, rfl, h6, r6⟩ := trodAll_cons r5
 obtain ⟨rfl, rfl, rfl⟩ := trodAll_nil r6
 obtain rfl : args = #[v0, v1, v2, v3, v4, v5, v6] := by cases args; simp_all
 obtain ⟨rfl, rfl⟩ := trodVars_none hV
 obtain ⟨a0, len0, cap0, hv0⟩ := okWide_slice Tryz.underlying22 (hval 0 22 v0 rfl rfl)
 obtain ⟨l0, hd0, hr0⟩ := arg_ints (outs fun _ => none) Tryz.underlying22 Tryz.underlying3 (by kernel_rfl) (by rw [hv0]; rfl) h0
 obtain ⟨a1, len1, cap1, hv1⟩ := okWide_slice Tryz.underlying22 (hval 1 22 v1 rfl rfl)
 obtain ⟨l1, hd1, hr1⟩ := arg_ints (outs fun _ => none) Tryz.underlying22 Tryz.underlying3 (by kernel_rfl) (by rw [hv1]; rfl) h1
 obtain ⟨n2, rfl, rfl, rfl, hw2⟩ := open_int Tryz.underlying3 (hval 2 3 v2 rfl rfl) h2
 obtain ⟨n3, rfl, rfl, rfl, hw3⟩ := open_int Tryz.underlying3 (hval 3 3 v3 rfl rfl) h3
 obtain ⟨n4, rfl, rfl, rfl, hw4⟩ := open_int Tryz.underlying3 (hval 4 3 v4 rfl rfl) h4
 obtain ⟨s5, rfl, rfl, rfl, hm5⟩ := open_string Tryz.underlying9 (hval 5 9 v5 rfl rfl) h5
 obtain ⟨n6, rfl, rfl, rfl, hw6⟩ := open_int Tryz.underlying3 (hval 6 3 v6 rfl rfl) h6
 have hb0 : l0.length <= 1048576 := by
  rcases hd0 with ⟨_, e⟩ | ⟨els, rest, e, e2⟩
  ·rw [e]; simp
  rw [← e2]
  exact bulk_le (rest := rest) hk (by rw [← e]; simp)
 have hb1 : l1.length <= 1048576 := by
  rcases hd1 with ⟨_, e⟩ | ⟨els, rest, e, e2⟩
  ·rw [e]; simp
  rw [← e2]
  exact bulk_le (rest := rest) hk (by rw [← e]; simp)
 obtain ⟨r, hr, hcall⟩ := law_call (by omega : l0.length < 10000000) (by omega : l1.length < 10000000) n2 n3 n4 s5.data.toList n6
 refine (calls_of_acallsV W (args := [v0, v1, .int .i64 n2, .int .i64 n3, .int .i64 n4, .string s5, .int .i64 n6]) (repVs_cons (b1 := []) (b2 := []) (hr0 (by unfold lim; omega)) (repVs_cons (b1 := []) (b2 := []) (hr1 (by unfold lim; omega)) (repVs_cons (b1 := []) (b2 := []) (repV_flat (v := .int .i64 n2) hw2) (repVs_cons (b1 := []) (b2 := []) (repV_flat (v := .int .i64 n3) hw3) (repVs_cons (b1 := []) (b2 := []) (repV_flat (v := .int .i64 n4) hw4) (repVs_cons (b1 := []) (b2 := []) (rep_str hm5) (repVs_cons (b1 := []) (b2 := []) (repV_flat (v := .int .i64 n6) hw6) repVs_nil))))))) hcall hr (globs_ok hL)).mono ?_
 rintro e W' ⟨rfl, hkp, hB⟩
 refine ⟨_, rfl, ?_⟩
 simp only [List.append_nil] at hW' hAk
 have hargs := DataW.TrodAll.respare (spare' := fun b => decide (b < W.heap.size)) kids full (by rw [Tryz.params3]; decide) (trodAll_up hB hAk) (fun p hp => by simpa using hW'.lt p hp)
 refine ⟨_, _, _, [], _, [], hW', ?_, hargs, rfl, World.keptBut_mono (fun p hp => hp.elim) hkp, fun h => by cases h⟩
 exact trodAll_cons_mk (shut_bool Tryz.underlying4 _) trodAll_mk0
/-- A world for the witness. -/
noncomputable def laidWorld (os : Os) : World :=
 let N := (World.settled Tryz.prog os).heap.size
 let strs (l : List (List UInt8)) : Array Value := (l.map fun b => Value.string ⟨⟨b⟩⟩).toArray
 let w0 := World.holding Tryz.prog os ⟨#[.cells (strs extraN) 9, .cells (strs leafN) 9, .cells (strs resv) 9, .cells (strs resv) 9], #[], []⟩
 let put (h : Array Obj) (g : Nat) (cs : Array Value) : Array Obj := h.modify g fun
  | .cells _ t frozen => .cells cs t frozen
  | o => o
 let h1 := put w0.heap 0 #[.slice (some ⟨N, 0, none⟩) 4 4]
 let h2 := put h1 1 #[.slice (some ⟨N + 1, 0, none⟩) 4 4]
 let h3 := put h2 2 #[.slice (some ⟨N + 2, 0, none⟩) 5 5]
 let h4 := put h3 4 #[.slice (some ⟨N + 3, 0, none⟩) 5 5]
 {w0 with heap := h4 }
theorem laid_met (os : Os) (args : Array Value) : laidMet Tryz.prog Rows.hierarchyDeclareUptoRow.laid ((laidWorld os).forCall (fun _ _ => 0) ⟨#[], args, []⟩).memory :=
 laidMet_of_run' 8 (by kernel_rfl) (by kernel_rfl)
noncomputable def wargs : Array Value := #[.slice none 0 0, .slice none 0 0, .int .i64 0, .int .i64 0, .int .i64 0, .string .empty, .int .i64 0]
theorem reads (os : Os) {H : Type} (enc : TypeId × Value -> H) : ∃ places, DataW.whole enc Tryz.prog ((laidWorld os).forCall (fun _ _ => 0) ⟨#[], wargs, []⟩).memory Tryz.f3.params.toList Rows.hierarchyDeclareSpec.vars false wargs.toList 8 = some ([.nil, .nil, .lit (.int .i64 0), .lit (.int .i64 0), .lit (.int .i64 0), .lit (.string []), .lit (.int .i64 0)], [], places) :=
 ⟨[], by kernel_rfl⟩
set_option maxRecDepth 100000 in
theorem lifted (os : Os) (started : os.Started) (H : Type) (enc : TypeId × Value -> H) (F : Stop.Interp) :
  ReturnsInHanded {} Tryz.checked os 3 .any ((Rows.OpenSpec.upto Rows.hierarchyDeclareSpec).preRow enc Tryz.prog Tryz.f3 Rows.hierarchyDeclareUptoRow.domain false Rows.hierarchyDeclareUptoRow.laid) (((Rows.OpenSpec.upto Rows.hierarchyDeclareSpec).at F).post enc Tryz.prog Tryz.f3 false true false false) := by
 obtain ⟨places, hx⟩ := reads os enc
 refine returnsInHanded_of_row (C := Tryz.checked) (s := (Rows.OpenSpec.upto Rows.hierarchyDeclareSpec)) own started (by kernel_rfl) Tryz.func3
  (witness_row_atRef (enc := enc) (C := Tryz.checked) false (laidWorld os) wargs rfl (by kernel_rfl) (by kernel_rfl) (by kernel_rfl)
   (OpenSpec.preRow_of_cond 8 hx (by kernel_rfl) (fun k hk => by cases hk; kernel_rfl) (by kernel_rfl) (laid_met os _))) ?_
 intro W base args ds gs before hval hW _ hcond _ hL _ _
 exact contract H enc W base args ds gs before hval hW hL (hcond _ rfl)
end Go.Proofs.YtiihadmgkoamoaaGreatDoor

namespace Go.Proofs.YtiihadmgkoamoaaGreatDoor
open Go.ChangeShapes Go.WideShapes Go.ChangeAt Go.RowKit Go.Tp
set_option maxHeartbeats 4000000 in
set_option maxRecDepth 100000 in
theorem said : Rows.HierarchyDeclareUptoSaid :=
 OpenClaim.holds_of_cond 3 Tryz.f3 rfl rfl rfl rfl rfl rfl rfl ⟨rfl, rfl, rfl, rfl, rfl⟩ rfl rfl rfl rfl rfl (by as_aux_lemma => kernel_rfl) Tryz.func3 (by as_aux_lemma => kernel_rfl)
  (of_decide_eq_true (by as_aux_lemma => kernel_rfl)) (by unfold Func.isWrapper; first | (rw [if_pos (by decide +kernel)]; kernel_rfl) | (rw [if_neg (by decide +kernel)]; exact ⟨rfl, rfl⟩))
  (fun os started H enc _ F => by rw [OpenClaim.pre_eq_preRow]; exact lifted os started H enc F)
set_option maxRecDepth 100000 in
theorem plain (f : FuncId) (fn : Func) (hf : Tryz.pinned.checked.prog.funcNamed "telpher/tellaw3.HierarchyDeclare" = some f) (hfn : Tryz.pinned.checked.prog.funcs[f]? = some fn) :
  true = Tryz.pinned.checked.prog.looks [] /\ ∀ (j : Nat) t, fn.params[j]? = some t -> Tryz.pinned.checked.prog.wantsStandIn t = false := by
 obtain rfl : f = 3 := Option.some.inj ((show Tryz.prog.funcNamed "telpher/tellaw3.HierarchyDeclare" = some 3 by kernel_rfl).symm.trans hf) |>.symm
 obtain rfl : fn = Tryz.f3 := (Option.some.inj (Tryz.func3.symm.trans hfn)).symm
 refine ⟨by kernel_rfl, fun j t ht => ?_⟩
 rw [Tryz.params3] at ht
 have w3 : Tryz.prog.wantsStandIn 3 = false := by kernel_rfl
 have w9 : Tryz.prog.wantsStandIn 9 = false := by kernel_rfl
 have w22 : Tryz.prog.wantsStandIn 22 = false := by kernel_rfl
 have hm := Array.mem_of_getElem? ht
 have key : ∀ x ∈ ([22, 22, 3, 3, 3, 9, 3] : List Nat), x = 22 ∨ x = 3 ∨ x = 9 := by decide
 have h3 := key t (by simpa using hm)
 rcases h3 with rfl | rfl | rfl
 ·exact w22
 ·exact w3
 exact w9
/-- The card. -/
theorem hierarchyDeclare_card : Rows.HierarchyDeclareUptoCardSaid :=
 Claim7.holds_tied_plain_at .later [] _ _ _ _ said (fun _ h => by cases h) (by kernel_rfl) (fun _ h => by cases h) hierarchyDeclareUpto_row_tie rfl ⟨rfl, rfl⟩ (by kernel_rfl) rfl plain (by kernel_rfl)
end Go.Proofs.YtiihadmgkoamoaaGreatDoor
#print axioms Go.Proofs.YtiihadmgkoamoaaGreatDoor.hierarchyDeclare_card
