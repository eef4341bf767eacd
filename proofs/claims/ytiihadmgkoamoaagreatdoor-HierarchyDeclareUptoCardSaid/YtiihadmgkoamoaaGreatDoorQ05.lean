/- HierarchyDeclare returns true and changes nothing, for arguments of bulk at most 1048576 (the card of the second form; conditions: those of the given row). Part 5. -/
import Derived.Test.YtiihadmgkoamoaaGreatDoorQ04
set_option linter.unusedVariables false
set_option linter.unusedSimpArgs false
set_option maxRecDepth 100000
set_option maxHeartbeats 4000000
namespace Go.Proofs.YtiihadmgkoamoaaGreatDoor
open Go.Tp
theorem call_of0 (ls bs : List Nat) {g : FuncId} {x : XFn} (hx : ftab.find g = some x) {args : List AVal} {heap : Heap} {next : Nat} {r : XRes} (h : (qfun0 (inL ls) (inL bs) (env Prims.fast) xglobs xmoves xcaps x g args heap next).Ok Tryz.prog xglobs (fun y => y = r)) :
  KC g args heap next (XQ r) := acalls_eq (qfun0_ok envF ftab_ok hx (fun _ _ => h))
theorem newL_ivs (k : Nat) : ∀ l : List Int, newL k (ivs l) = false
 | [] => rfl
 | d :: r => by show (newV k (iv d) || newL k (ivs r)) = false; rw [newL_ivs k r]; rfl
theorem rnL_ivs (ρ : Nat -> Nat) : ∀ l : List Int, rnL ρ (ivs l) = ivs l
 | [] => rfl
 | d :: r => by show rnV ρ (iv d) :: rnL ρ (ivs r) = _; rw [rnL_ivs ρ r]; rfl
theorem okVs_ivs (p : Nat -> Bool) : ∀ l : List Int, okVs p (ivs l) = true
 | [] => rfl
 | d :: r => by show (okV p (iv d) && okVs p (ivs r)) = true; rw [okVs_ivs p r]; rfl
theorem reheap {g : FuncId} {args : List AVal} {heap : Heap} {next : Nat} {Q Q' : AVal -> Heap -> Nat -> Prop} (h : KC g args heap next Q) (hq : ∀ v h m, Q v h m -> ∃ h2, h.Perm h2 /\ Q' v h2 m) : KC g args heap next Q' := by
 intro w R N cargs bsA bsH bsF ha hh hnd hnx hg hF
 refine (h w R N cargs bsA bsH bsF ha hh hnd hnx hg hF).mono ?_
 rintro e w' ⟨v, cv, h1, next', R', N', bsV, bsH', rfl, hq1, hv, hh', hnd', hnx', hk, hN⟩
 obtain ⟨h2, hp, hq2⟩ := hq _ _ _ hq1
 obtain ⟨bs2, k1, k2⟩ := hh'.perm hp
 refine ⟨v, cv, h2, next', R', N', bsV, bs2, rfl, hq2, hv, k1, ?_, hnx', hk, hN⟩
 exact (List.Perm.nodup_iff (List.Perm.append_left _ (List.Perm.append_right _ k2))).1 hnd'
def sP : AVal := .ptr (.out 0) 0
/-- A set of integers: the row's name, its elements. -/
def hS (r : Nat) : List Int -> Heap
 | [] => [(.out 0, .cells [.dat nl])]
 | x :: l => [(.out r, .cells (ivs (x :: l))), (.out 0, .cells [.win (.out r) 1 0 (x :: l).length])]
def hR (r : Nat) (l : List Int) (n : Nat) : Heap := [(.out r, .cells (ivs l)), (.out 0, .cells [.win (.out r) 1 0 n])]
theorem hS_cons {r : Nat} {l : List Int} (h : l ≠ []) : hS r l = hR r l l.length := by cases l with | nil => exact absurd rfl h | cons x l => rfl
/-! ### BinarySearch, Insert, beside the set -/
theorem search_at {l : List Int} {x : Int} {n : Nat} (hs : l.Pairwise (· <= ·)) (hn : l.length < 1000000000) (hl : n = l.length) :
  KC 190 [.win (.out 1) 1 0 n, iv x] (hR 1 l n) 2 (XQ ⟨.tup [iv (Int.ofNat (l.countP (· < x))), bv (l.contains x)], hR 1 l n, 2⟩) := by
 subst hl
 have h := ACalls.frame (c_search (G := xglobs) Tryz.bs25 (x := x) hs hn) (fun _ => 1) (heap := hR 1 l l.length) (rest := [(.out 0, .cells [.win (.out 1) 1 0 l.length])]) (next := 2) (by simp [hR, rnH, rnO, rnN, rnL_ivs]) rfl (by simp [newHeap, newO, newL_ivs]) rfl rfl
 refine reheap h ?_
 rintro v h m ⟨v0, h1, n1, ⟨rfl, rfl, rfl⟩, rfl, rfl, rfl⟩
 refine ⟨hR 1 l l.length, ?_, rfl, rfl, rfl⟩
 simp [hR, rnH, rnO, rnN, rnL_ivs, liftN]
 exact List.Perm.refl _
theorem insert_at {l : List Int} {x : Int} {i n : Nat} (hi : i <= l.length) (hn : l.length < 1000000000) (hl : n = l.length) :
  KC 191 [.win (.out 1) 1 0 n, iv (Int.ofNat i), .win (.out 2) 1 0 1] ((.out 2, .cells [iv x]) :: hR 1 l n) 3
   (XQ ⟨.win (.out 3) 1 0 (insAt l i x).length, [(.out 3, .cells (ivs (insAt l i x))), (.out 2, .cells [iv x]), (.out 0, .cells [.win (.out 1) 1 0 n])], 4⟩) := by
 subst hl
 have h := ACalls.frame (c_insert (G := xglobs) Tryz.ins21 (x := x) hi hn) (fun o => o + 1) (heap := (.out 2, .cells [iv x]) :: hR 1 l l.length) (rest := [(.out 0, .cells [.win (.out 1) 1 0 l.length])]) (next := 3) (by simp [hR, rnH, rnO, rnN, rnL_ivs, rnL, rnV]; exact List.Perm.swap _ _ _) rfl (by simp [newHeap, newO, newL_ivs, newL, newV]) rfl rfl
 refine reheap h ?_
 rintro v h m ⟨v0, h1, n1, ⟨rfl, rfl, rfl⟩, rfl, rfl, rfl⟩
 refine ⟨_, List.Perm.refl _, rfl, ?_, rfl⟩
 simp [rnH, rnO, rnN, rnL_ivs, rnL, rnV, liftN]
 exact ⟨rfl, rfl⟩
theorem insert_nil {x : Int} :
  KC 191 [.dat nl, iv (Int.ofNat 0), .win (.out 1) 1 0 1] [(.out 1, .cells [iv x]), (.out 0, .cells [.dat nl])] 2
   (XQ ⟨.win (.out 2) 1 0 1, [(.out 2, .cells [iv x]), (.out 1, .cells [iv x]), (.out 0, .cells [.dat nl])], 3⟩) := by
 have h := ACalls.frame (c_insert_nil (G := xglobs) Tryz.ins21 (x := x)) (fun o => o + 1) (heap := [(.out 1, .cells [iv x]), (.out 0, .cells [.dat nl])]) (rest := [(.out 0, .cells [.dat nl])]) (next := 2) (by rfl) rfl rfl rfl rfl
 refine reheap h ?_
 rintro v h m ⟨v0, h1, n1, ⟨rfl, rfl, rfl⟩, rfl, rfl, rfl⟩
 exact ⟨_, List.Perm.refl _, rfl, rfl, rfl⟩
/-! ### add -/
theorem search_nil {x : Int} : Calls1 190 [.dat nl, iv x] (.tup [iv (Int.ofNat 0), bv false]) := X_ok _ _ _ _ _ (by kernel_rfl)
theorem add_nil {x : Int} : KC 170 [sP, iv x] [(.out 0, .cells [.dat nl])] 1 (XQ ⟨.tup [], [(.out 2, .cells [iv x]), (.out 1, .cells [iv x]), (.out 0, .cells [.win (.out 2) 1 0 1])], 3⟩) := by
 have h1 := search_nil (x := x)
 have h2 := insert_nil (x := x)
 refine call_of0 [] [] (x := XFn.of Tryz.f170 ord170 live170) (by kernel_rfl) ?_; refine on h1 ?_; refine oh h2 ?_; exact fi
theorem add_new {l l2 : List Int} {x : Int} {i n n2 : Nat} (h1 : KC 190 [.win (.out 1) 1 0 n, iv x] (hR 1 l n) 2 (XQ ⟨.tup [iv (Int.ofNat i), bv false], hR 1 l n, 2⟩))
  (h2 : KC 191 [.win (.out 1) 1 0 n, iv (Int.ofNat i), .win (.out 2) 1 0 1] ((.out 2, .cells [iv x]) :: hR 1 l n) 3
   (XQ ⟨.win (.out 3) 1 0 n2, [(.out 3, .cells (ivs l2)), (.out 2, .cells [iv x]), (.out 0, .cells [.win (.out 1) 1 0 n])], 4⟩)) :
  KC 170 [sP, iv x] (hR 1 l n) 2 (XQ ⟨.tup [], [(.out 3, .cells (ivs l2)), (.out 2, .cells [iv x]), (.out 0, .cells [.win (.out 3) 1 0 n2])], 4⟩) := by
 refine call_of0 [] [] (x := XFn.of Tryz.f170 ord170 live170) (by kernel_rfl) ?_; refine oh h1 ?_; refine oh h2 ?_; exact fi
theorem add_old {l : List Int} {x : Int} {i n : Nat} (h1 : KC 190 [.win (.out 1) 1 0 n, iv x] (hR 1 l n) 2 (XQ ⟨.tup [iv (Int.ofNat i), bv true], hR 1 l n, 2⟩)) :
  KC 170 [sP, iv x] (hR 1 l n) 2 (XQ ⟨.tup [], hR 1 l n, 2⟩) := by
 refine call_of0 [] [] (x := XFn.of Tryz.f170 ord170 live170) (by kernel_rfl) ?_; refine oh h1 ?_; exact fi
def setAdd (l : List Int) (x : Int) : List Int := match l.contains x with | true => l | false => insAt l (l.countP (· < x)) x
theorem insAt_ne {l : List Int} {i : Nat} {x : Int} : insAt l i x ≠ [] := by simp [insAt]
theorem add_can {l : List Int} {x : Int} (h0 : l ≠ []) (hs : l.Pairwise (· <= ·)) (hn : l.length < 1000000000) :
  KC 170 [sP, iv x] (hR 1 l l.length) 2 (XQ ⟨.tup [], hR 2 (setAdd l x) (setAdd l x).length, 3⟩) := by
 have h1 := search_at (x := x) hs hn rfl
 unfold setAdd
 generalize hc : l.contains x = c at h1
 cases c
 ·have h2 := insert_at (x := x) (i := l.countP (· < x)) List.countP_le_length hn rfl
  refine ACalls.rn (add_new h1 h2) ?_
  rintro v hp m ⟨rfl, rfl, rfl⟩
  refine ⟨[3], rfl, ?_, ?_⟩
  ·simp [hR, restrictH, okH, okO, okVs, okV, keptA, memN, okVs_ivs]
   rfl
  simp [hR, restrictH, rnH, rnO, rnN, rnL, rnV, keptA, memN, rhoA, idxN, rnL_ivs]
  exact ⟨rfl, rfl, rfl⟩
 refine ACalls.rn (add_old h1) ?_
 rintro v hp m ⟨rfl, rfl, rfl⟩
 refine ⟨[1], rfl, ?_, ?_⟩
 ·simp [hR, restrictH, okH, okO, okVs, okV, keptA, memN, okVs_ivs]
  rfl
 simp [hR, restrictH, rnH, rnO, rnN, rnL, rnV, keptA, memN, rhoA, idxN, rnL_ivs]
 exact ⟨rfl, rfl, rfl⟩
theorem add_nil_can {x : Int} : KC 170 [sP, iv x] [(.out 0, .cells [.dat nl])] 1 (XQ ⟨.tup [], hR 1 [x] 1, 2⟩) := by
 refine ACalls.rn (add_nil (x := x)) ?_
 rintro v hp m ⟨rfl, rfl, rfl⟩
 exact ⟨[2], rfl, rfl, rfl, rfl, rfl⟩
theorem c_add {l : List Int} {x : Int} (hs : l.Pairwise (· <= ·)) (hn : l.length < 1000000000) (r m : Nat) :
  KC 170 [sP, iv x] (hS r l) m (XQ ⟨.tup [], hS m (setAdd l x), m + 1⟩) := by
 cases l with
 | nil =>
  have h := ACalls.frame (add_nil_can (x := x)) (fun o => o) (heap := hS r []) (rest := []) (next := m) (by rfl) rfl rfl rfl rfl
  refine h.mono ?_
  rintro v h m' ⟨v0, h1, n1, ⟨rfl, rfl, rfl⟩, rfl, rfl, rfl⟩
  refine ⟨rfl, ?_, rfl⟩
  show _ = hS m [x]
  simp [hS, hR, rnH, rnO, rnN, rnL, rnV, rnL_ivs, liftN]
  exact ⟨rfl, rfl, rfl⟩
 | cons y l =>
  have h2 : setAdd (y :: l) x ≠ [] := by
   unfold setAdd
   cases (y :: l).contains x with
   | true => simp
   | false => exact insAt_ne
  rw [hS_cons (by simp : (y :: l) ≠ []), hS_cons h2]
  have h := ACalls.frame (add_can (x := x) (by simp : (y :: l) ≠ []) hs hn) (fun o => match o with | 0 => 0 | _ => r) (heap := hR r (y :: l) (y :: l).length) (rest := []) (next := m) (by simp [hR, rnH, rnO, rnN, rnL_ivs, rnL, rnV]) (by rfl) (by simp [newHeap, hR, newO, newL_ivs, newL, newV]; rfl) (by rfl) rfl
  refine h.mono ?_
  rintro v h m' ⟨v0, h1, n1, ⟨rfl, rfl, rfl⟩, rfl, rfl, rfl⟩
  refine ⟨rfl, ?_, rfl⟩
  simp [hR, rnH, rnO, rnN, rnL, rnV, rnL_ivs, liftN]
  exact ⟨rfl, rfl, rfl⟩
/-! ### collectFree -/
noncomputable def hCol : Hints := ⟨xmoves, ord142, xcaps, rowsOf xcaps 142⟩
def stC (k : Int) (nm : List UInt8) (ix : Int) (a : Dat) (n u : Nat) (H : Heap) (m : Nat) (i : Int) : FState := ⟨[(26, iv i), (25, iv (Int.ofNat n)), (24, .dat a), (3, .ptr (.loc 3) 0), (1, iv (Int.ofNat u)), (2, sP)], [(.loc 3, .cells [iv k, .dat (sb nm), iv ix, .dat a])], H, m⟩
def stCX (k : Int) (nm : List UInt8) (ix : Int) (a : Dat) (n u : Nat) (H : Heap) (m : Nat) (i : Int) : FState := ⟨[(27, bv false), (26, iv i), (25, iv (Int.ofNat n)), (24, .dat a), (3, .ptr (.loc 3) 0), (1, iv (Int.ofNat u)), (2, sP)], [(.loc 3, .cells [iv k, .dat (sb nm), iv ix, .dat a])], H, m⟩
theorem col_round {k : Int} {nm : List UInt8} {ix : Int} {x : Dat} {es : List Dat} {l : List Ty} {t : Ty} {i u b m m2 : Nat} {H H2 : Heap} (hl : encL l = x :: es) (hi : i < (encL l).length) (ht : l[i]? = some t)
  (hb : Calls1 126 [.dat (.agg [i64 k, sb nm, i64 ix, .slice (x :: es)]), iv (Int.ofNat i)] (iv (Int.ofNat b)))
  (hc : KC 142 [.dat t.enc, iv (wrapF .i64 (Int.ofNat u + Int.ofNat b)), sP] H m (XQ ⟨.tup [], H2, m2⟩)) {T : Exit -> AState -> Prop}
  (e : T .normal ((stC k nm ix (.slice (x :: es)) (x :: es).length u H2 m2 (wrapF .i64 (Int.ofNat i + 1))).toA Tryz.f142.ntmps)) :
  KD (roundOf Tryz.f142 0) T ((stC k nm ix (.slice (x :: es)) (x :: es).length u H m (Int.ofNat i)).toA Tryz.f142.ntmps) := by
 have h1 := ltF_yes hi
 have h2 := idxT ht
 rw [hl] at h1 h2
 clear ht hi hl
 obtain ⟨k2, nm2, ix2, a2⟩ := t
 rcases a2 with _ | ⟨b2, d2⟩ <;>
 ·refine run_of [27] [29] (H := hCol) (live := live142) (by kernel_rfl) ?_; refine ob h1 ?_; refine oo h2 ?_; refine on hb ?_; refine oh hc ?_; exact oe e
theorem col_last {k : Int} {nm : List UInt8} {ix : Int} {a : Dat} {n u m : Nat} {H : Heap} {T : Exit -> AState -> Prop} (e : T (.exit 0) ((stCX k nm ix a n u H m (Int.ofNat n)).toA Tryz.f142.ntmps)) :
  KD (roundOf Tryz.f142 0) T ((stC k nm ix a n u H m (Int.ofNat n)).toA Tryz.f142.ntmps) := by
 have h1 := ltF_no (i := n) (L := n) (by omega)
 refine run_of [27] [] (H := hCol) (live := live142) (by kernel_rfl) ?_; refine ob h1 ?_; exact oe e
/-- What a root gives. -/
def rootF (k ix : Int) (u : Nat) (s : List Int) : List Int := match eqF k 5 with | false => s | true => (match ltF ix (Int.ofNat u) with | true => s | false => setAdd s (ix - Int.ofNat u))
mutual
def Ty.cf : Ty -> Nat -> List Int -> List Int
 | .mk k _ ix args, u, s => cfL k args 0 u (rootF k ix u s)
def cfL (k : Int) : List Ty -> Nat -> Nat -> List Int -> List Int
 | [], _, _, s => s
 | t :: r, j, u, s => cfL k r (j + 1) u (t.cf (u + bindN k j) s)
end
theorem cfL_app {k : Int} {b : List Ty} {u : Nat} : ∀ {a : List Ty} {j : Nat} {s : List Int}, cfL k (a ++ b) j u s = cfL k b (j + a.length) u (cfL k a j u s)
 | [], j, s => by simp [cfL]
 | t :: r, j, s => by
  simp only [List.cons_append, cfL, List.length_cons]
  rw [cfL_app, show j + 1 + r.length = j + (r.length + 1) by omega]
theorem cfL_take {k : Int} {l : List Ty} {i u : Nat} {t : Ty} {s : List Int} (h : l[i]? = some t) : cfL k (l.take (i + 1)) 0 u s = t.cf (u + bindN k i) (cfL k (l.take i) 0 u s) := by
 have hi := (List.getElem?_eq_some_iff.1 h).1
 rw [List.take_add_one, h, Option.toList_some, cfL_app, Nat.zero_add, List.length_take, Nat.min_eq_left (by omega), cfL, cfL]
theorem col_enter {k : Int} {nm : List UInt8} {ix : Int} {l : List Dat} {u m m2 m3 : Nat} {ck cg : Bool} {H H2 H3 : Heap} (hk : eqF k 5 = ck) (hg : ltF ix (Int.ofNat u) = cg)
  (ha : ck = true -> cg = false -> KC 170 [sP, iv (wrapF .i64 (ix - Int.ofNat u))] H m (XQ ⟨.tup [], H2, m2⟩)) (he : ck = false ∨ cg = true -> H2 = H /\ m2 = m)
  (hl : KD (.loop (roundOf Tryz.f142 0)) (fun e s => e = .exit 0 /\ s = (stCX k nm ix (sl l) l.length u H3 m3 (Int.ofNat l.length)).toA Tryz.f142.ntmps) ((stC k nm ix (sl l) l.length u H2 m2 (Int.ofNat 0)).toA Tryz.f142.ntmps)) :
  KC 142 [.dat (.agg [i64 k, sb nm, i64 ix, sl l]), iv (Int.ofNat u), sP] H m (XQ ⟨.tup [], H3, m3⟩) := by
 cases ck
 ·obtain ⟨rfl, rfl⟩ := he (.inl rfl)
  clear he ha
  rcases l with _ | ⟨x, l⟩ <;>
  ·refine call_of0 [10] [] (x := XFn.of Tryz.f142 ord142 live142) (by kernel_rfl) ?_; refine ob hk ?_; refine lo hl ?_; rintro ex s ⟨rfl, rfl⟩; refine ⟨_, rfl, ?_⟩; exact fi
 cases cg
 ·have ha2 := ha rfl rfl
  clear he ha
  rcases l with _ | ⟨x, l⟩ <;>
  ·refine call_of0 [10, 15] [] (x := XFn.of Tryz.f142 ord142 live142) (by kernel_rfl) ?_; refine ob hk ?_; refine ox hg ?_; refine oh ha2 ?_; refine lo hl ?_; rintro ex s ⟨rfl, rfl⟩; refine ⟨_, rfl, ?_⟩; exact fi
 obtain ⟨rfl, rfl⟩ := he (.inr rfl)
 clear he ha
 rcases l with _ | ⟨x, l⟩ <;>
 ·refine call_of0 [10, 15] [] (x := XFn.of Tryz.f142 ord142 live142) (by kernel_rfl) ?_; refine ob hk ?_; refine ox hg ?_; refine lo hl ?_; rintro ex s ⟨rfl, rfl⟩; refine ⟨_, rfl, ?_⟩; exact fi
/-- Sets as they are built. -/
def okSet (b : Nat) (s : List Int) : Prop := s.Pairwise (· <= ·) /\ s.length <= b
theorem countP_split {l : List Int} {x : Int} (hs : l.Pairwise (· <= ·)) : (∀ y ∈ l.take (l.countP (· < x)), y < x) /\ (∀ y ∈ l.drop (l.countP (· < x)), x <= y) := by
 induction l with
 | nil => simp
 | cons a r ih =>
  obtain ⟨h1, h2⟩ := ih (List.Pairwise.of_cons hs)
  by_cases ha : a < x
  ·rw [List.countP_cons_of_pos (by simpa using ha)]
   refine ⟨?_, ?_⟩
   ·intro y hy
    simp only [List.take_succ_cons, List.mem_cons] at hy
    rcases hy with rfl | hy
    ·exact ha
    exact h1 y hy
   simpa only [List.drop_succ_cons] using h2
  have h0 : (a :: r).countP (· < x) = 0 := by
   rw [List.countP_eq_zero]
   intro y hy
   have hay : a <= y := by
    rcases List.mem_cons.1 hy with rfl | hy
    ·exact Int.le_refl _
    exact List.rel_of_pairwise_cons hs hy
   simp only [decide_eq_true_eq]
   omega
  rw [h0]
  refine ⟨by simp, ?_⟩
  intro y hy
  simp only [List.drop_zero] at hy
  have hay : a <= y := by
   rcases List.mem_cons.1 hy with rfl | hy
   ·exact Int.le_refl _
   exact List.rel_of_pairwise_cons hs hy
  omega
theorem setAdd_ok {b : Nat} {s : List Int} {x : Int} (h : okSet b s) : okSet (b + 1) (setAdd s x) := by
 obtain ⟨h1, h2⟩ := h
 unfold setAdd
 cases s.contains x with
 | true => exact ⟨h1, Nat.le_succ_of_le h2⟩
 | false =>
  obtain ⟨c1, c2⟩ := countP_split (x := x) h1
  refine ⟨?_, ?_⟩
  ·unfold insAt
   rw [List.pairwise_append]
   refine ⟨h1.sublist (List.take_sublist _ _), ?_, ?_⟩
   ·rw [List.pairwise_cons]
    exact ⟨c2, h1.sublist (List.drop_sublist _ _)⟩
   intro y hy z hz
   have := c1 y hy
   rcases List.mem_cons.1 hz with rfl | hz
   ·omega
   have := c2 z hz
   omega
  rw [insAt_length List.countP_le_length]; omega
theorem rootF_ok {b : Nat} {k ix : Int} {u : Nat} {s : List Int} (h : okSet b s) : okSet (b + 1) (rootF k ix u s) := by
 unfold rootF
 cases eqF k 5 with
 | false => exact ⟨h.1, Nat.le_succ_of_le h.2⟩
 | true =>
  cases ltF ix (Int.ofNat u) with
  | true => exact ⟨h.1, Nat.le_succ_of_le h.2⟩
  | false => exact setAdd_ok h
mutual
theorem cf_ok : ∀ (t : Ty) (u : Nat) {b : Nat} {s : List Int}, okSet b s -> okSet (b + t.size) (t.cf u s)
 | .mk k nm ix l, u, b, s, h => by
  rw [Ty.cf, Ty.size, show b + (sizeL l + 1) = b + 1 + sizeL l by omega]
  exact cfL_ok l u (rootF_ok h)
theorem cfL_ok {k : Int} : ∀ (l : List Ty) {j : Nat} (u : Nat) {b : Nat} {s : List Int}, okSet b s -> okSet (b + sizeL l) (cfL k l j u s)
 | [], j, u, b, s, h => by simpa [cfL, sizeL] using h
 | t :: r, j, u, b, s, h => by
  rw [cfL, sizeL, ← Nat.add_assoc]
  exact cfL_ok r u (cf_ok t _ h)
end
def CF (t : Ty) (u : Nat) (s : List Int) : Prop := ∀ r m, 0 < r -> 0 < m -> KC 142 [.dat t.enc, iv (Int.ofNat u), sP] (hS r s) m (XQ ⟨.tup [], hS m (t.cf u s), m + 1⟩)
def rowN (r m : Nat) : Nat -> Nat
 | 0 => r
 | i + 1 => m + i
theorem rowN_pos {r m i : Nat} (h1 : 0 < r) (h2 : 0 < m) : 0 < rowN r m i := by cases i with | zero => exact h1 | succ i => simp only [rowN]; omega
theorem rn_set {f : FuncId} {args : List AVal} {h0 : Heap} {m q mm : Nat} {s : List Int} (hm : 0 < m) (hq : 0 < q) (h : KC f args h0 m (XQ ⟨.tup [], hS q s, mm⟩)) : KC f args h0 m (XQ ⟨.tup [], hS m s, m + 1⟩) := by
 refine ACalls.rn h ?_
 rintro v hp m' ⟨rfl, rfl, rfl⟩
 refine ⟨[q], rfl, ?_, ?_⟩
 all_goals
  have e1 : memN 0 [q] = false := by cases q with | zero => omega | succ q => rfl
  have e2 : memN q [q] = true := by simp [memN]
  have e3 : keptA m [q] 0 = true := by simp [keptA, Nat.blt_eq, hm]
  have e4 : keptA m [q] q = true := by simp [keptA, e2]
  have e5 : rhoA m [q] 0 = 0 := by simp [rhoA, e1]
  have e6 : rhoA m [q] q = m := by simp [rhoA, e2, idxN]
 ·cases s with
  | nil => simp [hS, restrictH, okH, okO, okVs, okV, e3]
  | cons x l => simp [hS, restrictH, okH, okO, okVs, okV, e3, e4, okVs_ivs]
 ·cases s with
  | nil => simp [hS, restrictH, rnH, rnO, rnN, rnL, rnV, e3, e5]; exact ⟨rfl, rfl, rfl⟩
  | cons x l => simp [hS, restrictH, rnH, rnO, rnN, rnL, rnV, e3, e4, e5, e6, rnL_ivs]; exact ⟨rfl, rfl, rfl⟩
theorem col_all {k : Int} {nm : List UInt8} {ix : Int} {l : List Ty} {u b : Nat} {s : List Int} (hs : okSet b s) (hbd : b + 1 + sizeL l < 1000000000) (hu : u < 1000000000) (hix : eqF k 5 = true -> ltF ix 500000000 = true)
  (ih : ∀ t ∈ l, ∀ v s2, v <= u + 1 -> okSet (b + 1 + sizeL l) s2 -> (∃ b2, okSet b2 s2 /\ b2 + t.size <= b + 1 + sizeL l) -> CF t v s2) : CF (.mk k nm ix l) u s := by
 intro r m hr hm
 have hlen := len_size l
 obtain ⟨r2, m2, hr2, hm2, hH2⟩ : ∃ r2 m2, 0 < r2 /\ 0 < m2 /\ ((eqF k 5 = true -> ltF ix (Int.ofNat u) = false -> KC 170 [sP, iv (wrapF .i64 (ix - Int.ofNat u))] (hS r s) m (XQ ⟨.tup [], hS r2 (rootF k ix u s), m2⟩)) /\ (eqF k 5 = false ∨ ltF ix (Int.ofNat u) = true -> hS r2 (rootF k ix u s) = hS r s /\ m2 = m)) := by
  unfold rootF
  cases hk : eqF k 5 with
  | false => exact ⟨r, m, hr, hm, by simp, fun _ => ⟨rfl, rfl⟩⟩
  | true =>
   cases hg : ltF ix (Int.ofNat u) with
   | true => exact ⟨r, m, hr, hm, by simp, fun _ => ⟨rfl, rfl⟩⟩
   | false =>
    refine ⟨m, m + 1, hm, by omega, fun _ _ => ?_, by simp⟩
    have hix := hix hk
    rw [ltF_eq] at hg hix
    simp only [decide_eq_false_iff_not, decide_eq_true_eq] at hg hix
    have e : wrapF .i64 (ix - Int.ofNat u) = ix - Int.ofNat u := by
     rw [wrapF_eq]
     simp only [Int.ofNat_eq_natCast] at hg ⊢
     exact wrap_i64 (by omega) (by omega)
    rw [e]
    exact c_add hs.1 (by have := hs.2; omega) r m
 have hs1 := rootF_ok (k := k) (ix := ix) (u := u) hs
 refine rn_set (q := rowN r2 m2 l.length) (mm := m2 + l.length) hm (rowN_pos hr2 hm2) ?_
 have hl : KD (.loop (roundOf Tryz.f142 0)) (fun e s' => e = .exit 0 /\ s' = (stCX k nm ix (sl (encL l)) (encL l).length u (hS (rowN r2 m2 l.length) (cfL k l 0 u (rootF k ix u s))) (m2 + l.length) (Int.ofNat (encL l).length)).toA Tryz.f142.ntmps)
   ((stC k nm ix (sl (encL l)) (encL l).length u (hS r2 (rootF k ix u s)) m2 (Int.ofNat 0)).toA Tryz.f142.ntmps) := by
  refine loop_count (St := fun i => (stC k nm ix (sl (encL l)) (encL l).length u (hS (rowN r2 m2 i) (cfL k (l.take i) 0 u (rootF k ix u s))) (m2 + i) (Int.ofNat i)).toA Tryz.f142.ntmps) (encL l).length ?_ ?_ (i := 0) (Nat.zero_le _)
  ·intro i hi
   obtain ⟨t, ht, hmem⟩ := get_mem hi
   have hi2 := hi
   rw [encL_length] at hi2
   have hbn : bindN k i <= 1 := by unfold bindN; split <;> omega
   obtain ⟨x, es, hx⟩ : ∃ x es, encL l = x :: es := by
    cases hl : encL l with
    | nil => rw [hl] at hi; simp at hi
    | cons x es => exact ⟨x, es, rfl⟩
   have hst := sizeL_take ht
   have hsl := sizeL_le (l := l) (i + 1)
   have hpre : okSet (b + 1 + sizeL (l.take i)) (cfL k (l.take i) 0 u (rootF k ix u s)) := cfL_ok _ u hs1
   have hcf := ih t hmem (u + bindN k i) (cfL k (l.take i) 0 u (rootF k ix u s)) (by omega) ⟨hpre.1, by have := hpre.2; omega⟩ ⟨_, hpre, by omega⟩ (rowN r2 m2 i) (m2 + i) (rowN_pos hr2 hm2) (by omega)
   rw [← wrap_add (n := u) (m := bindN k i) (by omega)] at hcf
   have hbi := c_binders k nm ix (.slice (x :: es)) (.inr ⟨_, rfl⟩) i
   have e := col_round (T := seqQ (fun s' => s' = (stC k nm ix (sl (encL l)) (encL l).length u (hS (rowN r2 m2 (i + 1)) (cfL k (l.take (i + 1)) 0 u (rootF k ix u s))) (m2 + (i + 1)) (Int.ofNat (i + 1))).toA Tryz.f142.ntmps)
    (fun e s' => e = .exit 0 /\ s' = (stCX k nm ix (sl (encL l)) (encL l).length u (hS (rowN r2 m2 l.length) (cfL k l 0 u (rootF k ix u s))) (m2 + l.length) (Int.ofNat (encL l).length)).toA Tryz.f142.ntmps)) hx hi ht hbi hcf (by
     rw [hx, wrap_of (by omega), cfL_take ht]
     rfl)
   rw [hx]
   rw [hx] at e
   exact e
  refine col_last ⟨rfl, ?_⟩
  rw [encL_length, List.take_length]
 exact col_enter rfl rfl hH2.1 hH2.2 hl
mutual
theorem c_collect : ∀ (t : Ty) (u : Nat) {b : Nat} {s : List Int}, okSet b s -> b + t.size < 1000000000 -> u + t.depth < 1000000000 -> t.ixOk -> CF t u s
 | .mk k nm ix l, u, b, s, hs, hb, hu, hx => by
  simp only [Ty.size] at hb
  simp only [Ty.depth] at hu
  simp only [Ty.ixOk] at hx
  exact col_all hs (by omega) (by omega) hx.1 (c_collectL l u (by omega) (by omega) hx.2)
theorem c_collectL : ∀ (l : List Ty) (u : Nat) {B : Nat}, u + depthL l + 1 < 1000000000 -> B < 1000000000 -> ixOkL l -> ∀ t ∈ l, ∀ v s2, v <= u + 1 -> okSet B s2 -> (∃ b2, okSet b2 s2 /\ b2 + t.size <= B) -> CF t v s2
 | [], u, B, hu, _, hx, t, ht, _, _, _, _, _ => by simp at ht
 | y :: r, u, B, hu, hB, hx, t, ht, v, s2, hv, h1, h2 => by
  simp only [depthL] at hu
  simp only [ixOkL] at hx
  rcases List.mem_cons.1 ht with h3 | ht
  ·obtain ⟨b2, h4, h5⟩ := h2
   rw [h3] at h5 ⊢
   exact c_collect y v h4 (by omega) (by omega) hx.1
  exact c_collectL r u (by omega) hB hx.2 t ht v s2 hv h1 h2
end
/-! ### FreeVars -/
theorem free_run {k : Int} {nm : List UInt8} {ix : Int} {l : List Dat} {s : List Int} (h : KC 142 [.dat (.agg [i64 k, sb nm, i64 ix, sl l]), iv (Int.ofNat 0), sP] [(.out 0, .cells [.dat nl])] 1 (XQ ⟨.tup [], hS 1 s, 2⟩)) :
  KC 119 [.dat (.agg [i64 k, sb nm, i64 ix, sl l])] [] 0 (XQ (match s with | [] => ⟨.dat nl, hS 1 [], 2⟩ | x :: r => ⟨.win (.out 1) 1 0 (x :: r).length, hS 1 (x :: r), 2⟩)) := by
 rcases l with _ | ⟨y, l⟩ <;>
 ·cases s with
  | nil =>
   refine call_of0 [] [] (x := XFn.of Tryz.f119 ord119 live119) (by kernel_rfl) ?_; refine oh h ?_; exact fi
  | cons x r =>
   refine call_of0 [] [] (x := XFn.of Tryz.f119 ord119 live119) (by kernel_rfl) ?_; refine oh h ?_; exact fi
def iN (x : Int) : Dat := .flat (.int .i64 x)
def Ty.fv (t : Ty) : List Int := t.cf 0 []
theorem fv_set {t : Ty} : okSet (0 + t.size) t.fv := cf_ok t 0 ⟨List.Pairwise.nil, Nat.le_refl _⟩
theorem c_FreeVars {t : Ty} (hs : t.size < 400000000) (hx : t.ixOk) : Calls1 119 [.dat t.enc] (.dat (sl (t.fv.map iN))) := by
 have h1 := c_collect t 0 (s := []) ⟨List.Pairwise.nil, Nat.le_refl 0⟩ (by omega) (by have := depth_size t; omega) hx 1 1 (by decide) (by decide)
 have h2 := fv_set (t := t)
 unfold Ty.fv at h2 ⊢
 generalize t.cf 0 [] = s at h1 h2
 obtain ⟨k, nm, ix, l⟩ := t
 have h3 := free_run h1
 cases s with
 | nil =>
  refine ACalls.rn h3 ?_
  rintro v hp m ⟨rfl, rfl, rfl⟩
  exact ⟨[], rfl, rfl, rfl, rfl, rfl⟩
 | cons x r => exact ACalls.freeze0 h3 (by have := h2.2; simp only [lim]; omega)
def firstClosed : List Ty -> Bool
 | t :: _ => t.closed 0
 | [] => false
def nodeOk (k : Int) (nm : List UInt8) (ix : Int) (l : List Ty) : Bool :=
 if (!eqF k 2 && !eqB nm []) = true then false
 else if (!eqF k 5 && !eqF ix 0) = true then false
 else if (eqF k 0 || eqF k 1) = true then eqF (Int.ofNat (encL l).length) 0
 else if eqF k 2 = true then isIdent nm && (!isResv nm && (!ltF 6 (Int.ofNat (encL l).length) && !anyNP l))
 else if eqF k 3 = true then !ltF 6 (Int.ofNat (encL l).length)
 else if eqF k 4 = true then !ltF (Int.ofNat (encL l).length) 2
 else if eqF k 5 = true then eqF (Int.ofNat (encL l).length) 0 && (!ltF ix 0 && !ltF 200 ix)
 else if eqF k 6 = true then eqF (Int.ofNat (encL l).length) 2 && firstClosed l
 else false
theorem c_validNode {k : Int} {nm : List UInt8} {ix : Int} {l : List Ty} (hp : ∀ t ∈ l, Calls1 117 [.dat t.enc] (bv t.plain)) (hcl : ∀ t ∈ l, Calls1 139 [.dat t.enc, iv (Int.ofNat 0)] (bv (t.closed 0)))
  (hb : l.length < 1000000000) : Calls1 167 [.dat (Ty.mk k nm ix l).enc] (bv (nodeOk k nm ix l)) := by
 have hid := c_isIdent nm
 have hrs := c_containsS nm
 have hpa := c_plainArgs (k := k) (nm := nm) (ix := ix) hp hb
 have hfc : ∀ t r, l = t :: r -> Calls1 139 [.dat t.enc, iv (Int.ofNat 0)] (bv (firstClosed l)) := by
  rintro t r rfl
  exact hcl t (by simp)
 unfold nodeOk
 generalize firstClosed l = fc at hfc
 generalize isIdent nm = ci at hid
 generalize isResv nm = cr at hrs
 generalize anyNP l = cp at hpa
 generalize h0 : eqF k 0 = c0
 generalize h1 : eqF k 1 = c1
 generalize h2 : eqF k 2 = c2
 generalize h3 : eqF k 3 = c3
 generalize h4 : eqF k 4 = c4
 generalize h5 : eqF k 5 = c5
 generalize h6 : eqF k 6 = c6
 generalize hn : eqB nm [] = cn
 generalize hx : eqF ix 0 = cx
 generalize hl6 : ltF 6 (Int.ofNat (encL l).length) = l6
 generalize hl2 : ltF (Int.ofNat (encL l).length) 2 = l2
 generalize he0 : eqF (Int.ofNat (encL l).length) 0 = e0
 generalize he2 : eqF (Int.ofNat (encL l).length) 2 = e2
 generalize hx0 : ltF ix 0 = x0
 generalize hx2 : ltF 200 ix = x2
 clear hp hcl hb
 rcases l with _ | ⟨t, r⟩ <;>
 ·refine co [5, 9, 14, 18, 24, 25, 31, 53, 59, 65, 81, 29, 46, 57, 63, 69, 73, 78, 85] [89] (x := .of Tryz.f167 ord167 live167) ?_; refine ok_bool (b := !c2) (c := !eqF k 2) (by rw [h2]) (by kernel_rfl) ?_
  cases c2
  ·refine ok_bool (b := !cn) (c := !eqB nm []) (by rw [hn]) (by kernel_rfl) ?_
   cases cn with
   | false => exact fi
   | true =>
    refine ok_bool (b := !c5) (c := !eqF k 5) (by rw [h5]) (by kernel_rfl) ?_
    cases c5
    ·refine ok_bool (b := !cx) (c := !eqF ix 0) (by rw [hx]) (by kernel_rfl) ?_
     cases cx with
     | false => exact fi
     | true =>
      refine ob h0 ?_
      cases c0
      ·refine ob h1 ?_
       cases c1
       ·refine ob h2 ?_; refine ob h3 ?_
        cases c3
        ·refine ob h4 ?_
         cases c4
         ·refine ob h5 ?_; refine ob h6 ?_
          cases c6 with
          | false => exact fi
          | true =>
           refine ob he2 ?_
           cases e2 with
           | false => exact fi
           | true =>
            first
            |exact absurd he2 (by decide)
            |have hc := hfc _ _ rfl
             have hidx := idxT (l := t :: r) (i := 0) (t := t) rfl
             obtain ⟨k2, nm2, ix2, a2⟩ := t
             rcases a2 with _ | ⟨b, d⟩ <;>
             ·refine oo hidx ?_; refine on hc ?_
              cases fc <;> exact fi
         refine ok_bool (b := !l2) (c := !ltF _ 2) (by rw [hl2]) (by kernel_rfl) ?_
         cases l2 <;> exact fi
        refine ok_bool (b := !l6) (c := !ltF 6 _) (by rw [hl6]) (by kernel_rfl) ?_
        cases l6 <;> exact fi
       refine ob he0 ?_
       cases e0 <;> exact fi
      refine ob he0 ?_
      cases e0 <;> exact fi
    refine ob h0 ?_
    cases c0
    ·refine ob h1 ?_
     cases c1
     ·refine ob h2 ?_; refine ob h3 ?_
      cases c3
      ·refine ob h4 ?_
       cases c4
       ·refine ob h5 ?_; refine ob he0 ?_
        cases e0 with
        | false => exact fi
        | true =>
         refine ok_bool (b := !x0) (c := !ltF ix 0) (by rw [hx0]) (by kernel_rfl) ?_
         cases x0
         ·refine ok_bool (b := !x2) (c := !ltF 200 ix) (by rw [hx2]) (by kernel_rfl) ?_
          cases x2 <;> exact fi
         exact fi
       exact absurd h4 (by rw [eqF_eq] at h5 ⊢; simp at h5 ⊢; omega)
      exact absurd h3 (by rw [eqF_eq] at h5 ⊢; simp at h5 ⊢; omega)
     exact absurd h1 (by rw [eqF_eq] at h5 ⊢; simp at h5 ⊢; omega)
    exact absurd h0 (by rw [eqF_eq] at h5 ⊢; simp at h5 ⊢; omega)
  refine ok_bool (b := !c5) (c := !eqF k 5) (by rw [h5]) (by kernel_rfl) ?_
  cases c5
  ·refine ok_bool (b := !cx) (c := !eqF ix 0) (by rw [hx]) (by kernel_rfl) ?_
   cases cx with
   | false => exact fi
   | true =>
    refine ob h0 ?_
    cases c0
    ·refine ob h1 ?_
     cases c1
     ·refine ob h2 ?_; refine on hid ?_
      cases ci with
      | false => exact fi
      | true =>
       refine on hrs ?_
       cases cr
       ·refine ok_bool (b := !l6) (c := !ltF 6 _) (by rw [hl6]) (by kernel_rfl) ?_
        cases l6
        ·refine on hpa ?_
         cases cp <;> exact fi
        exact fi
       exact fi
     exact absurd h1 (by rw [eqF_eq] at h2 ⊢; simp at h2 ⊢; omega)
    exact absurd h0 (by rw [eqF_eq] at h2 ⊢; simp at h2 ⊢; omega)
  exact absurd h5 (by rw [eqF_eq] at h2 ⊢; simp at h2 ⊢; omega)
mutual
def Ty.valid : Ty -> Bool
 | .mk k nm ix l => nodeOk k nm ix l && !anyNV l
def anyNV : List Ty -> Bool
 | [] => false
 | t :: r => !t.valid || anyNV r
end
theorem anyNV_any : ∀ l : List Ty, anyNV l = l.any (fun t => !t.valid)
 | [] => by simp [anyNV]
 | t :: r => by simp [anyNV, anyNV_any r]
theorem valid_step {k : Int} {nm : List UInt8} {ix : Int} {l : List Ty} (hv : ∀ t ∈ l, Calls1 138 [.dat t.enc] (bv t.valid)) (hs : (Ty.mk k nm ix l).size < 1000000000) : Calls1 138 [.dat (Ty.mk k nm ix l).enc] (bv (Ty.mk k nm ix l).valid) := by
 have hsz : sizeL l < 1000000000 := by simp only [Ty.size] at hs; omega
 have hb : l.length < 1000000000 := by have := len_size l; omega
 have hdp := depth_sizeL l
 have h1 := c_validNode (k := k) (nm := nm) (ix := ix) (c_plainL l hsz) (c_closedL l 0 hsz (by omega)) hb
 have h2 : ∀ t ∈ l, Calls1 168 [.dat t.enc] (bv (!t.valid)) := by
  intro t ht
  have hc := hv t ht
  generalize t.valid = c at hc
  obtain ⟨k2, nm2, ix2, a2⟩ := t
  rcases a2 with _ | ⟨b, d⟩ <;> cases c <;>
  ·refine co [] [] (x := .of Tryz.f168 ord168 live168) ?_; refine on hc ?_; exact fi
 have h3 := anyvalidNodesF h2 hb
 rw [Ty.valid, anyNV_any]
 generalize l.any (fun t => !t.valid) = ca at h3
 generalize nodeOk k nm ix l = cn at h1
 clear hv hs hsz hb hdp h2
 rcases l with _ | ⟨b, d⟩ <;>
 ·refine co [] [] (x := .of Tryz.f138 ord138 live138) ?_; refine on h1 ?_
  cases cn with
  | false => exact fi
  | true =>
   refine on h3 ?_
   cases ca <;> exact fi
mutual
theorem c_valid : ∀ t : Ty, t.size < 1000000000 -> Calls1 138 [.dat t.enc] (bv t.valid)
 | .mk k nm ix l, h => valid_step (c_validL l (by simp only [Ty.size] at h; omega)) h
theorem c_validL : ∀ l : List Ty, sizeL l < 1000000000 -> ∀ t ∈ l, Calls1 138 [.dat t.enc] (bv t.valid)
 | [], _, t, ht => by simp at ht
 | x :: r, h, t, ht => by
  simp only [sizeL] at h
  rcases List.mem_cons.1 ht with h1 | ht
  ·rw [h1]; exact c_valid x (by omega)
  exact c_validL r (by omega) t ht
end
/-- What Validate answers. -/
def Ty.validate (t : Ty) : Int := match ltF 200 (Int.ofNat t.size) || ltF 12 (Int.ofNat t.depth) with | true => 4 | false => (match t.valid with | true => 0 | false => 2)
theorem c_validate (t : Ty) (h : t.size < 1000000000) : Calls1 116 [.dat t.enc] (iv t.validate) := by
 have h1 := c_size t h
 have h2 := c_depth t h
 have h3 := c_valid t h
 unfold Ty.validate
 generalize hs : t.size = n at h1 h
 generalize t.depth = m at h2
 generalize t.valid = c at h3
 generalize hn : ltF 200 (Int.ofNat n) = cn
 generalize hm : ltF 12 (Int.ofNat m) = cm
 clear hs h
 obtain ⟨k2, nm2, ix2, a2⟩ := t
 rcases a2 with _ | ⟨b, d⟩ <;>
 ·refine co [6, 10] [] (x := .of Tryz.f116 ord116 live116) ?_; refine on h1 ?_; refine ob hn ?_
  cases cn
  ·refine on h2 ?_; refine ob hm ?_
   cases cm
   ·refine on h3 ?_
    cases c <;> exact fi
   exact fi
  exact fi
noncomputable def tiI : TI := match Go.Tp.elemOf (env Prims.fast) 22 with | some t => t | none => default
theorem tiI_eq : Go.Tp.elemOf (env Prims.fast) 22 = some tiI := by kernel_rfl
theorem tiI_size : tiI.size = 1 := by kernel_rfl
theorem idxI {l : List Int} {i : Nat} {t : Int} (h : l[i]? = some t) : aIndexAddr (env Prims.fast) 22 [.dat (.slice (l.map iN)), .dat (.flat (.int .i64 (Int.ofNat i)))] = some ⟨.ref [iN t], .keep⟩ :=
 ans_idx (d := iN t) tiI_eq rfl (by rw [List.getElem?_map, h]; rfl) (by rw [tiI_size]; rfl) (by rw [tiI_size]; decide)
theorem c_overF {x ar : Int} : Calls1 120 [iv x, .ref [iN ar]] (bv (!ltF x ar)) := by
 generalize h : ltF x ar = c
 refine co [6] [] (x := .of Tryz.f120 ord120 live120) ?_; refine ox h ?_
 cases c <;>
 ·exact fi
def fnO (ar : Int) : AVal := .fn (.func 120) [] [.ref [iN ar]]
noncomputable def hIxI : Hints := ⟨xmoves, ord141, xcaps, rowsOf xcaps 141⟩
def stO (ar : Int) (a : Dat) (n : Nat) (i : Int) : FState := ⟨[(8, iv i), (7, iv (Int.ofNat n)), (0, .dat a), (1, fnO ar)], [], [], 0⟩
def stOX (ar : Int) (a : Dat) (n : Nat) : FState := ⟨[(9, bv false), (8, iv (Int.ofNat n)), (7, iv (Int.ofNat n)), (0, .dat a), (1, fnO ar)], [], [], 0⟩
def stOR (i : Nat) : FState := ⟨[(4, iv (Int.ofNat i))], [], [], 0⟩
theorem over_round {l : List Int} {x ar : Int} {i : Nat} {c : Bool} {T : Exit -> AState -> Prop} (hi : i < (l.map iN).length) (ht : l[i]? = some x) (hc : Calls1 120 [iv x, .ref [iN ar]] (bv c))
  (e1 : c = false -> T .normal ((stO ar (.slice (l.map iN)) (l.map iN).length (wrapF .i64 (Int.ofNat i + 1))).toA Tryz.f141.ntmps)) (e2 : c = true -> T .ret ((stOR i).toA Tryz.f141.ntmps)) :
  KD (roundOf Tryz.f141 0) T ((stO ar (.slice (l.map iN)) (l.map iN).length (Int.ofNat i)).toA Tryz.f141.ntmps) := by
 have h1 := ltF_yes hi
 have h2 := idxI ht
 generalize l.map iN = es at *
 clear ht hi
 cases c
 ·refine run_of [9] [14] (H := hIxI) (live := live141) (by kernel_rfl) ?_; refine ob h1 ?_; refine oo h2 ?_; refine on hc ?_; exact oe (e1 rfl)
 refine run_of [9] [14] (H := hIxI) (live := live141) (by kernel_rfl) ?_; refine ob h1 ?_; refine oo h2 ?_; refine on hc ?_; exact oe (e2 rfl)
theorem over_end {ar : Int} {a : Dat} {n : Nat} {T : Exit -> AState -> Prop} (e1 : T (.exit 0) ((stOX ar a n).toA Tryz.f141.ntmps)) :
  KD (roundOf Tryz.f141 0) T ((stO ar a n (Int.ofNat n)).toA Tryz.f141.ntmps) := by
 have h1 := ltF_no (i := n) (L := n) (by omega)
 refine run_of [9] [] (H := hIxI) (live := live141) (by kernel_rfl) ?_; refine ob h1 ?_; exact oe e1
theorem over_ix {l : List Int} {ar : Int} (hb : l.length < 1000000000) : Calls1 141 [.dat (sl (l.map iN)), fnO ar] (iv (ix0 (fun x => !ltF x ar) l 0)) := by
 have hl : ∀ a, a = sl (l.map iN) -> KD (.loop (roundOf Tryz.f141 0)) (fun e s => (e = .exit 0 /\ ix0 (fun x => !ltF x ar) l 0 = -1 /\ s = (stOX ar a (l.map iN).length).toA Tryz.f141.ntmps) ∨ (e = .ret /\ ∃ i : Nat, ix0 (fun x => !ltF x ar) l 0 = Int.ofNat i /\ s = (stOR i).toA Tryz.f141.ntmps)) ((stO ar a (l.map iN).length (Int.ofNat 0)).toA Tryz.f141.ntmps) := by
  intro a ha
  refine loop_inv (St := fun i => (stO ar a (l.map iN).length (Int.ofNat i)).toA Tryz.f141.ntmps) (fun i => ix0 (fun x => !ltF x ar) l 0 = ix0 (fun x => !ltF x ar) (l.drop i) i) (l.map iN).length ?_ ?_ (i := 0) (Nat.zero_le _) rfl
  ·intro i hi hI
   have hi2 := hi
   rw [List.length_map] at hi2
   have ht : l[i]? = some l[i] := List.getElem?_eq_getElem hi2
   generalize l[i] = t at ht
   have hd := ix0_drop (p := fun x => !ltF x ar) ht
   have hw : wrapF .i64 (Int.ofNat i + 1) = Int.ofNat (i + 1) := wrap_of (by omega)
   rw [← hI] at hd
   have ha2 : a = .slice (l.map iN) := by
    rw [ha]
    cases l with
    | nil => simp at ht
    | cons x r => rfl
   subst ha2
   have hc := c_overF (x := t) (ar := ar)
   generalize (!ltF t ar) = c at hc hd
   refine over_round hi ht hc ?_ ?_
   ·rintro rfl
    rw [hw]
    exact ⟨rfl, hd⟩
   rintro rfl
   exact .inr ⟨rfl, i, hd, rfl⟩
  intro hI
  refine over_end (.inl ⟨rfl, ?_, rfl⟩)
  rw [hI, List.length_map, List.drop_length]
  rfl
 have hl := hl _ rfl
 clear hb
 generalize hj : ix0 (fun x => !ltF x ar) l 0 = j at hl
 clear hj
 generalize l.map iN = es at *
 rcases es with _ | ⟨x, es⟩ <;>
 ·refine co [] [] (x := .of Tryz.f141 ord141 live141) ?_; refine lo hl ?_
  rintro ex s (⟨rfl, rfl, rfl⟩ | ⟨rfl, ⟨x0, rfl, rfl⟩⟩) <;>
  ·refine ⟨_, rfl, ?_⟩; exact fi
theorem over_any {l : List Int} {ar : Int} (hb : l.length < 1000000000) : Calls1 118 [.dat (sl (l.map iN)), fnO ar] (bv (l.any (fun x => !ltF x ar))) := by
 have h := over_ix (ar := ar) hb
 have h3 := ix0_lt (p := fun x => !ltF x ar) (l := l) (i := 0)
 generalize ix0 (fun x => !ltF x ar) l 0 = j at h h3
 have e : l.any (fun x => !ltF x ar) = !(!(l.any (fun x => !ltF x ar))) := by rw [Bool.not_not]
 rw [e]
 generalize l.any (fun x => !ltF x ar) = c at h3
 generalize l.map iN = es at *
 clear hb e
 rcases es with _ | ⟨x, es⟩ <;>
 ·refine co [8] [] (x := .of Tryz.f118 ord118 live118) ?_; refine on h ?_; refine ox h3 ?_; exact fi
theorem plainO_of {k : Int} {nm : List UInt8} {ix ar v : Int} {l fv : List Dat} {c1 c2 c3 : Bool} (h1 : Calls1 116 [.dat (.agg [i64 k, sb nm, i64 ix, sl l])] (iv v)) (hv : eqF v 0 = c1) (h2 : Calls1 117 [.dat (.agg [i64 k, sb nm, i64 ix, sl l])] (bv c2))
 (h3 : Calls1 119 [.dat (.agg [i64 k, sb nm, i64 ix, sl l])] (.dat (sl fv))) (h4 : Calls1 118 [.dat (sl fv), fnO ar] (bv c3)) : Calls1 89 [.dat (.agg [i64 k, sb nm, i64 ix, sl l]), iv ar] (bv (c1 && (c2 && !c3))) := by
 rcases l with _ | ⟨x, l⟩ <;>
 ·rcases fv with _ | ⟨y, fv⟩ <;>
  ·refine co [7] [] (x := .of Tryz.f89 ord89 live89) ?_; refine on h1 ?_; refine ob hv ?_
   cases c1
   ·exact fi
   refine on h2 ?_
   cases c2
   ·exact fi
   refine on h3 ?_; refine on h4 ?_; exact fi
def Ty.over (t : Ty) (ar : Int) : Bool := eqF t.validate 0 && (t.plain && !(t.fv.any (fun x => !ltF x ar)))
theorem c_plainOver {t : Ty} {ar : Int} (h : t.fine) : Calls1 89 [.dat t.enc, iv ar] (bv (t.over ar)) := by
 have hs := h.1
 have h1 := c_validate t (by omega)
 have h2 := c_plain t (by omega)
 have h3 := c_FreeVars (by omega) h.2
 have h4 := over_any (l := t.fv) (ar := ar) (by have := (fv_set (t := t)).2; omega)
 obtain ⟨k, nm, ix, l⟩ := t
 exact plainO_of h1 rfl h2 h3 h4
def modR (c : Bool) (r m : Int) : Int := match c with | true => wrapF .i64 (r + m) | false => r
theorem rem_ans {n m : Int} (h : eqF m 0 = false) : aBin (env Prims.fast) .rem 3 [iv n, iv m] = some ⟨iv (n.tmod m), .keep⟩ := by
 have h1 : aBin (env Prims.fast) .rem 3 [iv n, iv m] = ofV (if eqF m 0 = true then none else some (.int .i64 (n.tmod m))) := by kernel_rfl
 rw [h1, h]
 rfl
theorem mod_of {n m : Int} {c : Bool} (h1 : aBin (env Prims.fast) .rem 3 [iv n, iv m] = some ⟨iv (n.tmod m), .keep⟩) (h2 : ltF (n.tmod m) 0 = c) : Calls1 13 [iv n, iv m] (iv (modR c (n.tmod m) m)) := by
 refine co [9] [7] (x := .of Tryz.f13 ord13 live13) ?_; refine oo h1 ?_; refine ob h2 ?_
 cases c <;>
 ·exact fi
theorem g_mod (n : Int) {m : Nat} (hm : 0 < m) (hb : m < 1000000000) : Calls1 13 [iv n, iv (Int.ofNat m)] (iv (n % Int.ofNat m)) := by
 have h := mod_of (n := n) (m := Int.ofNat m) (rem_ans (by rw [eqF_eq, beq_eq_false_iff_ne]; intro h; have := Int.ofNat.inj (h.trans (show (0 : Int) = Int.ofNat 0 from rfl)); omega)) rfl
 have e : modR (ltF (n.tmod (Int.ofNat m)) 0) (n.tmod (Int.ofNat m)) (Int.ofNat m) = n % Int.ofNat m := by
  have h0 : (0 : Int) < Int.ofNat m := by simp; omega
  have h1 := Int.emod_nonneg n (show Int.ofNat m ≠ 0 by omega)
  have h2 := Int.emod_lt_of_pos n h0
  have h3 : Int.ofNat m < 1000000000 := by simp; omega
  rw [ltF_eq]
  have ht := Int.tmod_eq_emod (a := n) (b := Int.ofNat m)
  generalize Int.ofNat m = M at *
  generalize n % M = q at *
  rw [ht]
  unfold modR
  split at ht
  ·rename_i hc
   rw [if_pos hc, show ((0 : Nat) : Int) = 0 from rfl, Int.sub_zero]
   rw [decide_eq_false (by omega)]
  rename_i hc
  rw [if_neg hc]
  have hM : (M.natAbs : Int) = M := by omega
  rw [hM]
  rw [decide_eq_true (by omega)]
  dsimp only
  rw [wrapF_eq, wrap_i64 (by omega) (by omega)]
  omega
 rw [e] at h
 exact h
/-- The stream: the list and the place. -/
def hSt (l : List Dat) (k : Int) : Heap := [(.out 0, .cells [.dat (.slice l), iv k])]
def stP0 : AVal := .ptr (.out 0) 0
theorem g_New {l : List Dat} : KC 15 [.dat (.slice l)] [] 0 (XQ ⟨stP0, hSt l 0, 1⟩) := by
 refine co [] [] (x := .of Tryz.f15 ord15 live15) ?_; exact fi
theorem next_of {l : List Dat} {k n x r : Int} {c : Bool} (h1 : ltF k (Int.ofNat l.length) = c) (h2 : c = true -> aIndexAddr (env Prims.fast) 22 [.dat (.slice l), .dat (.flat (.int .i64 (wrapF .i64 (wrapF .i64 (k + 1) - 1))))] = some ⟨.ref [iN x], .keep⟩) (h3 : Calls1 13 [iv x, iv n] (iv r)) :
  KC 64 [stP0, iv n] (hSt l k) 1 (XQ ⟨iv (match c with | true => r | false => 0), hSt l (match c with | true => wrapF .i64 (k + 1) | false => k), 1⟩) := by
 refine co [14] [31] (x := .of Tryz.f64 ord64 live64) ?_; refine ox h1 ?_
 cases c
 ·exact fi
 refine oo (h2 rfl) ?_; refine on h3 ?_; exact fi
/-- Next: a number below n, the stream a place further. -/
theorem g_Next {l : List Int} {k : Nat} {n : Nat} (hl : l.length < 1000000000) (hk0 : k <= l.length) (hn : 0 < n) (hb : n < 1000000000) :
  ∃ r k2 : Nat, (r < n /\ k <= k2 /\ k2 <= l.length /\ (0 < r -> k < k2)) /\ KC 64 [stP0, iv (Int.ofNat n)] (hSt (l.map iN) (Int.ofNat k)) 1 (XQ ⟨iv (Int.ofNat r), hSt (l.map iN) (Int.ofNat k2), 1⟩) := by
 by_cases hk : k < l.length
 ·have hg : l[k]? = some l[k] := List.getElem?_eq_getElem hk
  have hw : wrapF .i64 (Int.ofNat k + 1) = Int.ofNat (k + 1) := wrap_of (by omega)
  have hw2 : wrapF .i64 (Int.ofNat (k + 1) - 1) = Int.ofNat k := by
   rw [wrapF_eq, show Int.ofNat (k + 1) - 1 = Int.ofNat k by simp]
   exact wrap_i64 (by show _ <= (k : Int); omega) (by show (k : Int) <= _; omega)
  have h0 := Int.emod_nonneg l[k] (show Int.ofNat n ≠ 0 from fun h => absurd (Int.ofNat.inj (h.trans (show (0 : Int) = Int.ofNat 0 from rfl))) (by omega))
  have h2 := Int.emod_lt_of_pos l[k] (show (0 : Int) < Int.ofNat n from Int.ofNat_lt.2 hn)
  refine ⟨(l[k] % Int.ofNat n).toNat, k + 1, ⟨(Int.toNat_lt h0).2 h2, by omega, by omega, fun _ => by omega⟩, ?_⟩
  have h := next_of (l := l.map iN) (k := Int.ofNat k) (x := l[k]) (n := Int.ofNat n) (r := l[k] % Int.ofNat n) (c := true) (by rw [ltF_of, List.length_map, decide_eq_true hk]) (fun _ => by rw [hw, hw2]; exact idxI hg) (g_mod _ hn hb)
  dsimp only at h
  rw [hw] at h
  rw [show Int.ofNat (l[k] % Int.ofNat n).toNat = l[k] % Int.ofNat n from Int.toNat_of_nonneg h0]
  exact h
 refine ⟨0, k, ⟨hn, by omega, by omega, fun h => by omega⟩, ?_⟩
 exact next_of (l := l.map iN) (k := Int.ofNat k) (x := 0) (n := Int.ofNat n) (r := 0) (c := false) (by rw [ltF_of, List.length_map, decide_eq_false hk]) (fun h => by simp at h) (by have := g_mod 0 hn hb; rw [Int.zero_emod] at this; exact this)
def seenE : List Fld -> List (Go.Value × Dat)
 | [] => []
 | f :: r => (.string ⟨⟨f.nm⟩⟩, bl true) :: seenE r
theorem seenE_app (b : List Fld) : ∀ a : List Fld, seenE (a ++ b) = seenE a ++ seenE b
 | [] => rfl
 | x :: r => by simp only [List.cons_append, seenE, seenE_app b r]
def seenB : List Fld -> List UInt8 -> Bool
 | [], _ => false
 | f :: r, nm => match eqB nm f.nm with | true => true | false => seenB r nm
theorem findF_seen : ∀ (l : List Fld) (nm : List UInt8) (j : Nat), findF .string (.string ⟨⟨nm⟩⟩) (seenE l) j = some (match seenB l nm with | true => some (match findF .string (.string ⟨⟨nm⟩⟩) (seenE l) j with | some (some (i, _)) => i | _ => 0, bl true) | false => none)
 | [], nm, j => rfl
 | d :: r, nm, j => by
  have e : findF .string (.string ⟨⟨nm⟩⟩) (seenE (d :: r)) j = (match sameF .string (.string ⟨⟨nm⟩⟩) (.string ⟨⟨d.nm⟩⟩) with | some true => some (some (j, bl true)) | some false => findF .string (.string ⟨⟨nm⟩⟩) (seenE r) (j + 1) | none => none) := rfl
  rw [e, show sameF .string (.string ⟨⟨nm⟩⟩) (.string ⟨⟨d.nm⟩⟩) = some (eqB nm d.nm) from rfl]
  unfold seenB
  cases he : eqB nm d.nm with
  | true => rfl
  | false => exact findF_seen r nm (j + 1)
theorem look_seen (l : List Fld) (nm : List UInt8) : aLookup (env Prims.fast) 97 false [.map (.loc 50), .dat (sb nm)] (some (.map (seenE l))) = some ⟨bv (seenB l nm), .keep⟩ := by
 have h1 : aLookup (env Prims.fast) 97 false [.map (.loc 50), .dat (sb nm)] (some (.map (seenE l))) = (match findF .string (.string ⟨⟨nm⟩⟩) (seenE l) 0 with
  | some (some (_, d)) => some ⟨.dat d, .keep⟩ | some none => some ⟨bv false, .keep⟩ | none => none) := by kernel_rfl
 rw [h1, findF_seen]
 cases seenB l nm <;> rfl
theorem put_seen {l : List Fld} {f : Fld} (h : seenB l f.nm = false) : aMapUpdate (env Prims.fast) 97 [.map (.loc 50), .dat (sb f.nm), bv true] (some (.map (seenE l))) = some ⟨.undef, .set (.map (seenE (l ++ [f])))⟩ := by
 have h1 : aMapUpdate (env Prims.fast) 97 [.map (.loc 50), .dat (sb f.nm), bv true] (some (.map (seenE l))) = (match findF .string (.string ⟨⟨f.nm⟩⟩) (seenE l) 0 with
  | some (some (i, _)) => some ⟨.undef, .set (.map (setAt i (bl true) (seenE l)))⟩ | some none => some ⟨.undef, .set (.map (seenE l ++ [(.string ⟨⟨f.nm⟩⟩, bl true)]))⟩ | none => none) := by kernel_rfl
 rw [h1, findF_seen, h, seenE_app]
 rfl
noncomputable def hWell : Hints := ⟨xmoves, ord50, xcaps, rowsOf xcaps 50⟩
def loW (es : List (Go.Value × Dat)) (nm : List UInt8) (ar k : Int) (nm2 : List UInt8) (ix : Int) (a : Dat) (con : Bool) (b : Dat) : Heap := [(.loc 50, .map es), (.loc 1, .cells [.dat (sb nm), iv ar, iv k, .dat (sb nm2), iv ix, .dat a, .dat (bl con), .dat b])]
def stW (lo : Heap) (b : Dat) (n : Nat) (i : Int) : FState := ⟨[(54, iv i), (53, iv (Int.ofNat n)), (52, .dat b), (3, .map (.loc 50)), (1, .ptr (.loc 1) 0)], lo, [], 0⟩
def stWX (lo : Heap) (b : Dat) (n : Nat) (i : Int) : FState := ⟨[(55, bv false), (54, iv i), (53, iv (Int.ofNat n)), (52, .dat b), (3, .map (.loc 50)), (1, .ptr (.loc 1) 0)], lo, [], 0⟩
def stWR (c : Bool) : FState := ⟨[(2, bv c)], [], [], 0⟩
theorem well_round {nm : List UInt8} {ar k : Int} {nm2 : List UInt8} {ix : Int} {la : List Dat} {con : Bool} {l pre : List Fld} {f : Fld} {i : Nat} {c1 c2 c3 : Bool} {T : Exit -> AState -> Prop} (hi : i < (encF l).length) (ht : l[i]? = some f)
  (h1 : Calls1 87 [.dat (sb f.nm)] (bv c1)) (hs : seenB pre f.nm = c2) (h2 : Calls1 89 [.dat f.ty.enc, iv ar] (bv c3))
  (e1 : (c1 && (!c2 && c3)) = true -> T .normal ((stW (loW (seenE (pre ++ [f])) nm ar k nm2 ix (sl la) con (.slice (encF l))) (.slice (encF l)) (encF l).length (wrapF .i64 (Int.ofNat i + 1))).toA Tryz.f50.ntmps))
  (e2 : (c1 && (!c2 && c3)) = false -> T .ret ((stWR false).toA Tryz.f50.ntmps)) :
  KD (roundOf Tryz.f50 0) T ((stW (loW (seenE pre) nm ar k nm2 ix (sl la) con (.slice (encF l))) (.slice (encF l)) (encF l).length (Int.ofNat i)).toA Tryz.f50.ntmps) := by
 have g1 := ltF_yes hi
 have g2 := idxF ht
 have g3 := look_seen pre f.nm
 rw [hs] at g3
 have g4 : c2 = false -> aMapUpdate (env Prims.fast) 97 [.map (.loc 50), .dat (sb f.nm), bv true] (some (.map (seenE pre))) = some ⟨.undef, .set (.map (seenE (pre ++ [f])))⟩ := fun h => put_seen (by rw [hs, h])
 generalize seenE pre = es at *
 generalize seenE (pre ++ [f]) = es2 at *
 obtain ⟨fnm, fk, ftn, fix, fa⟩ := f
 generalize encF l = xs at *
 clear ht hi hs
 rcases la with _ | ⟨x, la⟩ <;>
 ·rcases fa with _ | ⟨z, fa⟩ <;>
  ·refine run_of [55] [56, 66, 100076] (H := hWell) (live := live50) (by kernel_rfl) ?_; refine ob g1 ?_; refine oo g2 ?_; refine on h1 ?_
   cases c1
   ·exact oe (e2 rfl)
   refine oo g3 ?_
   cases c2
   ·refine on h2 ?_
    cases c3
    ·exact oe (e2 rfl)
    refine oo (g4 rfl) ?_; exact oe (e1 rfl)
   exact oe (e2 rfl)
theorem well_last {es : List (Go.Value × Dat)} {nm : List UInt8} {ar k : Int} {nm2 : List UInt8} {ix : Int} {la : List Dat} {con : Bool} {b : Dat} {n : Nat} {T : Exit -> AState -> Prop}
  (e : T (.exit 0) ((stWX (loW es nm ar k nm2 ix (sl la) con b) b n (Int.ofNat n)).toA Tryz.f50.ntmps)) :
  KD (roundOf Tryz.f50 0) T ((stW (loW es nm ar k nm2 ix (sl la) con b) b n (Int.ofNat n)).toA Tryz.f50.ntmps) := by
 have h1 := ltF_no (i := n) (L := n) (by omega)
 refine run_of [55] [] (H := hWell) (live := live50) (by kernel_rfl) ?_; refine ob h1 ?_; exact oe e
def wfL (ar : Int) : List Fld -> List Fld -> Bool
 | _, [] => true
 | pre, f :: r => (isIdent f.nm && (!seenB pre f.nm && f.ty.over ar)) && wfL ar (pre ++ [f]) r
theorem wfL_drop {ar : Int} {l : List Fld} {i : Nat} {f : Fld} (h : l[i]? = some f) : wfL ar (l.take i) (l.drop i) = ((isIdent f.nm && (!seenB (l.take i) f.nm && f.ty.over ar)) && wfL ar (l.take (i + 1)) (l.drop (i + 1))) := by
 rw [dropA_get h, take_get h]
 rfl
theorem well_loop {nm : List UInt8} {ar k : Int} {nm2 : List UInt8} {ix : Int} {la : List Dat} {con : Bool} {l : List Fld} {b : Dat} (hb : b = sl (encF l)) (hn : l.length < 1000000000) (hf : ∀ f ∈ l, f.ty.fine) :
  KD (.loop (roundOf Tryz.f50 0)) (fun e s => (e = .exit 0 /\ wfL ar [] l = true /\ s = (stWX (loW (seenE l) nm ar k nm2 ix (sl la) con b) b (encF l).length (Int.ofNat (encF l).length)).toA Tryz.f50.ntmps) ∨ (e = .ret /\ wfL ar [] l = false /\ s = (stWR false).toA Tryz.f50.ntmps))
   ((stW (loW [] nm ar k nm2 ix (sl la) con b) b (encF l).length (Int.ofNat 0)).toA Tryz.f50.ntmps) := by
 refine loop_inv (St := fun i => (stW (loW (seenE (l.take i)) nm ar k nm2 ix (sl la) con b) b (encF l).length (Int.ofNat i)).toA Tryz.f50.ntmps) (fun i => wfL ar [] l = wfL ar (l.take i) (l.drop i)) (encF l).length ?_ ?_ (i := 0) (Nat.zero_le _) rfl
 ·intro i hi hI
  obtain ⟨f, ht, hm⟩ := getF_mem hi
  have hi2 := hi
  rw [encF_length] at hi2
  have hd := wfL_drop (ar := ar) ht
  rw [← hI] at hd
  have hw : wrapF .i64 (Int.ofNat i + 1) = Int.ofNat (i + 1) := wrap_of (by omega)
  have hb2 : b = .slice (encF l) := by
   rw [hb]
   cases l with
   | nil => simp at ht
   | cons x r => rfl
  subst hb2
  refine well_round hi ht (c_isIdent f.nm) rfl (c_plainOver (ar := ar) (hf f hm)) ?_ ?_
  ·intro h
   rw [h] at hd
   rw [hw, ← take_get ht]
   exact ⟨rfl, hd⟩
  intro h
  rw [h] at hd
  exact .inr ⟨rfl, hd, rfl⟩
 intro hI
 rw [encF_length, List.take_length, List.drop_length] at hI
 rw [encF_length, List.take_length]
 exact well_last (.inl ⟨rfl, hI, rfl⟩)
def lenP (l : List Dat) : Bool := match l with | [] => false | _ => true
theorem well_all {nm nm2 : List UInt8} {ar k ix : Int} {la lb : List Dat} {es : List (Go.Value × Dat)} {con c1 c2 c3 c4 c5 c6 c7 : Bool} (h1 : Calls1 87 [.dat (sb nm)] (bv c1)) (h2 : Calls1 88 [.dat (.slice (encS resv)), .dat (sb nm)] (bv c2)) (h3 : ltF ar 0 = c3)
  (h4 : eqF k 0 = c4) (h5 : eqF k 2 = c5) (h6 : Calls1 89 [.dat (.agg [i64 k, sb nm2, i64 ix, sl la]), iv ar] (bv c6))
  (h7 : KD (.loop (roundOf Tryz.f50 0)) (fun e s => (e = .exit 0 /\ c7 = true /\ s = (stWX (loW es nm ar k nm2 ix (sl la) con (sl lb)) (sl lb) lb.length (Int.ofNat lb.length)).toA Tryz.f50.ntmps) ∨ (e = .ret /\ c7 = false /\ s = (stWR false).toA Tryz.f50.ntmps))
   ((stW (loW [] nm ar k nm2 ix (sl la) con (sl lb)) (sl lb) lb.length (Int.ofNat 0)).toA Tryz.f50.ntmps)) :
  Calls1 50 [.dat (dRaw nm ar k nm2 ix la con lb)] (bv (c1 && (!c2 && (!c3 && (!(!con && lenP lb) && ((c4 || c5) && (c6 && c7))))))) := by
 rcases la with _ | ⟨x, la⟩ <;>
 ·rcases lb with _ | ⟨y, lb⟩
  ·refine co [19, 35, 40] [] (x := .of Tryz.f50 ord50 live50) ?_; refine on h1 ?_
   cases c1
   ·exact fi
   refine on h2 ?_
   cases c2
   ·refine ob h3 ?_
    cases c3
    ·cases con <;>
     ·refine ox h4 ?_
      cases c4
      ·refine ox h5 ?_
       cases c5
       ·exact fi
       refine on h6 ?_
       cases c6
       ·exact fi
       refine lo h7 ?_
       rintro ex s (⟨rfl, rfl, rfl⟩ | ⟨rfl, rfl, rfl⟩) <;>
       ·refine ⟨_, rfl, ?_⟩; exact fi
      refine on h6 ?_
      cases c6
      ·exact fi
      refine lo h7 ?_
      rintro ex s (⟨rfl, rfl, rfl⟩ | ⟨rfl, rfl, rfl⟩) <;>
      ·refine ⟨_, rfl, ?_⟩; exact fi
    exact fi
   exact fi
  refine co [19, 35, 40] [] (x := .of Tryz.f50 ord50 live50) ?_; refine on h1 ?_
  cases c1
  ·exact fi
  refine on h2 ?_
  cases c2
  ·refine ob h3 ?_
   cases c3
   ·cases con
    ·exact fi
    refine ox h4 ?_
    cases c4
    ·refine ox h5 ?_
     cases c5
     ·exact fi
     refine on h6 ?_
     cases c6
     ·exact fi
     refine lo h7 ?_
     rintro ex s (⟨rfl, rfl, rfl⟩ | ⟨rfl, rfl, rfl⟩) <;>
     ·refine ⟨_, rfl, ?_⟩; exact fi
    refine on h6 ?_
    cases c6
    ·exact fi
    refine lo h7 ?_
    rintro ex s (⟨rfl, rfl, rfl⟩ | ⟨rfl, rfl, rfl⟩) <;>
    ·refine ⟨_, rfl, ?_⟩; exact fi
   exact fi
  exact fi
def Ty.kind : Ty -> Int
 | .mk k _ _ _ => k
def Dcl.wf (d : Dcl) : Bool := isIdent d.nm && (!isResv d.nm && (!ltF d.ar 0 && (!(!d.con && lenP (encF d.fl)) && ((eqF d.sup.kind 0 || eqF d.sup.kind 2) && (d.sup.over d.ar && wfL d.ar [] d.fl)))))
theorem c_wellFormed {d : Dcl} (h : d.fine) : Calls1 50 [.dat d.enc] (bv d.wf) := by
 obtain ⟨h1, h2, h3⟩ := h
 have g1 := c_isIdent d.nm
 have g2 := c_containsS d.nm
 have g6 := c_plainOver (ar := d.ar) h1
 obtain ⟨nm, ar, ⟨k, tn, ix, la⟩, con, fl⟩ := d
 exact well_all g1 g2 rfl rfl rfl g6 (well_loop rfl h3 h2)
theorem noLocL_av : ∀ cs : List Dat, noLocL (av cs) = true
 | [] => rfl
 | d :: r => by show (noLoc (.dat d) && noLocL (av r)) = true; rw [noLocL_av r]; rfl
theorem noLoc_av (cs : List Dat) : noLocO (.cells (av cs)) = true := noLocL_av cs
theorem add_of {cs cs2 : List Dat} {es es2 : List (Go.Value × Dat)} {n : Nat} {nm nm2 : List UInt8} {ar k ix : Int} {con : Bool} {la lb : List Dat}
  (h0 : aLen (env Prims.fast) 23 [.win (.out 2) 8 0 n] none = some ⟨iv (Int.ofNat n), .keep⟩)
  (h1 : aMapUpdate (env Prims.fast) 80 [.map (.out 0), .dat (sb nm), iv (Int.ofNat n)] (some (.map es)) = some ⟨.undef, .set (.map es2)⟩)
  (h2 : aAppend (env Prims.fast) true 23 [.win (.out 2) 8 0 n, .dat (.slice [dRaw nm ar k nm2 ix la con lb])] (some (.cells (av cs))) = some ⟨.undef, .grow (.cells (av cs2)) 8 (n + 1)⟩) :
  KC 52 [hP, .dat (dRaw nm ar k nm2 ix la con lb)] (hG 2 (av cs) es n) 3 (XQ ⟨.tup [], hG 3 (av cs2) es2 (n + 1), 4⟩) := by
 have hn := noLoc_av cs2
 rcases la with _ | ⟨x, la⟩ <;>
 ·rcases lb with _ | ⟨y, lb⟩ <;>
  ·refine call_of0 [500022] [14, 100007, 22] (x := XFn.of Tryz.f52 ord52 live52) (by kernel_rfl) ?_; refine oo h0 ?_; refine oo h1 ?_; refine oo h2 ?_; refine ob hn ?_; exact fi
theorem rem_of {cs : List Dat} {es es2 : List (Go.Value × Dat)} {n : Nat} {nm : List UInt8}
  (h0 : aLen (env Prims.fast) 23 [.win (.out 2) 8 0 (n + 1)] none = some ⟨iv (Int.ofNat (n + 1)), .keep⟩)
  (h2 : aIndexAddr (env Prims.fast) 23 [.win (.out 2) 8 0 (n + 1), iv (wrapF .i64 (Int.ofNat (n + 1) - 1))] = some ⟨.ptr (.out 2) (0 + n * 8), .keep⟩)
  (h3 : aLoad (env Prims.fast) false 9 [.ptr (.out 2) (0 + n * 8)] (some (.cells (av cs))) = some ⟨.dat (sb nm), .keep⟩)
  (h4 : aDelete (env Prims.fast) 80 [.map (.out 0), .dat (sb nm)] (some (.map es)) = some ⟨.tup [], .set (.map es2)⟩)
  (h5 : aSlice (env Prims.fast) 23 none (some (.tmp 26)) none [.win (.out 2) 8 0 (n + 1), iv (wrapF .i64 (Int.ofNat (n + 1) - 1))] = some ⟨.win (.out 2) 8 0 n, .keep⟩) :
  KC 56 [hP] (hG 2 (av cs) es (n + 1)) 3 (XQ ⟨.tup [], hG 2 (av cs) es2 n, 3⟩) := by
 refine call_of0 [] [7, 18, 20, 100012, 27] (x := XFn.of Tryz.f56 ord56 live56) (by kernel_rfl) ?_; refine oo h0 ?_; refine oo h2 ?_; refine oo h3 ?_; refine oo h4 ?_; refine oo h5 ?_; exact fi
theorem len_win {r n : Nat} (h : n <= lim) : aLen (env Prims.fast) 23 [.win (.out r) 8 0 n] none = some ⟨iv (Int.ofNat n), .keep⟩ := by
 have h1 : aLen (env Prims.fast) 23 [.win (.out r) 8 0 n] none = (if Nat.ble n lim = true then some ⟨iv (Int.ofNat n), .keep⟩ else none) := by kernel_rfl
 rw [h1, if_pos (by rw [Nat.ble_eq]; exact h)]
theorem idxD_app (b : List Dcl) : ∀ (a : List Dcl) (i : Nat), idxD (a ++ b) i = idxD a i ++ idxD b (i + a.length)
 | [], i => by simp [idxD]
 | x :: r, i => by
  simp only [List.cons_append, idxD, List.length_cons]
  rw [idxD_app b r (i + 1), show i + 1 + r.length = i + (r.length + 1) by omega]
theorem rowC_app (b : List Dcl) : ∀ a : List Dcl, rowC (a ++ b) = rowC a ++ rowC b
 | [] => rfl
 | x :: r => by simp only [List.cons_append, rowC, rowC_app b r, List.append_assoc]
theorem put_idx {ds : List Dcl} {d : Dcl} (h : posD ds d.nm = none) : aMapUpdate (env Prims.fast) 80 [.map (.out 0), .dat (sb d.nm), iv (Int.ofNat ds.length)] (some (.map (idxD ds 0))) = some ⟨.undef, .set (.map (idxD (ds ++ [d]) 0))⟩ := by
 have h1 : aMapUpdate (env Prims.fast) 80 [.map (.out 0), .dat (sb d.nm), iv (Int.ofNat ds.length)] (some (.map (idxD ds 0))) = (match findF .string (.string ⟨⟨d.nm⟩⟩) (idxD ds 0) 0 with
  | some (some (i, _)) => some ⟨.undef, .set (.map (setAt i (i64 (Int.ofNat ds.length)) (idxD ds 0)))⟩ | some none => some ⟨.undef, .set (.map (idxD ds 0 ++ [(.string ⟨⟨d.nm⟩⟩, i64 (Int.ofNat ds.length))]))⟩ | none => none) := by kernel_rfl
 rw [h1, findF_idx, h, idxD_app, Nat.zero_add]
 rfl
theorem bld_len {l : List AVal} (h : 3 <= l.length) : bldSh l = false := by
 rcases l with _ | ⟨a, _ | ⟨b, _ | ⟨c, r⟩⟩⟩ <;> simp at h
 exact bldSh3 a b c r
noncomputable def tiD : TI := match Go.Tp.elemOf (env Prims.fast) 23 with | some t => t | none => default
theorem app_row {ds : List Dcl} {d : Dcl} {tl : List Dat} (hn : ds.length < 1000) : aAppend (env Prims.fast) true 23 [.win (.out 2) 8 0 ds.length, .dat (.slice [d.enc])] (some (.cells (av (rowC ds ++ tl)))) = some ⟨.undef, .grow (.cells (av (rowC (ds ++ [d])))) 8 (ds.length + 1)⟩ := by
 have h1 : ∀ (n : Nat) (cs : List AVal) (x : AVal), aAppend (env Prims.fast) true 23 [.win (.out 2) 8 0 n, x] (some (.cells cs)) = growRow (env Prims.fast) tiD n cs x := fun n cs x => by kernel_rfl
 have h2 : appendTo Prims.fast tiD [] (.dat (.slice [d.enc])) = some [d.enc] := by
  obtain ⟨nm, ar, ⟨k, tn, ix, la⟩, con, fl⟩ := d
  kernel_rfl
 have h3 : ∀ (n : Nat) (cs : List AVal) (x : AVal), growRow (env Prims.fast) tiD n cs x = (match appendTo Prims.fast tiD [] x with
  | some ds => if (Nat.ble ((n + ds.length) * tiD.bytes) 140737488355328 && Nat.ble (n + ds.length) lim && Nat.ble (n * 8) cs.length && !bldSh (takeL (n * 8) cs ++ (ds.flatMap Dat.cells).map .dat)) = true
   then some ⟨.undef, .grow (.cells (takeL (n * 8) cs ++ (ds.flatMap Dat.cells).map .dat)) 8 (n + ds.length)⟩ else none
  | none => none) := fun n cs x => by kernel_rfl
 have hb : tiD.bytes <= 1000 := ble_to (by kernel_rfl)
 have hl := rowC_length ds
 have hc : takeL (ds.length * 8) (av (rowC ds ++ tl)) ++ ([d.enc].flatMap Dat.cells).map .dat = av (rowC (ds ++ [d])) := by
  rw [takeL_av, ← hl, List.take_left, rowC_app]
  simp only [av, List.map_append, List.flatMap_cons, List.flatMap_nil, List.append_nil, rowC]
  rfl
 rw [h1, h3, h2]
 dsimp only
 rw [hc]
 have hd : (rowC (ds ++ [d])).length = ds.length * 8 + 8 := by rw [rowC_length]; simp; omega
 rw [if_pos]
 ·rfl
 have e1 : bldSh (av (rowC (ds ++ [d]))) = false := bld_len (by simp [av, hd])
 rw [e1]
 simp only [List.length_singleton, Bool.and_eq_true, Nat.ble_eq, Bool.not_false, and_true]
 refine ⟨⟨?_, ?_⟩, ?_⟩
 ·calc (ds.length + 1) * tiD.bytes <= 1000 * 1000 := Nat.mul_le_mul (by omega) hb
   _ <= 140737488355328 := by decide
 ·simp only [lim]; omega
 simp [av, hl]
theorem c_addD {ds : List Dcl} {d : Dcl} {tl : List Dat} (hn : ds.length < 1000) (h : posD ds d.nm = none) : KC 52 [hP, .dat d.enc] (hH 2 ds tl) 3 (XQ ⟨.tup [], hH 3 (ds ++ [d]) [], 4⟩) := by
 have h0 := len_win (r := 2) (n := ds.length) (by simp only [lim]; omega)
 have h1 := put_idx h
 have h2 := app_row (d := d) (tl := tl) hn
 have e : hH 3 (ds ++ [d]) [] = hG 3 (av (rowC (ds ++ [d]))) (idxD (ds ++ [d]) 0) (ds.length + 1) := by unfold hH; rw [List.append_nil, List.length_append, List.length_singleton]
 rw [e]
 obtain ⟨nm, ar, ⟨k, tn, ix, la⟩, con, fl⟩ := d
 exact add_of h0 h1 h2
theorem pos_last {ds : List Dcl} {d : Dcl} (h : posD ds d.nm = none) : posD (ds ++ [d]) d.nm = some ds.length := by
 induction ds with
 | nil => simp [posD, eqB_self]
 | cons x r ih =>
  simp only [posD, List.cons_append] at h ⊢
  cases he : eqB d.nm x.nm with
  | true => rw [he] at h; simp at h
  | false =>
   rw [he] at h
   simp only [Option.map_eq_none_iff] at h
   rw [ih h]
   rfl
theorem delAt_last (a : List (Go.Value × Dat)) (x : Go.Value × Dat) : delAt a.length (a ++ [x]) = a := by
 induction a with
 | nil => rfl
 | cons y r ih => simp only [List.length_cons, List.cons_append, delAt, ih]
theorem idxD_length : ∀ (ds : List Dcl) (i : Nat), (idxD ds i).length = ds.length
 | [], _ => rfl
 | x :: r, i => by simp only [idxD, List.length_cons, idxD_length r]
theorem c_rem {ds : List Dcl} {d : Dcl} {tl : List Dat} (hn : ds.length < 1000) (h : posD ds d.nm = none) : KC 56 [hP] (hH 2 (ds ++ [d]) tl) 3 (XQ ⟨.tup [], hH 2 ds (d.cells ++ tl), 3⟩) := by
 have e1 : hH 2 (ds ++ [d]) tl = hG 2 (av (rowC (ds ++ [d]) ++ tl)) (idxD (ds ++ [d]) 0) (ds.length + 1) := by unfold hH; rw [List.length_append, List.length_singleton]
 have e2 : hH 2 ds (d.cells ++ tl) = hG 2 (av (rowC (ds ++ [d]) ++ tl)) (idxD ds 0) ds.length := by
  unfold hH
  rw [rowC_app, List.append_assoc]
  simp only [rowC, List.append_nil]
 have hw : wrapF .i64 (Int.ofNat (ds.length + 1) - 1) = Int.ofNat ds.length := by
  rw [wrapF_eq, show (Int.ofNat (ds.length + 1) - 1 : Int) = Int.ofNat ds.length by simp]
  exact wrap_i64 (by simp only [Int.ofNat_eq_natCast]; omega) (by simp only [Int.ofNat_eq_natCast]; omega)
 have h0 := len_win (r := 2) (n := ds.length + 1) (by simp only [lim]; omega)
 have h2 := idx_win (r := 2) (n := ds.length + 1) (k := ds.length) (by omega)
 rw [← hw] at h2
 have hg : (ds ++ [d])[ds.length]? = some d := by simp
 have h3 : aLoad (env Prims.fast) false 9 [.ptr (.out 2) (0 + ds.length * 8)] (some (.cells (av (rowC (ds ++ [d]) ++ tl)))) = some ⟨.dat (sb d.nm), .keep⟩ := by
  have k1 : ∀ cs, aLoad (env Prims.fast) false 9 [.ptr (.out 2) (0 + ds.length * 8)] (some (.cells cs)) = ofA (match cs[0 + ds.length * 8]? with
   | some (.own es) => some (.dat (.slice es)) | some .undef => none | some (.agg _) => none | some (.tup _) => none | some a => some a | none => none) := fun cs => by kernel_rfl
  have k2 : (av (rowC (ds ++ [d]) ++ tl))[0 + ds.length * 8]? = some (.dat (sb d.nm)) := by
   rw [rowC_app, List.append_assoc]
   unfold av
   rw [List.getElem?_map, Nat.zero_add, List.getElem?_append_right (by rw [rowC_length]; omega), rowC_length, Nat.sub_self]
   rfl
  rw [k1, k2]
  rfl
 have h4 : aDelete (env Prims.fast) 80 [.map (.out 0), .dat (sb d.nm)] (some (.map (idxD (ds ++ [d]) 0))) = some ⟨.tup [], .set (.map (idxD ds 0))⟩ := by
  have k1 : aDelete (env Prims.fast) 80 [.map (.out 0), .dat (sb d.nm)] (some (.map (idxD (ds ++ [d]) 0))) = (match findF .string (.string ⟨⟨d.nm⟩⟩) (idxD (ds ++ [d]) 0) 0 with
   | some (some (i, _)) => some ⟨.tup [], .set (.map (delAt i (idxD (ds ++ [d]) 0)))⟩ | some none => some ⟨.tup [], .set (.map (idxD (ds ++ [d]) 0))⟩ | none => none) := by kernel_rfl
  rw [k1, findF_idx, pos_last h]
  simp only [Option.map_some, Nat.zero_add]
  rw [idxD_app, ← idxD_length ds 0]
  simp only [idxD]
  rw [delAt_last]
 have h5 : aSlice (env Prims.fast) 23 none (some (.tmp 26)) none [.win (.out 2) 8 0 (ds.length + 1), iv (wrapF .i64 (Int.ofNat (ds.length + 1) - 1))] = some ⟨.win (.out 2) 8 0 ds.length, .keep⟩ := by
  rw [hw]
  have k1 : ∀ m n : Nat, aSlice (env Prims.fast) 23 none (some (.tmp 26)) none [.win (.out 2) 8 0 m, iv (Int.ofNat n)] = (if (Nat.ble 0 n && Nat.ble n m && Nat.beq 8 8) = true then some ⟨.win (.out 2) 8 0 n, .keep⟩ else none) := fun m n => by kernel_rfl
  rw [k1, if_pos (by simp)]
 rw [e1, e2]
 obtain ⟨nm, ar, ⟨k, tn, ix, la⟩, con, fl⟩ := d
 exact rem_of h0 h2 h3 h4 h5
def box4 : Name × AObj := (.out 4, .cells [hP])
def bQ : AVal := .ptr (.out 4) 0
noncomputable def hIxF : Hints := ⟨xmoves, ord67, xcaps, rowsOf xcaps 67⟩
def fnD : AVal := .fn (.func 55) [] [bQ]
def sfI (H : Heap) (nx : Nat) (l : List Dat) (i : Int) : FState := ⟨[(8, iv i), (7, iv (Int.ofNat l.length)), (0, .dat (.slice l)), (1, fnD)], [], H, nx⟩
def sfIX (H : Heap) (nx : Nat) (l : List Dat) : FState := ⟨[(9, bv false), (8, iv (Int.ofNat l.length)), (7, iv (Int.ofNat l.length)), (0, .dat (.slice l)), (1, fnD)], [], H, nx⟩
def sfIR (H : Heap) (nx : Nat) (i : Nat) : FState := ⟨[(4, iv (Int.ofNat i))], [], H, nx⟩
def sfIn (H : Heap) (nx : Nat) : FState := ⟨[(8, iv 0), (7, iv 0), (0, .dat nl), (1, fnD)], [], H, nx⟩
def sfIXn (H : Heap) (nx : Nat) : FState := ⟨[(9, bv false), (8, iv 0), (7, iv 0), (0, .dat nl), (1, fnD)], [], H, nx⟩
theorem index_roundF {l : List Fld} {t : Fld} {H : Heap} {nx i : Nat} {c : Bool} {T : Exit -> AState -> Prop} (hi : i < (encF l).length) (ht : l[i]? = some t) (hc : KC 55 [.dat t.enc, bQ] H nx (XQ ⟨bv c, H, nx⟩))
  (e1 : c = false -> T .normal ((sfI H nx (encF l) (wrapF .i64 (Int.ofNat i + 1))).toA Tryz.f67.ntmps)) (e2 : c = true -> T .ret ((sfIR H nx i).toA Tryz.f67.ntmps)) :
  KD (roundOf Tryz.f67 0) T ((sfI H nx (encF l) (Int.ofNat i)).toA Tryz.f67.ntmps) := by
 have h1 := ltF_yes hi
 have h2 := idxF ht
 generalize encF l = es at *
 clear ht hi
 obtain ⟨fnm, k2, nm2, ix2, a2⟩ := t
 rcases a2 with _ | ⟨b, d⟩ <;>
 ·cases c
  ·refine run_of [9] [14] (H := hIxF) (live := live67) (by kernel_rfl) ?_; refine ob h1 ?_; refine oo h2 ?_; refine oh hc ?_; exact oe (e1 rfl)
  refine run_of [9] [14] (H := hIxF) (live := live67) (by kernel_rfl) ?_; refine ob h1 ?_; refine oo h2 ?_; refine oh hc ?_; exact oe (e2 rfl)
theorem index_endF {l : List Dat} {H : Heap} {nx : Nat} {T : Exit -> AState -> Prop} (e1 : T (.exit 0) ((sfIX H nx l).toA Tryz.f67.ntmps)) :
  KD (roundOf Tryz.f67 0) T ((sfI H nx l (Int.ofNat l.length)).toA Tryz.f67.ntmps) := by
 have h1 := ltF_no (i := l.length) (L := l.length) (by omega)
 refine run_of [9] [] (H := hIxF) (live := live67) (by kernel_rfl) ?_; refine ob h1 ?_; exact oe e1
theorem index_noneF {H : Heap} {nx : Nat} {T : Exit -> AState -> Prop} (e1 : T (.exit 0) ((sfIXn H nx).toA Tryz.f67.ntmps)) :
  KD (roundOf Tryz.f67 0) T ((sfIn H nx).toA Tryz.f67.ntmps) := by
 refine run_of [] [] (H := hIxF) (live := live67) (by kernel_rfl) ?_; exact oe e1
theorem index_consF {l : List Fld} {p : Fld -> Bool} {H : Heap} {nx : Nat} {x : Dat} {r : List Dat} (hl0 : encF l = x :: r) (hg : ∀ v, newV nx v = false -> gcR nx ⟨v, H, nx⟩ = ⟨v, H, nx⟩) (hp : ∀ t ∈ l, KC 55 [.dat t.enc, bQ] H nx (XQ ⟨bv (p t), H, nx⟩)) (hb : l.length < 1000000000) :
  KC 67 [.dat (.slice (x :: r)), fnD] H nx (XQ ⟨iv (ix0 p l 0), H, nx⟩) := by
 have hl : KD (.loop (roundOf Tryz.f67 0)) (fun e s => (e = .exit 0 /\ ix0 p l 0 = -1 /\ s = (sfIX H nx (x :: r)).toA Tryz.f67.ntmps) ∨ (e = .ret /\ ∃ i : Nat, ix0 p l 0 = Int.ofNat i /\ s = (sfIR H nx i).toA Tryz.f67.ntmps)) ((sfI H nx (x :: r) (Int.ofNat 0)).toA Tryz.f67.ntmps) := by
  rw [← hl0]
  refine loop_inv (St := fun i => (sfI H nx (encF l) (Int.ofNat i)).toA Tryz.f67.ntmps) (fun i => ix0 p l 0 = ix0 p (l.drop i) i) (encF l).length ?_ ?_ (i := 0) (Nat.zero_le _) rfl
  ·intro i hi hI
   obtain ⟨t, ht, hm⟩ := getF_mem hi
   have ha := ix0_drop (p := p) ht
   have hw : wrapF .i64 (Int.ofNat i + 1) = Int.ofNat (i + 1) := wrap_of (by rw [encF_length] at hi; omega)
   have hc := hp t hm
   rw [← hI] at ha
   generalize p t = c at hc ha
   refine index_roundF hi ht hc ?_ ?_
   ·rintro rfl
    rw [hw]
    exact ⟨rfl, ha⟩
   rintro rfl
   exact .inr ⟨rfl, i, ha, rfl⟩
  intro hI
  refine index_endF (.inl ⟨rfl, ?_, rfl⟩)
  rw [hI, encF_length, List.drop_length]
  rfl
 have hg1 := hg (iv (ix0 p l 0)) rfl
 clear hp hb hg
 generalize hj : ix0 p l 0 = j at hg1 hl
 clear hj hl0
 refine co [] [] (x := .of Tryz.f67 ord67 live67) ?_; refine lo hl ?_
 rintro ex s (⟨rfl, rfl, rfl⟩ | ⟨rfl, ⟨x0, rfl, rfl⟩⟩) <;>
 ·refine ⟨_, rfl, ?_⟩
  exact ok_fin (by kernel_rfl) hg1
theorem any_slF {l : List Fld} {p : Fld -> Bool} {H : Heap} {nx : Nat} (hg : ∀ v, newV nx v = false -> gcR nx ⟨v, H, nx⟩ = ⟨v, H, nx⟩) (hp : ∀ t ∈ l, KC 55 [.dat t.enc, bQ] H nx (XQ ⟨bv (p t), H, nx⟩)) (hb : l.length < 1000000000) :
  KC 54 [.dat (sl (encF l)), fnD] H nx (XQ ⟨bv (l.any p), H, nx⟩) := by
 cases l with
 | nil =>
  have h0 : KC 67 [.dat nl, fnD] H nx (XQ ⟨iv (-1), H, nx⟩) := by
   have hg1 := hg (iv (-1)) rfl
   have hl : KD (.loop (roundOf Tryz.f67 0)) (fun e s => (e = .exit 0 /\ s = (sfIXn H nx).toA Tryz.f67.ntmps)) ((sfIn H nx).toA Tryz.f67.ntmps) := by
    refine loop_count (St := fun _ => (sfIn H nx).toA Tryz.f67.ntmps) 0 (fun i hi => absurd hi (Nat.not_lt_zero i)) ?_ (i := 0) (Nat.le_refl _)
    exact index_noneF ⟨rfl, rfl⟩
   clear hg hp hb
   refine co [] [] (x := .of Tryz.f67 ord67 live67) ?_; refine lo hl ?_; rintro ex s ⟨rfl, rfl⟩; refine ⟨_, rfl, ?_⟩
   exact ok_fin (by kernel_rfl) hg1
  have hg1 := hg (bv false) rfl
  clear hg hp hb
  refine co [] [] (x := .of Tryz.f54 ord54 live54) ?_; refine oh h0 ?_
  exact ok_fin (by kernel_rfl) hg1
 | cons t r =>
  have h := index_consF (l := t :: r) (x := t.enc) (r := encF r) rfl hg hp hb
  have h3 := ix0_lt (p := p) (l := t :: r) (i := 0)
  have hg1 := hg (bv (!(!((t :: r).any p)))) rfl
  generalize (t :: r).any p = c at h3 hg1
  have hg2 : gcR nx ⟨bv (!(!c)), H, nx⟩ = ⟨bv c, H, nx⟩ := by rw [hg1, Bool.not_not]
  clear hg1
  generalize ix0 p (t :: r) 0 = j at h3 h
  show KC 54 [.dat (.slice (t.enc :: encF r)), fnD] H nx _
  generalize t.enc = x at h
  generalize encF r = xs at h
  clear hp hb hg
  refine co [8] [] (x := .of Tryz.f54 ord54 live54) ?_; refine oh h ?_; refine ox h3 ?_
  exact ok_fin (by kernel_rfl) hg2
def hB4 (cs : List Dat) (es : List (Go.Value × Dat)) (n : Nat) : Heap := box4 :: hG 3 (av cs) es n
theorem gcE (v : AVal) (cs : List Dat) (es : List (Go.Value × Dat)) (n : Nat) (hv : newV 5 v = false) : gcR 5 ⟨v, hB4 cs es n, 5⟩ = ⟨v, hB4 cs es n, 5⟩ := by
 have h1 : oldObjs 5 (hB4 cs es n) = hB4 cs es n := rfl
 have h2 : newHeap 5 (hB4 cs es n) = false := by simp [newHeap, hB4, hG, newO, newL_av, newL, newV, box4, hP]; exact ⟨rfl, rfl, rfl⟩
 unfold gcR
 dsimp only
 rw [h1, h2, hv]
 rfl
abbrev CallsQ (g : FuncId) (args : List AVal) (cs : List Dat) (es : List (Go.Value × Dat)) (n : Nat) (v : AVal) : Prop := KC g args (hB4 cs es n) 5 (XQ ⟨v, hB4 cs es n, 5⟩)
theorem declF_of {cs : List Dat} {es : List (Go.Value × Dat)} {n : Nat} {k ix : Int} {fnm nm : List UInt8} {l : List Dat} {c : Bool} (h : CallsQ 39 [hP, .dat (.agg [i64 k, sb nm, i64 ix, sl l])] cs es n (bv c)) :
  CallsQ 55 [.dat (.agg [sb fnm, i64 k, sb nm, i64 ix, sl l]), bQ] cs es n (bv (!c)) := by
 have hg := gcE (bv (!c)) cs es n rfl
 rcases l with _ | ⟨z, l⟩ <;>
 ·refine co [] [] (x := .of Tryz.f55 ord55 live55) ?_; refine oh h ?_
  exact ok_fin (by kernel_rfl) hg
theorem c_fields {ds : List Dcl} {tl : List Dat} {l : List Fld} (hf : ∀ f ∈ l, f.ty.fine) (hn : l.length < 1000000000) :
  CallsQ 54 [.dat (sl (encF l)), fnD] (rowC ds ++ tl) (idxD ds 0) ds.length (bv (l.any (fun f => !knowT ds f.ty))) := by
 refine any_slF (p := fun f => !knowT ds f.ty) (fun v hv => gcE v _ _ _ hv) ?_ hn
 intro f hm
 have h2 := ro_move (r := 3) (m := 5) rfl rfl rfl [box4] (c_knows ds tl f.ty (by have := (hf f hm).1; omega))
 obtain ⟨fnm, k2, nm2, ix2, l2⟩ := f
 exact declF_of h2
def cellsD (nm : List UInt8) (ar k : Int) (tn : List UInt8) (ix : Int) (la : List Dat) (con : Bool) (lb : List Dat) : List AVal := [.dat (sb nm), iv ar, iv k, .dat (sb tn), iv ix, .dat (sl la), .dat (bl con), .dat (sl lb)]
theorem st_decl (l : Nat) (nm : List UInt8) (ar k : Int) (tn : List UInt8) (ix : Int) (la : List Dat) (con : Bool) (lb : List Dat) :
  aStore (env Prims.fast) 35 [.ptr (.loc l) 0, .dat (dRaw nm ar k tn ix la con lb)] (some (.cells (cellsD [] 0 0 [] 0 [] false []))) = some ⟨.undef, .set (.cells (cellsD nm ar k tn ix la con lb))⟩ := by
 rcases la with _ | ⟨x, la⟩ <;> rcases lb with _ | ⟨y, lb⟩ <;> kernel_rfl
theorem ld_decl (t : Bool) (l : Nat) (nm : List UInt8) (ar k : Int) (tn : List UInt8) (ix : Int) (la : List Dat) (con : Bool) (lb : List Dat) :
  aLoad (env Prims.fast) t 35 [.ptr (.loc l) 0] (some (.cells (cellsD nm ar k tn ix la con lb))) = some ⟨.dat (dRaw nm ar k tn ix la con lb), .keep⟩ := by
 cases t <;> rcases la with _ | ⟨x, la⟩ <;> rcases lb with _ | ⟨y, lb⟩ <;> kernel_rfl
def r3 (c : Int) (cs : List Dat) (es : List (Go.Value × Dat)) (n : Nat) : XRes := ⟨iv c, hG 2 (av cs) es n, 3⟩
def r5 (c : Int) (cs : List Dat) (es : List (Go.Value × Dat)) (n : Nat) : XRes := ⟨iv c, box4 :: hG 3 (av cs) es n, 5⟩
def declX (cs cs2 : List Dat) (es es2 es3 : List (Go.Value × Dat)) (n : Nat) (oex c0 c1 c2 c3 c4 c5 c6 c7 c8 : Bool) : XRes :=
 match c0 with
 | false => r3 2 cs es n
 | true => match c1 with
  | true => r3 4 cs es n
  | false => match c2 with
   | true => r3 4 cs es n
   | false => match oex with
    | true => (match c3 with | true => r3 0 cs es n | false => r3 6 cs es n)
    | false => match c4 with
     | false => r3 8 cs es n
     | true => match c5 with
      | false => r3 5 cs es n
      | true => match c6 with
       | true => r5 5 cs2 es3 n
       | false => match c7 with
        | false => r5 0 cs2 es2 (n + 1)
        | true => match c8 with
         | true => r5 10 cs2 es3 n
         | false => r5 0 cs2 es2 (n + 1)
theorem decl_gg {cs cs2 : List Dat} {es es2 es3 : List (Go.Value × Dat)} {n : Nat} {nm nm2 : List UInt8} {ar k ix : Int} {con : Bool} {la lb : List Dat}
  {onm onm2 : List UInt8} {oar ok oix : Int} {ocon oex : Bool} {ola olb : List Dat} {snm snm2 : List UInt8} {sar sk six : Int} {c8 sex : Bool} {sla slb : List Dat} {c0 c1 c2 c3 c4 c5 c6 c7 : Bool}
  (hf : CallsR 49 [hP, .dat (sb nm)] cs es n (.tup [.dat (dRaw onm oar ok onm2 oix ola ocon olb), bv oex]))
  (hw : Calls1 50 [.dat (dRaw nm ar k nm2 ix la con lb)] (bv c0))
  (h1 : ltF 6 ar = c1) (h2 : ltF 6 (Int.ofNat lb.length) = c2)
  (he : Calls1 51 [.dat (dRaw onm oar ok onm2 oix ola ocon olb), .dat (dRaw nm ar k nm2 ix la con lb)] (bv c3))
  (hl : aLen (env Prims.fast) 23 [.win (.out 2) 8 0 n] none = some ⟨iv (Int.ofNat n), .keep⟩) (h3 : ltF (Int.ofNat n) 60 = c4)
  (hk : CallsR 39 [hP, .dat (.agg [i64 k, sb nm2, i64 ix, sl la])] cs es n (bv c5)) 
  (hc : Calls1 53 [.dat (dRaw nm ar k nm2 ix la con lb)] (.dat (dRaw nm ar k nm2 ix la con lb)))
  (ha : oex = false -> KC 52 [hP, .dat (dRaw nm ar k nm2 ix la con lb)] (hG 2 (av cs) es n) 3 (XQ ⟨.tup [], hG 3 (av cs2) es2 (n + 1), 4⟩))
  (hcf : KC 54 [.dat (sl lb), fnD] (box4 :: hG 3 (av cs2) es2 (n + 1)) 5 (XQ ⟨bv c6, box4 :: hG 3 (av cs2) es2 (n + 1), 5⟩))
  (hr : oex = false -> KC 56 [hP] (box4 :: hG 3 (av cs2) es2 (n + 1)) 5 (XQ ⟨.tup [], box4 :: hG 3 (av cs2) es3 n, 5⟩))
  (hs : KC 49 [hP, .dat (sb nm2)] (box4 :: hG 3 (av cs2) es2 (n + 1)) 5 (XQ ⟨.tup [.dat (dRaw snm sar sk snm2 six sla c8 slb), bv sex], box4 :: hG 3 (av cs2) es2 (n + 1), 5⟩))
  (h4 : eqF k 2 = c7) :
  KC 16 [hP, .dat (dRaw nm ar k nm2 ix la con lb)] (hG 2 (av cs) es n) 3 (XQ (declX cs cs2 es es2 es3 n oex c0 c1 c2 c3 c4 c5 c6 c7 c8)) := by
 have q1 := st_decl 5 onm oar ok onm2 oix ola ocon olb
 have q2 := ld_decl false 5 onm oar ok onm2 oix ola ocon olb
 have q4 := st_decl 7 snm sar sk snm2 six sla c8 slb
 rcases lb with _ | ⟨y, lb⟩
 ·have z : c2 = false := h2.symm
  subst z
  clear h2
  rcases la with _ | ⟨x, la⟩ <;>
  ·refine call_of0 [23, 45, 73] [100005, 33, 44, 100007] (x := XFn.of Tryz.f16 ord16 live16) (by kernel_rfl) ?_; refine oh hf ?_; refine oo q1 ?_; refine on hw ?_
   cases c0
   ·exact fi
   refine ob h1 ?_
   cases c1
   ·cases oex
    ·refine oo hl ?_; refine ox h3 ?_
     cases c4
     ·exact fi
     refine oh hk ?_
     cases c5
     ·exact fi
     refine on hc ?_; refine oh (ha rfl) ?_; refine oh hcf ?_
     cases c6
     ·refine oh hs ?_; refine oo q4 ?_; refine ob h4 ?_
      cases c7
      ·exact fi
      cases c8
      ·exact fi
      refine oh (hr rfl) ?_; exact fi
     refine oh (hr rfl) ?_; exact fi
    refine oo q2 ?_; refine on he ?_
    cases c3 <;>
    ·exact fi
   exact fi
 rcases la with _ | ⟨x, la⟩ <;>
 ·refine call_of0 [23, 28, 45, 73] [100005, 33, 44, 100007] (x := XFn.of Tryz.f16 ord16 live16) (by kernel_rfl) ?_; refine oh hf ?_; refine oo q1 ?_; refine on hw ?_
  cases c0
  ·exact fi
  refine ob h1 ?_
  cases c1
  ·refine ob h2 ?_
   cases c2
   ·cases oex
    ·refine oo hl ?_; refine ox h3 ?_
     cases c4
     ·exact fi
     refine oh hk ?_
     cases c5
     ·exact fi
     refine on hc ?_; refine oh (ha rfl) ?_; refine oh hcf ?_
     cases c6
     ·refine oh hs ?_; refine oo q4 ?_; refine ob h4 ?_
      cases c7
      ·exact fi
      cases c8
      ·exact fi
      refine oh (hr rfl) ?_; exact fi
     refine oh (hr rfl) ?_; exact fi
    refine oo q2 ?_; refine on he ?_
    cases c3 <;>
    ·exact fi
   exact fi
  exact fi
/-- What changes the hierarchy serves under another name of the row, beside other objects. -/
theorem mv_move {g : FuncId} {args : List AVal} {v : AVal} {cs cs2 : List Dat} {es es2 : List (Go.Value × Dat)} {n n2 r m : Nat} (ha : newL 3 args = false) (he : rnL (toR r) args = args) (hv : rnV (liftN (toR r) 3 m) v = v) (pre : Heap)
  (h : KC g args (hG 2 (av cs) es n) 3 (XQ ⟨v, hG 2 (av cs2) es2 n2, 3⟩)) :
  KC g args (pre ++ hG r (av cs) es n) m (XQ ⟨v, pre ++ hG r (av cs2) es2 n2, m⟩) := by
 have e1 : ∀ (cs : List Dat) (es : List (Go.Value × Dat)) (n : Nat) (ρ : Nat -> Nat), ρ 0 = 0 -> ρ 1 = 1 -> ρ 2 = r -> rnH ρ (hG 2 (av cs) es n) = hG r (av cs) es n := by
  intro cs es n ρ h0 h1 h2
  simp [hG, rnH, rnO, rnN, rnL_av, rnL, rnV, h0, h1, h2]
 have hf := ACalls.frame h (toR r) (heap := pre ++ hG r (av cs) es n) (rest := pre) (next := m) (by rw [e1 _ _ _ _ rfl rfl rfl]; exact List.perm_append_comm) (by rfl) (by simp [newHeap, hG, newO, newL_av, newL, newV]; exact ⟨rfl, rfl⟩) (by rfl) ha
 rw [he] at hf
 refine ACalls.reheap hf ?_
 rintro v' h' m' ⟨v0, h1, n1, ⟨rfl, rfl, rfl⟩, rfl, rfl, rfl⟩
 rw [hv, e1 _ _ _ _ rfl rfl rfl]
 exact ⟨_, List.perm_append_comm, rfl, rfl, rfl⟩
theorem okVs_av (p : Nat -> Bool) : ∀ l : List Dat, okVs p (av l) = true
 | [] => rfl
 | d :: r => by show (okV p (.dat d) && okVs p (av r)) = true; rw [okVs_av p r]; rfl
theorem rn3 {g : FuncId} {args : List AVal} {h0 : Heap} {c : Int} {cs : List Dat} {es : List (Go.Value × Dat)} {n : Nat} (h : KC g args h0 3 (XQ (r3 c cs es n))) : KC g args h0 3 (XQ ⟨iv c, hG 3 (av cs) es n, 4⟩) := by
 refine ACalls.rn h ?_
 rintro v hp m ⟨rfl, rfl, rfl⟩
 refine ⟨[2], rfl, ?_, ?_⟩
 ·simp [r3, hG, restrictH, okH, okO, okVs, okV, keptA, memN, okVs_av]
  rfl
 simp [r3, hG, restrictH, rnH, rnO, rnN, rnL, rnV, keptA, memN, rhoA, idxN, rnL_av]
 exact ⟨rfl, rfl, rfl⟩
theorem rn5 {g : FuncId} {args : List AVal} {h0 : Heap} {c : Int} {cs : List Dat} {es : List (Go.Value × Dat)} {n : Nat} (h : KC g args h0 3 (XQ (r5 c cs es n))) : KC g args h0 3 (XQ ⟨iv c, hG 3 (av cs) es n, 4⟩) := by
 refine ACalls.rn h ?_
 rintro v hp m ⟨rfl, rfl, rfl⟩
 have e : restrictH (keptA 3 [3]) (r5 c cs es n).heap = hG 3 (av cs) es n := rfl
 refine ⟨[3], rfl, ?_, ?_⟩
 ·rw [e]
  simp [hG, okH, okO, okVs, okV, keptA, memN, okVs_av]
 rw [e]
 simp [hG, rnH, rnO, rnN, rnL, rnV, memN, rhoA, idxN, rnL_av]
 exact ⟨rfl, rfl, rfl⟩
def Ty.nm : Ty -> List UInt8
 | .mk _ n _ _ => n
/-- What Declare answers, and the hierarchy behind it. -/
def declM (ds : List Dcl) (d : Dcl) : Int × List Dcl :=
 match d.wf with
 | false => (2, ds)
 | true => match ltF 6 d.ar with
  | true => (4, ds)
  | false => match ltF 6 (Int.ofNat (encF d.fl).length) with
   | true => (4, ds)
   | false => match findD ds d.nm with
    | some o => (match o.eq d with | true => (0, ds) | false => (6, ds))
    | none => match ltF (Int.ofNat ds.length) 60 with
     | false => (8, ds)
     | true => match knowT ds d.sup with
      | false => (5, ds)
      | true => match d.fl.any (fun f => !knowT (ds ++ [d]) f.ty) with
       | true => (5, ds)
       | false => match eqF d.sup.kind 2 with
        | false => (0, ds ++ [d])
        | true => match (dOf (findD (ds ++ [d]) d.sup.nm)).con with
         | true => (10, ds)
         | false => (0, ds ++ [d])
theorem zero_fine : Dcl.zero.fine := ⟨⟨by decide, by simp [Dcl.zero, Ty.ixOk, ixOkL, eqF]⟩, by simp [Dcl.zero], by decide⟩
theorem findD_mem : ∀ {ds : List Dcl} {nm : List UInt8} {o : Dcl}, findD ds nm = some o -> o ∈ ds
 | [], nm, o, h => by simp [findD] at h
 | d :: r, nm, o, h => by
  unfold findD at h
  split at h
  ·simp at h; subst h; simp
  exact List.mem_cons_of_mem _ (findD_mem h)
theorem findD_pos {ds : List Dcl} {nm : List UInt8} (h : findD ds nm = none) : posD ds nm = none := by
 cases hp : posD ds nm with
 | none => rfl
 | some k =>
  obtain ⟨d, _, h2, _⟩ := posD_get hp
  rw [h2] at h; simp at h
theorem decl_all {ds : List Dcl} {d : Dcl} {tl : List Dat} (hd : d.fine) (hds : ∀ o ∈ ds, o.fine) (hn : ds.length < 999) :
  KC 16 [hP, .dat d.enc] (hH 2 ds tl) 3 (XQ (declX (rowC ds ++ tl) (rowC (ds ++ [d]) ++ []) (idxD ds 0) (idxD (ds ++ [d]) 0) (idxD ds 0) ds.length (isS (findD ds d.nm)) d.wf (ltF 6 d.ar) (ltF 6 (Int.ofNat (encF d.fl).length)) ((dOf (findD ds d.nm)).eq d) (ltF (Int.ofNat ds.length) 60) (knowT ds d.sup) (d.fl.any (fun f => !knowT (ds ++ [d]) f.ty)) (eqF d.sup.kind 2) (dOf (findD (ds ++ [d]) d.sup.nm)).con)) := by
 have hf : CallsR 49 [hP, .dat (sb d.nm)] (rowC ds ++ tl) (idxD ds 0) ds.length (.tup [.dat (dOf (findD ds d.nm)).enc, bv (isS (findD ds d.nm))]) := c_find2 ds tl d.nm
 have hw := c_wellFormed hd
 have ho : (dOf (findD ds d.nm)).fine := by
  cases h : findD ds d.nm with
  | none => exact zero_fine
  | some o => exact hds o (findD_mem h)
 have he := c_equalDecls ho hd
 have hl := len_win (r := 2) (n := ds.length) (by simp only [lim]; omega)
 have hk : CallsR 39 [hP, .dat d.sup.enc] (rowC ds ++ tl) (idxD ds 0) ds.length (bv (knowT ds d.sup)) := c_knows ds tl d.sup (by have := hd.1.1; omega)
 have hc := c_cloneDecl hd
 have hpos : isS (findD ds d.nm) = false -> posD ds d.nm = none := by
  intro h
  cases hf : findD ds d.nm with
  | none => exact findD_pos hf
  | some o => rw [hf] at h; simp [isS] at h
 have ha := fun h => c_addD (tl := tl) (by omega) (hpos h)
 have hcf := c_fields (ds := ds ++ [d]) (tl := []) hd.2.1 hd.2.2
 have hr : isS (findD ds d.nm) = false -> KC 56 [hP] (box4 :: hG 3 (av (rowC (ds ++ [d]) ++ [])) (idxD (ds ++ [d]) 0) (ds.length + 1)) 5 (XQ ⟨.tup [], box4 :: hG 3 (av (rowC (ds ++ [d]) ++ [])) (idxD ds 0) ds.length, 5⟩) := by
  intro h
  have h2 := c_rem (tl := []) (by omega) (hpos h)
  have e2 : hH 2 ds (d.cells ++ []) = hG 2 (av (rowC (ds ++ [d]) ++ [])) (idxD ds 0) ds.length := by
   unfold hH
   rw [rowC_app]
   simp only [rowC, List.append_nil]
  rw [e2] at h2
  have e1 : hH 2 (ds ++ [d]) [] = hG 2 (av (rowC (ds ++ [d]) ++ [])) (idxD (ds ++ [d]) 0) (ds.length + 1) := by unfold hH; rw [List.length_append, List.length_singleton]
  rw [e1] at h2
  exact mv_move (r := 3) (m := 5) rfl rfl rfl [box4] h2
 have hs := c_find 3 5 [box4] (ds ++ [d]) [] d.sup.nm
 have el : (ds ++ [d]).length = ds.length + 1 := by simp
 have e3 : hH 3 (ds ++ [d]) [] = hG 3 (av (rowC (ds ++ [d]) ++ [])) (idxD (ds ++ [d]) 0) (ds.length + 1) := by unfold hH; rw [el]
 rw [e3] at hs
 simp only [e3] at ha
 unfold CallsQ hB4 at hcf
 rw [el] at hcf
 generalize (dOf (findD ds d.nm)).eq d = c3 at he ⊢
 generalize d.fl.any (fun f => !knowT (ds ++ [d]) f.ty) = c6 at hcf ⊢
 generalize d.wf = c0 at hw ⊢
 generalize knowT ds d.sup = c5 at hk ⊢
 generalize dOf (findD ds d.nm) = o at *
 generalize dOf (findD (ds ++ [d]) d.sup.nm) = so at *
 generalize isS (findD (ds ++ [d]) d.sup.nm) = sb at *
 generalize rowC (ds ++ [d]) ++ [] = cs2 at *
 generalize idxD (ds ++ [d]) 0 = es2 at *
 have e0 : hH 2 ds tl = hG 2 (av (rowC ds ++ tl)) (idxD ds 0) ds.length := rfl
 rw [e0] at ha ⊢
 generalize idxD ds 0 = es at *
 generalize rowC ds ++ tl = cs at *
 obtain ⟨nm, ar, ⟨k, tn, ix, la⟩, con, fl⟩ := d
 obtain ⟨onm, oar, ⟨ok, otn, oix, ola⟩, ocon, ofl⟩ := o
 obtain ⟨snm, sar, ⟨sk, stn, six, sla⟩, scon, sfl⟩ := so
 exact decl_gg hf hw rfl rfl he hl rfl hk hc ha hcf hr hs rfl
theorem hH_app (r : Nat) (ds : List Dcl) (d : Dcl) : hH r (ds ++ [d]) [] = hG r (av (rowC (ds ++ [d]) ++ [])) (idxD (ds ++ [d]) 0) (ds.length + 1) := by unfold hH; rw [List.length_append, List.length_singleton]
theorem hH_rem (r : Nat) (ds : List Dcl) (d : Dcl) : hH r ds d.cells = hG r (av (rowC (ds ++ [d]) ++ [])) (idxD ds 0) ds.length := by
 unfold hH
 rw [rowC_app]
 simp only [rowC, List.append_nil]
theorem c_Declare {ds : List Dcl} {d : Dcl} {tl : List Dat} (hd : d.fine) (hds : ∀ o ∈ ds, o.fine) (hn : ds.length < 999) :
  ∃ tl2, KC 16 [hP, .dat d.enc] (hH 2 ds tl) 3 (XQ ⟨iv (declM ds d).1, hH 3 (declM ds d).2 tl2, 4⟩) := by
 have h := decl_all (tl := tl) hd hds hn
 unfold declM
 generalize d.wf = c0 at h ⊢
 cases c0 with
 | false => exact ⟨tl, rn3 h⟩
 | true =>
  generalize ltF 6 d.ar = c1 at h ⊢
  cases c1
  ·generalize ltF 6 (Int.ofNat (encF d.fl).length) = c2 at h ⊢
   cases c2
   ·generalize findD ds d.nm = fo at h ⊢
    cases fo with
    | some o =>
     dsimp only [dOf, isS] at h ⊢
     generalize o.eq d = c3 at h ⊢
     cases c3 <;>
     ·exact ⟨tl, rn3 h⟩
    | none =>
     dsimp only [dOf, isS] at h ⊢
     generalize ltF (Int.ofNat ds.length) 60 = c4 at h ⊢
     cases c4 with
     | false => exact ⟨tl, rn3 h⟩
     | true =>
      generalize knowT ds d.sup = c5 at h ⊢
      cases c5 with
      | false => exact ⟨tl, rn3 h⟩
      | true =>
       generalize d.fl.any (fun f => !knowT (ds ++ [d]) f.ty) = c6 at h ⊢
       cases c6
       ·generalize eqF d.sup.kind 2 = c7 at h ⊢
        cases c7 with
        | false =>
         dsimp only
         exact ⟨[], by rw [hH_app]; exact rn5 h⟩
        | true =>
         dsimp only [dOf] at h ⊢
         generalize (match findD (ds ++ [d]) d.sup.nm with | some d => d | none => Dcl.zero).con = c8 at h ⊢
         cases c8
         ·dsimp only
          exact ⟨[], by rw [hH_app]; exact rn5 h⟩
         dsimp only
         exact ⟨d.cells, by rw [hH_rem]; exact rn5 h⟩
       dsimp only
       exact ⟨d.cells, by rw [hH_rem]; exact rn5 h⟩
   exact ⟨tl, rn3 h⟩
  exact ⟨tl, rn3 h⟩
def builtN (nm : List UInt8) : Dcl := ⟨nm, 0, .mk 0 [] 0 [], true, []⟩
def builtD : List Dcl := leafN.map builtN
theorem c_New : KC 44 [] [] 0 (XQ ⟨hP, hH 2 builtD [], 3⟩) := by
 have h : KC 44 [] [] 0 (XQ ⟨hP, hG 5 (av (rowC builtD ++ [])) (idxD builtD 0) 4, 6⟩) := X_ok _ _ _ _ _ (by kernel_rfl)
 refine ACalls.rn h ?_
 rintro v hp m ⟨rfl, rfl, rfl⟩
 exact ⟨[0, 1, 5], rfl, rfl, rfl, rfl, rfl⟩
def encD : List Dcl -> List Dat
 | [] => []
 | d :: r => d.enc :: encD r
theorem encD_map : ∀ l : List Dcl, encD l = l.map Dcl.enc
 | [] => by simp [encD]
 | t :: r => by simp [encD, encD_map r]
theorem encD_length (l : List Dcl) : (encD l).length = l.length := by simp [encD_map]
theorem encD_get {l : List Dcl} {i : Nat} {t : Dcl} (h : l[i]? = some t) : (encD l)[i]? = some t.enc := by simp [encD_map, h]
theorem dcells (d : Dcl) : d.enc.cells.length = 8 := by obtain ⟨a, b, ⟨e, f, g, h⟩, i, j⟩ := d; rfl
theorem encD_mem {l : List Dcl} {d : Dat} (h : d ∈ encD l) : ∃ t, d = Dcl.enc t := by
 rw [encD_map] at h
 obtain ⟨t, _, rfl⟩ := List.mem_map.1 h
 exact ⟨t, rfl⟩
theorem encD_app (a b : List Dcl) : encD (a ++ b) = encD a ++ encD b := by simp [encD_map]
theorem encD_sized (l : List Dcl) : sizedB 8 (encD l) = true := sizedB_of (fun d hd => by obtain ⟨t, rfl⟩ := encD_mem hd; exact dcells t)
theorem encD_bytes (l : List Dcl) : isBytes (encD l) = false := by
 cases l with
 | nil => rfl
 | cons t r => rfl
theorem tiD_eq : Go.Tp.elemOf (env Prims.fast) 23 = some tiD := by kernel_rfl
theorem tiD_size : tiD.size = 8 := by kernel_rfl
theorem appD {pre : List Dcl} {t : Dcl} (hl : pre.length < 1000000000) : aAppend (env Prims.fast) false 23 [.own (encD pre), .dat (.slice [t.enc])] none = some ⟨.own (encD (pre ++ [t])), .keep⟩ := by
 rw [encD_app]
 refine ans_app (i := tiD) (ds := [t.enc]) (k := 7) tiD_eq rfl tiD_size ?_ ?_ (by kernel_rfl) ?_ ?_ ?_ (by simp)
 ·exact encD_sized [t]
 ·exact encD_sized pre
 ·have h1 : tiD.bytes <= 1000 := ble_to (by kernel_rfl)
  rw [encD_length]
  calc (pre.length + 1) * tiD.bytes <= 1000000000 * 1000 := Nat.mul_le_mul (by omega) h1
   _ <= 140737488355328 := by decide
 ·rw [encD_length]; simp [lim]; omega
 unfold byteOk
 rw [show encD pre ++ [t.enc] = encD (pre ++ [t]) by rw [encD_app]; rfl, encD_bytes]
def ownD : List Dcl -> AVal
 | [] => .dat nl
 | t :: r => .own (encD (t :: r))
noncomputable def hDecls : Hints := ⟨xmoves, ord19, xcaps, rowsOf xcaps 19⟩
def stD (cs : List Dat) (es : List (Go.Value × Dat)) (n : Nat) (pre : List Dcl) (i : Int) : FState := ⟨[(11, iv i), (10, iv (Int.ofNat n)), (9, .win (.out 2) 8 0 n), (3, ownD pre)], [], hG 2 (av cs) es n, 3⟩
def stDX (cs : List Dat) (es : List (Go.Value × Dat)) (n : Nat) (pre : List Dcl) (i : Int) : FState := ⟨[(12, bv false), (11, iv i), (10, iv (Int.ofNat n)), (9, .win (.out 2) 8 0 n), (3, ownD pre)], [], hG 2 (av cs) es n, 3⟩
theorem decls_round {cs : List Dat} {es : List (Go.Value × Dat)} {n i : Nat} {pre : List Dcl} {t : Dcl} (hi : i < n) (h2 : aIndexAddr (env Prims.fast) 23 [.win (.out 2) 8 0 n, iv (Int.ofNat i)] = some ⟨.ptr (.out 2) (0 + i * 8), .keep⟩)
  (h3 : aLoad (env Prims.fast) false 35 [.ptr (.out 2) (0 + i * 8)] (some (.cells (av cs))) = some ⟨.dat t.enc, .keep⟩) (hc : Calls1 53 [.dat t.enc] (.dat t.enc)) (hp : pre.length < 1000000000) {T : Exit -> AState -> Prop}
  (e : T .normal ((stD cs es n (pre ++ [t]) (wrapF .i64 (Int.ofNat i + 1))).toA Tryz.f19.ntmps)) :
  KD (roundOf Tryz.f19 0) T ((stD cs es n pre (Int.ofNat i)).toA Tryz.f19.ntmps) := by
 have h1 := ltF_yes hi
 have h4 := appD (t := t) hp
 clear hi hp
 obtain ⟨nm, ar, ⟨k, tn, ix, la⟩, con, fl⟩ := t
 rcases la with _ | ⟨x, la⟩ <;>
 ·rcases fl with _ | ⟨y, fl⟩ <;>
  ·rcases pre with _ | ⟨z, pre⟩ <;>
   ·refine run_of [12] [13, 14, 19] (H := hDecls) (live := live19) (by kernel_rfl) ?_; refine ob h1 ?_; refine oo h2 ?_; refine oo h3 ?_; refine on hc ?_; refine oo h4 ?_; exact oe e
theorem decls_last {cs : List Dat} {es : List (Go.Value × Dat)} {n : Nat} {pre : List Dcl} {T : Exit -> AState -> Prop} (e : T (.exit 0) ((stDX cs es n pre (Int.ofNat n)).toA Tryz.f19.ntmps)) :
  KD (roundOf Tryz.f19 0) T ((stD cs es n pre (Int.ofNat n)).toA Tryz.f19.ntmps) := by
 have h1 := ltF_no (i := n) (L := n) (by omega)
 rcases pre with _ | ⟨z, pre⟩ <;>
 ·refine run_of [12] [] (H := hDecls) (live := live19) (by kernel_rfl) ?_; refine ob h1 ?_; exact oe e
theorem decls_all {cs : List Dat} {es : List (Go.Value × Dat)} {n : Nat} {pre : List Dcl} (h0 : aLen (env Prims.fast) 23 [.win (.out 2) 8 0 n] none = some ⟨iv (Int.ofNat n), .keep⟩)
  (hl : KD (.loop (roundOf Tryz.f19 0)) (fun e s => e = .exit 0 /\ s = (stDX cs es n pre (Int.ofNat n)).toA Tryz.f19.ntmps) ((stD cs es n [] (Int.ofNat 0)).toA Tryz.f19.ntmps)) : CallsR 19 [hP] cs es n (ownD pre) := by
 rcases pre with _ | ⟨z, pre⟩ <;>
 ·refine call_of0 [] [10] (x := XFn.of Tryz.f19 ord19 live19) (by kernel_rfl) ?_; refine oo h0 ?_; refine lo hl ?_; rintro ex s ⟨rfl, rfl⟩; refine ⟨_, rfl, ?_⟩; exact fi
theorem c_Decls (r m : Nat) (pre : Heap) {ds : List Dcl} {tl : List Dat} (hds : ∀ o ∈ ds, o.fine) (hn : ds.length < 1000) : KC 19 [hP] (pre ++ hH r ds tl) m (XQ ⟨ownD ds, pre ++ hH r ds tl, m⟩) := by
 have h : CallsR 19 [hP] (rowC ds ++ tl) (idxD ds 0) ds.length (ownD ds) := by
  refine decls_all (len_win (by simp only [lim]; omega)) ?_
  refine loop_count (St := fun i => (stD (rowC ds ++ tl) (idxD ds 0) ds.length (ds.take i) (Int.ofNat i)).toA Tryz.f19.ntmps) ds.length ?_ ?_ (i := 0) (Nat.zero_le _)
  ·intro i hi
   have ht : ds[i]? = some ds[i] := List.getElem?_eq_getElem hi
   have hm : ds[i] ∈ ds := List.getElem_mem hi
   generalize ds[i] = t at ht hm
   refine decls_round hi (idx_win hi) (load_row ht) (c_cloneDecl (hds t hm)) (by rw [List.length_take]; omega) ?_
   rw [wrap_of (by omega), ← take_get ht]
   rfl
  refine decls_last ⟨rfl, ?_⟩
  rw [List.take_length]
 cases ds with
 | nil => exact ro_move rfl rfl rfl pre h
 | cons d ds => exact ro_move rfl rfl rfl pre h
theorem g_Var (i : Int) : Calls1 47 [iv i] (.dat (Ty.mk 5 [] i []).enc) := by
 refine co [] [] (x := .of Tryz.f47 ord47 live47) ?_; exact fi
theorem g_Any : Calls1 82 [] (.dat (Ty.mk 0 [] 0 []).enc) := by
 refine co [] [] (x := .of Tryz.f82 ord82 live82) ?_; exact fi
theorem g_Never : Calls1 86 [] (.dat (Ty.mk 1 [] 0 []).enc) := by
 refine co [] [] (x := .of Tryz.f86 ord86 live86) ?_; exact fi
theorem g_Named0 (nm : List UInt8) : Calls1 46 [.dat (sb nm), .dat nl] (.dat (Ty.mk 2 nm 0 []).enc) := by
 refine co [] [] (x := .of Tryz.f46 ord46 live46) ?_; exact fi
theorem g_NamedA (nm : List UInt8) (x : Dat) (l : List Dat) : Calls1 46 [.dat (sb nm), .dat (.slice (x :: l))] (.dat (.agg [i64 2, sb nm, i64 0, .slice (x :: l)])) := by
 refine co [] [] (x := .of Tryz.f46 ord46 live46) ?_; exact fi
theorem g_Union (x : Dat) (l : List Dat) : Calls1 84 [.dat (.slice (x :: l))] (.dat (.agg [i64 4, sb [], i64 0, .slice (x :: l)])) := by
 refine co [] [] (x := .of Tryz.f84 ord84 live84) ?_; exact fi
theorem g_Exists (t u : Ty) : Calls1 85 [.dat t.enc, .dat u.enc] (.dat (Ty.mk 6 [] 0 [t, u]).enc) := by
 refine co [] [] (x := .of Tryz.f85 ord85 live85) ?_
 obtain ⟨v0, v1, v2, v3⟩ := t
 rcases v3 with _ | ⟨v10, v11⟩
 ·obtain ⟨v4, v5, v6, v7⟩ := u
  rcases v7 with _ | ⟨v8, v9⟩ <;>
  ·exact fi
 obtain ⟨v12, v13, v14, v15⟩ := u
 rcases v15 with _ | ⟨v16, v17⟩ <;>
 ·exact fi
theorem encS_get {L : List (List UInt8)} {i : Nat} {b : List UInt8} (h : L[i]? = some b) : (encS L)[i]? = some (sb b) := by simp [encS, h, sb]
noncomputable def tiS : TI := match Go.Tp.elemOf (env Prims.fast) 60 with | some t => t | none => default
theorem tiS_eq : Go.Tp.elemOf (env Prims.fast) 60 = some tiS := by kernel_rfl
theorem tiS_size : tiS.size = 1 := by kernel_rfl
theorem idxS {L : List (List UInt8)} {i : Nat} {b : List UInt8} (h : L[i]? = some b) : aIndexAddr (env Prims.fast) 60 [.dat (.slice (encS L)), .dat (.flat (.int .i64 (Int.ofNat i)))] = some ⟨.ref [sb b], .keep⟩ :=
 ans_idx tiS_eq rfl (encS_get h) (by rw [tiS_size]; rfl) (by rw [tiS_size]; decide)
theorem idxDs {l : List Dcl} {i : Nat} {t : Dcl} (h : l[i]? = some t) : aIndexAddr (env Prims.fast) 23 [.dat (.slice (encD l)), .dat (.flat (.int .i64 (Int.ofNat i)))] = some ⟨.ref t.cells, .keep⟩ :=
 ans_idx tiD_eq rfl (encD_get h) (by rw [tiD_size]; exact dcells t) (by rw [tiD_size]; decide)
theorem named_lo {l ds : List Dat} {k k2 : Int} {r v dp : Int} {b : List UInt8} (h1 : KC 64 [stP0, iv (wrapF .i64 (Int.ofNat ds.length + 4))] (hSt l k) 1 (XQ ⟨iv r, hSt l k2, 1⟩)) (h2 : ltF r 4 = true)
  (hi : aIndexAddr (env Prims.fast) 60 [.dat (.slice (encS leafN)), .dat (.flat (.int .i64 r))] = some ⟨.ref [sb b], .keep⟩) :
  KC 83 [stP0, .dat (.slice ds), iv dp, iv v] (hSt l k) 1 (XQ ⟨.dat (Ty.mk 2 b 0 []).enc, hSt l k2, 1⟩) := by
 have h3 := g_Named0 b
 refine co [19] [22] (x := .of Tryz.f83 ord83 live83) ?_; refine oh h1 ?_; refine ob h2 ?_; refine oo hi ?_; refine on h3 ?_; exact fi
noncomputable def hNamed : Hints := ⟨xmoves, ord83, xcaps, rowsOf xcaps 83⟩
def loN (lo : Heap) (nm : List UInt8) (pre : List Ty) : Heap := (.loc 11, .cells [iv 2, .dat (sb nm), iv 0, ownT pre]) :: lo
def loN2 (cs : List AVal) : Heap := [(.loc 10, .cells cs), (.loc 8, .cells [iv 0, .dat (sb []), iv 0, .dat nl])]
def stNm (lo : Heap) (l ds : List Dat) (dp v K i : Int) : FState := ⟨[(12, iv i), (11, .ptr (.loc 11) 0), (10, .ptr (.loc 10) 0), (8, .ptr (.loc 8) 0), (0, stP0), (1, .dat (.slice ds)), (2, iv dp), (3, iv v)], lo, hSt l K, 1⟩
def stNmX (lo : Heap) (l ds : List Dat) (dp v K i : Int) : FState := ⟨[(36, bv false), (12, iv i), (11, .ptr (.loc 11) 0), (10, .ptr (.loc 10) 0), (8, .ptr (.loc 8) 0), (0, stP0), (1, .dat (.slice ds)), (2, iv dp), (3, iv v)], lo, hSt l K, 1⟩
theorem nm_round {l ds : List Dat} {dp v K K2 ar i kk ix : Int} {nm tn : List UInt8} {con : Bool} {la lb : List Dat} {pre : List Ty} {t : Ty} (h1 : ltF i ar = true)
  (h2 : KC 65 [stP0, .dat (.slice ds), iv (wrapF .i64 (dp - 1)), iv v] (hSt l K) 1 (XQ ⟨.dat t.enc, hSt l K2, 1⟩)) (hp : pre.length < 1000000000) {T : Exit -> AState -> Prop}
  (e : T .normal ((stNm (loN (loN2 (cellsD nm ar kk tn ix la con lb)) nm (pre ++ [t])) l ds dp v K2 (wrapF .i64 (i + 1))).toA Tryz.f83.ntmps)) :
  KD (roundOf Tryz.f83 0) T ((stNm (loN (loN2 (cellsD nm ar kk tn ix la con lb)) nm pre) l ds dp v K i).toA Tryz.f83.ntmps) := by
 have h3 := appT (t := t) hp
 clear hp
 rcases pre with _ | ⟨d, r⟩ <;>
 ·refine run_of [36] [48] (H := hNamed) (live := live83) (by kernel_rfl) ?_; refine ob h1 ?_; refine oh h2 ?_
  obtain ⟨v0, v1, v2, v3⟩ := t
  refine oo h3 ?_; exact oe e
theorem nm_last {l ds : List Dat} {dp v K ar i kk ix : Int} {nm tn : List UInt8} {con : Bool} {la lb : List Dat} {pre : List Ty} (h1 : ltF i ar = false) {T : Exit -> AState -> Prop}
  (e : T (.exit 0) ((stNmX (loN (loN2 (cellsD nm ar kk tn ix la con lb)) nm pre) l ds dp v K i).toA Tryz.f83.ntmps)) :
  KD (roundOf Tryz.f83 0) T ((stNm (loN (loN2 (cellsD nm ar kk tn ix la con lb)) nm pre) l ds dp v K i).toA Tryz.f83.ntmps) := by
 rcases pre with _ | ⟨d, r⟩ <;>
 ·refine run_of [36] [] (H := hNamed) (live := live83) (by kernel_rfl) ?_; refine ob h1 ?_; exact oe e
theorem named_hi {l : List Dat} {ds : List Dat} {k k2 k3 : Int} {r v dp : Int} {nm tn : List UInt8} {ar kk ix ie : Int} {con : Bool} {la lb : List Dat} {ts : List Ty} (h1 : KC 64 [stP0, iv (wrapF .i64 (Int.ofNat ds.length + 4))] (hSt l k) 1 (XQ ⟨iv r, hSt l k2, 1⟩)) (h2 : ltF r 4 = false)
  (hi : aIndexAddr (env Prims.fast) 23 [.dat (.slice ds), .dat (.flat (.int .i64 (wrapF .i64 (r - 4))))] = some ⟨.ref [sb nm, i64 ar, i64 kk, sb tn, i64 ix, sl la, bl con, sl lb], .keep⟩)
  (hl : KD (.loop (roundOf Tryz.f83 0)) (fun e s => e = .exit 0 /\ s = (stNmX (loN (loN2 (cellsD nm ar kk tn ix la con lb)) nm ts) l ds dp v k3 ie).toA Tryz.f83.ntmps) ((stNm (loN (loN2 (cellsD nm ar kk tn ix la con lb)) nm []) l ds dp v k2 0).toA Tryz.f83.ntmps)) :
  KC 83 [stP0, .dat (.slice ds), iv dp, iv v] (hSt l k) 1 (XQ ⟨.dat (Ty.mk 2 nm 0 ts).enc, hSt l k3, 1⟩) := by
 have q1 := st_decl 10 nm ar kk tn ix la con lb
 rcases ts with _ | ⟨t, ts⟩ <;>
 ·refine co [19] [28, 100010] (x := .of Tryz.f83 ord83 live83) ?_; refine oh h1 ?_; refine ob h2 ?_; refine oo hi ?_; refine oo q1 ?_; refine lo hl ?_; rintro ex s ⟨rfl, rfl⟩; refine ⟨_, rfl, ?_⟩; exact fi
theorem arg_var {l ds : List Dat} {k k2 k3 r v dp i : Int} (h1 : KC 64 [stP0, iv 6] (hSt l k) 1 (XQ ⟨iv r, hSt l k2, 1⟩)) (h2 : ltF r 2 = true) (h3 : ltF 0 v = true) (h4 : KC 64 [stP0, iv v] (hSt l k2) 1 (XQ ⟨iv i, hSt l k3, 1⟩)) :
  KC 65 [stP0, .dat (.slice ds), iv dp, iv v] (hSt l k) 1 (XQ ⟨.dat (Ty.mk 5 [] i []).enc, hSt l k3, 1⟩) := by
 have h5 := g_Var i
 refine co [14, 17] [] (x := .of Tryz.f65 ord65 live65) ?_; refine oh h1 ?_; refine ob h2 ?_; refine ob h3 ?_; refine oh h4 ?_; refine on h5 ?_; exact fi
theorem arg_leaf {l ds : List Dat} {k k2 k3 r v dp i : Int} {b : List UInt8} {c2 c3 : Bool} (h1 : KC 64 [stP0, iv 6] (hSt l k) 1 (XQ ⟨iv r, hSt l k2, 1⟩)) (h2 : ltF r 2 = c2) (h3 : ltF 0 v = c3) (hc : c2 = true -> c3 = false) (hd : ltF 0 dp = false) (h4 : KC 64 [stP0, iv 4] (hSt l k2) 1 (XQ ⟨iv i, hSt l k3, 1⟩))
  (hi : aIndexAddr (env Prims.fast) 60 [.dat (.slice (encS leafN)), .dat (.flat (.int .i64 i))] = some ⟨.ref [sb b], .keep⟩) :
  KC 65 [stP0, .dat (.slice ds), iv dp, iv v] (hSt l k) 1 (XQ ⟨.dat (Ty.mk 2 b 0 []).enc, hSt l k3, 1⟩) := by
 have h5 := g_Named0 b
 cases c2
 ·refine co [14, 25] [29] (x := .of Tryz.f65 ord65 live65) ?_; refine oh h1 ?_; refine ob h2 ?_; refine ox hd ?_; refine oh h4 ?_; refine oo hi ?_; refine on h5 ?_; exact fi
 obtain rfl := hc rfl
 refine co [14, 17, 25] [29] (x := .of Tryz.f65 ord65 live65) ?_; refine oh h1 ?_; refine ob h2 ?_; refine ob h3 ?_; refine ox hd ?_; refine oh h4 ?_; refine oo hi ?_; refine on h5 ?_; exact fi
theorem arg_named {l ds : List Dat} {k k2 k3 r v dp : Int} {t : Ty} {c2 c3 : Bool} (h1 : KC 64 [stP0, iv 6] (hSt l k) 1 (XQ ⟨iv r, hSt l k2, 1⟩)) (h2 : ltF r 2 = c2) (h3 : ltF 0 v = c3) (hc : c2 = true -> c3 = false) (hd : ltF 0 dp = true) (h4 : ltF r 4 = true)
  (h5 : KC 83 [stP0, .dat (.slice ds), iv dp, iv v] (hSt l k2) 1 (XQ ⟨.dat t.enc, hSt l k3, 1⟩)) :
  KC 65 [stP0, .dat (.slice ds), iv dp, iv v] (hSt l k) 1 (XQ ⟨.dat t.enc, hSt l k3, 1⟩) := by
 obtain ⟨ek, en, ei, ea⟩ := t
 cases c2
 ·rcases ea with _ | ⟨x, ea⟩ <;>
  ·refine co [14, 25, 34] [] (x := .of Tryz.f65 ord65 live65) ?_; refine oh h1 ?_; refine ob h2 ?_; refine ox hd ?_; refine ob h4 ?_; refine oh h5 ?_; exact fi
 obtain rfl := hc rfl
 rcases ea with _ | ⟨x, ea⟩ <;>
 ·refine co [14, 17, 25, 34] [] (x := .of Tryz.f65 ord65 live65) ?_; refine oh h1 ?_; refine ob h2 ?_; refine ob h3 ?_; refine ox hd ?_; refine ob h4 ?_; refine oh h5 ?_; exact fi
theorem arg_term {l ds : List Dat} {k k2 k3 r v dp : Int} {t : Ty} (h1 : KC 64 [stP0, iv 6] (hSt l k) 1 (XQ ⟨iv r, hSt l k2, 1⟩)) (h2 : ltF r 2 = false) (hd : ltF 0 dp = true) (h4 : ltF r 4 = false)
  (h5 : KC 48 [stP0, .dat (.slice ds), iv (wrapF .i64 (dp - 1)), iv 0] (hSt l k2) 1 (XQ ⟨.dat t.enc, hSt l k3, 1⟩)) :
  KC 65 [stP0, .dat (.slice ds), iv dp, iv v] (hSt l k) 1 (XQ ⟨.dat t.enc, hSt l k3, 1⟩) := by
 obtain ⟨ek, en, ei, ea⟩ := t
 rcases ea with _ | ⟨x, ea⟩ <;>
 ·refine co [14, 25, 34] [] (x := .of Tryz.f65 ord65 live65) ?_; refine oh h1 ?_; refine ob h2 ?_; refine ox hd ?_; refine ob h4 ?_; refine oh h5 ?_; exact fi
abbrev NextT (l : List Dat) (k n r k2 : Int) : Prop := KC 64 [stP0, iv n] (hSt l k) 1 (XQ ⟨iv r, hSt l k2, 1⟩)
abbrev TermT (l ds : List Dat) (dp v k : Int) (d : Dat) (k2 : Int) : Prop := KC 48 [stP0, .dat (.slice ds), iv dp, iv v] (hSt l k) 1 (XQ ⟨.dat d, hSt l k2, 1⟩)
abbrev NamedT (l ds : List Dat) (dp v k : Int) (d : Dat) (k2 : Int) : Prop := KC 83 [stP0, .dat (.slice ds), iv dp, iv v] (hSt l k) 1 (XQ ⟨.dat d, hSt l k2, 1⟩)
theorem term_leaf0 {l ds : List Dat} {k k2 k3 v dp i : Int} {c : Bool} {b : List UInt8} (h1 : NextT l k 14 0 k2) (h2 : ltF 0 dp = c) (h4 : NextT l k2 4 i k3)
  (hi : aIndexAddr (env Prims.fast) 60 [.dat (.slice (encS leafN)), .dat (.flat (.int .i64 i))] = some ⟨.ref [sb b], .keep⟩) : TermT l ds dp v k (Ty.mk 2 b 0 []).enc k3 := by
 have h5 := g_Named0 b
 refine co [17] [29] (x := .of Tryz.f48 ord48 live48) ?_; refine oh h1 ?_; refine ox h2 ?_
 cases c <;>
 ·refine oh h4 ?_; refine oo hi ?_; refine on h5 ?_; exact fi
theorem term_leaf1 {l ds : List Dat} {k k2 k3 v dp i : Int} {c : Bool} {b : List UInt8} (h1 : NextT l k 14 1 k2) (h2 : ltF 0 dp = c) (h4 : NextT l k2 4 i k3)
  (hi : aIndexAddr (env Prims.fast) 60 [.dat (.slice (encS leafN)), .dat (.flat (.int .i64 i))] = some ⟨.ref [sb b], .keep⟩) : TermT l ds dp v k (Ty.mk 2 b 0 []).enc k3 := by
 have h5 := g_Named0 b
 refine co [17] [29] (x := .of Tryz.f48 ord48 live48) ?_; refine oh h1 ?_; refine ox h2 ?_
 cases c <;>
 ·refine oh h4 ?_; refine oo hi ?_; refine on h5 ?_; exact fi
theorem term_deep {l ds : List Dat} {k k2 k3 v dp i r : Int} {b : List UInt8} (h1 : NextT l k 14 r k2) (h2 : ltF 0 dp = false) (h3 : ltF 5 r = true) (h4 : NextT l k2 4 i k3)
  (hi : aIndexAddr (env Prims.fast) 60 [.dat (.slice (encS leafN)), .dat (.flat (.int .i64 i))] = some ⟨.ref [sb b], .keep⟩) : TermT l ds dp v k (Ty.mk 2 b 0 []).enc k3 := by
 have h5 := g_Named0 b
 refine co [17, 20] [29] (x := .of Tryz.f48 ord48 live48) ?_; refine oh h1 ?_; refine ox h2 ?_; refine ob h3 ?_; refine oh h4 ?_; refine oo hi ?_; refine on h5 ?_; exact fi
theorem term_any {l ds : List Dat} {k k2 v dp : Int} {c : Bool} (h1 : NextT l k 14 2 k2) (h2 : ltF 0 dp = c) : TermT l ds dp v k (Ty.mk 0 [] 0 []).enc k2 := by
 have h5 := g_Any
 refine co [17] [] (x := .of Tryz.f48 ord48 live48) ?_; refine oh h1 ?_; refine ox h2 ?_
 cases c <;>
 ·refine on h5 ?_; exact fi
theorem term_var3 {l ds : List Dat} {k k2 k3 v dp i : Int} {c : Bool} (h1 : NextT l k 14 3 k2) (h2 : ltF 0 dp = c) (h3 : ltF 0 v = true) (h4 : NextT l k2 v i k3) : TermT l ds dp v k (Ty.mk 5 [] i []).enc k3 := by
 have h5 := g_Var i
 refine co [17, 39] [] (x := .of Tryz.f48 ord48 live48) ?_; refine oh h1 ?_; refine ox h2 ?_
 cases c <;>
 ·refine ob h3 ?_; refine oh h4 ?_; refine on h5 ?_; exact fi
theorem term_nam3 {l ds : List Dat} {k k2 k3 v dp : Int} {c : Bool} {t : Ty} (h1 : NextT l k 14 3 k2) (h2 : ltF 0 dp = c) (h3 : ltF 0 v = false) (h4 : NamedT l ds dp v k2 t.enc k3) : TermT l ds dp v k t.enc k3 := by
 obtain ⟨ek, en, ei, ea⟩ := t
 rcases ea with _ | ⟨x, ea⟩ <;>
 ·refine co [17, 39] [] (x := .of Tryz.f48 ord48 live48) ?_; refine oh h1 ?_; refine ox h2 ?_
  cases c <;>
  ·refine ob h3 ?_; refine oh h4 ?_; exact fi
theorem term_var4 {l ds : List Dat} {k k2 k3 v dp i : Int} {c : Bool} (h1 : NextT l k 14 4 k2) (h2 : ltF 0 dp = c) (h3 : ltF 0 v = true) (h4 : NextT l k2 v i k3) : TermT l ds dp v k (Ty.mk 5 [] i []).enc k3 := by
 have h5 := g_Var i
 refine co [17, 39] [] (x := .of Tryz.f48 ord48 live48) ?_; refine oh h1 ?_; refine ox h2 ?_
 cases c <;>
 ·refine ob h3 ?_; refine oh h4 ?_; refine on h5 ?_; exact fi
theorem term_nam4 {l ds : List Dat} {k k2 k3 v dp : Int} {c : Bool} {t : Ty} (h1 : NextT l k 14 4 k2) (h2 : ltF 0 dp = c) (h3 : ltF 0 v = false) (h4 : NamedT l ds dp v k2 t.enc k3) : TermT l ds dp v k t.enc k3 := by
 obtain ⟨ek, en, ei, ea⟩ := t
 rcases ea with _ | ⟨x, ea⟩ <;>
 ·refine co [17, 39] [] (x := .of Tryz.f48 ord48 live48) ?_; refine oh h1 ?_; refine ox h2 ?_
  cases c <;>
  ·refine ob h3 ?_; refine oh h4 ?_; exact fi
theorem term_nam5 {l ds : List Dat} {k k2 k3 v dp : Int} {c : Bool} {t : Ty} (h1 : NextT l k 14 5 k2) (h2 : ltF 0 dp = c) (h4 : NamedT l ds dp v k2 t.enc k3) : TermT l ds dp v k t.enc k3 := by
 obtain ⟨ek, en, ei, ea⟩ := t
 rcases ea with _ | ⟨x, ea⟩ <;>
 ·refine co [17] [] (x := .of Tryz.f48 ord48 live48) ?_; refine oh h1 ?_; refine ox h2 ?_
  cases c <;>
  ·refine oh h4 ?_; exact fi
theorem term_nam6 {l ds : List Dat} {k k2 k3 v dp : Int} {t : Ty} (h1 : NextT l k 14 6 k2) (h2 : ltF 0 dp = true) (h4 : NamedT l ds dp v k2 t.enc k3) : TermT l ds dp v k t.enc k3 := by
 obtain ⟨ek, en, ei, ea⟩ := t
 rcases ea with _ | ⟨x, ea⟩ <;>
 ·refine co [17] [] (x := .of Tryz.f48 ord48 live48) ?_; refine oh h1 ?_; refine ox h2 ?_; refine oh h4 ?_; exact fi
theorem term_nam7 {l ds : List Dat} {k k2 k3 v dp : Int} {t : Ty} (h1 : NextT l k 14 7 k2) (h2 : ltF 0 dp = true) (h4 : NamedT l ds dp v k2 t.enc k3) : TermT l ds dp v k t.enc k3 := by
 obtain ⟨ek, en, ei, ea⟩ := t
 rcases ea with _ | ⟨x, ea⟩ <;>
 ·refine co [17] [] (x := .of Tryz.f48 ord48 live48) ?_; refine oh h1 ?_; refine ox h2 ?_; refine oh h4 ?_; exact fi
theorem term_un8 {l ds : List Dat} {k k2 k3 k4 v dp : Int} {t u : Ty} (h1 : NextT l k 14 8 k2) (h2 : ltF 0 dp = true) (h4 : TermT l ds (wrapF .i64 (dp - 1)) v k2 t.enc k3) (h5 : TermT l ds (wrapF .i64 (dp - 1)) v k3 u.enc k4) : TermT l ds dp v k (Ty.mk 4 [] 0 [t, u]).enc k4 := by
 have h6 := g_Union t.enc [u.enc]
 obtain ⟨ek, en, ei, ea⟩ := t
 obtain ⟨uk, un, ui, ua⟩ := u
 rcases ea with _ | ⟨x, ea⟩ <;>
 ·rcases ua with _ | ⟨y, ua⟩ <;>
  ·refine co [17] [] (x := .of Tryz.f48 ord48 live48) ?_; refine oh h1 ?_; refine ox h2 ?_; refine oh h4 ?_; refine oh h5 ?_; refine on h6 ?_; exact fi
theorem term_un9 {l ds : List Dat} {k k2 k3 k4 v dp : Int} {t u : Ty} (h1 : NextT l k 14 9 k2) (h2 : ltF 0 dp = true) (h4 : TermT l ds (wrapF .i64 (dp - 1)) v k2 t.enc k3) (h5 : TermT l ds (wrapF .i64 (dp - 1)) v k3 u.enc k4) : TermT l ds dp v k (Ty.mk 4 [] 0 [t, u]).enc k4 := by
 have h6 := g_Union t.enc [u.enc]
 obtain ⟨ek, en, ei, ea⟩ := t
 obtain ⟨uk, un, ui, ua⟩ := u
 rcases ea with _ | ⟨x, ea⟩ <;>
 ·rcases ua with _ | ⟨y, ua⟩ <;>
  ·refine co [17] [] (x := .of Tryz.f48 ord48 live48) ?_; refine oh h1 ?_; refine ox h2 ?_; refine oh h4 ?_; refine oh h5 ?_; refine on h6 ?_; exact fi
noncomputable def hTerm : Hints := ⟨xmoves, ord48, xcaps, rowsOf xcaps 48⟩
def loTp (pre : List Ty) : Heap := [(.loc 10, .cells [iv 3, .dat (sb []), iv 0, ownT pre]), (.loc 8, .cells [iv 0, .dat (sb []), iv 0, .dat nl])]
def stTp (l ds : List Dat) (dp v n K i : Int) (pre : List Ty) : FState := ⟨[(12, iv i), (11, iv n), (10, .ptr (.loc 10) 0), (8, .ptr (.loc 8) 0), (0, stP0), (1, .dat (.slice ds)), (2, iv dp), (3, iv v)], loTp pre, hSt l K, 1⟩
def stTpX (l ds : List Dat) (dp v n K i : Int) (pre : List Ty) : FState := ⟨[(83, bv false), (12, iv i), (11, iv n), (10, .ptr (.loc 10) 0), (8, .ptr (.loc 8) 0), (0, stP0), (1, .dat (.slice ds)), (2, iv dp), (3, iv v)], loTp pre, hSt l K, 1⟩
theorem tp_round {l ds : List Dat} {dp v n K K2 i : Int} {pre : List Ty} {t : Ty} (h1 : ltF i n = true) (h2 : TermT l ds (wrapF .i64 (dp - 1)) v K t.enc K2) (hp : pre.length < 1000000000) {T : Exit -> AState -> Prop}
  (e : T .normal ((stTp l ds dp v n K2 (wrapF .i64 (i + 1)) (pre ++ [t])).toA Tryz.f48.ntmps)) :
  KD (roundOf Tryz.f48 0) T ((stTp l ds dp v n K i pre).toA Tryz.f48.ntmps) := by
 have h3 := appT (t := t) hp
 clear hp
 rcases pre with _ | ⟨d, r⟩ <;>
 ·refine run_of [83] [95] (H := hTerm) (live := live48) (by kernel_rfl) ?_; refine ob h1 ?_; refine oh h2 ?_
  obtain ⟨v0, v1, v2, v3⟩ := t
  refine oo h3 ?_; exact oe e
theorem tp_last {l ds : List Dat} {dp v n K i : Int} {pre : List Ty} (h1 : ltF i n = false) {T : Exit -> AState -> Prop}
  (e : T (.exit 1) ((stTpX l ds dp v n K i pre).toA Tryz.f48.ntmps)) :
  KD (roundOf Tryz.f48 0) T ((stTp l ds dp v n K i pre).toA Tryz.f48.ntmps) := by
 rcases pre with _ | ⟨d, r⟩ <;>
 ·refine run_of [83] [] (H := hTerm) (live := live48) (by kernel_rfl) ?_; refine ob h1 ?_; exact oe e
theorem term_tup10 {l ds : List Dat} {k k2 k3 k4 v dp n ie : Int} {ts : List Ty} (h1 : NextT l k 14 10 k2) (h2 : ltF 0 dp = true) (h4 : NextT l k2 4 n k3)
  (hl : KD (.loop (roundOf Tryz.f48 0)) (fun e s => e = .exit 1 /\ s = (stTpX l ds dp v n k4 ie ts).toA Tryz.f48.ntmps) ((stTp l ds dp v n k3 0 []).toA Tryz.f48.ntmps)) : TermT l ds dp v k (Ty.mk 3 [] 0 ts).enc k4 := by
 rcases ts with _ | ⟨x, ea⟩ <;>
 ·refine co [17] [] (x := .of Tryz.f48 ord48 live48) ?_; refine oh h1 ?_; refine ox h2 ?_; refine oh h4 ?_; refine lo hl ?_; rintro ex s ⟨rfl, rfl⟩; refine ⟨_, rfl, ?_⟩; exact fi
theorem term_tup11 {l ds : List Dat} {k k2 k3 k4 v dp n ie : Int} {ts : List Ty} (h1 : NextT l k 14 11 k2) (h2 : ltF 0 dp = true) (h4 : NextT l k2 4 n k3)
  (hl : KD (.loop (roundOf Tryz.f48 0)) (fun e s => e = .exit 1 /\ s = (stTpX l ds dp v n k4 ie ts).toA Tryz.f48.ntmps) ((stTp l ds dp v n k3 0 []).toA Tryz.f48.ntmps)) : TermT l ds dp v k (Ty.mk 3 [] 0 ts).enc k4 := by
 rcases ts with _ | ⟨x, ea⟩ <;>
 ·refine co [17] [] (x := .of Tryz.f48 ord48 live48) ?_; refine oh h1 ?_; refine ox h2 ?_; refine oh h4 ?_; refine lo hl ?_; rintro ex s ⟨rfl, rfl⟩; refine ⟨_, rfl, ?_⟩; exact fi
theorem term_exA {l ds : List Dat} {k k2 k3 k4 v dp : Int} {u : Ty} (h1 : NextT l k 14 12 k2) (h2 : ltF 0 dp = true) (h4 : NextT l k2 2 0 k3) (h5 : TermT l ds (wrapF .i64 (dp - 1)) (wrapF .i64 (v + 1)) k3 u.enc k4) : TermT l ds dp v k (Ty.mk 6 [] 0 [.mk 0 [] 0 [], u]).enc k4 := by
 have h6 := g_Any
 have h7 := g_Exists (.mk 0 [] 0 []) u
 obtain ⟨uk, un, ui, ua⟩ := u
 rcases ua with _ | ⟨y, ua⟩ <;>
 ·refine co [17] [] (x := .of Tryz.f48 ord48 live48) ?_; refine oh h1 ?_; refine ox h2 ?_; refine on h6 ?_; refine oh h4 ?_; refine oh h5 ?_; refine on h7 ?_; exact fi
theorem term_exB {l ds : List Dat} {k k2 k3 k4 k5 v dp : Int} {t u : Ty} (h1 : NextT l k 14 12 k2) (h2 : ltF 0 dp = true) (h3 : NextT l k2 2 1 k3) (h4 : TermT l ds 1 0 k3 t.enc k4) (h5 : TermT l ds (wrapF .i64 (dp - 1)) (wrapF .i64 (v + 1)) k4 u.enc k5) : TermT l ds dp v k (Ty.mk 6 [] 0 [t, u]).enc k5 := by
 have h6 := g_Any
 have h7 := g_Exists t u
 obtain ⟨ek, en, ei, ea⟩ := t
 obtain ⟨uk, un, ui, ua⟩ := u
 rcases ea with _ | ⟨x, ea⟩ <;>
 ·rcases ua with _ | ⟨y, ua⟩ <;>
  ·refine co [17] [] (x := .of Tryz.f48 ord48 live48) ?_; refine oh h1 ?_; refine ox h2 ?_; refine on h6 ?_; refine oh h3 ?_; refine oh h4 ?_; refine oh h5 ?_; refine on h7 ?_; exact fi
theorem term_never {l ds : List Dat} {k k2 k3 v dp : Int} (h1 : NextT l k 14 13 k2) (h2 : ltF 0 dp = true) (h4 : NextT l k2 4 0 k3) : TermT l ds dp v k (Ty.mk 1 [] 0 []).enc k3 := by
 have h6 := g_Never
 refine co [17] [] (x := .of Tryz.f48 ord48 live48) ?_; refine oh h1 ?_; refine ox h2 ?_; refine oh h4 ?_; refine on h6 ?_; exact fi
def boxV : Ty := .mk 6 [] 0 [.mk 0 [] 0 [], .mk 2 [66, 111, 120] 0 [.mk 5 [] 0 []]]
theorem term_box1 {l ds : List Dat} {k k2 k3 v dp : Int} (h1 : NextT l k 14 13 k2) (h2 : ltF 0 dp = true) (h4 : NextT l k2 4 1 k3) : TermT l ds dp v k boxV.enc k3 := by
 have h5 := g_Any
 have h6 := g_Var 0
 have h7 := g_NamedA [66, 111, 120] (Ty.mk 5 [] 0 []).enc []
 have h8 := g_Exists (.mk 0 [] 0 []) (.mk 2 [66, 111, 120] 0 [.mk 5 [] 0 []])
 refine co [17] [] (x := .of Tryz.f48 ord48 live48) ?_; refine oh h1 ?_; refine ox h2 ?_; refine oh h4 ?_; refine on h5 ?_; refine on h6 ?_; refine on h7 ?_; refine on h8 ?_; exact fi
theorem term_box2 {l ds : List Dat} {k k2 k3 v dp : Int} (h1 : NextT l k 14 13 k2) (h2 : ltF 0 dp = true) (h4 : NextT l k2 4 2 k3) : TermT l ds dp v k boxV.enc k3 := by
 have h5 := g_Any
 have h6 := g_Var 0
 have h7 := g_NamedA [66, 111, 120] (Ty.mk 5 [] 0 []).enc []
 have h8 := g_Exists (.mk 0 [] 0 []) (.mk 2 [66, 111, 120] 0 [.mk 5 [] 0 []])
 refine co [17] [] (x := .of Tryz.f48 ord48 live48) ?_; refine oh h1 ?_; refine ox h2 ?_; refine oh h4 ?_; refine on h5 ?_; refine on h6 ?_; refine on h7 ?_; refine on h8 ?_; exact fi
theorem term_box3 {l ds : List Dat} {k k2 k3 v dp : Int} (h1 : NextT l k 14 13 k2) (h2 : ltF 0 dp = true) (h4 : NextT l k2 4 3 k3) : TermT l ds dp v k boxV.enc k3 := by
 have h5 := g_Any
 have h6 := g_Var 0
 have h7 := g_NamedA [66, 111, 120] (Ty.mk 5 [] 0 []).enc []
 have h8 := g_Exists (.mk 0 [] 0 []) (.mk 2 [66, 111, 120] 0 [.mk 5 [] 0 []])
 refine co [17] [] (x := .of Tryz.f48 ord48 live48) ?_; refine oh h1 ?_; refine ox h2 ?_; refine oh h4 ?_; refine on h5 ?_; refine on h6 ?_; refine on h7 ?_; refine on h8 ?_; exact fi
mutual
/-- Each named term in it has a name and a number of arguments that P allows. -/
def Ty.from (P : List UInt8 -> Nat -> Prop) : Ty -> Prop
 | .mk k nm _ args => (k = 2 -> P nm args.length) /\ fromL P args
def fromL (P : List UInt8 -> Nat -> Prop) : List Ty -> Prop
 | [] => True
 | t :: r => t.from P /\ fromL P r
end
theorem fromL_of {P : List UInt8 -> Nat -> Prop} : ∀ {l : List Ty}, (∀ t ∈ l, t.from P) -> fromL P l
 | [], _ => trivial
 | t :: r, h => ⟨h t (by simp), fromL_of (fun x hx => h x (by simp [hx]))⟩
theorem ixOkL_of : ∀ {l : List Ty}, (∀ t ∈ l, t.ixOk) -> ixOkL l
 | [], _ => by simp [ixOkL]
 | t :: r, h => by simp only [ixOkL]; exact ⟨h t (by simp), ixOkL_of (fun x hx => h x (by simp [hx]))⟩
/-- What the generator makes between two places of the stream. -/
structure GT (P : List UInt8 -> Nat -> Prop) (N : Nat) (t : Ty) (k k2 : Nat) : Prop where
 size : t.size + 4 * k <= 4 * k2 + 1
 ix : t.ixOk
 frm : t.from P
 le : k <= k2
 top : k2 <= N
def GR (l : List Int) (P : List UInt8 -> Nat -> Prop) (g : FuncId) (args : List AVal) (k : Nat) : Prop := ∃ t k2, GT P l.length t k k2 /\ KC g args (hSt (l.map iN) (Int.ofNat k)) 1 (XQ ⟨.dat t.enc, hSt (l.map iN) (Int.ofNat k2), 1⟩)
theorem chainT {l : List Int} {P : List UInt8 -> Nat -> Prop} {g : FuncId} {args : List AVal} {k : Nat} (hk : k <= l.length) (h : ∀ k', k <= k' -> k' <= l.length -> GR l P g args k') : ∀ n : Nat, ∃ (ts : List Ty) (ks : Nat -> Nat), ts.length = n /\ ks 0 = k /\ k <= ks n /\ ks n <= l.length /\ sizeL ts + 4 * k <= 4 * ks n + n /\ ixOkL ts /\ fromL P ts ∧
  ∀ i t, ts[i]? = some t -> KC g args (hSt (l.map iN) (Int.ofNat (ks i))) 1 (XQ ⟨.dat t.enc, hSt (l.map iN) (Int.ofNat (ks (i + 1))), 1⟩)
 | 0 => ⟨[], fun _ => k, rfl, rfl, Nat.le_refl _, hk, by simp [sizeL], by simp [ixOkL], trivial, fun i t h => by simp at h⟩
 | n + 1 => by
  obtain ⟨ts, ks, h1, h2, h3, h4, h5, h6, h7, h8⟩ := chainT hk h n
  obtain ⟨t, k2, ht, hc⟩ := h (ks n) h3 h4
  have hsz : sizeL (ts ++ [t]) = sizeL ts + t.size := by
   have := sizeL_take (l := ts ++ [t]) (i := n) (t := t) (by rw [← h1]; simp)
   rw [show (ts ++ [t]).take (n + 1) = ts ++ [t] from List.take_of_length_le (by simp; omega), show (ts ++ [t]).take n = ts by rw [← h1]; simp] at this
   exact this
  have hmem : ∀ {Q : Ty -> Prop}, (∀ x ∈ ts, Q x) -> Q t -> ∀ x ∈ ts ++ [t], Q x := by
   intro Q ha hb x hx
   rcases List.mem_append.1 hx with hx | hx
   ·exact ha x hx
   simp at hx; rw [hx]; exact hb
  have hto1 : ∀ {l : List Ty}, ixOkL l -> ∀ x ∈ l, x.ixOk := by
   intro l
   induction l with
   | nil => intro _ x hx; simp at hx
   | cons a r ih => intro h x hx; simp only [ixOkL] at h; rcases List.mem_cons.1 hx with rfl | hx; exact h.1; exact ih h.2 x hx
  have hto2 : ∀ {l : List Ty}, fromL P l -> ∀ x ∈ l, x.from P := by
   intro l
   induction l with
   | nil => intro _ x hx; simp at hx
   | cons a r ih => intro h x hx; simp only [fromL] at h; rcases List.mem_cons.1 hx with rfl | hx; exact h.1; exact ih h.2 x hx
  refine ⟨ts ++ [t], fun i => if i <= n then ks i else k2, by simp [h1], by simp [h2], ?_, ?_, ?_, ixOkL_of (hmem (hto1 h6) ht.ix), fromL_of (hmem (hto2 h7) ht.frm), ?_⟩
  ·have := ht.le; dsimp only; rw [if_neg (by omega : ¬ n + 1 <= n)]; omega
  ·have := ht.top; dsimp only; rw [if_neg (by omega : ¬ n + 1 <= n)]; omega
  ·have := ht.size; dsimp only; rw [if_neg (by omega : ¬ n + 1 <= n), hsz]; omega
  intro i u hu
  by_cases hi : i < n
  ·rw [List.getElem?_append_left (by omega)] at hu
   dsimp only
   rw [if_pos (by omega : i <= n), if_pos (by omega : i + 1 <= n)]
   exact h8 i u hu
  have hin : i = n := by
   have := (List.getElem?_eq_some_iff.1 hu).1
   simp at this; omega
  subst hin
  rw [List.getElem?_append_right (by omega), h1, Nat.sub_self] at hu
  simp at hu; subst hu
  dsimp only
  rw [if_pos (Nat.le_refl _), if_neg (by omega : ¬ i + 1 <= i)]
  exact hc
theorem lt_lit {a b : Nat} (h : a < b) : ltF (Int.ofNat a) (Int.ofNat b) = true := by rw [ltF_of, decide_eq_true h]
theorem ge_lit {a b : Nat} (h : ¬ a < b) : ltF (Int.ofNat a) (Int.ofNat b) = false := by rw [ltF_of, decide_eq_false h]
theorem pos_dp {dp : Int} (h : 0 < dp) : ltF 0 dp = true := by rw [ltF_eq, decide_eq_true h]
theorem neg_dp {dp : Int} (h : ¬ 0 < dp) : ltF 0 dp = false := by rw [ltF_eq, decide_eq_false h]
theorem wrap_pred {dp : Int} (h1 : 0 <= dp) (h2 : dp <= 100) : wrapF .i64 (dp - 1) = dp - 1 := by rw [wrapF_eq, wrap_i64 (by omega) (by omega)]
theorem leaf_of (i : Nat) (h : i < 4) : ∃ b, leafN[i]? = some b /\ b ∈ leafN := ⟨leafN[i], List.getElem?_eq_getElem h, List.getElem_mem h⟩
theorem leaf_idx {i : Nat} (h : i < 4) : ∃ b, b ∈ leafN /\ aIndexAddr (env Prims.fast) 60 [.dat (.slice (encS leafN)), .dat (.flat (.int .i64 (Int.ofNat i)))] = some ⟨.ref [sb b], .keep⟩ := by
 obtain ⟨b, hb, hm⟩ := leaf_of i h
 exact ⟨b, hm, idxS hb⟩
theorem gt_leaf {P : List UInt8 -> Nat -> Prop} {N k k2 : Nat} {b : List UInt8} (hP : P b 0) (h1 : k <= k2) (h2 : k2 <= N) : GT P N (.mk 2 b 0 []) k k2 :=
 ⟨by simp [Ty.size, sizeL]; omega, by simp [Ty.ixOk, ixOkL, eqF], by simp [Ty.from, fromL]; exact hP, h1, h2⟩
theorem gt_var {P : List UInt8 -> Nat -> Prop} {N k k2 i : Nat} (hi : i < 500000000) (h1 : k <= k2) (h2 : k2 <= N) : GT P N (.mk 5 [] (Int.ofNat i) []) k k2 :=
 ⟨by simp [Ty.size, sizeL]; omega, by simp only [Ty.ixOk, ixOkL]; exact ⟨fun _ => lt_lit hi, trivial⟩, by simp [Ty.from, fromL], h1, h2⟩
section
variable {l : List Int} {ds : List Dcl} {P : List UInt8 -> Nat -> Prop} (hl : l.length < 10000000) (hds : ds.length < 1000) (har : ∀ d ∈ ds, ∃ n : Nat, d.ar = Int.ofNat n /\ n <= 4 /\ P d.nm n) (hP0 : ∀ b ∈ leafN, P b 0) (hPB : P [66, 111, 120] 1)
def aA (ds : List Dcl) (dp : Int) (v : Nat) : List AVal := [stP0, .dat (.slice (encD ds)), iv dp, iv (Int.ofNat v)]
include hl hds har hP0
theorem named_ok {k : Nat} (hk : k <= l.length) {dp : Int} {v : Nat} (h0 : 0 <= dp) (h3 : dp <= 3) (ih : ∀ k', k < k' -> k' <= l.length -> GR l P 65 (aA ds (dp - 1) v) k') : GR l P 83 (aA ds dp v) k := by
 have hw : wrapF .i64 (Int.ofNat (encD ds).length + 4) = Int.ofNat (ds.length + 4) := by
  rw [encD_length, wrapF_eq]
  exact wrap_i64 (by simp; omega) (by simp; omega)
 obtain ⟨r, k2, ⟨hr, hk2, hk3, hk4⟩, hc⟩ := g_Next (n := ds.length + 4) (by omega : l.length < 1000000000) hk (by omega) (by omega)
 rw [← hw] at hc
 by_cases h4 : r < 4
 ·obtain ⟨b, hb, hi⟩ := leaf_idx h4
  exact ⟨_, k2, gt_leaf (hP0 b hb) hk2 hk3, named_lo hc (lt_lit h4) hi⟩
 have hlt : r - 4 < ds.length := by omega
 have hg : ds[r - 4]? = some ds[r - 4] := List.getElem?_eq_getElem hlt
 obtain ⟨n, hn, hn4, hPn⟩ := har _ (List.getElem_mem hlt)
 have hkk := hk4 (by omega)
 obtain ⟨ts, ks, c1, c2, c3, c4, c5, c6, c7, c8⟩ := chainT (g := 65) (args := aA ds (dp - 1) v) (P := P) hk3 (fun k' hk' hkl => ih k' (by omega) hkl) n
 have hi := idxDs hg
 have hw2 : Int.ofNat (r - 4) = wrapF .i64 (Int.ofNat r - 4) := by
  rw [wrapF_eq, wrap_i64 (by simp; omega) (by simp; omega)]
  simp; omega
 rw [hw2] at hi
 generalize ds[r - 4] = d at *
 obtain ⟨nm, ar, ⟨kk, tn, ix, la⟩, con, fl⟩ := d
 dsimp only at hn hPn
 subst hn
 refine ⟨.mk 2 nm 0 ts, ks n, ⟨by simp only [Ty.size]; omega, by simp only [Ty.ixOk]; exact ⟨by simp [eqF], c6⟩, by simp only [Ty.from]; exact ⟨fun _ => by rw [c1]; exact hPn, c7⟩, by omega, c4⟩, ?_⟩
 refine named_hi (la := encL la) (lb := encF fl) (ie := Int.ofNat n) hc (ge_lit h4) hi ?_
 rw [← c2]
 refine loop_count (St := fun i => (stNm (loN (loN2 (cellsD nm (Int.ofNat n) kk tn ix (encL la) con (encF fl))) nm (ts.take i)) (l.map iN) (encD ds) dp (Int.ofNat v) (Int.ofNat (ks i)) (Int.ofNat i)).toA Tryz.f83.ntmps) n ?_ ?_ (i := 0) (Nat.zero_le _)
 ·intro i hi2
  have hti : ts[i]? = some ts[i] := List.getElem?_eq_getElem (by omega)
  have hci := c8 i _ hti
  have hwp : dp - 1 = wrapF .i64 (dp - 1) := (wrap_pred h0 (by omega)).symm
  unfold aA at hci
  rw [hwp] at hci
  refine nm_round (lt_lit hi2) hci (by rw [List.length_take]; omega) ?_
  rw [wrap_of (by omega), ← take_get hti]
  exact rfl
 refine nm_last (ge_lit (by omega)) ⟨rfl, ?_⟩
 rw [List.take_of_length_le (by omega)]
omit hds har in
theorem arg_ok {k : Nat} (hk : k <= l.length) {dp : Int} {v : Nat} (h0 : -1 <= dp) (h3 : dp <= 3) (hv : v < 100) (ihn : 0 < dp -> ∀ k', k <= k' -> k' <= l.length -> GR l P 83 (aA ds dp v) k') (iht : 0 < dp -> ∀ k', k < k' -> k' <= l.length -> GR l P 48 (aA ds (dp - 1) 0) k') : GR l P 65 (aA ds dp v) k := by
 obtain ⟨r, k2, ⟨hr, hk2, hk3, hk4⟩, hc⟩ := g_Next (n := 6) (by omega : l.length < 1000000000) hk (by omega) (by omega)
 by_cases hv0 : r < 2 /\ 0 < v
 ·obtain ⟨i, k3, ⟨hi, hk5, hk6, hk7⟩, hc2⟩ := g_Next (n := v) (by omega : l.length < 1000000000) hk3 hv0.2 (by omega)
  exact ⟨_, k3, gt_var (by omega) (by omega) hk6, arg_var hc (lt_lit hv0.1) (lt_lit (a := 0) hv0.2) hc2⟩
 have hcc : ltF (Int.ofNat r) (Int.ofNat 2) = true -> ltF (Int.ofNat 0) (Int.ofNat v) = false := by
  intro h
  rw [ltF_of, decide_eq_true_eq] at h
  exact ge_lit (by omega)
 by_cases hdp : 0 < dp
 ·by_cases hr4 : r < 4
  ·obtain ⟨t, k3, ht, hct⟩ := ihn hdp k2 hk2 hk3
   refine ⟨t, k3, ⟨?_, ht.ix, ht.frm, ?_, ht.top⟩, arg_named hc rfl rfl hcc (pos_dp hdp) (lt_lit hr4) hct⟩
   ·have := ht.size; omega
   have := ht.le; omega
  obtain ⟨t, k3, ht, hct⟩ := iht hdp k2 (hk4 (by omega)) hk3
  unfold aA at hct
  rw [← wrap_pred (by omega : 0 <= dp) (by omega)] at hct
  refine ⟨t, k3, ⟨?_, ht.ix, ht.frm, ?_, ht.top⟩, arg_term hc (ge_lit (b := 2) (by omega)) (pos_dp hdp) (ge_lit hr4) hct⟩
  ·have := ht.size; omega
  have := ht.le; omega
 obtain ⟨i, k3, ⟨hi, hk5, hk6, hk7⟩, hc2⟩ := g_Next (n := 4) (by omega : l.length < 1000000000) hk3 (by omega) (by omega)
 obtain ⟨b, hb, hix⟩ := leaf_idx hi
 exact ⟨_, k3, gt_leaf (hP0 b hb) (by omega) hk6, arg_leaf hc rfl rfl hcc (neg_dp hdp) hc2 hix⟩
omit hds har in
include hPB in
theorem term_ok {k : Nat} (hk : k <= l.length) {dp : Int} {v : Nat} (h0 : 0 <= dp) (h3 : dp <= 3) (hv : v + dp <= 10) (ihn : ∀ k', k < k' -> k' <= l.length -> GR l P 83 (aA ds dp v) k')
  (iht : ∀ k', k < k' -> k' <= l.length -> ∀ (dp : Int) (v : Nat), 0 <= dp -> dp <= 3 -> v + dp <= 10 -> GR l P 48 (aA ds dp v) k') : GR l P 48 (aA ds dp v) k := by
 obtain ⟨r, k2, ⟨hr, hk2, hk3, hk4⟩, hc⟩ := g_Next (n := 14) (by omega : l.length < 1000000000) hk (by omega) (by omega)
 have leaf : ∃ i k3 b, (k2 <= k3 /\ k3 <= l.length /\ P b 0) /\ NextT (l.map iN) (Int.ofNat k2) 4 (Int.ofNat i) (Int.ofNat k3) /\ aIndexAddr (env Prims.fast) 60 [.dat (.slice (encS leafN)), .dat (.flat (.int .i64 (Int.ofNat i)))] = some ⟨.ref [sb b], .keep⟩ := by
  obtain ⟨i, k3, ⟨hi, hk5, hk6, hk7⟩, hc2⟩ := g_Next (n := 4) (by omega : l.length < 1000000000) hk3 (by omega) (by omega)
  obtain ⟨b, hb, hix⟩ := leaf_idx hi
  exact ⟨i, k3, b, ⟨hk5, hk6, hP0 b hb⟩, hc2, hix⟩
 have hnam : ∀ {c : Nat}, 0 < r -> ∃ t k3, GT P l.length t k k3 /\ NamedT (l.map iN) (encD ds) dp (Int.ofNat v) (Int.ofNat k2) t.enc (Int.ofNat k3) := by
  intro c h
  obtain ⟨t, k3, ht, hct⟩ := ihn k2 (hk4 h) hk3
  exact ⟨t, k3, ⟨by have := ht.size; omega, ht.ix, ht.frm, by have := ht.le; omega, ht.top⟩, hct⟩
 by_cases hdp : 0 < dp
 ·have hd := pos_dp hdp
  have sub : ∀ (k' : Nat), k < k' -> k' <= l.length -> ∃ t k3, GT P l.length t k' k3 /\ TermT (l.map iN) (encD ds) (wrapF .i64 (dp - 1)) (Int.ofNat v) (Int.ofNat k') t.enc (Int.ofNat k3) := by
   intro k' h1 h2
   obtain ⟨t, k3, ht, hct⟩ := iht k' h1 h2 (dp - 1) v (by omega) (by omega) (by omega)
   rw [wrap_pred (by omega) (by omega)]
   exact ⟨t, k3, ht, hct⟩
  have hcase : r = 0 ∨ r = 1 ∨ r = 2 ∨ r = 3 ∨ r = 4 ∨ r = 5 ∨ r = 6 ∨ r = 7 ∨ r = 8 ∨ r = 9 ∨ r = 10 ∨ r = 11 ∨ r = 12 ∨ r = 13 := by omega
  have hun : 0 < r -> ∃ t u k3 k4, GT P l.length (.mk 4 [] 0 [t, u]) k k4 /\ TermT (l.map iN) (encD ds) (wrapF .i64 (dp - 1)) (Int.ofNat v) (Int.ofNat k2) t.enc (Int.ofNat k3) /\ TermT (l.map iN) (encD ds) (wrapF .i64 (dp - 1)) (Int.ofNat v) (Int.ofNat k3) u.enc (Int.ofNat k4) := by
   intro h
   have hkk := hk4 h
   obtain ⟨t, k3, ht, hct⟩ := sub k2 hkk hk3
   obtain ⟨u, k4, hu, hcu⟩ := sub k3 (by have := ht.le; omega) ht.top
   refine ⟨t, u, k3, k4, ⟨?_, ?_, ?_, ?_, hu.top⟩, hct, hcu⟩
   ·have := ht.size; have := hu.size; simp only [Ty.size, sizeL]; omega
   ·simp only [Ty.ixOk, ixOkL]; exact ⟨by simp [eqF], ht.ix, hu.ix, trivial⟩
   ·simp only [Ty.from, fromL]; exact ⟨fun h => by simp at h, ht.frm, hu.frm, trivial⟩
   have := ht.le; have := hu.le; omega
  have htup : 0 < r -> ∃ n k3 ts k4, NextT (l.map iN) (Int.ofNat k2) 4 n (Int.ofNat k3) /\ GT P l.length (.mk 3 [] 0 ts) k k4 /\ KD (.loop (roundOf Tryz.f48 0)) (fun e s => e = .exit 1 /\ s = (stTpX (l.map iN) (encD ds) dp (Int.ofNat v) n (Int.ofNat k4) n ts).toA Tryz.f48.ntmps) ((stTp (l.map iN) (encD ds) dp (Int.ofNat v) n (Int.ofNat k3) 0 []).toA Tryz.f48.ntmps) := by
   intro h
   have hkk := hk4 h
   obtain ⟨n, k3, ⟨hn, hk5, hk6, hk7⟩, hc2⟩ := g_Next (n := 4) (by omega : l.length < 1000000000) hk3 (by omega) (by omega)
   obtain ⟨ts, ks, c1, c2, c3, c4, c5, c6, c7, c8⟩ := chainT (g := 48) (args := aA ds (dp - 1) v) (P := P) hk6 (fun k' h1 h2 => iht k' (by omega) h2 (dp - 1) v (by omega) (by omega) (by omega)) n
   refine ⟨_, k3, ts, ks n, hc2, ⟨by simp only [Ty.size]; omega, by simp only [Ty.ixOk]; exact ⟨by simp [eqF], c6⟩, by simp only [Ty.from]; exact ⟨fun h => by simp at h, c7⟩, by omega, c4⟩, ?_⟩
   rw [← c2]
   refine loop_count (St := fun i => (stTp (l.map iN) (encD ds) dp (Int.ofNat v) (Int.ofNat n) (Int.ofNat (ks i)) (Int.ofNat i) (ts.take i)).toA Tryz.f48.ntmps) n ?_ ?_ (i := 0) (Nat.zero_le _)
   ·intro i hi2
    have hti : ts[i]? = some ts[i] := List.getElem?_eq_getElem (by omega)
    have hci := c8 i _ hti
    unfold aA at hci
    rw [← wrap_pred h0 (by omega)] at hci
    refine tp_round (lt_lit hi2) hci (by rw [List.length_take]; omega) ?_
    rw [wrap_of (by omega), ← take_get hti]
    exact rfl
   refine tp_last (ge_lit (by omega)) ⟨rfl, ?_⟩
   rw [List.take_of_length_le (by omega)]
  rcases hcase with rfl | rfl | rfl | rfl | rfl | rfl | rfl | rfl | rfl | rfl | rfl | rfl | rfl | rfl
  ·obtain ⟨i, k3, b, ⟨g1, g2, g3⟩, hc2, hix⟩ := leaf
   exact ⟨_, k3, gt_leaf g3 (by omega) g2, term_leaf0 hc rfl hc2 hix⟩
  ·obtain ⟨i, k3, b, ⟨g1, g2, g3⟩, hc2, hix⟩ := leaf
   exact ⟨_, k3, gt_leaf g3 (by omega) g2, term_leaf1 hc rfl hc2 hix⟩
  ·exact ⟨_, k2, ⟨by simp [Ty.size, sizeL]; omega, by simp [Ty.ixOk, ixOkL, eqF], by simp [Ty.from, fromL], hk2, hk3⟩, term_any hc rfl⟩
  ·by_cases hv0 : 0 < v
   ·obtain ⟨i, k3, ⟨hi, hk5, hk6, hk7⟩, hc2⟩ := g_Next (n := v) (by omega : l.length < 1000000000) hk3 hv0 (by omega)
    exact ⟨_, k3, gt_var (by omega) (by omega) hk6, term_var3 hc rfl (lt_lit (a := 0) hv0) hc2⟩
   obtain ⟨t, k3, ht, hct⟩ := hnam (c := 0) (by omega)
   exact ⟨t, k3, ht, term_nam3 hc rfl (ge_lit (a := 0) hv0) hct⟩
  ·by_cases hv0 : 0 < v
   ·obtain ⟨i, k3, ⟨hi, hk5, hk6, hk7⟩, hc2⟩ := g_Next (n := v) (by omega : l.length < 1000000000) hk3 hv0 (by omega)
    exact ⟨_, k3, gt_var (by omega) (by omega) hk6, term_var4 hc rfl (lt_lit (a := 0) hv0) hc2⟩
   obtain ⟨t, k3, ht, hct⟩ := hnam (c := 0) (by omega)
   exact ⟨t, k3, ht, term_nam4 hc rfl (ge_lit (a := 0) hv0) hct⟩
  ·obtain ⟨t, k3, ht, hct⟩ := hnam (c := 0) (by omega)
   exact ⟨t, k3, ht, term_nam5 hc rfl hct⟩
  ·obtain ⟨t, k3, ht, hct⟩ := hnam (c := 0) (by omega)
   exact ⟨t, k3, ht, term_nam6 hc hd hct⟩
  ·obtain ⟨t, k3, ht, hct⟩ := hnam (c := 0) (by omega)
   exact ⟨t, k3, ht, term_nam7 hc hd hct⟩
  ·obtain ⟨t, u, k3, k4, g, ht, hu⟩ := hun (by omega)
   exact ⟨_, k4, g, term_un8 hc hd ht hu⟩
  ·obtain ⟨t, u, k3, k4, g, ht, hu⟩ := hun (by omega)
   exact ⟨_, k4, g, term_un9 hc hd ht hu⟩
  ·obtain ⟨n, k3, ts, k4, hn, g, hlp⟩ := htup (by omega)
   exact ⟨_, k4, g, term_tup10 hc hd hn hlp⟩
  ·obtain ⟨n, k3, ts, k4, hn, g, hlp⟩ := htup (by omega)
   exact ⟨_, k4, g, term_tup11 hc hd hn hlp⟩
  ·have hkk := hk4 (by omega)
   obtain ⟨i, k3, ⟨hi, hk5, hk6, hk7⟩, hc2⟩ := g_Next (n := 2) (by omega : l.length < 1000000000) hk3 (by omega) (by omega)
   have hwv : wrapF .i64 (Int.ofNat v + 1) = Int.ofNat (v + 1) := wrap_of (by omega)
   have hwp : wrapF .i64 (dp - 1) = dp - 1 := wrap_pred h0 (by omega)
   by_cases hi0 : i = 0
   ·subst hi0
    obtain ⟨u, k4, hu, hcu⟩ := iht k3 (by omega) hk6 (dp - 1) (v + 1) (by omega) (by omega) (by omega)
    refine ⟨_, k4, ⟨?_, ?_, ?_, ?_, hu.top⟩, term_exA hc hd hc2 (by rw [hwp, hwv]; exact hcu)⟩
    ·have := hu.size; simp only [Ty.size, sizeL]; omega
    ·simp only [Ty.ixOk, ixOkL]; exact ⟨by simp [eqF], ⟨by simp [eqF], trivial⟩, hu.ix, trivial⟩
    ·simp only [Ty.from, fromL]; exact ⟨fun h => by simp at h, ⟨fun h => by simp at h, trivial⟩, hu.frm, trivial⟩
    have := hu.le; omega
   have hi1 : i = 1 := by omega
   subst hi1
   obtain ⟨t, k4, ht, hct⟩ := iht k3 (by omega) hk6 1 0 (by omega) (by omega) (by omega)
   obtain ⟨u, k5, hu, hcu⟩ := iht k4 (by have := ht.le; omega) ht.top (dp - 1) (v + 1) (by omega) (by omega) (by omega)
   refine ⟨_, k5, ⟨?_, ?_, ?_, ?_, hu.top⟩, term_exB hc hd hc2 hct (by rw [hwp, hwv]; exact hcu)⟩
   ·have := ht.size; have := hu.size; simp only [Ty.size, sizeL]; omega
   ·simp only [Ty.ixOk, ixOkL]; exact ⟨by simp [eqF], ht.ix, hu.ix, trivial⟩
   ·simp only [Ty.from, fromL]; exact ⟨fun h => by simp at h, ht.frm, hu.frm, trivial⟩
   have := ht.le; have := hu.le; omega
  have hkk := hk4 (by omega)
  obtain ⟨i, k3, ⟨hi, hk5, hk6, hk7⟩, hc2⟩ := g_Next (n := 4) (by omega : l.length < 1000000000) hk3 (by omega) (by omega)
  have gb : GT P l.length boxV k k3 := ⟨by simp [boxV, Ty.size, sizeL]; omega, by simp [boxV, Ty.ixOk, ixOkL, eqF, ltF], by simp [boxV, Ty.from, fromL]; exact hPB, by omega, hk6⟩
  have hic : i = 0 ∨ i = 1 ∨ i = 2 ∨ i = 3 := by omega
  rcases hic with rfl | rfl | rfl | rfl
  ·exact ⟨_, k3, ⟨by simp [Ty.size, sizeL]; omega, by simp [Ty.ixOk, ixOkL, eqF], by simp [Ty.from, fromL], by omega, hk6⟩, term_never hc hd hc2⟩
  ·exact ⟨_, k3, gb, term_box1 hc hd hc2⟩
  ·exact ⟨_, k3, gb, term_box2 hc hd hc2⟩
  exact ⟨_, k3, gb, term_box3 hc hd hc2⟩
 have hd := neg_dp hdp
 by_cases h5 : 5 < r
 ·obtain ⟨i, k3, b, ⟨g1, g2, g3⟩, hc2, hix⟩ := leaf
  exact ⟨_, k3, gt_leaf g3 (by omega) g2, term_deep hc hd (lt_lit (a := 5) h5) hc2 hix⟩
 have hcase : r = 0 ∨ r = 1 ∨ r = 2 ∨ r = 3 ∨ r = 4 ∨ r = 5 := by omega
 rcases hcase with rfl | rfl | rfl | rfl | rfl | rfl
 ·obtain ⟨i, k3, b, ⟨g1, g2, g3⟩, hc2, hix⟩ := leaf
  exact ⟨_, k3, gt_leaf g3 (by omega) g2, term_leaf0 hc rfl hc2 hix⟩
 ·obtain ⟨i, k3, b, ⟨g1, g2, g3⟩, hc2, hix⟩ := leaf
  exact ⟨_, k3, gt_leaf g3 (by omega) g2, term_leaf1 hc rfl hc2 hix⟩
 ·exact ⟨_, k2, ⟨by simp [Ty.size, sizeL]; omega, by simp [Ty.ixOk, ixOkL, eqF], by simp [Ty.from, fromL], hk2, hk3⟩, term_any hc rfl⟩
 ·by_cases hv0 : 0 < v
  ·obtain ⟨i, k3, ⟨hi, hk5, hk6, hk7⟩, hc2⟩ := g_Next (n := v) (by omega : l.length < 1000000000) hk3 hv0 (by omega)
   exact ⟨_, k3, gt_var (by omega) (by omega) hk6, term_var3 hc rfl (lt_lit (a := 0) hv0) hc2⟩
  obtain ⟨t, k3, ht, hct⟩ := hnam (c := 0) (by omega)
  exact ⟨t, k3, ht, term_nam3 hc rfl (ge_lit (a := 0) hv0) hct⟩
 ·by_cases hv0 : 0 < v
  ·obtain ⟨i, k3, ⟨hi, hk5, hk6, hk7⟩, hc2⟩ := g_Next (n := v) (by omega : l.length < 1000000000) hk3 hv0 (by omega)
   exact ⟨_, k3, gt_var (by omega) (by omega) hk6, term_var4 hc rfl (lt_lit (a := 0) hv0) hc2⟩
  obtain ⟨t, k3, ht, hct⟩ := hnam (c := 0) (by omega)
  exact ⟨t, k3, ht, term_nam4 hc rfl (ge_lit (a := 0) hv0) hct⟩
 obtain ⟨t, k3, ht, hct⟩ := hnam (c := 0) (by omega)
 exact ⟨t, k3, ht, term_nam5 hc rfl hct⟩
include hPB in
theorem gen_all : ∀ (m k : Nat), k <= l.length -> l.length - k <= m ->
  (∀ (dp : Int) (v : Nat), 0 <= dp -> dp <= 3 -> v + dp <= 10 -> GR l P 83 (aA ds dp v) k) /\ (∀ (dp : Int) (v : Nat), -1 <= dp -> dp <= 3 -> v + dp <= 10 -> GR l P 65 (aA ds dp v) k) /\ (∀ (dp : Int) (v : Nat), 0 <= dp -> dp <= 3 -> v + dp <= 10 -> GR l P 48 (aA ds dp v) k) := by
 intro m
 induction m with
 | zero =>
  intro k hk hm
  have hn : ∀ (dp : Int) (v : Nat), 0 <= dp -> dp <= 3 -> v + dp <= 10 -> GR l P 83 (aA ds dp v) k := fun dp v h0 h3 hv => named_ok hl hds har hP0 hk h0 h3 (fun k' h1 h2 => by omega)
  refine ⟨hn, ?_, ?_⟩
  ·intro dp v h0 h3 hv
   refine arg_ok hl hP0 hk h0 h3 (by omega) (fun hp k' h1 h2 => ?_) (fun hp k' h1 h2 => by omega)
   have : k' = k := by omega
   subst this
   exact hn dp v (by omega) h3 hv
  intro dp v h0 h3 hv
  exact term_ok hl hP0 hPB hk h0 h3 hv (fun k' h1 h2 => by omega) (fun k' h1 h2 => by omega)
 | succ m ih =>
  intro k hk hm
  have hn : ∀ (dp : Int) (v : Nat), 0 <= dp -> dp <= 3 -> v + dp <= 10 -> GR l P 83 (aA ds dp v) k := fun dp v h0 h3 hv => named_ok hl hds har hP0 hk h0 h3 (fun k' h1 h2 => (ih k' h2 (by omega)).2.1 _ _ (by omega) (by omega) (by omega))
  refine ⟨hn, ?_, ?_⟩
  ·intro dp v h0 h3 hv
   refine arg_ok hl hP0 hk h0 h3 (by omega) (fun hp k' h1 h2 => ?_) (fun hp k' h1 h2 => (ih k' h2 (by omega)).2.2 _ _ (by omega) (by omega) (by omega))
   by_cases hkk : k' = k
   ·subst hkk
    exact hn dp v (by omega) h3 hv
   exact (ih k' h2 (by omega)).1 _ _ (by omega) h3 hv
  intro dp v h0 h3 hv
  exact term_ok hl hP0 hPB hk h0 h3 hv (fun k' h1 h2 => (ih k' h2 (by omega)).1 _ _ h0 h3 hv) (fun k' h1 h2 dp v a b c => (ih k' h2 (by omega)).2.2 _ _ a b c)
end
def baseD : List Dcl := [⟨[66, 111, 120], 1, (.mk 0 [] 0 []), false, []⟩,
 ⟨[67, 101, 108, 108], 1, (.mk 2 [66, 111, 120] 0 [(.mk 5 [] 0 [])]), true, [⟨[105, 116, 101, 109], (.mk 5 [] 0 [])⟩]⟩,
 ⟨[73, 110, 116, 66, 111, 120], 0, (.mk 2 [66, 111, 120] 0 [(.mk 2 [73, 110, 116] 0 [])]), true, [⟨[105, 116, 101, 109], (.mk 2 [73, 110, 116] 0 [])⟩]⟩,
 ⟨[83, 104, 97, 112, 101], 0, (.mk 0 [] 0 []), false, []⟩,
 ⟨[68, 111, 116], 0, (.mk 2 [83, 104, 97, 112, 101] 0 []), true, []⟩,
 ⟨[68, 105, 115, 107], 0, (.mk 2 [83, 104, 97, 112, 101] 0 []), true, [⟨[114, 97, 100, 105, 117, 115], (.mk 2 [73, 110, 116] 0 [])⟩]⟩,
 ⟨[80, 97, 105, 114], 2, (.mk 0 [] 0 []), true, [⟨[102, 105, 114, 115, 116], (.mk 5 [] 0 [])⟩, ⟨[115, 101, 99, 111, 110, 100], (.mk 5 [] 1 [])⟩]⟩,
 ⟨[78, 101, 115, 116], 1, (.mk 2 [66, 111, 120] 0 [(.mk 2 [66, 111, 120] 0 [(.mk 5 [] 0 [])])]), true, [⟨[105, 110, 110, 101, 114], (.mk 2 [66, 111, 120] 0 [(.mk 5 [] 0 [])])⟩]⟩]
theorem g_Base : Calls1 43 [] (.own (encD baseD)) := X_ok _ _ _ _ _ (by kernel_rfl)
noncomputable def hEx : Hints := ⟨xmoves, ord28, xcaps, rowsOf xcaps 28⟩
def stEx (l : List Dat) (ds : List Dat) (K n i : Int) : FState := ⟨[(6, iv i), (5, iv n), (0, stP0), (1, .own ds)], [], hSt l K, 1⟩
def loE (b : List UInt8) (ar kk : Int) (tn : List UInt8) (A : AVal) (con : Bool) (F : AVal) : Heap := [(.loc 7, .cells [.dat (sb b), iv ar, iv kk, .dat (sb tn), iv 0, A, .dat (bl con), F])]
/-- The loop that gathers the abstract ones. -/
def stFl (lo : Heap) (l ds : List Dat) (K n i j : Int) (pre : List Dcl) : FState := ⟨[(9, iv j), (8, ownD pre), (7, .ptr (.loc 7) 0), (6, iv i), (5, iv n), (0, stP0), (1, .own ds)], lo, hSt l K, 1⟩
def stFlX (lo : Heap) (l ds : List Dat) (K n i j : Int) (pre : List Dcl) : FState := ⟨[(35, bv false), (9, iv j), (8, ownD pre), (7, .ptr (.loc 7) 0), (6, iv i), (5, iv n), (0, stP0), (1, .own ds)], lo, hSt l K, 1⟩
theorem fl_round {b : List UInt8} {ar K n i j : Int} {con : Bool} {l : List Dat} {ds pre : List Dcl} {t : Dcl} (h1 : ltF j (Int.ofNat (encD ds).length) = true) (hi : aIndexAddr (env Prims.fast) 23 [.dat (.slice (encD ds)), .dat (.flat (.int .i64 j))] = some ⟨.ref t.cells, .keep⟩) (hp : pre.length < 1000000000) {T : Exit -> AState -> Prop}
  (e1 : t.con = true -> T .normal ((stFl (loE b ar 0 [] (.dat nl) con (.dat nl)) l (encD ds) K n i (wrapF .i64 (j + 1)) pre).toA Tryz.f28.ntmps))
  (e2 : t.con = false -> T .normal ((stFl (loE b ar 0 [] (.dat nl) con (.dat nl)) l (encD ds) K n i (wrapF .i64 (j + 1)) (pre ++ [t])).toA Tryz.f28.ntmps)) :
  KD (roundOf Tryz.f28 1) T ((stFl (loE b ar 0 [] (.dat nl) con (.dat nl)) l (encD ds) K n i j pre).toA Tryz.f28.ntmps) := by
 have h3 := appD (t := t) hp
 clear hp
 generalize encD ds = es at *
 obtain ⟨nm, ar2, ⟨kk, tn, ix, la⟩, con2, fl⟩ := t
 rcases pre with _ | ⟨d, r⟩ <;>
 ·refine run_of [35] [40, 47, 50] (H := hEx) (live := live28) (by kernel_rfl) ?_; refine ob h1 ?_; refine oo hi ?_
  cases con2
  ·refine oo hi ?_; refine oo h3 ?_; exact oe (e2 rfl)
  exact oe (e1 rfl)
theorem fl_last {b : List UInt8} {ar K n i j : Int} {con : Bool} {l ds : List Dat} {pre : List Dcl} (h1 : ltF j (Int.ofNat ds.length) = false) {T : Exit -> AState -> Prop}
  (e : T (.exit 2) ((stFlX (loE b ar 0 [] (.dat nl) con (.dat nl)) l ds K n i j pre).toA Tryz.f28.ntmps)) :
  KD (roundOf Tryz.f28 1) T ((stFl (loE b ar 0 [] (.dat nl) con (.dat nl)) l ds K n i j pre).toA Tryz.f28.ntmps) := by
 rcases pre with _ | ⟨d, r⟩ <;>
 ·refine run_of [35] [] (H := hEx) (live := live28) (by kernel_rfl) ?_; refine ob h1 ?_; exact oe e
/-- The loop of the supertype's arguments. -/
def loE2 (cs : List AVal) (b : List UInt8) (ar : Int) (tn : List UInt8) (pre : List Ty) (con : Bool) : Heap := [(.loc 10, .cells cs), (.loc 7, .cells [.dat (sb b), iv ar, iv 2, .dat (sb tn), iv 0, ownT pre, .dat (bl con), .dat nl])]
def stSa (lo : Heap) (l ds : List Dat) (K n i j : Int) : FState := ⟨[(11, iv j), (10, .ptr (.loc 10) 0), (7, .ptr (.loc 7) 0), (6, iv i), (5, iv n), (0, stP0), (1, .own ds)], lo, hSt l K, 1⟩
def stSaX (lo : Heap) (l ds : List Dat) (K n i j : Int) : FState := ⟨[(65, bv false), (11, iv j), (10, .ptr (.loc 10) 0), (7, .ptr (.loc 7) 0), (6, iv i), (5, iv n), (0, stP0), (1, .own ds)], lo, hSt l K, 1⟩
abbrev ArgT (l ds : List Dat) (dp v k : Int) (d : Dat) (k2 : Int) : Prop := KC 65 [stP0, .dat (.slice ds), iv dp, iv v] (hSt l k) 1 (XQ ⟨.dat d, hSt l k2, 1⟩)
theorem sa_round {b nm tn tn2 : List UInt8} {ar ar2 kk ix K K2 n i j : Int} {con con2 : Bool} {l ds la lb : List Dat} {pre : List Ty} {t : Ty} (h1 : ltF j ar2 = true) (h2 : ArgT l ds 1 ar K t.enc K2) (hp : pre.length < 1000000000) {T : Exit -> AState -> Prop}
  (e : T .normal ((stSa (loE2 (cellsD nm ar2 kk tn2 ix la con2 lb) b ar tn (pre ++ [t]) con) l ds K2 n i (wrapF .i64 (j + 1))).toA Tryz.f28.ntmps)) :
  KD (roundOf Tryz.f28 2) T ((stSa (loE2 (cellsD nm ar2 kk tn2 ix la con2 lb) b ar tn pre con) l ds K n i j).toA Tryz.f28.ntmps) := by
 have h3 := appT (t := t) hp
 clear hp
 rcases pre with _ | ⟨d, r⟩ <;>
 ·refine run_of [65] [77] (H := hEx) (live := live28) (by kernel_rfl) ?_; refine ob h1 ?_; refine oh h2 ?_
  obtain ⟨v0, v1, v2, v3⟩ := t
  refine oo h3 ?_; exact oe e
theorem sa_last {b nm tn tn2 : List UInt8} {ar ar2 kk ix K n i j : Int} {con con2 : Bool} {l ds la lb : List Dat} {pre : List Ty} (h1 : ltF j ar2 = false) {T : Exit -> AState -> Prop}
  (e : T (.exit 4) ((stSaX (loE2 (cellsD nm ar2 kk tn2 ix la con2 lb) b ar tn pre con) l ds K n i j).toA Tryz.f28.ntmps)) :
  KD (roundOf Tryz.f28 2) T ((stSa (loE2 (cellsD nm ar2 kk tn2 ix la con2 lb) b ar tn pre con) l ds K n i j).toA Tryz.f28.ntmps) := by
 rcases pre with _ | ⟨d, r⟩ <;>
 ·refine run_of [65] [] (H := hEx) (live := live28) (by kernel_rfl) ?_; refine ob h1 ?_; exact oe e
def Ty.ixn : Ty -> Int
 | .mk _ _ i _ => i
theorem ex_000 {l : List Dat} {ds : List Dcl} {k k2 k3 k4 n i ar : Int} {b : List UInt8} (h1 : ltF i n = true) (hS : aIndexAddr (env Prims.fast) 60 [.dat (.slice (encS extraN)), .dat (.flat (.int .i64 i))] = some ⟨.ref [sb b], .keep⟩)
  (n1 : NextT l k 3 ar k2) (n2 : NextT l k2 2 0 k3) (n3 : NextT l k3 3 0 k4)
  (hp : ds.length < 1000000000) {T : Exit -> AState -> Prop} (e : T .normal ((stEx l (encD (ds ++ [⟨b, ar, (.mk 0 [] 0 []), false, []⟩])) k4 n (wrapF .i64 (i + 1))).toA Tryz.f28.ntmps)) :
  KD (roundOf Tryz.f28 0) T ((stEx l (encD ds) k n i).toA Tryz.f28.ntmps) := by
 have h9 := appD (t := ⟨b, ar, (.mk 0 [] 0 []), false, []⟩) hp
 clear hp
 refine run_of [16] [21, 98] (H := hEx) (live := live28) (by kernel_rfl) ?_; refine ob h1 ?_; refine oo hS ?_; refine oh n1 ?_; refine oh n2 ?_; refine oh n3 ?_; refine oo h9 ?_; exact oe e
theorem ex_010 {l : List Dat} {ds abs : List Dcl} {a ah : Dcl} {k k2 k3 k4 k5 k6 n i ar sp ai ej ek : Int} {b : List UInt8} {ts : List Ty} (h1 : ltF i n = true) (hS : aIndexAddr (env Prims.fast) 60 [.dat (.slice (encS extraN)), .dat (.flat (.int .i64 i))] = some ⟨.ref [sb b], .keep⟩)
  (n1 : NextT l k 3 ar k2) (n2 : NextT l k2 2 0 k3) (n3 : NextT l k3 3 sp k4) (hsp : ltF 0 sp = true)
  (hl : KD (.loop (roundOf Tryz.f28 1)) (fun e s => e = .exit 2 /\ s = (stFlX (loE b ar 0 [] (.dat nl) false (.dat nl)) l (encD ds) k4 n i ej (ah :: abs)).toA Tryz.f28.ntmps) ((stFl (loE b ar 0 [] (.dat nl) false (.dat nl)) l (encD ds) k4 n i 0 []).toA Tryz.f28.ntmps))
  (n5 : NextT l k4 (Int.ofNat (encD (ah :: abs)).length) ai k5) (hi : aIndexAddr (env Prims.fast) 23 [.dat (.slice (encD (ah :: abs))), .dat (.flat (.int .i64 ai))] = some ⟨.ref a.cells, .keep⟩)
  (hl2 : KD (.loop (roundOf Tryz.f28 2)) (fun e s => e = .exit 4 /\ s = (stSaX (loE2 (cellsD a.nm a.ar a.sup.kind a.sup.nm a.sup.ixn (encL a.sup.args) a.con (encF a.fl)) b ar a.nm ts false) l (encD ds) k6 n i ek).toA Tryz.f28.ntmps) ((stSa (loE2 (cellsD a.nm a.ar a.sup.kind a.sup.nm a.sup.ixn (encL a.sup.args) a.con (encF a.fl)) b ar a.nm [] false) l (encD ds) k5 n i 0).toA Tryz.f28.ntmps))
  (hp : ds.length < 1000000000) {T : Exit -> AState -> Prop} (e : T .normal ((stEx l (encD (ds ++ [⟨b, ar, (.mk 2 a.nm 0 ts), false, []⟩])) k6 n (wrapF .i64 (i + 1))).toA Tryz.f28.ntmps)) :
  KD (roundOf Tryz.f28 0) T ((stEx l (encD ds) k n i).toA Tryz.f28.ntmps) := by
 have h9 := appD (t := ⟨b, ar, (.mk 2 a.nm 0 ts), false, []⟩) hp
 clear hp
 obtain ⟨anm, aar, ⟨akk, atn, aix, ala⟩, acon, afl⟩ := a
 have q1 := st_decl 10 anm aar akk atn aix (encL ala) acon (encF afl)
 dsimp only [Ty.kind, Ty.nm, Ty.ixn, Ty.args] at hi hl2 h9 e
 rcases ts with _ | ⟨z1, y1⟩ <;>
 ·refine run_of [16, 31] [21, 56, 100010, 98] (H := hEx) (live := live28) (by kernel_rfl) ?_; refine ob h1 ?_; refine oo hS ?_; refine oh n1 ?_; refine oh n2 ?_; refine oh n3 ?_; refine ob hsp ?_; refine lo hl ?_; rintro ex s ⟨rfl, rfl⟩; refine ⟨_, rfl, ?_⟩; refine oh n5 ?_; refine oo hi ?_; refine oo q1 ?_; refine lo hl2 ?_; rintro ex s ⟨rfl, rfl⟩; refine ⟨_, rfl, ?_⟩; refine oo h9 ?_; exact oe e
theorem ex_100 {l : List Dat} {ds : List Dcl} {k k2 k3 k4 k7 n i ar : Int} {b : List UInt8} (h1 : ltF i n = true) (hS : aIndexAddr (env Prims.fast) 60 [.dat (.slice (encS extraN)), .dat (.flat (.int .i64 i))] = some ⟨.ref [sb b], .keep⟩)
  (n1 : NextT l k 3 ar k2) (n2 : NextT l k2 2 1 k3) (n3 : NextT l k3 3 0 k4) (n6 : NextT l k4 2 0 k7)
  (hp : ds.length < 1000000000) {T : Exit -> AState -> Prop} (e : T .normal ((stEx l (encD (ds ++ [⟨b, ar, (.mk 0 [] 0 []), true, []⟩])) k7 n (wrapF .i64 (i + 1))).toA Tryz.f28.ntmps)) :
  KD (roundOf Tryz.f28 0) T ((stEx l (encD ds) k n i).toA Tryz.f28.ntmps) := by
 have h9 := appD (t := ⟨b, ar, (.mk 0 [] 0 []), true, []⟩) hp
 clear hp
 refine run_of [16] [21, 98] (H := hEx) (live := live28) (by kernel_rfl) ?_; refine ob h1 ?_; refine oo hS ?_; refine oh n1 ?_; refine oh n2 ?_; refine oh n3 ?_; refine oh n6 ?_; refine oo h9 ?_; exact oe e
theorem ex_101 {l : List Dat} {ds : List Dcl} {k k2 k3 k4 k7 k8 n i ar : Int} {b : List UInt8} {t : Ty} (h1 : ltF i n = true) (hS : aIndexAddr (env Prims.fast) 60 [.dat (.slice (encS extraN)), .dat (.flat (.int .i64 i))] = some ⟨.ref [sb b], .keep⟩)
  (n1 : NextT l k 3 ar k2) (n2 : NextT l k2 2 1 k3) (n3 : NextT l k3 3 0 k4) (n6 : NextT l k4 2 1 k7) (n7 : ArgT l (encD ds) 1 ar k7 t.enc k8)
  (hp : ds.length < 1000000000) {T : Exit -> AState -> Prop} (e : T .normal ((stEx l (encD (ds ++ [⟨b, ar, (.mk 0 [] 0 []), true, [⟨[112, 97, 114, 116], t⟩]⟩])) k8 n (wrapF .i64 (i + 1))).toA Tryz.f28.ntmps)) :
  KD (roundOf Tryz.f28 0) T ((stEx l (encD ds) k n i).toA Tryz.f28.ntmps) := by
 have h9 := appD (t := ⟨b, ar, (.mk 0 [] 0 []), true, [⟨[112, 97, 114, 116], t⟩]⟩) hp
 clear hp
 obtain ⟨ek2, en, ei, ea⟩ := t
 rcases ea with _ | ⟨z1, y1⟩ <;>
 ·refine run_of [16] [21, 98] (H := hEx) (live := live28) (by kernel_rfl) ?_; refine ob h1 ?_; refine oo hS ?_; refine oh n1 ?_; refine oh n2 ?_; refine oh n3 ?_; refine oh n6 ?_; refine oh n7 ?_; refine oo h9 ?_; exact oe e
theorem ex_110 {l : List Dat} {ds abs : List Dcl} {a ah : Dcl} {k k2 k3 k4 k5 k6 k7 n i ar sp ai ej ek : Int} {b : List UInt8} {ts : List Ty} (h1 : ltF i n = true) (hS : aIndexAddr (env Prims.fast) 60 [.dat (.slice (encS extraN)), .dat (.flat (.int .i64 i))] = some ⟨.ref [sb b], .keep⟩)
  (n1 : NextT l k 3 ar k2) (n2 : NextT l k2 2 1 k3) (n3 : NextT l k3 3 sp k4) (hsp : ltF 0 sp = true)
  (hl : KD (.loop (roundOf Tryz.f28 1)) (fun e s => e = .exit 2 /\ s = (stFlX (loE b ar 0 [] (.dat nl) true (.dat nl)) l (encD ds) k4 n i ej (ah :: abs)).toA Tryz.f28.ntmps) ((stFl (loE b ar 0 [] (.dat nl) true (.dat nl)) l (encD ds) k4 n i 0 []).toA Tryz.f28.ntmps))
  (n5 : NextT l k4 (Int.ofNat (encD (ah :: abs)).length) ai k5) (hi : aIndexAddr (env Prims.fast) 23 [.dat (.slice (encD (ah :: abs))), .dat (.flat (.int .i64 ai))] = some ⟨.ref a.cells, .keep⟩)
  (hl2 : KD (.loop (roundOf Tryz.f28 2)) (fun e s => e = .exit 4 /\ s = (stSaX (loE2 (cellsD a.nm a.ar a.sup.kind a.sup.nm a.sup.ixn (encL a.sup.args) a.con (encF a.fl)) b ar a.nm ts true) l (encD ds) k6 n i ek).toA Tryz.f28.ntmps) ((stSa (loE2 (cellsD a.nm a.ar a.sup.kind a.sup.nm a.sup.ixn (encL a.sup.args) a.con (encF a.fl)) b ar a.nm [] true) l (encD ds) k5 n i 0).toA Tryz.f28.ntmps)) (n6 : NextT l k6 2 0 k7)
  (hp : ds.length < 1000000000) {T : Exit -> AState -> Prop} (e : T .normal ((stEx l (encD (ds ++ [⟨b, ar, (.mk 2 a.nm 0 ts), true, []⟩])) k7 n (wrapF .i64 (i + 1))).toA Tryz.f28.ntmps)) :
  KD (roundOf Tryz.f28 0) T ((stEx l (encD ds) k n i).toA Tryz.f28.ntmps) := by
 have h9 := appD (t := ⟨b, ar, (.mk 2 a.nm 0 ts), true, []⟩) hp
 clear hp
 obtain ⟨anm, aar, ⟨akk, atn, aix, ala⟩, acon, afl⟩ := a
 have q1 := st_decl 10 anm aar akk atn aix (encL ala) acon (encF afl)
 dsimp only [Ty.kind, Ty.nm, Ty.ixn, Ty.args] at hi hl2 h9 e
 rcases ts with _ | ⟨z1, y1⟩ <;>
 ·refine run_of [16, 31] [21, 56, 100010, 98] (H := hEx) (live := live28) (by kernel_rfl) ?_; refine ob h1 ?_; refine oo hS ?_; refine oh n1 ?_; refine oh n2 ?_; refine oh n3 ?_; refine ob hsp ?_; refine lo hl ?_; rintro ex s ⟨rfl, rfl⟩; refine ⟨_, rfl, ?_⟩; refine oh n5 ?_; refine oo hi ?_; refine oo q1 ?_; refine lo hl2 ?_; rintro ex s ⟨rfl, rfl⟩; refine ⟨_, rfl, ?_⟩; refine oh n6 ?_; refine oo h9 ?_; exact oe e
theorem ex_111 {l : List Dat} {ds abs : List Dcl} {a ah : Dcl} {k k2 k3 k4 k5 k6 k7 k8 n i ar sp ai ej ek : Int} {b : List UInt8} {ts : List Ty} {t : Ty} (h1 : ltF i n = true) (hS : aIndexAddr (env Prims.fast) 60 [.dat (.slice (encS extraN)), .dat (.flat (.int .i64 i))] = some ⟨.ref [sb b], .keep⟩)
  (n1 : NextT l k 3 ar k2) (n2 : NextT l k2 2 1 k3) (n3 : NextT l k3 3 sp k4) (hsp : ltF 0 sp = true)
  (hl : KD (.loop (roundOf Tryz.f28 1)) (fun e s => e = .exit 2 /\ s = (stFlX (loE b ar 0 [] (.dat nl) true (.dat nl)) l (encD ds) k4 n i ej (ah :: abs)).toA Tryz.f28.ntmps) ((stFl (loE b ar 0 [] (.dat nl) true (.dat nl)) l (encD ds) k4 n i 0 []).toA Tryz.f28.ntmps))
  (n5 : NextT l k4 (Int.ofNat (encD (ah :: abs)).length) ai k5) (hi : aIndexAddr (env Prims.fast) 23 [.dat (.slice (encD (ah :: abs))), .dat (.flat (.int .i64 ai))] = some ⟨.ref a.cells, .keep⟩)
  (hl2 : KD (.loop (roundOf Tryz.f28 2)) (fun e s => e = .exit 4 /\ s = (stSaX (loE2 (cellsD a.nm a.ar a.sup.kind a.sup.nm a.sup.ixn (encL a.sup.args) a.con (encF a.fl)) b ar a.nm ts true) l (encD ds) k6 n i ek).toA Tryz.f28.ntmps) ((stSa (loE2 (cellsD a.nm a.ar a.sup.kind a.sup.nm a.sup.ixn (encL a.sup.args) a.con (encF a.fl)) b ar a.nm [] true) l (encD ds) k5 n i 0).toA Tryz.f28.ntmps)) (n6 : NextT l k6 2 1 k7) (n7 : ArgT l (encD ds) 1 ar k7 t.enc k8)
  (hp : ds.length < 1000000000) {T : Exit -> AState -> Prop} (e : T .normal ((stEx l (encD (ds ++ [⟨b, ar, (.mk 2 a.nm 0 ts), true, [⟨[112, 97, 114, 116], t⟩]⟩])) k8 n (wrapF .i64 (i + 1))).toA Tryz.f28.ntmps)) :
  KD (roundOf Tryz.f28 0) T ((stEx l (encD ds) k n i).toA Tryz.f28.ntmps) := by
 have h9 := appD (t := ⟨b, ar, (.mk 2 a.nm 0 ts), true, [⟨[112, 97, 114, 116], t⟩]⟩) hp
 clear hp
 obtain ⟨ek2, en, ei, ea⟩ := t
 obtain ⟨anm, aar, ⟨akk, atn, aix, ala⟩, acon, afl⟩ := a
 have q1 := st_decl 10 anm aar akk atn aix (encL ala) acon (encF afl)
 dsimp only [Ty.kind, Ty.nm, Ty.ixn, Ty.args] at hi hl2 h9 e
 rcases ts with _ | ⟨z2, y2⟩ <;>
 ·rcases ea with _ | ⟨z1, y1⟩ <;>
  ·refine run_of [16, 31] [21, 56, 100010, 98] (H := hEx) (live := live28) (by kernel_rfl) ?_; refine ob h1 ?_; refine oo hS ?_; refine oh n1 ?_; refine oh n2 ?_; refine oh n3 ?_; refine ob hsp ?_; refine lo hl ?_; rintro ex s ⟨rfl, rfl⟩; refine ⟨_, rfl, ?_⟩; refine oh n5 ?_; refine oo hi ?_; refine oo q1 ?_; refine lo hl2 ?_; rintro ex s ⟨rfl, rfl⟩; refine ⟨_, rfl, ?_⟩; refine oh n6 ?_; refine oh n7 ?_; refine oo h9 ?_; exact oe e
/-- A chain of steps, each of which there is. -/
theorem chainS {α : Type} {n : Nat} {Inv : Nat -> α -> Prop} {R : Nat -> α -> α -> Prop} (a0 : α) (h0 : Inv 0 a0) (h : ∀ i a, i < n -> Inv i a -> ∃ b, R i a b /\ Inv (i + 1) b) :
  ∃ f : Nat -> α, f 0 = a0 /\ (∀ i, i <= n -> Inv i (f i)) /\ ∀ i, i < n -> R i (f i) (f (i + 1)) := by
 induction n with
 | zero =>
  refine ⟨fun _ => a0, rfl, ?_, fun i hi => absurd hi (Nat.not_lt_zero i)⟩
  intro i hi
  have : i = 0 := by omega
  subst this
  exact h0
 | succ n ih =>
  obtain ⟨f, h1, h2, h3⟩ := ih (fun i a hi => h i a (by omega))
  obtain ⟨b, hb, hi⟩ := h n (f n) (by omega) (h2 n (Nat.le_refl _))
  refine ⟨fun i => if i <= n then f i else b, by simp [h1], ?_, ?_⟩
  ·intro i hin
   dsimp only
   by_cases hi2 : i <= n
   ·rw [if_pos hi2]; exact h2 i hi2
   obtain rfl : i = n + 1 := by omega
   rw [if_neg hi2]; exact hi
  intro i hin
  dsimp only
  by_cases hi2 : i < n
  ·rw [if_pos (by omega : i <= n), if_pos (by omega : i + 1 <= n)]; exact h3 i hi2
  obtain rfl : i = n := by omega
  rw [if_pos (Nat.le_refl _), if_neg (by omega : ¬ i + 1 <= i)]; exact hb
def gnames : List (List UInt8) := baseD.map Dcl.nm ++ extraN
/-- A declaration of the generator. -/
structure DOk (d : Dcl) : Prop where
 fine : d.fine
 ar : ∃ n : Nat, d.ar = Int.ofNat n /\ n <= 2
 nm : d.nm ∈ gnames
 flen : d.fl.length <= 2
structure GD (ds : List Dcl) : Prop where
 len : ds.length <= 900
 each : ∀ d ∈ ds, DOk d
 abs : ∃ d ∈ ds, d.con = false
theorem filter_take {ds : List Dcl} {j : Nat} {t : Dcl} (h : ds[j]? = some t) : (ds.take (j + 1)).filter (fun d => !d.con) = (ds.take j).filter (fun d => !d.con) ++ (if t.con then [] else [t]) := by
 rw [take_get h, List.filter_append]
 cases hc : t.con <;> simp [hc]
theorem encD_get_lt {l : List Dcl} {i : Nat} (h : i < (encD l).length) : ∃ t, l[i]? = some t /\ t ∈ l := by
 rw [encD_length] at h
 exact ⟨l[i], List.getElem?_eq_getElem h, List.getElem_mem h⟩
theorem fl_loop {b : List UInt8} {ar K n i : Int} {con : Bool} {l : List Dat} {ds : List Dcl} (hb : ds.length < 1000000) :
  KD (.loop (roundOf Tryz.f28 1)) (fun e s => e = .exit 2 /\ s = (stFlX (loE b ar 0 [] (.dat nl) con (.dat nl)) l (encD ds) K n i (Int.ofNat ds.length) (ds.filter (fun d => !d.con))).toA Tryz.f28.ntmps)
   ((stFl (loE b ar 0 [] (.dat nl) con (.dat nl)) l (encD ds) K n i 0 []).toA Tryz.f28.ntmps) := by
 refine loop_count (St := fun j => (stFl (loE b ar 0 [] (.dat nl) con (.dat nl)) l (encD ds) K n i (Int.ofNat j) ((ds.take j).filter (fun d => !d.con))).toA Tryz.f28.ntmps) (encD ds).length ?_ ?_ (i := 0) (Nat.zero_le _)
 ·intro j hj
  obtain ⟨t, ht, hm⟩ := encD_get_lt hj
  have hw : wrapF .i64 (Int.ofNat j + 1) = Int.ofNat (j + 1) := wrap_of (by rw [encD_length] at hj; omega)
  have hft := filter_take ht
  refine fl_round (lt_lit hj) (idxDs ht) (by have := List.length_filter_le (fun d : Dcl => !d.con) (ds.take j); rw [List.length_take] at this; omega) ?_ ?_
  ·intro hc
   rw [hw]
   rw [hc] at hft
   simp only [if_true, List.append_nil] at hft
   rw [← hft]
   exact rfl
  intro hc
  rw [hw]
  rw [hc] at hft
  simp only [if_false, Bool.false_eq_true] at hft
  rw [← hft]
  exact rfl
 refine fl_last (ge_lit (by omega)) ⟨rfl, ?_⟩
 rw [encD_length, List.take_length]
section
variable {l : List Int} {ds : List Dcl} (hl : l.length < 10000000) (hd : GD ds)
include hl hd
theorem gen_arg {k : Nat} (hk : k <= l.length) {v : Nat} (hv : v <= 2) : GR l (fun _ _ => True) 65 (aA ds 1 v) k :=
 (gen_all (P := fun _ _ => True) hl (by have := hd.len; omega) (fun d hm => by obtain ⟨n, h1, h2⟩ := (hd.each d hm).ar; exact ⟨n, h1, by omega, trivial⟩) (fun _ _ => trivial) trivial (l.length - k) k hk (Nat.le_refl _)).2.1 1 v (by omega) (by omega) (by omega)
omit hd in
theorem gen_fine {t : Ty} {k k2 : Nat} (h : GT (fun _ _ => True) l.length t k k2) : t.fine := ⟨by have := h.size; have := h.top; omega, h.ix⟩
/-- A round of Extra. -/
theorem extra_step {n i k : Nat} (hk : k <= l.length) (hi : i < n) (hn : n <= 4) : ∃ d k2, DOk d /\ k2 <= l.length /\ ∀ T : Exit -> AState -> Prop, T .normal ((stEx (l.map iN) (encD (ds ++ [d])) (Int.ofNat k2) (Int.ofNat n) (Int.ofNat (i + 1))).toA Tryz.f28.ntmps) ->
  KD (roundOf Tryz.f28 0) T ((stEx (l.map iN) (encD ds) (Int.ofNat k) (Int.ofNat n) (Int.ofNat i)).toA Tryz.f28.ntmps) := by
 have hb : l.length < 1000000000 := by omega
 have hw : wrapF .i64 (Int.ofNat i + 1) = Int.ofNat (i + 1) := wrap_of (by omega)
 rw [← hw]
 obtain ⟨b, hbx, hS⟩ : ∃ b, b ∈ extraN /\ aIndexAddr (env Prims.fast) _ [.dat (.slice (encS extraN)), .dat (.flat (.int .i64 (Int.ofNat i)))] = some ⟨.ref [sb b], .keep⟩ := by
  have h4 : i < extraN.length := by show i < 4; omega
  exact ⟨extraN[i], List.getElem_mem h4, idxS (List.getElem?_eq_getElem h4)⟩
 have hbn : b ∈ gnames := List.mem_append_right _ hbx
 have h1 := lt_lit hi
 have hp : ds.length < 1000000000 := by have := hd.len; omega
 obtain ⟨ar, k2, ⟨a1, a2, a3, _⟩, n1⟩ := g_Next (n := 3) hb hk (by omega) (by omega)
 obtain ⟨cc, k3, ⟨b1, b2, b3, _⟩, n2⟩ := g_Next (n := 2) hb a3 (by omega) (by omega)
 obtain ⟨sp, k4, ⟨c1, c2, c3, _⟩, n3⟩ := g_Next (n := 3) hb b3 (by omega) (by omega)
 have hcc : cc = 0 ∨ cc = 1 := by omega
 have har : ∃ n : Nat, Int.ofNat ar = Int.ofNat n /\ n <= 2 := ⟨ar, rfl, by omega⟩
 have anyF : Ty.fine (.mk 0 [] 0 []) := ⟨by simp [Ty.size, sizeL], by simp [Ty.ixOk, ixOkL, eqF]⟩
 by_cases hsp : sp = 0
 ·subst hsp
  rcases hcc with rfl | rfl
  ·exact ⟨_, k4, ⟨⟨anyF, by simp, by simp⟩, har, hbn, by simp⟩, c3, fun T e => ex_000 h1 hS n1 n2 n3 hp e⟩
  obtain ⟨fb, k7, ⟨f1, f2, f3, _⟩, n6⟩ := g_Next (n := 2) hb c3 (by omega) (by omega)
  have hfb : fb = 0 ∨ fb = 1 := by omega
  rcases hfb with rfl | rfl
  ·exact ⟨_, k7, ⟨⟨anyF, by simp, by simp⟩, har, hbn, by simp⟩, f3, fun T e => ex_100 h1 hS n1 n2 n3 n6 hp e⟩
  obtain ⟨t, k8, ht, n7⟩ := gen_arg hl hd f3 (v := ar) (by omega)
  have tf := gen_fine hl ht
  exact ⟨_, k8, ⟨⟨anyF, by intro f hf; rw [List.mem_singleton.1 hf]; exact tf, by simp⟩, har, hbn, by simp⟩, ht.top, fun T e => ex_101 h1 hS n1 n2 n3 n6 n7 hp e⟩
 have hsp2 : ltF 0 (Int.ofNat sp) = true := lt_lit (a := 0) (by omega)
 have hfl := fun con => fl_loop (b := b) (ar := Int.ofNat ar) (K := Int.ofNat k4) (n := Int.ofNat n) (i := Int.ofNat i) (con := con) (l := l.map iN) (ds := ds) (by have := hd.len; omega)
 obtain ⟨d0, hd0, hc0⟩ := hd.abs
 have hmem : ∀ x ∈ ds.filter (fun d => !d.con), x ∈ ds := fun x hx => (List.mem_filter.1 hx).1
 have hne : d0 ∈ ds.filter (fun d => !d.con) := List.mem_filter.2 ⟨hd0, by simp [hc0]⟩
 have hle := List.length_filter_le (fun d : Dcl => !d.con) ds
 cases hab : ds.filter (fun d => !d.con) with
 | nil => rw [hab] at hne; simp at hne
 | cons ah abs =>
  rw [hab] at hmem hle hfl
  obtain ⟨ai, k5, ⟨d1, d2, d3, _⟩, n5⟩ := g_Next (n := (encD (ah :: abs)).length) hb c3 (by simp [encD]) (by rw [encD_length]; have := hd.len; omega)
  obtain ⟨a, ha, ham⟩ := encD_get_lt d1
  have hi := idxDs ha
  obtain ⟨m, hm1, hm2⟩ := (hd.each a (hmem a ham)).ar
  have hanm := (hd.each a (hmem a ham)).nm
  obtain ⟨ts, ks, e1, e2, e3, e4, e5, e6, e7, e8⟩ := chainT (g := 65) (args := aA ds 1 ar) (P := fun _ _ => True) d3 (fun k' hk' hkl => gen_arg hl hd hkl (by omega)) m
  have supF : Ty.fine (.mk 2 a.nm 0 ts) := ⟨by simp only [Ty.size]; omega, by simp only [Ty.ixOk]; exact ⟨by simp [eqF], e6⟩⟩
  have hl2 : ∀ con : Bool, KD (.loop (roundOf Tryz.f28 2)) (fun e s => e = .exit 4 /\ s = (stSaX (loE2 (cellsD a.nm a.ar a.sup.kind a.sup.nm a.sup.ixn (encL a.sup.args) a.con (encF a.fl)) b (Int.ofNat ar) a.nm ts con) (l.map iN) (encD ds) (Int.ofNat (ks m)) (Int.ofNat n) (Int.ofNat i) (Int.ofNat m)).toA Tryz.f28.ntmps)
    ((stSa (loE2 (cellsD a.nm a.ar a.sup.kind a.sup.nm a.sup.ixn (encL a.sup.args) a.con (encF a.fl)) b (Int.ofNat ar) a.nm [] con) (l.map iN) (encD ds) (Int.ofNat k5) (Int.ofNat n) (Int.ofNat i) 0).toA Tryz.f28.ntmps) := by
   intro con
   rw [← e2]
   refine loop_count (St := fun j => (stSa (loE2 (cellsD a.nm a.ar a.sup.kind a.sup.nm a.sup.ixn (encL a.sup.args) a.con (encF a.fl)) b (Int.ofNat ar) a.nm (ts.take j) con) (l.map iN) (encD ds) (Int.ofNat (ks j)) (Int.ofNat n) (Int.ofNat i) (Int.ofNat j)).toA Tryz.f28.ntmps) m ?_ ?_ (i := 0) (Nat.zero_le _)
   ·intro j hj
    have hti : ts[j]? = some ts[j] := List.getElem?_eq_getElem (by omega)
    refine sa_round (by rw [hm1]; exact lt_lit hj) (e8 j _ hti) (by rw [List.length_take]; omega) ?_
    rw [wrap_of (by omega), ← take_get hti]
    exact rfl
   refine sa_last (by rw [hm1]; exact ge_lit (by omega)) ⟨rfl, ?_⟩
   rw [List.take_of_length_le (by omega)]
  rcases hcc with rfl | rfl
  ·exact ⟨_, ks m, ⟨⟨supF, by simp, by simp⟩, har, hbn, by simp⟩, e4, fun T e => ex_010 h1 hS n1 n2 n3 hsp2 (hfl false) n5 hi (hl2 false) hp e⟩
  obtain ⟨fb, k7, ⟨f1, f2, f3, _⟩, n6⟩ := g_Next (n := 2) hb e4 (by omega) (by omega)
  have hfb : fb = 0 ∨ fb = 1 := by omega
  rcases hfb with rfl | rfl
  ·exact ⟨_, k7, ⟨⟨supF, by simp, by simp⟩, har, hbn, by simp⟩, f3, fun T e => ex_110 h1 hS n1 n2 n3 hsp2 (hfl true) n5 hi (hl2 true) n6 hp e⟩
  obtain ⟨t, k8, ht, n7⟩ := gen_arg hl hd f3 (v := ar) (by omega)
  have tf := gen_fine hl ht
  exact ⟨_, k8, ⟨⟨supF, by intro f hf; rw [List.mem_singleton.1 hf]; exact tf, by simp⟩, har, hbn, by simp⟩, ht.top, fun T e => ex_111 h1 hS n1 n2 n3 hsp2 (hfl true) n5 hi (hl2 true) n6 n7 hp e⟩
end
def stExX (l : List Dat) (ds : List Dat) (K n i : Int) : FState := ⟨[(16, bv false), (6, iv i), (5, iv n), (0, stP0), (1, .own ds)], [], hSt l K, 1⟩
theorem ex_last {l ds : List Dat} {k n i : Int} (h1 : ltF i n = false) {T : Exit -> AState -> Prop} (e : T (.exit 0) ((stExX l ds k n i).toA Tryz.f28.ntmps)) :
  KD (roundOf Tryz.f28 0) T ((stEx l ds k n i).toA Tryz.f28.ntmps) := by
 refine run_of [16] [] (H := hEx) (live := live28) (by kernel_rfl) ?_; refine ob h1 ?_; exact oe e
theorem extra_of {l ds ds2 : List Dat} {k k2 k3 n : Int} (h1 : NextT l k 5 n k2) (hl : KD (.loop (roundOf Tryz.f28 0)) (fun e s => e = .exit 0 /\ s = (stExX l ds2 k3 n n).toA Tryz.f28.ntmps) ((stEx l ds k2 n 0).toA Tryz.f28.ntmps)) :
  KC 28 [stP0, .own ds] (hSt l k) 1 (XQ ⟨.own ds2, hSt l k3, 1⟩) := by
 refine co [] [] (x := .of Tryz.f28 ord28 live28) ?_; refine oh h1 ?_; refine lo hl ?_; rintro ex s ⟨rfl, rfl⟩; refine ⟨_, rfl, ?_⟩; exact fi
theorem GD.add {ds : List Dcl} {d : Dcl} (h : GD ds) (hd : DOk d) (hn : ds.length < 900) : GD (ds ++ [d]) where
 len := by simp; omega
 each := by
  intro x hx
  rcases List.mem_append.1 hx with hx | hx
  ·exact h.each x hx
  rw [List.mem_singleton.1 hx]; exact hd
 abs := by
  obtain ⟨d, h1, h2⟩ := h.abs
  exact ⟨d, List.mem_append_left _ h1, h2⟩
/-- Extra: up to four more. -/
theorem g_Extra {l : List Int} {ds : List Dcl} (hl : l.length < 10000000) (hd : GD ds) (hn : ds.length <= 800) {k : Nat} (hk : k <= l.length) :
  ∃ (m : List Dcl) (k2 : Nat), GD (ds ++ m) /\ m.length <= 4 /\ k2 <= l.length /\ KC 28 [stP0, .own (encD ds)] (hSt (l.map iN) (Int.ofNat k)) 1 (XQ ⟨.own (encD (ds ++ m)), hSt (l.map iN) (Int.ofNat k2), 1⟩) := by
 obtain ⟨n, k2, ⟨h1, h2, h3, _⟩, hc⟩ := g_Next (n := 5) (by omega : l.length < 1000000000) hk (by omega) (by omega)
 obtain ⟨f, f0, fI, fR⟩ := chainS (α := List Dcl × Nat) (n := n) (Inv := fun i a => GD (ds ++ a.1) /\ a.1.length = i /\ a.2 <= l.length)
  (R := fun i a b => ∀ T : Exit -> AState -> Prop, T .normal ((stEx (l.map iN) (encD (ds ++ b.1)) (Int.ofNat b.2) (Int.ofNat n) (Int.ofNat (i + 1))).toA Tryz.f28.ntmps) ->
   KD (roundOf Tryz.f28 0) T ((stEx (l.map iN) (encD (ds ++ a.1)) (Int.ofNat a.2) (Int.ofNat n) (Int.ofNat i)).toA Tryz.f28.ntmps))
  ([], k2) ⟨by rw [List.append_nil]; exact hd, rfl, h3⟩ (by
   rintro i ⟨m, kk⟩ hi ⟨g1, g2, g3⟩
   obtain ⟨d, k3, hd3, hk3, hR⟩ := extra_step hl g1 g3 hi (by omega)
   refine ⟨(m ++ [d], k3), ?_, ?_, by simp at g2 ⊢; omega, hk3⟩
   ·intro T hT
    rw [← List.append_assoc] at hT
    exact hR T hT
   rw [← List.append_assoc]
   refine g1.add hd3 ?_
   simp at g2 ⊢; omega)
 obtain ⟨g1, g2, g3⟩ := fI n (Nat.le_refl _)
 refine ⟨(f n).1, (f n).2, g1, by omega, g3, extra_of hc ?_⟩
 have e : stEx (l.map iN) (encD ds) (Int.ofNat k2) (Int.ofNat n) 0 = stEx (l.map iN) (encD (ds ++ (f 0).1)) (Int.ofNat (f 0).2) (Int.ofNat n) (Int.ofNat 0) := by rw [f0]; simp
 rw [e]
 refine loop_count (St := fun i => (stEx (l.map iN) (encD (ds ++ (f i).1)) (Int.ofNat (f i).2) (Int.ofNat n) (Int.ofNat i)).toA Tryz.f28.ntmps) n ?_ ?_ (i := 0) (Nat.zero_le _)
 ·intro i hi
  exact fR i hi _ rfl
 exact ex_last (ge_lit (by omega)) ⟨rfl, rfl⟩
theorem baseD_ok : GD baseD where
 len := by decide
 each := by
  have key : ∀ d ∈ baseD, (d.sup.size < 100000000 /\ d.sup.ixOk) /\ (∀ f ∈ d.fl, f.ty.size < 100000000 /\ f.ty.ixOk) /\ d.fl.length <= 2 /\ (∃ n : Nat, d.ar = Int.ofNat n /\ n <= 2) := by
   intro d hd
   simp only [baseD, List.mem_cons, List.mem_nil_iff, or_false] at hd
   rcases hd with rfl | rfl | rfl | rfl | rfl | rfl | rfl | rfl <;>
    simp [Ty.size, sizeL, Ty.ixOk, ixOkL, eqF, ltF]
   all_goals first | exact ⟨0, rfl, by omega⟩ | exact ⟨1, rfl, by omega⟩ | exact ⟨2, rfl, by omega⟩
  intro d hd
  obtain ⟨h1, h2, h3, h4⟩ := key d hd
  exact ⟨⟨h1, h2, by omega⟩, h4, List.mem_append_left _ (List.mem_map_of_mem hd), h3⟩
 abs := ⟨_, List.mem_cons_self, rfl⟩
theorem decls_of {l ds ds2 : List Dat} {k : Int} (h1 : Calls1 43 [] (.own ds)) (h2 : KC 15 [.dat (.slice l)] [] 0 (XQ ⟨stP0, hSt l 0, 1⟩)) (h3 : KC 28 [stP0, .own ds] (hSt l 0) 1 (XQ ⟨.own ds2, hSt l k, 1⟩)) :
  Calls1 9 [.dat (.slice l)] (.own ds2) := by
 refine co [] [] (x := .of Tryz.f9 ord9 live9) ?_; refine oh h2 ?_; refine on h1 ?_; refine oh h3 ?_; exact fi
/-- Decls: the base and up to four more. -/
theorem g_Decls {l : List Int} (hl : l.length < 10000000) : ∃ m : List Dcl, GD (baseD ++ m) /\ m.length <= 4 /\ Calls1 9 [.dat (.slice (l.map iN))] (.own (encD (baseD ++ m))) := by
 obtain ⟨m, k2, h1, h2, h3, h4⟩ := g_Extra hl baseD_ok (by decide) (Nat.zero_le _)
 exact ⟨m, h1, h2, decls_of g_Base g_New h4⟩
theorem open_of {l ds : List Dat} {k k2 v : Int} {t : Ty} (h : TermT l ds 3 v k t.enc k2) : KC 14 [stP0, .dat (.slice ds), iv v] (hSt l k) 1 (XQ ⟨.dat t.enc, hSt l k2, 1⟩) := by
 obtain ⟨ek2, en, ei, ea⟩ := t
 rcases ea with _ | ⟨x, ea⟩ <;>
 ·refine co [] [] (x := .of Tryz.f14 ord14 live14) ?_; refine oh h ?_; exact fi
def loR (j : Nat) (k : Int) (nm : List UInt8) (ix : Int) (a : Dat) : Heap := [(.loc j, .cells [iv k, .dat (sb nm), iv ix, .dat a])]
def stRS (lo : Heap) (i n : Int) : FState := ⟨[(4, iv i), (3, iv n), (1, .ptr (.loc 1) 0)], lo, [], 0⟩
def stRSX (lo : Heap) (i n : Int) : FState := ⟨[(9, bv false), (4, iv i), (3, iv n), (1, .ptr (.loc 1) 0)], lo, [], 0⟩
theorem sl_cons {l : List Ty} {i : Nat} (h : i < (encL l).length) : sl (encL l) = .slice (encL l) := by cases l with | nil => simp [encL] at h | cons x r => rfl
noncomputable def hRS : Hints := ⟨xmoves, ord175, xcaps, rowsOf xcaps 175⟩
theorem rs_round {k : Int} {nm : List UInt8} {ix n m : Int} {l : List Ty} {t : Ty} {i : Nat} (hi : i < (encL l).length) (ht : l[i]? = some t) (hc : Calls1 175 [.dat t.enc] (iv m)) {T : Exit -> AState -> Prop}
  (e : T .normal ((stRS (loR 1 k nm ix (.slice (encL l))) (wrapF .i64 (Int.ofNat i + 1)) (wrapF .i64 (n + m))).toA Tryz.f175.ntmps)) :
  KD (roundOf Tryz.f175 0) T ((stRS (loR 1 k nm ix (.slice (encL l))) (Int.ofNat i) n).toA Tryz.f175.ntmps) := by
 have h1 := ltF_yes hi
 have h2 := idxT ht
 generalize encL l = es at *
 clear ht hi
 obtain ⟨k2, nm2, ix2, a2⟩ := t
 rcases a2 with _ | ⟨b, d⟩ <;>
 ·refine run_of [9] [16] (H := hRS) (live := live175) (by kernel_rfl) ?_; refine ob h1 ?_; refine oo h2 ?_; refine on hc ?_; exact oe e
theorem rs_last {k : Int} {nm : List UInt8} {ix n : Int} {l : List Dat} {T : Exit -> AState -> Prop} (e : T (.exit 0) ((stRSX (loR 1 k nm ix (sl l)) (Int.ofNat l.length) n).toA Tryz.f175.ntmps)) :
  KD (roundOf Tryz.f175 0) T ((stRS (loR 1 k nm ix (sl l)) (Int.ofNat l.length) n).toA Tryz.f175.ntmps) := by
 have h1 := ltF_no (i := l.length) (L := l.length) (by omega)
 rcases l with _ | ⟨x, l⟩
 ·refine run_of [] [] (H := hRS) (live := live175) (by kernel_rfl) ?_; exact oe e
 refine run_of [9] [] (H := hRS) (live := live175) (by kernel_rfl) ?_; refine ob h1 ?_; exact oe e
theorem rs_all {k : Int} {nm : List UInt8} {ix n : Int} {l : List Dat} (hl : KD (.loop (roundOf Tryz.f175 0)) (fun e s => e = .exit 0 /\ s = (stRSX (loR 1 k nm ix (sl l)) (Int.ofNat l.length) n).toA Tryz.f175.ntmps) ((stRS (loR 1 k nm ix (sl l)) (Int.ofNat 0) 1).toA Tryz.f175.ntmps)) :
  Calls1 175 [.dat (.agg [i64 k, sb nm, i64 ix, sl l])] (iv n) := by
 rcases l with _ | ⟨x, l⟩ <;>
 ·refine co [] [] (x := .of Tryz.f175 ord175 live175) ?_; refine lo hl ?_; rintro ex s ⟨rfl, rfl⟩; refine ⟨_, rfl, ?_⟩; exact fi
mutual
theorem r_size : ∀ t : Ty, t.size < 1000000000 -> Calls1 175 [.dat t.enc] (iv (Int.ofNat t.size))
 | .mk k nm ix l, h => by
  simp only [Ty.size] at h
  have ih := r_sizeL l (by omega)
  have hlen := len_size l
  refine rs_all ?_
  rw [show Int.ofNat (Ty.mk k nm ix l).size = Int.ofNat (1 + sizeL l) by simp only [Ty.size]; rw [Nat.add_comm]]
  refine loop_count (St := fun i => (stRS (loR 1 k nm ix (sl (encL l))) (Int.ofNat i) (Int.ofNat (1 + sizeL (l.take i)))).toA Tryz.f175.ntmps) (encL l).length ?_ ?_ (i := 0) (Nat.zero_le _)
  ·intro i hi
   obtain ⟨t, ht, hm⟩ := get_mem hi
   have hs := sizeL_take ht
   have hle := sizeL_le (l := l) (i + 1)
   have hsl := sl_cons hi
   have e := rs_round (k := k) (nm := nm) (ix := ix) (n := Int.ofNat (1 + sizeL (l.take i))) hi ht (ih t hm) (T := seqQ (fun s => s = (stRS (loR 1 k nm ix (sl (encL l))) (Int.ofNat (i + 1)) (Int.ofNat (1 + sizeL (l.take (i + 1))))).toA Tryz.f175.ntmps) (fun e s => e = .exit 0 /\ s = (stRSX (loR 1 k nm ix (sl (encL l))) (Int.ofNat (encL l).length) (Int.ofNat (1 + sizeL l))).toA Tryz.f175.ntmps)) (by
    rw [encL_length] at hi
    rw [wrap_of (by omega), wrap_add (by omega), hs, hsl, Nat.add_assoc]
    rfl)
   rw [hsl] at e ⊢
   exact e
  refine rs_last ⟨rfl, ?_⟩
  rw [encL_length, List.take_length]
theorem r_sizeL : ∀ l : List Ty, sizeL l < 1000000000 -> ∀ t ∈ l, Calls1 175 [.dat t.enc] (iv (Int.ofNat t.size))
 | [], _, t, ht => by simp at ht
 | u :: r, h, t, ht => by
  simp only [sizeL] at h
  rcases List.mem_cons.1 ht with h1 | ht
  ·rw [h1]; exact r_size u (by omega)
  exact r_sizeL r (by omega) t ht
end
noncomputable def hRD : Hints := ⟨xmoves, ord176, xcaps, rowsOf xcaps 176⟩
theorem rd_round {k : Int} {nm : List UInt8} {ix : Int} {n m : Nat} {l : List Ty} {t : Ty} {i : Nat} (hi : i < (encL l).length) (ht : l[i]? = some t) (hc : Calls1 176 [.dat t.enc] (iv (Int.ofNat m))) {T : Exit -> AState -> Prop}
  (e : T .normal ((stRS (loR 1 k nm ix (.slice (encL l))) (wrapF .i64 (Int.ofNat i + 1)) (match ltF (Int.ofNat n) (Int.ofNat m) with | true => Int.ofNat m | false => Int.ofNat n)).toA Tryz.f176.ntmps)) :
  KD (roundOf Tryz.f176 0) T ((stRS (loR 1 k nm ix (.slice (encL l))) (Int.ofNat i) (Int.ofNat n)).toA Tryz.f176.ntmps) := by
 have h1 := ltF_yes hi
 have h2 := idxT ht
 generalize encL l = es at *
 clear ht hi
 obtain ⟨k2, nm2, ix2, a2⟩ := t
 rcases a2 with _ | ⟨b, d⟩ <;>
 ·refine run_of [9] [16] (H := hRD) (live := live176) (by kernel_rfl) ?_; refine ob h1 ?_; refine oo h2 ?_; refine on hc ?_; exact oe e
theorem rd_last {k : Int} {nm : List UInt8} {ix n : Int} {l : List Dat} {T : Exit -> AState -> Prop} (e : T (.exit 0) ((stRSX (loR 1 k nm ix (sl l)) (Int.ofNat l.length) n).toA Tryz.f176.ntmps)) :
  KD (roundOf Tryz.f176 0) T ((stRS (loR 1 k nm ix (sl l)) (Int.ofNat l.length) n).toA Tryz.f176.ntmps) := by
 have h1 := ltF_no (i := l.length) (L := l.length) (by omega)
 rcases l with _ | ⟨x, l⟩
 ·refine run_of [] [] (H := hRD) (live := live176) (by kernel_rfl) ?_; exact oe e
 refine run_of [9] [] (H := hRD) (live := live176) (by kernel_rfl) ?_; refine ob h1 ?_; exact oe e
theorem rd_all {k : Int} {nm : List UInt8} {ix n : Int} {l : List Dat} (hl : KD (.loop (roundOf Tryz.f176 0)) (fun e s => e = .exit 0 /\ s = (stRSX (loR 1 k nm ix (sl l)) (Int.ofNat l.length) n).toA Tryz.f176.ntmps) ((stRS (loR 1 k nm ix (sl l)) (Int.ofNat 0) 0).toA Tryz.f176.ntmps)) :
  Calls1 176 [.dat (.agg [i64 k, sb nm, i64 ix, sl l])] (iv (wrapF .i64 (n + 1))) := by
 rcases l with _ | ⟨x, l⟩ <;>
 ·refine co [] [] (x := .of Tryz.f176 ord176 live176) ?_; refine lo hl ?_; rintro ex s ⟨rfl, rfl⟩; refine ⟨_, rfl, ?_⟩; exact fi
mutual
theorem r_depth : ∀ t : Ty, t.size < 1000000000 -> Calls1 176 [.dat t.enc] (iv (Int.ofNat t.depth))
 | .mk k nm ix l, h => by
  simp only [Ty.size] at h
  have ih := r_depthL l (by omega)
  have hlen := len_size l
  have hdl := depth_sizeL l
  rw [show Int.ofNat (Ty.mk k nm ix l).depth = wrapF .i64 (Int.ofNat (depthL l) + 1) by rw [wrap_of (by omega)]; rfl]
  refine rd_all ?_
  refine loop_count (St := fun i => (stRS (loR 1 k nm ix (sl (encL l))) (Int.ofNat i) (Int.ofNat (depthL (l.take i)))).toA Tryz.f176.ntmps) (encL l).length ?_ ?_ (i := 0) (Nat.zero_le _)
  ·intro i hi
   obtain ⟨t, ht, hm⟩ := get_mem hi
   have hs := depthL_take ht
   have hsl := sl_cons hi
   have e := rd_round (k := k) (nm := nm) (ix := ix) (n := depthL (l.take i)) hi ht (ih t hm) (T := seqQ (fun s => s = (stRS (loR 1 k nm ix (sl (encL l))) (Int.ofNat (i + 1)) (Int.ofNat (depthL (l.take (i + 1))))).toA Tryz.f176.ntmps) (fun e s => e = .exit 0 /\ s = (stRSX (loR 1 k nm ix (sl (encL l))) (Int.ofNat (encL l).length) (Int.ofNat (depthL l))).toA Tryz.f176.ntmps)) (by
    rw [encL_length] at hi
    rw [wrap_of (by omega), hs, hsl]
    have e2 : (match ltF (Int.ofNat (depthL (l.take i))) (Int.ofNat t.depth) with | true => Int.ofNat t.depth | false => Int.ofNat (depthL (l.take i))) = Int.ofNat (max (depthL (l.take i)) t.depth) := by
     rw [ltF_of]
     by_cases hlt : depthL (l.take i) < t.depth
     ·rw [decide_eq_true hlt, Nat.max_eq_right (by omega)]
     rw [decide_eq_false hlt, Nat.max_eq_left (by omega)]
    rw [e2]
    rfl)
   rw [hsl] at e ⊢
   exact e
  refine rd_last ⟨rfl, ?_⟩
  rw [encL_length, List.take_length]
theorem r_depthL : ∀ l : List Ty, sizeL l < 1000000000 -> ∀ t ∈ l, Calls1 176 [.dat t.enc] (iv (Int.ofNat t.depth))
 | [], _, t, ht => by simp at ht
 | u :: r, h, t, ht => by
  simp only [sizeL] at h
  rcases List.mem_cons.1 ht with h1 | ht
  ·rw [h1]; exact r_depth u (by omega)
  exact r_depthL r (by omega) t ht
end
def ordR (c : Bool) : Int := match c with | true => -1 | false => 1
theorem r_order (c : Bool) : Calls1 96 [bv c] (iv (ordR c)) := by
 cases c <;> exact X_ok _ _ _ _ _ (by kernel_rfl)
noncomputable def hRC : Hints := ⟨xmoves, ord61, xcaps, rowsOf xcaps 61⟩
def lo2 (k : Int) (nm : List UInt8) (ix : Int) (a : Dat) (k2 : Int) (nm2 : List UInt8) (ix2 : Int) (a2 : Dat) : Heap := [(.loc 3, .cells [iv k2, .dat (sb nm2), iv ix2, .dat a2]), (.loc 2, .cells [iv k, .dat (sb nm), iv ix, .dat a])]
def stQ (lo : Heap) (i : Int) : FState := ⟨[(5, iv i), (3, .ptr (.loc 3) 0), (2, .ptr (.loc 2) 0)], lo, [], 0⟩
def stQX (lo : Heap) (i : Int) : FState := ⟨[(63, bv false), (5, iv i), (3, .ptr (.loc 3) 0), (2, .ptr (.loc 2) 0)], lo, [], 0⟩
def stQR (c : Int) : FState := ⟨[(4, iv c)], [], [], 0⟩
theorem rc_round {k : Int} {nm : List UInt8} {ix : Int} {l : List Ty} {k2 : Int} {nm2 : List UInt8} {ix2 : Int} {l2 : List Ty} {t u : Ty} {i : Nat} {c : Int} {cz : Bool} (hi : i < (encL l).length) (ht : l[i]? = some t) (hu : l2[i]? = some u) (hc : Calls1 61 [.dat t.enc, .dat u.enc] (iv c)) (hz : eqF c 0 = cz) {T : Exit -> AState -> Prop}
  (e1 : cz = true -> T .normal ((stQ (lo2 k nm ix (.slice (encL l)) k2 nm2 ix2 (.slice (encL l2))) (wrapF .i64 (Int.ofNat i + 1))).toA Tryz.f61.ntmps)) (e2 : cz = false -> T .ret ((stQR c).toA Tryz.f61.ntmps)) :
  KD (roundOf Tryz.f61 0) T ((stQ (lo2 k nm ix (.slice (encL l)) k2 nm2 ix2 (.slice (encL l2))) (Int.ofNat i)).toA Tryz.f61.ntmps) := by
 have h1 := ltF_yes hi
 have h2 := idxT ht
 have h3 := idxT hu
 generalize encL l = es at *
 generalize encL l2 = es2 at *
 clear ht hi hu
 obtain ⟨tk, tn, tix, ta⟩ := t
 obtain ⟨uk, un, uix, ua⟩ := u
 rcases ta with _ | ⟨b, d⟩ <;>
 ·rcases ua with _ | ⟨b2, d2⟩ <;>
  ·refine run_of [63, 78] [69, 74] (H := hRC) (live := live61) (by kernel_rfl) ?_; refine ob h1 ?_; refine oo h2 ?_; refine oo h3 ?_; refine on hc ?_; refine ox hz ?_
   cases cz
   ·exact oe (e2 rfl)
   exact oe (e1 rfl)
theorem rc_last {k : Int} {nm : List UInt8} {ix : Int} {l : List Dat} {k2 : Int} {nm2 : List UInt8} {ix2 : Int} {a : List Dat} {T : Exit -> AState -> Prop} (e : T (.exit 1) ((stQX (lo2 k nm ix (sl l) k2 nm2 ix2 (sl a)) (Int.ofNat l.length)).toA Tryz.f61.ntmps)) :
  KD (roundOf Tryz.f61 0) T ((stQ (lo2 k nm ix (sl l) k2 nm2 ix2 (sl a)) (Int.ofNat l.length)).toA Tryz.f61.ntmps) := by
 have h1 := ltF_no (i := l.length) (L := l.length) (by omega)
 rcases l with _ | ⟨x, l⟩
 ·refine run_of [] [] (H := hRC) (live := live61) (by kernel_rfl) ?_; exact oe e
 refine run_of [63] [] (H := hRC) (live := live61) (by kernel_rfl) ?_; refine ob h1 ?_; exact oe e
def rcSel (c1 c2 c3 c4 c5 c6 c7 c8 : Bool) (r : Int) : Int := match c1 with | false => ordR c5 | true => match c2 with | false => ordR c6 | true => match c3 with | false => ordR c7 | true => match c4 with | false => ordR c8 | true => r
theorem rc_all {k : Int} {nm : List UInt8} {ix : Int} {l : List Dat} {k2 : Int} {nm2 : List UInt8} {ix2 : Int} {l2 : List Dat} {c1 c2 c3 c4 c5 c6 c7 c8 : Bool} {r : Int} (h1 : eqF k k2 = c1) (h2 : eqB nm nm2 = c2) (h3 : eqF ix ix2 = c3) (h4 : eqF (Int.ofNat l.length) (Int.ofNat l2.length) = c4) (h5 : ltF k k2 = c5) (h6 : ltB nm nm2 = c6) (h7 : ltF ix ix2 = c7) (h8 : ltF (Int.ofNat l.length) (Int.ofNat l2.length) = c8)
 (hl : c4 = true -> KD (.loop (roundOf Tryz.f61 0)) (fun e s => (e = .exit 1 /\ r = 0 /\ s = (stQX (lo2 k nm ix (sl l) k2 nm2 ix2 (sl l2)) (Int.ofNat l.length)).toA Tryz.f61.ntmps) ∨ (e = .ret /\ s = (stQR r).toA Tryz.f61.ntmps)) ((stQ (lo2 k nm ix (sl l) k2 nm2 ix2 (sl l2)) (Int.ofNat 0)).toA Tryz.f61.ntmps)) :
 Calls1 61 [.dat (.agg [i64 k, sb nm, i64 ix, sl l]), .dat (.agg [i64 k2, sb nm2, i64 ix2, sl l2])] (iv (rcSel c1 c2 c3 c4 c5 c6 c7 c8 r)) := by
 have o1 := r_order true
 have o2 := r_order false
 rcases l with _ | ⟨x, l⟩
 ·rcases l2 with _ | ⟨y, l2⟩
  ·have z : c4 = true := h4.symm
   subst z
   have hl2 := hl rfl
   clear hl h4 h8
   refine co [12, 24, 36, 41, 29, 17] [] (x := .of Tryz.f61 ord61 live61) ?_; refine ox h1 ?_
   cases c1
   ·refine ob h5 ?_
    cases c5
    ·refine on o2 ?_; exact fi
    refine on o1 ?_; exact fi
   refine ox h2 ?_
   cases c2
   ·refine ob h6 ?_
    cases c6
    ·refine on o2 ?_; exact fi
    refine on o1 ?_; exact fi
   refine ox h3 ?_
   cases c3
   ·refine ob h7 ?_
    cases c7
    ·refine on o2 ?_; exact fi
    refine on o1 ?_; exact fi
   refine lo hl2 ?_
   rintro ex s (⟨rfl, rfl, rfl⟩ | ⟨rfl, rfl⟩) <;>
   ·refine ⟨_, rfl, ?_⟩; exact fi
  have z : c4 = false := h4.symm
  have z8 : c8 = true := h8.symm
  subst z z8
  clear hl h4 h8
  refine co [12, 24, 36, 41, 29, 17] [] (x := .of Tryz.f61 ord61 live61) ?_; refine ox h1 ?_
  cases c1
  ·refine ob h5 ?_
   cases c5
   ·refine on o2 ?_; exact fi
   refine on o1 ?_; exact fi
  refine ox h2 ?_
  cases c2
  ·refine ob h6 ?_
   cases c6
   ·refine on o2 ?_; exact fi
   refine on o1 ?_; exact fi
  refine ox h3 ?_
  cases c3
  ·refine ob h7 ?_
   cases c7
   ·refine on o2 ?_; exact fi
   refine on o1 ?_; exact fi
  refine on o1 ?_; exact fi
 rcases l2 with _ | ⟨y, l2⟩
 ·have z : c4 = false := h4.symm
  have z8 : c8 = false := h8.symm
  subst z z8
  clear hl h4 h8
  refine co [12, 24, 36, 41, 29, 17] [] (x := .of Tryz.f61 ord61 live61) ?_; refine ox h1 ?_
  cases c1
  ·refine ob h5 ?_
   cases c5
   ·refine on o2 ?_; exact fi
   refine on o1 ?_; exact fi
  refine ox h2 ?_
  cases c2
  ·refine ob h6 ?_
   cases c6
   ·refine on o2 ?_; exact fi
   refine on o1 ?_; exact fi
  refine ox h3 ?_
  cases c3
  ·refine ob h7 ?_
   cases c7
   ·refine on o2 ?_; exact fi
   refine on o1 ?_; exact fi
  refine on o2 ?_; exact fi
 cases c4
 ·clear hl
  refine co [12, 24, 36, 50, 57, 41, 29, 17] [] (x := .of Tryz.f61 ord61 live61) ?_; refine ox h1 ?_
  cases c1
  ·refine ob h5 ?_
   cases c5
   ·refine on o2 ?_; exact fi
   refine on o1 ?_; exact fi
  refine ox h2 ?_
  cases c2
  ·refine ob h6 ?_
   cases c6
   ·refine on o2 ?_; exact fi
   refine on o1 ?_; exact fi
  refine ox h3 ?_
  cases c3
  ·refine ob h7 ?_
   cases c7
   ·refine on o2 ?_; exact fi
   refine on o1 ?_; exact fi
  refine ox h4 ?_; refine ob h8 ?_
  cases c8
  ·refine on o2 ?_; exact fi
  refine on o1 ?_; exact fi
 have hl2 := hl rfl
 clear hl
 refine co [12, 24, 36, 50, 41, 29, 17] [] (x := .of Tryz.f61 ord61 live61) ?_; refine ox h1 ?_
 cases c1
 ·refine ob h5 ?_
  cases c5
  ·refine on o2 ?_; exact fi
  refine on o1 ?_; exact fi
 refine ox h2 ?_
 cases c2
 ·refine ob h6 ?_
  cases c6
  ·refine on o2 ?_; exact fi
  refine on o1 ?_; exact fi
 refine ox h3 ?_
 cases c3
 ·refine ob h7 ?_
  cases c7
  ·refine on o2 ?_; exact fi
  refine on o1 ?_; exact fi
 refine ox h4 ?_; refine lo hl2 ?_
 rintro ex s (⟨rfl, rfl, rfl⟩ | ⟨rfl, rfl⟩) <;>
 ·refine ⟨_, rfl, ?_⟩; exact fi
mutual
def rcT : Ty -> Ty -> Int
 | .mk k nm ix l, .mk k2 nm2 ix2 l2 => rcSel (eqF k k2) (eqB nm nm2) (eqF ix ix2) (eqF (Int.ofNat (encL l).length) (Int.ofNat (encL l2).length)) (ltF k k2) (ltB nm nm2) (ltF ix ix2) (ltF (Int.ofNat (encL l).length) (Int.ofNat (encL l2).length)) (rcL l l2)
def rcL : List Ty -> List Ty -> Int
 | t :: r, u :: v => match eqF (rcT t u) 0 with | true => rcL r v | false => rcT t u
 | _, _ => 0
end
theorem rcL_drop {l l2 : List Ty} {i : Nat} {t u : Ty} (ht : l[i]? = some t) (hu : l2[i]? = some u) : rcL (l.drop i) (l2.drop i) = (match eqF (rcT t u) 0 with | true => rcL (l.drop (i + 1)) (l2.drop (i + 1)) | false => rcT t u) := by rw [dropA_get ht, dropA_get hu, rcL]
theorem rc_loop {k : Int} {nm : List UInt8} {ix : Int} {l : List Ty} {k2 : Int} {nm2 : List UInt8} {ix2 : Int} {l2 : List Ty} (hlen : l.length = l2.length) (hb : l.length < 1000000000) (ih : ∀ t ∈ l, ∀ u ∈ l2, Calls1 61 [.dat t.enc, .dat u.enc] (iv (rcT t u))) :
  KD (.loop (roundOf Tryz.f61 0)) (fun e s => (e = .exit 1 /\ rcL l l2 = 0 /\ s = (stQX (lo2 k nm ix (sl (encL l)) k2 nm2 ix2 (sl (encL l2))) (Int.ofNat (encL l).length)).toA Tryz.f61.ntmps) ∨ (e = .ret /\ s = (stQR (rcL l l2)).toA Tryz.f61.ntmps)) ((stQ (lo2 k nm ix (sl (encL l)) k2 nm2 ix2 (sl (encL l2))) (Int.ofNat 0)).toA Tryz.f61.ntmps) := by
 refine loop_inv (St := fun i => (stQ (lo2 k nm ix (sl (encL l)) k2 nm2 ix2 (sl (encL l2))) (Int.ofNat i)).toA Tryz.f61.ntmps) (fun i => rcL l l2 = rcL (l.drop i) (l2.drop i)) (encL l).length ?_ ?_ (i := 0) (Nat.zero_le _) rfl
 ·intro i hi hI
  obtain ⟨t, ht, hm⟩ := get_mem hi
  have hi2 := hi
  rw [encL_length] at hi2
  have hu : l2[i]? = some l2[i] := List.getElem?_eq_getElem (by omega)
  have hm2 : l2[i] ∈ l2 := List.getElem_mem _
  generalize l2[i] = u at hu hm2
  have h := ih t hm u hm2
  have hd := rcL_drop ht hu
  rw [← hI] at hd
  have hw : wrapF .i64 (Int.ofNat i + 1) = Int.ofNat (i + 1) := wrap_of (by omega)
  have hs1 := sl_cons hi
  have hs2 : sl (encL l2) = .slice (encL l2) := sl_cons (i := i) (by rw [encL_length]; omega)
  rw [hs1, hs2]
  generalize rcT t u = c at h hd
  refine rc_round hi ht hu h rfl ?_ ?_
  ·intro hz
   rw [hz] at hd
   rw [hw]
   exact ⟨rfl, hd⟩
  intro hz
  rw [hz] at hd
  dsimp only at hd
  exact .inr ⟨rfl, by rw [hd]⟩
 intro hI
 refine rc_last (.inl ⟨rfl, ?_, rfl⟩)
 rw [hI, encL_length, List.drop_length]
 cases l2.drop l.length <;> rfl
mutual
theorem r_compare : ∀ (t u : Ty), t.size < 1000000000 -> Calls1 61 [.dat t.enc, .dat u.enc] (iv (rcT t u))
 | .mk k nm ix l, .mk k2 nm2 ix2 l2, h => by
  simp only [Ty.size] at h
  have hlen := len_size l
  have ih := r_compareL l (by omega)
  rw [rcT]
  refine rc_all rfl rfl rfl rfl rfl rfl rfl rfl (fun he => ?_)
  rw [eqF_of, encL_length, encL_length] at he
  exact rc_loop (by simpa using he) (by omega) (fun t ht u _ => ih t ht u)
theorem r_compareL : ∀ l : List Ty, sizeL l < 1000000000 -> ∀ t ∈ l, ∀ u, Calls1 61 [.dat t.enc, .dat u.enc] (iv (rcT t u))
 | [], _, t, ht, _ => by simp at ht
 | x :: r, h, t, ht, u => by
  simp only [sizeL] at h
  rcases List.mem_cons.1 ht with h1 | ht
  ·rw [h1]; exact r_compare x u (by omega)
  exact r_compareL r (by omega) t ht u
end
theorem re_of {k ix k2 ix2 r : Int} {nm nm2 : List UInt8} {l l2 : List Dat} {c : Bool} (h : Calls1 61 [.dat (.agg [i64 k, sb nm, i64 ix, sl l]), .dat (.agg [i64 k2, sb nm2, i64 ix2, sl l2])] (iv r)) (hc : eqF r 0 = c) : Calls1 24 [.dat (.agg [i64 k, sb nm, i64 ix, sl l]), .dat (.agg [i64 k2, sb nm2, i64 ix2, sl l2])] (bv c) := by
 rcases l with _ | ⟨x, l⟩ <;>
 ·rcases l2 with _ | ⟨y, l2⟩ <;>
  ·refine co [8] [] (x := .of Tryz.f24 ord24 live24) ?_; refine on h ?_; refine ob hc ?_
   cases c <;>
   ·exact fi
def reT (t u : Ty) : Bool := eqF (rcT t u) 0
theorem r_equal (t u : Ty) (h : t.size < 1000000000) : Calls1 24 [.dat t.enc, .dat u.enc] (bv (reT t u)) := by
 have h1 := r_compare t u h
 obtain ⟨k, nm, ix, l⟩ := t
 obtain ⟨k2, nm2, ix2, l2⟩ := u
 exact re_of h1 rfl
/-! ### Equal terms are the same -/
theorem ordR_ne (c : Bool) : ordR c ≠ 0 := by cases c <;> decide
theorem eqB_to {a b : List UInt8} (h : eqB a b = true) : a = b := by rw [eqB_eq] at h; simpa using h
theorem eqF_to {a b : Int} (h : eqF a b = true) : a = b := by rw [eqF_eq] at h; simpa using h
theorem rcSel_zero {c1 c2 c3 c4 c5 c6 c7 c8 : Bool} {r : Int} (h : rcSel c1 c2 c3 c4 c5 c6 c7 c8 r = 0) : c1 = true /\ c2 = true /\ c3 = true /\ c4 = true /\ r = 0 := by
 cases c1 <;> cases c2 <;> cases c3 <;> cases c4 <;> simp [rcSel, ordR_ne] at h ⊢ <;> exact h
mutual
theorem rcT_zero : ∀ (t u : Ty), rcT t u = 0 -> t = u
 | .mk k nm ix l, .mk k2 nm2 ix2 l2, h => by
  rw [rcT] at h
  obtain ⟨h1, h2, h3, h4, h5⟩ := rcSel_zero h
  rw [eqF_to h1, eqB_to h2, eqF_to h3]
  rw [eqF_of, encL_length, encL_length] at h4
  rw [rcL_zero l l2 (by simpa using h4) h5]
theorem rcL_zero : ∀ (l l2 : List Ty), l.length = l2.length -> rcL l l2 = 0 -> l = l2
 | [], [], _, _ => rfl
 | [], _ :: _, h, _ => by simp at h
 | _ :: _, [], h, _ => by simp at h
 | t :: r, u :: v, h, h2 => by
  rw [rcL] at h2
  cases hz : eqF (rcT t u) 0 with
  | true =>
   rw [hz] at h2
   rw [rcT_zero t u (eqF_to hz), rcL_zero r v (by simpa using h) h2]
  | false =>
   rw [hz] at h2
   dsimp only at h2
   rw [h2, eqF_self] at hz
   simp at hz
end
mutual
theorem rcT_self : ∀ t : Ty, rcT t t = 0
 | .mk k nm ix l => by rw [rcT, eqF_self, eqB_self, eqF_self, eqF_self, rcL_self l]; rfl
theorem rcL_self : ∀ l : List Ty, rcL l l = 0
 | [] => by simp [rcL]
 | t :: r => by rw [rcL, rcT_self t, eqF_self, rcL_self r]
end
theorem reT_iff {t u : Ty} : reT t u = true ↔ t = u := by
 unfold reT
 constructor
 ·intro h; exact rcT_zero t u (eqF_to h)
 rintro rfl; rw [rcT_self, eqF_self]
theorem bx_decl (nm : List UInt8) (ar k : Int) (tn : List UInt8) (ix : Int) (la : List Dat) (con : Bool) (lb : List Dat) :
  aBox [.dat (dRaw nm ar k tn ix la con lb)] = some ⟨.undef, .new (.cells (cellsD nm ar k tn ix la con lb))⟩ := by
 rcases la with _ | ⟨x, la⟩ <;> rcases lb with _ | ⟨y, lb⟩ <;> kernel_rfl
theorem ld_sup (t : Bool) (l : Nat) (nm : List UInt8) (ar k : Int) (tn : List UInt8) (ix : Int) (la : List Dat) (con : Bool) (lb : List Dat) :
  aLoad (env Prims.fast) t 32 [.ptr (.loc l) 2] (some (.cells (cellsD nm ar k tn ix la con lb))) = some ⟨.dat (.agg [i64 k, sb tn, i64 ix, sl la]), .keep⟩ := by
 cases t <;> rcases la with _ | ⟨x, la⟩ <;> rcases lb with _ | ⟨y, lb⟩ <;> kernel_rfl
def cellsR (nm : List UInt8) (ar k : Int) (tn : List UInt8) (ix : Int) (a : Dat) (con : Bool) (b : Dat) : List AVal := [.dat (sb nm), iv ar, iv k, .dat (sb tn), iv ix, .dat a, .dat (bl con), .dat b]
noncomputable def hDE : Hints := ⟨xmoves, ord37, xcaps, rowsOf xcaps 37⟩
def lo2D (c1 c2 : List AVal) : Heap := [(.loc 3, .cells c2), (.loc 2, .cells c1)]
def stDE (lo : Heap) (i : Int) : FState := ⟨[(5, iv i), (3, .ptr (.loc 3) 0), (2, .ptr (.loc 2) 0)], lo, [], 0⟩
def stDEX (lo : Heap) (i : Int) : FState := ⟨[(46, bv false), (5, iv i), (3, .ptr (.loc 3) 0), (2, .ptr (.loc 2) 0)], lo, [], 0⟩
def stDER : FState := ⟨[(4, bv false)], [], [], 0⟩
theorem de_round {nm nm2 tn tn2 : List UInt8} {ar ar2 k k2 ix ix2 : Int} {A A2 : Dat} {con con2 : Bool} {l l2 : List Fld} {t u : Fld} {i : Nat} {c1 c2 : Bool} {T : Exit -> AState -> Prop} (hi : i < (encF l).length) (ht : l[i]? = some t) (hu : l2[i]? = some u) (hn : eqB t.nm u.nm = c1) (hc : Calls1 24 [.dat t.ty.enc, .dat u.ty.enc] (bv c2))
  (e1 : (c1 && c2) = true -> T .normal ((stDE (lo2D (cellsR nm ar k tn ix A con (.slice (encF l))) (cellsR nm2 ar2 k2 tn2 ix2 A2 con2 (.slice (encF l2)))) (wrapF .i64 (Int.ofNat i + 1))).toA Tryz.f37.ntmps)) (e2 : (c1 && c2) = false -> T .ret (stDER.toA Tryz.f37.ntmps)) :
  KD (roundOf Tryz.f37 0) T ((stDE (lo2D (cellsR nm ar k tn ix A con (.slice (encF l))) (cellsR nm2 ar2 k2 tn2 ix2 A2 con2 (.slice (encF l2)))) (Int.ofNat i)).toA Tryz.f37.ntmps) := by
 have h1 := ltF_yes hi
 have h2 := idxF ht
 have h3 := idxF hu
 generalize encF l = es at *
 generalize encF l2 = es2 at *
 clear ht hi hu
 obtain ⟨fn, tk, tn', tix, ta⟩ := t
 obtain ⟨gn, uk, un, uix, ua⟩ := u
 rcases ta with _ | ⟨b, d⟩ <;>
 ·rcases ua with _ | ⟨b2, d2⟩ <;>
  ·refine run_of [46, 61] [52, 58, 66, 72] (H := hDE) (live := live37) (by kernel_rfl) ?_; refine ob h1 ?_; refine oo h2 ?_; refine oo h3 ?_; refine ox hn ?_
   cases c1
   ·exact oe (e2 rfl)
   refine oo h2 ?_; refine oo h3 ?_; refine on hc ?_
   cases c2
   ·exact oe (e2 rfl)
   exact oe (e1 rfl)
theorem de_last {nm nm2 tn tn2 : List UInt8} {ar ar2 k k2 ix ix2 : Int} {A A2 B : Dat} {con con2 : Bool} {l : List Dat} {T : Exit -> AState -> Prop}
  (e : T (.exit 0) ((stDEX (lo2D (cellsR nm ar k tn ix A con (sl l)) (cellsR nm2 ar2 k2 tn2 ix2 A2 con2 B)) (Int.ofNat l.length)).toA Tryz.f37.ntmps)) :
  KD (roundOf Tryz.f37 0) T ((stDE (lo2D (cellsR nm ar k tn ix A con (sl l)) (cellsR nm2 ar2 k2 tn2 ix2 A2 con2 B)) (Int.ofNat l.length)).toA Tryz.f37.ntmps) := by
 have h1 := ltF_no (i := l.length) (L := l.length) (by omega)
 rcases l with _ | ⟨x, l⟩
 ·refine run_of [] [] (H := hDE) (live := live37) (by kernel_rfl) ?_; exact oe e
 refine run_of [46] [] (H := hDE) (live := live37) (by kernel_rfl) ?_; refine ob h1 ?_; exact oe e
theorem de_all {nm nm2 : List UInt8} {ar ar2 k ix k2 ix2 : Int} {tn tn2 : List UInt8} {la la2 lb lb2 : List Dat} {con con2 : Bool} {c1 c2 c3 c4 c5 d : Bool} (h1 : eqB nm nm2 = c1) (h2 : eqF ar ar2 = c2) (h3 : (con == con2) = c3) (h4 : Calls1 24 [.dat (.agg [i64 k, sb tn, i64 ix, sl la]), .dat (.agg [i64 k2, sb tn2, i64 ix2, sl la2])] (bv c4)) (h5 : eqF (Int.ofNat lb.length) (Int.ofNat lb2.length) = c5)
  (hl : c5 = true -> KD (.loop (roundOf Tryz.f37 0)) (fun e s => (e = .exit 0 /\ d = true /\ s = (stDEX (lo2D (cellsR nm ar k tn ix (sl la) con (sl lb)) (cellsR nm2 ar2 k2 tn2 ix2 (sl la2) con2 (sl lb2))) (Int.ofNat lb.length)).toA Tryz.f37.ntmps) ∨ (e = .ret /\ d = false /\ s = stDER.toA Tryz.f37.ntmps)) ((stDE (lo2D (cellsR nm ar k tn ix (sl la) con (sl lb)) (cellsR nm2 ar2 k2 tn2 ix2 (sl la2) con2 (sl lb2))) (Int.ofNat 0)).toA Tryz.f37.ntmps)) :
  Calls1 37 [.dat (dRaw nm ar k tn ix la con lb), .dat (dRaw nm2 ar2 k2 tn2 ix2 la2 con2 lb2)] (bv (c1 && (c2 && (c3 && (c4 && (c5 && d)))))) := by
 have q1 := bx_decl nm ar k tn ix la con lb
 have q2 := bx_decl nm2 ar2 k2 tn2 ix2 la2 con2 lb2
 have q3 := ld_sup false 2 nm ar k tn ix la con lb
 have q4 := ld_sup false 3 nm2 ar2 k2 tn2 ix2 la2 con2 lb2
 subst h3
 rcases lb with _ | ⟨x, lb⟩
 ·rcases lb2 with _ | ⟨y, lb2⟩
  ·have z : c5 = true := h5.symm
   subst z
   have hl2 := hl rfl
   clear hl h5
   refine co [10, 16] [2, 3, 27, 29] (x := .of Tryz.f37 ord37 live37) ?_; refine oo q1 ?_; refine oo q2 ?_; refine ox h1 ?_
   cases c1
   ·exact fi
   refine ox h2 ?_
   cases c2
   ·exact fi
   cases con
   ·cases con2
    ·refine oo q3 ?_; refine oo q4 ?_; refine on h4 ?_
     cases c4
     ·exact fi
     refine lo hl2 ?_
     rintro ex s (⟨rfl, rfl, rfl⟩ | ⟨rfl, rfl, rfl⟩) <;>
     ·refine ⟨_, rfl, ?_⟩; exact fi
    exact fi
   cases con2
   ·exact fi
   refine oo q3 ?_; refine oo q4 ?_; refine on h4 ?_
   cases c4
   ·exact fi
   refine lo hl2 ?_
   rintro ex s (⟨rfl, rfl, rfl⟩ | ⟨rfl, rfl, rfl⟩) <;>
   ·refine ⟨_, rfl, ?_⟩; exact fi
  have z : c5 = false := h5.symm
  subst z
  clear hl h5
  refine co [10, 16] [2, 3, 27, 29] (x := .of Tryz.f37 ord37 live37) ?_; refine oo q1 ?_; refine oo q2 ?_; refine ox h1 ?_
  cases c1
  ·exact fi
  refine ox h2 ?_
  cases c2
  ·exact fi
  cases con
  ·cases con2
   ·refine oo q3 ?_; refine oo q4 ?_; refine on h4 ?_
    cases c4 <;>
    ·exact fi
   exact fi
  cases con2
  ·exact fi
  refine oo q3 ?_; refine oo q4 ?_; refine on h4 ?_
  cases c4 <;>
  ·exact fi
 rcases lb2 with _ | ⟨y, lb2⟩
 ·have z : c5 = false := h5.symm
  subst z
  clear hl h5
  refine co [10, 16] [2, 3, 27, 29] (x := .of Tryz.f37 ord37 live37) ?_; refine oo q1 ?_; refine oo q2 ?_; refine ox h1 ?_
  cases c1
  ·exact fi
  refine ox h2 ?_
  cases c2
  ·exact fi
  cases con
  ·cases con2
   ·refine oo q3 ?_; refine oo q4 ?_; refine on h4 ?_
    cases c4 <;>
    ·exact fi
   exact fi
  cases con2
  ·exact fi
  refine oo q3 ?_; refine oo q4 ?_; refine on h4 ?_
  cases c4 <;>
  ·exact fi
 refine co [10, 16, 40] [2, 3, 27, 29] (x := .of Tryz.f37 ord37 live37) ?_; refine oo q1 ?_; refine oo q2 ?_; refine ox h1 ?_
 cases c1
 ·exact fi
 refine ox h2 ?_
 cases c2
 ·exact fi
 cases con
 ·cases con2
  ·refine oo q3 ?_; refine oo q4 ?_; refine on h4 ?_
   cases c4
   ·exact fi
   refine ox h5 ?_
   cases c5
   ·exact fi
   refine lo (hl rfl) ?_
   rintro ex s (⟨rfl, rfl, rfl⟩ | ⟨rfl, rfl, rfl⟩) <;>
   ·refine ⟨_, rfl, ?_⟩; exact fi
  exact fi
 cases con2
 ·exact fi
 refine oo q3 ?_; refine oo q4 ?_; refine on h4 ?_
 cases c4
 ·exact fi
 refine ox h5 ?_
 cases c5
 ·exact fi
 refine lo (hl rfl) ?_
 rintro ex s (⟨rfl, rfl, rfl⟩ | ⟨rfl, rfl, rfl⟩) <;>
 ·refine ⟨_, rfl, ?_⟩; exact fi
theorem cmpI_self (x : Int) : cmpI x x = 0 := by
 unfold cmpI
 rw [show ltF x x = false by rw [ltF_eq]; simp]
theorem ltB_self : ∀ x : List UInt8, ltB x x = false
 | [] => rfl
 | c :: r => by
  unfold ltB
  rw [show Nat.blt c.toNat c.toNat = false by simp [Nat.blt_eq, Bool.eq_false_iff], show Nat.beq c.toNat c.toNat = true by simp]
  exact ltB_self r
theorem cmpS_self (x : List UInt8) : cmpS x x = 0 := by
 unfold cmpS
 rw [ltB_self, eqB_self]
 rfl
theorem cmpS_zero {x y : List UInt8} (h : cmpS x y = 0) : x = y := by
 unfold cmpS at h
 cases h1 : ltB x y with
 | true => rw [h1] at h; simp at h
 | false =>
  rw [h1] at h
  cases h2 : eqB x y with
  | true => exact eqB_to h2
  | false => rw [h2] at h; simp at h
mutual
theorem cmpT_zero : ∀ (t u : Ty), cmpT t u = 0 -> t = u
 | .mk k nm ix l, .mk k2 nm2 ix2 l2, h => by
  rw [cmpT] at h
  cases hz : eqF (orI [cmpI k k2, cmpS nm nm2, cmpI ix ix2, cmpI (Int.ofNat (encL l).length) (Int.ofNat (encL l2).length)]) 0 with
  | true =>
   rw [hz] at h
   have ho := orI_zero (eqF_zero hz)
   have h1 := cmpI_zero (ho (cmpI k k2) (by simp))
   have h2 := cmpS_zero (ho (cmpS nm nm2) (by simp))
   have h3 := cmpI_zero (ho (cmpI ix ix2) (by simp))
   have h4 := head_len hz
   rw [h1, h2, h3, cmpL_zero l l2 h4 h]
  | false =>
   rw [hz] at h
   dsimp only at h
   rw [h, eqF_self] at hz
   simp at hz
theorem cmpL_zero : ∀ (l l2 : List Ty), l.length = l2.length -> cmpL l l2 = 0 -> l = l2
 | [], [], _, _ => rfl
 | [], _ :: _, h, _ => by simp at h
 | _ :: _, [], h, _ => by simp at h
 | t :: r, u :: v, h, h2 => by
  rw [cmpL] at h2
  cases hz : eqF (cmpT t u) 0 with
  | true =>
   rw [hz] at h2
   rw [cmpT_zero t u (eqF_to hz), cmpL_zero r v (by simpa using h) h2]
  | false =>
   rw [hz] at h2
   dsimp only at h2
   rw [h2, eqF_self] at hz
   simp at hz
end
mutual
theorem cmpT_self : ∀ t : Ty, cmpT t t = 0
 | .mk k nm ix l => by
  rw [cmpT, cmpI_self, cmpS_self, cmpI_self, cmpI_self, cmpL_self l]
  rfl
theorem cmpL_self : ∀ l : List Ty, cmpL l l = 0
 | [] => by simp [cmpL]
 | t :: r => by rw [cmpL, cmpT_self t, eqF_self, cmpL_self r]
end
theorem eqT_iff {t u : Ty} : eqT t u = true ↔ t = u := by
 unfold eqT
 constructor
 ·intro h; exact cmpT_zero t u (eqF_to h)
 rintro rfl; rw [cmpT_self, eqF_self]
theorem reT_eqT (t u : Ty) : reT t u = eqT t u := by
 rw [Bool.eq_iff_iff, reT_iff, eqT_iff]
theorem r_equalT (t u : Ty) (h : t.size < 1000000000) : Calls1 24 [.dat t.enc, .dat u.enc] (bv (eqT t u)) := by
 rw [← reT_eqT]
 exact r_equal t u h
theorem de_loop {nm nm2 tn tn2 : List UInt8} {ar ar2 k k2 ix ix2 : Int} {A A2 B B2 : Dat} {con con2 : Bool} {l l2 : List Fld} (ha : B = sl (encF l)) (hb : B2 = sl (encF l2)) (hlen : l.length = l2.length) (hn : l.length < 1000000000) (hf : ∀ t ∈ l, t.ty.fine) :
  KD (.loop (roundOf Tryz.f37 0)) (fun e s => (e = .exit 0 /\ eqFL l l2 = true /\ s = (stDEX (lo2D (cellsR nm ar k tn ix A con B) (cellsR nm2 ar2 k2 tn2 ix2 A2 con2 B2)) (Int.ofNat (encF l).length)).toA Tryz.f37.ntmps) ∨ (e = .ret /\ eqFL l l2 = false /\ s = stDER.toA Tryz.f37.ntmps))
   ((stDE (lo2D (cellsR nm ar k tn ix A con B) (cellsR nm2 ar2 k2 tn2 ix2 A2 con2 B2)) (Int.ofNat 0)).toA Tryz.f37.ntmps) := by
 refine loop_inv (St := fun i => (stDE (lo2D (cellsR nm ar k tn ix A con B) (cellsR nm2 ar2 k2 tn2 ix2 A2 con2 B2)) (Int.ofNat i)).toA Tryz.f37.ntmps) (fun i => eqFL l l2 = eqFL (l.drop i) (l2.drop i)) (encF l).length ?_ ?_ (i := 0) (Nat.zero_le _) rfl
 ·intro i hi hI
  obtain ⟨t, ht, hm⟩ := getF_mem hi
  have hi2 := hi
  rw [encF_length] at hi2
  have hu : l2[i]? = some l2[i] := List.getElem?_eq_getElem (by omega)
  generalize l2[i] = u at hu
  have hd := eqFL_drop ht hu
  rw [← hI] at hd
  have hw : wrapF .i64 (Int.ofNat i + 1) = Int.ofNat (i + 1) := wrap_of (by omega)
  have ha2 : B = .slice (encF l) := by
   rw [ha]
   cases l with
   | nil => simp at ht
   | cons x r => rfl
  have hb2 : B2 = .slice (encF l2) := by
   rw [hb]
   cases l2 with
   | nil => simp at hu
   | cons x r => rfl
  subst ha2
  subst hb2
  refine de_round hi ht hu (c1 := eqB t.nm u.nm) (c2 := eqT t.ty u.ty) rfl (r_equalT _ _ (by have := (hf t hm).1; omega)) ?_ ?_
  ·intro hc
   rw [hw]
   refine ⟨rfl, ?_⟩
   rw [hd]
   unfold Fld.eq
   rw [hc, Bool.true_and]
  intro hc
  refine .inr ⟨rfl, ?_, rfl⟩
  rw [hd]
  unfold Fld.eq
  rw [hc, Bool.false_and]
 intro hI
 rw [ha]
 refine de_last (.inl ⟨rfl, ?_, rfl⟩)
 rw [hI, encF_length, List.drop_length]
 cases l2.drop l.length <;> rfl
theorem r_declEq {d o : Dcl} (hd : d.fine) : Calls1 37 [.dat d.enc, .dat o.enc] (bv (d.eq o)) := by
 have h4 := r_equalT d.sup o.sup (by have := hd.1.1; omega)
 have hf := hd.2.1
 have hn := hd.2.2
 obtain ⟨nm, ar, ⟨k, tn, ix, la⟩, con, fl⟩ := d
 obtain ⟨nm2, ar2, ⟨k2, tn2, ix2, la2⟩, con2, fl2⟩ := o
 refine de_all rfl rfl rfl h4 rfl ?_
 intro hc
 exact de_loop rfl rfl (eqF_len rfl hc) hn hf
theorem Dcl.eq_iff {d o : Dcl} : d.eq o = true ↔ d = o := by
 have hfl : ∀ l l2 : List Fld, l.length = l2.length -> (eqFL l l2 = true ↔ l = l2) := by
  intro l
  induction l with
  | nil => intro l2 h; cases l2 with | nil => simp [eqFL] | cons x r => simp at h
  | cons x r ih =>
   intro l2 h
   cases l2 with
   | nil => simp at h
   | cons y s =>
    simp only [eqFL, Bool.and_eq_true, ih s (by simpa using h), Fld.eq, eqT_iff, eqB_eq, beq_iff_eq, List.cons.injEq]
    obtain ⟨a, b⟩ := x
    obtain ⟨c, d⟩ := y
    simp
 obtain ⟨nm, ar, t, con, fl⟩ := d
 obtain ⟨nm2, ar2, t2, con2, fl2⟩ := o
 simp only [Dcl.eq, eqFs, Bool.and_eq_true, eqB_eq, eqF_eq, eqT_iff, beq_iff_eq, encF_length, Dcl.mk.injEq]
 constructor
 ·rintro ⟨h1, h2, h3, h4, h5, h6⟩
  exact ⟨h1, h2, h4, h3, (hfl _ _ (Int.ofNat.inj h5)).1 h6⟩
 rintro ⟨h1, h2, h4, h3, rfl⟩
 exact ⟨h1, h2, h3, h4, rfl, (hfl _ _ rfl).2 rfl⟩
noncomputable def hIns : Hints := ⟨xmoves, ord192, xcaps, rowsOf xcaps 192⟩
def stN (es : List Dat) (x k : Int) : FState := ⟨[(5, iv k), (0, .dat (.slice es)), (1, iv x)], [], [], 0⟩
def stNX (es : List Dat) (x k : Int) : FState := ⟨[(17, bv false), (5, iv k), (0, .dat (.slice es)), (1, iv x)], [], [], 0⟩
theorem ins_round {es : List Dat} {x y : Int} {i : Nat} {c1 c2 : Bool} (h1 : ltF (Int.ofNat i) (Int.ofNat es.length) = c1) (h2 : c1 = true -> aIndexAddr (env Prims.fast) 22 [.dat (.slice es), .dat (.flat (.int .i64 (Int.ofNat i)))] = some ⟨.ref [iN y], .keep⟩) (h3 : ltF y x = c2) {T : Exit -> AState -> Prop}
  (e1 : (c1 && c2) = true -> T .normal ((stN es x (wrapF .i64 (Int.ofNat i + 1))).toA Tryz.f192.ntmps)) (e2 : (c1 && c2) = false -> T (.exit 0) ((stNX es x (Int.ofNat i)).toA Tryz.f192.ntmps)) :
  KD (roundOf Tryz.f192 0) T ((stN es x (Int.ofNat i)).toA Tryz.f192.ntmps) := by
 refine run_of [9, 16] [13] (H := hIns) (live := live192) (by kernel_rfl) ?_; refine ob h1 ?_
 cases c1
 ·exact oe (e2 rfl)
 refine oo (h2 rfl) ?_; refine ob h3 ?_
 cases c2
 ·exact oe (e2 rfl)
 exact oe (e1 rfl)
theorem own_dat {g : FuncId} {args : List AVal} {heap : Heap} {next : Nat} {es : List Dat} {h2 : Heap} {m : Nat} (h : KC g args heap next (XQ ⟨.own es, h2, m⟩)) : KC g args heap next (XQ ⟨.dat (.slice es), h2, m⟩) := by
 intro w R N cargs bsA bsH bsF ha hh hnd hnx hg hF
 refine (h w R N cargs bsA bsH bsF ha hh hnd hnx hg hF).mono ?_
 rintro e w' ⟨v, cv, h1, next', R', N', bsV, bsH', rfl, ⟨rfl, rfl, rfl⟩, hv, hh', hnd', hnx', hk, hN⟩
 refine ⟨_, cv, _, _, R', N', [], bsH', rfl, ⟨rfl, rfl, rfl⟩, repV_dat (repV_own_inv hv).rep, hh', ?_, hnx', hk, hN⟩
 exact (List.nodup_append.1 hnd').2.1
def stNn (x k : Int) : FState := ⟨[(5, iv k), (0, .dat nl), (1, iv x)], [], [], 0⟩
def stNnX (x k : Int) : FState := ⟨[(17, bv false), (5, iv k), (0, .dat nl), (1, iv x)], [], [], 0⟩
theorem insn_round {x : Int} {T : Exit -> AState -> Prop} (e2 : T (.exit 0) ((stNnX x (Int.ofNat 0)).toA Tryz.f192.ntmps)) :
  KD (roundOf Tryz.f192 0) T ((stNn x (Int.ofNat 0)).toA Tryz.f192.ntmps) := by
 refine run_of [] [] (H := hIns) (live := live192) (by kernel_rfl) ?_; exact oe e2
theorem ins_nil {x : Int} (a2 : aAppend (env Prims.fast) false 22 [.own [], .dat (.slice [iN x])] none = some ⟨.own [iN x], .keep⟩) : Calls1 192 [.dat nl, iv x] (.own [iN x]) := by
 have hl : KD (.loop (roundOf Tryz.f192 0)) (fun e s => e = .exit 0 /\ s = (stNnX x (Int.ofNat 0)).toA Tryz.f192.ntmps) ((stNn x (Int.ofNat 0)).toA Tryz.f192.ntmps) :=
  loop_count (St := fun _ => (stNn x (Int.ofNat 0)).toA Tryz.f192.ntmps) 0 (fun i hi => absurd hi (Nat.not_lt_zero i)) (insn_round ⟨rfl, rfl⟩) (i := 0) (Nat.le_refl _)
 refine co [] [40, 44] (x := .of Tryz.f192 ord192 live192) ?_; refine lo hl ?_; rintro ex s ⟨rfl, rfl⟩; refine ⟨_, rfl, ?_⟩; refine oo a2 ?_; refine oo a2 ?_; exact fi
theorem ins_all {e0 : Dat} {es p q : List Dat} {x y : Int} {i : Nat} {c1 c2 : Bool} (h1 : ltF (Int.ofNat i) (Int.ofNat (e0 :: es).length) = c1) (h2 : c1 = true -> aIndexAddr (env Prims.fast) 22 [.dat (.slice (e0 :: es)), .dat (.flat (.int .i64 (Int.ofNat i)))] = some ⟨.ref [iN y], .keep⟩) (h3 : eqF y x = c2)
  (hl : KD (.loop (roundOf Tryz.f192 0)) (fun e s => e = .exit 0 /\ s = (stNX (e0 :: es) x (Int.ofNat i)).toA Tryz.f192.ntmps) ((stN (e0 :: es) x (Int.ofNat 0)).toA Tryz.f192.ntmps))
  (s1 : aSlice (env Prims.fast) 22 none (some (.tmp 35)) none [.dat (.slice (e0 :: es)), iv (Int.ofNat i)] = some ⟨.dat (.slice p), .keep⟩)
  (s2 : aSlice (env Prims.fast) 22 (some (.tmp 42)) none none [.dat (.slice (e0 :: es)), iv (Int.ofNat i)] = some ⟨.dat (.slice q), .keep⟩)
  (a1 : aAppend (env Prims.fast) false 22 [.own [], .dat (.slice p)] none = some ⟨.own p, .keep⟩)
  (a2 : aAppend (env Prims.fast) false 22 [.own p, .dat (.slice [iN x])] none = some ⟨.own (p ++ [iN x]), .keep⟩)
  (a3 : aAppend (env Prims.fast) false 22 [.own (p ++ [iN x]), .dat (.slice q)] none = some ⟨.own (p ++ [iN x] ++ q), .keep⟩) :
  Calls1 192 [.dat (.slice (e0 :: es)), iv x] (match c1 && c2 with | true => .dat (.slice (e0 :: es)) | false => .own (p ++ [iN x] ++ q)) := by
 refine co [23, 30] [27, 36, 43, 37, 40, 44] (x := .of Tryz.f192 ord192 live192) ?_; refine lo hl ?_; rintro ex s ⟨rfl, rfl⟩; refine ⟨_, rfl, ?_⟩; refine ob h1 ?_
 cases c1
 ·refine oo s1 ?_; refine oo s2 ?_; refine oo a1 ?_; refine oo a2 ?_; refine oo a3 ?_; exact fi
 refine oo (h2 rfl) ?_; refine ob h3 ?_
 cases c2
 ·refine oo s1 ?_; refine oo s2 ?_; refine oo a1 ?_; refine oo a2 ?_; refine oo a3 ?_; exact fi
 exact fi
/-- The place of a number: how many at the front are less. -/
def kW : List Int -> Int -> Nat
 | [], _ => 0
 | y :: r, x => match ltF y x with | true => kW r x + 1 | false => 0
theorem kW_le : ∀ {l : List Int} {x : Int}, kW l x <= l.length
 | [], _ => Nat.le_refl _
 | y :: r, x => by
  unfold kW
  split
  ·simp only [List.length_cons]; have := kW_le (l := r) (x := x); omega
  omega
theorem kW_lt : ∀ {l : List Int} {x : Int} {i : Nat} {y : Int}, i < kW l x -> l[i]? = some y -> ltF y x = true
 | [], x, i, y, h, h2 => by simp [kW] at h
 | z :: r, x, i, y, h, h2 => by
  unfold kW at h
  cases hz : ltF z x with
  | false => rw [hz] at h; simp at h
  | true =>
   rw [hz] at h
   cases i with
   | zero => simp at h2; subst h2; exact hz
   | succ i => simp at h2; exact kW_lt (by simp at h; omega) h2
theorem kW_at : ∀ {l : List Int} {x : Int} {y : Int}, l[kW l x]? = some y -> ltF y x = false
 | [], x, y, h => by simp at h
 | z :: r, x, y, h => by
  unfold kW at h
  cases hz : ltF z x with
  | false => rw [hz] at h; simp at h; subst h; exact hz
  | true => rw [hz] at h; simp at h; exact kW_at h
theorem kW_sorted {l : List Int} {x : Int} (hs : l.Pairwise (· <= ·)) : kW l x = l.countP (· < x) := by
 induction l with
 | nil => rfl
 | cons y r ih =>
  have ih := ih (List.Pairwise.of_cons hs)
  unfold kW
  by_cases hy : y < x
  ·rw [ltF_eq, decide_eq_true hy, List.countP_cons_of_pos (by simpa using hy), ih]
  rw [ltF_eq, decide_eq_false hy]
  symm
  dsimp only
  rw [List.countP_eq_zero]
  intro z hz
  have : y <= z := by
   rcases List.mem_cons.1 hz with rfl | hz
   ·exact Int.le_refl _
   exact List.rel_of_pairwise_cons hs hz
  simp only [decide_eq_true_eq]
  omega
def insR (l : List Int) (x : Int) : List Int := match l[kW l x]? with | some y => (match eqF y x with | true => l | false => insAt l (kW l x) x) | none => insAt l (kW l x) x
theorem insR_sorted {l : List Int} {x : Int} (hs : l.Pairwise (· <= ·)) : insR l x = setAdd l x := by
 obtain ⟨c1, c2⟩ := countP_split (x := x) hs
 unfold insR setAdd
 rw [← kW_sorted hs]
 rw [← kW_sorted hs] at c1 c2
 cases hc : l.contains x with
 | true =>
  have hm : x ∈ l := by simpa using hc
  have hd : x ∈ l.drop (kW l x) := by
   rcases List.mem_append.1 ((List.take_append_drop (kW l x) l).symm ▸ hm) with h | h
   ·exact absurd (c1 x h) (Int.lt_irrefl x)
   exact h
  have hlt : kW l x < l.length := by
   rcases Nat.lt_or_ge (kW l x) l.length with h | h
   ·exact h
   rw [List.drop_eq_nil_of_le h] at hd; simp at hd
  have hg : l[kW l x]? = some l[kW l x] := List.getElem?_eq_getElem hlt
  have hge : x <= l[kW l x] := c2 _ (by rw [List.drop_eq_getElem_cons hlt]; exact List.mem_cons_self)
  have hle : l[kW l x] <= x := by
   have hp : (l.drop (kW l x)).Pairwise (· <= ·) := hs.sublist (List.drop_sublist _ _)
   rw [List.drop_eq_getElem_cons hlt] at hp hd
   rcases List.mem_cons.1 hd with h | h
   ·omega
   exact List.rel_of_pairwise_cons hp h
  rw [hg]
  dsimp only
  rw [show l[kW l x] = x by omega, eqF_self]
 | false =>
  have hm : x ∉ l := by intro h; rw [List.contains_iff_mem.2 h] at hc; simp at hc
  cases hg : l[kW l x]? with
  | none => rfl
  | some y =>
   dsimp only
   have : eqF y x = false := by
    rw [eqF_eq]
    have : y ≠ x := by rintro rfl; exact hm (List.mem_of_getElem? hg)
    simpa using this
   rw [this]
theorem app_ints {a b : List Int} (h : a.length + b.length < 1000000000) : aAppend (env Prims.fast) false 22 [.own (a.map iN), .dat (.slice (b.map iN))] none = some ⟨.own (a.map iN ++ b.map iN), .keep⟩ := by
 refine ans_app (i := tiI) (ds := b.map iN) (k := 0) tiI_eq rfl tiI_size ?_ ?_ (by kernel_rfl) ?_ ?_ ?_ (by simp)
 ·exact sizedB_of (fun d hd => by obtain ⟨x, _, rfl⟩ := List.mem_map.1 hd; rfl)
 ·exact sizedB_of (fun d hd => by obtain ⟨x, _, rfl⟩ := List.mem_map.1 hd; rfl)
 ·have h1 : tiI.bytes <= 1000 := ble_to (by kernel_rfl)
  simp only [List.length_map]
  calc (a.length + b.length) * tiI.bytes <= 1000000000 * 1000 := Nat.mul_le_mul (by omega) h1
   _ <= 140737488355328 := by decide
 ·simp [lim]; omega
 have hb : isBytes (a.map iN ++ b.map iN) = false := by
  rw [← List.map_append]
  cases a ++ b with
  | nil => rfl
  | cons x r => rfl
 unfold byteOk
 rw [hb]
theorem sized_ints (l : List Int) : sizedB 1 (l.map iN) = true := sizedB_of (fun d hd => by obtain ⟨x, _, rfl⟩ := List.mem_map.1 hd; rfl)
theorem slice_to {l : List Int} {i : Nat} (h : i <= l.length) (x : Operand) : aSlice (env Prims.fast) 22 none (some x) none [.dat (.slice (l.map iN)), iv (Int.ofNat i)] = some ⟨.dat (.slice ((l.take i).map iN)), .keep⟩ := by
 have h1 : Prims.fast.sub tiI.size (l.map iN) none (some (Int.ofNat i)) = some ((l.take i).map iN) := by
  rw [tiI_size]
  show (match sizedB 1 (l.map iN), Nat.blt 0 1 with
   | true, true => (match boundOf (some (Int.ofNat i)) (l.map iN).length, boundOf none 0 with
    | some h, some lo => (match Nat.ble lo h, Nat.ble h (l.map iN).length with | true, true => some (((l.map iN).take h).drop lo) | _, _ => none)
    | _, _ => none)
   | _, _ => none) = _
  rw [sized_ints]
  have e1 : boundOf (some (Int.ofNat i)) (l.map iN).length = some i := rfl
  have e2 : Nat.ble i (l.map iN).length = true := by rw [Nat.ble_eq]; simpa using h
  rw [e1]
  dsimp only [boundOf]
  rw [e2]
  simp [Nat.ble, List.map_take]
  rfl
 have h2 : aSlice (env Prims.fast) 22 none (some x) none [.dat (.slice (l.map iN)), iv (Int.ofNat i)] = ofA (match Prims.fast.sub tiI.size (l.map iN) none (some (Int.ofNat i)) with | some r => some (.dat (.slice r)) | none => none) := by kernel_rfl
 rw [h2, h1]
 rfl
theorem slice_from {l : List Int} {i : Nat} (h : i <= l.length) (x : Operand) : aSlice (env Prims.fast) 22 (some x) none none [.dat (.slice (l.map iN)), iv (Int.ofNat i)] = some ⟨.dat (.slice ((l.drop i).map iN)), .keep⟩ := by
 have h1 : Prims.fast.sub tiI.size (l.map iN) (some (Int.ofNat i)) none = some ((l.drop i).map iN) := by
  rw [tiI_size]
  show (match sizedB 1 (l.map iN), Nat.blt 0 1 with
   | true, true => (match boundOf none (l.map iN).length, boundOf (some (Int.ofNat i)) 0 with
    | some h, some lo => (match Nat.ble lo h, Nat.ble h (l.map iN).length with | true, true => some (((l.map iN).take h).drop lo) | _, _ => none)
    | _, _ => none)
   | _, _ => none) = _
  rw [sized_ints]
  have e1 : boundOf (some (Int.ofNat i)) 0 = some i := rfl
  have e2 : Nat.ble i (l.map iN).length = true := by rw [Nat.ble_eq]; simpa using h
  have e3 : Nat.ble (l.map iN).length (l.map iN).length = true := by rw [Nat.ble_eq]; exact Nat.le_refl _
  rw [e1]
  dsimp only [boundOf]
  rw [e2, e3, List.take_length]
  simp [List.map_drop]
  rfl
 have h2 : aSlice (env Prims.fast) 22 (some x) none none [.dat (.slice (l.map iN)), iv (Int.ofNat i)] = ofA (match Prims.fast.sub tiI.size (l.map iN) (some (Int.ofNat i)) none with | some r => some (.dat (.slice r)) | none => none) := by kernel_rfl
 rw [h2, h1]
 rfl
theorem r_ins {l : List Int} {x : Int} (hn : l.length < 100000000) : Calls1 192 [.dat (sl (l.map iN)), iv x] (.dat (sl ((insR l x).map iN))) := by
 cases l with
 | nil => exact own_dat (ins_nil (app_ints (a := []) (b := [x]) (by simp)))
 | cons y0 r =>
  obtain ⟨l, hl⟩ : ∃ l, l = y0 :: r := ⟨_, rfl⟩
  have hnl : (l.map iN) = iN y0 :: r.map iN := by rw [hl]; rfl
  have hne : sl (l.map iN) = .slice (l.map iN) := by rw [hnl]; rfl
  rw [← hl] at hn ⊢
  have hle := kW_le (l := l) (x := x)
  have hloop : KD (.loop (roundOf Tryz.f192 0)) (fun e s => e = .exit 0 /\ s = (stNX (l.map iN) x (Int.ofNat (kW l x))).toA Tryz.f192.ntmps) ((stN (l.map iN) x (Int.ofNat 0)).toA Tryz.f192.ntmps) := by
   refine loop_count (St := fun i => (stN (l.map iN) x (Int.ofNat i)).toA Tryz.f192.ntmps) (kW l x) ?_ ?_ (i := 0) (Nat.zero_le _)
   ·intro i hi
    have hil : i < l.length := by omega
    have hg : l[i]? = some l[i] := List.getElem?_eq_getElem hil
    refine ins_round (y := l[i]) (c1 := true) (c2 := true) (ltF_yes (by simpa using hil)) (fun _ => idxI hg) (kW_lt hi hg) (fun _ => ?_) (fun h => by simp at h)
    rw [wrap_of (by omega)]
    rfl
   cases hg : l[kW l x]? with
   | none =>
    have : l.length <= kW l x := by simpa using hg
    exact ins_round (y := 0) (c1 := false) (c2 := ltF 0 x) (ltF_no (by simp; omega)) (fun h => by simp at h) rfl (fun h => by simp at h) (fun _ => ⟨rfl, rfl⟩)
   | some y =>
    have hil := (List.getElem?_eq_some_iff.1 hg).1
    exact ins_round (y := y) (c1 := true) (c2 := false) (ltF_yes (by simpa using hil)) (fun _ => idxI hg) (kW_at hg) (fun h => by simp at h) (fun _ => ⟨rfl, rfl⟩)
  have s1 := slice_to (l := l) hle (.tmp 35)
  have s2 := slice_from (l := l) hle (.tmp 42)
  have a1 := app_ints (a := []) (b := l.take (kW l x)) (by simp; omega)
  have a2 := app_ints (a := l.take (kW l x)) (b := [x]) (by simp; omega)
  have a3 := app_ints (a := l.take (kW l x) ++ [x]) (b := l.drop (kW l x)) (by simp; omega)
  rw [List.map_append] at a3
  have hins : sl ((insAt l (kW l x) x).map iN) = .slice ((l.take (kW l x)).map iN ++ [x].map iN ++ (l.drop (kW l x)).map iN) := by
   have : (insAt l (kW l x) x).map iN = (l.take (kW l x)).map iN ++ [x].map iN ++ (l.drop (kW l x)).map iN := by simp [insAt]
   rw [← this]
   cases h : (insAt l (kW l x) x).map iN with
   | nil => simp [insAt] at h
   | cons _ _ => rfl
  rw [hnl] at s1 s2 hloop hne
  rw [hnl, hne]
  unfold insR
  cases hg : l[kW l x]? with
  | none =>
   have : l.length <= kW l x := by simpa using hg
   have h := ins_all (y := 0) (c1 := false) (c2 := eqF 0 x) (ltF_no (by rw [← hnl]; simp; omega)) (fun h => by simp at h) rfl hloop s1 s2 a1 a2 a3
   dsimp only
   rw [hins]
   exact own_dat h
  | some y =>
   have hil := (List.getElem?_eq_some_iff.1 hg).1
   have h := ins_all (y := y) (c1 := true) (c2 := eqF y x) (ltF_yes (by rw [← hnl]; simpa using hil)) (fun _ => by rw [← hnl]; exact idxI hg) rfl hloop s1 s2 a1 a2 a3
   dsimp only
   generalize eqF y x = c at h
   cases c
   ·dsimp only
    rw [hins]
    exact own_dat h
   dsimp only
   rw [hnl]
   exact h
/-! ### freeVars -/
noncomputable def hRF : Hints := ⟨xmoves, ord174, xcaps, rowsOf xcaps 174⟩
def stF (lo : Heap) (u : Nat) (s : Dat) (i : Int) : FState := ⟨[(7, iv i), (3, .ptr (.loc 3) 0), (1, iv (Int.ofNat u)), (2, .dat s)], lo, [], 0⟩
def stFX (lo : Heap) (u : Nat) (s : Dat) (i : Int) : FState := ⟨[(27, bv false), (7, iv i), (3, .ptr (.loc 3) 0), (1, iv (Int.ofNat u)), (2, .dat s)], lo, [], 0⟩
def bSel (c6 c1 : Bool) : Int := match c6 with | true => (match c1 with | true => 1 | false => 0) | false => 0
theorem bind_sel (k : Int) (i : Nat) : Int.ofNat (bindN k i) = bSel (eqF k 6) (eqF (Int.ofNat i) (Int.ofNat 1)) := by
 unfold bindN
 rw [eqF_of]
 cases eqF k 6
 ·simp [bSel]
 by_cases h : i = 1
 ·subst h; rfl
 simp [bSel, h]
theorem rb (k : Int) (nm : List UInt8) (ix : Int) (a : List Dat) (i : Nat) : Calls1 127 [.dat (.agg [i64 k, sb nm, i64 ix, sl a]), iv (Int.ofNat i)] (iv (Int.ofNat (bindN k i))) := by
 rw [bind_sel]
 generalize h6 : eqF k 6 = c6
 generalize h1 : eqF (Int.ofNat i) (Int.ofNat 1) = c1
 rcases a with _ | ⟨x, a⟩ <;>
 ·refine co [7, 10] [] (x := .of Tryz.f127 ord127 live127) ?_; refine ob h6 ?_
  cases c6
  ·exact fi
  refine ob h1 ?_
  cases c1 <;>
  ·exact fi
theorem rf_round {k : Int} {nm : List UInt8} {ix : Int} {x : Dat} {es : List Dat} {l : List Ty} {t : Ty} {i u b : Nat} {s s2 : List Dat} (hl : encL l = x :: es) (hi : i < (encL l).length) (ht : l[i]? = some t)
  (hb : Calls1 127 [.dat (.agg [i64 k, sb nm, i64 ix, .slice (x :: es)]), iv (Int.ofNat i)] (iv (Int.ofNat b)))
  (hc : Calls1 174 [.dat t.enc, iv (wrapF .i64 (Int.ofNat u + Int.ofNat b)), .dat (sl s)] (.dat (sl s2))) {T : Exit -> AState -> Prop}
  (e : T .normal ((stF (loR 3 k nm ix (.slice (x :: es))) u (sl s2) (wrapF .i64 (Int.ofNat i + 1))).toA Tryz.f174.ntmps)) :
  KD (roundOf Tryz.f174 0) T ((stF (loR 3 k nm ix (.slice (x :: es))) u (sl s) (Int.ofNat i)).toA Tryz.f174.ntmps) := by
 have h1 := ltF_yes hi
 have h2 := idxT ht
 rw [hl] at h1 h2
 clear ht hi hl
 obtain ⟨k2, nm2, ix2, a2⟩ := t
 rcases a2 with _ | ⟨b2, d2⟩ <;>
 ·rcases s with _ | ⟨y, s⟩ <;>
  ·refine run_of [27] [33] (H := hRF) (live := live174) (by kernel_rfl) ?_; refine ob h1 ?_; refine oo h2 ?_; refine on hb ?_; refine on hc ?_; exact oe e
theorem rf_last {k : Int} {nm : List UInt8} {ix : Int} {l s : List Dat} {u : Nat} {T : Exit -> AState -> Prop} (e : T (.exit 0) ((stFX (loR 3 k nm ix (sl l)) u (sl s) (Int.ofNat l.length)).toA Tryz.f174.ntmps)) :
  KD (roundOf Tryz.f174 0) T ((stF (loR 3 k nm ix (sl l)) u (sl s) (Int.ofNat l.length)).toA Tryz.f174.ntmps) := by
 have h1 := ltF_no (i := l.length) (L := l.length) (by omega)
 rcases l with _ | ⟨x, l⟩
 ·refine run_of [] [] (H := hRF) (live := live174) (by kernel_rfl) ?_; exact oe e
 refine run_of [27] [] (H := hRF) (live := live174) (by kernel_rfl) ?_; refine ob h1 ?_; exact oe e
theorem rf_enter {k : Int} {nm : List UInt8} {ix : Int} {l s s1 s2 : List Dat} {u : Nat} {ck cg : Bool} (hk : eqF k 5 = ck) (hg : ltF ix (Int.ofNat u) = cg)
  (ha : ck = true -> cg = false -> Calls1 192 [.dat (sl s), iv (wrapF .i64 (ix - Int.ofNat u))] (.dat (sl s1))) (he : ck = false ∨ cg = true -> s1 = s)
  (hl : KD (.loop (roundOf Tryz.f174 0)) (fun e s' => e = .exit 0 /\ s' = (stFX (loR 3 k nm ix (sl l)) u (sl s2) (Int.ofNat l.length)).toA Tryz.f174.ntmps) ((stF (loR 3 k nm ix (sl l)) u (sl s1) (Int.ofNat 0)).toA Tryz.f174.ntmps)) :
  Calls1 174 [.dat (.agg [i64 k, sb nm, i64 ix, sl l]), iv (Int.ofNat u), .dat (sl s)] (.dat (sl s2)) := by
 rcases l with _ | ⟨x, l⟩ <;>
 ·rcases s with _ | ⟨y, s⟩ <;>
  ·cases ck
   ·obtain rfl := he (.inl rfl)
    clear he ha
    refine co [10] [] (x := .of Tryz.f174 ord174 live174) ?_; refine ob hk ?_; refine lo hl ?_; rintro ex s ⟨rfl, rfl⟩; refine ⟨_, rfl, ?_⟩; exact fi
   cases cg
   ·have ha2 := ha rfl rfl
    clear he ha
    refine co [10, 15] [] (x := .of Tryz.f174 ord174 live174) ?_; refine ob hk ?_; refine ox hg ?_; refine on ha2 ?_; refine lo hl ?_; rintro ex s ⟨rfl, rfl⟩; refine ⟨_, rfl, ?_⟩; exact fi
   obtain rfl := he (.inr rfl)
   clear he ha
   refine co [10, 15] [] (x := .of Tryz.f174 ord174 live174) ?_; refine ob hk ?_; refine ox hg ?_; refine lo hl ?_; rintro ex s ⟨rfl, rfl⟩; refine ⟨_, rfl, ?_⟩; exact fi
def rootR (k ix : Int) (u : Nat) (s : List Int) : List Int := match eqF k 5 with | false => s | true => (match ltF ix (Int.ofNat u) with | true => s | false => insR s (ix - Int.ofNat u))
theorem rootR_eq {k ix : Int} {u : Nat} {s : List Int} (h : s.Pairwise (· <= ·)) : rootR k ix u s = rootF k ix u s := by
 unfold rootR rootF
 cases eqF k 5 <;> cases ltF ix (Int.ofNat u) <;> first | rfl | exact insR_sorted h
def RF (t : Ty) (u : Nat) (s : List Int) : Prop := Calls1 174 [.dat t.enc, iv (Int.ofNat u), .dat (sl (s.map iN))] (.dat (sl ((t.cf u s).map iN)))
theorem rf_all {k : Int} {nm : List UInt8} {ix : Int} {l : List Ty} {u b : Nat} {s : List Int} (hs : okSet b s) (hbd : b + 1 + sizeL l < 100000000) (hu : u < 1000000000) (hix : eqF k 5 = true -> ltF ix 500000000 = true)
  (ih : ∀ t ∈ l, ∀ v s2, v <= u + 1 -> okSet (b + 1 + sizeL l) s2 -> (∃ b2, okSet b2 s2 /\ b2 + t.size <= b + 1 + sizeL l) -> RF t v s2) : RF (.mk k nm ix l) u s := by
 have hlen := len_size l
 have hs1 := rootF_ok (k := k) (ix := ix) (u := u) hs
 have ha : eqF k 5 = true -> ltF ix (Int.ofNat u) = false -> Calls1 192 [.dat (sl (s.map iN)), iv (wrapF .i64 (ix - Int.ofNat u))] (.dat (sl ((rootF k ix u s).map iN))) := by
  intro hk hg
  rw [← rootR_eq hs.1]
  unfold rootR
  rw [hk, hg]
  have hix := hix hk
  rw [ltF_eq] at hg hix
  simp only [decide_eq_false_iff_not, decide_eq_true_eq] at hg hix
  have e : wrapF .i64 (ix - Int.ofNat u) = ix - Int.ofNat u := by
   rw [wrapF_eq]
   simp only [Int.ofNat_eq_natCast] at hg ⊢
   exact wrap_i64 (by omega) (by omega)
  rw [e]
  exact r_ins (by have := hs.2; omega)
 have he : eqF k 5 = false ∨ ltF ix (Int.ofNat u) = true -> (rootF k ix u s).map iN = s.map iN := by
  unfold rootF
  rintro (h | h)
  ·rw [h]
  rw [h]; cases eqF k 5 <;> rfl
 refine rf_enter rfl rfl ha he ?_
 refine loop_count (St := fun i => (stF (loR 3 k nm ix (sl (encL l))) u (sl ((cfL k (l.take i) 0 u (rootF k ix u s)).map iN)) (Int.ofNat i)).toA Tryz.f174.ntmps) (encL l).length ?_ ?_ (i := 0) (Nat.zero_le _)
 ·intro i hi
  obtain ⟨t, ht, hmem⟩ := get_mem hi
  have hi2 := hi
  rw [encL_length] at hi2
  have hbn : bindN k i <= 1 := by unfold bindN; split <;> omega
  obtain ⟨x, es, hx⟩ : ∃ x es, encL l = x :: es := by
   cases hl : encL l with
   | nil => rw [hl] at hi; simp at hi
   | cons x es => exact ⟨x, es, rfl⟩
  have hst := sizeL_take ht
  have hsl := sizeL_le (l := l) (i + 1)
  have hpre : okSet (b + 1 + sizeL (l.take i)) (cfL k (l.take i) 0 u (rootF k ix u s)) := cfL_ok _ u hs1
  have hcf := ih t hmem (u + bindN k i) (cfL k (l.take i) 0 u (rootF k ix u s)) (by omega) ⟨hpre.1, by have := hpre.2; omega⟩ ⟨_, hpre, by omega⟩
  unfold RF at hcf
  rw [← wrap_add (n := u) (m := bindN k i) (by omega)] at hcf
  have hbi := rb k nm ix (x :: es) i
  have e := rf_round (T := seqQ (fun s' => s' = (stF (loR 3 k nm ix (sl (encL l))) u (sl ((cfL k (l.take (i + 1)) 0 u (rootF k ix u s)).map iN)) (Int.ofNat (i + 1))).toA Tryz.f174.ntmps)
   (fun e s' => e = .exit 0 /\ s' = (stFX (loR 3 k nm ix (sl (encL l))) u (sl (((Ty.mk k nm ix l).cf u s).map iN)) (Int.ofNat (encL l).length)).toA Tryz.f174.ntmps)) hx hi ht hbi hcf (by
    rw [hx, wrap_of (by omega), cfL_take ht]
    rfl)
  rw [hx]
  rw [hx] at e
  exact e
 refine rf_last ⟨rfl, ?_⟩
 rw [encL_length, List.take_length, Ty.cf]
mutual
theorem r_free : ∀ (t : Ty) (u : Nat) {b : Nat} {s : List Int}, okSet b s -> b + t.size < 100000000 -> u + t.depth < 1000000000 -> t.ixOk -> RF t u s
 | .mk k nm ix l, u, b, s, hs, hb, hu, hx => by
  simp only [Ty.size] at hb
  simp only [Ty.depth] at hu
  simp only [Ty.ixOk] at hx
  exact rf_all hs (by omega) (by omega) hx.1 (r_freeL l u (by omega) (by omega) hx.2)
theorem r_freeL : ∀ (l : List Ty) (u : Nat) {B : Nat}, u + depthL l + 1 < 1000000000 -> B < 100000000 -> ixOkL l -> ∀ t ∈ l, ∀ v s2, v <= u + 1 -> okSet B s2 -> (∃ b2, okSet b2 s2 /\ b2 + t.size <= B) -> RF t v s2
 | [], u, B, hu, _, hx, t, ht, _, _, _, _, _ => by simp at ht
 | y :: r, u, B, hu, hB, hx, t, ht, v, s2, hv, h1, h2 => by
  simp only [depthL] at hu
  simp only [ixOkL] at hx
  rcases List.mem_cons.1 ht with h3 | ht
  ·obtain ⟨b2, h4, h5⟩ := h2
   rw [h3] at h5 ⊢
   exact r_free y v h4 (by omega) (by omega) hx.1
  exact r_freeL r u (by omega) hB hx.2 t ht v s2 hv h1 h2
end
theorem rtf_of {k : Int} {nm : List UInt8} {ix : Int} {l s : List Dat} (h : Calls1 174 [.dat (.agg [i64 k, sb nm, i64 ix, sl l]), iv (Int.ofNat 0), .dat nl] (.dat (sl s))) : Calls1 148 [.dat (.agg [i64 k, sb nm, i64 ix, sl l])] (.dat (sl s)) := by
 rcases l with _ | ⟨x, l⟩ <;>
 ·rcases s with _ | ⟨y, s⟩ <;>
  ·refine co [] [] (x := .of Tryz.f148 ord148 live148) ?_; refine on h ?_; exact fi
theorem r_termFree {t : Ty} (hs : t.size < 100000000) (hx : t.ixOk) : Calls1 148 [.dat t.enc] (.dat (sl (t.fv.map iN))) := by
 have h1 : RF t 0 [] := r_free t 0 (b := 0) ⟨List.Pairwise.nil, Nat.le_refl 0⟩ (by omega) (by have := depth_size t; omega) hx
 unfold RF at h1
 unfold Ty.fv
 obtain ⟨k, nm, ix, l⟩ := t
 exact rtf_of h1
def isE {α : Type} : List α -> Bool
 | [] => true
 | _ => false
theorem rcl_of {k : Int} {nm : List UInt8} {ix : Int} {l s : List Dat} (h : Calls1 148 [.dat (.agg [i64 k, sb nm, i64 ix, sl l])] (.dat (sl s))) : Calls1 178 [.dat (.agg [i64 k, sb nm, i64 ix, sl l])] (bv (isE s)) := by
 rcases l with _ | ⟨x, l⟩ <;>
 ·rcases s with _ | ⟨y, s⟩ <;>
  ·refine co [] [] (x := .of Tryz.f178 ord178 live178) ?_; refine on h ?_; exact fi
theorem r_closed {t : Ty} (hs : t.size < 100000000) (hx : t.ixOk) : Calls1 178 [.dat t.enc] (bv (isE t.fv)) := by
 have h := r_termFree hs hx
 have e : isE t.fv = isE (t.fv.map iN) := by cases t.fv <;> rfl
 rw [e]
 obtain ⟨k, nm, ix, l⟩ := t
 exact rcl_of h
end Go.Proofs.YtiihadmgkoamoaaGreatDoor
