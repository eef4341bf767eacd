/- HierarchyTree returns true and changes nothing, for arguments of bulk at most 1048576 (the card of the second form; conditions: those of the given row). Names are shortened by a program, for the claim's bound. Part 5. -/
import Derived.Test.YtiihadmgkoamoaaGreatDoorQ04
set_option linter.unusedVariables false
set_option linter.unusedSimpArgs false
set_option maxRecDepth 100000
set_option maxHeartbeats 4000000
namespace Go.Proofs.YtiihadmgkoamoaaGreatDoor
open Go.Tp
theorem cW (ls bs : List Nat) {g : FuncId} {x : lY} (hx : GJ.find g = some x) {args : List ae} {heap : Heap} {next : Nat} {r : eW} (h : (L4 (Pq ls) (Pq bs) (env ay.aT) cM au ax x g args heap next).Ok Tryz.prog cM (fun y => y = r)) :
  KC g args heap next (XQ r) := Bb (L3 G0 rU hx (fun _ _ => h))
theorem rB (k : Nat) : ∀ l : List Int, dX k (wb l) = false
 | [] => rfl
 | d :: r => by show (dL k (iv d) || dX k (wb r)) = false; rw [rB k r]; rfl
theorem gM (ρ : Nat -> Nat) : ∀ l : List Int, iL ρ (wb l) = wb l
 | [] => rfl
 | d :: r => by show fS ρ (iv d) :: iL ρ (wb r) = _; rw [gM ρ r]; rfl
theorem ry (p : Nat -> Bool) : ∀ l : List Int, io p (wb l) = true
 | [] => rfl
 | d :: r => by show (DT p (iv d) && io p (wb r)) = true; rw [ry p r]; rfl
theorem nF {g : FuncId} {args : List ae} {heap : Heap} {next : Nat} {Q Q' : ae -> Heap -> Nat -> Prop} (h : KC g args heap next Q) (hq : ∀ v h m, Q v h m -> ∃ h2, h.Perm h2 /\ Q' v h2 m) : KC g args heap next Q' := by
 intro w R N cargs bsA bsH bsF ha hh hnd hnx hg hF
 refine (h w R N cargs bsA bsH bsF ha hh hnd hnx hg hF).mono ?_
 rintro e w' ⟨v, cv, h1, next', R', N', bsV, bsH', rfl, hq1, hv, hh', hnd', hnx', hk, hN⟩
 obtain ⟨h2, hp, hq2⟩ := hq _ _ _ hq1
 obtain ⟨bs2, k1, k2⟩ := hh'.perm hp
 refine ⟨v, cv, h2, next', R', N', bsV, bs2, rfl, hq2, hv, k1, ?_, hnx', hk, hN⟩
 exact (List.Perm.nodup_iff (List.Perm.append_left _ (List.Perm.append_right _ k2))).1 hnd'
def sP : ae := .ptr (.out 0) 0
/-- A set of integers: the row's name, its elements. -/
def hS (r : Nat) : List Int -> Heap
 | [] => [(.out 0, .cells [.dat nl])]
 | x :: l => [(.out r, .cells (wb (x :: l))), (.out 0, .cells [.win (.out r) 1 0 (x :: l).length])]
def hR (r : Nat) (l : List Int) (n : Nat) : Heap := [(.out r, .cells (wb l)), (.out 0, .cells [.win (.out r) 1 0 n])]
theorem IF {r : Nat} {l : List Int} (h : l ≠ []) : hS r l = hR r l l.length := by cases l with | nil => exact absurd rfl h | cons x l => rfl
/-! ### BinarySearch, Insert, beside the set -/
theorem Jj {l : List Int} {x : Int} {n : Nat} (hs : l.Pairwise (· <= ·)) (hn : l.length < 1000000000) (hl : n = l.length) :
  KC 190 [.win (.out 1) 1 0 n, iv x] (hR 1 l n) 2 (XQ ⟨.tup [iv (Int.ofNat (l.countP (· < x))), bv (l.contains x)], hR 1 l n, 2⟩) := by
 subst hl
 have h := aB.frame (OQ (G := cM) Tryz.XT (x := x) hs hn) (fun _ => 1) (heap := hR 1 l l.length) (rest := [(.out 0, .cells [.win (.out 1) 1 0 l.length])]) (next := 2) (by simp [hR, pz, re, Af, gM]) rfl (by simp [cT, pA, rB]) rfl rfl
 refine nF h ?_
 rintro v h m ⟨v0, h1, n1, ⟨rfl, rfl, rfl⟩, rfl, rfl, rfl⟩
 refine ⟨hR 1 l l.length, ?_, rfl, rfl, rfl⟩
 simp [hR, pz, re, Af, gM, kP]
 exact List.Perm.refl _
theorem JU {l : List Int} {x : Int} {i n : Nat} (hi : i <= l.length) (hn : l.length < 1000000000) (hl : n = l.length) :
  KC 191 [.win (.out 1) 1 0 n, iv (Int.ofNat i), .win (.out 2) 1 0 1] ((.out 2, .cells [iv x]) :: hR 1 l n) 3
   (XQ ⟨.win (.out 3) 1 0 (fT l i x).length, [(.out 3, .cells (wb (fT l i x))), (.out 2, .cells [iv x]), (.out 0, .cells [.win (.out 1) 1 0 n])], 4⟩) := by
 subst hl
 have h := aB.frame (OS (G := cM) Tryz.Sg (x := x) hi hn) (fun o => o + 1) (heap := (.out 2, .cells [iv x]) :: hR 1 l l.length) (rest := [(.out 0, .cells [.win (.out 1) 1 0 l.length])]) (next := 3) (by simp [hR, pz, re, Af, gM, iL, fS]; exact List.Perm.swap _ _ _) rfl (by simp [cT, pA, rB, dX, dL]) rfl rfl
 refine nF h ?_
 rintro v h m ⟨v0, h1, n1, ⟨rfl, rfl, rfl⟩, rfl, rfl, rfl⟩
 refine ⟨_, List.Perm.refl _, rfl, ?_, rfl⟩
 simp [pz, re, Af, gM, iL, fS, kP]
 exact ⟨rfl, rfl⟩
theorem insert_nil {x : Int} :
  KC 191 [.dat nl, iv (Int.ofNat 0), .win (.out 1) 1 0 1] [(.out 1, .cells [iv x]), (.out 0, .cells [.dat nl])] 2
   (XQ ⟨.win (.out 2) 1 0 1, [(.out 2, .cells [iv x]), (.out 1, .cells [iv x]), (.out 0, .cells [.dat nl])], 3⟩) := by
 have h := aB.frame (CA (G := cM) Tryz.Sg (x := x)) (fun o => o + 1) (heap := [(.out 1, .cells [iv x]), (.out 0, .cells [.dat nl])]) (rest := [(.out 0, .cells [.dat nl])]) (next := 2) (by rfl) rfl rfl rfl rfl
 refine nF h ?_
 rintro v h m ⟨v0, h1, n1, ⟨rfl, rfl, rfl⟩, rfl, rfl, rfl⟩
 exact ⟨_, List.Perm.refl _, rfl, rfl, rfl⟩
/-! ### add -/
theorem Fz {x : Int} : ag 190 [.dat nl, iv x] (.tup [iv (Int.ofNat 0), bv false]) := oK _ _ _ _ _ (by kernel_rfl)
theorem RC {x : Int} : KC 170 [sP, iv x] [(.out 0, .cells [.dat nl])] 1 (XQ ⟨.tup [], [(.out 2, .cells [iv x]), (.out 1, .cells [iv x]), (.out 0, .cells [.win (.out 2) 1 0 1])], 3⟩) := by
 have h1 := Fz (x := x)
 have h2 := insert_nil (x := x)
 refine cW [] [] (x := lY.of Tryz.f170 xL vV) (by kernel_rfl) ?_; refine on h1 ?_; refine oh h2 ?_; exact fi
theorem RD {l l2 : List Int} {x : Int} {i n n2 : Nat} (h1 : KC 190 [.win (.out 1) 1 0 n, iv x] (hR 1 l n) 2 (XQ ⟨.tup [iv (Int.ofNat i), bv false], hR 1 l n, 2⟩))
  (h2 : KC 191 [.win (.out 1) 1 0 n, iv (Int.ofNat i), .win (.out 2) 1 0 1] ((.out 2, .cells [iv x]) :: hR 1 l n) 3
   (XQ ⟨.win (.out 3) 1 0 n2, [(.out 3, .cells (wb l2)), (.out 2, .cells [iv x]), (.out 0, .cells [.win (.out 1) 1 0 n])], 4⟩)) :
  KC 170 [sP, iv x] (hR 1 l n) 2 (XQ ⟨.tup [], [(.out 3, .cells (wb l2)), (.out 2, .cells [iv x]), (.out 0, .cells [.win (.out 3) 1 0 n2])], 4⟩) := by
 refine cW [] [] (x := lY.of Tryz.f170 xL vV) (by kernel_rfl) ?_; refine oh h1 ?_; refine oh h2 ?_; exact fi
theorem RB {l : List Int} {x : Int} {i n : Nat} (h1 : KC 190 [.win (.out 1) 1 0 n, iv x] (hR 1 l n) 2 (XQ ⟨.tup [iv (Int.ofNat i), bv true], hR 1 l n, 2⟩)) :
  KC 170 [sP, iv x] (hR 1 l n) 2 (XQ ⟨.tup [], hR 1 l n, 2⟩) := by
 refine cW [] [] (x := lY.of Tryz.f170 xL vV) (by kernel_rfl) ?_; refine oh h1 ?_; exact fi
def ik (l : List Int) (x : Int) : List Int := match l.contains x with | true => l | false => fT l (l.countP (· < x)) x
theorem Ec {l : List Int} {i : Nat} {x : Int} : fT l i x ≠ [] := by simp [fT]
theorem RE {l : List Int} {x : Int} (h0 : l ≠ []) (hs : l.Pairwise (· <= ·)) (hn : l.length < 1000000000) :
  KC 170 [sP, iv x] (hR 1 l l.length) 2 (XQ ⟨.tup [], hR 2 (ik l x) (ik l x).length, 3⟩) := by
 have h1 := Jj (x := x) hs hn rfl
 unfold ik
 generalize hc : l.contains x = c at h1
 cases c
 ·have h2 := JU (x := x) (i := l.countP (· < x)) List.countP_le_length hn rfl
  refine aB.rn (RD h1 h2) ?_
  rintro v hp m ⟨rfl, rfl, rfl⟩
  refine ⟨[3], rfl, ?_, ?_⟩
  ·simp [hR, cq, JE, MW, io, DT, eI, ir, ry]
   rfl
  simp [hR, cq, pz, re, Af, iL, fS, eI, ir, nh, qz, gM]
  exact ⟨rfl, rfl, rfl⟩
 refine aB.rn (RB h1) ?_
 rintro v hp m ⟨rfl, rfl, rfl⟩
 refine ⟨[1], rfl, ?_, ?_⟩
 ·simp [hR, cq, JE, MW, io, DT, eI, ir, ry]
  rfl
 simp [hR, cq, pz, re, Af, iL, fS, eI, ir, nh, qz, gM]
 exact ⟨rfl, rfl, rfl⟩
theorem E7 {x : Int} : KC 170 [sP, iv x] [(.out 0, .cells [.dat nl])] 1 (XQ ⟨.tup [], hR 1 [x] 1, 2⟩) := by
 refine aB.rn (RC (x := x)) ?_
 rintro v hp m ⟨rfl, rfl, rfl⟩
 exact ⟨[2], rfl, rfl, rfl, rfl, rfl⟩
theorem Xl {l : List Int} {x : Int} (hs : l.Pairwise (· <= ·)) (hn : l.length < 1000000000) (r m : Nat) :
  KC 170 [sP, iv x] (hS r l) m (XQ ⟨.tup [], hS m (ik l x), m + 1⟩) := by
 cases l with
 | nil =>
  have h := aB.frame (E7 (x := x)) (fun o => o) (heap := hS r []) (rest := []) (next := m) (by rfl) rfl rfl rfl rfl
  refine h.mono ?_
  rintro v h m' ⟨v0, h1, n1, ⟨rfl, rfl, rfl⟩, rfl, rfl, rfl⟩
  refine ⟨rfl, ?_, rfl⟩
  show _ = hS m [x]
  simp [hS, hR, pz, re, Af, iL, fS, gM, kP]
  exact ⟨rfl, rfl, rfl⟩
 | cons y l =>
  have h2 : ik (y :: l) x ≠ [] := by
   unfold ik
   cases (y :: l).contains x with
   | true => simp
   | false => exact Ec
  rw [IF (by simp : (y :: l) ≠ []), IF h2]
  have h := aB.frame (RE (x := x) (by simp : (y :: l) ≠ []) hs hn) (fun o => match o with | 0 => 0 | _ => r) (heap := hR r (y :: l) (y :: l).length) (rest := []) (next := m) (by simp [hR, pz, re, Af, gM, iL, fS]) (by rfl) (by simp [cT, hR, pA, rB, dX, dL]; rfl) (by rfl) rfl
  refine h.mono ?_
  rintro v h m' ⟨v0, h1, n1, ⟨rfl, rfl, rfl⟩, rfl, rfl, rfl⟩
  refine ⟨rfl, ?_, rfl⟩
  simp [hR, pz, re, Af, iL, fS, gM, kP]
  exact ⟨rfl, rfl, rfl⟩
/-! ### collectFree -/
noncomputable def Wa : Hints := ⟨au, tu, ax, rowsOf ax 142⟩
def SS (k : Int) (nm : List UInt8) (ix : Int) (a : aq) (n u : Nat) (H : Heap) (m : Nat) (i : Int) : ac := ⟨[(26, iv i), (25, iv (Int.ofNat n)), (24, .dat a), (3, .ptr (.loc 3) 0), (1, iv (Int.ofNat u)), (2, sP)], [(.loc 3, .cells [iv k, .dat (sb nm), iv ix, .dat a])], H, m⟩
def PM (k : Int) (nm : List UInt8) (ix : Int) (a : aq) (n u : Nat) (H : Heap) (m : Nat) (i : Int) : ac := ⟨[(27, bv false), (26, iv i), (25, iv (Int.ofNat n)), (24, .dat a), (3, .ptr (.loc 3) 0), (1, iv (Int.ofNat u)), (2, sP)], [(.loc 3, .cells [iv k, .dat (sb nm), iv ix, .dat a])], H, m⟩
theorem Kn {k : Int} {nm : List UInt8} {ix : Int} {x : aq} {es : List aq} {l : List Ty} {t : Ty} {i u b m m2 : Nat} {H H2 : Heap} (hl : ap l = x :: es) (hi : i < (ap l).length) (ht : l[i]? = some t)
  (hb : ag 126 [.dat (.agg [i64 k, sb nm, i64 ix, .slice (x :: es)]), iv (Int.ofNat i)] (iv (Int.ofNat b)))
  (hc : KC 142 [.dat t.enc, iv (aI .i64 (Int.ofNat u + Int.ofNat b)), sP] H m (XQ ⟨.tup [], H2, m2⟩)) {T : Exit -> aa -> Prop}
  (e : T .normal ((SS k nm ix (.slice (x :: es)) (x :: es).length u H2 m2 (aI .i64 (Int.ofNat i + 1))).aw Tryz.f142.ntmps)) :
  KD (roundOf Tryz.f142 0) T ((SS k nm ix (.slice (x :: es)) (x :: es).length u H m (Int.ofNat i)).aw Tryz.f142.ntmps) := by
 have h1 := bH hi
 have h2 := jX ht
 rw [hl] at h1 h2
 clear ht hi hl
 obtain ⟨k2, nm2, ix2, a2⟩ := t
 rcases a2 with _ | ⟨b2, d2⟩ <;>
 ·refine aC [27] [29] (H := Wa) (live := oZ) (by kernel_rfl) ?_; refine ob h1 ?_; refine oo h2 ?_; refine on hb ?_; refine oh hc ?_; exact oe e
theorem OH {k : Int} {nm : List UInt8} {ix : Int} {a : aq} {n u m : Nat} {H : Heap} {T : Exit -> aa -> Prop} (e : T (.exit 0) ((PM k nm ix a n u H m (Int.ofNat n)).aw Tryz.f142.ntmps)) :
  KD (roundOf Tryz.f142 0) T ((SS k nm ix a n u H m (Int.ofNat n)).aw Tryz.f142.ntmps) := by
 have h1 := bR (i := n) (L := n) (by omega)
 refine aC [27] [] (H := Wa) (live := oZ) (by kernel_rfl) ?_; refine ob h1 ?_; exact oe e
/-- What a root gives. -/
def dH (k ix : Int) (u : Nat) (s : List Int) : List Int := match aZ k 5 with | false => s | true => (match bm ix (Int.ofNat u) with | true => s | false => ik s (ix - Int.ofNat u))
mutual
def Ty.cf : Ty -> Nat -> List Int -> List Int
 | .mk k _ ix args, u, s => pS k args 0 u (dH k ix u s)
def pS (k : Int) : List Ty -> Nat -> Nat -> List Int -> List Int
 | [], _, _, s => s
 | t :: r, j, u, s => pS k r (j + 1) u (t.cf (u + cO k j) s)
end
theorem IN {k : Int} {b : List Ty} {u : Nat} : ∀ {a : List Ty} {j : Nat} {s : List Int}, pS k (a ++ b) j u s = pS k b (j + a.length) u (pS k a j u s)
 | [], j, s => by simp [pS]
 | t :: r, j, s => by
  simp only [List.cons_append, pS, List.length_cons]
  rw [IN, show j + 1 + r.length = j + (r.length + 1) by omega]
theorem ER {k : Int} {l : List Ty} {i u : Nat} {t : Ty} {s : List Int} (h : l[i]? = some t) : pS k (l.take (i + 1)) 0 u s = t.cf (u + cO k i) (pS k (l.take i) 0 u s) := by
 have hi := (List.getElem?_eq_some_iff.1 h).1
 rw [List.take_add_one, h, Option.toList_some, IN, Nat.zero_add, List.length_take, Nat.min_eq_left (by omega), pS, pS]
theorem Ko {k : Int} {nm : List UInt8} {ix : Int} {l : List aq} {u m m2 m3 : Nat} {ck cg : Bool} {H H2 H3 : Heap} (hk : aZ k 5 = ck) (hg : bm ix (Int.ofNat u) = cg)
  (ha : ck = true -> cg = false -> KC 170 [sP, iv (aI .i64 (ix - Int.ofNat u))] H m (XQ ⟨.tup [], H2, m2⟩)) (he : ck = false ∨ cg = true -> H2 = H /\ m2 = m)
  (hl : KD (.loop (roundOf Tryz.f142 0)) (fun e s => e = .exit 0 /\ s = (PM k nm ix (sl l) l.length u H3 m3 (Int.ofNat l.length)).aw Tryz.f142.ntmps) ((SS k nm ix (sl l) l.length u H2 m2 (Int.ofNat 0)).aw Tryz.f142.ntmps)) :
  KC 142 [.dat (.agg [i64 k, sb nm, i64 ix, sl l]), iv (Int.ofNat u), sP] H m (XQ ⟨.tup [], H3, m3⟩) := by
 cases ck
 ·obtain ⟨rfl, rfl⟩ := he (.inl rfl)
  clear he ha
  rcases l with _ | ⟨x, l⟩ <;>
  ·refine cW [10] [] (x := lY.of Tryz.f142 tu oZ) (by kernel_rfl) ?_; refine ob hk ?_; refine lo hl ?_; rintro ex s ⟨rfl, rfl⟩; refine ⟨_, rfl, ?_⟩; exact fi
 cases cg
 ·have ha2 := ha rfl rfl
  clear he ha
  rcases l with _ | ⟨x, l⟩ <;>
  ·refine cW [10, 15] [] (x := lY.of Tryz.f142 tu oZ) (by kernel_rfl) ?_; refine ob hk ?_; refine ox hg ?_; refine oh ha2 ?_; refine lo hl ?_; rintro ex s ⟨rfl, rfl⟩; refine ⟨_, rfl, ?_⟩; exact fi
 obtain ⟨rfl, rfl⟩ := he (.inr rfl)
 clear he ha
 rcases l with _ | ⟨x, l⟩ <;>
 ·refine cW [10, 15] [] (x := lY.of Tryz.f142 tu oZ) (by kernel_rfl) ?_; refine ob hk ?_; refine ox hg ?_; refine lo hl ?_; rintro ex s ⟨rfl, rfl⟩; refine ⟨_, rfl, ?_⟩; exact fi
/-- Sets as they are built. -/
def fy (b : Nat) (s : List Int) : Prop := s.Pairwise (· <= ·) /\ s.length <= b
theorem countP_split {l : List Int} {x : Int} (hs : l.Pairwise (· <= ·)) : (∀ y ∈ l.take (l.countP (· < x)), y < x) /\ (∀ y ∈ l.drop (l.countP (· < x)), x <= y) := by
 induction l with
 | nil => simp
 | cons a r ih =>
  obtain ⟨h1, h2⟩ := ih (List.Pairwise.of_cons hs)
  by_cases ha : a < x
  ·rw [List.countP_cons_of_pos (by simpa using ha)]
   refine ⟨?_, ?_⟩
   ·intro y hy
    simp only [List.take_succ_cons, List.mem_cons] at hy
    rcases hy with rfl | hy
    ·exact ha
    exact h1 y hy
   simpa only [List.drop_succ_cons] using h2
  have h0 : (a :: r).countP (· < x) = 0 := by
   rw [List.countP_eq_zero]
   intro y hy
   have hay : a <= y := by
    rcases List.mem_cons.1 hy with rfl | hy
    ·exact Int.le_refl _
    exact List.rel_of_pairwise_cons hs hy
   simp only [decide_eq_true_eq]
   omega
  rw [h0]
  refine ⟨by simp, ?_⟩
  intro y hy
  simp only [List.drop_zero] at hy
  have hay : a <= y := by
   rcases List.mem_cons.1 hy with rfl | hy
   ·exact Int.le_refl _
   exact List.rel_of_pairwise_cons hs hy
  omega
theorem Ji {b : Nat} {s : List Int} {x : Int} (h : fy b s) : fy (b + 1) (ik s x) := by
 obtain ⟨h1, h2⟩ := h
 unfold ik
 cases s.contains x with
 | true => exact ⟨h1, Nat.le_succ_of_le h2⟩
 | false =>
  obtain ⟨c1, c2⟩ := countP_split (x := x) h1
  refine ⟨?_, ?_⟩
  ·unfold fT
   rw [List.pairwise_append]
   refine ⟨h1.sublist (List.take_sublist _ _), ?_, ?_⟩
   ·rw [List.pairwise_cons]
    exact ⟨c2, h1.sublist (List.drop_sublist _ _)⟩
   intro y hy z hz
   have := c1 y hy
   rcases List.mem_cons.1 hz with rfl | hz
   ·omega
   have := c2 z hz
   omega
  rw [rQ List.countP_le_length]; omega
theorem xh {b : Nat} {k ix : Int} {u : Nat} {s : List Int} (h : fy b s) : fy (b + 1) (dH k ix u s) := by
 unfold dH
 cases aZ k 5 with
 | false => exact ⟨h.1, Nat.le_succ_of_le h.2⟩
 | true =>
  cases bm ix (Int.ofNat u) with
  | true => exact ⟨h.1, Nat.le_succ_of_le h.2⟩
  | false => exact Ji h
mutual
theorem Sq : ∀ (t : Ty) (u : Nat) {b : Nat} {s : List Int}, fy b s -> fy (b + t.size) (t.cf u s)
 | .mk k nm ix l, u, b, s, h => by
  rw [Ty.cf, Ty.size, show b + (aS l + 1) = b + 1 + aS l by omega]
  exact Cw l u (xh h)
theorem Cw {k : Int} : ∀ (l : List Ty) {j : Nat} (u : Nat) {b : Nat} {s : List Int}, fy b s -> fy (b + aS l) (pS k l j u s)
 | [], j, u, b, s, h => by simpa [pS, aS] using h
 | t :: r, j, u, b, s, h => by
  rw [pS, aS, ← Nat.add_assoc]
  exact Cw r u (Sq t _ h)
end
def CF (t : Ty) (u : Nat) (s : List Int) : Prop := ∀ r m, 0 < r -> 0 < m -> KC 142 [.dat t.enc, iv (Int.ofNat u), sP] (hS r s) m (XQ ⟨.tup [], hS m (t.cf u s), m + 1⟩)
def Dh (r m : Nat) : Nat -> Nat
 | 0 => r
 | i + 1 => m + i
theorem Dg {r m i : Nat} (h1 : 0 < r) (h2 : 0 < m) : 0 < Dh r m i := by cases i with | zero => exact h1 | succ i => simp only [Dh]; omega
theorem S0 {f : FuncId} {args : List ae} {h0 : Heap} {m q mm : Nat} {s : List Int} (hm : 0 < m) (hq : 0 < q) (h : KC f args h0 m (XQ ⟨.tup [], hS q s, mm⟩)) : KC f args h0 m (XQ ⟨.tup [], hS m s, m + 1⟩) := by
 refine aB.rn h ?_
 rintro v hp m' ⟨rfl, rfl, rfl⟩
 refine ⟨[q], rfl, ?_, ?_⟩
 all_goals
  have e1 : ir 0 [q] = false := by cases q with | zero => omega | succ q => rfl
  have e2 : ir q [q] = true := by simp [ir]
  have e3 : eI m [q] 0 = true := by simp [eI, Nat.blt_eq, hm]
  have e4 : eI m [q] q = true := by simp [eI, e2]
  have e5 : nh m [q] 0 = 0 := by simp [nh, e1]
  have e6 : nh m [q] q = m := by simp [nh, e2, qz]
 ·cases s with
  | nil => simp [hS, cq, JE, MW, io, DT, e3]
  | cons x l => simp [hS, cq, JE, MW, io, DT, e3, e4, ry]
 ·cases s with
  | nil => simp [hS, cq, pz, re, Af, iL, fS, e3, e5]; exact ⟨rfl, rfl, rfl⟩
  | cons x l => simp [hS, cq, pz, re, Af, iL, fS, e3, e4, e5, e6, gM]; exact ⟨rfl, rfl, rfl⟩
theorem Rl {k : Int} {nm : List UInt8} {ix : Int} {l : List Ty} {u b : Nat} {s : List Int} (hs : fy b s) (hbd : b + 1 + aS l < 1000000000) (hu : u < 1000000000) (hix : aZ k 5 = true -> bm ix 500000000 = true)
  (ih : ∀ t ∈ l, ∀ v s2, v <= u + 1 -> fy (b + 1 + aS l) s2 -> (∃ b2, fy b2 s2 /\ b2 + t.size <= b + 1 + aS l) -> CF t v s2) : CF (.mk k nm ix l) u s := by
 intro r m hr hm
 have hlen := ew l
 obtain ⟨r2, m2, hr2, hm2, hH2⟩ : ∃ r2 m2, 0 < r2 /\ 0 < m2 /\ ((aZ k 5 = true -> bm ix (Int.ofNat u) = false -> KC 170 [sP, iv (aI .i64 (ix - Int.ofNat u))] (hS r s) m (XQ ⟨.tup [], hS r2 (dH k ix u s), m2⟩)) /\ (aZ k 5 = false ∨ bm ix (Int.ofNat u) = true -> hS r2 (dH k ix u s) = hS r s /\ m2 = m)) := by
  unfold dH
  cases hk : aZ k 5 with
  | false => exact ⟨r, m, hr, hm, by simp, fun _ => ⟨rfl, rfl⟩⟩
  | true =>
   cases hg : bm ix (Int.ofNat u) with
   | true => exact ⟨r, m, hr, hm, by simp, fun _ => ⟨rfl, rfl⟩⟩
   | false =>
    refine ⟨m, m + 1, hm, by omega, fun _ _ => ?_, by simp⟩
    have hix := hix hk
    rw [gp] at hg hix
    simp only [decide_eq_false_iff_not, decide_eq_true_eq] at hg hix
    have e : aI .i64 (ix - Int.ofNat u) = ix - Int.ofNat u := by
     rw [dz]
     simp only [Int.ofNat_eq_natCast] at hg ⊢
     exact wrap_i64 (by omega) (by omega)
    rw [e]
    exact Xl hs.1 (by have := hs.2; omega) r m
 have hs1 := xh (k := k) (ix := ix) (u := u) hs
 refine S0 (q := Dh r2 m2 l.length) (mm := m2 + l.length) hm (Dg hr2 hm2) ?_
 have hl : KD (.loop (roundOf Tryz.f142 0)) (fun e s' => e = .exit 0 /\ s' = (PM k nm ix (sl (ap l)) (ap l).length u (hS (Dh r2 m2 l.length) (pS k l 0 u (dH k ix u s))) (m2 + l.length) (Int.ofNat (ap l).length)).aw Tryz.f142.ntmps)
   ((SS k nm ix (sl (ap l)) (ap l).length u (hS r2 (dH k ix u s)) m2 (Int.ofNat 0)).aw Tryz.f142.ntmps) := by
  refine bu (St := fun i => (SS k nm ix (sl (ap l)) (ap l).length u (hS (Dh r2 m2 i) (pS k (l.take i) 0 u (dH k ix u s))) (m2 + i) (Int.ofNat i)).aw Tryz.f142.ntmps) (ap l).length ?_ ?_ (i := 0) (Nat.zero_le _)
  ·intro i hi
   obtain ⟨t, ht, hmem⟩ := get_mem hi
   have hi2 := hi
   rw [aE] at hi2
   have hbn : cO k i <= 1 := by unfold cO; split <;> omega
   obtain ⟨x, es, hx⟩ : ∃ x es, ap l = x :: es := by
    cases hl : ap l with
    | nil => rw [hl] at hi; simp at hi
    | cons x es => exact ⟨x, es, rfl⟩
   have hst := jR ht
   have hsl := qX (l := l) (i + 1)
   have hpre : fy (b + 1 + aS (l.take i)) (pS k (l.take i) 0 u (dH k ix u s)) := Cw _ u hs1
   have hcf := ih t hmem (u + cO k i) (pS k (l.take i) 0 u (dH k ix u s)) (by omega) ⟨hpre.1, by have := hpre.2; omega⟩ ⟨_, hpre, by omega⟩ (Dh r2 m2 i) (m2 + i) (Dg hr2 hm2) (by omega)
   rw [← wrap_add (n := u) (m := cO k i) (by omega)] at hcf
   have hbi := tV k nm ix (.slice (x :: es)) (.inr ⟨_, rfl⟩) i
   have e := Kn (T := qc (fun s' => s' = (SS k nm ix (sl (ap l)) (ap l).length u (hS (Dh r2 m2 (i + 1)) (pS k (l.take (i + 1)) 0 u (dH k ix u s))) (m2 + (i + 1)) (Int.ofNat (i + 1))).aw Tryz.f142.ntmps)
    (fun e s' => e = .exit 0 /\ s' = (PM k nm ix (sl (ap l)) (ap l).length u (hS (Dh r2 m2 l.length) (pS k l 0 u (dH k ix u s))) (m2 + l.length) (Int.ofNat (ap l).length)).aw Tryz.f142.ntmps)) hx hi ht hbi hcf (by
     rw [hx, bn (by omega), ER ht]
     rfl)
   rw [hx]
   rw [hx] at e
   exact e
  refine OH ⟨rfl, ?_⟩
  rw [aE, List.take_length]
 exact Ko rfl rfl hH2.1 hH2.2 hl
mutual
theorem AY : ∀ (t : Ty) (u : Nat) {b : Nat} {s : List Int}, fy b s -> b + t.size < 1000000000 -> u + t.depth < 1000000000 -> t.dD -> CF t u s
 | .mk k nm ix l, u, b, s, hs, hb, hu, hx => by
  simp only [Ty.size] at hb
  simp only [Ty.depth] at hu
  simp only [Ty.dD] at hx
  exact Rl hs (by omega) (by omega) hx.1 (yQ l u (by omega) (by omega) hx.2)
theorem yQ : ∀ (l : List Ty) (u : Nat) {B : Nat}, u + bG l + 1 < 1000000000 -> B < 1000000000 -> cJ l -> ∀ t ∈ l, ∀ v s2, v <= u + 1 -> fy B s2 -> (∃ b2, fy b2 s2 /\ b2 + t.size <= B) -> CF t v s2
 | [], u, B, hu, _, hx, t, ht, _, _, _, _, _ => by simp at ht
 | y :: r, u, B, hu, hB, hx, t, ht, v, s2, hv, h1, h2 => by
  simp only [bG] at hu
  simp only [cJ] at hx
  rcases List.mem_cons.1 ht with h3 | ht
  ·obtain ⟨b2, h4, h5⟩ := h2
   rw [h3] at h5 ⊢
   exact AY y v h4 (by omega) (by omega) hx.1
  exact yQ r u (by omega) hB hx.2 t ht v s2 hv h1 h2
end
/-! ### FreeVars -/
theorem NV {k : Int} {nm : List UInt8} {ix : Int} {l : List aq} {s : List Int} (h : KC 142 [.dat (.agg [i64 k, sb nm, i64 ix, sl l]), iv (Int.ofNat 0), sP] [(.out 0, .cells [.dat nl])] 1 (XQ ⟨.tup [], hS 1 s, 2⟩)) :
  KC 119 [.dat (.agg [i64 k, sb nm, i64 ix, sl l])] [] 0 (XQ (match s with | [] => ⟨.dat nl, hS 1 [], 2⟩ | x :: r => ⟨.win (.out 1) 1 0 (x :: r).length, hS 1 (x :: r), 2⟩)) := by
 rcases l with _ | ⟨y, l⟩ <;>
 ·cases s with
  | nil =>
   refine cW [] [] (x := lY.of Tryz.f119 BM B0) (by kernel_rfl) ?_; refine oh h ?_; exact fi
  | cons x r =>
   refine cW [] [] (x := lY.of Tryz.f119 BM B0) (by kernel_rfl) ?_; refine oh h ?_; exact fi
def iN (x : Int) : aq := .flat (.int .i64 x)
def Ty.fv (t : Ty) : List Int := t.cf 0 []
theorem Cc {t : Ty} : fy (0 + t.size) t.fv := Sq t 0 ⟨List.Pairwise.nil, Nat.le_refl _⟩
theorem yR {t : Ty} (hs : t.size < 400000000) (hx : t.dD) : ag 119 [.dat t.enc] (.dat (sl (t.fv.map iN))) := by
 have h1 := AY t 0 (s := []) ⟨List.Pairwise.nil, Nat.le_refl 0⟩ (by omega) (by have := iD t; omega) hx 1 1 (by decide) (by decide)
 have h2 := Cc (t := t)
 unfold Ty.fv at h2 ⊢
 generalize t.cf 0 [] = s at h1 h2
 obtain ⟨k, nm, ix, l⟩ := t
 have h3 := NV h1
 cases s with
 | nil =>
  refine aB.rn h3 ?_
  rintro v hp m ⟨rfl, rfl, rfl⟩
  exact ⟨[], rfl, rfl, rfl, rfl, rfl⟩
 | cons x r => exact aB.Q1 h3 (by have := h2.2; simp only [jy]; omega)
def gC : List Ty -> Bool
 | t :: _ => t.closed 0
 | [] => false
def qu (k : Int) (nm : List UInt8) (ix : Int) (l : List Ty) : Bool :=
 if (!aZ k 2 && !dt nm []) = true then false
 else if (!aZ k 5 && !aZ ix 0) = true then false
 else if (aZ k 0 || aZ k 1) = true then aZ (Int.ofNat (ap l).length) 0
 else if aZ k 2 = true then isIdent nm && (!fD nm && (!bm 6 (Int.ofNat (ap l).length) && !gh l))
 else if aZ k 3 = true then !bm 6 (Int.ofNat (ap l).length)
 else if aZ k 4 = true then !bm (Int.ofNat (ap l).length) 2
 else if aZ k 5 = true then aZ (Int.ofNat (ap l).length) 0 && (!bm ix 0 && !bm 200 ix)
 else if aZ k 6 = true then aZ (Int.ofNat (ap l).length) 2 && gC l
 else false
theorem ES {k : Int} {nm : List UInt8} {ix : Int} {l : List Ty} (hp : ∀ t ∈ l, ag 117 [.dat t.enc] (bv t.plain)) (hcl : ∀ t ∈ l, ag 139 [.dat t.enc, iv (Int.ofNat 0)] (bv (t.closed 0)))
  (hb : l.length < 1000000000) : ag 167 [.dat (Ty.mk k nm ix l).enc] (bv (qu k nm ix l)) := by
 have hid := tT nm
 have hrs := vi nm
 have hpa := vh (k := k) (nm := nm) (ix := ix) hp hb
 have hfc : ∀ t r, l = t :: r -> ag 139 [.dat t.enc, iv (Int.ofNat 0)] (bv (gC l)) := by
  rintro t r rfl
  exact hcl t (by simp)
 unfold qu
 generalize gC l = fc at hfc
 generalize isIdent nm = ci at hid
 generalize fD nm = cr at hrs
 generalize gh l = cp at hpa
 generalize h0 : aZ k 0 = c0
 generalize h1 : aZ k 1 = c1
 generalize h2 : aZ k 2 = c2
 generalize h3 : aZ k 3 = c3
 generalize h4 : aZ k 4 = c4
 generalize h5 : aZ k 5 = c5
 generalize h6 : aZ k 6 = c6
 generalize hn : dt nm [] = cn
 generalize hx : aZ ix 0 = cx
 generalize hl6 : bm 6 (Int.ofNat (ap l).length) = l6
 generalize hl2 : bm (Int.ofNat (ap l).length) 2 = l2
 generalize he0 : aZ (Int.ofNat (ap l).length) 0 = e0
 generalize he2 : aZ (Int.ofNat (ap l).length) 2 = e2
 generalize hx0 : bm ix 0 = x0
 generalize hx2 : bm 200 ix = x2
 clear hp hcl hb
 rcases l with _ | ⟨t, r⟩ <;>
 ·refine co [5, 9, 14, 18, 24, 25, 31, 53, 59, 65, 81, 29, 46, 57, 63, 69, 73, 78, 85] [89] (x := .of Tryz.f167 FV Im) ?_; refine bj (b := !c2) (c := !aZ k 2) (by rw [h2]) (by kernel_rfl) ?_
  cases c2
  ·refine bj (b := !cn) (c := !dt nm []) (by rw [hn]) (by kernel_rfl) ?_
   cases cn with
   | false => exact fi
   | true =>
    refine bj (b := !c5) (c := !aZ k 5) (by rw [h5]) (by kernel_rfl) ?_
    cases c5
    ·refine bj (b := !cx) (c := !aZ ix 0) (by rw [hx]) (by kernel_rfl) ?_
     cases cx with
     | false => exact fi
     | true =>
      refine ob h0 ?_
      cases c0
      ·refine ob h1 ?_
       cases c1
       ·refine ob h2 ?_; refine ob h3 ?_
        cases c3
        ·refine ob h4 ?_
         cases c4
         ·refine ob h5 ?_; refine ob h6 ?_
          cases c6 with
          | false => exact fi
          | true =>
           refine ob he2 ?_
           cases e2 with
           | false => exact fi
           | true =>
            first
            |exact absurd he2 (by decide)
            |have hc := hfc _ _ rfl
             have hidx := jX (l := t :: r) (i := 0) (t := t) rfl
             obtain ⟨k2, nm2, ix2, a2⟩ := t
             rcases a2 with _ | ⟨b, d⟩ <;>
             ·refine oo hidx ?_; refine on hc ?_
              cases fc <;> exact fi
         refine bj (b := !l2) (c := !bm _ 2) (by rw [hl2]) (by kernel_rfl) ?_
         cases l2 <;> exact fi
        refine bj (b := !l6) (c := !bm 6 _) (by rw [hl6]) (by kernel_rfl) ?_
        cases l6 <;> exact fi
       refine ob he0 ?_
       cases e0 <;> exact fi
      refine ob he0 ?_
      cases e0 <;> exact fi
    refine ob h0 ?_
    cases c0
    ·refine ob h1 ?_
     cases c1
     ·refine ob h2 ?_; refine ob h3 ?_
      cases c3
      ·refine ob h4 ?_
       cases c4
       ·refine ob h5 ?_; refine ob he0 ?_
        cases e0 with
        | false => exact fi
        | true =>
         refine bj (b := !x0) (c := !bm ix 0) (by rw [hx0]) (by kernel_rfl) ?_
         cases x0
         ·refine bj (b := !x2) (c := !bm 200 ix) (by rw [hx2]) (by kernel_rfl) ?_
          cases x2 <;> exact fi
         exact fi
       exact absurd h4 (by rw [fV] at h5 ⊢; simp at h5 ⊢; omega)
      exact absurd h3 (by rw [fV] at h5 ⊢; simp at h5 ⊢; omega)
     exact absurd h1 (by rw [fV] at h5 ⊢; simp at h5 ⊢; omega)
    exact absurd h0 (by rw [fV] at h5 ⊢; simp at h5 ⊢; omega)
  refine bj (b := !c5) (c := !aZ k 5) (by rw [h5]) (by kernel_rfl) ?_
  cases c5
  ·refine bj (b := !cx) (c := !aZ ix 0) (by rw [hx]) (by kernel_rfl) ?_
   cases cx with
   | false => exact fi
   | true =>
    refine ob h0 ?_
    cases c0
    ·refine ob h1 ?_
     cases c1
     ·refine ob h2 ?_; refine on hid ?_
      cases ci with
      | false => exact fi
      | true =>
       refine on hrs ?_
       cases cr
       ·refine bj (b := !l6) (c := !bm 6 _) (by rw [hl6]) (by kernel_rfl) ?_
        cases l6
        ·refine on hpa ?_
         cases cp <;> exact fi
        exact fi
       exact fi
     exact absurd h1 (by rw [fV] at h2 ⊢; simp at h2 ⊢; omega)
    exact absurd h0 (by rw [fV] at h2 ⊢; simp at h2 ⊢; omega)
  exact absurd h5 (by rw [fV] at h2 ⊢; simp at h2 ⊢; omega)
mutual
def Ty.valid : Ty -> Bool
 | .mk k nm ix l => qu k nm ix l && !nf l
def nf : List Ty -> Bool
 | [] => false
 | t :: r => !t.valid || nf r
end
theorem A6 : ∀ l : List Ty, nf l = l.any (fun t => !t.valid)
 | [] => by simp [nf]
 | t :: r => by simp [nf, A6 r]
theorem Fg {k : Int} {nm : List UInt8} {ix : Int} {l : List Ty} (hv : ∀ t ∈ l, ag 138 [.dat t.enc] (bv t.valid)) (hs : (Ty.mk k nm ix l).size < 1000000000) : ag 138 [.dat (Ty.mk k nm ix l).enc] (bv (Ty.mk k nm ix l).valid) := by
 have hsz : aS l < 1000000000 := by simp only [Ty.size] at hs; omega
 have hb : l.length < 1000000000 := by have := ew l; omega
 have hdp := jf l
 have h1 := ES (k := k) (nm := nm) (ix := ix) (yO l hsz) (tU l 0 hsz (by omega)) hb
 have h2 : ∀ t ∈ l, ag 168 [.dat t.enc] (bv (!t.valid)) := by
  intro t ht
  have hc := hv t ht
  generalize t.valid = c at hc
  obtain ⟨k2, nm2, ix2, a2⟩ := t
  rcases a2 with _ | ⟨b, d⟩ <;> cases c <;>
  ·refine co [] [] (x := .of Tryz.f168 FU Il) ?_; refine on hc ?_; exact fi
 have h3 := zc h2 hb
 rw [Ty.valid, A6]
 generalize l.any (fun t => !t.valid) = ca at h3
 generalize qu k nm ix l = cn at h1
 clear hv hs hsz hb hdp h2
 rcases l with _ | ⟨b, d⟩ <;>
 ·refine co [] [] (x := .of Tryz.f138 F1 It) ?_; refine on h1 ?_
  cases cn with
  | false => exact fi
  | true =>
   refine on h3 ?_
   cases ca <;> exact fi
mutual
theorem IP : ∀ t : Ty, t.size < 1000000000 -> ag 138 [.dat t.enc] (bv t.valid)
 | .mk k nm ix l, h => Fg (ET l (by simp only [Ty.size] at h; omega)) h
theorem ET : ∀ l : List Ty, aS l < 1000000000 -> ∀ t ∈ l, ag 138 [.dat t.enc] (bv t.valid)
 | [], _, t, ht => by simp at ht
 | x :: r, h, t, ht => by
  simp only [aS] at h
  rcases List.mem_cons.1 ht with h1 | ht
  ·rw [h1]; exact IP x (by omega)
  exact ET r (by omega) t ht
end
/-- What Validate answers. -/
def Ty.validate (t : Ty) : Int := match bm 200 (Int.ofNat t.size) || bm 12 (Int.ofNat t.depth) with | true => 4 | false => (match t.valid with | true => 0 | false => 2)
theorem Ha (t : Ty) (h : t.size < 1000000000) : ag 116 [.dat t.enc] (iv t.validate) := by
 have h1 := OP t h
 have h2 := IU t h
 have h3 := IP t h
 unfold Ty.validate
 generalize hs : t.size = n at h1 h
 generalize t.depth = m at h2
 generalize t.valid = c at h3
 generalize hn : bm 200 (Int.ofNat n) = cn
 generalize hm : bm 12 (Int.ofNat m) = cm
 clear hs h
 obtain ⟨k2, nm2, ix2, a2⟩ := t
 rcases a2 with _ | ⟨b, d⟩ <;>
 ·refine co [6, 10] [] (x := .of Tryz.f116 F9 IA) ?_; refine on h1 ?_; refine ob hn ?_
  cases cn
  ·refine on h2 ?_; refine ob hm ?_
   cases cm
   ·refine on h3 ?_
    cases c <;> exact fi
   exact fi
  exact fi
noncomputable def PD : TI := match Go.Tp.elemOf (env ay.aT) 22 with | some t => t | none => default
theorem K0 : Go.Tp.elemOf (env ay.aT) 22 = some PD := by kernel_rfl
theorem nk : PD.size = 1 := by kernel_rfl
theorem JY {l : List Int} {i : Nat} {t : Int} (h : l[i]? = some t) : aK (env ay.aT) 22 [.dat (.slice (l.map iN)), .dat (.flat (.int .i64 (Int.ofNat i)))] = some ⟨.ref [iN t], .keep⟩ :=
 sC (d := iN t) K0 rfl (by rw [List.getElem?_map, h]; rfl) (by rw [nk]; rfl) (by rw [nk]; decide)
theorem Rq {x ar : Int} : ag 120 [iv x, .ref [iN ar]] (bv (!bm x ar)) := by
 generalize h : bm x ar = c
 refine co [6] [] (x := .of Tryz.f120 F6 Ix) ?_; refine ox h ?_
 cases c <;>
 ·exact fi
def Xc (ar : Int) : ae := .fn (.func 120) [] [.ref [iN ar]]
noncomputable def Ts : Hints := ⟨au, BG, ax, rowsOf ax 141⟩
def Vy (ar : Int) (a : aq) (n : Nat) (i : Int) : ac := ⟨[(8, iv i), (7, iv (Int.ofNat n)), (0, .dat a), (1, Xc ar)], [], [], 0⟩
def Vw (ar : Int) (a : aq) (n : Nat) : ac := ⟨[(9, bv false), (8, iv (Int.ofNat n)), (7, iv (Int.ofNat n)), (0, .dat a), (1, Xc ar)], [], [], 0⟩
def Vx (i : Nat) : ac := ⟨[(4, iv (Int.ofNat i))], [], [], 0⟩
theorem FN {l : List Int} {x ar : Int} {i : Nat} {c : Bool} {T : Exit -> aa -> Prop} (hi : i < (l.map iN).length) (ht : l[i]? = some x) (hc : ag 120 [iv x, .ref [iN ar]] (bv c))
  (e1 : c = false -> T .normal ((Vy ar (.slice (l.map iN)) (l.map iN).length (aI .i64 (Int.ofNat i + 1))).aw Tryz.f141.ntmps)) (e2 : c = true -> T .ret ((Vx i).aw Tryz.f141.ntmps)) :
  KD (roundOf Tryz.f141 0) T ((Vy ar (.slice (l.map iN)) (l.map iN).length (Int.ofNat i)).aw Tryz.f141.ntmps) := by
 have h1 := bH hi
 have h2 := JY ht
 generalize l.map iN = es at *
 clear ht hi
 cases c
 ·refine aC [9] [14] (H := Ts) (live := rK) (by kernel_rfl) ?_; refine ob h1 ?_; refine oo h2 ?_; refine on hc ?_; exact oe (e1 rfl)
 refine aC [9] [14] (H := Ts) (live := rK) (by kernel_rfl) ?_; refine ob h1 ?_; refine oo h2 ?_; refine on hc ?_; exact oe (e2 rfl)
theorem Mg {ar : Int} {a : aq} {n : Nat} {T : Exit -> aa -> Prop} (e1 : T (.exit 0) ((Vw ar a n).aw Tryz.f141.ntmps)) :
  KD (roundOf Tryz.f141 0) T ((Vy ar a n (Int.ofNat n)).aw Tryz.f141.ntmps) := by
 have h1 := bR (i := n) (L := n) (by omega)
 refine aC [9] [] (H := Ts) (live := rK) (by kernel_rfl) ?_; refine ob h1 ?_; exact oe e1
theorem P6 {l : List Int} {ar : Int} (hb : l.length < 1000000000) : ag 141 [.dat (sl (l.map iN)), Xc ar] (iv (sO (fun x => !bm x ar) l 0)) := by
 have hl : ∀ a, a = sl (l.map iN) -> KD (.loop (roundOf Tryz.f141 0)) (fun e s => (e = .exit 0 /\ sO (fun x => !bm x ar) l 0 = -1 /\ s = (Vw ar a (l.map iN).length).aw Tryz.f141.ntmps) ∨ (e = .ret /\ ∃ i : Nat, sO (fun x => !bm x ar) l 0 = Int.ofNat i /\ s = (Vx i).aw Tryz.f141.ntmps)) ((Vy ar a (l.map iN).length (Int.ofNat 0)).aw Tryz.f141.ntmps) := by
  intro a ha
  refine cj (St := fun i => (Vy ar a (l.map iN).length (Int.ofNat i)).aw Tryz.f141.ntmps) (fun i => sO (fun x => !bm x ar) l 0 = sO (fun x => !bm x ar) (l.drop i) i) (l.map iN).length ?_ ?_ (i := 0) (Nat.zero_le _) rfl
  ·intro i hi hI
   have hi2 := hi
   rw [List.length_map] at hi2
   have ht : l[i]? = some l[i] := List.getElem?_eq_getElem hi2
   generalize l[i] = t at ht
   have hd := yd (p := fun x => !bm x ar) ht
   have hw : aI .i64 (Int.ofNat i + 1) = Int.ofNat (i + 1) := bn (by omega)
   rw [← hI] at hd
   have ha2 : a = .slice (l.map iN) := by
    rw [ha]
    cases l with
    | nil => simp at ht
    | cons x r => rfl
   subst ha2
   have hc := Rq (x := t) (ar := ar)
   generalize (!bm t ar) = c at hc hd
   refine FN hi ht hc ?_ ?_
   ·rintro rfl
    rw [hw]
    exact ⟨rfl, hd⟩
   rintro rfl
   exact .inr ⟨rfl, i, hd, rfl⟩
  intro hI
  refine Mg (.inl ⟨rfl, ?_, rfl⟩)
  rw [hI, List.length_map, List.drop_length]
  rfl
 have hl := hl _ rfl
 clear hb
 generalize hj : sO (fun x => !bm x ar) l 0 = j at hl
 clear hj
 generalize l.map iN = es at *
 rcases es with _ | ⟨x, es⟩ <;>
 ·refine co [] [] (x := .of Tryz.f141 BG rK) ?_; refine lo hl ?_
  rintro ex s (⟨rfl, rfl, rfl⟩ | ⟨rfl, ⟨x0, rfl, rfl⟩⟩) <;>
  ·refine ⟨_, rfl, ?_⟩; exact fi
theorem Mh {l : List Int} {ar : Int} (hb : l.length < 1000000000) : ag 118 [.dat (sl (l.map iN)), Xc ar] (bv (l.any (fun x => !bm x ar))) := by
 have h := P6 (ar := ar) hb
 have h3 := B5 (p := fun x => !bm x ar) (l := l) (i := 0)
 generalize sO (fun x => !bm x ar) l 0 = j at h h3
 have e : l.any (fun x => !bm x ar) = !(!(l.any (fun x => !bm x ar))) := by rw [Bool.not_not]
 rw [e]
 generalize l.any (fun x => !bm x ar) = c at h3
 generalize l.map iN = es at *
 clear hb e
 rcases es with _ | ⟨x, es⟩ <;>
 ·refine co [8] [] (x := .of Tryz.f118 F7 Iy) ?_; refine on h ?_; refine ox h3 ?_; exact fi
theorem JB {k : Int} {nm : List UInt8} {ix ar v : Int} {l fv : List aq} {c1 c2 c3 : Bool} (h1 : ag 116 [.dat (.agg [i64 k, sb nm, i64 ix, sl l])] (iv v)) (hv : aZ v 0 = c1) (h2 : ag 117 [.dat (.agg [i64 k, sb nm, i64 ix, sl l])] (bv c2))
 (h3 : ag 119 [.dat (.agg [i64 k, sb nm, i64 ix, sl l])] (.dat (sl fv))) (h4 : ag 118 [.dat (sl fv), Xc ar] (bv c3)) : ag 89 [.dat (.agg [i64 k, sb nm, i64 ix, sl l]), iv ar] (bv (c1 && (c2 && !c3))) := by
 rcases l with _ | ⟨x, l⟩ <;>
 ·rcases fv with _ | ⟨y, fv⟩ <;>
  ·refine co [7] [] (x := .of Tryz.f89 Mk Ni) ?_; refine on h1 ?_; refine ob hv ?_
   cases c1
   ·exact fi
   refine on h2 ?_
   cases c2
   ·exact fi
   refine on h3 ?_; refine on h4 ?_; exact fi
def Ty.over (t : Ty) (ar : Int) : Bool := aZ t.validate 0 && (t.plain && !(t.fv.any (fun x => !bm x ar)))
theorem vg {t : Ty} {ar : Int} (h : t.cE) : ag 89 [.dat t.enc, iv ar] (bv (t.over ar)) := by
 have hs := h.1
 have h1 := Ha t (by omega)
 have h2 := IS t (by omega)
 have h3 := yR (by omega) h.2
 have h4 := Mh (l := t.fv) (ar := ar) (by have := (Cc (t := t)).2; omega)
 obtain ⟨k, nm, ix, l⟩ := t
 exact JB h1 rfl h2 h3 h4
def Tc (c : Bool) (r m : Int) : Int := match c with | true => aI .i64 (r + m) | false => r
theorem PW {n m : Int} (h : aZ m 0 = false) : KI (env ay.aT) .rem 3 [iv n, iv m] = some ⟨iv (n.tmod m), .keep⟩ := by
 have h1 : KI (env ay.aT) .rem 3 [iv n, iv m] = S9 (if aZ m 0 = true then none else some (.int .i64 (n.tmod m))) := by kernel_rfl
 rw [h1, h]
 rfl
theorem Tb {n m : Int} {c : Bool} (h1 : KI (env ay.aT) .rem 3 [iv n, iv m] = some ⟨iv (n.tmod m), .keep⟩) (h2 : bm (n.tmod m) 0 = c) : ag 13 [iv n, iv m] (iv (Tc c (n.tmod m) m)) := by
 refine co [9] [7] (x := .of Tryz.f13 MQ ND) ?_; refine oo h1 ?_; refine ob h2 ?_
 cases c <;>
 ·exact fi
theorem II (n : Int) {m : Nat} (hm : 0 < m) (hb : m < 1000000000) : ag 13 [iv n, iv (Int.ofNat m)] (iv (n % Int.ofNat m)) := by
 have h := Tb (n := n) (m := Int.ofNat m) (PW (by rw [fV, beq_eq_false_iff_ne]; intro h; have := Int.ofNat.inj (h.trans (show (0 : Int) = Int.ofNat 0 from rfl)); omega)) rfl
 have e : Tc (bm (n.tmod (Int.ofNat m)) 0) (n.tmod (Int.ofNat m)) (Int.ofNat m) = n % Int.ofNat m := by
  have h0 : (0 : Int) < Int.ofNat m := by simp; omega
  have h1 := Int.emod_nonneg n (show Int.ofNat m ≠ 0 by omega)
  have h2 := Int.emod_lt_of_pos n h0
  have h3 : Int.ofNat m < 1000000000 := by simp; omega
  rw [gp]
  have ht := Int.tmod_eq_emod (a := n) (b := Int.ofNat m)
  generalize Int.ofNat m = M at *
  generalize n % M = q at *
  rw [ht]
  unfold Tc
  split at ht
  ·rename_i hc
   rw [if_pos hc, show ((0 : Nat) : Int) = 0 from rfl, Int.sub_zero]
   rw [decide_eq_false (by omega)]
  rename_i hc
  rw [if_neg hc]
  have hM : (M.natAbs : Int) = M := by omega
  rw [hM]
  rw [decide_eq_true (by omega)]
  dsimp only
  rw [dz, wrap_i64 (by omega) (by omega)]
  omega
 rw [e] at h
 exact h
/-- The stream: the list and the place. -/
def eY (l : List aq) (k : Int) : Heap := [(.out 0, .cells [.dat (.slice l), iv k])]
def eB : ae := .ptr (.out 0) 0
theorem Sm {l : List aq} : KC 15 [.dat (.slice l)] [] 0 (XQ ⟨eB, eY l 0, 1⟩) := by
 refine co [] [] (x := .of Tryz.f15 MM NC) ?_; exact fi
theorem H9 {l : List aq} {k n x r : Int} {c : Bool} (h1 : bm k (Int.ofNat l.length) = c) (h2 : c = true -> aK (env ay.aT) 22 [.dat (.slice l), .dat (.flat (.int .i64 (aI .i64 (aI .i64 (k + 1) - 1))))] = some ⟨.ref [iN x], .keep⟩) (h3 : ag 13 [iv x, iv n] (iv r)) :
  KC 64 [eB, iv n] (eY l k) 1 (XQ ⟨iv (match c with | true => r | false => 0), eY l (match c with | true => aI .i64 (k + 1) | false => k), 1⟩) := by
 refine co [14] [31] (x := .of Tryz.f64 Ms Nq) ?_; refine ox h1 ?_
 cases c
 ·exact fi
 refine oo (h2 rfl) ?_; refine on h3 ?_; exact fi
/-- Next: a number below n, the stream a place further. -/
theorem ey {l : List Int} {k : Nat} {n : Nat} (hl : l.length < 1000000000) (hk0 : k <= l.length) (hn : 0 < n) (hb : n < 1000000000) :
  ∃ r k2 : Nat, (r < n /\ k <= k2 /\ k2 <= l.length /\ (0 < r -> k < k2)) /\ KC 64 [eB, iv (Int.ofNat n)] (eY (l.map iN) (Int.ofNat k)) 1 (XQ ⟨iv (Int.ofNat r), eY (l.map iN) (Int.ofNat k2), 1⟩) := by
 by_cases hk : k < l.length
 ·have hg : l[k]? = some l[k] := List.getElem?_eq_getElem hk
  have hw : aI .i64 (Int.ofNat k + 1) = Int.ofNat (k + 1) := bn (by omega)
  have hw2 : aI .i64 (Int.ofNat (k + 1) - 1) = Int.ofNat k := by
   rw [dz, show Int.ofNat (k + 1) - 1 = Int.ofNat k by simp]
   exact wrap_i64 (by show _ <= (k : Int); omega) (by show (k : Int) <= _; omega)
  have h0 := Int.emod_nonneg l[k] (show Int.ofNat n ≠ 0 from fun h => absurd (Int.ofNat.inj (h.trans (show (0 : Int) = Int.ofNat 0 from rfl))) (by omega))
  have h2 := Int.emod_lt_of_pos l[k] (show (0 : Int) < Int.ofNat n from Int.ofNat_lt.2 hn)
  refine ⟨(l[k] % Int.ofNat n).toNat, k + 1, ⟨(Int.toNat_lt h0).2 h2, by omega, by omega, fun _ => by omega⟩, ?_⟩
  have h := H9 (l := l.map iN) (k := Int.ofNat k) (x := l[k]) (n := Int.ofNat n) (r := l[k] % Int.ofNat n) (c := true) (by rw [jj, List.length_map, decide_eq_true hk]) (fun _ => by rw [hw, hw2]; exact JY hg) (II _ hn hb)
  dsimp only at h
  rw [hw] at h
  rw [show Int.ofNat (l[k] % Int.ofNat n).toNat = l[k] % Int.ofNat n from Int.toNat_of_nonneg h0]
  exact h
 refine ⟨0, k, ⟨hn, by omega, by omega, fun h => by omega⟩, ?_⟩
 exact H9 (l := l.map iN) (k := Int.ofNat k) (x := 0) (n := Int.ofNat n) (r := 0) (c := false) (by rw [jj, List.length_map, decide_eq_false hk]) (fun h => by simp at h) (by have := II 0 hn hb; rw [Int.zero_emod] at this; exact this)
def eF : List ep -> List (Go.Value × aq)
 | [] => []
 | f :: r => (.string ⟨⟨f.nm⟩⟩, bl true) :: eF r
theorem Ab (b : List ep) : ∀ a : List ep, eF (a ++ b) = eF a ++ eF b
 | [] => rfl
 | x :: r => by simp only [List.cons_append, eF, Ab b r]
def mW : List ep -> List UInt8 -> Bool
 | [], _ => false
 | f :: r, nm => match dt nm f.nm with | true => true | false => mW r nm
theorem qB : ∀ (l : List ep) (nm : List UInt8) (j : Nat), findF .string (.string ⟨⟨nm⟩⟩) (eF l) j = some (match mW l nm with | true => some (match findF .string (.string ⟨⟨nm⟩⟩) (eF l) j with | some (some (i, _)) => i | _ => 0, bl true) | false => none)
 | [], nm, j => rfl
 | d :: r, nm, j => by
  have e : findF .string (.string ⟨⟨nm⟩⟩) (eF (d :: r)) j = (match xc .string (.string ⟨⟨nm⟩⟩) (.string ⟨⟨d.nm⟩⟩) with | some true => some (some (j, bl true)) | some false => findF .string (.string ⟨⟨nm⟩⟩) (eF r) (j + 1) | none => none) := rfl
  rw [e, show xc .string (.string ⟨⟨nm⟩⟩) (.string ⟨⟨d.nm⟩⟩) = some (dt nm d.nm) from rfl]
  unfold mW
  cases he : dt nm d.nm with
  | true => rfl
  | false => exact qB r nm (j + 1)
theorem JN (l : List ep) (nm : List UInt8) : fP (env ay.aT) 97 false [.map (.loc 50), .dat (sb nm)] (some (.map (eF l))) = some ⟨bv (mW l nm), .keep⟩ := by
 have h1 : fP (env ay.aT) 97 false [.map (.loc 50), .dat (sb nm)] (some (.map (eF l))) = (match findF .string (.string ⟨⟨nm⟩⟩) (eF l) 0 with
  | some (some (_, d)) => some ⟨.dat d, .keep⟩ | some none => some ⟨bv false, .keep⟩ | none => none) := by kernel_rfl
 rw [h1, qB]
 cases mW l nm <;> rfl
theorem L9 {l : List ep} {f : ep} (h : mW l f.nm = false) : cY (env ay.aT) 97 [.map (.loc 50), .dat (sb f.nm), bv true] (some (.map (eF l))) = some ⟨.undef, .set (.map (eF (l ++ [f])))⟩ := by
 have h1 : cY (env ay.aT) 97 [.map (.loc 50), .dat (sb f.nm), bv true] (some (.map (eF l))) = (match findF .string (.string ⟨⟨f.nm⟩⟩) (eF l) 0 with
  | some (some (i, _)) => some ⟨.undef, .set (.map (setAt i (bl true) (eF l)))⟩ | some none => some ⟨.undef, .set (.map (eF l ++ [(.string ⟨⟨f.nm⟩⟩, bl true)]))⟩ | none => none) := by kernel_rfl
 rw [h1, qB, h, Ab]
 rfl
noncomputable def Sh : Hints := ⟨au, DM, ax, rowsOf ax 50⟩
def Qh (es : List (Go.Value × aq)) (nm : List UInt8) (ar k : Int) (nm2 : List UInt8) (ix : Int) (a : aq) (con : Bool) (b : aq) : Heap := [(.loc 50, .map es), (.loc 1, .cells [.dat (sb nm), iv ar, iv k, .dat (sb nm2), iv ix, .dat a, .dat (bl con), .dat b])]
def UY (lo : Heap) (b : aq) (n : Nat) (i : Int) : ac := ⟨[(54, iv i), (53, iv (Int.ofNat n)), (52, .dat b), (3, .map (.loc 50)), (1, .ptr (.loc 1) 0)], lo, [], 0⟩
def SI (lo : Heap) (b : aq) (n : Nat) (i : Int) : ac := ⟨[(55, bv false), (54, iv i), (53, iv (Int.ofNat n)), (52, .dat b), (3, .map (.loc 50)), (1, .ptr (.loc 1) 0)], lo, [], 0⟩
def SJ (c : Bool) : ac := ⟨[(2, bv c)], [], [], 0⟩
theorem Ff {nm : List UInt8} {ar k : Int} {nm2 : List UInt8} {ix : Int} {la : List aq} {con : Bool} {l pre : List ep} {f : ep} {i : Nat} {c1 c2 c3 : Bool} {T : Exit -> aa -> Prop} (hi : i < (aR l).length) (ht : l[i]? = some f)
  (h1 : ag 87 [.dat (sb f.nm)] (bv c1)) (hs : mW pre f.nm = c2) (h2 : ag 89 [.dat f.ty.enc, iv ar] (bv c3))
  (e1 : (c1 && (!c2 && c3)) = true -> T .normal ((UY (Qh (eF (pre ++ [f])) nm ar k nm2 ix (sl la) con (.slice (aR l))) (.slice (aR l)) (aR l).length (aI .i64 (Int.ofNat i + 1))).aw Tryz.f50.ntmps))
  (e2 : (c1 && (!c2 && c3)) = false -> T .ret ((SJ false).aw Tryz.f50.ntmps)) :
  KD (roundOf Tryz.f50 0) T ((UY (Qh (eF pre) nm ar k nm2 ix (sl la) con (.slice (aR l))) (.slice (aR l)) (aR l).length (Int.ofNat i)).aw Tryz.f50.ntmps) := by
 have g1 := bH hi
 have g2 := yg ht
 have g3 := JN pre f.nm
 rw [hs] at g3
 have g4 : c2 = false -> cY (env ay.aT) 97 [.map (.loc 50), .dat (sb f.nm), bv true] (some (.map (eF pre))) = some ⟨.undef, .set (.map (eF (pre ++ [f])))⟩ := fun h => L9 (by rw [hs, h])
 generalize eF pre = es at *
 generalize eF (pre ++ [f]) = es2 at *
 obtain ⟨fnm, fk, ftn, fix, fa⟩ := f
 generalize aR l = xs at *
 clear ht hi hs
 rcases la with _ | ⟨x, la⟩ <;>
 ·rcases fa with _ | ⟨z, fa⟩ <;>
  ·refine aC [55] [56, 66, 100076] (H := Sh) (live := xY) (by kernel_rfl) ?_; refine ob g1 ?_; refine oo g2 ?_; refine on h1 ?_
   cases c1
   ·exact oe (e2 rfl)
   refine oo g3 ?_
   cases c2
   ·refine on h2 ?_
    cases c3
    ·exact oe (e2 rfl)
    refine oo (g4 rfl) ?_; exact oe (e1 rfl)
   exact oe (e2 rfl)
theorem I2 {es : List (Go.Value × aq)} {nm : List UInt8} {ar k : Int} {nm2 : List UInt8} {ix : Int} {la : List aq} {con : Bool} {b : aq} {n : Nat} {T : Exit -> aa -> Prop}
  (e : T (.exit 0) ((SI (Qh es nm ar k nm2 ix (sl la) con b) b n (Int.ofNat n)).aw Tryz.f50.ntmps)) :
  KD (roundOf Tryz.f50 0) T ((UY (Qh es nm ar k nm2 ix (sl la) con b) b n (Int.ofNat n)).aw Tryz.f50.ntmps) := by
 have h1 := bR (i := n) (L := n) (by omega)
 refine aC [55] [] (H := Sh) (live := xY) (by kernel_rfl) ?_; refine ob h1 ?_; exact oe e
def Hr (ar : Int) : List ep -> List ep -> Bool
 | _, [] => true
 | pre, f :: r => (isIdent f.nm && (!mW pre f.nm && f.ty.over ar)) && Hr ar (pre ++ [f]) r
theorem CP {ar : Int} {l : List ep} {i : Nat} {f : ep} (h : l[i]? = some f) : Hr ar (l.take i) (l.drop i) = ((isIdent f.nm && (!mW (l.take i) f.nm && f.ty.over ar)) && Hr ar (l.take (i + 1)) (l.drop (i + 1))) := by
 rw [dx h, eS h]
 rfl
theorem I1 {nm : List UInt8} {ar k : Int} {nm2 : List UInt8} {ix : Int} {la : List aq} {con : Bool} {l : List ep} {b : aq} (hb : b = sl (aR l)) (hn : l.length < 1000000000) (hf : ∀ f ∈ l, f.ty.cE) :
  KD (.loop (roundOf Tryz.f50 0)) (fun e s => (e = .exit 0 /\ Hr ar [] l = true /\ s = (SI (Qh (eF l) nm ar k nm2 ix (sl la) con b) b (aR l).length (Int.ofNat (aR l).length)).aw Tryz.f50.ntmps) ∨ (e = .ret /\ Hr ar [] l = false /\ s = (SJ false).aw Tryz.f50.ntmps))
   ((UY (Qh [] nm ar k nm2 ix (sl la) con b) b (aR l).length (Int.ofNat 0)).aw Tryz.f50.ntmps) := by
 refine cj (St := fun i => (UY (Qh (eF (l.take i)) nm ar k nm2 ix (sl la) con b) b (aR l).length (Int.ofNat i)).aw Tryz.f50.ntmps) (fun i => Hr ar [] l = Hr ar (l.take i) (l.drop i)) (aR l).length ?_ ?_ (i := 0) (Nat.zero_le _) rfl
 ·intro i hi hI
  obtain ⟨f, ht, hm⟩ := jY hi
  have hi2 := hi
  rw [bw] at hi2
  have hd := CP (ar := ar) ht
  rw [← hI] at hd
  have hw : aI .i64 (Int.ofNat i + 1) = Int.ofNat (i + 1) := bn (by omega)
  have hb2 : b = .slice (aR l) := by
   rw [hb]
   cases l with
   | nil => simp at ht
   | cons x r => rfl
  subst hb2
  refine Ff hi ht (tT f.nm) rfl (vg (ar := ar) (hf f hm)) ?_ ?_
  ·intro h
   rw [h] at hd
   rw [hw, ← eS ht]
   exact ⟨rfl, hd⟩
  intro h
  rw [h] at hd
  exact .inr ⟨rfl, hd, rfl⟩
 intro hI
 rw [bw, List.take_length, List.drop_length] at hI
 rw [bw, List.take_length]
 exact I2 (.inl ⟨rfl, hI, rfl⟩)
def Tl (l : List aq) : Bool := match l with | [] => false | _ => true
theorem KP {nm nm2 : List UInt8} {ar k ix : Int} {la lb : List aq} {es : List (Go.Value × aq)} {con c1 c2 c3 c4 c5 c6 c7 : Bool} (h1 : ag 87 [.dat (sb nm)] (bv c1)) (h2 : ag 88 [.dat (.slice (jd ni)), .dat (sb nm)] (bv c2)) (h3 : bm ar 0 = c3)
  (h4 : aZ k 0 = c4) (h5 : aZ k 2 = c5) (h6 : ag 89 [.dat (.agg [i64 k, sb nm2, i64 ix, sl la]), iv ar] (bv c6))
  (h7 : KD (.loop (roundOf Tryz.f50 0)) (fun e s => (e = .exit 0 /\ c7 = true /\ s = (SI (Qh es nm ar k nm2 ix (sl la) con (sl lb)) (sl lb) lb.length (Int.ofNat lb.length)).aw Tryz.f50.ntmps) ∨ (e = .ret /\ c7 = false /\ s = (SJ false).aw Tryz.f50.ntmps))
   ((UY (Qh [] nm ar k nm2 ix (sl la) con (sl lb)) (sl lb) lb.length (Int.ofNat 0)).aw Tryz.f50.ntmps)) :
  ag 50 [.dat (eC nm ar k nm2 ix la con lb)] (bv (c1 && (!c2 && (!c3 && (!(!con && Tl lb) && ((c4 || c5) && (c6 && c7))))))) := by
 rcases la with _ | ⟨x, la⟩ <;>
 ·rcases lb with _ | ⟨y, lb⟩
  ·refine co [19, 35, 40] [] (x := .of Tryz.f50 DM xY) ?_; refine on h1 ?_
   cases c1
   ·exact fi
   refine on h2 ?_
   cases c2
   ·refine ob h3 ?_
    cases c3
    ·cases con <;>
     ·refine ox h4 ?_
      cases c4
      ·refine ox h5 ?_
       cases c5
       ·exact fi
       refine on h6 ?_
       cases c6
       ·exact fi
       refine lo h7 ?_
       rintro ex s (⟨rfl, rfl, rfl⟩ | ⟨rfl, rfl, rfl⟩) <;>
       ·refine ⟨_, rfl, ?_⟩; exact fi
      refine on h6 ?_
      cases c6
      ·exact fi
      refine lo h7 ?_
      rintro ex s (⟨rfl, rfl, rfl⟩ | ⟨rfl, rfl, rfl⟩) <;>
      ·refine ⟨_, rfl, ?_⟩; exact fi
    exact fi
   exact fi
  refine co [19, 35, 40] [] (x := .of Tryz.f50 DM xY) ?_; refine on h1 ?_
  cases c1
  ·exact fi
  refine on h2 ?_
  cases c2
  ·refine ob h3 ?_
   cases c3
   ·cases con
    ·exact fi
    refine ox h4 ?_
    cases c4
    ·refine ox h5 ?_
     cases c5
     ·exact fi
     refine on h6 ?_
     cases c6
     ·exact fi
     refine lo h7 ?_
     rintro ex s (⟨rfl, rfl, rfl⟩ | ⟨rfl, rfl, rfl⟩) <;>
     ·refine ⟨_, rfl, ?_⟩; exact fi
    refine on h6 ?_
    cases c6
    ·exact fi
    refine lo h7 ?_
    rintro ex s (⟨rfl, rfl, rfl⟩ | ⟨rfl, rfl, rfl⟩) <;>
    ·refine ⟨_, rfl, ?_⟩; exact fi
   exact fi
  exact fi
def Ty.kind : Ty -> Int
 | .mk k _ _ _ => k
def Ty.D8 : Ty -> Int
 | .mk _ _ i _ => i
def aU.wf (d : aU) : Bool := isIdent d.nm && (!fD d.nm && (!bm d.ar 0 && (!(!d.con && Tl (aR d.fl)) && ((aZ d.sup.kind 0 || aZ d.sup.kind 2) && (d.sup.over d.ar && Hr d.ar [] d.fl)))))
theorem Cy {d : aU} (h : d.cE) : ag 50 [.dat d.enc] (bv d.wf) := by
 obtain ⟨h1, h2, h3⟩ := h
 have g1 := tT d.nm
 have g2 := vi d.nm
 have g6 := vg (ar := d.ar) h1
 obtain ⟨nm, ar, ⟨k, tn, ix, la⟩, con, fl⟩ := d
 exact KP g1 g2 rfl rfl rfl g6 (I1 rfl h3 h2)
theorem Ax : ∀ cs : List aq, bF (av cs) = true
 | [] => rfl
 | d :: r => by show (fe (.dat d) && bF (av r)) = true; rw [Ax r]; rfl
theorem MZ (cs : List aq) : cS (.cells (av cs)) = true := Ax cs
theorem UT {cs cs2 : List aq} {es es2 : List (Go.Value × aq)} {n : Nat} {nm nm2 : List UInt8} {ar k ix : Int} {con : Bool} {la lb : List aq}
  (h0 : oI (env ay.aT) 23 [.win (.out 2) 8 0 n] none = some ⟨iv (Int.ofNat n), .keep⟩)
  (h1 : cY (env ay.aT) 80 [.map (.out 0), .dat (sb nm), iv (Int.ofNat n)] (some (.map es)) = some ⟨.undef, .set (.map es2)⟩)
  (h2 : dc (env ay.aT) true 23 [.win (.out 2) 8 0 n, .dat (.slice [eC nm ar k nm2 ix la con lb])] (some (.cells (av cs))) = some ⟨.undef, .grow (.cells (av cs2)) 8 (n + 1)⟩) :
  KC 52 [hP, .dat (eC nm ar k nm2 ix la con lb)] (hG 2 (av cs) es n) 3 (XQ ⟨.tup [], hG 3 (av cs2) es2 (n + 1), 4⟩) := by
 have hn := MZ cs2
 rcases la with _ | ⟨x, la⟩ <;>
 ·rcases lb with _ | ⟨y, lb⟩ <;>
  ·refine cW [500022] [14, 100007, 22] (x := lY.of Tryz.f52 Mx Nv) (by kernel_rfl) ?_; refine oo h0 ?_; refine oo h1 ?_; refine oo h2 ?_; refine ob hn ?_; exact fi
theorem S2 {cs : List aq} {es es2 : List (Go.Value × aq)} {n : Nat} {nm : List UInt8}
  (h0 : oI (env ay.aT) 23 [.win (.out 2) 8 0 (n + 1)] none = some ⟨iv (Int.ofNat (n + 1)), .keep⟩)
  (h2 : aK (env ay.aT) 23 [.win (.out 2) 8 0 (n + 1), iv (aI .i64 (Int.ofNat (n + 1) - 1))] = some ⟨.ptr (.out 2) (0 + n * 8), .keep⟩)
  (h3 : ki (env ay.aT) false 9 [.ptr (.out 2) (0 + n * 8)] (some (.cells (av cs))) = some ⟨.dat (sb nm), .keep⟩)
  (h4 : kZ (env ay.aT) 80 [.map (.out 0), .dat (sb nm)] (some (.map es)) = some ⟨.tup [], .set (.map es2)⟩)
  (h5 : gz (env ay.aT) 23 none (some (.tmp 26)) none [.win (.out 2) 8 0 (n + 1), iv (aI .i64 (Int.ofNat (n + 1) - 1))] = some ⟨.win (.out 2) 8 0 n, .keep⟩) :
  KC 56 [hP] (hG 2 (av cs) es (n + 1)) 3 (XQ ⟨.tup [], hG 2 (av cs) es2 n, 3⟩) := by
 refine cW [] [7, 18, 20, 100012, 27] (x := lY.of Tryz.f56 Mv Nt) (by kernel_rfl) ?_; refine oo h0 ?_; refine oo h2 ?_; refine oo h3 ?_; refine oo h4 ?_; refine oo h5 ?_; exact fi
theorem wa {r n : Nat} (h : n <= jy) : oI (env ay.aT) 23 [.win (.out r) 8 0 n] none = some ⟨iv (Int.ofNat n), .keep⟩ := by
 have h1 : oI (env ay.aT) 23 [.win (.out r) 8 0 n] none = (if Nat.ble n jy = true then some ⟨iv (Int.ofNat n), .keep⟩ else none) := by kernel_rfl
 rw [h1, if_pos (by rw [Nat.ble_eq]; exact h)]
theorem yh (b : List aU) : ∀ (a : List aU) (i : Nat), cL (a ++ b) i = cL a i ++ cL b (i + a.length)
 | [], i => by simp [cL]
 | x :: r, i => by
  simp only [List.cons_append, cL, List.length_cons]
  rw [yh b r (i + 1), show i + 1 + r.length = i + (r.length + 1) by omega]
theorem lF (b : List aU) : ∀ a : List aU, cZ (a ++ b) = cZ a ++ cZ b
 | [] => rfl
 | x :: r => by simp only [List.cons_append, cZ, lF b r, List.append_assoc]
theorem P5 {ds : List aU} {d : aU} (h : fg ds d.nm = none) : cY (env ay.aT) 80 [.map (.out 0), .dat (sb d.nm), iv (Int.ofNat ds.length)] (some (.map (cL ds 0))) = some ⟨.undef, .set (.map (cL (ds ++ [d]) 0))⟩ := by
 have h1 : cY (env ay.aT) 80 [.map (.out 0), .dat (sb d.nm), iv (Int.ofNat ds.length)] (some (.map (cL ds 0))) = (match findF .string (.string ⟨⟨d.nm⟩⟩) (cL ds 0) 0 with
  | some (some (i, _)) => some ⟨.undef, .set (.map (setAt i (i64 (Int.ofNat ds.length)) (cL ds 0)))⟩ | some none => some ⟨.undef, .set (.map (cL ds 0 ++ [(.string ⟨⟨d.nm⟩⟩, i64 (Int.ofNat ds.length))]))⟩ | none => none) := by kernel_rfl
 rw [h1, lN, h, yh, Nat.zero_add]
 rfl
theorem Rt {l : List ae} (h : 3 <= l.length) : cI l = false := by
 rcases l with _ | ⟨a, _ | ⟨b, _ | ⟨c, r⟩⟩⟩ <;> simp at h
 exact O2 a b c r
noncomputable def CS : TI := match Go.Tp.elemOf (env ay.aT) 23 with | some t => t | none => default
theorem Rv {ds : List aU} {d : aU} {tl : List aq} (hn : ds.length < 1000) : dc (env ay.aT) true 23 [.win (.out 2) 8 0 ds.length, .dat (.slice [d.enc])] (some (.cells (av (cZ ds ++ tl)))) = some ⟨.undef, .grow (.cells (av (cZ (ds ++ [d])))) 8 (ds.length + 1)⟩ := by
 have h1 : ∀ (n : Nat) (cs : List ae) (x : ae), dc (env ay.aT) true 23 [.win (.out 2) 8 0 n, x] (some (.cells cs)) = iO (env ay.aT) CS n cs x := fun n cs x => by kernel_rfl
 have h2 : hU ay.aT CS [] (.dat (.slice [d.enc])) = some [d.enc] := by
  obtain ⟨nm, ar, ⟨k, tn, ix, la⟩, con, fl⟩ := d
  kernel_rfl
 have h3 : ∀ (n : Nat) (cs : List ae) (x : ae), iO (env ay.aT) CS n cs x = (match hU ay.aT CS [] x with
  | some ds => if (Nat.ble ((n + ds.length) * CS.bytes) 140737488355328 && Nat.ble (n + ds.length) jy && Nat.ble (n * 8) cs.length && !cI (eD (n * 8) cs ++ (ds.flatMap aq.cells).map .dat)) = true
   then some ⟨.undef, .grow (.cells (eD (n * 8) cs ++ (ds.flatMap aq.cells).map .dat)) 8 (n + ds.length)⟩ else none
  | none => none) := fun n cs x => by kernel_rfl
 have hb : CS.bytes <= 1000 := fW (by kernel_rfl)
 have hl := iT ds
 have hc : eD (ds.length * 8) (av (cZ ds ++ tl)) ++ ([d.enc].flatMap aq.cells).map .dat = av (cZ (ds ++ [d])) := by
  rw [CV, ← hl, List.take_left, lF]
  simp only [av, List.map_append, List.flatMap_cons, List.flatMap_nil, List.append_nil, cZ]
  rfl
 rw [h1, h3, h2]
 dsimp only
 rw [hc]
 have hd : (cZ (ds ++ [d])).length = ds.length * 8 + 8 := by rw [iT]; simp; omega
 rw [if_pos]
 ·rfl
 have e1 : cI (av (cZ (ds ++ [d]))) = false := Rt (by simp [av, hd])
 rw [e1]
 simp only [List.length_singleton, Bool.and_eq_true, Nat.ble_eq, Bool.not_false, and_true]
 refine ⟨⟨?_, ?_⟩, ?_⟩
 ·calc (ds.length + 1) * CS.bytes <= 1000 * 1000 := Nat.mul_le_mul (by omega) hb
   _ <= 140737488355328 := by decide
 ·simp only [jy]; omega
 simp [av, hl]
theorem UN {ds : List aU} {d : aU} {tl : List aq} (hn : ds.length < 1000) (h : fg ds d.nm = none) : KC 52 [hP, .dat d.enc] (hH 2 ds tl) 3 (XQ ⟨.tup [], hH 3 (ds ++ [d]) [], 4⟩) := by
 have h0 := wa (r := 2) (n := ds.length) (by simp only [jy]; omega)
 have h1 := P5 h
 have h2 := Rv (d := d) (tl := tl) hn
 have e : hH 3 (ds ++ [d]) [] = hG 3 (av (cZ (ds ++ [d]))) (cL (ds ++ [d]) 0) (ds.length + 1) := by unfold hH; rw [List.append_nil, List.length_append, List.length_singleton]
 rw [e]
 obtain ⟨nm, ar, ⟨k, tn, ix, la⟩, con, fl⟩ := d
 exact UT h0 h1 h2
theorem Me {ds : List aU} {d : aU} (h : fg ds d.nm = none) : fg (ds ++ [d]) d.nm = some ds.length := by
 induction ds with
 | nil => simp [fg, lS]
 | cons x r ih =>
  simp only [fg, List.cons_append] at h ⊢
  cases he : dt d.nm x.nm with
  | true => rw [he] at h; simp at h
  | false =>
   rw [he] at h
   simp only [Option.map_eq_none_iff] at h
   rw [ih h]
   rfl
theorem G5 (a : List (Go.Value × aq)) (x : Go.Value × aq) : vd a.length (a ++ [x]) = a := by
 induction a with
 | nil => rfl
 | cons y r ih => simp only [List.length_cons, List.cons_append, vd, ih]
theorem uP : ∀ (ds : List aU) (i : Nat), (cL ds i).length = ds.length
 | [], _ => rfl
 | x :: r, i => by simp only [cL, List.length_cons, uP r]
theorem Xk {ds : List aU} {d : aU} {tl : List aq} (hn : ds.length < 1000) (h : fg ds d.nm = none) : KC 56 [hP] (hH 2 (ds ++ [d]) tl) 3 (XQ ⟨.tup [], hH 2 ds (d.cells ++ tl), 3⟩) := by
 have e1 : hH 2 (ds ++ [d]) tl = hG 2 (av (cZ (ds ++ [d]) ++ tl)) (cL (ds ++ [d]) 0) (ds.length + 1) := by unfold hH; rw [List.length_append, List.length_singleton]
 have e2 : hH 2 ds (d.cells ++ tl) = hG 2 (av (cZ (ds ++ [d]) ++ tl)) (cL ds 0) ds.length := by
  unfold hH
  rw [lF, List.append_assoc]
  simp only [cZ, List.append_nil]
 have hw : aI .i64 (Int.ofNat (ds.length + 1) - 1) = Int.ofNat ds.length := by
  rw [dz, show (Int.ofNat (ds.length + 1) - 1 : Int) = Int.ofNat ds.length by simp]
  exact wrap_i64 (by simp only [Int.ofNat_eq_natCast]; omega) (by simp only [Int.ofNat_eq_natCast]; omega)
 have h0 := wa (r := 2) (n := ds.length + 1) (by simp only [jy]; omega)
 have h2 := we (r := 2) (n := ds.length + 1) (k := ds.length) (by omega)
 rw [← hw] at h2
 have hg : (ds ++ [d])[ds.length]? = some d := by simp
 have h3 : ki (env ay.aT) false 9 [.ptr (.out 2) (0 + ds.length * 8)] (some (.cells (av (cZ (ds ++ [d]) ++ tl)))) = some ⟨.dat (sb d.nm), .keep⟩ := by
  have k1 : ∀ cs, ki (env ay.aT) false 9 [.ptr (.out 2) (0 + ds.length * 8)] (some (.cells cs)) = tw (match cs[0 + ds.length * 8]? with
   | some (.own es) => some (.dat (.slice es)) | some .undef => none | some (.agg _) => none | some (.tup _) => none | some a => some a | none => none) := fun cs => by kernel_rfl
  have k2 : (av (cZ (ds ++ [d]) ++ tl))[0 + ds.length * 8]? = some (.dat (sb d.nm)) := by
   rw [lF, List.append_assoc]
   unfold av
   rw [List.getElem?_map, Nat.zero_add, List.getElem?_append_right (by rw [iT]; omega), iT, Nat.sub_self]
   rfl
  rw [k1, k2]
  rfl
 have h4 : kZ (env ay.aT) 80 [.map (.out 0), .dat (sb d.nm)] (some (.map (cL (ds ++ [d]) 0))) = some ⟨.tup [], .set (.map (cL ds 0))⟩ := by
  have k1 : kZ (env ay.aT) 80 [.map (.out 0), .dat (sb d.nm)] (some (.map (cL (ds ++ [d]) 0))) = (match findF .string (.string ⟨⟨d.nm⟩⟩) (cL (ds ++ [d]) 0) 0 with
   | some (some (i, _)) => some ⟨.tup [], .set (.map (vd i (cL (ds ++ [d]) 0)))⟩ | some none => some ⟨.tup [], .set (.map (cL (ds ++ [d]) 0))⟩ | none => none) := by kernel_rfl
  rw [k1, lN, Me h]
  simp only [Option.map_some, Nat.zero_add]
  rw [yh, ← uP ds 0]
  simp only [cL]
  rw [G5]
 have h5 : gz (env ay.aT) 23 none (some (.tmp 26)) none [.win (.out 2) 8 0 (ds.length + 1), iv (aI .i64 (Int.ofNat (ds.length + 1) - 1))] = some ⟨.win (.out 2) 8 0 ds.length, .keep⟩ := by
  rw [hw]
  have k1 : ∀ m n : Nat, gz (env ay.aT) 23 none (some (.tmp 26)) none [.win (.out 2) 8 0 m, iv (Int.ofNat n)] = (if (Nat.ble 0 n && Nat.ble n m && Nat.beq 8 8) = true then some ⟨.win (.out 2) 8 0 n, .keep⟩ else none) := fun m n => by kernel_rfl
  rw [k1, if_pos (by simp)]
 rw [e1, e2]
 obtain ⟨nm, ar, ⟨k, tn, ix, la⟩, con, fl⟩ := d
 exact S2 h0 h2 h3 h4 h5
def sq : Name × aN := (.out 4, .cells [hP])
def bQ : ae := .ptr (.out 4) 0
noncomputable def QR : Hints := ⟨au, DL, ax, rowsOf ax 67⟩
def Pr : ae := .fn (.func 55) [] [bQ]
def VK (H : Heap) (nx : Nat) (l : List aq) (i : Int) : ac := ⟨[(8, iv i), (7, iv (Int.ofNat l.length)), (0, .dat (.slice l)), (1, Pr)], [], H, nx⟩
def VI (H : Heap) (nx : Nat) (l : List aq) : ac := ⟨[(9, bv false), (8, iv (Int.ofNat l.length)), (7, iv (Int.ofNat l.length)), (0, .dat (.slice l)), (1, Pr)], [], H, nx⟩
def VJ (H : Heap) (nx : Nat) (i : Nat) : ac := ⟨[(4, iv (Int.ofNat i))], [], H, nx⟩
def SU (H : Heap) (nx : Nat) : ac := ⟨[(8, iv 0), (7, iv 0), (0, .dat nl), (1, Pr)], [], H, nx⟩
def R0 (H : Heap) (nx : Nat) : ac := ⟨[(9, bv false), (8, iv 0), (7, iv 0), (0, .dat nl), (1, Pr)], [], H, nx⟩
theorem B7 {l : List ep} {t : ep} {H : Heap} {nx i : Nat} {c : Bool} {T : Exit -> aa -> Prop} (hi : i < (aR l).length) (ht : l[i]? = some t) (hc : KC 55 [.dat t.enc, bQ] H nx (XQ ⟨bv c, H, nx⟩))
  (e1 : c = false -> T .normal ((VK H nx (aR l) (aI .i64 (Int.ofNat i + 1))).aw Tryz.f67.ntmps)) (e2 : c = true -> T .ret ((VJ H nx i).aw Tryz.f67.ntmps)) :
  KD (roundOf Tryz.f67 0) T ((VK H nx (aR l) (Int.ofNat i)).aw Tryz.f67.ntmps) := by
 have h1 := bH hi
 have h2 := yg ht
 generalize aR l = es at *
 clear ht hi
 obtain ⟨fnm, k2, nm2, ix2, a2⟩ := t
 rcases a2 with _ | ⟨b, d⟩ <;>
 ·cases c
  ·refine aC [9] [14] (H := QR) (live := qw) (by kernel_rfl) ?_; refine ob h1 ?_; refine oo h2 ?_; refine oh hc ?_; exact oe (e1 rfl)
  refine aC [9] [14] (H := QR) (live := qw) (by kernel_rfl) ?_; refine ob h1 ?_; refine oo h2 ?_; refine oh hc ?_; exact oe (e2 rfl)
theorem GG {l : List aq} {H : Heap} {nx : Nat} {T : Exit -> aa -> Prop} (e1 : T (.exit 0) ((VI H nx l).aw Tryz.f67.ntmps)) :
  KD (roundOf Tryz.f67 0) T ((VK H nx l (Int.ofNat l.length)).aw Tryz.f67.ntmps) := by
 have h1 := bR (i := l.length) (L := l.length) (by omega)
 refine aC [9] [] (H := QR) (live := qw) (by kernel_rfl) ?_; refine ob h1 ?_; exact oe e1
theorem Ee {H : Heap} {nx : Nat} {T : Exit -> aa -> Prop} (e1 : T (.exit 0) ((R0 H nx).aw Tryz.f67.ntmps)) :
  KD (roundOf Tryz.f67 0) T ((SU H nx).aw Tryz.f67.ntmps) := by
 refine aC [] [] (H := QR) (live := qw) (by kernel_rfl) ?_; exact oe e1
theorem Eg {l : List ep} {p : ep -> Bool} {H : Heap} {nx : Nat} {x : aq} {r : List aq} (hl0 : aR l = x :: r) (hg : ∀ v, dL nx v = false -> rT nx ⟨v, H, nx⟩ = ⟨v, H, nx⟩) (hp : ∀ t ∈ l, KC 55 [.dat t.enc, bQ] H nx (XQ ⟨bv (p t), H, nx⟩)) (hb : l.length < 1000000000) :
  KC 67 [.dat (.slice (x :: r)), Pr] H nx (XQ ⟨iv (sO p l 0), H, nx⟩) := by
 have hl : KD (.loop (roundOf Tryz.f67 0)) (fun e s => (e = .exit 0 /\ sO p l 0 = -1 /\ s = (VI H nx (x :: r)).aw Tryz.f67.ntmps) ∨ (e = .ret /\ ∃ i : Nat, sO p l 0 = Int.ofNat i /\ s = (VJ H nx i).aw Tryz.f67.ntmps)) ((VK H nx (x :: r) (Int.ofNat 0)).aw Tryz.f67.ntmps) := by
  rw [← hl0]
  refine cj (St := fun i => (VK H nx (aR l) (Int.ofNat i)).aw Tryz.f67.ntmps) (fun i => sO p l 0 = sO p (l.drop i) i) (aR l).length ?_ ?_ (i := 0) (Nat.zero_le _) rfl
  ·intro i hi hI
   obtain ⟨t, ht, hm⟩ := jY hi
   have ha := yd (p := p) ht
   have hw : aI .i64 (Int.ofNat i + 1) = Int.ofNat (i + 1) := bn (by rw [bw] at hi; omega)
   have hc := hp t hm
   rw [← hI] at ha
   generalize p t = c at hc ha
   refine B7 hi ht hc ?_ ?_
   ·rintro rfl
    rw [hw]
    exact ⟨rfl, ha⟩
   rintro rfl
   exact .inr ⟨rfl, i, ha, rfl⟩
  intro hI
  refine GG (.inl ⟨rfl, ?_, rfl⟩)
  rw [hI, bw, List.drop_length]
  rfl
 have hg1 := hg (iv (sO p l 0)) rfl
 clear hp hb hg
 generalize hj : sO p l 0 = j at hg1 hl
 clear hj hl0
 refine co [] [] (x := .of Tryz.f67 DL qw) ?_; refine lo hl ?_
 rintro ex s (⟨rfl, rfl, rfl⟩ | ⟨rfl, ⟨x0, rfl, rfl⟩⟩) <;>
 ·refine ⟨_, rfl, ?_⟩
  exact br (by kernel_rfl) hg1
theorem Ry {l : List ep} {p : ep -> Bool} {H : Heap} {nx : Nat} (hg : ∀ v, dL nx v = false -> rT nx ⟨v, H, nx⟩ = ⟨v, H, nx⟩) (hp : ∀ t ∈ l, KC 55 [.dat t.enc, bQ] H nx (XQ ⟨bv (p t), H, nx⟩)) (hb : l.length < 1000000000) :
  KC 54 [.dat (sl (aR l)), Pr] H nx (XQ ⟨bv (l.any p), H, nx⟩) := by
 cases l with
 | nil =>
  have h0 : KC 67 [.dat nl, Pr] H nx (XQ ⟨iv (-1), H, nx⟩) := by
   have hg1 := hg (iv (-1)) rfl
   have hl : KD (.loop (roundOf Tryz.f67 0)) (fun e s => (e = .exit 0 /\ s = (R0 H nx).aw Tryz.f67.ntmps)) ((SU H nx).aw Tryz.f67.ntmps) := by
    refine bu (St := fun _ => (SU H nx).aw Tryz.f67.ntmps) 0 (fun i hi => absurd hi (Nat.not_lt_zero i)) ?_ (i := 0) (Nat.le_refl _)
    exact Ee ⟨rfl, rfl⟩
   clear hg hp hb
   refine co [] [] (x := .of Tryz.f67 DL qw) ?_; refine lo hl ?_; rintro ex s ⟨rfl, rfl⟩; refine ⟨_, rfl, ?_⟩
   exact br (by kernel_rfl) hg1
  have hg1 := hg (bv false) rfl
  clear hg hp hb
  refine co [] [] (x := .of Tryz.f54 HU Gk) ?_; refine oh h0 ?_
  exact br (by kernel_rfl) hg1
 | cons t r =>
  have h := Eg (l := t :: r) (x := t.enc) (r := aR r) rfl hg hp hb
  have h3 := B5 (p := p) (l := t :: r) (i := 0)
  have hg1 := hg (bv (!(!((t :: r).any p)))) rfl
  generalize (t :: r).any p = c at h3 hg1
  have hg2 : rT nx ⟨bv (!(!c)), H, nx⟩ = ⟨bv c, H, nx⟩ := by rw [hg1, Bool.not_not]
  clear hg1
  generalize sO p (t :: r) 0 = j at h3 h
  show KC 54 [.dat (.slice (t.enc :: aR r)), Pr] H nx _
  generalize t.enc = x at h
  generalize aR r = xs at h
  clear hp hb hg
  refine co [8] [] (x := .of Tryz.f54 HU Gk) ?_; refine oh h ?_; refine ox h3 ?_
  exact br (by kernel_rfl) hg2
def QS (cs : List aq) (es : List (Go.Value × aq)) (n : Nat) : Heap := sq :: hG 3 (av cs) es n
theorem X8 (v : ae) (cs : List aq) (es : List (Go.Value × aq)) (n : Nat) (hv : dL 5 v = false) : rT 5 ⟨v, QS cs es n, 5⟩ = ⟨v, QS cs es n, 5⟩ := by
 have h1 : eM 5 (QS cs es n) = QS cs es n := rfl
 have h2 : cT 5 (QS cs es n) = false := by simp [cT, QS, hG, pA, kM, dX, dL, sq, hP]; exact ⟨rfl, rfl, rfl⟩
 unfold rT
 dsimp only
 rw [h1, h2, hv]
 rfl
abbrev CJ (g : FuncId) (args : List ae) (cs : List aq) (es : List (Go.Value × aq)) (n : Nat) (v : ae) : Prop := KC g args (QS cs es n) 5 (XQ ⟨v, QS cs es n, 5⟩)
theorem Oz {cs : List aq} {es : List (Go.Value × aq)} {n : Nat} {k ix : Int} {fnm nm : List UInt8} {l : List aq} {c : Bool} (h : CJ 39 [hP, .dat (.agg [i64 k, sb nm, i64 ix, sl l])] cs es n (bv c)) :
  CJ 55 [.dat (.agg [sb fnm, i64 k, sb nm, i64 ix, sl l]), bQ] cs es n (bv (!c)) := by
 have hg := X8 (bv (!c)) cs es n rfl
 rcases l with _ | ⟨z, l⟩ <;>
 ·refine co [] [] (x := .of Tryz.f55 Mw Nu) ?_; refine oh h ?_
  exact br (by kernel_rfl) hg
theorem OV {ds : List aU} {tl : List aq} {l : List ep} (hf : ∀ f ∈ l, f.ty.cE) (hn : l.length < 1000000000) :
  CJ 54 [.dat (sl (aR l)), Pr] (cZ ds ++ tl) (cL ds 0) ds.length (bv (l.any (fun f => !ct ds f.ty))) := by
 refine Ry (p := fun f => !ct ds f.ty) (fun v hv => X8 v _ _ _ hv) ?_ hn
 intro f hm
 have h2 := oQ (r := 3) (m := 5) rfl rfl rfl [sq] (Cz ds tl f.ty (by have := (hf f hm).1; omega))
 obtain ⟨fnm, k2, nm2, ix2, l2⟩ := f
 exact Oz h2
def cellsD (nm : List UInt8) (ar k : Int) (tn : List UInt8) (ix : Int) (la : List aq) (con : Bool) (lb : List aq) : List ae := [.dat (sb nm), iv ar, iv k, .dat (sb tn), iv ix, .dat (sl la), .dat (bl con), .dat (sl lb)]
theorem iJ (l : Nat) (nm : List UInt8) (ar k : Int) (tn : List UInt8) (ix : Int) (la : List aq) (con : Bool) (lb : List aq) :
  qK (env ay.aT) 35 [.ptr (.loc l) 0, .dat (eC nm ar k tn ix la con lb)] (some (.cells (cellsD [] 0 0 [] 0 [] false []))) = some ⟨.undef, .set (.cells (cellsD nm ar k tn ix la con lb))⟩ := by
 rcases la with _ | ⟨x, la⟩ <;> rcases lb with _ | ⟨y, lb⟩ <;> kernel_rfl
theorem B4 (t : Bool) (l : Nat) (nm : List UInt8) (ar k : Int) (tn : List UInt8) (ix : Int) (la : List aq) (con : Bool) (lb : List aq) :
  ki (env ay.aT) t 35 [.ptr (.loc l) 0] (some (.cells (cellsD nm ar k tn ix la con lb))) = some ⟨.dat (eC nm ar k tn ix la con lb), .keep⟩ := by
 cases t <;> rcases la with _ | ⟨x, la⟩ <;> rcases lb with _ | ⟨y, lb⟩ <;> kernel_rfl
def r3 (c : Int) (cs : List aq) (es : List (Go.Value × aq)) (n : Nat) : eW := ⟨iv c, hG 2 (av cs) es n, 3⟩
def r5 (c : Int) (cs : List aq) (es : List (Go.Value × aq)) (n : Nat) : eW := ⟨iv c, sq :: hG 3 (av cs) es n, 5⟩
def Sn (cs cs2 : List aq) (es es2 es3 : List (Go.Value × aq)) (n : Nat) (oex c0 c1 c2 c3 c4 c5 c6 c7 c8 : Bool) : eW :=
 match c0 with
 | false => r3 2 cs es n
 | true => match c1 with
  | true => r3 4 cs es n
  | false => match c2 with
   | true => r3 4 cs es n
   | false => match oex with
    | true => (match c3 with | true => r3 0 cs es n | false => r3 6 cs es n)
    | false => match c4 with
     | false => r3 8 cs es n
     | true => match c5 with
      | false => r3 5 cs es n
      | true => match c6 with
       | true => r5 5 cs2 es3 n
       | false => match c7 with
        | false => r5 0 cs2 es2 (n + 1)
        | true => match c8 with
         | true => r5 10 cs2 es3 n
         | false => r5 0 cs2 es2 (n + 1)
theorem Rf {cs cs2 : List aq} {es es2 es3 : List (Go.Value × aq)} {n : Nat} {nm nm2 : List UInt8} {ar k ix : Int} {con : Bool} {la lb : List aq}
  {onm onm2 : List UInt8} {oar ok oix : Int} {ocon oex : Bool} {ola olb : List aq} {snm snm2 : List UInt8} {sar sk six : Int} {c8 sex : Bool} {sla slb : List aq} {c0 c1 c2 c3 c4 c5 c6 c7 : Bool}
  (hf : dE 49 [hP, .dat (sb nm)] cs es n (.tup [.dat (eC onm oar ok onm2 oix ola ocon olb), bv oex]))
  (hw : ag 50 [.dat (eC nm ar k nm2 ix la con lb)] (bv c0))
  (h1 : bm 6 ar = c1) (h2 : bm 6 (Int.ofNat lb.length) = c2)
  (he : ag 51 [.dat (eC onm oar ok onm2 oix ola ocon olb), .dat (eC nm ar k nm2 ix la con lb)] (bv c3))
  (hl : oI (env ay.aT) 23 [.win (.out 2) 8 0 n] none = some ⟨iv (Int.ofNat n), .keep⟩) (h3 : bm (Int.ofNat n) 60 = c4)
  (hk : dE 39 [hP, .dat (.agg [i64 k, sb nm2, i64 ix, sl la])] cs es n (bv c5)) 
  (hc : ag 53 [.dat (eC nm ar k nm2 ix la con lb)] (.dat (eC nm ar k nm2 ix la con lb)))
  (ha : oex = false -> KC 52 [hP, .dat (eC nm ar k nm2 ix la con lb)] (hG 2 (av cs) es n) 3 (XQ ⟨.tup [], hG 3 (av cs2) es2 (n + 1), 4⟩))
  (hcf : KC 54 [.dat (sl lb), Pr] (sq :: hG 3 (av cs2) es2 (n + 1)) 5 (XQ ⟨bv c6, sq :: hG 3 (av cs2) es2 (n + 1), 5⟩))
  (hr : oex = false -> KC 56 [hP] (sq :: hG 3 (av cs2) es2 (n + 1)) 5 (XQ ⟨.tup [], sq :: hG 3 (av cs2) es3 n, 5⟩))
  (hs : KC 49 [hP, .dat (sb nm2)] (sq :: hG 3 (av cs2) es2 (n + 1)) 5 (XQ ⟨.tup [.dat (eC snm sar sk snm2 six sla c8 slb), bv sex], sq :: hG 3 (av cs2) es2 (n + 1), 5⟩))
  (h4 : aZ k 2 = c7) :
  KC 16 [hP, .dat (eC nm ar k nm2 ix la con lb)] (hG 2 (av cs) es n) 3 (XQ (Sn cs cs2 es es2 es3 n oex c0 c1 c2 c3 c4 c5 c6 c7 c8)) := by
 have q1 := iJ 5 onm oar ok onm2 oix ola ocon olb
 have q2 := B4 false 5 onm oar ok onm2 oix ola ocon olb
 have q4 := iJ 7 snm sar sk snm2 six sla c8 slb
 rcases lb with _ | ⟨y, lb⟩
 ·have z : c2 = false := h2.symm
  subst z
  clear h2
  rcases la with _ | ⟨x, la⟩ <;>
  ·refine cW [23, 45, 73] [100005, 33, 44, 100007] (x := lY.of Tryz.f16 H7 Gp) (by kernel_rfl) ?_; refine oh hf ?_; refine oo q1 ?_; refine on hw ?_
   cases c0
   ·exact fi
   refine ob h1 ?_
   cases c1
   ·cases oex
    ·refine oo hl ?_; refine ox h3 ?_
     cases c4
     ·exact fi
     refine oh hk ?_
     cases c5
     ·exact fi
     refine on hc ?_; refine oh (ha rfl) ?_; refine oh hcf ?_
     cases c6
     ·refine oh hs ?_; refine oo q4 ?_; refine ob h4 ?_
      cases c7
      ·exact fi
      cases c8
      ·exact fi
      refine oh (hr rfl) ?_; exact fi
     refine oh (hr rfl) ?_; exact fi
    refine oo q2 ?_; refine on he ?_
    cases c3 <;>
    ·exact fi
   exact fi
 rcases la with _ | ⟨x, la⟩ <;>
 ·refine cW [23, 28, 45, 73] [100005, 33, 44, 100007] (x := lY.of Tryz.f16 H7 Gp) (by kernel_rfl) ?_; refine oh hf ?_; refine oo q1 ?_; refine on hw ?_
  cases c0
  ·exact fi
  refine ob h1 ?_
  cases c1
  ·refine ob h2 ?_
   cases c2
   ·cases oex
    ·refine oo hl ?_; refine ox h3 ?_
     cases c4
     ·exact fi
     refine oh hk ?_
     cases c5
     ·exact fi
     refine on hc ?_; refine oh (ha rfl) ?_; refine oh hcf ?_
     cases c6
     ·refine oh hs ?_; refine oo q4 ?_; refine ob h4 ?_
      cases c7
      ·exact fi
      cases c8
      ·exact fi
      refine oh (hr rfl) ?_; exact fi
     refine oh (hr rfl) ?_; exact fi
    refine oo q2 ?_; refine on he ?_
    cases c3 <;>
    ·exact fi
   exact fi
  exact fi
/-- What changes the hierarchy serves under another name of the row, beside other objects. -/
theorem Qe {g : FuncId} {args : List ae} {v : ae} {cs cs2 : List aq} {es es2 : List (Go.Value × aq)} {n n2 r m : Nat} (ha : dX 3 args = false) (he : iL (Pn r) args = args) (hv : fS (kP (Pn r) 3 m) v = v) (pre : Heap)
  (h : KC g args (hG 2 (av cs) es n) 3 (XQ ⟨v, hG 2 (av cs2) es2 n2, 3⟩)) :
  KC g args (pre ++ hG r (av cs) es n) m (XQ ⟨v, pre ++ hG r (av cs2) es2 n2, m⟩) := by
 have e1 : ∀ (cs : List aq) (es : List (Go.Value × aq)) (n : Nat) (ρ : Nat -> Nat), ρ 0 = 0 -> ρ 1 = 1 -> ρ 2 = r -> pz ρ (hG 2 (av cs) es n) = hG r (av cs) es n := by
  intro cs es n ρ h0 h1 h2
  simp [hG, pz, re, Af, qf, iL, fS, h0, h1, h2]
 have hf := aB.frame h (Pn r) (heap := pre ++ hG r (av cs) es n) (rest := pre) (next := m) (by rw [e1 _ _ _ _ rfl rfl rfl]; exact List.perm_append_comm) (by rfl) (by simp [cT, hG, pA, kM, dX, dL]; exact ⟨rfl, rfl⟩) (by rfl) ha
 rw [he] at hf
 refine aB.nF hf ?_
 rintro v' h' m' ⟨v0, h1, n1, ⟨rfl, rfl, rfl⟩, rfl, rfl, rfl⟩
 rw [hv, e1 _ _ _ _ rfl rfl rfl]
 exact ⟨_, List.perm_append_comm, rfl, rfl, rfl⟩
theorem vU (p : Nat -> Bool) : ∀ l : List aq, io p (av l) = true
 | [] => rfl
 | d :: r => by show (DT p (.dat d) && io p (av r)) = true; rw [vU p r]; rfl
theorem U2 {g : FuncId} {args : List ae} {h0 : Heap} {c : Int} {cs : List aq} {es : List (Go.Value × aq)} {n : Nat} (h : KC g args h0 3 (XQ (r3 c cs es n))) : KC g args h0 3 (XQ ⟨iv c, hG 3 (av cs) es n, 4⟩) := by
 refine aB.rn h ?_
 rintro v hp m ⟨rfl, rfl, rfl⟩
 refine ⟨[2], rfl, ?_, ?_⟩
 ·simp [r3, hG, cq, JE, MW, io, DT, eI, ir, vU]
  rfl
 simp [r3, hG, cq, pz, re, Af, iL, fS, eI, ir, nh, qz, qf]
 exact ⟨rfl, rfl, rfl⟩
theorem Xw {g : FuncId} {args : List ae} {h0 : Heap} {c : Int} {cs : List aq} {es : List (Go.Value × aq)} {n : Nat} (h : KC g args h0 3 (XQ (r5 c cs es n))) : KC g args h0 3 (XQ ⟨iv c, hG 3 (av cs) es n, 4⟩) := by
 refine aB.rn h ?_
 rintro v hp m ⟨rfl, rfl, rfl⟩
 have e : cq (eI 3 [3]) (r5 c cs es n).heap = hG 3 (av cs) es n := rfl
 refine ⟨[3], rfl, ?_, ?_⟩
 ·rw [e]
  simp [hG, JE, MW, io, DT, eI, ir, vU]
 rw [e]
 simp [hG, pz, re, Af, iL, fS, ir, nh, qz, qf]
 exact ⟨rfl, rfl, rfl⟩
def Ty.nm : Ty -> List UInt8
 | .mk _ n _ _ => n
/-- What Declare answers, and the hierarchy behind it. -/
def gZ (ds : List aU) (d : aU) : Int × List aU :=
 match d.wf with
 | false => (2, ds)
 | true => match bm 6 d.ar with
  | true => (4, ds)
  | false => match bm 6 (Int.ofNat (aR d.fl).length) with
   | true => (4, ds)
   | false => match aL ds d.nm with
    | some o => (match o.eq d with | true => (0, ds) | false => (6, ds))
    | none => match bm (Int.ofNat ds.length) 60 with
     | false => (8, ds)
     | true => match ct ds d.sup with
      | false => (5, ds)
      | true => match d.fl.any (fun f => !ct (ds ++ [d]) f.ty) with
       | true => (5, ds)
       | false => match aZ d.sup.kind 2 with
        | false => (0, ds ++ [d])
        | true => match (jm (aL (ds ++ [d]) d.sup.nm)).con with
         | true => (10, ds)
         | false => (0, ds ++ [d])
theorem sQ : aU.zero.cE := ⟨⟨by decide, by simp [aU.zero, Ty.dD, cJ, aZ]⟩, by simp [aU.zero], by decide⟩
theorem lO : ∀ {ds : List aU} {nm : List UInt8} {o : aU}, aL ds nm = some o -> o ∈ ds
 | [], nm, o, h => by simp [aL] at h
 | d :: r, nm, o, h => by
  unfold aL at h
  split at h
  ·simp at h; subst h; simp
  exact List.mem_cons_of_mem _ (lO h)
theorem J4 {ds : List aU} {nm : List UInt8} (h : aL ds nm = none) : fg ds nm = none := by
 cases hp : fg ds nm with
 | none => rfl
 | some k =>
  obtain ⟨d, _, h2, _⟩ := jU hp
  rw [h2] at h; simp at h
theorem Ox {ds : List aU} {d : aU} {tl : List aq} (hd : d.cE) (hds : ∀ o ∈ ds, o.cE) (hn : ds.length < 999) :
  KC 16 [hP, .dat d.enc] (hH 2 ds tl) 3 (XQ (Sn (cZ ds ++ tl) (cZ (ds ++ [d]) ++ []) (cL ds 0) (cL (ds ++ [d]) 0) (cL ds 0) ds.length (fY (aL ds d.nm)) d.wf (bm 6 d.ar) (bm 6 (Int.ofNat (aR d.fl).length)) ((jm (aL ds d.nm)).eq d) (bm (Int.ofNat ds.length) 60) (ct ds d.sup) (d.fl.any (fun f => !ct (ds ++ [d]) f.ty)) (aZ d.sup.kind 2) (jm (aL (ds ++ [d]) d.sup.nm)).con)) := by
 have hf : dE 49 [hP, .dat (sb d.nm)] (cZ ds ++ tl) (cL ds 0) ds.length (.tup [.dat (jm (aL ds d.nm)).enc, bv (fY (aL ds d.nm))]) := pv ds tl d.nm
 have hw := Cy hd
 have ho : (jm (aL ds d.nm)).cE := by
  cases h : aL ds d.nm with
  | none => exact sQ
  | some o => exact hds o (lO h)
 have he := CB ho hd
 have hl := wa (r := 2) (n := ds.length) (by simp only [jy]; omega)
 have hk : dE 39 [hP, .dat d.sup.enc] (cZ ds ++ tl) (cL ds 0) ds.length (bv (ct ds d.sup)) := Cz ds tl d.sup (by have := hd.1.1; omega)
 have hc := vk hd
 have hpos : fY (aL ds d.nm) = false -> fg ds d.nm = none := by
  intro h
  cases hf : aL ds d.nm with
  | none => exact J4 hf
  | some o => rw [hf] at h; simp [fY] at h
 have ha := fun h => UN (tl := tl) (by omega) (hpos h)
 have hcf := OV (ds := ds ++ [d]) (tl := []) hd.2.1 hd.2.2
 have hr : fY (aL ds d.nm) = false -> KC 56 [hP] (sq :: hG 3 (av (cZ (ds ++ [d]) ++ [])) (cL (ds ++ [d]) 0) (ds.length + 1)) 5 (XQ ⟨.tup [], sq :: hG 3 (av (cZ (ds ++ [d]) ++ [])) (cL ds 0) ds.length, 5⟩) := by
  intro h
  have h2 := Xk (tl := []) (by omega) (hpos h)
  have e2 : hH 2 ds (d.cells ++ []) = hG 2 (av (cZ (ds ++ [d]) ++ [])) (cL ds 0) ds.length := by
   unfold hH
   rw [lF]
   simp only [cZ, List.append_nil]
  rw [e2] at h2
  have e1 : hH 2 (ds ++ [d]) [] = hG 2 (av (cZ (ds ++ [d]) ++ [])) (cL (ds ++ [d]) 0) (ds.length + 1) := by unfold hH; rw [List.length_append, List.length_singleton]
  rw [e1] at h2
  exact Qe (r := 3) (m := 5) rfl rfl rfl [sq] h2
 have hs := UL 3 5 [sq] (ds ++ [d]) [] d.sup.nm
 have el : (ds ++ [d]).length = ds.length + 1 := by simp
 have e3 : hH 3 (ds ++ [d]) [] = hG 3 (av (cZ (ds ++ [d]) ++ [])) (cL (ds ++ [d]) 0) (ds.length + 1) := by unfold hH; rw [el]
 rw [e3] at hs
 simp only [e3] at ha
 unfold CJ QS at hcf
 rw [el] at hcf
 generalize (jm (aL ds d.nm)).eq d = c3 at he ⊢
 generalize d.fl.any (fun f => !ct (ds ++ [d]) f.ty) = c6 at hcf ⊢
 generalize d.wf = c0 at hw ⊢
 generalize ct ds d.sup = c5 at hk ⊢
 generalize jm (aL ds d.nm) = o at *
 generalize jm (aL (ds ++ [d]) d.sup.nm) = so at *
 generalize fY (aL (ds ++ [d]) d.sup.nm) = sb at *
 generalize cZ (ds ++ [d]) ++ [] = cs2 at *
 generalize cL (ds ++ [d]) 0 = es2 at *
 have e0 : hH 2 ds tl = hG 2 (av (cZ ds ++ tl)) (cL ds 0) ds.length := rfl
 rw [e0] at ha ⊢
 generalize cL ds 0 = es at *
 generalize cZ ds ++ tl = cs at *
 obtain ⟨nm, ar, ⟨k, tn, ix, la⟩, con, fl⟩ := d
 obtain ⟨onm, oar, ⟨ok, otn, oix, ola⟩, ocon, ofl⟩ := o
 obtain ⟨snm, sar, ⟨sk, stn, six, sla⟩, scon, sfl⟩ := so
 exact Rf hf hw rfl rfl he hl rfl hk hc ha hcf hr hs rfl
theorem NM (r : Nat) (ds : List aU) (d : aU) : hH r (ds ++ [d]) [] = hG r (av (cZ (ds ++ [d]) ++ [])) (cL (ds ++ [d]) 0) (ds.length + 1) := by unfold hH; rw [List.length_append, List.length_singleton]
theorem NL (r : Nat) (ds : List aU) (d : aU) : hH r ds d.cells = hG r (av (cZ (ds ++ [d]) ++ [])) (cL ds 0) ds.length := by
 unfold hH
 rw [lF]
 simp only [cZ, List.append_nil]
theorem Ku {ds : List aU} {d : aU} {tl : List aq} (hd : d.cE) (hds : ∀ o ∈ ds, o.cE) (hn : ds.length < 999) :
  ∃ tl2, KC 16 [hP, .dat d.enc] (hH 2 ds tl) 3 (XQ ⟨iv (gZ ds d).1, hH 3 (gZ ds d).2 tl2, 4⟩) := by
 have h := Ox (tl := tl) hd hds hn
 unfold gZ
 generalize d.wf = c0 at h ⊢
 cases c0 with
 | false => exact ⟨tl, U2 h⟩
 | true =>
  generalize bm 6 d.ar = c1 at h ⊢
  cases c1
  ·generalize bm 6 (Int.ofNat (aR d.fl).length) = c2 at h ⊢
   cases c2
   ·generalize aL ds d.nm = fo at h ⊢
    cases fo with
    | some o =>
     dsimp only [jm, fY] at h ⊢
     generalize o.eq d = c3 at h ⊢
     cases c3 <;>
     ·exact ⟨tl, U2 h⟩
    | none =>
     dsimp only [jm, fY] at h ⊢
     generalize bm (Int.ofNat ds.length) 60 = c4 at h ⊢
     cases c4 with
     | false => exact ⟨tl, U2 h⟩
     | true =>
      generalize ct ds d.sup = c5 at h ⊢
      cases c5 with
      | false => exact ⟨tl, U2 h⟩
      | true =>
       generalize d.fl.any (fun f => !ct (ds ++ [d]) f.ty) = c6 at h ⊢
       cases c6
       ·generalize aZ d.sup.kind 2 = c7 at h ⊢
        cases c7 with
        | false =>
         dsimp only
         exact ⟨[], by rw [NM]; exact Xw h⟩
        | true =>
         dsimp only [jm] at h ⊢
         generalize (match aL (ds ++ [d]) d.sup.nm with | some d => d | none => aU.zero).con = c8 at h ⊢
         cases c8
         ·dsimp only
          exact ⟨[], by rw [NM]; exact Xw h⟩
         dsimp only
         exact ⟨d.cells, by rw [NL]; exact Xw h⟩
       dsimp only
       exact ⟨d.cells, by rw [NL]; exact Xw h⟩
   exact ⟨tl, U2 h⟩
  exact ⟨tl, U2 h⟩
def yS (nm : List UInt8) : aU := ⟨nm, 0, .mk 0 [] 0 [], true, []⟩
def cC : List aU := eU.map yS
theorem Xm : KC 44 [] [] 0 (XQ ⟨hP, hH 2 cC [], 3⟩) := by
 have h : KC 44 [] [] 0 (XQ ⟨hP, hG 5 (av (cZ cC ++ [])) (cL cC 0) 4, 6⟩) := oK _ _ _ _ _ (by kernel_rfl)
 refine aB.rn h ?_
 rintro v hp m ⟨rfl, rfl, rfl⟩
 exact ⟨[0, 1, 5], rfl, rfl, rfl, rfl, rfl⟩
def aH : List aU -> List aq
 | [] => []
 | d :: r => d.enc :: aH r
theorem kg : ∀ l : List aU, aH l = l.map aU.enc
 | [] => by simp [aH]
 | t :: r => by simp [aH, kg r]
theorem aW (l : List aU) : (aH l).length = l.length := by simp [kg]
theorem Oj {l : List aU} {i : Nat} {t : aU} (h : l[i]? = some t) : (aH l)[i]? = some t.enc := by simp [kg, h]
theorem OC (d : aU) : d.enc.cells.length = 8 := by obtain ⟨a, b, ⟨e, f, g, h⟩, i, j⟩ := d; rfl
theorem Oi {l : List aU} {d : aq} (h : d ∈ aH l) : ∃ t, d = aU.enc t := by
 rw [kg] at h
 obtain ⟨t, _, rfl⟩ := List.mem_map.1 h
 exact ⟨t, rfl⟩
theorem si (a b : List aU) : aH (a ++ b) = aH a ++ aH b := by simp [kg]
theorem kf (l : List aU) : sizedB 8 (aH l) = true := jI (fun d hd => by obtain ⟨t, rfl⟩ := Oi hd; exact OC t)
theorem yE (l : List aU) : ff (aH l) = false := by
 cases l with
 | nil => rfl
 | cons t r => rfl
theorem Fk : Go.Tp.elemOf (env ay.aT) 23 = some CS := by kernel_rfl
theorem nq : CS.size = 8 := by kernel_rfl
theorem CE {pre : List aU} {t : aU} (hl : pre.length < 1000000000) : dc (env ay.aT) false 23 [.own (aH pre), .dat (.slice [t.enc])] none = some ⟨.own (aH (pre ++ [t])), .keep⟩ := by
 rw [si]
 refine sE (i := CS) (ds := [t.enc]) (k := 7) Fk rfl nq ?_ ?_ (by kernel_rfl) ?_ ?_ ?_ (by simp)
 ·exact kf [t]
 ·exact kf pre
 ·have h1 : CS.bytes <= 1000 := fW (by kernel_rfl)
  rw [aW]
  calc (pre.length + 1) * CS.bytes <= 1000000000 * 1000 := Nat.mul_le_mul (by omega) h1
   _ <= 140737488355328 := by decide
 ·rw [aW]; simp [jy]; omega
 unfold iF
 rw [show aH pre ++ [t.enc] = aH (pre ++ [t]) by rw [si]; rfl, yE]
def BB : List aU -> ae
 | [] => .dat nl
 | t :: r => .own (aH (t :: r))
noncomputable def NQ : Hints := ⟨au, H5, ax, rowsOf ax 19⟩
def VH (cs : List aq) (es : List (Go.Value × aq)) (n : Nat) (pre : List aU) (i : Int) : ac := ⟨[(11, iv i), (10, iv (Int.ofNat n)), (9, .win (.out 2) 8 0 n), (3, BB pre)], [], hG 2 (av cs) es n, 3⟩
def VG (cs : List aq) (es : List (Go.Value × aq)) (n : Nat) (pre : List aU) (i : Int) : ac := ⟨[(12, bv false), (11, iv i), (10, iv (Int.ofNat n)), (9, .win (.out 2) 8 0 n), (3, BB pre)], [], hG 2 (av cs) es n, 3⟩
theorem EL {cs : List aq} {es : List (Go.Value × aq)} {n i : Nat} {pre : List aU} {t : aU} (hi : i < n) (h2 : aK (env ay.aT) 23 [.win (.out 2) 8 0 n, iv (Int.ofNat i)] = some ⟨.ptr (.out 2) (0 + i * 8), .keep⟩)
  (h3 : ki (env ay.aT) false 35 [.ptr (.out 2) (0 + i * 8)] (some (.cells (av cs))) = some ⟨.dat t.enc, .keep⟩) (hc : ag 53 [.dat t.enc] (.dat t.enc)) (hp : pre.length < 1000000000) {T : Exit -> aa -> Prop}
  (e : T .normal ((VH cs es n (pre ++ [t]) (aI .i64 (Int.ofNat i + 1))).aw Tryz.f19.ntmps)) :
  KD (roundOf Tryz.f19 0) T ((VH cs es n pre (Int.ofNat i)).aw Tryz.f19.ntmps) := by
 have h1 := bH hi
 have h4 := CE (t := t) hp
 clear hi hp
 obtain ⟨nm, ar, ⟨k, tn, ix, la⟩, con, fl⟩ := t
 rcases la with _ | ⟨x, la⟩ <;>
 ·rcases fl with _ | ⟨y, fl⟩ <;>
  ·rcases pre with _ | ⟨z, pre⟩ <;>
   ·refine aC [12] [13, 14, 19] (H := NQ) (live := BX) (by kernel_rfl) ?_; refine ob h1 ?_; refine oo h2 ?_; refine oo h3 ?_; refine on hc ?_; refine oo h4 ?_; exact oe e
theorem G6 {cs : List aq} {es : List (Go.Value × aq)} {n : Nat} {pre : List aU} {T : Exit -> aa -> Prop} (e : T (.exit 0) ((VG cs es n pre (Int.ofNat n)).aw Tryz.f19.ntmps)) :
  KD (roundOf Tryz.f19 0) T ((VH cs es n pre (Int.ofNat n)).aw Tryz.f19.ntmps) := by
 have h1 := bR (i := n) (L := n) (by omega)
 rcases pre with _ | ⟨z, pre⟩ <;>
 ·refine aC [12] [] (H := NQ) (live := BX) (by kernel_rfl) ?_; refine ob h1 ?_; exact oe e
theorem Kk {cs : List aq} {es : List (Go.Value × aq)} {n : Nat} {pre : List aU} (h0 : oI (env ay.aT) 23 [.win (.out 2) 8 0 n] none = some ⟨iv (Int.ofNat n), .keep⟩)
  (hl : KD (.loop (roundOf Tryz.f19 0)) (fun e s => e = .exit 0 /\ s = (VG cs es n pre (Int.ofNat n)).aw Tryz.f19.ntmps) ((VH cs es n [] (Int.ofNat 0)).aw Tryz.f19.ntmps)) : dE 19 [hP] cs es n (BB pre) := by
 rcases pre with _ | ⟨z, pre⟩ <;>
 ·refine cW [] [10] (x := lY.of Tryz.f19 H5 BX) (by kernel_rfl) ?_; refine oo h0 ?_; refine lo hl ?_; rintro ex s ⟨rfl, rfl⟩; refine ⟨_, rfl, ?_⟩; exact fi
theorem IW (r m : Nat) (pre : Heap) {ds : List aU} {tl : List aq} (hds : ∀ o ∈ ds, o.cE) (hn : ds.length < 1000) : KC 19 [hP] (pre ++ hH r ds tl) m (XQ ⟨BB ds, pre ++ hH r ds tl, m⟩) := by
 have h : dE 19 [hP] (cZ ds ++ tl) (cL ds 0) ds.length (BB ds) := by
  refine Kk (wa (by simp only [jy]; omega)) ?_
  refine bu (St := fun i => (VH (cZ ds ++ tl) (cL ds 0) ds.length (ds.take i) (Int.ofNat i)).aw Tryz.f19.ntmps) ds.length ?_ ?_ (i := 0) (Nat.zero_le _)
  ·intro i hi
   have ht : ds[i]? = some ds[i] := List.getElem?_eq_getElem hi
   have hm : ds[i] ∈ ds := List.getElem_mem hi
   generalize ds[i] = t at ht hm
   refine EL hi (we hi) (D5 ht) (vk (hds t hm)) (by rw [List.length_take]; omega) ?_
   rw [bn (by omega), ← eS ht]
   rfl
  refine G6 ⟨rfl, ?_⟩
  rw [List.take_length]
 cases ds with
 | nil => exact oQ rfl rfl rfl pre h
 | cons d ds => exact oQ rfl rfl rfl pre h
theorem AH (i : Int) : ag 47 [iv i] (.dat (Ty.mk 5 [] i []).enc) := by
 refine co [] [] (x := .of Tryz.f47 Mz Nx) ?_; exact fi
theorem yq : ag 82 [] (.dat (Ty.mk 0 [] 0 []).enc) := by
 refine co [] [] (x := .of Tryz.f82 Mq No) ?_; exact fi
theorem QW : ag 86 [] (.dat (Ty.mk 1 [] 0 []).enc) := by
 refine co [] [] (x := .of Tryz.f86 Mn Nl) ?_; exact fi
theorem nW (nm : List UInt8) : ag 46 [.dat (sb nm), .dat nl] (.dat (Ty.mk 2 nm 0 []).enc) := by
 refine co [] [] (x := .of Tryz.f46 HX Gm) ?_; exact fi
theorem yp (nm : List UInt8) (x : aq) (l : List aq) : ag 46 [.dat (sb nm), .dat (.slice (x :: l))] (.dat (.agg [i64 2, sb nm, i64 0, .slice (x :: l)])) := by
 refine co [] [] (x := .of Tryz.f46 HX Gm) ?_; exact fi
theorem IJ (x : aq) (l : List aq) : ag 84 [.dat (.slice (x :: l))] (.dat (.agg [i64 4, sb [], i64 0, .slice (x :: l)])) := by
 refine co [] [] (x := .of Tryz.f84 Mp Nn) ?_; exact fi
theorem nX (t u : Ty) : ag 85 [.dat t.enc, .dat u.enc] (.dat (Ty.mk 6 [] 0 [t, u]).enc) := by
 refine co [] [] (x := .of Tryz.f85 Mo Nm) ?_
 obtain ⟨v0, v1, v2, v3⟩ := t
 rcases v3 with _ | ⟨v10, v11⟩
 ·obtain ⟨v4, v5, v6, v7⟩ := u
  rcases v7 with _ | ⟨v8, v9⟩ <;>
  ·exact fi
 obtain ⟨v12, v13, v14, v15⟩ := u
 rcases v15 with _ | ⟨v16, v17⟩ <;>
 ·exact fi
theorem Od {L : List (List UInt8)} {i : Nat} {b : List UInt8} (h : L[i]? = some b) : (jd L)[i]? = some (sb b) := by simp [jd, h, sb]
noncomputable def XY : TI := match Go.Tp.elemOf (env ay.aT) 60 with | some t => t | none => default
theorem SG : Go.Tp.elemOf (env ay.aT) 60 = some XY := by kernel_rfl
theorem CR : XY.size = 1 := by kernel_rfl
theorem V4 {L : List (List UInt8)} {i : Nat} {b : List UInt8} (h : L[i]? = some b) : aK (env ay.aT) 60 [.dat (.slice (jd L)), .dat (.flat (.int .i64 (Int.ofNat i)))] = some ⟨.ref [sb b], .keep⟩ :=
 sC SG rfl (Od h) (by rw [CR]; rfl) (by rw [CR]; decide)
theorem rR {l : List aU} {i : Nat} {t : aU} (h : l[i]? = some t) : aK (env ay.aT) 23 [.dat (.slice (aH l)), .dat (.flat (.int .i64 (Int.ofNat i)))] = some ⟨.ref t.cells, .keep⟩ :=
 sC Fk rfl (Oj h) (by rw [nq]; exact OC t) (by rw [nq]; decide)
theorem M6 {l ds : List aq} {k k2 : Int} {r v dp : Int} {b : List UInt8} (h1 : KC 64 [eB, iv (aI .i64 (Int.ofNat ds.length + 4))] (eY l k) 1 (XQ ⟨iv r, eY l k2, 1⟩)) (h2 : bm r 4 = true)
  (hi : aK (env ay.aT) 60 [.dat (.slice (jd eU)), .dat (.flat (.int .i64 r))] = some ⟨.ref [sb b], .keep⟩) :
  KC 83 [eB, .dat (.slice ds), iv dp, iv v] (eY l k) 1 (XQ ⟨.dat (Ty.mk 2 b 0 []).enc, eY l k2, 1⟩) := by
 have h3 := nW b
 refine co [19] [22] (x := .of Tryz.f83 DK xW) ?_; refine oh h1 ?_; refine ob h2 ?_; refine oo hi ?_; refine on h3 ?_; exact fi
noncomputable def NK : Hints := ⟨au, DK, ax, rowsOf ax 83⟩
def Td (lo : Heap) (nm : List UInt8) (pre : List Ty) : Heap := (.loc 11, .cells [iv 2, .dat (sb nm), iv 0, Mf pre]) :: lo
def Gg (cs : List ae) : Heap := [(.loc 10, .cells cs), (.loc 8, .cells [iv 0, .dat (sb []), iv 0, .dat nl])]
def Li (lo : Heap) (l ds : List aq) (dp v K i : Int) : ac := ⟨[(12, iv i), (11, .ptr (.loc 11) 0), (10, .ptr (.loc 10) 0), (8, .ptr (.loc 8) 0), (0, eB), (1, .dat (.slice ds)), (2, iv dp), (3, iv v)], lo, eY l K, 1⟩
def RO (lo : Heap) (l ds : List aq) (dp v K i : Int) : ac := ⟨[(36, bv false), (12, iv i), (11, .ptr (.loc 11) 0), (10, .ptr (.loc 10) 0), (8, .ptr (.loc 8) 0), (0, eB), (1, .dat (.slice ds)), (2, iv dp), (3, iv v)], lo, eY l K, 1⟩
theorem M0 {l ds : List aq} {dp v K K2 ar i kk ix : Int} {nm tn : List UInt8} {con : Bool} {la lb : List aq} {pre : List Ty} {t : Ty} (h1 : bm i ar = true)
  (h2 : KC 65 [eB, .dat (.slice ds), iv (aI .i64 (dp - 1)), iv v] (eY l K) 1 (XQ ⟨.dat t.enc, eY l K2, 1⟩)) (hp : pre.length < 1000000000) {T : Exit -> aa -> Prop}
  (e : T .normal ((Li (Td (Gg (cellsD nm ar kk tn ix la con lb)) nm (pre ++ [t])) l ds dp v K2 (aI .i64 (i + 1))).aw Tryz.f83.ntmps)) :
  KD (roundOf Tryz.f83 0) T ((Li (Td (Gg (cellsD nm ar kk tn ix la con lb)) nm pre) l ds dp v K i).aw Tryz.f83.ntmps) := by
 have h3 := Pf (t := t) hp
 clear hp
 rcases pre with _ | ⟨d, r⟩ <;>
 ·refine aC [36] [48] (H := NK) (live := xW) (by kernel_rfl) ?_; refine ob h1 ?_; refine oh h2 ?_
  obtain ⟨v0, v1, v2, v3⟩ := t
  refine oo h3 ?_; exact oe e
theorem Qc {l ds : List aq} {dp v K ar i kk ix : Int} {nm tn : List UInt8} {con : Bool} {la lb : List aq} {pre : List Ty} (h1 : bm i ar = false) {T : Exit -> aa -> Prop}
  (e : T (.exit 0) ((RO (Td (Gg (cellsD nm ar kk tn ix la con lb)) nm pre) l ds dp v K i).aw Tryz.f83.ntmps)) :
  KD (roundOf Tryz.f83 0) T ((Li (Td (Gg (cellsD nm ar kk tn ix la con lb)) nm pre) l ds dp v K i).aw Tryz.f83.ntmps) := by
 rcases pre with _ | ⟨d, r⟩ <;>
 ·refine aC [36] [] (H := NK) (live := xW) (by kernel_rfl) ?_; refine ob h1 ?_; exact oe e
theorem M7 {l : List aq} {ds : List aq} {k k2 k3 : Int} {r v dp : Int} {nm tn : List UInt8} {ar kk ix ie : Int} {con : Bool} {la lb : List aq} {ts : List Ty} (h1 : KC 64 [eB, iv (aI .i64 (Int.ofNat ds.length + 4))] (eY l k) 1 (XQ ⟨iv r, eY l k2, 1⟩)) (h2 : bm r 4 = false)
  (hi : aK (env ay.aT) 23 [.dat (.slice ds), .dat (.flat (.int .i64 (aI .i64 (r - 4))))] = some ⟨.ref [sb nm, i64 ar, i64 kk, sb tn, i64 ix, sl la, bl con, sl lb], .keep⟩)
  (hl : KD (.loop (roundOf Tryz.f83 0)) (fun e s => e = .exit 0 /\ s = (RO (Td (Gg (cellsD nm ar kk tn ix la con lb)) nm ts) l ds dp v k3 ie).aw Tryz.f83.ntmps) ((Li (Td (Gg (cellsD nm ar kk tn ix la con lb)) nm []) l ds dp v k2 0).aw Tryz.f83.ntmps)) :
  KC 83 [eB, .dat (.slice ds), iv dp, iv v] (eY l k) 1 (XQ ⟨.dat (Ty.mk 2 nm 0 ts).enc, eY l k3, 1⟩) := by
 have q1 := iJ 10 nm ar kk tn ix la con lb
 rcases ts with _ | ⟨t, ts⟩ <;>
 ·refine co [19] [28, 100010] (x := .of Tryz.f83 DK xW) ?_; refine oh h1 ?_; refine ob h2 ?_; refine oo hi ?_; refine oo q1 ?_; refine lo hl ?_; rintro ex s ⟨rfl, rfl⟩; refine ⟨_, rfl, ?_⟩; exact fi
theorem Ru {l ds : List aq} {k k2 k3 r v dp i : Int} (h1 : KC 64 [eB, iv 6] (eY l k) 1 (XQ ⟨iv r, eY l k2, 1⟩)) (h2 : bm r 2 = true) (h3 : bm 0 v = true) (h4 : KC 64 [eB, iv v] (eY l k2) 1 (XQ ⟨iv i, eY l k3, 1⟩)) :
  KC 65 [eB, .dat (.slice ds), iv dp, iv v] (eY l k) 1 (XQ ⟨.dat (Ty.mk 5 [] i []).enc, eY l k3, 1⟩) := by
 have h5 := AH i
 refine co [14, 17] [] (x := .of Tryz.f65 uK qx) ?_; refine oh h1 ?_; refine ob h2 ?_; refine ob h3 ?_; refine oh h4 ?_; refine on h5 ?_; exact fi
theorem Pc {l ds : List aq} {k k2 k3 r v dp i : Int} {b : List UInt8} {c2 c3 : Bool} (h1 : KC 64 [eB, iv 6] (eY l k) 1 (XQ ⟨iv r, eY l k2, 1⟩)) (h2 : bm r 2 = c2) (h3 : bm 0 v = c3) (hc : c2 = true -> c3 = false) (hd : bm 0 dp = false) (h4 : KC 64 [eB, iv 4] (eY l k2) 1 (XQ ⟨iv i, eY l k3, 1⟩))
  (hi : aK (env ay.aT) 60 [.dat (.slice (jd eU)), .dat (.flat (.int .i64 i))] = some ⟨.ref [sb b], .keep⟩) :
  KC 65 [eB, .dat (.slice ds), iv dp, iv v] (eY l k) 1 (XQ ⟨.dat (Ty.mk 2 b 0 []).enc, eY l k3, 1⟩) := by
 have h5 := nW b
 cases c2
 ·refine co [14, 25] [29] (x := .of Tryz.f65 uK qx) ?_; refine oh h1 ?_; refine ob h2 ?_; refine ox hd ?_; refine oh h4 ?_; refine oo hi ?_; refine on h5 ?_; exact fi
 obtain rfl := hc rfl
 refine co [14, 17, 25] [29] (x := .of Tryz.f65 uK qx) ?_; refine oh h1 ?_; refine ob h2 ?_; refine ob h3 ?_; refine ox hd ?_; refine oh h4 ?_; refine oo hi ?_; refine on h5 ?_; exact fi
theorem Kz {l ds : List aq} {k k2 k3 r v dp : Int} {t : Ty} {c2 c3 : Bool} (h1 : KC 64 [eB, iv 6] (eY l k) 1 (XQ ⟨iv r, eY l k2, 1⟩)) (h2 : bm r 2 = c2) (h3 : bm 0 v = c3) (hc : c2 = true -> c3 = false) (hd : bm 0 dp = true) (h4 : bm r 4 = true)
  (h5 : KC 83 [eB, .dat (.slice ds), iv dp, iv v] (eY l k2) 1 (XQ ⟨.dat t.enc, eY l k3, 1⟩)) :
  KC 65 [eB, .dat (.slice ds), iv dp, iv v] (eY l k) 1 (XQ ⟨.dat t.enc, eY l k3, 1⟩) := by
 obtain ⟨ek, en, ei, ea⟩ := t
 cases c2
 ·rcases ea with _ | ⟨x, ea⟩ <;>
  ·refine co [14, 25, 34] [] (x := .of Tryz.f65 uK qx) ?_; refine oh h1 ?_; refine ob h2 ?_; refine ox hd ?_; refine ob h4 ?_; refine oh h5 ?_; exact fi
 obtain rfl := hc rfl
 rcases ea with _ | ⟨x, ea⟩ <;>
 ·refine co [14, 17, 25, 34] [] (x := .of Tryz.f65 uK qx) ?_; refine oh h1 ?_; refine ob h2 ?_; refine ob h3 ?_; refine ox hd ?_; refine ob h4 ?_; refine oh h5 ?_; exact fi
theorem O9 {l ds : List aq} {k k2 k3 r v dp : Int} {t : Ty} (h1 : KC 64 [eB, iv 6] (eY l k) 1 (XQ ⟨iv r, eY l k2, 1⟩)) (h2 : bm r 2 = false) (hd : bm 0 dp = true) (h4 : bm r 4 = false)
  (h5 : KC 48 [eB, .dat (.slice ds), iv (aI .i64 (dp - 1)), iv 0] (eY l k2) 1 (XQ ⟨.dat t.enc, eY l k3, 1⟩)) :
  KC 65 [eB, .dat (.slice ds), iv dp, iv v] (eY l k) 1 (XQ ⟨.dat t.enc, eY l k3, 1⟩) := by
 obtain ⟨ek, en, ei, ea⟩ := t
 rcases ea with _ | ⟨x, ea⟩ <;>
 ·refine co [14, 25, 34] [] (x := .of Tryz.f65 uK qx) ?_; refine oh h1 ?_; refine ob h2 ?_; refine ox hd ?_; refine ob h4 ?_; refine oh h5 ?_; exact fi
abbrev bD (l : List aq) (k n r k2 : Int) : Prop := KC 64 [eB, iv n] (eY l k) 1 (XQ ⟨iv r, eY l k2, 1⟩)
abbrev dB (l ds : List aq) (dp v k : Int) (d : aq) (k2 : Int) : Prop := KC 48 [eB, .dat (.slice ds), iv dp, iv v] (eY l k) 1 (XQ ⟨.dat d, eY l k2, 1⟩)
abbrev ur (l ds : List aq) (dp v k : Int) (d : aq) (k2 : Int) : Prop := KC 83 [eB, .dat (.slice ds), iv dp, iv v] (eY l k) 1 (XQ ⟨.dat d, eY l k2, 1⟩)
theorem wG {l ds : List aq} {k k2 k3 v dp i : Int} {c : Bool} {b : List UInt8} (h1 : bD l k 14 0 k2) (h2 : bm 0 dp = c) (h4 : bD l k2 4 i k3)
  (hi : aK (env ay.aT) 60 [.dat (.slice (jd eU)), .dat (.flat (.int .i64 i))] = some ⟨.ref [sb b], .keep⟩) : dB l ds dp v k (Ty.mk 2 b 0 []).enc k3 := by
 have h5 := nW b
 refine co [17] [29] (x := .of Tryz.f48 eZ dC) ?_; refine oh h1 ?_; refine ox h2 ?_
 cases c <;>
 ·refine oh h4 ?_; refine oo hi ?_; refine on h5 ?_; exact fi
theorem wF {l ds : List aq} {k k2 k3 v dp i : Int} {c : Bool} {b : List UInt8} (h1 : bD l k 14 1 k2) (h2 : bm 0 dp = c) (h4 : bD l k2 4 i k3)
  (hi : aK (env ay.aT) 60 [.dat (.slice (jd eU)), .dat (.flat (.int .i64 i))] = some ⟨.ref [sb b], .keep⟩) : dB l ds dp v k (Ty.mk 2 b 0 []).enc k3 := by
 have h5 := nW b
 refine co [17] [29] (x := .of Tryz.f48 eZ dC) ?_; refine oh h1 ?_; refine ox h2 ?_
 cases c <;>
 ·refine oh h4 ?_; refine oo hi ?_; refine on h5 ?_; exact fi
theorem I6 {l ds : List aq} {k k2 k3 v dp i r : Int} {b : List UInt8} (h1 : bD l k 14 r k2) (h2 : bm 0 dp = false) (h3 : bm 5 r = true) (h4 : bD l k2 4 i k3)
  (hi : aK (env ay.aT) 60 [.dat (.slice (jd eU)), .dat (.flat (.int .i64 i))] = some ⟨.ref [sb b], .keep⟩) : dB l ds dp v k (Ty.mk 2 b 0 []).enc k3 := by
 have h5 := nW b
 refine co [17, 20] [29] (x := .of Tryz.f48 eZ dC) ?_; refine oh h1 ?_; refine ox h2 ?_; refine ob h3 ?_; refine oh h4 ?_; refine oo hi ?_; refine on h5 ?_; exact fi
theorem CU {l ds : List aq} {k k2 v dp : Int} {c : Bool} (h1 : bD l k 14 2 k2) (h2 : bm 0 dp = c) : dB l ds dp v k (Ty.mk 0 [] 0 []).enc k2 := by
 have h5 := yq
 refine co [17] [] (x := .of Tryz.f48 eZ dC) ?_; refine oh h1 ?_; refine ox h2 ?_
 cases c <;>
 ·refine on h5 ?_; exact fi
theorem zQ {l ds : List aq} {k k2 k3 v dp i : Int} {c : Bool} (h1 : bD l k 14 3 k2) (h2 : bm 0 dp = c) (h3 : bm 0 v = true) (h4 : bD l k2 v i k3) : dB l ds dp v k (Ty.mk 5 [] i []).enc k3 := by
 have h5 := AH i
 refine co [17, 39] [] (x := .of Tryz.f48 eZ dC) ?_; refine oh h1 ?_; refine ox h2 ?_
 cases c <;>
 ·refine ob h3 ?_; refine oh h4 ?_; refine on h5 ?_; exact fi
theorem zT {l ds : List aq} {k k2 k3 v dp : Int} {c : Bool} {t : Ty} (h1 : bD l k 14 3 k2) (h2 : bm 0 dp = c) (h3 : bm 0 v = false) (h4 : ur l ds dp v k2 t.enc k3) : dB l ds dp v k t.enc k3 := by
 obtain ⟨ek, en, ei, ea⟩ := t
 rcases ea with _ | ⟨x, ea⟩ <;>
 ·refine co [17, 39] [] (x := .of Tryz.f48 eZ dC) ?_; refine oh h1 ?_; refine ox h2 ?_
  cases c <;>
  ·refine ob h3 ?_; refine oh h4 ?_; exact fi
theorem zP {l ds : List aq} {k k2 k3 v dp i : Int} {c : Bool} (h1 : bD l k 14 4 k2) (h2 : bm 0 dp = c) (h3 : bm 0 v = true) (h4 : bD l k2 v i k3) : dB l ds dp v k (Ty.mk 5 [] i []).enc k3 := by
 have h5 := AH i
 refine co [17, 39] [] (x := .of Tryz.f48 eZ dC) ?_; refine oh h1 ?_; refine ox h2 ?_
 cases c <;>
 ·refine ob h3 ?_; refine oh h4 ?_; refine on h5 ?_; exact fi
theorem zS {l ds : List aq} {k k2 k3 v dp : Int} {c : Bool} {t : Ty} (h1 : bD l k 14 4 k2) (h2 : bm 0 dp = c) (h3 : bm 0 v = false) (h4 : ur l ds dp v k2 t.enc k3) : dB l ds dp v k t.enc k3 := by
 obtain ⟨ek, en, ei, ea⟩ := t
 rcases ea with _ | ⟨x, ea⟩ <;>
 ·refine co [17, 39] [] (x := .of Tryz.f48 eZ dC) ?_; refine oh h1 ?_; refine ox h2 ?_
  cases c <;>
  ·refine ob h3 ?_; refine oh h4 ?_; exact fi
theorem zR {l ds : List aq} {k k2 k3 v dp : Int} {c : Bool} {t : Ty} (h1 : bD l k 14 5 k2) (h2 : bm 0 dp = c) (h4 : ur l ds dp v k2 t.enc k3) : dB l ds dp v k t.enc k3 := by
 obtain ⟨ek, en, ei, ea⟩ := t
 rcases ea with _ | ⟨x, ea⟩ <;>
 ·refine co [17] [] (x := .of Tryz.f48 eZ dC) ?_; refine oh h1 ?_; refine ox h2 ?_
  cases c <;>
  ·refine oh h4 ?_; exact fi
theorem I5 {l ds : List aq} {k k2 k3 v dp : Int} {t : Ty} (h1 : bD l k 14 6 k2) (h2 : bm 0 dp = true) (h4 : ur l ds dp v k2 t.enc k3) : dB l ds dp v k t.enc k3 := by
 obtain ⟨ek, en, ei, ea⟩ := t
 rcases ea with _ | ⟨x, ea⟩ <;>
 ·refine co [17] [] (x := .of Tryz.f48 eZ dC) ?_; refine oh h1 ?_; refine ox h2 ?_; refine oh h4 ?_; exact fi
theorem I4 {l ds : List aq} {k k2 k3 v dp : Int} {t : Ty} (h1 : bD l k 14 7 k2) (h2 : bm 0 dp = true) (h4 : ur l ds dp v k2 t.enc k3) : dB l ds dp v k t.enc k3 := by
 obtain ⟨ek, en, ei, ea⟩ := t
 rcases ea with _ | ⟨x, ea⟩ <;>
 ·refine co [17] [] (x := .of Tryz.f48 eZ dC) ?_; refine oh h1 ?_; refine ox h2 ?_; refine oh h4 ?_; exact fi
theorem K4 {l ds : List aq} {k k2 k3 k4 v dp : Int} {t u : Ty} (h1 : bD l k 14 8 k2) (h2 : bm 0 dp = true) (h4 : dB l ds (aI .i64 (dp - 1)) v k2 t.enc k3) (h5 : dB l ds (aI .i64 (dp - 1)) v k3 u.enc k4) : dB l ds dp v k (Ty.mk 4 [] 0 [t, u]).enc k4 := by
 have h6 := IJ t.enc [u.enc]
 obtain ⟨ek, en, ei, ea⟩ := t
 obtain ⟨uk, un, ui, ua⟩ := u
 rcases ea with _ | ⟨x, ea⟩ <;>
 ·rcases ua with _ | ⟨y, ua⟩ <;>
  ·refine co [17] [] (x := .of Tryz.f48 eZ dC) ?_; refine oh h1 ?_; refine ox h2 ?_; refine oh h4 ?_; refine oh h5 ?_; refine on h6 ?_; exact fi
theorem K3 {l ds : List aq} {k k2 k3 k4 v dp : Int} {t u : Ty} (h1 : bD l k 14 9 k2) (h2 : bm 0 dp = true) (h4 : dB l ds (aI .i64 (dp - 1)) v k2 t.enc k3) (h5 : dB l ds (aI .i64 (dp - 1)) v k3 u.enc k4) : dB l ds dp v k (Ty.mk 4 [] 0 [t, u]).enc k4 := by
 have h6 := IJ t.enc [u.enc]
 obtain ⟨ek, en, ei, ea⟩ := t
 obtain ⟨uk, un, ui, ua⟩ := u
 rcases ea with _ | ⟨x, ea⟩ <;>
 ·rcases ua with _ | ⟨y, ua⟩ <;>
  ·refine co [17] [] (x := .of Tryz.f48 eZ dC) ?_; refine oh h1 ?_; refine ox h2 ?_; refine oh h4 ?_; refine oh h5 ?_; refine on h6 ?_; exact fi
noncomputable def Si : Hints := ⟨au, eZ, ax, rowsOf ax 48⟩
def VY (pre : List Ty) : Heap := [(.loc 10, .cells [iv 3, .dat (sb []), iv 0, Mf pre]), (.loc 8, .cells [iv 0, .dat (sb []), iv 0, .dat nl])]
def Fu (l ds : List aq) (dp v n K i : Int) (pre : List Ty) : ac := ⟨[(12, iv i), (11, iv n), (10, .ptr (.loc 10) 0), (8, .ptr (.loc 8) 0), (0, eB), (1, .dat (.slice ds)), (2, iv dp), (3, iv v)], VY pre, eY l K, 1⟩
def HA (l ds : List aq) (dp v n K i : Int) (pre : List Ty) : ac := ⟨[(83, bv false), (12, iv i), (11, iv n), (10, .ptr (.loc 10) 0), (8, .ptr (.loc 8) 0), (0, eB), (1, .dat (.slice ds)), (2, iv dp), (3, iv v)], VY pre, eY l K, 1⟩
theorem KX {l ds : List aq} {dp v n K K2 i : Int} {pre : List Ty} {t : Ty} (h1 : bm i n = true) (h2 : dB l ds (aI .i64 (dp - 1)) v K t.enc K2) (hp : pre.length < 1000000000) {T : Exit -> aa -> Prop}
  (e : T .normal ((Fu l ds dp v n K2 (aI .i64 (i + 1)) (pre ++ [t])).aw Tryz.f48.ntmps)) :
  KD (roundOf Tryz.f48 0) T ((Fu l ds dp v n K i pre).aw Tryz.f48.ntmps) := by
 have h3 := Pf (t := t) hp
 clear hp
 rcases pre with _ | ⟨d, r⟩ <;>
 ·refine aC [83] [95] (H := Si) (live := dC) (by kernel_rfl) ?_; refine ob h1 ?_; refine oh h2 ?_
  obtain ⟨v0, v1, v2, v3⟩ := t
  refine oo h3 ?_; exact oe e
theorem PC {l ds : List aq} {dp v n K i : Int} {pre : List Ty} (h1 : bm i n = false) {T : Exit -> aa -> Prop}
  (e : T (.exit 1) ((HA l ds dp v n K i pre).aw Tryz.f48.ntmps)) :
  KD (roundOf Tryz.f48 0) T ((Fu l ds dp v n K i pre).aw Tryz.f48.ntmps) := by
 rcases pre with _ | ⟨d, r⟩ <;>
 ·refine aC [83] [] (H := Si) (live := dC) (by kernel_rfl) ?_; refine ob h1 ?_; exact oe e
theorem Fm {l ds : List aq} {k k2 k3 k4 v dp n ie : Int} {ts : List Ty} (h1 : bD l k 14 10 k2) (h2 : bm 0 dp = true) (h4 : bD l k2 4 n k3)
  (hl : KD (.loop (roundOf Tryz.f48 0)) (fun e s => e = .exit 1 /\ s = (HA l ds dp v n k4 ie ts).aw Tryz.f48.ntmps) ((Fu l ds dp v n k3 0 []).aw Tryz.f48.ntmps)) : dB l ds dp v k (Ty.mk 3 [] 0 ts).enc k4 := by
 rcases ts with _ | ⟨x, ea⟩ <;>
 ·refine co [17] [] (x := .of Tryz.f48 eZ dC) ?_; refine oh h1 ?_; refine ox h2 ?_; refine oh h4 ?_; refine lo hl ?_; rintro ex s ⟨rfl, rfl⟩; refine ⟨_, rfl, ?_⟩; exact fi
theorem Fl {l ds : List aq} {k k2 k3 k4 v dp n ie : Int} {ts : List Ty} (h1 : bD l k 14 11 k2) (h2 : bm 0 dp = true) (h4 : bD l k2 4 n k3)
  (hl : KD (.loop (roundOf Tryz.f48 0)) (fun e s => e = .exit 1 /\ s = (HA l ds dp v n k4 ie ts).aw Tryz.f48.ntmps) ((Fu l ds dp v n k3 0 []).aw Tryz.f48.ntmps)) : dB l ds dp v k (Ty.mk 3 [] 0 ts).enc k4 := by
 rcases ts with _ | ⟨x, ea⟩ <;>
 ·refine co [17] [] (x := .of Tryz.f48 eZ dC) ?_; refine oh h1 ?_; refine ox h2 ?_; refine oh h4 ?_; refine lo hl ?_; rintro ex s ⟨rfl, rfl⟩; refine ⟨_, rfl, ?_⟩; exact fi
theorem K6 {l ds : List aq} {k k2 k3 k4 v dp : Int} {u : Ty} (h1 : bD l k 14 12 k2) (h2 : bm 0 dp = true) (h4 : bD l k2 2 0 k3) (h5 : dB l ds (aI .i64 (dp - 1)) (aI .i64 (v + 1)) k3 u.enc k4) : dB l ds dp v k (Ty.mk 6 [] 0 [.mk 0 [] 0 [], u]).enc k4 := by
 have h6 := yq
 have h7 := nX (.mk 0 [] 0 []) u
 obtain ⟨uk, un, ui, ua⟩ := u
 rcases ua with _ | ⟨y, ua⟩ <;>
 ·refine co [17] [] (x := .of Tryz.f48 eZ dC) ?_; refine oh h1 ?_; refine ox h2 ?_; refine on h6 ?_; refine oh h4 ?_; refine oh h5 ?_; refine on h7 ?_; exact fi
theorem K5 {l ds : List aq} {k k2 k3 k4 k5 v dp : Int} {t u : Ty} (h1 : bD l k 14 12 k2) (h2 : bm 0 dp = true) (h3 : bD l k2 2 1 k3) (h4 : dB l ds 1 0 k3 t.enc k4) (h5 : dB l ds (aI .i64 (dp - 1)) (aI .i64 (v + 1)) k4 u.enc k5) : dB l ds dp v k (Ty.mk 6 [] 0 [t, u]).enc k5 := by
 have h6 := yq
 have h7 := nX t u
 obtain ⟨ek, en, ei, ea⟩ := t
 obtain ⟨uk, un, ui, ua⟩ := u
 rcases ea with _ | ⟨x, ea⟩ <;>
 ·rcases ua with _ | ⟨y, ua⟩ <;>
  ·refine co [17] [] (x := .of Tryz.f48 eZ dC) ?_; refine oh h1 ?_; refine ox h2 ?_; refine on h6 ?_; refine oh h3 ?_; refine oh h4 ?_; refine oh h5 ?_; refine on h7 ?_; exact fi
theorem Fo {l ds : List aq} {k k2 k3 v dp : Int} (h1 : bD l k 14 13 k2) (h2 : bm 0 dp = true) (h4 : bD l k2 4 0 k3) : dB l ds dp v k (Ty.mk 1 [] 0 []).enc k3 := by
 have h6 := QW
 refine co [17] [] (x := .of Tryz.f48 eZ dC) ?_; refine oh h1 ?_; refine ox h2 ?_; refine oh h4 ?_; refine on h6 ?_; exact fi
def He : Ty := .mk 6 [] 0 [.mk 0 [] 0 [], .mk 2 [66, 111, 120] 0 [.mk 5 [] 0 []]]
theorem I9 {l ds : List aq} {k k2 k3 v dp : Int} (h1 : bD l k 14 13 k2) (h2 : bm 0 dp = true) (h4 : bD l k2 4 1 k3) : dB l ds dp v k He.enc k3 := by
 have h5 := yq
 have h6 := AH 0
 have h7 := yp [66, 111, 120] (Ty.mk 5 [] 0 []).enc []
 have h8 := nX (.mk 0 [] 0 []) (.mk 2 [66, 111, 120] 0 [.mk 5 [] 0 []])
 refine co [17] [] (x := .of Tryz.f48 eZ dC) ?_; refine oh h1 ?_; refine ox h2 ?_; refine oh h4 ?_; refine on h5 ?_; refine on h6 ?_; refine on h7 ?_; refine on h8 ?_; exact fi
theorem I8 {l ds : List aq} {k k2 k3 v dp : Int} (h1 : bD l k 14 13 k2) (h2 : bm 0 dp = true) (h4 : bD l k2 4 2 k3) : dB l ds dp v k He.enc k3 := by
 have h5 := yq
 have h6 := AH 0
 have h7 := yp [66, 111, 120] (Ty.mk 5 [] 0 []).enc []
 have h8 := nX (.mk 0 [] 0 []) (.mk 2 [66, 111, 120] 0 [.mk 5 [] 0 []])
 refine co [17] [] (x := .of Tryz.f48 eZ dC) ?_; refine oh h1 ?_; refine ox h2 ?_; refine oh h4 ?_; refine on h5 ?_; refine on h6 ?_; refine on h7 ?_; refine on h8 ?_; exact fi
theorem I7 {l ds : List aq} {k k2 k3 v dp : Int} (h1 : bD l k 14 13 k2) (h2 : bm 0 dp = true) (h4 : bD l k2 4 3 k3) : dB l ds dp v k He.enc k3 := by
 have h5 := yq
 have h6 := AH 0
 have h7 := yp [66, 111, 120] (Ty.mk 5 [] 0 []).enc []
 have h8 := nX (.mk 0 [] 0 []) (.mk 2 [66, 111, 120] 0 [.mk 5 [] 0 []])
 refine co [17] [] (x := .of Tryz.f48 eZ dC) ?_; refine oh h1 ?_; refine ox h2 ?_; refine oh h4 ?_; refine on h5 ?_; refine on h6 ?_; refine on h7 ?_; refine on h8 ?_; exact fi
mutual
/-- Each named term in it has a name and a number of arguments that P allows. -/
def Ty.from (P : List UInt8 -> Nat -> Prop) : Ty -> Prop
 | .mk k nm _ args => (k = 2 -> P nm args.length) /\ ka P args
def ka (P : List UInt8 -> Nat -> Prop) : List Ty -> Prop
 | [] => True
 | t :: r => t.from P /\ ka P r
end
theorem El {P : List UInt8 -> Nat -> Prop} : ∀ {l : List Ty}, (∀ t ∈ l, t.from P) -> ka P l
 | [], _ => trivial
 | t :: r, h => ⟨h t (by simp), El (fun x hx => h x (by simp [hx]))⟩
theorem D9 : ∀ {l : List Ty}, (∀ t ∈ l, t.dD) -> cJ l
 | [], _ => by simp [cJ]
 | t :: r, h => by simp only [cJ]; exact ⟨h t (by simp), D9 (fun x hx => h x (by simp [hx]))⟩
/-- What the generator makes between two places of the stream. -/
structure GT (P : List UInt8 -> Nat -> Prop) (N : Nat) (t : Ty) (k k2 : Nat) : Prop where
 size : t.size + 4 * k <= 4 * k2 + 1
 ix : t.dD
 frm : t.from P
 le : k <= k2
 top : k2 <= N
def GR (l : List Int) (P : List UInt8 -> Nat -> Prop) (g : FuncId) (args : List ae) (k : Nat) : Prop := ∃ t k2, GT P l.length t k k2 /\ KC g args (eY (l.map iN) (Int.ofNat k)) 1 (XQ ⟨.dat t.enc, eY (l.map iN) (Int.ofNat k2), 1⟩)
theorem Cv {l : List Int} {P : List UInt8 -> Nat -> Prop} {g : FuncId} {args : List ae} {k : Nat} (hk : k <= l.length) (h : ∀ k', k <= k' -> k' <= l.length -> GR l P g args k') : ∀ n : Nat, ∃ (ts : List Ty) (ks : Nat -> Nat), ts.length = n /\ ks 0 = k /\ k <= ks n /\ ks n <= l.length /\ aS ts + 4 * k <= 4 * ks n + n /\ cJ ts /\ ka P ts ∧
  ∀ i t, ts[i]? = some t -> KC g args (eY (l.map iN) (Int.ofNat (ks i))) 1 (XQ ⟨.dat t.enc, eY (l.map iN) (Int.ofNat (ks (i + 1))), 1⟩)
 | 0 => ⟨[], fun _ => k, rfl, rfl, Nat.le_refl _, hk, by simp [aS], by simp [cJ], trivial, fun i t h => by simp at h⟩
 | n + 1 => by
  obtain ⟨ts, ks, h1, h2, h3, h4, h5, h6, h7, h8⟩ := Cv hk h n
  obtain ⟨t, k2, ht, hc⟩ := h (ks n) h3 h4
  have hsz : aS (ts ++ [t]) = aS ts + t.size := by
   have := jR (l := ts ++ [t]) (i := n) (t := t) (by rw [← h1]; simp)
   rw [show (ts ++ [t]).take (n + 1) = ts ++ [t] from List.take_of_length_le (by simp; omega), show (ts ++ [t]).take n = ts by rw [← h1]; simp] at this
   exact this
  have hmem : ∀ {Q : Ty -> Prop}, (∀ x ∈ ts, Q x) -> Q t -> ∀ x ∈ ts ++ [t], Q x := by
   intro Q ha hb x hx
   rcases List.mem_append.1 hx with hx | hx
   ·exact ha x hx
   simp at hx; rw [hx]; exact hb
  have hto1 : ∀ {l : List Ty}, cJ l -> ∀ x ∈ l, x.dD := by
   intro l
   induction l with
   | nil => intro _ x hx; simp at hx
   | cons a r ih => intro h x hx; simp only [cJ] at h; rcases List.mem_cons.1 hx with rfl | hx; exact h.1; exact ih h.2 x hx
  have hto2 : ∀ {l : List Ty}, ka P l -> ∀ x ∈ l, x.from P := by
   intro l
   induction l with
   | nil => intro _ x hx; simp at hx
   | cons a r ih => intro h x hx; simp only [ka] at h; rcases List.mem_cons.1 hx with rfl | hx; exact h.1; exact ih h.2 x hx
  refine ⟨ts ++ [t], fun i => if i <= n then ks i else k2, by simp [h1], by simp [h2], ?_, ?_, ?_, D9 (hmem (hto1 h6) ht.ix), El (hmem (hto2 h7) ht.frm), ?_⟩
  ·have := ht.le; dsimp only; rw [if_neg (by omega : ¬ n + 1 <= n)]; omega
  ·have := ht.top; dsimp only; rw [if_neg (by omega : ¬ n + 1 <= n)]; omega
  ·have := ht.size; dsimp only; rw [if_neg (by omega : ¬ n + 1 <= n), hsz]; omega
  intro i u hu
  by_cases hi : i < n
  ·rw [List.getElem?_append_left (by omega)] at hu
   dsimp only
   rw [if_pos (by omega : i <= n), if_pos (by omega : i + 1 <= n)]
   exact h8 i u hu
  have hin : i = n := by
   have := (List.getElem?_eq_some_iff.1 hu).1
   simp at this; omega
  subst hin
  rw [List.getElem?_append_right (by omega), h1, Nat.sub_self] at hu
  simp at hu; subst hu
  dsimp only
  rw [if_pos (Nat.le_refl _), if_neg (by omega : ¬ i + 1 <= i)]
  exact hc
theorem fB {a b : Nat} (h : a < b) : bm (Int.ofNat a) (Int.ofNat b) = true := by rw [jj, decide_eq_true h]
theorem iA {a b : Nat} (h : ¬ a < b) : bm (Int.ofNat a) (Int.ofNat b) = false := by rw [jj, decide_eq_false h]
theorem FK {dp : Int} (h : 0 < dp) : bm 0 dp = true := by rw [gp, decide_eq_true h]
theorem M4 {dp : Int} (h : ¬ 0 < dp) : bm 0 dp = false := by rw [gp, decide_eq_false h]
theorem lB {dp : Int} (h1 : 0 <= dp) (h2 : dp <= 100) : aI .i64 (dp - 1) = dp - 1 := by rw [dz, wrap_i64 (by omega) (by omega)]
theorem QD (i : Nat) (h : i < 4) : ∃ b, eU[i]? = some b /\ b ∈ eU := ⟨eU[i], List.getElem?_eq_getElem h, List.getElem_mem h⟩
theorem yb {i : Nat} (h : i < 4) : ∃ b, b ∈ eU /\ aK (env ay.aT) 60 [.dat (.slice (jd eU)), .dat (.flat (.int .i64 (Int.ofNat i)))] = some ⟨.ref [sb b], .keep⟩ := by
 obtain ⟨b, hb, hm⟩ := QD i h
 exact ⟨b, hm, V4 hb⟩
theorem mE {P : List UInt8 -> Nat -> Prop} {N k k2 : Nat} {b : List UInt8} (hP : P b 0) (h1 : k <= k2) (h2 : k2 <= N) : GT P N (.mk 2 b 0 []) k k2 :=
 ⟨by simp [Ty.size, aS]; omega, by simp [Ty.dD, cJ, aZ], by simp [Ty.from, ka]; exact hP, h1, h2⟩
theorem yl {P : List UInt8 -> Nat -> Prop} {N k k2 i : Nat} (hi : i < 500000000) (h1 : k <= k2) (h2 : k2 <= N) : GT P N (.mk 5 [] (Int.ofNat i) []) k k2 :=
 ⟨by simp [Ty.size, aS]; omega, by simp only [Ty.dD, cJ]; exact ⟨fun _ => fB hi, trivial⟩, by simp [Ty.from, ka], h1, h2⟩
section
variable {l : List Int} {ds : List aU} {P : List UInt8 -> Nat -> Prop} (hl : l.length < 10000000) (hds : ds.length < 1000) (har : ∀ d ∈ ds, ∃ n : Nat, d.ar = Int.ofNat n /\ n <= 4 /\ P d.nm n) (hP0 : ∀ b ∈ eU, P b 0) (hPB : P [66, 111, 120] 1)
def aA (ds : List aU) (dp : Int) (v : Nat) : List ae := [eB, .dat (.slice (aH ds)), iv dp, iv (Int.ofNat v)]
include hl hds har hP0
theorem DX {k : Nat} (hk : k <= l.length) {dp : Int} {v : Nat} (h0 : 0 <= dp) (h3 : dp <= 3) (ih : ∀ k', k < k' -> k' <= l.length -> GR l P 65 (aA ds (dp - 1) v) k') : GR l P 83 (aA ds dp v) k := by
 have hw : aI .i64 (Int.ofNat (aH ds).length + 4) = Int.ofNat (ds.length + 4) := by
  rw [aW, dz]
  exact wrap_i64 (by simp; omega) (by simp; omega)
 obtain ⟨r, k2, ⟨hr, hk2, hk3, hk4⟩, hc⟩ := ey (n := ds.length + 4) (by omega : l.length < 1000000000) hk (by omega) (by omega)
 rw [← hw] at hc
 by_cases h4 : r < 4
 ·obtain ⟨b, hb, hi⟩ := yb h4
  exact ⟨_, k2, mE (hP0 b hb) hk2 hk3, M6 hc (fB h4) hi⟩
 have hlt : r - 4 < ds.length := by omega
 have hg : ds[r - 4]? = some ds[r - 4] := List.getElem?_eq_getElem hlt
 obtain ⟨n, hn, hn4, hPn⟩ := har _ (List.getElem_mem hlt)
 have hkk := hk4 (by omega)
 obtain ⟨ts, ks, c1, c2, c3, c4, c5, c6, c7, c8⟩ := Cv (g := 65) (args := aA ds (dp - 1) v) (P := P) hk3 (fun k' hk' hkl => ih k' (by omega) hkl) n
 have hi := rR hg
 have hw2 : Int.ofNat (r - 4) = aI .i64 (Int.ofNat r - 4) := by
  rw [dz, wrap_i64 (by simp; omega) (by simp; omega)]
  simp; omega
 rw [hw2] at hi
 generalize ds[r - 4] = d at *
 obtain ⟨nm, ar, ⟨kk, tn, ix, la⟩, con, fl⟩ := d
 dsimp only at hn hPn
 subst hn
 refine ⟨.mk 2 nm 0 ts, ks n, ⟨by simp only [Ty.size]; omega, by simp only [Ty.dD]; exact ⟨by simp [aZ], c6⟩, by simp only [Ty.from]; exact ⟨fun _ => by rw [c1]; exact hPn, c7⟩, by omega, c4⟩, ?_⟩
 refine M7 (la := ap la) (lb := aR fl) (ie := Int.ofNat n) hc (iA h4) hi ?_
 rw [← c2]
 refine bu (St := fun i => (Li (Td (Gg (cellsD nm (Int.ofNat n) kk tn ix (ap la) con (aR fl))) nm (ts.take i)) (l.map iN) (aH ds) dp (Int.ofNat v) (Int.ofNat (ks i)) (Int.ofNat i)).aw Tryz.f83.ntmps) n ?_ ?_ (i := 0) (Nat.zero_le _)
 ·intro i hi2
  have hti : ts[i]? = some ts[i] := List.getElem?_eq_getElem (by omega)
  have hci := c8 i _ hti
  have hwp : dp - 1 = aI .i64 (dp - 1) := (lB h0 (by omega)).symm
  unfold aA at hci
  rw [hwp] at hci
  refine M0 (fB hi2) hci (by rw [List.length_take]; omega) ?_
  rw [bn (by omega), ← eS hti]
  exact rfl
 refine Qc (iA (by omega)) ⟨rfl, ?_⟩
 rw [List.take_of_length_le (by omega)]
omit hds har in
theorem Pb {k : Nat} (hk : k <= l.length) {dp : Int} {v : Nat} (h0 : -1 <= dp) (h3 : dp <= 3) (hv : v < 100) (ihn : 0 < dp -> ∀ k', k <= k' -> k' <= l.length -> GR l P 83 (aA ds dp v) k') (iht : 0 < dp -> ∀ k', k < k' -> k' <= l.length -> GR l P 48 (aA ds (dp - 1) 0) k') : GR l P 65 (aA ds dp v) k := by
 obtain ⟨r, k2, ⟨hr, hk2, hk3, hk4⟩, hc⟩ := ey (n := 6) (by omega : l.length < 1000000000) hk (by omega) (by omega)
 by_cases hv0 : r < 2 /\ 0 < v
 ·obtain ⟨i, k3, ⟨hi, hk5, hk6, hk7⟩, hc2⟩ := ey (n := v) (by omega : l.length < 1000000000) hk3 hv0.2 (by omega)
  exact ⟨_, k3, yl (by omega) (by omega) hk6, Ru hc (fB hv0.1) (fB (a := 0) hv0.2) hc2⟩
 have hcc : bm (Int.ofNat r) (Int.ofNat 2) = true -> bm (Int.ofNat 0) (Int.ofNat v) = false := by
  intro h
  rw [jj, decide_eq_true_eq] at h
  exact iA (by omega)
 by_cases hdp : 0 < dp
 ·by_cases hr4 : r < 4
  ·obtain ⟨t, k3, ht, hct⟩ := ihn hdp k2 hk2 hk3
   refine ⟨t, k3, ⟨?_, ht.ix, ht.frm, ?_, ht.top⟩, Kz hc rfl rfl hcc (FK hdp) (fB hr4) hct⟩
   ·have := ht.size; omega
   have := ht.le; omega
  obtain ⟨t, k3, ht, hct⟩ := iht hdp k2 (hk4 (by omega)) hk3
  unfold aA at hct
  rw [← lB (by omega : 0 <= dp) (by omega)] at hct
  refine ⟨t, k3, ⟨?_, ht.ix, ht.frm, ?_, ht.top⟩, O9 hc (iA (b := 2) (by omega)) (FK hdp) (iA hr4) hct⟩
  ·have := ht.size; omega
  have := ht.le; omega
 obtain ⟨i, k3, ⟨hi, hk5, hk6, hk7⟩, hc2⟩ := ey (n := 4) (by omega : l.length < 1000000000) hk3 (by omega) (by omega)
 obtain ⟨b, hb, hix⟩ := yb hi
 exact ⟨_, k3, mE (hP0 b hb) (by omega) hk6, Pc hc rfl rfl hcc (M4 hdp) hc2 hix⟩
omit hds har in
include hPB in
theorem Ht {k : Nat} (hk : k <= l.length) {dp : Int} {v : Nat} (h0 : 0 <= dp) (h3 : dp <= 3) (hv : v + dp <= 10) (ihn : ∀ k', k < k' -> k' <= l.length -> GR l P 83 (aA ds dp v) k')
  (iht : ∀ k', k < k' -> k' <= l.length -> ∀ (dp : Int) (v : Nat), 0 <= dp -> dp <= 3 -> v + dp <= 10 -> GR l P 48 (aA ds dp v) k') : GR l P 48 (aA ds dp v) k := by
 obtain ⟨r, k2, ⟨hr, hk2, hk3, hk4⟩, hc⟩ := ey (n := 14) (by omega : l.length < 1000000000) hk (by omega) (by omega)
 have leaf : ∃ i k3 b, (k2 <= k3 /\ k3 <= l.length /\ P b 0) /\ bD (l.map iN) (Int.ofNat k2) 4 (Int.ofNat i) (Int.ofNat k3) /\ aK (env ay.aT) 60 [.dat (.slice (jd eU)), .dat (.flat (.int .i64 (Int.ofNat i)))] = some ⟨.ref [sb b], .keep⟩ := by
  obtain ⟨i, k3, ⟨hi, hk5, hk6, hk7⟩, hc2⟩ := ey (n := 4) (by omega : l.length < 1000000000) hk3 (by omega) (by omega)
  obtain ⟨b, hb, hix⟩ := yb hi
  exact ⟨i, k3, b, ⟨hk5, hk6, hP0 b hb⟩, hc2, hix⟩
 have hnam : ∀ {c : Nat}, 0 < r -> ∃ t k3, GT P l.length t k k3 /\ ur (l.map iN) (aH ds) dp (Int.ofNat v) (Int.ofNat k2) t.enc (Int.ofNat k3) := by
  intro c h
  obtain ⟨t, k3, ht, hct⟩ := ihn k2 (hk4 h) hk3
  exact ⟨t, k3, ⟨by have := ht.size; omega, ht.ix, ht.frm, by have := ht.le; omega, ht.top⟩, hct⟩
 by_cases hdp : 0 < dp
 ·have hd := FK hdp
  have sub : ∀ (k' : Nat), k < k' -> k' <= l.length -> ∃ t k3, GT P l.length t k' k3 /\ dB (l.map iN) (aH ds) (aI .i64 (dp - 1)) (Int.ofNat v) (Int.ofNat k') t.enc (Int.ofNat k3) := by
   intro k' h1 h2
   obtain ⟨t, k3, ht, hct⟩ := iht k' h1 h2 (dp - 1) v (by omega) (by omega) (by omega)
   rw [lB (by omega) (by omega)]
   exact ⟨t, k3, ht, hct⟩
  have hcase : r = 0 ∨ r = 1 ∨ r = 2 ∨ r = 3 ∨ r = 4 ∨ r = 5 ∨ r = 6 ∨ r = 7 ∨ r = 8 ∨ r = 9 ∨ r = 10 ∨ r = 11 ∨ r = 12 ∨ r = 13 := by omega
  have hun : 0 < r -> ∃ t u k3 k4, GT P l.length (.mk 4 [] 0 [t, u]) k k4 /\ dB (l.map iN) (aH ds) (aI .i64 (dp - 1)) (Int.ofNat v) (Int.ofNat k2) t.enc (Int.ofNat k3) /\ dB (l.map iN) (aH ds) (aI .i64 (dp - 1)) (Int.ofNat v) (Int.ofNat k3) u.enc (Int.ofNat k4) := by
   intro h
   have hkk := hk4 h
   obtain ⟨t, k3, ht, hct⟩ := sub k2 hkk hk3
   obtain ⟨u, k4, hu, hcu⟩ := sub k3 (by have := ht.le; omega) ht.top
   refine ⟨t, u, k3, k4, ⟨?_, ?_, ?_, ?_, hu.top⟩, hct, hcu⟩
   ·have := ht.size; have := hu.size; simp only [Ty.size, aS]; omega
   ·simp only [Ty.dD, cJ]; exact ⟨by simp [aZ], ht.ix, hu.ix, trivial⟩
   ·simp only [Ty.from, ka]; exact ⟨fun h => by simp at h, ht.frm, hu.frm, trivial⟩
   have := ht.le; have := hu.le; omega
  have htup : 0 < r -> ∃ n k3 ts k4, bD (l.map iN) (Int.ofNat k2) 4 n (Int.ofNat k3) /\ GT P l.length (.mk 3 [] 0 ts) k k4 /\ KD (.loop (roundOf Tryz.f48 0)) (fun e s => e = .exit 1 /\ s = (HA (l.map iN) (aH ds) dp (Int.ofNat v) n (Int.ofNat k4) n ts).aw Tryz.f48.ntmps) ((Fu (l.map iN) (aH ds) dp (Int.ofNat v) n (Int.ofNat k3) 0 []).aw Tryz.f48.ntmps) := by
   intro h
   have hkk := hk4 h
   obtain ⟨n, k3, ⟨hn, hk5, hk6, hk7⟩, hc2⟩ := ey (n := 4) (by omega : l.length < 1000000000) hk3 (by omega) (by omega)
   obtain ⟨ts, ks, c1, c2, c3, c4, c5, c6, c7, c8⟩ := Cv (g := 48) (args := aA ds (dp - 1) v) (P := P) hk6 (fun k' h1 h2 => iht k' (by omega) h2 (dp - 1) v (by omega) (by omega) (by omega)) n
   refine ⟨_, k3, ts, ks n, hc2, ⟨by simp only [Ty.size]; omega, by simp only [Ty.dD]; exact ⟨by simp [aZ], c6⟩, by simp only [Ty.from]; exact ⟨fun h => by simp at h, c7⟩, by omega, c4⟩, ?_⟩
   rw [← c2]
   refine bu (St := fun i => (Fu (l.map iN) (aH ds) dp (Int.ofNat v) (Int.ofNat n) (Int.ofNat (ks i)) (Int.ofNat i) (ts.take i)).aw Tryz.f48.ntmps) n ?_ ?_ (i := 0) (Nat.zero_le _)
   ·intro i hi2
    have hti : ts[i]? = some ts[i] := List.getElem?_eq_getElem (by omega)
    have hci := c8 i _ hti
    unfold aA at hci
    rw [← lB h0 (by omega)] at hci
    refine KX (fB hi2) hci (by rw [List.length_take]; omega) ?_
    rw [bn (by omega), ← eS hti]
    exact rfl
   refine PC (iA (by omega)) ⟨rfl, ?_⟩
   rw [List.take_of_length_le (by omega)]
  rcases hcase with rfl | rfl | rfl | rfl | rfl | rfl | rfl | rfl | rfl | rfl | rfl | rfl | rfl | rfl
  ·obtain ⟨i, k3, b, ⟨g1, g2, g3⟩, hc2, hix⟩ := leaf
   exact ⟨_, k3, mE g3 (by omega) g2, wG hc rfl hc2 hix⟩
  ·obtain ⟨i, k3, b, ⟨g1, g2, g3⟩, hc2, hix⟩ := leaf
   exact ⟨_, k3, mE g3 (by omega) g2, wF hc rfl hc2 hix⟩
  ·exact ⟨_, k2, ⟨by simp [Ty.size, aS]; omega, by simp [Ty.dD, cJ, aZ], by simp [Ty.from, ka], hk2, hk3⟩, CU hc rfl⟩
  ·by_cases hv0 : 0 < v
   ·obtain ⟨i, k3, ⟨hi, hk5, hk6, hk7⟩, hc2⟩ := ey (n := v) (by omega : l.length < 1000000000) hk3 hv0 (by omega)
    exact ⟨_, k3, yl (by omega) (by omega) hk6, zQ hc rfl (fB (a := 0) hv0) hc2⟩
   obtain ⟨t, k3, ht, hct⟩ := hnam (c := 0) (by omega)
   exact ⟨t, k3, ht, zT hc rfl (iA (a := 0) hv0) hct⟩
  ·by_cases hv0 : 0 < v
   ·obtain ⟨i, k3, ⟨hi, hk5, hk6, hk7⟩, hc2⟩ := ey (n := v) (by omega : l.length < 1000000000) hk3 hv0 (by omega)
    exact ⟨_, k3, yl (by omega) (by omega) hk6, zP hc rfl (fB (a := 0) hv0) hc2⟩
   obtain ⟨t, k3, ht, hct⟩ := hnam (c := 0) (by omega)
   exact ⟨t, k3, ht, zS hc rfl (iA (a := 0) hv0) hct⟩
  ·obtain ⟨t, k3, ht, hct⟩ := hnam (c := 0) (by omega)
   exact ⟨t, k3, ht, zR hc rfl hct⟩
  ·obtain ⟨t, k3, ht, hct⟩ := hnam (c := 0) (by omega)
   exact ⟨t, k3, ht, I5 hc hd hct⟩
  ·obtain ⟨t, k3, ht, hct⟩ := hnam (c := 0) (by omega)
   exact ⟨t, k3, ht, I4 hc hd hct⟩
  ·obtain ⟨t, u, k3, k4, g, ht, hu⟩ := hun (by omega)
   exact ⟨_, k4, g, K4 hc hd ht hu⟩
  ·obtain ⟨t, u, k3, k4, g, ht, hu⟩ := hun (by omega)
   exact ⟨_, k4, g, K3 hc hd ht hu⟩
  ·obtain ⟨n, k3, ts, k4, hn, g, hlp⟩ := htup (by omega)
   exact ⟨_, k4, g, Fm hc hd hn hlp⟩
  ·obtain ⟨n, k3, ts, k4, hn, g, hlp⟩ := htup (by omega)
   exact ⟨_, k4, g, Fl hc hd hn hlp⟩
  ·have hkk := hk4 (by omega)
   obtain ⟨i, k3, ⟨hi, hk5, hk6, hk7⟩, hc2⟩ := ey (n := 2) (by omega : l.length < 1000000000) hk3 (by omega) (by omega)
   have hwv : aI .i64 (Int.ofNat v + 1) = Int.ofNat (v + 1) := bn (by omega)
   have hwp : aI .i64 (dp - 1) = dp - 1 := lB h0 (by omega)
   by_cases hi0 : i = 0
   ·subst hi0
    obtain ⟨u, k4, hu, hcu⟩ := iht k3 (by omega) hk6 (dp - 1) (v + 1) (by omega) (by omega) (by omega)
    refine ⟨_, k4, ⟨?_, ?_, ?_, ?_, hu.top⟩, K6 hc hd hc2 (by rw [hwp, hwv]; exact hcu)⟩
    ·have := hu.size; simp only [Ty.size, aS]; omega
    ·simp only [Ty.dD, cJ]; exact ⟨by simp [aZ], ⟨by simp [aZ], trivial⟩, hu.ix, trivial⟩
    ·simp only [Ty.from, ka]; exact ⟨fun h => by simp at h, ⟨fun h => by simp at h, trivial⟩, hu.frm, trivial⟩
    have := hu.le; omega
   have hi1 : i = 1 := by omega
   subst hi1
   obtain ⟨t, k4, ht, hct⟩ := iht k3 (by omega) hk6 1 0 (by omega) (by omega) (by omega)
   obtain ⟨u, k5, hu, hcu⟩ := iht k4 (by have := ht.le; omega) ht.top (dp - 1) (v + 1) (by omega) (by omega) (by omega)
   refine ⟨_, k5, ⟨?_, ?_, ?_, ?_, hu.top⟩, K5 hc hd hc2 hct (by rw [hwp, hwv]; exact hcu)⟩
   ·have := ht.size; have := hu.size; simp only [Ty.size, aS]; omega
   ·simp only [Ty.dD, cJ]; exact ⟨by simp [aZ], ht.ix, hu.ix, trivial⟩
   ·simp only [Ty.from, ka]; exact ⟨fun h => by simp at h, ht.frm, hu.frm, trivial⟩
   have := ht.le; have := hu.le; omega
  have hkk := hk4 (by omega)
  obtain ⟨i, k3, ⟨hi, hk5, hk6, hk7⟩, hc2⟩ := ey (n := 4) (by omega : l.length < 1000000000) hk3 (by omega) (by omega)
  have gb : GT P l.length He k k3 := ⟨by simp [He, Ty.size, aS]; omega, by simp [He, Ty.dD, cJ, aZ, bm], by simp [He, Ty.from, ka]; exact hPB, by omega, hk6⟩
  have hic : i = 0 ∨ i = 1 ∨ i = 2 ∨ i = 3 := by omega
  rcases hic with rfl | rfl | rfl | rfl
  ·exact ⟨_, k3, ⟨by simp [Ty.size, aS]; omega, by simp [Ty.dD, cJ, aZ], by simp [Ty.from, ka], by omega, hk6⟩, Fo hc hd hc2⟩
  ·exact ⟨_, k3, gb, I9 hc hd hc2⟩
  ·exact ⟨_, k3, gb, I8 hc hd hc2⟩
  exact ⟨_, k3, gb, I7 hc hd hc2⟩
 have hd := M4 hdp
 by_cases h5 : 5 < r
 ·obtain ⟨i, k3, b, ⟨g1, g2, g3⟩, hc2, hix⟩ := leaf
  exact ⟨_, k3, mE g3 (by omega) g2, I6 hc hd (fB (a := 5) h5) hc2 hix⟩
 have hcase : r = 0 ∨ r = 1 ∨ r = 2 ∨ r = 3 ∨ r = 4 ∨ r = 5 := by omega
 rcases hcase with rfl | rfl | rfl | rfl | rfl | rfl
 ·obtain ⟨i, k3, b, ⟨g1, g2, g3⟩, hc2, hix⟩ := leaf
  exact ⟨_, k3, mE g3 (by omega) g2, wG hc rfl hc2 hix⟩
 ·obtain ⟨i, k3, b, ⟨g1, g2, g3⟩, hc2, hix⟩ := leaf
  exact ⟨_, k3, mE g3 (by omega) g2, wF hc rfl hc2 hix⟩
 ·exact ⟨_, k2, ⟨by simp [Ty.size, aS]; omega, by simp [Ty.dD, cJ, aZ], by simp [Ty.from, ka], hk2, hk3⟩, CU hc rfl⟩
 ·by_cases hv0 : 0 < v
  ·obtain ⟨i, k3, ⟨hi, hk5, hk6, hk7⟩, hc2⟩ := ey (n := v) (by omega : l.length < 1000000000) hk3 hv0 (by omega)
   exact ⟨_, k3, yl (by omega) (by omega) hk6, zQ hc rfl (fB (a := 0) hv0) hc2⟩
  obtain ⟨t, k3, ht, hct⟩ := hnam (c := 0) (by omega)
  exact ⟨t, k3, ht, zT hc rfl (iA (a := 0) hv0) hct⟩
 ·by_cases hv0 : 0 < v
  ·obtain ⟨i, k3, ⟨hi, hk5, hk6, hk7⟩, hc2⟩ := ey (n := v) (by omega : l.length < 1000000000) hk3 hv0 (by omega)
   exact ⟨_, k3, yl (by omega) (by omega) hk6, zP hc rfl (fB (a := 0) hv0) hc2⟩
  obtain ⟨t, k3, ht, hct⟩ := hnam (c := 0) (by omega)
  exact ⟨t, k3, ht, zS hc rfl (iA (a := 0) hv0) hct⟩
 obtain ⟨t, k3, ht, hct⟩ := hnam (c := 0) (by omega)
 exact ⟨t, k3, ht, zR hc rfl hct⟩
include hPB in
theorem IH : ∀ (m k : Nat), k <= l.length -> l.length - k <= m ->
  (∀ (dp : Int) (v : Nat), 0 <= dp -> dp <= 3 -> v + dp <= 10 -> GR l P 83 (aA ds dp v) k) /\ (∀ (dp : Int) (v : Nat), -1 <= dp -> dp <= 3 -> v + dp <= 10 -> GR l P 65 (aA ds dp v) k) /\ (∀ (dp : Int) (v : Nat), 0 <= dp -> dp <= 3 -> v + dp <= 10 -> GR l P 48 (aA ds dp v) k) := by
 intro m
 induction m with
 | zero =>
  intro k hk hm
  have hn : ∀ (dp : Int) (v : Nat), 0 <= dp -> dp <= 3 -> v + dp <= 10 -> GR l P 83 (aA ds dp v) k := fun dp v h0 h3 hv => DX hl hds har hP0 hk h0 h3 (fun k' h1 h2 => by omega)
  refine ⟨hn, ?_, ?_⟩
  ·intro dp v h0 h3 hv
   refine Pb hl hP0 hk h0 h3 (by omega) (fun hp k' h1 h2 => ?_) (fun hp k' h1 h2 => by omega)
   have : k' = k := by omega
   subst this
   exact hn dp v (by omega) h3 hv
  intro dp v h0 h3 hv
  exact Ht hl hP0 hPB hk h0 h3 hv (fun k' h1 h2 => by omega) (fun k' h1 h2 => by omega)
 | succ m ih =>
  intro k hk hm
  have hn : ∀ (dp : Int) (v : Nat), 0 <= dp -> dp <= 3 -> v + dp <= 10 -> GR l P 83 (aA ds dp v) k := fun dp v h0 h3 hv => DX hl hds har hP0 hk h0 h3 (fun k' h1 h2 => (ih k' h2 (by omega)).2.1 _ _ (by omega) (by omega) (by omega))
  refine ⟨hn, ?_, ?_⟩
  ·intro dp v h0 h3 hv
   refine Pb hl hP0 hk h0 h3 (by omega) (fun hp k' h1 h2 => ?_) (fun hp k' h1 h2 => (ih k' h2 (by omega)).2.2 _ _ (by omega) (by omega) (by omega))
   by_cases hkk : k' = k
   ·subst hkk
    exact hn dp v (by omega) h3 hv
   exact (ih k' h2 (by omega)).1 _ _ (by omega) h3 hv
  intro dp v h0 h3 hv
  exact Ht hl hP0 hPB hk h0 h3 hv (fun k' h1 h2 => (ih k' h2 (by omega)).1 _ _ h0 h3 hv) (fun k' h1 h2 dp v a b c => (ih k' h2 (by omega)).2.2 _ _ a b c)
end
def gG : List aU := [⟨[66, 111, 120], 1, (.mk 0 [] 0 []), false, []⟩,
 ⟨[67, 101, 108, 108], 1, (.mk 2 [66, 111, 120] 0 [(.mk 5 [] 0 [])]), true, [⟨[105, 116, 101, 109], (.mk 5 [] 0 [])⟩]⟩,
 ⟨[73, 110, 116, 66, 111, 120], 0, (.mk 2 [66, 111, 120] 0 [(.mk 2 [73, 110, 116] 0 [])]), true, [⟨[105, 116, 101, 109], (.mk 2 [73, 110, 116] 0 [])⟩]⟩,
 ⟨[83, 104, 97, 112, 101], 0, (.mk 0 [] 0 []), false, []⟩,
 ⟨[68, 111, 116], 0, (.mk 2 [83, 104, 97, 112, 101] 0 []), true, []⟩,
 ⟨[68, 105, 115, 107], 0, (.mk 2 [83, 104, 97, 112, 101] 0 []), true, [⟨[114, 97, 100, 105, 117, 115], (.mk 2 [73, 110, 116] 0 [])⟩]⟩,
 ⟨[80, 97, 105, 114], 2, (.mk 0 [] 0 []), true, [⟨[102, 105, 114, 115, 116], (.mk 5 [] 0 [])⟩, ⟨[115, 101, 99, 111, 110, 100], (.mk 5 [] 1 [])⟩]⟩,
 ⟨[78, 101, 115, 116], 1, (.mk 2 [66, 111, 120] 0 [(.mk 2 [66, 111, 120] 0 [(.mk 5 [] 0 [])])]), true, [⟨[105, 110, 110, 101, 114], (.mk 2 [66, 111, 120] 0 [(.mk 5 [] 0 [])])⟩]⟩]
theorem Tw : ag 43 [] (.own (aH gG)) := oK _ _ _ _ _ (by kernel_rfl)
noncomputable def NN : Hints := ⟨au, H4, ax, rowsOf ax 28⟩
def ld (l : List aq) (ds : List aq) (K n i : Int) : ac := ⟨[(6, iv i), (5, iv n), (0, eB), (1, .own ds)], [], eY l K, 1⟩
def Ie (b : List UInt8) (ar kk : Int) (tn : List UInt8) (A : ae) (con : Bool) (F : ae) : Heap := [(.loc 7, .cells [.dat (sb b), iv ar, iv kk, .dat (sb tn), iv 0, A, .dat (bl con), F])]
/-- The loop that gathers the abstract ones. -/
def Bk (lo : Heap) (l ds : List aq) (K n i j : Int) (pre : List aU) : ac := ⟨[(9, iv j), (8, BB pre), (7, .ptr (.loc 7) 0), (6, iv i), (5, iv n), (0, eB), (1, .own ds)], lo, eY l K, 1⟩
def C0 (lo : Heap) (l ds : List aq) (K n i j : Int) (pre : List aU) : ac := ⟨[(35, bv false), (9, iv j), (8, BB pre), (7, .ptr (.loc 7) 0), (6, iv i), (5, iv n), (0, eB), (1, .own ds)], lo, eY l K, 1⟩
theorem N4 {b : List UInt8} {ar K n i j : Int} {con : Bool} {l : List aq} {ds pre : List aU} {t : aU} (h1 : bm j (Int.ofNat (aH ds).length) = true) (hi : aK (env ay.aT) 23 [.dat (.slice (aH ds)), .dat (.flat (.int .i64 j))] = some ⟨.ref t.cells, .keep⟩) (hp : pre.length < 1000000000) {T : Exit -> aa -> Prop}
  (e1 : t.con = true -> T .normal ((Bk (Ie b ar 0 [] (.dat nl) con (.dat nl)) l (aH ds) K n i (aI .i64 (j + 1)) pre).aw Tryz.f28.ntmps))
  (e2 : t.con = false -> T .normal ((Bk (Ie b ar 0 [] (.dat nl) con (.dat nl)) l (aH ds) K n i (aI .i64 (j + 1)) (pre ++ [t])).aw Tryz.f28.ntmps)) :
  KD (roundOf Tryz.f28 1) T ((Bk (Ie b ar 0 [] (.dat nl) con (.dat nl)) l (aH ds) K n i j pre).aw Tryz.f28.ntmps) := by
 have h3 := CE (t := t) hp
 clear hp
 generalize aH ds = es at *
 obtain ⟨nm, ar2, ⟨kk, tn, ix, la⟩, con2, fl⟩ := t
 rcases pre with _ | ⟨d, r⟩ <;>
 ·refine aC [35] [40, 47, 50] (H := NN) (live := iw) (by kernel_rfl) ?_; refine ob h1 ?_; refine oo hi ?_
  cases con2
  ·refine oo hi ?_; refine oo h3 ?_; exact oe (e2 rfl)
  exact oe (e1 rfl)
theorem Q5 {b : List UInt8} {ar K n i j : Int} {con : Bool} {l ds : List aq} {pre : List aU} (h1 : bm j (Int.ofNat ds.length) = false) {T : Exit -> aa -> Prop}
  (e : T (.exit 2) ((C0 (Ie b ar 0 [] (.dat nl) con (.dat nl)) l ds K n i j pre).aw Tryz.f28.ntmps)) :
  KD (roundOf Tryz.f28 1) T ((Bk (Ie b ar 0 [] (.dat nl) con (.dat nl)) l ds K n i j pre).aw Tryz.f28.ntmps) := by
 rcases pre with _ | ⟨d, r⟩ <;>
 ·refine aC [35] [] (H := NN) (live := iw) (by kernel_rfl) ?_; refine ob h1 ?_; exact oe e
/-- The loop of the supertype's arguments. -/
def tz (cs : List ae) (b : List UInt8) (ar : Int) (tn : List UInt8) (pre : List Ty) (con : Bool) : Heap := [(.loc 10, .cells cs), (.loc 7, .cells [.dat (sb b), iv ar, iv 2, .dat (sb tn), iv 0, Mf pre, .dat (bl con), .dat nl])]
def CX (lo : Heap) (l ds : List aq) (K n i j : Int) : ac := ⟨[(11, iv j), (10, .ptr (.loc 10) 0), (7, .ptr (.loc 7) 0), (6, iv i), (5, iv n), (0, eB), (1, .own ds)], lo, eY l K, 1⟩
def CW (lo : Heap) (l ds : List aq) (K n i j : Int) : ac := ⟨[(65, bv false), (11, iv j), (10, .ptr (.loc 10) 0), (7, .ptr (.loc 7) 0), (6, iv i), (5, iv n), (0, eB), (1, .own ds)], lo, eY l K, 1⟩
abbrev UX (l ds : List aq) (dp v k : Int) (d : aq) (k2 : Int) : Prop := KC 65 [eB, .dat (.slice ds), iv dp, iv v] (eY l k) 1 (XQ ⟨.dat d, eY l k2, 1⟩)
theorem LB {b nm tn tn2 : List UInt8} {ar ar2 kk ix K K2 n i j : Int} {con con2 : Bool} {l ds la lb : List aq} {pre : List Ty} {t : Ty} (h1 : bm j ar2 = true) (h2 : UX l ds 1 ar K t.enc K2) (hp : pre.length < 1000000000) {T : Exit -> aa -> Prop}
  (e : T .normal ((CX (tz (cellsD nm ar2 kk tn2 ix la con2 lb) b ar tn (pre ++ [t]) con) l ds K2 n i (aI .i64 (j + 1))).aw Tryz.f28.ntmps)) :
  KD (roundOf Tryz.f28 2) T ((CX (tz (cellsD nm ar2 kk tn2 ix la con2 lb) b ar tn pre con) l ds K n i j).aw Tryz.f28.ntmps) := by
 have h3 := Pf (t := t) hp
 clear hp
 rcases pre with _ | ⟨d, r⟩ <;>
 ·refine aC [65] [77] (H := NN) (live := iw) (by kernel_rfl) ?_; refine ob h1 ?_; refine oh h2 ?_
  obtain ⟨v0, v1, v2, v3⟩ := t
  refine oo h3 ?_; exact oe e
theorem PO {b nm tn tn2 : List UInt8} {ar ar2 kk ix K n i j : Int} {con con2 : Bool} {l ds la lb : List aq} {pre : List Ty} (h1 : bm j ar2 = false) {T : Exit -> aa -> Prop}
  (e : T (.exit 4) ((CW (tz (cellsD nm ar2 kk tn2 ix la con2 lb) b ar tn pre con) l ds K n i j).aw Tryz.f28.ntmps)) :
  KD (roundOf Tryz.f28 2) T ((CX (tz (cellsD nm ar2 kk tn2 ix la con2 lb) b ar tn pre con) l ds K n i j).aw Tryz.f28.ntmps) := by
 rcases pre with _ | ⟨d, r⟩ <;>
 ·refine aC [65] [] (H := NN) (live := iw) (by kernel_rfl) ?_; refine ob h1 ?_; exact oe e
theorem UB {l : List aq} {ds : List aU} {k k2 k3 k4 n i ar : Int} {b : List UInt8} (h1 : bm i n = true) (hS : aK (env ay.aT) 60 [.dat (.slice (jd gX)), .dat (.flat (.int .i64 i))] = some ⟨.ref [sb b], .keep⟩)
  (n1 : bD l k 3 ar k2) (n2 : bD l k2 2 0 k3) (n3 : bD l k3 3 0 k4)
  (hp : ds.length < 1000000000) {T : Exit -> aa -> Prop} (e : T .normal ((ld l (aH (ds ++ [⟨b, ar, (.mk 0 [] 0 []), false, []⟩])) k4 n (aI .i64 (i + 1))).aw Tryz.f28.ntmps)) :
  KD (roundOf Tryz.f28 0) T ((ld l (aH ds) k n i).aw Tryz.f28.ntmps) := by
 have h9 := CE (t := ⟨b, ar, (.mk 0 [] 0 []), false, []⟩) hp
 clear hp
 refine aC [16] [21, 98] (H := NN) (live := iw) (by kernel_rfl) ?_; refine ob h1 ?_; refine oo hS ?_; refine oh n1 ?_; refine oh n2 ?_; refine oh n3 ?_; refine oo h9 ?_; exact oe e
theorem UA {l : List aq} {ds abs : List aU} {a ah : aU} {k k2 k3 k4 k5 k6 n i ar sp ai ej ek : Int} {b : List UInt8} {ts : List Ty} (h1 : bm i n = true) (hS : aK (env ay.aT) 60 [.dat (.slice (jd gX)), .dat (.flat (.int .i64 i))] = some ⟨.ref [sb b], .keep⟩)
  (n1 : bD l k 3 ar k2) (n2 : bD l k2 2 0 k3) (n3 : bD l k3 3 sp k4) (hsp : bm 0 sp = true)
  (hl : KD (.loop (roundOf Tryz.f28 1)) (fun e s => e = .exit 2 /\ s = (C0 (Ie b ar 0 [] (.dat nl) false (.dat nl)) l (aH ds) k4 n i ej (ah :: abs)).aw Tryz.f28.ntmps) ((Bk (Ie b ar 0 [] (.dat nl) false (.dat nl)) l (aH ds) k4 n i 0 []).aw Tryz.f28.ntmps))
  (n5 : bD l k4 (Int.ofNat (aH (ah :: abs)).length) ai k5) (hi : aK (env ay.aT) 23 [.dat (.slice (aH (ah :: abs))), .dat (.flat (.int .i64 ai))] = some ⟨.ref a.cells, .keep⟩)
  (hl2 : KD (.loop (roundOf Tryz.f28 2)) (fun e s => e = .exit 4 /\ s = (CW (tz (cellsD a.nm a.ar a.sup.kind a.sup.nm a.sup.D8 (ap a.sup.args) a.con (aR a.fl)) b ar a.nm ts false) l (aH ds) k6 n i ek).aw Tryz.f28.ntmps) ((CX (tz (cellsD a.nm a.ar a.sup.kind a.sup.nm a.sup.D8 (ap a.sup.args) a.con (aR a.fl)) b ar a.nm [] false) l (aH ds) k5 n i 0).aw Tryz.f28.ntmps))
  (hp : ds.length < 1000000000) {T : Exit -> aa -> Prop} (e : T .normal ((ld l (aH (ds ++ [⟨b, ar, (.mk 2 a.nm 0 ts), false, []⟩])) k6 n (aI .i64 (i + 1))).aw Tryz.f28.ntmps)) :
  KD (roundOf Tryz.f28 0) T ((ld l (aH ds) k n i).aw Tryz.f28.ntmps) := by
 have h9 := CE (t := ⟨b, ar, (.mk 2 a.nm 0 ts), false, []⟩) hp
 clear hp
 obtain ⟨anm, aar, ⟨akk, atn, aix, ala⟩, acon, afl⟩ := a
 have q1 := iJ 10 anm aar akk atn aix (ap ala) acon (aR afl)
 dsimp only [Ty.kind, Ty.nm, Ty.D8, Ty.args] at hi hl2 h9 e
 rcases ts with _ | ⟨z1, y1⟩ <;>
 ·refine aC [16, 31] [21, 56, 100010, 98] (H := NN) (live := iw) (by kernel_rfl) ?_; refine ob h1 ?_; refine oo hS ?_; refine oh n1 ?_; refine oh n2 ?_; refine oh n3 ?_; refine ob hsp ?_; refine lo hl ?_; rintro ex s ⟨rfl, rfl⟩; refine ⟨_, rfl, ?_⟩; refine oh n5 ?_; refine oo hi ?_; refine oo q1 ?_; refine lo hl2 ?_; rintro ex s ⟨rfl, rfl⟩; refine ⟨_, rfl, ?_⟩; refine oo h9 ?_; exact oe e
theorem Uz {l : List aq} {ds : List aU} {k k2 k3 k4 k7 n i ar : Int} {b : List UInt8} (h1 : bm i n = true) (hS : aK (env ay.aT) 60 [.dat (.slice (jd gX)), .dat (.flat (.int .i64 i))] = some ⟨.ref [sb b], .keep⟩)
  (n1 : bD l k 3 ar k2) (n2 : bD l k2 2 1 k3) (n3 : bD l k3 3 0 k4) (n6 : bD l k4 2 0 k7)
  (hp : ds.length < 1000000000) {T : Exit -> aa -> Prop} (e : T .normal ((ld l (aH (ds ++ [⟨b, ar, (.mk 0 [] 0 []), true, []⟩])) k7 n (aI .i64 (i + 1))).aw Tryz.f28.ntmps)) :
  KD (roundOf Tryz.f28 0) T ((ld l (aH ds) k n i).aw Tryz.f28.ntmps) := by
 have h9 := CE (t := ⟨b, ar, (.mk 0 [] 0 []), true, []⟩) hp
 clear hp
 refine aC [16] [21, 98] (H := NN) (live := iw) (by kernel_rfl) ?_; refine ob h1 ?_; refine oo hS ?_; refine oh n1 ?_; refine oh n2 ?_; refine oh n3 ?_; refine oh n6 ?_; refine oo h9 ?_; exact oe e
theorem Uy {l : List aq} {ds : List aU} {k k2 k3 k4 k7 k8 n i ar : Int} {b : List UInt8} {t : Ty} (h1 : bm i n = true) (hS : aK (env ay.aT) 60 [.dat (.slice (jd gX)), .dat (.flat (.int .i64 i))] = some ⟨.ref [sb b], .keep⟩)
  (n1 : bD l k 3 ar k2) (n2 : bD l k2 2 1 k3) (n3 : bD l k3 3 0 k4) (n6 : bD l k4 2 1 k7) (n7 : UX l (aH ds) 1 ar k7 t.enc k8)
  (hp : ds.length < 1000000000) {T : Exit -> aa -> Prop} (e : T .normal ((ld l (aH (ds ++ [⟨b, ar, (.mk 0 [] 0 []), true, [⟨[112, 97, 114, 116], t⟩]⟩])) k8 n (aI .i64 (i + 1))).aw Tryz.f28.ntmps)) :
  KD (roundOf Tryz.f28 0) T ((ld l (aH ds) k n i).aw Tryz.f28.ntmps) := by
 have h9 := CE (t := ⟨b, ar, (.mk 0 [] 0 []), true, [⟨[112, 97, 114, 116], t⟩]⟩) hp
 clear hp
 obtain ⟨ek2, en, ei, ea⟩ := t
 rcases ea with _ | ⟨z1, y1⟩ <;>
 ·refine aC [16] [21, 98] (H := NN) (live := iw) (by kernel_rfl) ?_; refine ob h1 ?_; refine oo hS ?_; refine oh n1 ?_; refine oh n2 ?_; refine oh n3 ?_; refine oh n6 ?_; refine oh n7 ?_; refine oo h9 ?_; exact oe e
theorem Ux {l : List aq} {ds abs : List aU} {a ah : aU} {k k2 k3 k4 k5 k6 k7 n i ar sp ai ej ek : Int} {b : List UInt8} {ts : List Ty} (h1 : bm i n = true) (hS : aK (env ay.aT) 60 [.dat (.slice (jd gX)), .dat (.flat (.int .i64 i))] = some ⟨.ref [sb b], .keep⟩)
  (n1 : bD l k 3 ar k2) (n2 : bD l k2 2 1 k3) (n3 : bD l k3 3 sp k4) (hsp : bm 0 sp = true)
  (hl : KD (.loop (roundOf Tryz.f28 1)) (fun e s => e = .exit 2 /\ s = (C0 (Ie b ar 0 [] (.dat nl) true (.dat nl)) l (aH ds) k4 n i ej (ah :: abs)).aw Tryz.f28.ntmps) ((Bk (Ie b ar 0 [] (.dat nl) true (.dat nl)) l (aH ds) k4 n i 0 []).aw Tryz.f28.ntmps))
  (n5 : bD l k4 (Int.ofNat (aH (ah :: abs)).length) ai k5) (hi : aK (env ay.aT) 23 [.dat (.slice (aH (ah :: abs))), .dat (.flat (.int .i64 ai))] = some ⟨.ref a.cells, .keep⟩)
  (hl2 : KD (.loop (roundOf Tryz.f28 2)) (fun e s => e = .exit 4 /\ s = (CW (tz (cellsD a.nm a.ar a.sup.kind a.sup.nm a.sup.D8 (ap a.sup.args) a.con (aR a.fl)) b ar a.nm ts true) l (aH ds) k6 n i ek).aw Tryz.f28.ntmps) ((CX (tz (cellsD a.nm a.ar a.sup.kind a.sup.nm a.sup.D8 (ap a.sup.args) a.con (aR a.fl)) b ar a.nm [] true) l (aH ds) k5 n i 0).aw Tryz.f28.ntmps)) (n6 : bD l k6 2 0 k7)
  (hp : ds.length < 1000000000) {T : Exit -> aa -> Prop} (e : T .normal ((ld l (aH (ds ++ [⟨b, ar, (.mk 2 a.nm 0 ts), true, []⟩])) k7 n (aI .i64 (i + 1))).aw Tryz.f28.ntmps)) :
  KD (roundOf Tryz.f28 0) T ((ld l (aH ds) k n i).aw Tryz.f28.ntmps) := by
 have h9 := CE (t := ⟨b, ar, (.mk 2 a.nm 0 ts), true, []⟩) hp
 clear hp
 obtain ⟨anm, aar, ⟨akk, atn, aix, ala⟩, acon, afl⟩ := a
 have q1 := iJ 10 anm aar akk atn aix (ap ala) acon (aR afl)
 dsimp only [Ty.kind, Ty.nm, Ty.D8, Ty.args] at hi hl2 h9 e
 rcases ts with _ | ⟨z1, y1⟩ <;>
 ·refine aC [16, 31] [21, 56, 100010, 98] (H := NN) (live := iw) (by kernel_rfl) ?_; refine ob h1 ?_; refine oo hS ?_; refine oh n1 ?_; refine oh n2 ?_; refine oh n3 ?_; refine ob hsp ?_; refine lo hl ?_; rintro ex s ⟨rfl, rfl⟩; refine ⟨_, rfl, ?_⟩; refine oh n5 ?_; refine oo hi ?_; refine oo q1 ?_; refine lo hl2 ?_; rintro ex s ⟨rfl, rfl⟩; refine ⟨_, rfl, ?_⟩; refine oh n6 ?_; refine oo h9 ?_; exact oe e
theorem Uw {l : List aq} {ds abs : List aU} {a ah : aU} {k k2 k3 k4 k5 k6 k7 k8 n i ar sp ai ej ek : Int} {b : List UInt8} {ts : List Ty} {t : Ty} (h1 : bm i n = true) (hS : aK (env ay.aT) 60 [.dat (.slice (jd gX)), .dat (.flat (.int .i64 i))] = some ⟨.ref [sb b], .keep⟩)
  (n1 : bD l k 3 ar k2) (n2 : bD l k2 2 1 k3) (n3 : bD l k3 3 sp k4) (hsp : bm 0 sp = true)
  (hl : KD (.loop (roundOf Tryz.f28 1)) (fun e s => e = .exit 2 /\ s = (C0 (Ie b ar 0 [] (.dat nl) true (.dat nl)) l (aH ds) k4 n i ej (ah :: abs)).aw Tryz.f28.ntmps) ((Bk (Ie b ar 0 [] (.dat nl) true (.dat nl)) l (aH ds) k4 n i 0 []).aw Tryz.f28.ntmps))
  (n5 : bD l k4 (Int.ofNat (aH (ah :: abs)).length) ai k5) (hi : aK (env ay.aT) 23 [.dat (.slice (aH (ah :: abs))), .dat (.flat (.int .i64 ai))] = some ⟨.ref a.cells, .keep⟩)
  (hl2 : KD (.loop (roundOf Tryz.f28 2)) (fun e s => e = .exit 4 /\ s = (CW (tz (cellsD a.nm a.ar a.sup.kind a.sup.nm a.sup.D8 (ap a.sup.args) a.con (aR a.fl)) b ar a.nm ts true) l (aH ds) k6 n i ek).aw Tryz.f28.ntmps) ((CX (tz (cellsD a.nm a.ar a.sup.kind a.sup.nm a.sup.D8 (ap a.sup.args) a.con (aR a.fl)) b ar a.nm [] true) l (aH ds) k5 n i 0).aw Tryz.f28.ntmps)) (n6 : bD l k6 2 1 k7) (n7 : UX l (aH ds) 1 ar k7 t.enc k8)
  (hp : ds.length < 1000000000) {T : Exit -> aa -> Prop} (e : T .normal ((ld l (aH (ds ++ [⟨b, ar, (.mk 2 a.nm 0 ts), true, [⟨[112, 97, 114, 116], t⟩]⟩])) k8 n (aI .i64 (i + 1))).aw Tryz.f28.ntmps)) :
  KD (roundOf Tryz.f28 0) T ((ld l (aH ds) k n i).aw Tryz.f28.ntmps) := by
 have h9 := CE (t := ⟨b, ar, (.mk 2 a.nm 0 ts), true, [⟨[112, 97, 114, 116], t⟩]⟩) hp
 clear hp
 obtain ⟨ek2, en, ei, ea⟩ := t
 obtain ⟨anm, aar, ⟨akk, atn, aix, ala⟩, acon, afl⟩ := a
 have q1 := iJ 10 anm aar akk atn aix (ap ala) acon (aR afl)
 dsimp only [Ty.kind, Ty.nm, Ty.D8, Ty.args] at hi hl2 h9 e
 rcases ts with _ | ⟨z2, y2⟩ <;>
 ·rcases ea with _ | ⟨z1, y1⟩ <;>
  ·refine aC [16, 31] [21, 56, 100010, 98] (H := NN) (live := iw) (by kernel_rfl) ?_; refine ob h1 ?_; refine oo hS ?_; refine oh n1 ?_; refine oh n2 ?_; refine oh n3 ?_; refine ob hsp ?_; refine lo hl ?_; rintro ex s ⟨rfl, rfl⟩; refine ⟨_, rfl, ?_⟩; refine oh n5 ?_; refine oo hi ?_; refine oo q1 ?_; refine lo hl2 ?_; rintro ex s ⟨rfl, rfl⟩; refine ⟨_, rfl, ?_⟩; refine oh n6 ?_; refine oh n7 ?_; refine oo h9 ?_; exact oe e
/-- A chain of steps, each of which there is. -/
theorem ON {α : Type} {n : Nat} {Inv : Nat -> α -> Prop} {R : Nat -> α -> α -> Prop} (a0 : α) (h0 : Inv 0 a0) (h : ∀ i a, i < n -> Inv i a -> ∃ b, R i a b /\ Inv (i + 1) b) :
  ∃ f : Nat -> α, f 0 = a0 /\ (∀ i, i <= n -> Inv i (f i)) /\ ∀ i, i < n -> R i (f i) (f (i + 1)) := by
 induction n with
 | zero =>
  refine ⟨fun _ => a0, rfl, ?_, fun i hi => absurd hi (Nat.not_lt_zero i)⟩
  intro i hi
  have : i = 0 := by omega
  subst this
  exact h0
 | succ n ih =>
  obtain ⟨f, h1, h2, h3⟩ := ih (fun i a hi => h i a (by omega))
  obtain ⟨b, hb, hi⟩ := h n (f n) (by omega) (h2 n (Nat.le_refl _))
  refine ⟨fun i => if i <= n then f i else b, by simp [h1], ?_, ?_⟩
  ·intro i hin
   dsimp only
   by_cases hi2 : i <= n
   ·rw [if_pos hi2]; exact h2 i hi2
   obtain rfl : i = n + 1 := by omega
   rw [if_neg hi2]; exact hi
  intro i hin
  dsimp only
  by_cases hi2 : i < n
  ·rw [if_pos (by omega : i <= n), if_pos (by omega : i + 1 <= n)]; exact h3 i hi2
  obtain rfl : i = n := by omega
  rw [if_pos (Nat.le_refl _), if_neg (by omega : ¬ i + 1 <= i)]; exact hb
def NS : List (List UInt8) := gG.map aU.nm ++ gX
/-- A declaration of the generator. -/
structure XX (d : aU) : Prop where
 cE : d.cE
 ar : ∃ n : Nat, d.ar = Int.ofNat n /\ n <= 2
 nm : d.nm ∈ NS
 flen : d.fl.length <= 2
structure GD (ds : List aU) : Prop where
 len : ds.length <= 900
 each : ∀ d ∈ ds, XX d
 abs : ∃ d ∈ ds, d.con = false
theorem Et {ds : List aU} {j : Nat} {t : aU} (h : ds[j]? = some t) : (ds.take (j + 1)).filter (fun d => !d.con) = (ds.take j).filter (fun d => !d.con) ++ (if t.con then [] else [t]) := by
 rw [eS h, List.filter_append]
 cases hc : t.con <;> simp [hc]
theorem kS {l : List aU} {i : Nat} (h : i < (aH l).length) : ∃ t, l[i]? = some t /\ t ∈ l := by
 rw [aW] at h
 exact ⟨l[i], List.getElem?_eq_getElem h, List.getElem_mem h⟩
theorem Q4 {b : List UInt8} {ar K n i : Int} {con : Bool} {l : List aq} {ds : List aU} (hb : ds.length < 1000000) :
  KD (.loop (roundOf Tryz.f28 1)) (fun e s => e = .exit 2 /\ s = (C0 (Ie b ar 0 [] (.dat nl) con (.dat nl)) l (aH ds) K n i (Int.ofNat ds.length) (ds.filter (fun d => !d.con))).aw Tryz.f28.ntmps)
   ((Bk (Ie b ar 0 [] (.dat nl) con (.dat nl)) l (aH ds) K n i 0 []).aw Tryz.f28.ntmps) := by
 refine bu (St := fun j => (Bk (Ie b ar 0 [] (.dat nl) con (.dat nl)) l (aH ds) K n i (Int.ofNat j) ((ds.take j).filter (fun d => !d.con))).aw Tryz.f28.ntmps) (aH ds).length ?_ ?_ (i := 0) (Nat.zero_le _)
 ·intro j hj
  obtain ⟨t, ht, hm⟩ := kS hj
  have hw : aI .i64 (Int.ofNat j + 1) = Int.ofNat (j + 1) := bn (by rw [aW] at hj; omega)
  have hft := Et ht
  refine N4 (fB hj) (rR ht) (by have := List.length_filter_le (fun d : aU => !d.con) (ds.take j); rw [List.length_take] at this; omega) ?_ ?_
  ·intro hc
   rw [hw]
   rw [hc] at hft
   simp only [if_true, List.append_nil] at hft
   rw [← hft]
   exact rfl
  intro hc
  rw [hw]
  rw [hc] at hft
  simp only [if_false, Bool.false_eq_true] at hft
  rw [← hft]
  exact rfl
 refine Q5 (iA (by omega)) ⟨rfl, ?_⟩
 rw [aW, List.take_length]
section
variable {l : List Int} {ds : List aU} (hl : l.length < 10000000) (hd : GD ds)
include hl hd
theorem Ca {k : Nat} (hk : k <= l.length) {v : Nat} (hv : v <= 2) : GR l (fun _ _ => True) 65 (aA ds 1 v) k :=
 (IH (P := fun _ _ => True) hl (by have := hd.len; omega) (fun d hm => by obtain ⟨n, h1, h2⟩ := (hd.each d hm).ar; exact ⟨n, h1, by omega, trivial⟩) (fun _ _ => trivial) trivial (l.length - k) k hk (Nat.le_refl _)).2.1 1 v (by omega) (by omega) (by omega)
omit hd in
theorem yo {t : Ty} {k k2 : Nat} (h : GT (fun _ _ => True) l.length t k k2) : t.cE := ⟨by have := h.size; have := h.top; omega, h.ix⟩
/-- A round of Extra. -/
theorem GY {n i k : Nat} (hk : k <= l.length) (hi : i < n) (hn : n <= 4) : ∃ d k2, XX d /\ k2 <= l.length /\ ∀ T : Exit -> aa -> Prop, T .normal ((ld (l.map iN) (aH (ds ++ [d])) (Int.ofNat k2) (Int.ofNat n) (Int.ofNat (i + 1))).aw Tryz.f28.ntmps) ->
  KD (roundOf Tryz.f28 0) T ((ld (l.map iN) (aH ds) (Int.ofNat k) (Int.ofNat n) (Int.ofNat i)).aw Tryz.f28.ntmps) := by
 have hb : l.length < 1000000000 := by omega
 have hw : aI .i64 (Int.ofNat i + 1) = Int.ofNat (i + 1) := bn (by omega)
 rw [← hw]
 obtain ⟨b, hbx, hS⟩ : ∃ b, b ∈ gX /\ aK (env ay.aT) _ [.dat (.slice (jd gX)), .dat (.flat (.int .i64 (Int.ofNat i)))] = some ⟨.ref [sb b], .keep⟩ := by
  have h4 : i < gX.length := by show i < 4; omega
  exact ⟨gX[i], List.getElem_mem h4, V4 (List.getElem?_eq_getElem h4)⟩
 have hbn : b ∈ NS := List.mem_append_right _ hbx
 have h1 := fB hi
 have hp : ds.length < 1000000000 := by have := hd.len; omega
 obtain ⟨ar, k2, ⟨a1, a2, a3, _⟩, n1⟩ := ey (n := 3) hb hk (by omega) (by omega)
 obtain ⟨cc, k3, ⟨b1, b2, b3, _⟩, n2⟩ := ey (n := 2) hb a3 (by omega) (by omega)
 obtain ⟨sp, k4, ⟨c1, c2, c3, _⟩, n3⟩ := ey (n := 3) hb b3 (by omega) (by omega)
 have hcc : cc = 0 ∨ cc = 1 := by omega
 have har : ∃ n : Nat, Int.ofNat ar = Int.ofNat n /\ n <= 2 := ⟨ar, rfl, by omega⟩
 have anyF : Ty.cE (.mk 0 [] 0 []) := ⟨by simp [Ty.size, aS], by simp [Ty.dD, cJ, aZ]⟩
 by_cases hsp : sp = 0
 ·subst hsp
  rcases hcc with rfl | rfl
  ·exact ⟨_, k4, ⟨⟨anyF, by simp, by simp⟩, har, hbn, by simp⟩, c3, fun T e => UB h1 hS n1 n2 n3 hp e⟩
  obtain ⟨fb, k7, ⟨f1, f2, f3, _⟩, n6⟩ := ey (n := 2) hb c3 (by omega) (by omega)
  have hfb : fb = 0 ∨ fb = 1 := by omega
  rcases hfb with rfl | rfl
  ·exact ⟨_, k7, ⟨⟨anyF, by simp, by simp⟩, har, hbn, by simp⟩, f3, fun T e => Uz h1 hS n1 n2 n3 n6 hp e⟩
  obtain ⟨t, k8, ht, n7⟩ := Ca hl hd f3 (v := ar) (by omega)
  have tf := yo hl ht
  exact ⟨_, k8, ⟨⟨anyF, by intro f hf; rw [List.mem_singleton.1 hf]; exact tf, by simp⟩, har, hbn, by simp⟩, ht.top, fun T e => Uy h1 hS n1 n2 n3 n6 n7 hp e⟩
 have hsp2 : bm 0 (Int.ofNat sp) = true := fB (a := 0) (by omega)
 have hfl := fun con => Q4 (b := b) (ar := Int.ofNat ar) (K := Int.ofNat k4) (n := Int.ofNat n) (i := Int.ofNat i) (con := con) (l := l.map iN) (ds := ds) (by have := hd.len; omega)
 obtain ⟨d0, hd0, hc0⟩ := hd.abs
 have hmem : ∀ x ∈ ds.filter (fun d => !d.con), x ∈ ds := fun x hx => (List.mem_filter.1 hx).1
 have hne : d0 ∈ ds.filter (fun d => !d.con) := List.mem_filter.2 ⟨hd0, by simp [hc0]⟩
 have hle := List.length_filter_le (fun d : aU => !d.con) ds
 cases hab : ds.filter (fun d => !d.con) with
 | nil => rw [hab] at hne; simp at hne
 | cons ah abs =>
  rw [hab] at hmem hle hfl
  obtain ⟨ai, k5, ⟨d1, d2, d3, _⟩, n5⟩ := ey (n := (aH (ah :: abs)).length) hb c3 (by simp [aH]) (by rw [aW]; have := hd.len; omega)
  obtain ⟨a, ha, ham⟩ := kS d1
  have hi := rR ha
  obtain ⟨m, hm1, hm2⟩ := (hd.each a (hmem a ham)).ar
  have hanm := (hd.each a (hmem a ham)).nm
  obtain ⟨ts, ks, e1, e2, e3, e4, e5, e6, e7, e8⟩ := Cv (g := 65) (args := aA ds 1 ar) (P := fun _ _ => True) d3 (fun k' hk' hkl => Ca hl hd hkl (by omega)) m
  have supF : Ty.cE (.mk 2 a.nm 0 ts) := ⟨by simp only [Ty.size]; omega, by simp only [Ty.dD]; exact ⟨by simp [aZ], e6⟩⟩
  have hl2 : ∀ con : Bool, KD (.loop (roundOf Tryz.f28 2)) (fun e s => e = .exit 4 /\ s = (CW (tz (cellsD a.nm a.ar a.sup.kind a.sup.nm a.sup.D8 (ap a.sup.args) a.con (aR a.fl)) b (Int.ofNat ar) a.nm ts con) (l.map iN) (aH ds) (Int.ofNat (ks m)) (Int.ofNat n) (Int.ofNat i) (Int.ofNat m)).aw Tryz.f28.ntmps)
    ((CX (tz (cellsD a.nm a.ar a.sup.kind a.sup.nm a.sup.D8 (ap a.sup.args) a.con (aR a.fl)) b (Int.ofNat ar) a.nm [] con) (l.map iN) (aH ds) (Int.ofNat k5) (Int.ofNat n) (Int.ofNat i) 0).aw Tryz.f28.ntmps) := by
   intro con
   rw [← e2]
   refine bu (St := fun j => (CX (tz (cellsD a.nm a.ar a.sup.kind a.sup.nm a.sup.D8 (ap a.sup.args) a.con (aR a.fl)) b (Int.ofNat ar) a.nm (ts.take j) con) (l.map iN) (aH ds) (Int.ofNat (ks j)) (Int.ofNat n) (Int.ofNat i) (Int.ofNat j)).aw Tryz.f28.ntmps) m ?_ ?_ (i := 0) (Nat.zero_le _)
   ·intro j hj
    have hti : ts[j]? = some ts[j] := List.getElem?_eq_getElem (by omega)
    refine LB (by rw [hm1]; exact fB hj) (e8 j _ hti) (by rw [List.length_take]; omega) ?_
    rw [bn (by omega), ← eS hti]
    exact rfl
   refine PO (by rw [hm1]; exact iA (by omega)) ⟨rfl, ?_⟩
   rw [List.take_of_length_le (by omega)]
  rcases hcc with rfl | rfl
  ·exact ⟨_, ks m, ⟨⟨supF, by simp, by simp⟩, har, hbn, by simp⟩, e4, fun T e => UA h1 hS n1 n2 n3 hsp2 (hfl false) n5 hi (hl2 false) hp e⟩
  obtain ⟨fb, k7, ⟨f1, f2, f3, _⟩, n6⟩ := ey (n := 2) hb e4 (by omega) (by omega)
  have hfb : fb = 0 ∨ fb = 1 := by omega
  rcases hfb with rfl | rfl
  ·exact ⟨_, k7, ⟨⟨supF, by simp, by simp⟩, har, hbn, by simp⟩, f3, fun T e => Ux h1 hS n1 n2 n3 hsp2 (hfl true) n5 hi (hl2 true) n6 hp e⟩
  obtain ⟨t, k8, ht, n7⟩ := Ca hl hd f3 (v := ar) (by omega)
  have tf := yo hl ht
  exact ⟨_, k8, ⟨⟨supF, by intro f hf; rw [List.mem_singleton.1 hf]; exact tf, by simp⟩, har, hbn, by simp⟩, ht.top, fun T e => Uw h1 hS n1 n2 n3 hsp2 (hfl true) n5 hi (hl2 true) n6 n7 hp e⟩
end
def RT (l : List aq) (ds : List aq) (K n i : Int) : ac := ⟨[(16, bv false), (6, iv i), (5, iv n), (0, eB), (1, .own ds)], [], eY l K, 1⟩
theorem Q8 {l ds : List aq} {k n i : Int} (h1 : bm i n = false) {T : Exit -> aa -> Prop} (e : T (.exit 0) ((RT l ds k n i).aw Tryz.f28.ntmps)) :
  KD (roundOf Tryz.f28 0) T ((ld l ds k n i).aw Tryz.f28.ntmps) := by
 refine aC [16] [] (H := NN) (live := iw) (by kernel_rfl) ?_; refine ob h1 ?_; exact oe e
theorem N9 {l ds ds2 : List aq} {k k2 k3 n : Int} (h1 : bD l k 5 n k2) (hl : KD (.loop (roundOf Tryz.f28 0)) (fun e s => e = .exit 0 /\ s = (RT l ds2 k3 n n).aw Tryz.f28.ntmps) ((ld l ds k2 n 0).aw Tryz.f28.ntmps)) :
  KC 28 [eB, .own ds] (eY l k) 1 (XQ ⟨.own ds2, eY l k3, 1⟩) := by
 refine co [] [] (x := .of Tryz.f28 H4 iw) ?_; refine oh h1 ?_; refine lo hl ?_; rintro ex s ⟨rfl, rfl⟩; refine ⟨_, rfl, ?_⟩; exact fi
theorem GD.add {ds : List aU} {d : aU} (h : GD ds) (hd : XX d) (hn : ds.length < 900) : GD (ds ++ [d]) where
 len := by simp; omega
 each := by
  intro x hx
  rcases List.mem_append.1 hx with hx | hx
  ·exact h.each x hx
  rw [List.mem_singleton.1 hx]; exact hd
 abs := by
  obtain ⟨d, h1, h2⟩ := h.abs
  exact ⟨d, List.mem_append_left _ h1, h2⟩
/-- Extra: up to four more. -/
theorem QY {l : List Int} {ds : List aU} (hl : l.length < 10000000) (hd : GD ds) (hn : ds.length <= 800) {k : Nat} (hk : k <= l.length) :
  ∃ (m : List aU) (k2 : Nat), GD (ds ++ m) /\ m.length <= 4 /\ k2 <= l.length /\ KC 28 [eB, .own (aH ds)] (eY (l.map iN) (Int.ofNat k)) 1 (XQ ⟨.own (aH (ds ++ m)), eY (l.map iN) (Int.ofNat k2), 1⟩) := by
 obtain ⟨n, k2, ⟨h1, h2, h3, _⟩, hc⟩ := ey (n := 5) (by omega : l.length < 1000000000) hk (by omega) (by omega)
 obtain ⟨f, f0, fI, fR⟩ := ON (α := List aU × Nat) (n := n) (Inv := fun i a => GD (ds ++ a.1) /\ a.1.length = i /\ a.2 <= l.length)
  (R := fun i a b => ∀ T : Exit -> aa -> Prop, T .normal ((ld (l.map iN) (aH (ds ++ b.1)) (Int.ofNat b.2) (Int.ofNat n) (Int.ofNat (i + 1))).aw Tryz.f28.ntmps) ->
   KD (roundOf Tryz.f28 0) T ((ld (l.map iN) (aH (ds ++ a.1)) (Int.ofNat a.2) (Int.ofNat n) (Int.ofNat i)).aw Tryz.f28.ntmps))
  ([], k2) ⟨by rw [List.append_nil]; exact hd, rfl, h3⟩ (by
   rintro i ⟨m, kk⟩ hi ⟨g1, g2, g3⟩
   obtain ⟨d, k3, hd3, hk3, hR⟩ := GY hl g1 g3 hi (by omega)
   refine ⟨(m ++ [d], k3), ?_, ?_, by simp at g2 ⊢; omega, hk3⟩
   ·intro T hT
    rw [← List.append_assoc] at hT
    exact hR T hT
   rw [← List.append_assoc]
   refine g1.add hd3 ?_
   simp at g2 ⊢; omega)
 obtain ⟨g1, g2, g3⟩ := fI n (Nat.le_refl _)
 refine ⟨(f n).1, (f n).2, g1, by omega, g3, N9 hc ?_⟩
 have e : ld (l.map iN) (aH ds) (Int.ofNat k2) (Int.ofNat n) 0 = ld (l.map iN) (aH (ds ++ (f 0).1)) (Int.ofNat (f 0).2) (Int.ofNat n) (Int.ofNat 0) := by rw [f0]; simp
 rw [e]
 refine bu (St := fun i => (ld (l.map iN) (aH (ds ++ (f i).1)) (Int.ofNat (f i).2) (Int.ofNat n) (Int.ofNat i)).aw Tryz.f28.ntmps) n ?_ ?_ (i := 0) (Nat.zero_le _)
 ·intro i hi
  exact fR i hi _ rfl
 exact Q8 (iA (by omega)) ⟨rfl, rfl⟩
theorem O7 : GD gG where
 len := by decide
 each := by
  have key : ∀ d ∈ gG, (d.sup.size < 100000000 /\ d.sup.dD) /\ (∀ f ∈ d.fl, f.ty.size < 100000000 /\ f.ty.dD) /\ d.fl.length <= 2 /\ (∃ n : Nat, d.ar = Int.ofNat n /\ n <= 2) := by
   intro d hd
   simp only [gG, List.mem_cons, List.mem_nil_iff, or_false] at hd
   rcases hd with rfl | rfl | rfl | rfl | rfl | rfl | rfl | rfl <;>
    simp [Ty.size, aS, Ty.dD, cJ, aZ, bm]
   all_goals first | exact ⟨0, rfl, by omega⟩ | exact ⟨1, rfl, by omega⟩ | exact ⟨2, rfl, by omega⟩
  intro d hd
  obtain ⟨h1, h2, h3, h4⟩ := key d hd
  exact ⟨⟨h1, h2, by omega⟩, h4, List.mem_append_left _ (List.mem_map_of_mem hd), h3⟩
 abs := ⟨_, List.mem_cons_self, rfl⟩
theorem Ow {l ds ds2 : List aq} {k : Int} (h1 : ag 43 [] (.own ds)) (h2 : KC 15 [.dat (.slice l)] [] 0 (XQ ⟨eB, eY l 0, 1⟩)) (h3 : KC 28 [eB, .own ds] (eY l 0) 1 (XQ ⟨.own ds2, eY l k, 1⟩)) :
  ag 9 [.dat (.slice l)] (.own ds2) := by
 refine co [] [] (x := .of Tryz.f9 S7 Sc) ?_; refine oh h2 ?_; refine on h1 ?_; refine oh h3 ?_; exact fi
/-- Decls: the base and up to four more. -/
theorem QZ {l : List Int} (hl : l.length < 10000000) : ∃ m : List aU, GD (gG ++ m) /\ m.length <= 4 /\ ag 9 [.dat (.slice (l.map iN))] (.own (aH (gG ++ m))) := by
 obtain ⟨m, k2, h1, h2, h3, h4⟩ := QY hl O7 (by decide) (Nat.zero_le _)
 exact ⟨m, h1, h2, Ow Tw Sm h4⟩
theorem PE {l ds : List aq} {k k2 : Int} {t : Ty} (h : dB l ds 3 0 k t.enc k2) : KC 21 [eB, .dat (.slice ds)] (eY l k) 1 (XQ ⟨.dat t.enc, eY l k2, 1⟩) := by
 obtain ⟨ek2, en, ei, ea⟩ := t
 rcases ea with _ | ⟨x, ea⟩ <;>
 ·refine co [] [] (x := .of Tryz.f21 MC NA) ?_; refine oh h ?_; exact fi
def jx (j : Nat) (k : Int) (nm : List UInt8) (ix : Int) (a : aq) : Heap := [(.loc j, .cells [iv k, .dat (sb nm), iv ix, .dat a])]
def vv (lo : Heap) (i n : Int) : ac := ⟨[(4, iv i), (3, iv n), (1, .ptr (.loc 1) 0)], lo, [], 0⟩
def zY (lo : Heap) (i n : Int) : ac := ⟨[(9, bv false), (4, iv i), (3, iv n), (1, .ptr (.loc 1) 0)], lo, [], 0⟩
theorem kA {l : List Ty} {i : Nat} (h : i < (ap l).length) : sl (ap l) = .slice (ap l) := by cases l with | nil => simp [ap] at h | cons x r => rfl
noncomputable def XE : Hints := ⟨au, BD, ax, rowsOf ax 175⟩
theorem LF {k : Int} {nm : List UInt8} {ix n m : Int} {l : List Ty} {t : Ty} {i : Nat} (hi : i < (ap l).length) (ht : l[i]? = some t) (hc : ag 175 [.dat t.enc] (iv m)) {T : Exit -> aa -> Prop}
  (e : T .normal ((vv (jx 1 k nm ix (.slice (ap l))) (aI .i64 (Int.ofNat i + 1)) (aI .i64 (n + m))).aw Tryz.f175.ntmps)) :
  KD (roundOf Tryz.f175 0) T ((vv (jx 1 k nm ix (.slice (ap l))) (Int.ofNat i) n).aw Tryz.f175.ntmps) := by
 have h1 := bH hi
 have h2 := jX ht
 generalize ap l = es at *
 clear ht hi
 obtain ⟨k2, nm2, ix2, a2⟩ := t
 rcases a2 with _ | ⟨b, d⟩ <;>
 ·refine aC [9] [16] (H := XE) (live := rI) (by kernel_rfl) ?_; refine ob h1 ?_; refine oo h2 ?_; refine on hc ?_; exact oe e
theorem PQ {k : Int} {nm : List UInt8} {ix n : Int} {l : List aq} {T : Exit -> aa -> Prop} (e : T (.exit 0) ((zY (jx 1 k nm ix (sl l)) (Int.ofNat l.length) n).aw Tryz.f175.ntmps)) :
  KD (roundOf Tryz.f175 0) T ((vv (jx 1 k nm ix (sl l)) (Int.ofNat l.length) n).aw Tryz.f175.ntmps) := by
 have h1 := bR (i := l.length) (L := l.length) (by omega)
 rcases l with _ | ⟨x, l⟩
 ·refine aC [] [] (H := XE) (live := rI) (by kernel_rfl) ?_; exact oe e
 refine aC [9] [] (H := XE) (live := rI) (by kernel_rfl) ?_; refine ob h1 ?_; exact oe e
theorem SY {k : Int} {nm : List UInt8} {ix n : Int} {l : List aq} (hl : KD (.loop (roundOf Tryz.f175 0)) (fun e s => e = .exit 0 /\ s = (zY (jx 1 k nm ix (sl l)) (Int.ofNat l.length) n).aw Tryz.f175.ntmps) ((vv (jx 1 k nm ix (sl l)) (Int.ofNat 0) 1).aw Tryz.f175.ntmps)) :
  ag 175 [.dat (.agg [i64 k, sb nm, i64 ix, sl l])] (iv n) := by
 rcases l with _ | ⟨x, l⟩ <;>
 ·refine co [] [] (x := .of Tryz.f175 BD rI) ?_; refine lo hl ?_; rintro ex s ⟨rfl, rfl⟩; refine ⟨_, rfl, ?_⟩; exact fi
mutual
theorem LW : ∀ t : Ty, t.size < 1000000000 -> ag 175 [.dat t.enc] (iv (Int.ofNat t.size))
 | .mk k nm ix l, h => by
  simp only [Ty.size] at h
  have ih := HH l (by omega)
  have hlen := ew l
  refine SY ?_
  rw [show Int.ofNat (Ty.mk k nm ix l).size = Int.ofNat (1 + aS l) by simp only [Ty.size]; rw [Nat.add_comm]]
  refine bu (St := fun i => (vv (jx 1 k nm ix (sl (ap l))) (Int.ofNat i) (Int.ofNat (1 + aS (l.take i)))).aw Tryz.f175.ntmps) (ap l).length ?_ ?_ (i := 0) (Nat.zero_le _)
  ·intro i hi
   obtain ⟨t, ht, hm⟩ := get_mem hi
   have hs := jR ht
   have hle := qX (l := l) (i + 1)
   have hsl := kA hi
   have e := LF (k := k) (nm := nm) (ix := ix) (n := Int.ofNat (1 + aS (l.take i))) hi ht (ih t hm) (T := qc (fun s => s = (vv (jx 1 k nm ix (sl (ap l))) (Int.ofNat (i + 1)) (Int.ofNat (1 + aS (l.take (i + 1))))).aw Tryz.f175.ntmps) (fun e s => e = .exit 0 /\ s = (zY (jx 1 k nm ix (sl (ap l))) (Int.ofNat (ap l).length) (Int.ofNat (1 + aS l))).aw Tryz.f175.ntmps)) (by
    rw [aE] at hi
    rw [bn (by omega), wrap_add (by omega), hs, hsl, Nat.add_assoc]
    rfl)
   rw [hsl] at e ⊢
   exact e
  refine PQ ⟨rfl, ?_⟩
  rw [aE, List.take_length]
theorem HH : ∀ l : List Ty, aS l < 1000000000 -> ∀ t ∈ l, ag 175 [.dat t.enc] (iv (Int.ofNat t.size))
 | [], _, t, ht => by simp at ht
 | u :: r, h, t, ht => by
  simp only [aS] at h
  rcases List.mem_cons.1 ht with h1 | ht
  ·rw [h1]; exact LW u (by omega)
  exact HH r (by omega) t ht
end
noncomputable def XH : Hints := ⟨au, BC, ax, rowsOf ax 176⟩
theorem LR {k : Int} {nm : List UInt8} {ix : Int} {n m : Nat} {l : List Ty} {t : Ty} {i : Nat} (hi : i < (ap l).length) (ht : l[i]? = some t) (hc : ag 176 [.dat t.enc] (iv (Int.ofNat m))) {T : Exit -> aa -> Prop}
  (e : T .normal ((vv (jx 1 k nm ix (.slice (ap l))) (aI .i64 (Int.ofNat i + 1)) (match bm (Int.ofNat n) (Int.ofNat m) with | true => Int.ofNat m | false => Int.ofNat n)).aw Tryz.f176.ntmps)) :
  KD (roundOf Tryz.f176 0) T ((vv (jx 1 k nm ix (.slice (ap l))) (Int.ofNat i) (Int.ofNat n)).aw Tryz.f176.ntmps) := by
 have h1 := bH hi
 have h2 := jX ht
 generalize ap l = es at *
 clear ht hi
 obtain ⟨k2, nm2, ix2, a2⟩ := t
 rcases a2 with _ | ⟨b, d⟩ <;>
 ·refine aC [9] [16] (H := XH) (live := rH) (by kernel_rfl) ?_; refine ob h1 ?_; refine oo h2 ?_; refine on hc ?_; exact oe e
theorem PY {k : Int} {nm : List UInt8} {ix n : Int} {l : List aq} {T : Exit -> aa -> Prop} (e : T (.exit 0) ((zY (jx 1 k nm ix (sl l)) (Int.ofNat l.length) n).aw Tryz.f176.ntmps)) :
  KD (roundOf Tryz.f176 0) T ((vv (jx 1 k nm ix (sl l)) (Int.ofNat l.length) n).aw Tryz.f176.ntmps) := by
 have h1 := bR (i := l.length) (L := l.length) (by omega)
 rcases l with _ | ⟨x, l⟩
 ·refine aC [] [] (H := XH) (live := rH) (by kernel_rfl) ?_; exact oe e
 refine aC [9] [] (H := XH) (live := rH) (by kernel_rfl) ?_; refine ob h1 ?_; exact oe e
theorem S3 {k : Int} {nm : List UInt8} {ix n : Int} {l : List aq} (hl : KD (.loop (roundOf Tryz.f176 0)) (fun e s => e = .exit 0 /\ s = (zY (jx 1 k nm ix (sl l)) (Int.ofNat l.length) n).aw Tryz.f176.ntmps) ((vv (jx 1 k nm ix (sl l)) (Int.ofNat 0) 0).aw Tryz.f176.ntmps)) :
  ag 176 [.dat (.agg [i64 k, sb nm, i64 ix, sl l])] (iv (aI .i64 (n + 1))) := by
 rcases l with _ | ⟨x, l⟩ <;>
 ·refine co [] [] (x := .of Tryz.f176 BC rH) ?_; refine lo hl ?_; rintro ex s ⟨rfl, rfl⟩; refine ⟨_, rfl, ?_⟩; exact fi
mutual
theorem HL : ∀ t : Ty, t.size < 1000000000 -> ag 176 [.dat t.enc] (iv (Int.ofNat t.depth))
 | .mk k nm ix l, h => by
  simp only [Ty.size] at h
  have ih := Du l (by omega)
  have hlen := ew l
  have hdl := jf l
  rw [show Int.ofNat (Ty.mk k nm ix l).depth = aI .i64 (Int.ofNat (bG l) + 1) by rw [bn (by omega)]; rfl]
  refine S3 ?_
  refine bu (St := fun i => (vv (jx 1 k nm ix (sl (ap l))) (Int.ofNat i) (Int.ofNat (bG (l.take i)))).aw Tryz.f176.ntmps) (ap l).length ?_ ?_ (i := 0) (Nat.zero_le _)
  ·intro i hi
   obtain ⟨t, ht, hm⟩ := get_mem hi
   have hs := va ht
   have hsl := kA hi
   have e := LR (k := k) (nm := nm) (ix := ix) (n := bG (l.take i)) hi ht (ih t hm) (T := qc (fun s => s = (vv (jx 1 k nm ix (sl (ap l))) (Int.ofNat (i + 1)) (Int.ofNat (bG (l.take (i + 1))))).aw Tryz.f176.ntmps) (fun e s => e = .exit 0 /\ s = (zY (jx 1 k nm ix (sl (ap l))) (Int.ofNat (ap l).length) (Int.ofNat (bG l))).aw Tryz.f176.ntmps)) (by
    rw [aE] at hi
    rw [bn (by omega), hs, hsl]
    have e2 : (match bm (Int.ofNat (bG (l.take i))) (Int.ofNat t.depth) with | true => Int.ofNat t.depth | false => Int.ofNat (bG (l.take i))) = Int.ofNat (max (bG (l.take i)) t.depth) := by
     rw [jj]
     by_cases hlt : bG (l.take i) < t.depth
     ·rw [decide_eq_true hlt, Nat.max_eq_right (by omega)]
     rw [decide_eq_false hlt, Nat.max_eq_left (by omega)]
    rw [e2]
    rfl)
   rw [hsl] at e ⊢
   exact e
  refine PY ⟨rfl, ?_⟩
  rw [aE, List.take_length]
theorem Du : ∀ l : List Ty, aS l < 1000000000 -> ∀ t ∈ l, ag 176 [.dat t.enc] (iv (Int.ofNat t.depth))
 | [], _, t, ht => by simp at ht
 | u :: r, h, t, ht => by
  simp only [aS] at h
  rcases List.mem_cons.1 ht with h1 | ht
  ·rw [h1]; exact HL u (by omega)
  exact Du r (by omega) t ht
end
def JC (c : Bool) : Int := match c with | true => -1 | false => 1
theorem HJ (c : Bool) : ag 96 [bv c] (iv (JC c)) := by
 cases c <;> exact oK _ _ _ _ _ (by kernel_rfl)
noncomputable def XI : Hints := ⟨au, uL, ax, rowsOf ax 61⟩
def Qi (k : Int) (nm : List UInt8) (ix : Int) (a : aq) (k2 : Int) (nm2 : List UInt8) (ix2 : Int) (a2 : aq) : Heap := [(.loc 3, .cells [iv k2, .dat (sb nm2), iv ix2, .dat a2]), (.loc 2, .cells [iv k, .dat (sb nm), iv ix, .dat a])]
def UZ (lo : Heap) (i : Int) : ac := ⟨[(5, iv i), (3, .ptr (.loc 3) 0), (2, .ptr (.loc 2) 0)], lo, [], 0⟩
def SK (lo : Heap) (i : Int) : ac := ⟨[(63, bv false), (5, iv i), (3, .ptr (.loc 3) 0), (2, .ptr (.loc 2) 0)], lo, [], 0⟩
def SL (c : Int) : ac := ⟨[(4, iv c)], [], [], 0⟩
theorem LS {k : Int} {nm : List UInt8} {ix : Int} {l : List Ty} {k2 : Int} {nm2 : List UInt8} {ix2 : Int} {l2 : List Ty} {t u : Ty} {i : Nat} {c : Int} {cz : Bool} (hi : i < (ap l).length) (ht : l[i]? = some t) (hu : l2[i]? = some u) (hc : ag 61 [.dat t.enc, .dat u.enc] (iv c)) (hz : aZ c 0 = cz) {T : Exit -> aa -> Prop}
  (e1 : cz = true -> T .normal ((UZ (Qi k nm ix (.slice (ap l)) k2 nm2 ix2 (.slice (ap l2))) (aI .i64 (Int.ofNat i + 1))).aw Tryz.f61.ntmps)) (e2 : cz = false -> T .ret ((SL c).aw Tryz.f61.ntmps)) :
  KD (roundOf Tryz.f61 0) T ((UZ (Qi k nm ix (.slice (ap l)) k2 nm2 ix2 (.slice (ap l2))) (Int.ofNat i)).aw Tryz.f61.ntmps) := by
 have h1 := bH hi
 have h2 := jX ht
 have h3 := jX hu
 generalize ap l = es at *
 generalize ap l2 = es2 at *
 clear ht hi hu
 obtain ⟨tk, tn, tix, ta⟩ := t
 obtain ⟨uk, un, uix, ua⟩ := u
 rcases ta with _ | ⟨b, d⟩ <;>
 ·rcases ua with _ | ⟨b2, d2⟩ <;>
  ·refine aC [63, 78] [69, 74] (H := XI) (live := mw) (by kernel_rfl) ?_; refine ob h1 ?_; refine oo h2 ?_; refine oo h3 ?_; refine on hc ?_; refine ox hz ?_
   cases cz
   ·exact oe (e2 rfl)
   exact oe (e1 rfl)
theorem P0 {k : Int} {nm : List UInt8} {ix : Int} {l : List aq} {k2 : Int} {nm2 : List UInt8} {ix2 : Int} {a : List aq} {T : Exit -> aa -> Prop} (e : T (.exit 1) ((SK (Qi k nm ix (sl l) k2 nm2 ix2 (sl a)) (Int.ofNat l.length)).aw Tryz.f61.ntmps)) :
  KD (roundOf Tryz.f61 0) T ((UZ (Qi k nm ix (sl l) k2 nm2 ix2 (sl a)) (Int.ofNat l.length)).aw Tryz.f61.ntmps) := by
 have h1 := bR (i := l.length) (L := l.length) (by omega)
 rcases l with _ | ⟨x, l⟩
 ·refine aC [] [] (H := XI) (live := mw) (by kernel_rfl) ?_; exact oe e
 refine aC [63] [] (H := XI) (live := mw) (by kernel_rfl) ?_; refine ob h1 ?_; exact oe e
def HE (c1 c2 c3 c4 c5 c6 c7 c8 : Bool) (r : Int) : Int := match c1 with | false => JC c5 | true => match c2 with | false => JC c6 | true => match c3 with | false => JC c7 | true => match c4 with | false => JC c8 | true => r
theorem S5 {k : Int} {nm : List UInt8} {ix : Int} {l : List aq} {k2 : Int} {nm2 : List UInt8} {ix2 : Int} {l2 : List aq} {c1 c2 c3 c4 c5 c6 c7 c8 : Bool} {r : Int} (h1 : aZ k k2 = c1) (h2 : dt nm nm2 = c2) (h3 : aZ ix ix2 = c3) (h4 : aZ (Int.ofNat l.length) (Int.ofNat l2.length) = c4) (h5 : bm k k2 = c5) (h6 : JL nm nm2 = c6) (h7 : bm ix ix2 = c7) (h8 : bm (Int.ofNat l.length) (Int.ofNat l2.length) = c8)
 (hl : c4 = true -> KD (.loop (roundOf Tryz.f61 0)) (fun e s => (e = .exit 1 /\ r = 0 /\ s = (SK (Qi k nm ix (sl l) k2 nm2 ix2 (sl l2)) (Int.ofNat l.length)).aw Tryz.f61.ntmps) ∨ (e = .ret /\ s = (SL r).aw Tryz.f61.ntmps)) ((UZ (Qi k nm ix (sl l) k2 nm2 ix2 (sl l2)) (Int.ofNat 0)).aw Tryz.f61.ntmps)) :
 ag 61 [.dat (.agg [i64 k, sb nm, i64 ix, sl l]), .dat (.agg [i64 k2, sb nm2, i64 ix2, sl l2])] (iv (HE c1 c2 c3 c4 c5 c6 c7 c8 r)) := by
 have o1 := HJ true
 have o2 := HJ false
 rcases l with _ | ⟨x, l⟩
 ·rcases l2 with _ | ⟨y, l2⟩
  ·have z : c4 = true := h4.symm
   subst z
   have hl2 := hl rfl
   clear hl h4 h8
   refine co [12, 24, 36, 41, 29, 17] [] (x := .of Tryz.f61 uL mw) ?_; refine ox h1 ?_
   cases c1
   ·refine ob h5 ?_
    cases c5
    ·refine on o2 ?_; exact fi
    refine on o1 ?_; exact fi
   refine ox h2 ?_
   cases c2
   ·refine ob h6 ?_
    cases c6
    ·refine on o2 ?_; exact fi
    refine on o1 ?_; exact fi
   refine ox h3 ?_
   cases c3
   ·refine ob h7 ?_
    cases c7
    ·refine on o2 ?_; exact fi
    refine on o1 ?_; exact fi
   refine lo hl2 ?_
   rintro ex s (⟨rfl, rfl, rfl⟩ | ⟨rfl, rfl⟩) <;>
   ·refine ⟨_, rfl, ?_⟩; exact fi
  have z : c4 = false := h4.symm
  have z8 : c8 = true := h8.symm
  subst z z8
  clear hl h4 h8
  refine co [12, 24, 36, 41, 29, 17] [] (x := .of Tryz.f61 uL mw) ?_; refine ox h1 ?_
  cases c1
  ·refine ob h5 ?_
   cases c5
   ·refine on o2 ?_; exact fi
   refine on o1 ?_; exact fi
  refine ox h2 ?_
  cases c2
  ·refine ob h6 ?_
   cases c6
   ·refine on o2 ?_; exact fi
   refine on o1 ?_; exact fi
  refine ox h3 ?_
  cases c3
  ·refine ob h7 ?_
   cases c7
   ·refine on o2 ?_; exact fi
   refine on o1 ?_; exact fi
  refine on o1 ?_; exact fi
 rcases l2 with _ | ⟨y, l2⟩
 ·have z : c4 = false := h4.symm
  have z8 : c8 = false := h8.symm
  subst z z8
  clear hl h4 h8
  refine co [12, 24, 36, 41, 29, 17] [] (x := .of Tryz.f61 uL mw) ?_; refine ox h1 ?_
  cases c1
  ·refine ob h5 ?_
   cases c5
   ·refine on o2 ?_; exact fi
   refine on o1 ?_; exact fi
  refine ox h2 ?_
  cases c2
  ·refine ob h6 ?_
   cases c6
   ·refine on o2 ?_; exact fi
   refine on o1 ?_; exact fi
  refine ox h3 ?_
  cases c3
  ·refine ob h7 ?_
   cases c7
   ·refine on o2 ?_; exact fi
   refine on o1 ?_; exact fi
  refine on o2 ?_; exact fi
 cases c4
 ·clear hl
  refine co [12, 24, 36, 50, 57, 41, 29, 17] [] (x := .of Tryz.f61 uL mw) ?_; refine ox h1 ?_
  cases c1
  ·refine ob h5 ?_
   cases c5
   ·refine on o2 ?_; exact fi
   refine on o1 ?_; exact fi
  refine ox h2 ?_
  cases c2
  ·refine ob h6 ?_
   cases c6
   ·refine on o2 ?_; exact fi
   refine on o1 ?_; exact fi
  refine ox h3 ?_
  cases c3
  ·refine ob h7 ?_
   cases c7
   ·refine on o2 ?_; exact fi
   refine on o1 ?_; exact fi
  refine ox h4 ?_; refine ob h8 ?_
  cases c8
  ·refine on o2 ?_; exact fi
  refine on o1 ?_; exact fi
 have hl2 := hl rfl
 clear hl
 refine co [12, 24, 36, 50, 41, 29, 17] [] (x := .of Tryz.f61 uL mw) ?_; refine ox h1 ?_
 cases c1
 ·refine ob h5 ?_
  cases c5
  ·refine on o2 ?_; exact fi
  refine on o1 ?_; exact fi
 refine ox h2 ?_
 cases c2
 ·refine ob h6 ?_
  cases c6
  ·refine on o2 ?_; exact fi
  refine on o1 ?_; exact fi
 refine ox h3 ?_
 cases c3
 ·refine ob h7 ?_
  cases c7
  ·refine on o2 ?_; exact fi
  refine on o1 ?_; exact fi
 refine ox h4 ?_; refine lo hl2 ?_
 rintro ex s (⟨rfl, rfl, rfl⟩ | ⟨rfl, rfl⟩) <;>
 ·refine ⟨_, rfl, ?_⟩; exact fi
mutual
def FD : Ty -> Ty -> Int
 | .mk k nm ix l, .mk k2 nm2 ix2 l2 => HE (aZ k k2) (dt nm nm2) (aZ ix ix2) (aZ (Int.ofNat (ap l).length) (Int.ofNat (ap l2).length)) (bm k k2) (JL nm nm2) (bm ix ix2) (bm (Int.ofNat (ap l).length) (Int.ofNat (ap l2).length)) (HF l l2)
def HF : List Ty -> List Ty -> Int
 | t :: r, u :: v => match aZ (FD t u) 0 with | true => HF r v | false => FD t u
 | _, _ => 0
end
theorem LU {l l2 : List Ty} {i : Nat} {t u : Ty} (ht : l[i]? = some t) (hu : l2[i]? = some u) : HF (l.drop i) (l2.drop i) = (match aZ (FD t u) 0 with | true => HF (l.drop (i + 1)) (l2.drop (i + 1)) | false => FD t u) := by rw [dx ht, dx hu, HF]
theorem PZ {k : Int} {nm : List UInt8} {ix : Int} {l : List Ty} {k2 : Int} {nm2 : List UInt8} {ix2 : Int} {l2 : List Ty} (hlen : l.length = l2.length) (hb : l.length < 1000000000) (ih : ∀ t ∈ l, ∀ u ∈ l2, ag 61 [.dat t.enc, .dat u.enc] (iv (FD t u))) :
  KD (.loop (roundOf Tryz.f61 0)) (fun e s => (e = .exit 1 /\ HF l l2 = 0 /\ s = (SK (Qi k nm ix (sl (ap l)) k2 nm2 ix2 (sl (ap l2))) (Int.ofNat (ap l).length)).aw Tryz.f61.ntmps) ∨ (e = .ret /\ s = (SL (HF l l2)).aw Tryz.f61.ntmps)) ((UZ (Qi k nm ix (sl (ap l)) k2 nm2 ix2 (sl (ap l2))) (Int.ofNat 0)).aw Tryz.f61.ntmps) := by
 refine cj (St := fun i => (UZ (Qi k nm ix (sl (ap l)) k2 nm2 ix2 (sl (ap l2))) (Int.ofNat i)).aw Tryz.f61.ntmps) (fun i => HF l l2 = HF (l.drop i) (l2.drop i)) (ap l).length ?_ ?_ (i := 0) (Nat.zero_le _) rfl
 ·intro i hi hI
  obtain ⟨t, ht, hm⟩ := get_mem hi
  have hi2 := hi
  rw [aE] at hi2
  have hu : l2[i]? = some l2[i] := List.getElem?_eq_getElem (by omega)
  have hm2 : l2[i] ∈ l2 := List.getElem_mem _
  generalize l2[i] = u at hu hm2
  have h := ih t hm u hm2
  have hd := LU ht hu
  rw [← hI] at hd
  have hw : aI .i64 (Int.ofNat i + 1) = Int.ofNat (i + 1) := bn (by omega)
  have hs1 := kA hi
  have hs2 : sl (ap l2) = .slice (ap l2) := kA (i := i) (by rw [aE]; omega)
  rw [hs1, hs2]
  generalize FD t u = c at h hd
  refine LS hi ht hu h rfl ?_ ?_
  ·intro hz
   rw [hz] at hd
   rw [hw]
   exact ⟨rfl, hd⟩
  intro hz
  rw [hz] at hd
  dsimp only at hd
  exact .inr ⟨rfl, by rw [hd]⟩
 intro hI
 refine P0 (.inl ⟨rfl, ?_, rfl⟩)
 rw [hI, aE, List.drop_length]
 cases l2.drop l.length <;> rfl
mutual
theorem xB : ∀ (t u : Ty), t.thin -> ag 61 [.dat t.enc, .dat u.enc] (iv (FD t u))
 | .mk k nm ix l, .mk k2 nm2 ix2 l2, h => by
  simp only [Ty.thin] at h
  have ih := uF l h.2
  rw [FD]
  refine S5 rfl rfl rfl rfl rfl rfl rfl rfl (fun he => ?_)
  rw [tO, aE, aE] at he
  exact PZ (by simpa using he) h.1 (fun t ht u _ => ih t ht u)
theorem uF : ∀ l : List Ty, fQ l -> ∀ t ∈ l, ∀ u, ag 61 [.dat t.enc, .dat u.enc] (iv (FD t u))
 | [], _, t, ht, _ => by simp at ht
 | x :: r, h, t, ht, u => by
  simp only [fQ] at h
  rcases List.mem_cons.1 ht with h1 | ht
  ·rw [h1]; exact xB x u h.1
  exact uF r h.2 t ht u
end
theorem VN {k ix k2 ix2 r : Int} {nm nm2 : List UInt8} {l l2 : List aq} {c : Bool} (h : ag 61 [.dat (.agg [i64 k, sb nm, i64 ix, sl l]), .dat (.agg [i64 k2, sb nm2, i64 ix2, sl l2])] (iv r)) (hc : aZ r 0 = c) : ag 24 [.dat (.agg [i64 k, sb nm, i64 ix, sl l]), .dat (.agg [i64 k2, sb nm2, i64 ix2, sl l2])] (bv c) := by
 rcases l with _ | ⟨x, l⟩ <;>
 ·rcases l2 with _ | ⟨y, l2⟩ <;>
  ·refine co [8] [] (x := .of Tryz.f24 MA Ny) ?_; refine on h ?_; refine ob hc ?_
   cases c <;>
   ·exact fi
def VO (t u : Ty) : Bool := aZ (FD t u) 0
theorem xz (t u : Ty) (h : t.thin) : ag 24 [.dat t.enc, .dat u.enc] (bv (VO t u)) := by
 have h1 := xB t u h
 obtain ⟨k, nm, ix, l⟩ := t
 obtain ⟨k2, nm2, ix2, l2⟩ := u
 exact VN h1 rfl
theorem P1 (t u : Ty) (h : t.size < 1000000000) : ag 24 [.dat t.enc, .dat u.enc] (bv (VO t u)) := xz t u (qR t h)
/-! ### Equal terms are the same -/
theorem P9 (c : Bool) : JC c ≠ 0 := by cases c <;> decide
theorem lp {a b : List UInt8} (h : dt a b = true) : a = b := by rw [ke] at h; simpa using h
theorem jl {a b : Int} (h : aZ a b = true) : a = b := by rw [fV] at h; simpa using h
theorem FE {c1 c2 c3 c4 c5 c6 c7 c8 : Bool} {r : Int} (h : HE c1 c2 c3 c4 c5 c6 c7 c8 r = 0) : c1 = true /\ c2 = true /\ c3 = true /\ c4 = true /\ r = 0 := by
 cases c1 <;> cases c2 <;> cases c3 <;> cases c4 <;> simp [HE, P9] at h ⊢ <;> exact h
mutual
theorem Dn : ∀ (t u : Ty), FD t u = 0 -> t = u
 | .mk k nm ix l, .mk k2 nm2 ix2 l2, h => by
  rw [FD] at h
  obtain ⟨h1, h2, h3, h4, h5⟩ := FE h
  rw [jl h1, lp h2, jl h3]
  rw [tO, aE, aE] at h4
  rw [Dq l l2 (by simpa using h4) h5]
theorem Dq : ∀ (l l2 : List Ty), l.length = l2.length -> HF l l2 = 0 -> l = l2
 | [], [], _, _ => rfl
 | [], _ :: _, h, _ => by simp at h
 | _ :: _, [], h, _ => by simp at h
 | t :: r, u :: v, h, h2 => by
  rw [HF] at h2
  cases hz : aZ (FD t u) 0 with
  | true =>
   rw [hz] at h2
   rw [Dn t u (jl hz), Dq r v (by simpa using h) h2]
  | false =>
   rw [hz] at h2
   dsimp only at h2
   rw [h2, dJ] at hz
   simp at hz
end
mutual
theorem Dp : ∀ t : Ty, FD t t = 0
 | .mk k nm ix l => by rw [FD, dJ, lS, dJ, dJ, Dr l]; rfl
theorem Dr : ∀ l : List Ty, HF l l = 0
 | [] => by simp [HF]
 | t :: r => by rw [HF, Dp t, dJ, Dr r]
end
theorem Bs {t u : Ty} : VO t u = true ↔ t = u := by
 unfold VO
 constructor
 ·intro h; exact Dn t u (jl h)
 rintro rfl; rw [Dp, dJ]
theorem sm (nm : List UInt8) (ar k : Int) (tn : List UInt8) (ix : Int) (la : List aq) (con : Bool) (lb : List aq) :
  RI [.dat (eC nm ar k tn ix la con lb)] = some ⟨.undef, .new (.cells (cellsD nm ar k tn ix la con lb))⟩ := by
 rcases la with _ | ⟨x, la⟩ <;> rcases lb with _ | ⟨y, lb⟩ <;> kernel_rfl
theorem B3 (t : Bool) (l : Nat) (nm : List UInt8) (ar k : Int) (tn : List UInt8) (ix : Int) (la : List aq) (con : Bool) (lb : List aq) :
  ki (env ay.aT) t 32 [.ptr (.loc l) 2] (some (.cells (cellsD nm ar k tn ix la con lb))) = some ⟨.dat (.agg [i64 k, sb tn, i64 ix, sl la]), .keep⟩ := by
 cases t <;> rcases la with _ | ⟨x, la⟩ <;> rcases lb with _ | ⟨y, lb⟩ <;> kernel_rfl
def bJ (nm : List UInt8) (ar k : Int) (tn : List UInt8) (ix : Int) (a : aq) (con : Bool) (b : aq) : List ae := [.dat (sb nm), iv ar, iv k, .dat (sb tn), iv ix, .dat a, .dat (bl con), .dat b]
noncomputable def XK : Hints := ⟨au, xJ, ax, rowsOf ax 37⟩
def BT (c1 c2 : List ae) : Heap := [(.loc 3, .cells c2), (.loc 2, .cells c1)]
def Je (lo : Heap) (i : Int) : ac := ⟨[(5, iv i), (3, .ptr (.loc 3) 0), (2, .ptr (.loc 2) 0)], lo, [], 0⟩
def Lp (lo : Heap) (i : Int) : ac := ⟨[(46, bv false), (5, iv i), (3, .ptr (.loc 3) 0), (2, .ptr (.loc 2) 0)], lo, [], 0⟩
def Lq : ac := ⟨[(4, bv false)], [], [], 0⟩
theorem OB {nm nm2 tn tn2 : List UInt8} {ar ar2 k k2 ix ix2 : Int} {A A2 : aq} {con con2 : Bool} {l l2 : List ep} {t u : ep} {i : Nat} {c1 c2 : Bool} {T : Exit -> aa -> Prop} (hi : i < (aR l).length) (ht : l[i]? = some t) (hu : l2[i]? = some u) (hn : dt t.nm u.nm = c1) (hc : ag 24 [.dat t.ty.enc, .dat u.ty.enc] (bv c2))
  (e1 : (c1 && c2) = true -> T .normal ((Je (BT (bJ nm ar k tn ix A con (.slice (aR l))) (bJ nm2 ar2 k2 tn2 ix2 A2 con2 (.slice (aR l2)))) (aI .i64 (Int.ofNat i + 1))).aw Tryz.f37.ntmps)) (e2 : (c1 && c2) = false -> T .ret (Lq.aw Tryz.f37.ntmps)) :
  KD (roundOf Tryz.f37 0) T ((Je (BT (bJ nm ar k tn ix A con (.slice (aR l))) (bJ nm2 ar2 k2 tn2 ix2 A2 con2 (.slice (aR l2)))) (Int.ofNat i)).aw Tryz.f37.ntmps) := by
 have h1 := bH hi
 have h2 := yg ht
 have h3 := yg hu
 generalize aR l = es at *
 generalize aR l2 = es2 at *
 clear ht hi hu
 obtain ⟨fn, tk, tn', tix, ta⟩ := t
 obtain ⟨gn, uk, un, uix, ua⟩ := u
 rcases ta with _ | ⟨b, d⟩ <;>
 ·rcases ua with _ | ⟨b2, d2⟩ <;>
  ·refine aC [46, 61] [52, 58, 66, 72] (H := XK) (live := nR) (by kernel_rfl) ?_; refine ob h1 ?_; refine oo h2 ?_; refine oo h3 ?_; refine ox hn ?_
   cases c1
   ·exact oe (e2 rfl)
   refine oo h2 ?_; refine oo h3 ?_; refine on hc ?_
   cases c2
   ·exact oe (e2 rfl)
   exact oe (e1 rfl)
theorem Rh {nm nm2 tn tn2 : List UInt8} {ar ar2 k k2 ix ix2 : Int} {A A2 B : aq} {con con2 : Bool} {l : List aq} {T : Exit -> aa -> Prop}
  (e : T (.exit 0) ((Lp (BT (bJ nm ar k tn ix A con (sl l)) (bJ nm2 ar2 k2 tn2 ix2 A2 con2 B)) (Int.ofNat l.length)).aw Tryz.f37.ntmps)) :
  KD (roundOf Tryz.f37 0) T ((Je (BT (bJ nm ar k tn ix A con (sl l)) (bJ nm2 ar2 k2 tn2 ix2 A2 con2 B)) (Int.ofNat l.length)).aw Tryz.f37.ntmps) := by
 have h1 := bR (i := l.length) (L := l.length) (by omega)
 rcases l with _ | ⟨x, l⟩
 ·refine aC [] [] (H := XK) (live := nR) (by kernel_rfl) ?_; exact oe e
 refine aC [46] [] (H := XK) (live := nR) (by kernel_rfl) ?_; refine ob h1 ?_; exact oe e
theorem UG {nm nm2 : List UInt8} {ar ar2 k ix k2 ix2 : Int} {tn tn2 : List UInt8} {la la2 lb lb2 : List aq} {con con2 : Bool} {c1 c2 c3 c4 c5 d : Bool} (h1 : dt nm nm2 = c1) (h2 : aZ ar ar2 = c2) (h3 : (con == con2) = c3) (h4 : ag 24 [.dat (.agg [i64 k, sb tn, i64 ix, sl la]), .dat (.agg [i64 k2, sb tn2, i64 ix2, sl la2])] (bv c4)) (h5 : aZ (Int.ofNat lb.length) (Int.ofNat lb2.length) = c5)
  (hl : c5 = true -> KD (.loop (roundOf Tryz.f37 0)) (fun e s => (e = .exit 0 /\ d = true /\ s = (Lp (BT (bJ nm ar k tn ix (sl la) con (sl lb)) (bJ nm2 ar2 k2 tn2 ix2 (sl la2) con2 (sl lb2))) (Int.ofNat lb.length)).aw Tryz.f37.ntmps) ∨ (e = .ret /\ d = false /\ s = Lq.aw Tryz.f37.ntmps)) ((Je (BT (bJ nm ar k tn ix (sl la) con (sl lb)) (bJ nm2 ar2 k2 tn2 ix2 (sl la2) con2 (sl lb2))) (Int.ofNat 0)).aw Tryz.f37.ntmps)) :
  ag 37 [.dat (eC nm ar k tn ix la con lb), .dat (eC nm2 ar2 k2 tn2 ix2 la2 con2 lb2)] (bv (c1 && (c2 && (c3 && (c4 && (c5 && d)))))) := by
 have q1 := sm nm ar k tn ix la con lb
 have q2 := sm nm2 ar2 k2 tn2 ix2 la2 con2 lb2
 have q3 := B3 false 2 nm ar k tn ix la con lb
 have q4 := B3 false 3 nm2 ar2 k2 tn2 ix2 la2 con2 lb2
 subst h3
 rcases lb with _ | ⟨x, lb⟩
 ·rcases lb2 with _ | ⟨y, lb2⟩
  ·have z : c5 = true := h5.symm
   subst z
   have hl2 := hl rfl
   clear hl h5
   refine co [10, 16] [2, 3, 27, 29] (x := .of Tryz.f37 xJ nR) ?_; refine oo q1 ?_; refine oo q2 ?_; refine ox h1 ?_
   cases c1
   ·exact fi
   refine ox h2 ?_
   cases c2
   ·exact fi
   cases con
   ·cases con2
    ·refine oo q3 ?_; refine oo q4 ?_; refine on h4 ?_
     cases c4
     ·exact fi
     refine lo hl2 ?_
     rintro ex s (⟨rfl, rfl, rfl⟩ | ⟨rfl, rfl, rfl⟩) <;>
     ·refine ⟨_, rfl, ?_⟩; exact fi
    exact fi
   cases con2
   ·exact fi
   refine oo q3 ?_; refine oo q4 ?_; refine on h4 ?_
   cases c4
   ·exact fi
   refine lo hl2 ?_
   rintro ex s (⟨rfl, rfl, rfl⟩ | ⟨rfl, rfl, rfl⟩) <;>
   ·refine ⟨_, rfl, ?_⟩; exact fi
  have z : c5 = false := h5.symm
  subst z
  clear hl h5
  refine co [10, 16] [2, 3, 27, 29] (x := .of Tryz.f37 xJ nR) ?_; refine oo q1 ?_; refine oo q2 ?_; refine ox h1 ?_
  cases c1
  ·exact fi
  refine ox h2 ?_
  cases c2
  ·exact fi
  cases con
  ·cases con2
   ·refine oo q3 ?_; refine oo q4 ?_; refine on h4 ?_
    cases c4 <;>
    ·exact fi
   exact fi
  cases con2
  ·exact fi
  refine oo q3 ?_; refine oo q4 ?_; refine on h4 ?_
  cases c4 <;>
  ·exact fi
 rcases lb2 with _ | ⟨y, lb2⟩
 ·have z : c5 = false := h5.symm
  subst z
  clear hl h5
  refine co [10, 16] [2, 3, 27, 29] (x := .of Tryz.f37 xJ nR) ?_; refine oo q1 ?_; refine oo q2 ?_; refine ox h1 ?_
  cases c1
  ·exact fi
  refine ox h2 ?_
  cases c2
  ·exact fi
  cases con
  ·cases con2
   ·refine oo q3 ?_; refine oo q4 ?_; refine on h4 ?_
    cases c4 <;>
    ·exact fi
   exact fi
  cases con2
  ·exact fi
  refine oo q3 ?_; refine oo q4 ?_; refine on h4 ?_
  cases c4 <;>
  ·exact fi
 refine co [10, 16, 40] [2, 3, 27, 29] (x := .of Tryz.f37 xJ nR) ?_; refine oo q1 ?_; refine oo q2 ?_; refine ox h1 ?_
 cases c1
 ·exact fi
 refine ox h2 ?_
 cases c2
 ·exact fi
 cases con
 ·cases con2
  ·refine oo q3 ?_; refine oo q4 ?_; refine on h4 ?_
   cases c4
   ·exact fi
   refine ox h5 ?_
   cases c5
   ·exact fi
   refine lo (hl rfl) ?_
   rintro ex s (⟨rfl, rfl, rfl⟩ | ⟨rfl, rfl, rfl⟩) <;>
   ·refine ⟨_, rfl, ?_⟩; exact fi
  exact fi
 cases con2
 ·exact fi
 refine oo q3 ?_; refine oo q4 ?_; refine on h4 ?_
 cases c4
 ·exact fi
 refine ox h5 ?_
 cases c5
 ·exact fi
 refine lo (hl rfl) ?_
 rintro ex s (⟨rfl, rfl, rfl⟩ | ⟨rfl, rfl, rfl⟩) <;>
 ·refine ⟨_, rfl, ?_⟩; exact fi
theorem tR (x : Int) : eO x x = 0 := by
 unfold eO
 rw [show bm x x = false by rw [gp]; simp]
theorem D3 : ∀ x : List UInt8, JL x x = false
 | [] => rfl
 | c :: r => by
  unfold JL
  rw [show Nat.blt c.toNat c.toNat = false by simp [Nat.blt_eq, Bool.eq_false_iff], show Nat.beq c.toNat c.toNat = true by simp]
  exact D3 r
theorem Kq (x : List UInt8) : ow x x = 0 := by
 unfold ow
 rw [D3, lS]
 rfl
theorem Kp {x y : List UInt8} (h : ow x y = 0) : x = y := by
 unfold ow at h
 cases h1 : JL x y with
 | true => rw [h1] at h; simp at h
 | false =>
  rw [h1] at h
  cases h2 : dt x y with
  | true => exact lp h2
  | false => rw [h2] at h; simp at h
mutual
theorem AR : ∀ (t u : Ty), mN t u = 0 -> t = u
 | .mk k nm ix l, .mk k2 nm2 ix2 l2, h => by
  rw [mN] at h
  cases hz : aZ (zp [eO k k2, ow nm nm2, eO ix ix2, eO (Int.ofNat (ap l).length) (Int.ofNat (ap l2).length)]) 0 with
  | true =>
   rw [hz] at h
   have ho := xO (ot hz)
   have h1 := tQ (ho (eO k k2) (by simp))
   have h2 := Kp (ho (ow nm nm2) (by simp))
   have h3 := tQ (ho (eO ix ix2) (by simp))
   have h4 := yj hz
   rw [h1, h2, h3, AT l l2 h4 h]
  | false =>
   rw [hz] at h
   dsimp only at h
   rw [h, dJ] at hz
   simp at hz
theorem AT : ∀ (l l2 : List Ty), l.length = l2.length -> pE l l2 = 0 -> l = l2
 | [], [], _, _ => rfl
 | [], _ :: _, h, _ => by simp at h
 | _ :: _, [], h, _ => by simp at h
 | t :: r, u :: v, h, h2 => by
  rw [pE] at h2
  cases hz : aZ (mN t u) 0 with
  | true =>
   rw [hz] at h2
   rw [AR t u (jl hz), AT r v (by simpa using h) h2]
  | false =>
   rw [hz] at h2
   dsimp only at h2
   rw [h2, dJ] at hz
   simp at hz
end
mutual
theorem AS : ∀ t : Ty, mN t t = 0
 | .mk k nm ix l => by
  rw [mN, tR, Kq, tR, tR, AU l]
  rfl
theorem AU : ∀ l : List Ty, pE l l = 0
 | [] => by simp [pE]
 | t :: r => by rw [pE, AS t, dJ, AU r]
end
theorem wo {t u : Ty} : J8 t u = true ↔ t = u := by
 unfold J8
 constructor
 ·intro h; exact AR t u (jl h)
 rintro rfl; rw [AS, dJ]
theorem PX (t u : Ty) : VO t u = J8 t u := by
 rw [Bool.eq_iff_iff, Bs, wo]
theorem xA (t u : Ty) (h : t.size < 1000000000) : ag 24 [.dat t.enc, .dat u.enc] (bv (J8 t u)) := by
 rw [← PX]
 exact P1 t u h
theorem Rg {nm nm2 tn tn2 : List UInt8} {ar ar2 k k2 ix ix2 : Int} {A A2 B B2 : aq} {con con2 : Bool} {l l2 : List ep} (ha : B = sl (aR l)) (hb : B2 = sl (aR l2)) (hlen : l.length = l2.length) (hn : l.length < 1000000000) (hf : ∀ t ∈ l, t.ty.cE) :
  KD (.loop (roundOf Tryz.f37 0)) (fun e s => (e = .exit 0 /\ qD l l2 = true /\ s = (Lp (BT (bJ nm ar k tn ix A con B) (bJ nm2 ar2 k2 tn2 ix2 A2 con2 B2)) (Int.ofNat (aR l).length)).aw Tryz.f37.ntmps) ∨ (e = .ret /\ qD l l2 = false /\ s = Lq.aw Tryz.f37.ntmps))
   ((Je (BT (bJ nm ar k tn ix A con B) (bJ nm2 ar2 k2 tn2 ix2 A2 con2 B2)) (Int.ofNat 0)).aw Tryz.f37.ntmps) := by
 refine cj (St := fun i => (Je (BT (bJ nm ar k tn ix A con B) (bJ nm2 ar2 k2 tn2 ix2 A2 con2 B2)) (Int.ofNat i)).aw Tryz.f37.ntmps) (fun i => qD l l2 = qD (l.drop i) (l2.drop i)) (aR l).length ?_ ?_ (i := 0) (Nat.zero_le _) rfl
 ·intro i hi hI
  obtain ⟨t, ht, hm⟩ := jY hi
  have hi2 := hi
  rw [bw] at hi2
  have hu : l2[i]? = some l2[i] := List.getElem?_eq_getElem (by omega)
  generalize l2[i] = u at hu
  have hd := AP ht hu
  rw [← hI] at hd
  have hw : aI .i64 (Int.ofNat i + 1) = Int.ofNat (i + 1) := bn (by omega)
  have ha2 : B = .slice (aR l) := by
   rw [ha]
   cases l with
   | nil => simp at ht
   | cons x r => rfl
  have hb2 : B2 = .slice (aR l2) := by
   rw [hb]
   cases l2 with
   | nil => simp at hu
   | cons x r => rfl
  subst ha2
  subst hb2
  refine OB hi ht hu (c1 := dt t.nm u.nm) (c2 := J8 t.ty u.ty) rfl (xA _ _ (by have := (hf t hm).1; omega)) ?_ ?_
  ·intro hc
   rw [hw]
   refine ⟨rfl, ?_⟩
   rw [hd]
   unfold ep.eq
   rw [hc, Bool.true_and]
  intro hc
  refine .inr ⟨rfl, ?_, rfl⟩
  rw [hd]
  unfold ep.eq
  rw [hc, Bool.false_and]
 intro hI
 rw [ha]
 refine Rh (.inl ⟨rfl, ?_, rfl⟩)
 rw [hI, bw, List.drop_length]
 cases l2.drop l.length <;> rfl
theorem Dv {d o : aU} (hd : d.cE) : ag 37 [.dat d.enc, .dat o.enc] (bv (d.eq o)) := by
 have h4 := xA d.sup o.sup (by have := hd.1.1; omega)
 have hf := hd.2.1
 have hn := hd.2.2
 obtain ⟨nm, ar, ⟨k, tn, ix, la⟩, con, fl⟩ := d
 obtain ⟨nm2, ar2, ⟨k2, tn2, ix2, la2⟩, con2, fl2⟩ := o
 refine UG rfl rfl rfl h4 rfl ?_
 intro hc
 exact Rg rfl rfl (IL rfl hc) hn hf
theorem aU.eq_iff {d o : aU} : d.eq o = true ↔ d = o := by
 have hfl : ∀ l l2 : List ep, l.length = l2.length -> (qD l l2 = true ↔ l = l2) := by
  intro l
  induction l with
  | nil => intro l2 h; cases l2 with | nil => simp [qD] | cons x r => simp at h
  | cons x r ih =>
   intro l2 h
   cases l2 with
   | nil => simp at h
   | cons y s =>
    simp only [qD, Bool.and_eq_true, ih s (by simpa using h), ep.eq, wo, ke, beq_iff_eq, List.cons.injEq]
    obtain ⟨a, b⟩ := x
    obtain ⟨c, d⟩ := y
    simp
 obtain ⟨nm, ar, t, con, fl⟩ := d
 obtain ⟨nm2, ar2, t2, con2, fl2⟩ := o
 simp only [aU.eq, UC, Bool.and_eq_true, ke, fV, wo, beq_iff_eq, bw, aU.mk.injEq]
 constructor
 ·rintro ⟨h1, h2, h3, h4, h5, h6⟩
  exact ⟨h1, h2, h4, h3, (hfl _ _ (Int.ofNat.inj h5)).1 h6⟩
 rintro ⟨h1, h2, h4, h3, rfl⟩
 exact ⟨h1, h2, h3, h4, rfl, (hfl _ _ rfl).2 rfl⟩
noncomputable def V8 : Hints := ⟨au, xK, ax, rowsOf ax 192⟩
def Vz (es : List aq) (x k : Int) : ac := ⟨[(5, iv k), (0, .dat (.slice es)), (1, iv x)], [], [], 0⟩
def SN (es : List aq) (x k : Int) : ac := ⟨[(17, bv false), (5, iv k), (0, .dat (.slice es)), (1, iv x)], [], [], 0⟩
theorem tF {es : List aq} {x y : Int} {i : Nat} {c1 c2 : Bool} (h1 : bm (Int.ofNat i) (Int.ofNat es.length) = c1) (h2 : c1 = true -> aK (env ay.aT) 22 [.dat (.slice es), .dat (.flat (.int .i64 (Int.ofNat i)))] = some ⟨.ref [iN y], .keep⟩) (h3 : bm y x = c2) {T : Exit -> aa -> Prop}
  (e1 : (c1 && c2) = true -> T .normal ((Vz es x (aI .i64 (Int.ofNat i + 1))).aw Tryz.f192.ntmps)) (e2 : (c1 && c2) = false -> T (.exit 0) ((SN es x (Int.ofNat i)).aw Tryz.f192.ntmps)) :
  KD (roundOf Tryz.f192 0) T ((Vz es x (Int.ofNat i)).aw Tryz.f192.ntmps) := by
 refine aC [9, 16] [13] (H := V8) (live := rG) (by kernel_rfl) ?_; refine ob h1 ?_
 cases c1
 ·exact oe (e2 rfl)
 refine oo (h2 rfl) ?_; refine ob h3 ?_
 cases c2
 ·exact oe (e2 rfl)
 exact oe (e1 rfl)
theorem BA {g : FuncId} {args : List ae} {heap : Heap} {next : Nat} {es : List aq} {h2 : Heap} {m : Nat} (h : KC g args heap next (XQ ⟨.own es, h2, m⟩)) : KC g args heap next (XQ ⟨.dat (.slice es), h2, m⟩) := by
 intro w R N cargs bsA bsH bsF ha hh hnd hnx hg hF
 refine (h w R N cargs bsA bsH bsF ha hh hnd hnx hg hF).mono ?_
 rintro e w' ⟨v, cv, h1, next', R', N', bsV, bsH', rfl, ⟨rfl, rfl, rfl⟩, hv, hh', hnd', hnx', hk, hN⟩
 refine ⟨_, cv, _, _, R', N', [], bsH', rfl, ⟨rfl, rfl, rfl⟩, bV (bX hv).rep, hh', ?_, hnx', hk, hN⟩
 exact (List.nodup_append.1 hnd').2.1
def SM (x k : Int) : ac := ⟨[(5, iv k), (0, .dat nl), (1, iv x)], [], [], 0⟩
def RN (x k : Int) : ac := ⟨[(17, bv false), (5, iv k), (0, .dat nl), (1, iv x)], [], [], 0⟩
theorem GB {x : Int} {T : Exit -> aa -> Prop} (e2 : T (.exit 0) ((RN x (Int.ofNat 0)).aw Tryz.f192.ntmps)) :
  KD (roundOf Tryz.f192 0) T ((SM x (Int.ofNat 0)).aw Tryz.f192.ntmps) := by
 refine aC [] [] (H := V8) (live := rG) (by kernel_rfl) ?_; exact oe e2
theorem QK {x : Int} (a2 : dc (env ay.aT) false 22 [.own [], .dat (.slice [iN x])] none = some ⟨.own [iN x], .keep⟩) : ag 192 [.dat nl, iv x] (.own [iN x]) := by
 have hl : KD (.loop (roundOf Tryz.f192 0)) (fun e s => e = .exit 0 /\ s = (RN x (Int.ofNat 0)).aw Tryz.f192.ntmps) ((SM x (Int.ofNat 0)).aw Tryz.f192.ntmps) :=
  bu (St := fun _ => (SM x (Int.ofNat 0)).aw Tryz.f192.ntmps) 0 (fun i hi => absurd hi (Nat.not_lt_zero i)) (GB ⟨rfl, rfl⟩) (i := 0) (Nat.le_refl _)
 refine co [] [40, 44] (x := .of Tryz.f192 xK rG) ?_; refine lo hl ?_; rintro ex s ⟨rfl, rfl⟩; refine ⟨_, rfl, ?_⟩; refine oo a2 ?_; refine oo a2 ?_; exact fi
theorem ID {e0 : aq} {es p q : List aq} {x y : Int} {i : Nat} {c1 c2 : Bool} (h1 : bm (Int.ofNat i) (Int.ofNat (e0 :: es).length) = c1) (h2 : c1 = true -> aK (env ay.aT) 22 [.dat (.slice (e0 :: es)), .dat (.flat (.int .i64 (Int.ofNat i)))] = some ⟨.ref [iN y], .keep⟩) (h3 : aZ y x = c2)
  (hl : KD (.loop (roundOf Tryz.f192 0)) (fun e s => e = .exit 0 /\ s = (SN (e0 :: es) x (Int.ofNat i)).aw Tryz.f192.ntmps) ((Vz (e0 :: es) x (Int.ofNat 0)).aw Tryz.f192.ntmps))
  (s1 : gz (env ay.aT) 22 none (some (.tmp 35)) none [.dat (.slice (e0 :: es)), iv (Int.ofNat i)] = some ⟨.dat (.slice p), .keep⟩)
  (s2 : gz (env ay.aT) 22 (some (.tmp 42)) none none [.dat (.slice (e0 :: es)), iv (Int.ofNat i)] = some ⟨.dat (.slice q), .keep⟩)
  (a1 : dc (env ay.aT) false 22 [.own [], .dat (.slice p)] none = some ⟨.own p, .keep⟩)
  (a2 : dc (env ay.aT) false 22 [.own p, .dat (.slice [iN x])] none = some ⟨.own (p ++ [iN x]), .keep⟩)
  (a3 : dc (env ay.aT) false 22 [.own (p ++ [iN x]), .dat (.slice q)] none = some ⟨.own (p ++ [iN x] ++ q), .keep⟩) :
  ag 192 [.dat (.slice (e0 :: es)), iv x] (match c1 && c2 with | true => .dat (.slice (e0 :: es)) | false => .own (p ++ [iN x] ++ q)) := by
 refine co [23, 30] [27, 36, 43, 37, 40, 44] (x := .of Tryz.f192 xK rG) ?_; refine lo hl ?_; rintro ex s ⟨rfl, rfl⟩; refine ⟨_, rfl, ?_⟩; refine ob h1 ?_
 cases c1
 ·refine oo s1 ?_; refine oo s2 ?_; refine oo a1 ?_; refine oo a2 ?_; refine oo a3 ?_; exact fi
 refine oo (h2 rfl) ?_; refine ob h3 ?_
 cases c2
 ·refine oo s1 ?_; refine oo s2 ?_; refine oo a1 ?_; refine oo a2 ?_; refine oo a3 ?_; exact fi
 exact fi
/-- The place of a number: how many at the front are less. -/
def kW : List Int -> Int -> Nat
 | [], _ => 0
 | y :: r, x => match bm y x with | true => kW r x + 1 | false => 0
theorem Se : ∀ {l : List Int} {x : Int}, kW l x <= l.length
 | [], _ => Nat.le_refl _
 | y :: r, x => by
  unfold kW
  split
  ·simp only [List.length_cons]; have := Se (l := r) (x := x); omega
  omega
theorem Sd : ∀ {l : List Int} {x : Int} {i : Nat} {y : Int}, i < kW l x -> l[i]? = some y -> bm y x = true
 | [], x, i, y, h, h2 => by simp [kW] at h
 | z :: r, x, i, y, h, h2 => by
  unfold kW at h
  cases hz : bm z x with
  | false => rw [hz] at h; simp at h
  | true =>
   rw [hz] at h
   cases i with
   | zero => simp at h2; subst h2; exact hz
   | succ i => simp at h2; exact Sd (by simp at h; omega) h2
theorem Sf : ∀ {l : List Int} {x : Int} {y : Int}, l[kW l x]? = some y -> bm y x = false
 | [], x, y, h => by simp at h
 | z :: r, x, y, h => by
  unfold kW at h
  cases hz : bm z x with
  | false => rw [hz] at h; simp at h; subst h; exact hz
  | true => rw [hz] at h; simp at h; exact Sf h
theorem AE {l : List Int} {x : Int} (hs : l.Pairwise (· <= ·)) : kW l x = l.countP (· < x) := by
 induction l with
 | nil => rfl
 | cons y r ih =>
  have ih := ih (List.Pairwise.of_cons hs)
  unfold kW
  by_cases hy : y < x
  ·rw [gp, decide_eq_true hy, List.countP_cons_of_pos (by simpa using hy), ih]
  rw [gp, decide_eq_false hy]
  symm
  dsimp only
  rw [List.countP_eq_zero]
  intro z hz
  have : y <= z := by
   rcases List.mem_cons.1 hz with rfl | hz
   ·exact Int.le_refl _
   exact List.rel_of_pairwise_cons hs hz
  simp only [decide_eq_true_eq]
  omega
def NI (l : List Int) (x : Int) : List Int := match l[kW l x]? with | some y => (match aZ y x with | true => l | false => fT l (kW l x) x) | none => fT l (kW l x) x
theorem Eb {l : List Int} {x : Int} (hs : l.Pairwise (· <= ·)) : NI l x = ik l x := by
 obtain ⟨c1, c2⟩ := countP_split (x := x) hs
 unfold NI ik
 rw [← AE hs]
 rw [← AE hs] at c1 c2
 cases hc : l.contains x with
 | true =>
  have hm : x ∈ l := by simpa using hc
  have hd : x ∈ l.drop (kW l x) := by
   rcases List.mem_append.1 ((List.take_append_drop (kW l x) l).symm ▸ hm) with h | h
   ·exact absurd (c1 x h) (Int.lt_irrefl x)
   exact h
  have hlt : kW l x < l.length := by
   rcases Nat.lt_or_ge (kW l x) l.length with h | h
   ·exact h
   rw [List.drop_eq_nil_of_le h] at hd; simp at hd
  have hg : l[kW l x]? = some l[kW l x] := List.getElem?_eq_getElem hlt
  have hge : x <= l[kW l x] := c2 _ (by rw [List.drop_eq_getElem_cons hlt]; exact List.mem_cons_self)
  have hle : l[kW l x] <= x := by
   have hp : (l.drop (kW l x)).Pairwise (· <= ·) := hs.sublist (List.drop_sublist _ _)
   rw [List.drop_eq_getElem_cons hlt] at hp hd
   rcases List.mem_cons.1 hd with h | h
   ·omega
   exact List.rel_of_pairwise_cons hp h
  rw [hg]
  dsimp only
  rw [show l[kW l x] = x by omega, dJ]
 | false =>
  have hm : x ∉ l := by intro h; rw [List.contains_iff_mem.2 h] at hc; simp at hc
  cases hg : l[kW l x]? with
  | none => rfl
  | some y =>
   dsimp only
   have : aZ y x = false := by
    rw [fV]
    have : y ≠ x := by rintro rfl; exact hm (List.mem_of_getElem? hg)
    simpa using this
   rw [this]
theorem sA {a b : List Int} (h : a.length + b.length < 1000000000) : dc (env ay.aT) false 22 [.own (a.map iN), .dat (.slice (b.map iN))] none = some ⟨.own (a.map iN ++ b.map iN), .keep⟩ := by
 refine sE (i := PD) (ds := b.map iN) (k := 0) K0 rfl nk ?_ ?_ (by kernel_rfl) ?_ ?_ ?_ (by simp)
 ·exact jI (fun d hd => by obtain ⟨x, _, rfl⟩ := List.mem_map.1 hd; rfl)
 ·exact jI (fun d hd => by obtain ⟨x, _, rfl⟩ := List.mem_map.1 hd; rfl)
 ·have h1 : PD.bytes <= 1000 := fW (by kernel_rfl)
  simp only [List.length_map]
  calc (a.length + b.length) * PD.bytes <= 1000000000 * 1000 := Nat.mul_le_mul (by omega) h1
   _ <= 140737488355328 := by decide
 ·simp [jy]; omega
 have hb : ff (a.map iN ++ b.map iN) = false := by
  rw [← List.map_append]
  cases a ++ b with
  | nil => rfl
  | cons x r => rfl
 unfold iF
 rw [hb]
theorem wT (l : List Int) : sizedB 1 (l.map iN) = true := jI (fun d hd => by obtain ⟨x, _, rfl⟩ := List.mem_map.1 hd; rfl)
theorem Lw {l : List Int} {i : Nat} (h : i <= l.length) (x : Operand) : gz (env ay.aT) 22 none (some x) none [.dat (.slice (l.map iN)), iv (Int.ofNat i)] = some ⟨.dat (.slice ((l.take i).map iN)), .keep⟩ := by
 have h1 : ay.aT.sub PD.size (l.map iN) none (some (Int.ofNat i)) = some ((l.take i).map iN) := by
  rw [nk]
  show (match sizedB 1 (l.map iN), Nat.blt 0 1 with
   | true, true => (match cX (some (Int.ofNat i)) (l.map iN).length, cX none 0 with
    | some h, some lo => (match Nat.ble lo h, Nat.ble h (l.map iN).length with | true, true => some (((l.map iN).take h).drop lo) | _, _ => none)
    | _, _ => none)
   | _, _ => none) = _
  rw [wT]
  have e1 : cX (some (Int.ofNat i)) (l.map iN).length = some i := rfl
  have e2 : Nat.ble i (l.map iN).length = true := by rw [Nat.ble_eq]; simpa using h
  rw [e1]
  dsimp only [cX]
  rw [e2]
  simp [Nat.ble, List.map_take]
  rfl
 have h2 : gz (env ay.aT) 22 none (some x) none [.dat (.slice (l.map iN)), iv (Int.ofNat i)] = tw (match ay.aT.sub PD.size (l.map iN) none (some (Int.ofNat i)) with | some r => some (.dat (.slice r)) | none => none) := by kernel_rfl
 rw [h2, h1]
 rfl
theorem Fy {l : List Int} {i : Nat} (h : i <= l.length) (x : Operand) : gz (env ay.aT) 22 (some x) none none [.dat (.slice (l.map iN)), iv (Int.ofNat i)] = some ⟨.dat (.slice ((l.drop i).map iN)), .keep⟩ := by
 have h1 : ay.aT.sub PD.size (l.map iN) (some (Int.ofNat i)) none = some ((l.drop i).map iN) := by
  rw [nk]
  show (match sizedB 1 (l.map iN), Nat.blt 0 1 with
   | true, true => (match cX none (l.map iN).length, cX (some (Int.ofNat i)) 0 with
    | some h, some lo => (match Nat.ble lo h, Nat.ble h (l.map iN).length with | true, true => some (((l.map iN).take h).drop lo) | _, _ => none)
    | _, _ => none)
   | _, _ => none) = _
  rw [wT]
  have e1 : cX (some (Int.ofNat i)) 0 = some i := rfl
  have e2 : Nat.ble i (l.map iN).length = true := by rw [Nat.ble_eq]; simpa using h
  have e3 : Nat.ble (l.map iN).length (l.map iN).length = true := by rw [Nat.ble_eq]; exact Nat.le_refl _
  rw [e1]
  dsimp only [cX]
  rw [e2, e3, List.take_length]
  simp [List.map_drop]
  rfl
 have h2 : gz (env ay.aT) 22 (some x) none none [.dat (.slice (l.map iN)), iv (Int.ofNat i)] = tw (match ay.aT.sub PD.size (l.map iN) (some (Int.ofNat i)) none with | some r => some (.dat (.slice r)) | none => none) := by kernel_rfl
 rw [h2, h1]
 rfl
theorem VP {l : List Int} {x : Int} (hn : l.length < 100000000) : ag 192 [.dat (sl (l.map iN)), iv x] (.dat (sl ((NI l x).map iN))) := by
 cases l with
 | nil => exact BA (QK (sA (a := []) (b := [x]) (by simp)))
 | cons y0 r =>
  obtain ⟨l, hl⟩ : ∃ l, l = y0 :: r := ⟨_, rfl⟩
  have hnl : (l.map iN) = iN y0 :: r.map iN := by rw [hl]; rfl
  have hne : sl (l.map iN) = .slice (l.map iN) := by rw [hnl]; rfl
  rw [← hl] at hn ⊢
  have hle := Se (l := l) (x := x)
  have hloop : KD (.loop (roundOf Tryz.f192 0)) (fun e s => e = .exit 0 /\ s = (SN (l.map iN) x (Int.ofNat (kW l x))).aw Tryz.f192.ntmps) ((Vz (l.map iN) x (Int.ofNat 0)).aw Tryz.f192.ntmps) := by
   refine bu (St := fun i => (Vz (l.map iN) x (Int.ofNat i)).aw Tryz.f192.ntmps) (kW l x) ?_ ?_ (i := 0) (Nat.zero_le _)
   ·intro i hi
    have hil : i < l.length := by omega
    have hg : l[i]? = some l[i] := List.getElem?_eq_getElem hil
    refine tF (y := l[i]) (c1 := true) (c2 := true) (bH (by simpa using hil)) (fun _ => JY hg) (Sd hi hg) (fun _ => ?_) (fun h => by simp at h)
    rw [bn (by omega)]
    rfl
   cases hg : l[kW l x]? with
   | none =>
    have : l.length <= kW l x := by simpa using hg
    exact tF (y := 0) (c1 := false) (c2 := bm 0 x) (bR (by simp; omega)) (fun h => by simp at h) rfl (fun h => by simp at h) (fun _ => ⟨rfl, rfl⟩)
   | some y =>
    have hil := (List.getElem?_eq_some_iff.1 hg).1
    exact tF (y := y) (c1 := true) (c2 := false) (bH (by simpa using hil)) (fun _ => JY hg) (Sf hg) (fun h => by simp at h) (fun _ => ⟨rfl, rfl⟩)
  have s1 := Lw (l := l) hle (.tmp 35)
  have s2 := Fy (l := l) hle (.tmp 42)
  have a1 := sA (a := []) (b := l.take (kW l x)) (by simp; omega)
  have a2 := sA (a := l.take (kW l x)) (b := [x]) (by simp; omega)
  have a3 := sA (a := l.take (kW l x) ++ [x]) (b := l.drop (kW l x)) (by simp; omega)
  rw [List.map_append] at a3
  have hins : sl ((fT l (kW l x) x).map iN) = .slice ((l.take (kW l x)).map iN ++ [x].map iN ++ (l.drop (kW l x)).map iN) := by
   have : (fT l (kW l x) x).map iN = (l.take (kW l x)).map iN ++ [x].map iN ++ (l.drop (kW l x)).map iN := by simp [fT]
   rw [← this]
   cases h : (fT l (kW l x) x).map iN with
   | nil => simp [fT] at h
   | cons _ _ => rfl
  rw [hnl] at s1 s2 hloop hne
  rw [hnl, hne]
  unfold NI
  cases hg : l[kW l x]? with
  | none =>
   have : l.length <= kW l x := by simpa using hg
   have h := ID (y := 0) (c1 := false) (c2 := aZ 0 x) (bR (by rw [← hnl]; simp; omega)) (fun h => by simp at h) rfl hloop s1 s2 a1 a2 a3
   dsimp only
   rw [hins]
   exact BA h
  | some y =>
   have hil := (List.getElem?_eq_some_iff.1 hg).1
   have h := ID (y := y) (c1 := true) (c2 := aZ y x) (bH (by rw [← hnl]; simpa using hil)) (fun _ => by rw [← hnl]; exact JY hg) rfl hloop s1 s2 a1 a2 a3
   dsimp only
   generalize aZ y x = c at h
   cases c
   ·dsimp only
    rw [hins]
    exact BA h
   dsimp only
   rw [hnl]
   exact h
/-! ### freeVars -/
noncomputable def XG : Hints := ⟨au, tt, ax, rowsOf ax 174⟩
def U0 (lo : Heap) (u : Nat) (s : aq) (i : Int) : ac := ⟨[(7, iv i), (3, .ptr (.loc 3) 0), (1, iv (Int.ofNat u)), (2, .dat s)], lo, [], 0⟩
def SP (lo : Heap) (u : Nat) (s : aq) (i : Int) : ac := ⟨[(27, bv false), (7, iv i), (3, .ptr (.loc 3) 0), (1, iv (Int.ofNat u)), (2, .dat s)], lo, [], 0⟩
def UQ (c6 c1 : Bool) : Int := match c6 with | true => (match c1 with | true => 1 | false => 0) | false => 0
theorem O4 (k : Int) (i : Nat) : Int.ofNat (cO k i) = UQ (aZ k 6) (aZ (Int.ofNat i) (Int.ofNat 1)) := by
 unfold cO
 rw [tO]
 cases aZ k 6
 ·simp [UQ]
 by_cases h : i = 1
 ·subst h; rfl
 simp [UQ, h]
theorem rb (k : Int) (nm : List UInt8) (ix : Int) (a : List aq) (i : Nat) : ag 127 [.dat (.agg [i64 k, sb nm, i64 ix, sl a]), iv (Int.ofNat i)] (iv (Int.ofNat (cO k i))) := by
 rw [O4]
 generalize h6 : aZ k 6 = c6
 generalize h1 : aZ (Int.ofNat i) (Int.ofNat 1) = c1
 rcases a with _ | ⟨x, a⟩ <;>
 ·refine co [7, 10] [] (x := .of Tryz.f127 F3 Iu) ?_; refine ob h6 ?_
  cases c6
  ·exact fi
  refine ob h1 ?_
  cases c1 <;>
  ·exact fi
theorem LM {k : Int} {nm : List UInt8} {ix : Int} {x : aq} {es : List aq} {l : List Ty} {t : Ty} {i u b : Nat} {s s2 : List aq} (hl : ap l = x :: es) (hi : i < (ap l).length) (ht : l[i]? = some t)
  (hb : ag 127 [.dat (.agg [i64 k, sb nm, i64 ix, .slice (x :: es)]), iv (Int.ofNat i)] (iv (Int.ofNat b)))
  (hc : ag 174 [.dat t.enc, iv (aI .i64 (Int.ofNat u + Int.ofNat b)), .dat (sl s)] (.dat (sl s2))) {T : Exit -> aa -> Prop}
  (e : T .normal ((U0 (jx 3 k nm ix (.slice (x :: es))) u (sl s2) (aI .i64 (Int.ofNat i + 1))).aw Tryz.f174.ntmps)) :
  KD (roundOf Tryz.f174 0) T ((U0 (jx 3 k nm ix (.slice (x :: es))) u (sl s) (Int.ofNat i)).aw Tryz.f174.ntmps) := by
 have h1 := bH hi
 have h2 := jX ht
 rw [hl] at h1 h2
 clear ht hi hl
 obtain ⟨k2, nm2, ix2, a2⟩ := t
 rcases a2 with _ | ⟨b2, d2⟩ <;>
 ·rcases s with _ | ⟨y, s⟩ <;>
  ·refine aC [27] [33] (H := XG) (live := my) (by kernel_rfl) ?_; refine ob h1 ?_; refine oo h2 ?_; refine on hb ?_; refine on hc ?_; exact oe e
theorem PU {k : Int} {nm : List UInt8} {ix : Int} {l s : List aq} {u : Nat} {T : Exit -> aa -> Prop} (e : T (.exit 0) ((SP (jx 3 k nm ix (sl l)) u (sl s) (Int.ofNat l.length)).aw Tryz.f174.ntmps)) :
  KD (roundOf Tryz.f174 0) T ((U0 (jx 3 k nm ix (sl l)) u (sl s) (Int.ofNat l.length)).aw Tryz.f174.ntmps) := by
 have h1 := bR (i := l.length) (L := l.length) (by omega)
 rcases l with _ | ⟨x, l⟩
 ·refine aC [] [] (H := XG) (live := my) (by kernel_rfl) ?_; exact oe e
 refine aC [27] [] (H := XG) (live := my) (by kernel_rfl) ?_; refine ob h1 ?_; exact oe e
theorem LN {k : Int} {nm : List UInt8} {ix : Int} {l s s1 s2 : List aq} {u : Nat} {ck cg : Bool} (hk : aZ k 5 = ck) (hg : bm ix (Int.ofNat u) = cg)
  (ha : ck = true -> cg = false -> ag 192 [.dat (sl s), iv (aI .i64 (ix - Int.ofNat u))] (.dat (sl s1))) (he : ck = false ∨ cg = true -> s1 = s)
  (hl : KD (.loop (roundOf Tryz.f174 0)) (fun e s' => e = .exit 0 /\ s' = (SP (jx 3 k nm ix (sl l)) u (sl s2) (Int.ofNat l.length)).aw Tryz.f174.ntmps) ((U0 (jx 3 k nm ix (sl l)) u (sl s1) (Int.ofNat 0)).aw Tryz.f174.ntmps)) :
  ag 174 [.dat (.agg [i64 k, sb nm, i64 ix, sl l]), iv (Int.ofNat u), .dat (sl s)] (.dat (sl s2)) := by
 rcases l with _ | ⟨x, l⟩ <;>
 ·rcases s with _ | ⟨y, s⟩ <;>
  ·cases ck
   ·obtain rfl := he (.inl rfl)
    clear he ha
    refine co [10] [] (x := .of Tryz.f174 tt my) ?_; refine ob hk ?_; refine lo hl ?_; rintro ex s ⟨rfl, rfl⟩; refine ⟨_, rfl, ?_⟩; exact fi
   cases cg
   ·have ha2 := ha rfl rfl
    clear he ha
    refine co [10, 15] [] (x := .of Tryz.f174 tt my) ?_; refine ob hk ?_; refine ox hg ?_; refine on ha2 ?_; refine lo hl ?_; rintro ex s ⟨rfl, rfl⟩; refine ⟨_, rfl, ?_⟩; exact fi
   obtain rfl := he (.inr rfl)
   clear he ha
   refine co [10, 15] [] (x := .of Tryz.f174 tt my) ?_; refine ob hk ?_; refine ox hg ?_; refine lo hl ?_; rintro ex s ⟨rfl, rfl⟩; refine ⟨_, rfl, ?_⟩; exact fi
def LI (k ix : Int) (u : Nat) (s : List Int) : List Int := match aZ k 5 with | false => s | true => (match bm ix (Int.ofNat u) with | true => s | false => NI s (ix - Int.ofNat u))
theorem LH {k ix : Int} {u : Nat} {s : List Int} (h : s.Pairwise (· <= ·)) : LI k ix u s = dH k ix u s := by
 unfold LI dH
 cases aZ k 5 <;> cases bm ix (Int.ofNat u) <;> first | rfl | exact Eb h
def RF (t : Ty) (u : Nat) (s : List Int) : Prop := ag 174 [.dat t.enc, iv (Int.ofNat u), .dat (sl (s.map iN))] (.dat (sl ((t.cf u s).map iN)))
theorem S1 {k : Int} {nm : List UInt8} {ix : Int} {l : List Ty} {u b : Nat} {s : List Int} (hs : fy b s) (hbd : b + 1 + aS l < 100000000) (hu : u < 1000000000) (hix : aZ k 5 = true -> bm ix 500000000 = true)
  (ih : ∀ t ∈ l, ∀ v s2, v <= u + 1 -> fy (b + 1 + aS l) s2 -> (∃ b2, fy b2 s2 /\ b2 + t.size <= b + 1 + aS l) -> RF t v s2) : RF (.mk k nm ix l) u s := by
 have hlen := ew l
 have hs1 := xh (k := k) (ix := ix) (u := u) hs
 have ha : aZ k 5 = true -> bm ix (Int.ofNat u) = false -> ag 192 [.dat (sl (s.map iN)), iv (aI .i64 (ix - Int.ofNat u))] (.dat (sl ((dH k ix u s).map iN))) := by
  intro hk hg
  rw [← LH hs.1]
  unfold LI
  rw [hk, hg]
  have hix := hix hk
  rw [gp] at hg hix
  simp only [decide_eq_false_iff_not, decide_eq_true_eq] at hg hix
  have e : aI .i64 (ix - Int.ofNat u) = ix - Int.ofNat u := by
   rw [dz]
   simp only [Int.ofNat_eq_natCast] at hg ⊢
   exact wrap_i64 (by omega) (by omega)
  rw [e]
  exact VP (by have := hs.2; omega)
 have he : aZ k 5 = false ∨ bm ix (Int.ofNat u) = true -> (dH k ix u s).map iN = s.map iN := by
  unfold dH
  rintro (h | h)
  ·rw [h]
  rw [h]; cases aZ k 5 <;> rfl
 refine LN rfl rfl ha he ?_
 refine bu (St := fun i => (U0 (jx 3 k nm ix (sl (ap l))) u (sl ((pS k (l.take i) 0 u (dH k ix u s)).map iN)) (Int.ofNat i)).aw Tryz.f174.ntmps) (ap l).length ?_ ?_ (i := 0) (Nat.zero_le _)
 ·intro i hi
  obtain ⟨t, ht, hmem⟩ := get_mem hi
  have hi2 := hi
  rw [aE] at hi2
  have hbn : cO k i <= 1 := by unfold cO; split <;> omega
  obtain ⟨x, es, hx⟩ : ∃ x es, ap l = x :: es := by
   cases hl : ap l with
   | nil => rw [hl] at hi; simp at hi
   | cons x es => exact ⟨x, es, rfl⟩
  have hst := jR ht
  have hsl := qX (l := l) (i + 1)
  have hpre : fy (b + 1 + aS (l.take i)) (pS k (l.take i) 0 u (dH k ix u s)) := Cw _ u hs1
  have hcf := ih t hmem (u + cO k i) (pS k (l.take i) 0 u (dH k ix u s)) (by omega) ⟨hpre.1, by have := hpre.2; omega⟩ ⟨_, hpre, by omega⟩
  unfold RF at hcf
  rw [← wrap_add (n := u) (m := cO k i) (by omega)] at hcf
  have hbi := rb k nm ix (x :: es) i
  have e := LM (T := qc (fun s' => s' = (U0 (jx 3 k nm ix (sl (ap l))) u (sl ((pS k (l.take (i + 1)) 0 u (dH k ix u s)).map iN)) (Int.ofNat (i + 1))).aw Tryz.f174.ntmps)
   (fun e s' => e = .exit 0 /\ s' = (SP (jx 3 k nm ix (sl (ap l))) u (sl (((Ty.mk k nm ix l).cf u s).map iN)) (Int.ofNat (ap l).length)).aw Tryz.f174.ntmps)) hx hi ht hbi hcf (by
    rw [hx, bn (by omega), ER ht]
    rfl)
  rw [hx]
  rw [hx] at e
  exact e
 refine PU ⟨rfl, ?_⟩
 rw [aE, List.take_length, Ty.cf]
mutual
theorem LY : ∀ (t : Ty) (u : Nat) {b : Nat} {s : List Int}, fy b s -> b + t.size < 100000000 -> u + t.depth < 1000000000 -> t.dD -> RF t u s
 | .mk k nm ix l, u, b, s, hs, hb, hu, hx => by
  simp only [Ty.size] at hb
  simp only [Ty.depth] at hu
  simp only [Ty.dD] at hx
  exact S1 hs (by omega) (by omega) hx.1 (HK l u (by omega) (by omega) hx.2)
theorem HK : ∀ (l : List Ty) (u : Nat) {B : Nat}, u + bG l + 1 < 1000000000 -> B < 100000000 -> cJ l -> ∀ t ∈ l, ∀ v s2, v <= u + 1 -> fy B s2 -> (∃ b2, fy b2 s2 /\ b2 + t.size <= B) -> RF t v s2
 | [], u, B, hu, _, hx, t, ht, _, _, _, _, _ => by simp at ht
 | y :: r, u, B, hu, hB, hx, t, ht, v, s2, hv, h1, h2 => by
  simp only [bG] at hu
  simp only [cJ] at hx
  rcases List.mem_cons.1 ht with h3 | ht
  ·obtain ⟨b2, h4, h5⟩ := h2
   rw [h3] at h5 ⊢
   exact LY y v h4 (by omega) (by omega) hx.1
  exact HK r u (by omega) hB hx.2 t ht v s2 hv h1 h2
end
theorem SX {k : Int} {nm : List UInt8} {ix : Int} {l s : List aq} (h : ag 174 [.dat (.agg [i64 k, sb nm, i64 ix, sl l]), iv (Int.ofNat 0), .dat nl] (.dat (sl s))) : ag 148 [.dat (.agg [i64 k, sb nm, i64 ix, sl l])] (.dat (sl s)) := by
 rcases l with _ | ⟨x, l⟩ <;>
 ·rcases s with _ | ⟨y, s⟩ <;>
  ·refine co [] [] (x := .of Tryz.f148 FX Ip) ?_; refine on h ?_; exact fi
theorem xx {t : Ty} (hs : t.size < 100000000) (hx : t.dD) : ag 148 [.dat t.enc] (.dat (sl (t.fv.map iN))) := by
 have h1 : RF t 0 [] := LY t 0 (b := 0) ⟨List.Pairwise.nil, Nat.le_refl 0⟩ (by omega) (by have := iD t; omega) hx
 unfold RF at h1
 unfold Ty.fv
 obtain ⟨k, nm, ix, l⟩ := t
 exact SX h1
def KL {α : Type} : List α -> Bool
 | [] => true
 | _ => false
theorem S4 {k : Int} {nm : List UInt8} {ix : Int} {l s : List aq} (h : ag 148 [.dat (.agg [i64 k, sb nm, i64 ix, sl l])] (.dat (sl s))) : ag 178 [.dat (.agg [i64 k, sb nm, i64 ix, sl l])] (bv (KL s)) := by
 rcases l with _ | ⟨x, l⟩ <;>
 ·rcases s with _ | ⟨y, s⟩ <;>
  ·refine co [] [] (x := .of Tryz.f178 FP Ih) ?_; refine on h ?_; exact fi
theorem LZ {t : Ty} (hs : t.size < 100000000) (hx : t.dD) : ag 178 [.dat t.enc] (bv (KL t.fv)) := by
 have h := xx hs hx
 have e : KL t.fv = KL (t.fv.map iN) := by cases t.fv <;> rfl
 rw [e]
 obtain ⟨k, nm, ix, l⟩ := t
 exact S4 h
end Go.Proofs.YtiihadmgkoamoaaGreatDoor
