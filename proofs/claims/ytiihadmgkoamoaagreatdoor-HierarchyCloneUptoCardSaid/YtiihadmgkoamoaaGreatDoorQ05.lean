/- HierarchyClone returns true and changes nothing, for arguments of bulk at most 1048576 (the card of the second form; conditions: those of the given row). Names are shortened by a program, for the claim's bound. Part 5. -/
import Derived.Test.YtiihadmgkoamoaaGreatDoorQ04
set_option linter.unusedVariables false
set_option linter.unusedSimpArgs false
set_option maxRecDepth 100000
set_option maxHeartbeats 4000000
namespace Go.Proofs.YtiihadmgkoamoaaGreatDoor
open Go.Tp
theorem cV (ls bs : List Nat) {g : FuncId} {x : kD} (hx : Fw.find g = some x) {args : List ac} {heap : Heap} {next : Nat} {r : eu} (h : (GG (JH ls) (JH bs) (env ap.aK) cI au ax x g args heap next).Ok Tryz.prog cI (fun y => y = r)) :
  KC g args heap next (XQ r) := to (Ct Dx qZ hx (fun _ _ => h))
theorem qK (k : Nat) : ∀ l : List Int, dR k (vo l) = false
 | [] => rfl
 | d :: r => by show (dG k (iv d) || dR k (vo r)) = false; rw [qK k r]; rfl
theorem gz (ρ : Nat -> Nat) : ∀ l : List Int, gv ρ (vo l) = vo l
 | [] => rfl
 | d :: r => by show eX ρ (iv d) :: gv ρ (vo r) = _; rw [gz ρ r]; rfl
theorem qG (p : Nat -> Bool) : ∀ l : List Int, gW p (vo l) = true
 | [] => rfl
 | d :: r => by show (AL p (iv d) && gW p (vo r)) = true; rw [qG p r]; rfl
theorem hU {g : FuncId} {args : List ac} {heap : Heap} {next : Nat} {Q Q' : ac -> Heap -> Nat -> Prop} (h : KC g args heap next Q) (hq : ∀ v h m, Q v h m -> ∃ h2, h.Perm h2 /\ Q' v h2 m) : KC g args heap next Q' := by
 intro w R N cargs bsA bsH bsF ha hh hnd hnx hg hF
 refine (h w R N cargs bsA bsH bsF ha hh hnd hnx hg hF).mono ?_
 rintro e w' ⟨v, cv, h1, next', R', N', bsV, bsH', rfl, hq1, hv, hh', hnd', hnx', hk, hN⟩
 obtain ⟨h2, hp, hq2⟩ := hq _ _ _ hq1
 obtain ⟨bs2, k1, k2⟩ := hh'.perm hp
 refine ⟨v, cv, h2, next', R', N', bsV, bs2, rfl, hq2, hv, k1, ?_, hnx', hk, hN⟩
 exact (List.Perm.nodup_iff (List.Perm.append_left _ (List.Perm.append_right _ k2))).1 hnd'
def sP : ac := .ptr (.out 0) 0
/-- A set of integers: the row's name, its elements. -/
def hS (r : Nat) : List Int -> Heap
 | [] => [(.out 0, .cells [.dat nl])]
 | x :: l => [(.out r, .cells (vo (x :: l))), (.out 0, .cells [.win (.out r) 1 0 (x :: l).length])]
def hR (r : Nat) (l : List Int) (n : Nat) : Heap := [(.out r, .cells (vo l)), (.out 0, .cells [.win (.out r) 1 0 n])]
theorem Hs {r : Nat} {l : List Int} (h : l ≠ []) : hS r l = hR r l l.length := by cases l with | nil => exact absurd rfl h | cons x l => rfl
/-! ### BinarySearch, Insert, beside the set -/
theorem H9 {l : List Int} {x : Int} {n : Nat} (hs : l.Pairwise (· <= ·)) (hn : l.length < 1000000000) (hl : n = l.length) :
  KC 190 [.win (.out 1) 1 0 n, iv x] (hR 1 l n) 2 (XQ ⟨.tup [iv (Int.ofNat (l.countP (· < x))), bv (l.contains x)], hR 1 l n, 2⟩) := by
 subst hl
 have h := ay.frame (Nw (G := cI) Tryz.WL (x := x) hs hn) (fun _ => 1) (heap := hR 1 l l.length) (rest := [(.out 0, .cells [.win (.out 1) 1 0 l.length])]) (next := 2) (by simp [hR, lF, oX, uZ, gz]) rfl (by simp [cO, nj, qK]) rfl rfl
 refine hU h ?_
 rintro v h m ⟨v0, h1, n1, ⟨rfl, rfl, rfl⟩, rfl, rfl, rfl⟩
 refine ⟨hR 1 l l.length, ?_, rfl, rfl, rfl⟩
 simp [hR, lF, oX, uZ, gz, ln]
 exact List.Perm.refl _
theorem IM {l : List Int} {x : Int} {i n : Nat} (hi : i <= l.length) (hn : l.length < 1000000000) (hl : n = l.length) :
  KC 191 [.win (.out 1) 1 0 n, iv (Int.ofNat i), .win (.out 2) 1 0 1] ((.out 2, .cells [iv x]) :: hR 1 l n) 3
   (XQ ⟨.win (.out 3) 1 0 (fJ l i x).length, [(.out 3, .cells (vo (fJ l i x))), (.out 2, .cells [iv x]), (.out 0, .cells [.win (.out 1) 1 0 n])], 4⟩) := by
 subst hl
 have h := ay.frame (Nx (G := cI) Tryz.QW (x := x) hi hn) (fun o => o + 1) (heap := (.out 2, .cells [iv x]) :: hR 1 l l.length) (rest := [(.out 0, .cells [.win (.out 1) 1 0 l.length])]) (next := 3) (by simp [hR, lF, oX, uZ, gz, gv, eX]; exact List.Perm.swap _ _ _) rfl (by simp [cO, nj, qK, dR, dG]) rfl rfl
 refine hU h ?_
 rintro v h m ⟨v0, h1, n1, ⟨rfl, rfl, rfl⟩, rfl, rfl, rfl⟩
 refine ⟨_, List.Perm.refl _, rfl, ?_, rfl⟩
 simp [lF, oX, uZ, gz, gv, eX, ln]
 exact ⟨rfl, rfl⟩
theorem insert_nil {x : Int} :
  KC 191 [.dat nl, iv (Int.ofNat 0), .win (.out 1) 1 0 1] [(.out 1, .cells [iv x]), (.out 0, .cells [.dat nl])] 2
   (XQ ⟨.win (.out 2) 1 0 1, [(.out 2, .cells [iv x]), (.out 1, .cells [iv x]), (.out 0, .cells [.dat nl])], 3⟩) := by
 have h := ay.frame (Bw (G := cI) Tryz.QW (x := x)) (fun o => o + 1) (heap := [(.out 1, .cells [iv x]), (.out 0, .cells [.dat nl])]) (rest := [(.out 0, .cells [.dat nl])]) (next := 2) (by rfl) rfl rfl rfl rfl
 refine hU h ?_
 rintro v h m ⟨v0, h1, n1, ⟨rfl, rfl, rfl⟩, rfl, rfl, rfl⟩
 exact ⟨_, List.Perm.refl _, rfl, rfl, rfl⟩
/-! ### add -/
theorem Eo {x : Int} : ae 190 [.dat nl, iv x] (.tup [iv (Int.ofNat 0), bv false]) := pf _ _ _ _ _ (by kernel_rfl)
theorem Qf {x : Int} : KC 170 [sP, iv x] [(.out 0, .cells [.dat nl])] 1 (XQ ⟨.tup [], [(.out 2, .cells [iv x]), (.out 1, .cells [iv x]), (.out 0, .cells [.win (.out 2) 1 0 1])], 3⟩) := by
 have h1 := Eo (x := x)
 have h2 := insert_nil (x := x)
 refine cV [] [] (x := kD.of Tryz.f170 wQ vk) (by kernel_rfl) ?_; refine on h1 ?_; refine oh h2 ?_; exact fi
theorem Qg {l l2 : List Int} {x : Int} {i n n2 : Nat} (h1 : KC 190 [.win (.out 1) 1 0 n, iv x] (hR 1 l n) 2 (XQ ⟨.tup [iv (Int.ofNat i), bv false], hR 1 l n, 2⟩))
  (h2 : KC 191 [.win (.out 1) 1 0 n, iv (Int.ofNat i), .win (.out 2) 1 0 1] ((.out 2, .cells [iv x]) :: hR 1 l n) 3
   (XQ ⟨.win (.out 3) 1 0 n2, [(.out 3, .cells (vo l2)), (.out 2, .cells [iv x]), (.out 0, .cells [.win (.out 1) 1 0 n])], 4⟩)) :
  KC 170 [sP, iv x] (hR 1 l n) 2 (XQ ⟨.tup [], [(.out 3, .cells (vo l2)), (.out 2, .cells [iv x]), (.out 0, .cells [.win (.out 3) 1 0 n2])], 4⟩) := by
 refine cV [] [] (x := kD.of Tryz.f170 wQ vk) (by kernel_rfl) ?_; refine oh h1 ?_; refine oh h2 ?_; exact fi
theorem Qe {l : List Int} {x : Int} {i n : Nat} (h1 : KC 190 [.win (.out 1) 1 0 n, iv x] (hR 1 l n) 2 (XQ ⟨.tup [iv (Int.ofNat i), bv true], hR 1 l n, 2⟩)) :
  KC 170 [sP, iv x] (hR 1 l n) 2 (XQ ⟨.tup [], hR 1 l n, 2⟩) := by
 refine cV [] [] (x := kD.of Tryz.f170 wQ vk) (by kernel_rfl) ?_; refine oh h1 ?_; exact fi
def hJ (l : List Int) (x : Int) : List Int := match l.contains x with | true => l | false => fJ l (l.countP (· < x)) x
theorem C4 {l : List Int} {i : Nat} {x : Int} : fJ l i x ≠ [] := by simp [fJ]
theorem Qh {l : List Int} {x : Int} (h0 : l ≠ []) (hs : l.Pairwise (· <= ·)) (hn : l.length < 1000000000) :
  KC 170 [sP, iv x] (hR 1 l l.length) 2 (XQ ⟨.tup [], hR 2 (hJ l x) (hJ l x).length, 3⟩) := by
 have h1 := H9 (x := x) hs hn rfl
 unfold hJ
 generalize hc : l.contains x = c at h1
 cases c
 ·have h2 := IM (x := x) (i := l.countP (· < x)) List.countP_le_length hn rfl
  refine ay.rn (Qg h1 h2) ?_
  rintro v hp m ⟨rfl, rfl, rfl⟩
  refine ⟨[3], rfl, ?_, ?_⟩
  ·simp [hR, bY, GZ, JD, gW, AL, dB, gF, qG]
   rfl
  simp [hR, bY, lF, oX, uZ, gv, eX, dB, gF, jD, oY, gz]
  exact ⟨rfl, rfl, rfl⟩
 refine ay.rn (Qe h1) ?_
 rintro v hp m ⟨rfl, rfl, rfl⟩
 refine ⟨[1], rfl, ?_, ?_⟩
 ·simp [hR, bY, GZ, JD, gW, AL, dB, gF, qG]
  rfl
 simp [hR, bY, lF, oX, uZ, gv, eX, dB, gF, jD, oY, gz]
 exact ⟨rfl, rfl, rfl⟩
theorem DY {x : Int} : KC 170 [sP, iv x] [(.out 0, .cells [.dat nl])] 1 (XQ ⟨.tup [], hR 1 [x] 1, 2⟩) := by
 refine ay.rn (Qf (x := x)) ?_
 rintro v hp m ⟨rfl, rfl, rfl⟩
 exact ⟨[2], rfl, rfl, rfl, rfl, rfl⟩
theorem Wb {l : List Int} {x : Int} (hs : l.Pairwise (· <= ·)) (hn : l.length < 1000000000) (r m : Nat) :
  KC 170 [sP, iv x] (hS r l) m (XQ ⟨.tup [], hS m (hJ l x), m + 1⟩) := by
 cases l with
 | nil =>
  have h := ay.frame (DY (x := x)) (fun o => o) (heap := hS r []) (rest := []) (next := m) (by rfl) rfl rfl rfl rfl
  refine h.mono ?_
  rintro v h m' ⟨v0, h1, n1, ⟨rfl, rfl, rfl⟩, rfl, rfl, rfl⟩
  refine ⟨rfl, ?_, rfl⟩
  show _ = hS m [x]
  simp [hS, hR, lF, oX, uZ, gv, eX, gz, ln]
  exact ⟨rfl, rfl, rfl⟩
 | cons y l =>
  have h2 : hJ (y :: l) x ≠ [] := by
   unfold hJ
   cases (y :: l).contains x with
   | true => simp
   | false => exact C4
  rw [Hs (by simp : (y :: l) ≠ []), Hs h2]
  have h := ay.frame (Qh (x := x) (by simp : (y :: l) ≠ []) hs hn) (fun o => match o with | 0 => 0 | _ => r) (heap := hR r (y :: l) (y :: l).length) (rest := []) (next := m) (by simp [hR, lF, oX, uZ, gz, gv, eX]) (by rfl) (by simp [cO, hR, nj, qK, dR, dG]; rfl) (by rfl) rfl
  refine h.mono ?_
  rintro v h m' ⟨v0, h1, n1, ⟨rfl, rfl, rfl⟩, rfl, rfl, rfl⟩
  refine ⟨rfl, ?_, rfl⟩
  simp [hR, lF, oX, uZ, gv, eX, gz, ln]
  exact ⟨rfl, rfl, rfl⟩
/-! ### collectFree -/
noncomputable def U1 : Hints := ⟨au, sv, ax, rowsOf ax 142⟩
def Ru (k : Int) (nm : List UInt8) (ix : Int) (a : aq) (n u : Nat) (H : Heap) (m : Nat) (i : Int) : ab := ⟨[(26, iv i), (25, iv (Int.ofNat n)), (24, .dat a), (3, .ptr (.loc 3) 0), (1, iv (Int.ofNat u)), (2, sP)], [(.loc 3, .cells [iv k, .dat (sb nm), iv ix, .dat a])], H, m⟩
def Ol (k : Int) (nm : List UInt8) (ix : Int) (a : aq) (n u : Nat) (H : Heap) (m : Nat) (i : Int) : ab := ⟨[(27, bv false), (26, iv i), (25, iv (Int.ofNat n)), (24, .dat a), (3, .ptr (.loc 3) 0), (1, iv (Int.ofNat u)), (2, sP)], [(.loc 3, .cells [iv k, .dat (sb nm), iv ix, .dat a])], H, m⟩
theorem Jo {k : Int} {nm : List UInt8} {ix : Int} {x : aq} {es : List aq} {l : List Ty} {t : Ty} {i u b m m2 : Nat} {H H2 : Heap} (hl : an l = x :: es) (hi : i < (an l).length) (ht : l[i]? = some t)
  (hb : ae 126 [.dat (.agg [i64 k, sb nm, i64 ix, .slice (x :: es)]), iv (Int.ofNat i)] (iv (Int.ofNat b)))
  (hc : KC 142 [.dat t.enc, iv (aG .i64 (Int.ofNat u + Int.ofNat b)), sP] H m (XQ ⟨.tup [], H2, m2⟩)) {T : Exit -> aa -> Prop}
  (e : T .normal ((Ru k nm ix (.slice (x :: es)) (x :: es).length u H2 m2 (aG .i64 (Int.ofNat i + 1))).aw Tryz.f142.ntmps)) :
  KD (roundOf Tryz.f142 0) T ((Ru k nm ix (.slice (x :: es)) (x :: es).length u H m (Int.ofNat i)).aw Tryz.f142.ntmps) := by
 have h1 := bN hi
 have h2 := jT ht
 rw [hl] at h1 h2
 clear ht hi hl
 obtain ⟨k2, nm2, ix2, a2⟩ := t
 rcases a2 with _ | ⟨b2, d2⟩ <;>
 ·refine az [27] [29] (H := U1) (live := oD) (by kernel_rfl) ?_; refine ob h1 ?_; refine oo h2 ?_; refine on hb ?_; refine oh hc ?_; exact oe e
theorem Nm {k : Int} {nm : List UInt8} {ix : Int} {a : aq} {n u m : Nat} {H : Heap} {T : Exit -> aa -> Prop} (e : T (.exit 0) ((Ol k nm ix a n u H m (Int.ofNat n)).aw Tryz.f142.ntmps)) :
  KD (roundOf Tryz.f142 0) T ((Ru k nm ix a n u H m (Int.ofNat n)).aw Tryz.f142.ntmps) := by
 have h1 := bO (i := n) (L := n) (by omega)
 refine az [27] [] (H := U1) (live := oD) (by kernel_rfl) ?_; refine ob h1 ?_; exact oe e
/-- What a root gives. -/
def dH (k ix : Int) (u : Nat) (s : List Int) : List Int := match bj k 5 with | false => s | true => (match ba ix (Int.ofNat u) with | true => s | false => hJ s (ix - Int.ofNat u))
mutual
def Ty.cf : Ty -> Nat -> List Int -> List Int
 | .mk k _ ix args, u, s => pv k args 0 u (dH k ix u s)
def pv (k : Int) : List Ty -> Nat -> Nat -> List Int -> List Int
 | [], _, _, s => s
 | t :: r, j, u, s => pv k r (j + 1) u (t.cf (u + cW k j) s)
end
theorem HC {k : Int} {b : List Ty} {u : Nat} : ∀ {a : List Ty} {j : Nat} {s : List Int}, pv k (a ++ b) j u s = pv k b (j + a.length) u (pv k a j u s)
 | [], j, s => by simp [pv]
 | t :: r, j, s => by
  simp only [List.cons_append, pv, List.length_cons]
  rw [HC, show j + 1 + r.length = j + (r.length + 1) by omega]
theorem DK {k : Int} {l : List Ty} {i u : Nat} {t : Ty} {s : List Int} (h : l[i]? = some t) : pv k (l.take (i + 1)) 0 u s = t.cf (u + cW k i) (pv k (l.take i) 0 u s) := by
 have hi := (List.getElem?_eq_some_iff.1 h).1
 rw [List.take_add_one, h, Option.toList_some, HC, Nat.zero_add, List.length_take, Nat.min_eq_left (by omega), pv, pv]
theorem Jp {k : Int} {nm : List UInt8} {ix : Int} {l : List aq} {u m m2 m3 : Nat} {ck cg : Bool} {H H2 H3 : Heap} (hk : bj k 5 = ck) (hg : ba ix (Int.ofNat u) = cg)
  (ha : ck = true -> cg = false -> KC 170 [sP, iv (aG .i64 (ix - Int.ofNat u))] H m (XQ ⟨.tup [], H2, m2⟩)) (he : ck = false ∨ cg = true -> H2 = H /\ m2 = m)
  (hl : KD (.loop (roundOf Tryz.f142 0)) (fun e s => e = .exit 0 /\ s = (Ol k nm ix (sl l) l.length u H3 m3 (Int.ofNat l.length)).aw Tryz.f142.ntmps) ((Ru k nm ix (sl l) l.length u H2 m2 (Int.ofNat 0)).aw Tryz.f142.ntmps)) :
  KC 142 [.dat (.agg [i64 k, sb nm, i64 ix, sl l]), iv (Int.ofNat u), sP] H m (XQ ⟨.tup [], H3, m3⟩) := by
 cases ck
 ·obtain ⟨rfl, rfl⟩ := he (.inl rfl)
  clear he ha
  rcases l with _ | ⟨x, l⟩ <;>
  ·refine cV [10] [] (x := kD.of Tryz.f142 sv oD) (by kernel_rfl) ?_; refine ob hk ?_; refine lo hl ?_; rintro ex s ⟨rfl, rfl⟩; refine ⟨_, rfl, ?_⟩; exact fi
 cases cg
 ·have ha2 := ha rfl rfl
  clear he ha
  rcases l with _ | ⟨x, l⟩ <;>
  ·refine cV [10, 15] [] (x := kD.of Tryz.f142 sv oD) (by kernel_rfl) ?_; refine ob hk ?_; refine ox hg ?_; refine oh ha2 ?_; refine lo hl ?_; rintro ex s ⟨rfl, rfl⟩; refine ⟨_, rfl, ?_⟩; exact fi
 obtain ⟨rfl, rfl⟩ := he (.inr rfl)
 clear he ha
 rcases l with _ | ⟨x, l⟩ <;>
 ·refine cV [10, 15] [] (x := kD.of Tryz.f142 sv oD) (by kernel_rfl) ?_; refine ob hk ?_; refine ox hg ?_; refine lo hl ?_; rintro ex s ⟨rfl, rfl⟩; refine ⟨_, rfl, ?_⟩; exact fi
/-- Sets as they are built. -/
def fm (b : Nat) (s : List Int) : Prop := s.Pairwise (· <= ·) /\ s.length <= b
theorem countP_split {l : List Int} {x : Int} (hs : l.Pairwise (· <= ·)) : (∀ y ∈ l.take (l.countP (· < x)), y < x) /\ (∀ y ∈ l.drop (l.countP (· < x)), x <= y) := by
 induction l with
 | nil => simp
 | cons a r ih =>
  obtain ⟨h1, h2⟩ := ih (List.Pairwise.of_cons hs)
  by_cases ha : a < x
  ·rw [List.countP_cons_of_pos (by simpa using ha)]
   refine ⟨?_, ?_⟩
   ·intro y hy
    simp only [List.take_succ_cons, List.mem_cons] at hy
    rcases hy with rfl | hy
    ·exact ha
    exact h1 y hy
   simpa only [List.drop_succ_cons] using h2
  have h0 : (a :: r).countP (· < x) = 0 := by
   rw [List.countP_eq_zero]
   intro y hy
   have hay : a <= y := by
    rcases List.mem_cons.1 hy with rfl | hy
    ·exact Int.le_refl _
    exact List.rel_of_pairwise_cons hs hy
   simp only [decide_eq_true_eq]
   omega
  rw [h0]
  refine ⟨by simp, ?_⟩
  intro y hy
  simp only [List.drop_zero] at hy
  have hay : a <= y := by
   rcases List.mem_cons.1 hy with rfl | hy
   ·exact Int.le_refl _
   exact List.rel_of_pairwise_cons hs hy
  omega
theorem H8 {b : Nat} {s : List Int} {x : Int} (h : fm b s) : fm (b + 1) (hJ s x) := by
 obtain ⟨h1, h2⟩ := h
 unfold hJ
 cases s.contains x with
 | true => exact ⟨h1, Nat.le_succ_of_le h2⟩
 | false =>
  obtain ⟨c1, c2⟩ := countP_split (x := x) h1
  refine ⟨?_, ?_⟩
  ·unfold fJ
   rw [List.pairwise_append]
   refine ⟨h1.sublist (List.take_sublist _ _), ?_, ?_⟩
   ·rw [List.pairwise_cons]
    exact ⟨c2, h1.sublist (List.drop_sublist _ _)⟩
   intro y hy z hz
   have := c1 y hy
   rcases List.mem_cons.1 hz with rfl | hz
   ·omega
   have := c2 z hz
   omega
  rw [qX List.countP_le_length]; omega
theorem wo {b : Nat} {k ix : Int} {u : Nat} {s : List Int} (h : fm b s) : fm (b + 1) (dH k ix u s) := by
 unfold dH
 cases bj k 5 with
 | false => exact ⟨h.1, Nat.le_succ_of_le h.2⟩
 | true =>
  cases ba ix (Int.ofNat u) with
  | true => exact ⟨h.1, Nat.le_succ_of_le h.2⟩
  | false => exact H8 h
mutual
theorem Q4 : ∀ (t : Ty) (u : Nat) {b : Nat} {s : List Int}, fm b s -> fm (b + t.size) (t.cf u s)
 | .mk k nm ix l, u, b, s, h => by
  rw [Ty.cf, Ty.size, show b + (aR l + 1) = b + 1 + aR l by omega]
  exact Bs l u (wo h)
theorem Bs {k : Int} : ∀ (l : List Ty) {j : Nat} (u : Nat) {b : Nat} {s : List Int}, fm b s -> fm (b + aR l) (pv k l j u s)
 | [], j, u, b, s, h => by simpa [pv, aR] using h
 | t :: r, j, u, b, s, h => by
  rw [pv, aR, ← Nat.add_assoc]
  exact Bs r u (Q4 t _ h)
end
def CF (t : Ty) (u : Nat) (s : List Int) : Prop := ∀ r m, 0 < r -> 0 < m -> KC 142 [.dat t.enc, iv (Int.ofNat u), sP] (hS r s) m (XQ ⟨.tup [], hS m (t.cf u s), m + 1⟩)
def Cb (r m : Nat) : Nat -> Nat
 | 0 => r
 | i + 1 => m + i
theorem Ca {r m i : Nat} (h1 : 0 < r) (h2 : 0 < m) : 0 < Cb r m i := by cases i with | zero => exact h1 | succ i => simp only [Cb]; omega
theorem RB {f : FuncId} {args : List ac} {h0 : Heap} {m q mm : Nat} {s : List Int} (hm : 0 < m) (hq : 0 < q) (h : KC f args h0 m (XQ ⟨.tup [], hS q s, mm⟩)) : KC f args h0 m (XQ ⟨.tup [], hS m s, m + 1⟩) := by
 refine ay.rn h ?_
 rintro v hp m' ⟨rfl, rfl, rfl⟩
 refine ⟨[q], rfl, ?_, ?_⟩
 all_goals
  have e1 : gF 0 [q] = false := by cases q with | zero => omega | succ q => rfl
  have e2 : gF q [q] = true := by simp [gF]
  have e3 : dB m [q] 0 = true := by simp [dB, Nat.blt_eq, hm]
  have e4 : dB m [q] q = true := by simp [dB, e2]
  have e5 : jD m [q] 0 = 0 := by simp [jD, e1]
  have e6 : jD m [q] q = m := by simp [jD, e2, oY]
 ·cases s with
  | nil => simp [hS, bY, GZ, JD, gW, AL, e3]
  | cons x l => simp [hS, bY, GZ, JD, gW, AL, e3, e4, qG]
 ·cases s with
  | nil => simp [hS, bY, lF, oX, uZ, gv, eX, e3, e5]; exact ⟨rfl, rfl, rfl⟩
  | cons x l => simp [hS, bY, lF, oX, uZ, gv, eX, e3, e4, e5, e6, gz]; exact ⟨rfl, rfl, rfl⟩
theorem PY {k : Int} {nm : List UInt8} {ix : Int} {l : List Ty} {u b : Nat} {s : List Int} (hs : fm b s) (hbd : b + 1 + aR l < 1000000000) (hu : u < 1000000000) (hix : bj k 5 = true -> ba ix 500000000 = true)
  (ih : ∀ t ∈ l, ∀ v s2, v <= u + 1 -> fm (b + 1 + aR l) s2 -> (∃ b2, fm b2 s2 /\ b2 + t.size <= b + 1 + aR l) -> CF t v s2) : CF (.mk k nm ix l) u s := by
 intro r m hr hm
 have hlen := eg l
 obtain ⟨r2, m2, hr2, hm2, hH2⟩ : ∃ r2 m2, 0 < r2 /\ 0 < m2 /\ ((bj k 5 = true -> ba ix (Int.ofNat u) = false -> KC 170 [sP, iv (aG .i64 (ix - Int.ofNat u))] (hS r s) m (XQ ⟨.tup [], hS r2 (dH k ix u s), m2⟩)) /\ (bj k 5 = false ∨ ba ix (Int.ofNat u) = true -> hS r2 (dH k ix u s) = hS r s /\ m2 = m)) := by
  unfold dH
  cases hk : bj k 5 with
  | false => exact ⟨r, m, hr, hm, by simp, fun _ => ⟨rfl, rfl⟩⟩
  | true =>
   cases hg : ba ix (Int.ofNat u) with
   | true => exact ⟨r, m, hr, hm, by simp, fun _ => ⟨rfl, rfl⟩⟩
   | false =>
    refine ⟨m, m + 1, hm, by omega, fun _ _ => ?_, by simp⟩
    have hix := hix hk
    rw [gd] at hg hix
    simp only [decide_eq_false_iff_not, decide_eq_true_eq] at hg hix
    have e : aG .i64 (ix - Int.ofNat u) = ix - Int.ofNat u := by
     rw [dx]
     simp only [Int.ofNat_eq_natCast] at hg ⊢
     exact wrap_i64 (by omega) (by omega)
    rw [e]
    exact Wb hs.1 (by have := hs.2; omega) r m
 have hs1 := wo (k := k) (ix := ix) (u := u) hs
 refine RB (q := Cb r2 m2 l.length) (mm := m2 + l.length) hm (Ca hr2 hm2) ?_
 have hl : KD (.loop (roundOf Tryz.f142 0)) (fun e s' => e = .exit 0 /\ s' = (Ol k nm ix (sl (an l)) (an l).length u (hS (Cb r2 m2 l.length) (pv k l 0 u (dH k ix u s))) (m2 + l.length) (Int.ofNat (an l).length)).aw Tryz.f142.ntmps)
   ((Ru k nm ix (sl (an l)) (an l).length u (hS r2 (dH k ix u s)) m2 (Int.ofNat 0)).aw Tryz.f142.ntmps) := by
  refine bG (St := fun i => (Ru k nm ix (sl (an l)) (an l).length u (hS (Cb r2 m2 i) (pv k (l.take i) 0 u (dH k ix u s))) (m2 + i) (Int.ofNat i)).aw Tryz.f142.ntmps) (an l).length ?_ ?_ (i := 0) (Nat.zero_le _)
  ·intro i hi
   obtain ⟨t, ht, hmem⟩ := get_mem hi
   have hi2 := hi
   rw [aE] at hi2
   have hbn : cW k i <= 1 := by unfold cW; split <;> omega
   obtain ⟨x, es, hx⟩ : ∃ x es, an l = x :: es := by
    cases hl : an l with
    | nil => rw [hl] at hi; simp at hi
    | cons x es => exact ⟨x, es, rfl⟩
   have hst := jC ht
   have hsl := qq (l := l) (i + 1)
   have hpre : fm (b + 1 + aR (l.take i)) (pv k (l.take i) 0 u (dH k ix u s)) := Bs _ u hs1
   have hcf := ih t hmem (u + cW k i) (pv k (l.take i) 0 u (dH k ix u s)) (by omega) ⟨hpre.1, by have := hpre.2; omega⟩ ⟨_, hpre, by omega⟩ (Cb r2 m2 i) (m2 + i) (Ca hr2 hm2) (by omega)
   rw [← wrap_add (n := u) (m := cW k i) (by omega)] at hcf
   have hbi := sW k nm ix (.slice (x :: es)) (.inr ⟨_, rfl⟩) i
   have e := Jo (T := qv (fun s' => s' = (Ru k nm ix (sl (an l)) (an l).length u (hS (Cb r2 m2 (i + 1)) (pv k (l.take (i + 1)) 0 u (dH k ix u s))) (m2 + (i + 1)) (Int.ofNat (i + 1))).aw Tryz.f142.ntmps)
    (fun e s' => e = .exit 0 /\ s' = (Ol k nm ix (sl (an l)) (an l).length u (hS (Cb r2 m2 l.length) (pv k l 0 u (dH k ix u s))) (m2 + l.length) (Int.ofNat (an l).length)).aw Tryz.f142.ntmps)) hx hi ht hbi hcf (by
     rw [hx, bi (by omega), DK ht]
     rfl)
   rw [hx]
   rw [hx] at e
   exact e
  refine Nm ⟨rfl, ?_⟩
  rw [aE, List.take_length]
 exact Jp rfl rfl hH2.1 hH2.2 hl
mutual
theorem zT : ∀ (t : Ty) (u : Nat) {b : Nat} {s : List Int}, fm b s -> b + t.size < 1000000000 -> u + t.depth < 1000000000 -> t.eI -> CF t u s
 | .mk k nm ix l, u, b, s, hs, hb, hu, hx => by
  simp only [Ty.size] at hb
  simp only [Ty.depth] at hu
  simp only [Ty.eI] at hx
  exact PY hs (by omega) (by omega) hx.1 (xR l u (by omega) (by omega) hx.2)
theorem xR : ∀ (l : List Ty) (u : Nat) {B : Nat}, u + cB l + 1 < 1000000000 -> B < 1000000000 -> di l -> ∀ t ∈ l, ∀ v s2, v <= u + 1 -> fm B s2 -> (∃ b2, fm b2 s2 /\ b2 + t.size <= B) -> CF t v s2
 | [], u, B, hu, _, hx, t, ht, _, _, _, _, _ => by simp at ht
 | y :: r, u, B, hu, hB, hx, t, ht, v, s2, hv, h1, h2 => by
  simp only [cB] at hu
  simp only [di] at hx
  rcases List.mem_cons.1 ht with h3 | ht
  ·obtain ⟨b2, h4, h5⟩ := h2
   rw [h3] at h5 ⊢
   exact zT y v h4 (by omega) (by omega) hx.1
  exact xR r u (by omega) hB hx.2 t ht v s2 hv h1 h2
end
/-! ### FreeVars -/
theorem MI {k : Int} {nm : List UInt8} {ix : Int} {l : List aq} {s : List Int} (h : KC 142 [.dat (.agg [i64 k, sb nm, i64 ix, sl l]), iv (Int.ofNat 0), sP] [(.out 0, .cells [.dat nl])] 1 (XQ ⟨.tup [], hS 1 s, 2⟩)) :
  KC 119 [.dat (.agg [i64 k, sb nm, i64 ix, sl l])] [] 0 (XQ (match s with | [] => ⟨.dat nl, hS 1 [], 2⟩ | x :: r => ⟨.win (.out 1) 1 0 (x :: r).length, hS 1 (x :: r), 2⟩)) := by
 rcases l with _ | ⟨y, l⟩ <;>
 ·cases s with
  | nil =>
   refine cV [] [] (x := kD.of Tryz.f119 AI AW) (by kernel_rfl) ?_; refine oh h ?_; exact fi
  | cons x r =>
   refine cV [] [] (x := kD.of Tryz.f119 AI AW) (by kernel_rfl) ?_; refine oh h ?_; exact fi
def iN (x : Int) : aq := .flat (.int .i64 x)
def Ty.fv (t : Ty) : List Int := t.cf 0 []
theorem A8 {t : Ty} : fm (0 + t.size) t.fv := Q4 t 0 ⟨List.Pairwise.nil, Nat.le_refl _⟩
theorem xS {t : Ty} (hs : t.size < 400000000) (hx : t.eI) : ae 119 [.dat t.enc] (.dat (sl (t.fv.map iN))) := by
 have h1 := zT t 0 (s := []) ⟨List.Pairwise.nil, Nat.le_refl 0⟩ (by omega) (by have := jO t; omega) hx 1 1 (by decide) (by decide)
 have h2 := A8 (t := t)
 unfold Ty.fv at h2 ⊢
 generalize t.cf 0 [] = s at h1 h2
 obtain ⟨k, nm, ix, l⟩ := t
 have h3 := MI h1
 cases s with
 | nil =>
  refine ay.rn h3 ?_
  rintro v hp m ⟨rfl, rfl, rfl⟩
  exact ⟨[], rfl, rfl, rfl, rfl, rfl⟩
 | cons x r => exact ay.PB h3 (by have := h2.2; simp only [iV]; omega)
def gm : List Ty -> Bool
 | t :: _ => t.closed 0
 | [] => false
def pR (k : Int) (nm : List UInt8) (ix : Int) (l : List Ty) : Bool :=
 if (!bj k 2 && !fY nm []) = true then false
 else if (!bj k 5 && !bj ix 0) = true then false
 else if (bj k 0 || bj k 1) = true then bj (Int.ofNat (an l).length) 0
 else if bj k 2 = true then isIdent nm && (!fL nm && (!ba 6 (Int.ofNat (an l).length) && !fU l))
 else if bj k 3 = true then !ba 6 (Int.ofNat (an l).length)
 else if bj k 4 = true then !ba (Int.ofNat (an l).length) 2
 else if bj k 5 = true then bj (Int.ofNat (an l).length) 0 && (!ba ix 0 && !ba 200 ix)
 else if bj k 6 = true then bj (Int.ofNat (an l).length) 2 && gm l
 else false
theorem DL {k : Int} {nm : List UInt8} {ix : Int} {l : List Ty} (hp : ∀ t ∈ l, ae 117 [.dat t.enc] (bv t.plain)) (hcl : ∀ t ∈ l, ae 139 [.dat t.enc, iv (Int.ofNat 0)] (bv (t.closed 0)))
  (hb : l.length < 1000000000) : ae 167 [.dat (Ty.mk k nm ix l).enc] (bv (pR k nm ix l)) := by
 have hid := sU nm
 have hrs := uv nm
 have hpa := uu (k := k) (nm := nm) (ix := ix) hp hb
 have hfc : ∀ t r, l = t :: r -> ae 139 [.dat t.enc, iv (Int.ofNat 0)] (bv (gm l)) := by
  rintro t r rfl
  exact hcl t (by simp)
 unfold pR
 generalize gm l = fc at hfc
 generalize isIdent nm = ci at hid
 generalize fL nm = cr at hrs
 generalize fU l = cp at hpa
 generalize h0 : bj k 0 = c0
 generalize h1 : bj k 1 = c1
 generalize h2 : bj k 2 = c2
 generalize h3 : bj k 3 = c3
 generalize h4 : bj k 4 = c4
 generalize h5 : bj k 5 = c5
 generalize h6 : bj k 6 = c6
 generalize hn : fY nm [] = cn
 generalize hx : bj ix 0 = cx
 generalize hl6 : ba 6 (Int.ofNat (an l).length) = l6
 generalize hl2 : ba (Int.ofNat (an l).length) 2 = l2
 generalize he0 : bj (Int.ofNat (an l).length) 0 = e0
 generalize he2 : bj (Int.ofNat (an l).length) 2 = e2
 generalize hx0 : ba ix 0 = x0
 generalize hx2 : ba 200 ix = x2
 clear hp hcl hb
 rcases l with _ | ⟨t, r⟩ <;>
 ·refine co [5, 9, 14, 18, 24, 25, 31, 53, 59, 65, 81, 29, 46, 57, 63, 69, 73, 78, 85] [89] (x := .of Tryz.f167 EJ G9) ?_; refine bh (b := !c2) (c := !bj k 2) (by rw [h2]) (by kernel_rfl) ?_
  cases c2
  ·refine bh (b := !cn) (c := !fY nm []) (by rw [hn]) (by kernel_rfl) ?_
   cases cn with
   | false => exact fi
   | true =>
    refine bh (b := !c5) (c := !bj k 5) (by rw [h5]) (by kernel_rfl) ?_
    cases c5
    ·refine bh (b := !cx) (c := !bj ix 0) (by rw [hx]) (by kernel_rfl) ?_
     cases cx with
     | false => exact fi
     | true =>
      refine ob h0 ?_
      cases c0
      ·refine ob h1 ?_
       cases c1
       ·refine ob h2 ?_; refine ob h3 ?_
        cases c3
        ·refine ob h4 ?_
         cases c4
         ·refine ob h5 ?_; refine ob h6 ?_
          cases c6 with
          | false => exact fi
          | true =>
           refine ob he2 ?_
           cases e2 with
           | false => exact fi
           | true =>
            first
            |exact absurd he2 (by decide)
            |have hc := hfc _ _ rfl
             have hidx := jT (l := t :: r) (i := 0) (t := t) rfl
             obtain ⟨k2, nm2, ix2, a2⟩ := t
             rcases a2 with _ | ⟨b, d⟩ <;>
             ·refine oo hidx ?_; refine on hc ?_
              cases fc <;> exact fi
         refine bh (b := !l2) (c := !ba _ 2) (by rw [hl2]) (by kernel_rfl) ?_
         cases l2 <;> exact fi
        refine bh (b := !l6) (c := !ba 6 _) (by rw [hl6]) (by kernel_rfl) ?_
        cases l6 <;> exact fi
       refine ob he0 ?_
       cases e0 <;> exact fi
      refine ob he0 ?_
      cases e0 <;> exact fi
    refine ob h0 ?_
    cases c0
    ·refine ob h1 ?_
     cases c1
     ·refine ob h2 ?_; refine ob h3 ?_
      cases c3
      ·refine ob h4 ?_
       cases c4
       ·refine ob h5 ?_; refine ob he0 ?_
        cases e0 with
        | false => exact fi
        | true =>
         refine bh (b := !x0) (c := !ba ix 0) (by rw [hx0]) (by kernel_rfl) ?_
         cases x0
         ·refine bh (b := !x2) (c := !ba 200 ix) (by rw [hx2]) (by kernel_rfl) ?_
          cases x2 <;> exact fi
         exact fi
       exact absurd h4 (by rw [fM] at h5 ⊢; simp at h5 ⊢; omega)
      exact absurd h3 (by rw [fM] at h5 ⊢; simp at h5 ⊢; omega)
     exact absurd h1 (by rw [fM] at h5 ⊢; simp at h5 ⊢; omega)
    exact absurd h0 (by rw [fM] at h5 ⊢; simp at h5 ⊢; omega)
  refine bh (b := !c5) (c := !bj k 5) (by rw [h5]) (by kernel_rfl) ?_
  cases c5
  ·refine bh (b := !cx) (c := !bj ix 0) (by rw [hx]) (by kernel_rfl) ?_
   cases cx with
   | false => exact fi
   | true =>
    refine ob h0 ?_
    cases c0
    ·refine ob h1 ?_
     cases c1
     ·refine ob h2 ?_; refine on hid ?_
      cases ci with
      | false => exact fi
      | true =>
       refine on hrs ?_
       cases cr
       ·refine bh (b := !l6) (c := !ba 6 _) (by rw [hl6]) (by kernel_rfl) ?_
        cases l6
        ·refine on hpa ?_
         cases cp <;> exact fi
        exact fi
       exact fi
     exact absurd h1 (by rw [fM] at h2 ⊢; simp at h2 ⊢; omega)
    exact absurd h0 (by rw [fM] at h2 ⊢; simp at h2 ⊢; omega)
  exact absurd h5 (by rw [fM] at h2 ⊢; simp at h2 ⊢; omega)
mutual
def Ty.valid : Ty -> Bool
 | .mk k nm ix l => pR k nm ix l && !mL l
def mL : List Ty -> Bool
 | [] => false
 | t :: r => !t.valid || mL r
end
theorem zY : ∀ l : List Ty, mL l = l.any (fun t => !t.valid)
 | [] => by simp [mL]
 | t :: r => by simp [mL, zY r]
theorem D6 {k : Int} {nm : List UInt8} {ix : Int} {l : List Ty} (hv : ∀ t ∈ l, ae 138 [.dat t.enc] (bv t.valid)) (hs : (Ty.mk k nm ix l).size < 1000000000) : ae 138 [.dat (Ty.mk k nm ix l).enc] (bv (Ty.mk k nm ix l).valid) := by
 have hsz : aR l < 1000000000 := by simp only [Ty.size] at hs; omega
 have hb : l.length < 1000000000 := by have := eg l; omega
 have hdp := iQ l
 have h1 := DL (k := k) (nm := nm) (ix := ix) (xP l hsz) (sV l 0 hsz (by omega)) hb
 have h2 : ∀ t ∈ l, ae 168 [.dat t.enc] (bv (!t.valid)) := by
  intro t ht
  have hc := hv t ht
  generalize t.valid = c at hc
  obtain ⟨k2, nm2, ix2, a2⟩ := t
  rcases a2 with _ | ⟨b, d⟩ <;> cases c <;>
  ·refine co [] [] (x := .of Tryz.f168 EI G8) ?_; refine on hc ?_; exact fi
 have h3 := yd h2 hb
 rw [Ty.valid, zY]
 generalize l.any (fun t => !t.valid) = ca at h3
 generalize pR k nm ix l = cn at h1
 clear hv hs hsz hb hdp h2
 rcases l with _ | ⟨b, d⟩ <;>
 ·refine co [] [] (x := .of Tryz.f138 EP Hf) ?_; refine on h1 ?_
  cases cn with
  | false => exact fi
  | true =>
   refine on h3 ?_
   cases ca <;> exact fi
mutual
theorem HD : ∀ t : Ty, t.size < 1000000000 -> ae 138 [.dat t.enc] (bv t.valid)
 | .mk k nm ix l, h => D6 (DM l (by simp only [Ty.size] at h; omega)) h
theorem DM : ∀ l : List Ty, aR l < 1000000000 -> ∀ t ∈ l, ae 138 [.dat t.enc] (bv t.valid)
 | [], _, t, ht => by simp at ht
 | x :: r, h, t, ht => by
  simp only [aR] at h
  rcases List.mem_cons.1 ht with h1 | ht
  ·rw [h1]; exact HD x (by omega)
  exact DM r (by omega) t ht
end
/-- What Validate answers. -/
def Ty.validate (t : Ty) : Int := match ba 200 (Int.ofNat t.size) || ba 12 (Int.ofNat t.depth) with | true => 4 | false => (match t.valid with | true => 0 | false => 2)
theorem FZ (t : Ty) (h : t.size < 1000000000) : ae 116 [.dat t.enc] (iv t.validate) := by
 have h1 := Nv t h
 have h2 := HH t h
 have h3 := HD t h
 unfold Ty.validate
 generalize hs : t.size = n at h1 h
 generalize t.depth = m at h2
 generalize t.valid = c at h3
 generalize hn : ba 200 (Int.ofNat n) = cn
 generalize hm : ba 12 (Int.ofNat m) = cm
 clear hs h
 obtain ⟨k2, nm2, ix2, a2⟩ := t
 rcases a2 with _ | ⟨b, d⟩ <;>
 ·refine co [6, 10] [] (x := .of Tryz.f116 EW Hm) ?_; refine on h1 ?_; refine ob hn ?_
  cases cn
  ·refine on h2 ?_; refine ob hm ?_
   cases cm
   ·refine on h3 ?_
    cases c <;> exact fi
   exact fi
  exact fi
noncomputable def Od : TI := match Go.Tp.elemOf (env ap.aK) 22 with | some t => t | none => default
theorem JU : Go.Tp.elemOf (env ap.aK) 22 = some Od := by kernel_rfl
theorem mQ : Od.size = 1 := by kernel_rfl
theorem IS {l : List Int} {i : Nat} {t : Int} (h : l[i]? = some t) : aC (env ap.aK) 22 [.dat (.slice (l.map iN)), .dat (.flat (.int .i64 (Int.ofNat i)))] = some ⟨.ref [iN t], .keep⟩ :=
 rI (d := iN t) JU rfl (by rw [List.getElem?_map, h]; rfl) (by rw [mQ]; rfl) (by rw [mQ]; decide)
theorem P3 {x ar : Int} : ae 120 [iv x, .ref [iN ar]] (bv (!ba x ar)) := by
 generalize h : ba x ar = c
 refine co [6] [] (x := .of Tryz.f120 ET Hj) ?_; refine ox h ?_
 cases c <;>
 ·exact fi
def V2 (ar : Int) : ac := .fn (.func 120) [] [.ref [iN ar]]
noncomputable def R8 : Hints := ⟨au, AD, ax, rowsOf ax 141⟩
def Un (ar : Int) (a : aq) (n : Nat) (i : Int) : ab := ⟨[(8, iv i), (7, iv (Int.ofNat n)), (0, .dat a), (1, V2 ar)], [], [], 0⟩
def Ul (ar : Int) (a : aq) (n : Nat) : ab := ⟨[(9, bv false), (8, iv (Int.ofNat n)), (7, iv (Int.ofNat n)), (0, .dat a), (1, V2 ar)], [], [], 0⟩
def Um (i : Nat) : ab := ⟨[(4, iv (Int.ofNat i))], [], [], 0⟩
theorem ED {l : List Int} {x ar : Int} {i : Nat} {c : Bool} {T : Exit -> aa -> Prop} (hi : i < (l.map iN).length) (ht : l[i]? = some x) (hc : ae 120 [iv x, .ref [iN ar]] (bv c))
  (e1 : c = false -> T .normal ((Un ar (.slice (l.map iN)) (l.map iN).length (aG .i64 (Int.ofNat i + 1))).aw Tryz.f141.ntmps)) (e2 : c = true -> T .ret ((Um i).aw Tryz.f141.ntmps)) :
  KD (roundOf Tryz.f141 0) T ((Un ar (.slice (l.map iN)) (l.map iN).length (Int.ofNat i)).aw Tryz.f141.ntmps) := by
 have h1 := bN hi
 have h2 := IS ht
 generalize l.map iN = es at *
 clear ht hi
 cases c
 ·refine az [9] [14] (H := R8) (live := qT) (by kernel_rfl) ?_; refine ob h1 ?_; refine oo h2 ?_; refine on hc ?_; exact oe (e1 rfl)
 refine az [9] [14] (H := R8) (live := qT) (by kernel_rfl) ?_; refine ob h1 ?_; refine oo h2 ?_; refine on hc ?_; exact oe (e2 rfl)
theorem K4 {ar : Int} {a : aq} {n : Nat} {T : Exit -> aa -> Prop} (e1 : T (.exit 0) ((Ul ar a n).aw Tryz.f141.ntmps)) :
  KD (roundOf Tryz.f141 0) T ((Un ar a n (Int.ofNat n)).aw Tryz.f141.ntmps) := by
 have h1 := bO (i := n) (L := n) (by omega)
 refine az [9] [] (H := R8) (live := qT) (by kernel_rfl) ?_; refine ob h1 ?_; exact oe e1
theorem OI {l : List Int} {ar : Int} (hb : l.length < 1000000000) : ae 141 [.dat (sl (l.map iN)), V2 ar] (iv (rV (fun x => !ba x ar) l 0)) := by
 have hl : ∀ a, a = sl (l.map iN) -> KD (.loop (roundOf Tryz.f141 0)) (fun e s => (e = .exit 0 /\ rV (fun x => !ba x ar) l 0 = -1 /\ s = (Ul ar a (l.map iN).length).aw Tryz.f141.ntmps) ∨ (e = .ret /\ ∃ i : Nat, rV (fun x => !ba x ar) l 0 = Int.ofNat i /\ s = (Um i).aw Tryz.f141.ntmps)) ((Un ar a (l.map iN).length (Int.ofNat 0)).aw Tryz.f141.ntmps) := by
  intro a ha
  refine ct (St := fun i => (Un ar a (l.map iN).length (Int.ofNat i)).aw Tryz.f141.ntmps) (fun i => rV (fun x => !ba x ar) l 0 = rV (fun x => !ba x ar) (l.drop i) i) (l.map iN).length ?_ ?_ (i := 0) (Nat.zero_le _) rfl
  ·intro i hi hI
   have hi2 := hi
   rw [List.length_map] at hi2
   have ht : l[i]? = some l[i] := List.getElem?_eq_getElem hi2
   generalize l[i] = t at ht
   have hd := xi (p := fun x => !ba x ar) ht
   have hw : aG .i64 (Int.ofNat i + 1) = Int.ofNat (i + 1) := bi (by omega)
   rw [← hI] at hd
   have ha2 : a = .slice (l.map iN) := by
    rw [ha]
    cases l with
    | nil => simp at ht
    | cons x r => rfl
   subst ha2
   have hc := P3 (x := t) (ar := ar)
   generalize (!ba t ar) = c at hc hd
   refine ED hi ht hc ?_ ?_
   ·rintro rfl
    rw [hw]
    exact ⟨rfl, hd⟩
   rintro rfl
   exact .inr ⟨rfl, i, hd, rfl⟩
  intro hI
  refine K4 (.inl ⟨rfl, ?_, rfl⟩)
  rw [hI, List.length_map, List.drop_length]
  rfl
 have hl := hl _ rfl
 clear hb
 generalize hj : rV (fun x => !ba x ar) l 0 = j at hl
 clear hj
 generalize l.map iN = es at *
 rcases es with _ | ⟨x, es⟩ <;>
 ·refine co [] [] (x := .of Tryz.f141 AD qT) ?_; refine lo hl ?_
  rintro ex s (⟨rfl, rfl, rfl⟩ | ⟨rfl, ⟨x0, rfl, rfl⟩⟩) <;>
  ·refine ⟨_, rfl, ?_⟩; exact fi
theorem K5 {l : List Int} {ar : Int} (hb : l.length < 1000000000) : ae 118 [.dat (sl (l.map iN)), V2 ar] (bv (l.any (fun x => !ba x ar))) := by
 have h := OI (ar := ar) hb
 have h3 := A0 (p := fun x => !ba x ar) (l := l) (i := 0)
 generalize rV (fun x => !ba x ar) l 0 = j at h h3
 have e : l.any (fun x => !ba x ar) = !(!(l.any (fun x => !ba x ar))) := by rw [Bool.not_not]
 rw [e]
 generalize l.any (fun x => !ba x ar) = c at h3
 generalize l.map iN = es at *
 clear hb e
 rcases es with _ | ⟨x, es⟩ <;>
 ·refine co [8] [] (x := .of Tryz.f118 EU Hk) ?_; refine on h ?_; refine ox h3 ?_; exact fi
theorem It {k : Int} {nm : List UInt8} {ix ar v : Int} {l fv : List aq} {c1 c2 c3 : Bool} (h1 : ae 116 [.dat (.agg [i64 k, sb nm, i64 ix, sl l])] (iv v)) (hv : bj v 0 = c1) (h2 : ae 117 [.dat (.agg [i64 k, sb nm, i64 ix, sl l])] (bv c2))
 (h3 : ae 119 [.dat (.agg [i64 k, sb nm, i64 ix, sl l])] (.dat (sl fv))) (h4 : ae 118 [.dat (sl fv), V2 ar] (bv c3)) : ae 89 [.dat (.agg [i64 k, sb nm, i64 ix, sl l]), iv ar] (bv (c1 && (c2 && !c3))) := by
 rcases l with _ | ⟨x, l⟩ <;>
 ·rcases fv with _ | ⟨y, fv⟩ <;>
  ·refine co [7] [] (x := .of Tryz.f89 K9 L7) ?_; refine on h1 ?_; refine ob hv ?_
   cases c1
   ·exact fi
   refine on h2 ?_
   cases c2
   ·exact fi
   refine on h3 ?_; refine on h4 ?_; exact fi
def Ty.over (t : Ty) (ar : Int) : Bool := bj t.validate 0 && (t.plain && !(t.fv.any (fun x => !ba x ar)))
theorem ur {t : Ty} {ar : Int} (h : t.cA) : ae 89 [.dat t.enc, iv ar] (bv (t.over ar)) := by
 have hs := h.1
 have h1 := FZ t (by omega)
 have h2 := HF t (by omega)
 have h3 := xS (by omega) h.2
 have h4 := K5 (l := t.fv) (ar := ar) (by have := (A8 (t := t)).2; omega)
 obtain ⟨k, nm, ix, l⟩ := t
 exact It h1 rfl h2 h3 h4
def RP (c : Bool) (r m : Int) : Int := match c with | true => aG .i64 (r + m) | false => r
theorem Ox {n m : Int} (h : bj m 0 = false) : JC (env ap.aK) .rem 3 [iv n, iv m] = some ⟨iv (n.tmod m), .keep⟩ := by
 have h1 : JC (env ap.aK) .rem 3 [iv n, iv m] = RM (if bj m 0 = true then none else some (.int .i64 (n.tmod m))) := by kernel_rfl
 rw [h1, h]
 rfl
theorem RO {n m : Int} {c : Bool} (h1 : JC (env ap.aK) .rem 3 [iv n, iv m] = some ⟨iv (n.tmod m), .keep⟩) (h2 : ba (n.tmod m) 0 = c) : ae 13 [iv n, iv m] (iv (RP c (n.tmod m) m)) := by
 refine co [9] [7] (x := .of Tryz.f13 LH Ms) ?_; refine oo h1 ?_; refine ob h2 ?_
 cases c <;>
 ·exact fi
theorem Q1 (n : Int) {m : Nat} (hm : 0 < m) (hb : m < 1000000000) : ae 13 [iv n, iv (Int.ofNat m)] (iv (n % Int.ofNat m)) := by
 have h := RO (n := n) (m := Int.ofNat m) (Ox (by rw [fM, beq_eq_false_iff_ne]; intro h; have := Int.ofNat.inj (h.trans (show (0 : Int) = Int.ofNat 0 from rfl)); omega)) rfl
 have e : RP (ba (n.tmod (Int.ofNat m)) 0) (n.tmod (Int.ofNat m)) (Int.ofNat m) = n % Int.ofNat m := by
  have h0 : (0 : Int) < Int.ofNat m := by simp; omega
  have h1 := Int.emod_nonneg n (show Int.ofNat m ≠ 0 by omega)
  have h2 := Int.emod_lt_of_pos n h0
  have h3 : Int.ofNat m < 1000000000 := by simp; omega
  rw [gd]
  have ht := Int.tmod_eq_emod (a := n) (b := Int.ofNat m)
  generalize Int.ofNat m = M at *
  generalize n % M = q at *
  rw [ht]
  unfold RP
  split at ht
  ·rename_i hc
   rw [if_pos hc, show ((0 : Nat) : Int) = 0 from rfl, Int.sub_zero]
   rw [decide_eq_false (by omega)]
  rename_i hc
  rw [if_neg hc]
  have hM : (M.natAbs : Int) = M := by omega
  rw [hM]
  rw [decide_eq_true (by omega)]
  dsimp only
  rw [dx, wrap_i64 (by omega) (by omega)]
  omega
 rw [e] at h
 exact h
/-- The stream: the list and the place. -/
def fK (l : List aq) (k : Int) : Heap := [(.out 0, .cells [.dat (.slice l), iv k])]
def eD : ac := .ptr (.out 0) 0
theorem U2 {l : List aq} : KC 15 [.dat (.slice l)] [] 0 (XQ ⟨eD, fK l 0, 1⟩) := by
 refine co [] [] (x := .of Tryz.f15 LC Mr) ?_; exact fi
theorem G0 {l : List aq} {k n x r : Int} {c : Bool} (h1 : ba k (Int.ofNat l.length) = c) (h2 : c = true -> aC (env ap.aK) 22 [.dat (.slice l), .dat (.flat (.int .i64 (aG .i64 (aG .i64 (k + 1) - 1))))] = some ⟨.ref [iN x], .keep⟩) (h3 : ae 13 [iv x, iv n] (iv r)) :
  KC 64 [eD, iv n] (fK l k) 1 (XQ ⟨iv (match c with | true => r | false => 0), fK l (match c with | true => aG .i64 (k + 1) | false => k), 1⟩) := by
 refine co [14] [31] (x := .of Tryz.f64 Lh Mf) ?_; refine ox h1 ?_
 cases c
 ·exact fi
 refine oo (h2 rfl) ?_; refine on h3 ?_; exact fi
/-- Next: a number below n, the stream a place further. -/
theorem eh {l : List Int} {k : Nat} {n : Nat} (hl : l.length < 1000000000) (hk0 : k <= l.length) (hn : 0 < n) (hb : n < 1000000000) :
  ∃ r k2 : Nat, (r < n /\ k <= k2 /\ k2 <= l.length /\ (0 < r -> k < k2)) /\ KC 64 [eD, iv (Int.ofNat n)] (fK (l.map iN) (Int.ofNat k)) 1 (XQ ⟨iv (Int.ofNat r), fK (l.map iN) (Int.ofNat k2), 1⟩) := by
 by_cases hk : k < l.length
 ·have hg : l[k]? = some l[k] := List.getElem?_eq_getElem hk
  have hw : aG .i64 (Int.ofNat k + 1) = Int.ofNat (k + 1) := bi (by omega)
  have hw2 : aG .i64 (Int.ofNat (k + 1) - 1) = Int.ofNat k := by
   rw [dx, show Int.ofNat (k + 1) - 1 = Int.ofNat k by simp]
   exact wrap_i64 (by show _ <= (k : Int); omega) (by show (k : Int) <= _; omega)
  have h0 := Int.emod_nonneg l[k] (show Int.ofNat n ≠ 0 from fun h => absurd (Int.ofNat.inj (h.trans (show (0 : Int) = Int.ofNat 0 from rfl))) (by omega))
  have h2 := Int.emod_lt_of_pos l[k] (show (0 : Int) < Int.ofNat n from Int.ofNat_lt.2 hn)
  refine ⟨(l[k] % Int.ofNat n).toNat, k + 1, ⟨(Int.toNat_lt h0).2 h2, by omega, by omega, fun _ => by omega⟩, ?_⟩
  have h := G0 (l := l.map iN) (k := Int.ofNat k) (x := l[k]) (n := Int.ofNat n) (r := l[k] % Int.ofNat n) (c := true) (by rw [fZ, List.length_map, decide_eq_true hk]) (fun _ => by rw [hw, hw2]; exact IS hg) (Q1 _ hn hb)
  dsimp only at h
  rw [hw] at h
  rw [show Int.ofNat (l[k] % Int.ofNat n).toNat = l[k] % Int.ofNat n from Int.toNat_of_nonneg h0]
  exact h
 refine ⟨0, k, ⟨hn, by omega, by omega, fun h => by omega⟩, ?_⟩
 exact G0 (l := l.map iN) (k := Int.ofNat k) (x := 0) (n := Int.ofNat n) (r := 0) (c := false) (by rw [fZ, List.length_map, decide_eq_false hk]) (fun h => by simp at h) (by have := Q1 0 hn hb; rw [Int.zero_emod] at this; exact this)
def ez : List dZ -> List (Go.Value × aq)
 | [] => []
 | f :: r => (.string ⟨⟨f.nm⟩⟩, bl true) :: ez r
theorem yW (b : List dZ) : ∀ a : List dZ, ez (a ++ b) = ez a ++ ez b
 | [] => rfl
 | x :: r => by simp only [List.cons_append, ez, yW b r]
def mE : List dZ -> List UInt8 -> Bool
 | [], _ => false
 | f :: r, nm => match fY nm f.nm with | true => true | false => mE r nm
theorem pZ : ∀ (l : List dZ) (nm : List UInt8) (j : Nat), findF .string (.string ⟨⟨nm⟩⟩) (ez l) j = some (match mE l nm with | true => some (match findF .string (.string ⟨⟨nm⟩⟩) (ez l) j with | some (some (i, _)) => i | _ => 0, bl true) | false => none)
 | [], nm, j => rfl
 | d :: r, nm, j => by
  have e : findF .string (.string ⟨⟨nm⟩⟩) (ez (d :: r)) j = (match wh .string (.string ⟨⟨nm⟩⟩) (.string ⟨⟨d.nm⟩⟩) with | some true => some (some (j, bl true)) | some false => findF .string (.string ⟨⟨nm⟩⟩) (ez r) (j + 1) | none => none) := rfl
  rw [e, show wh .string (.string ⟨⟨nm⟩⟩) (.string ⟨⟨d.nm⟩⟩) = some (fY nm d.nm) from rfl]
  unfold mE
  cases he : fY nm d.nm with
  | true => rfl
  | false => exact pZ r nm (j + 1)
theorem IE (l : List dZ) (nm : List UInt8) : fH (env ap.aK) 97 false [.map (.loc 50), .dat (sb nm)] (some (.map (ez l))) = some ⟨bv (mE l nm), .keep⟩ := by
 have h1 : fH (env ap.aK) 97 false [.map (.loc 50), .dat (sb nm)] (some (.map (ez l))) = (match findF .string (.string ⟨⟨nm⟩⟩) (ez l) 0 with
  | some (some (_, d)) => some ⟨.dat d, .keep⟩ | some none => some ⟨bv false, .keep⟩ | none => none) := by kernel_rfl
 rw [h1, pZ]
 cases mE l nm <;> rfl
theorem KX {l : List dZ} {f : dZ} (h : mE l f.nm = false) : cX (env ap.aK) 97 [.map (.loc 50), .dat (sb f.nm), bv true] (some (.map (ez l))) = some ⟨.undef, .set (.map (ez (l ++ [f])))⟩ := by
 have h1 : cX (env ap.aK) 97 [.map (.loc 50), .dat (sb f.nm), bv true] (some (.map (ez l))) = (match findF .string (.string ⟨⟨f.nm⟩⟩) (ez l) 0 with
  | some (some (i, _)) => some ⟨.undef, .set (.map (setAt i (bl true) (ez l)))⟩ | some none => some ⟨.undef, .set (.map (ez l ++ [(.string ⟨⟨f.nm⟩⟩, bl true)]))⟩ | none => none) := by kernel_rfl
 rw [h1, pZ, h, yW]
 rfl
noncomputable def QX : Hints := ⟨au, CG, ax, rowsOf ax 50⟩
def OU (es : List (Go.Value × aq)) (nm : List UInt8) (ar k : Int) (nm2 : List UInt8) (ix : Int) (a : aq) (con : Bool) (b : aq) : Heap := [(.loc 50, .map es), (.loc 1, .cells [.dat (sb nm), iv ar, iv k, .dat (sb nm2), iv ix, .dat a, .dat (bl con), .dat b])]
def TJ (lo : Heap) (b : aq) (n : Nat) (i : Int) : ab := ⟨[(54, iv i), (53, iv (Int.ofNat n)), (52, .dat b), (3, .map (.loc 50)), (1, .ptr (.loc 1) 0)], lo, [], 0⟩
def Rk (lo : Heap) (b : aq) (n : Nat) (i : Int) : ab := ⟨[(55, bv false), (54, iv i), (53, iv (Int.ofNat n)), (52, .dat b), (3, .map (.loc 50)), (1, .ptr (.loc 1) 0)], lo, [], 0⟩
def Rl (c : Bool) : ab := ⟨[(2, bv c)], [], [], 0⟩
theorem D5 {nm : List UInt8} {ar k : Int} {nm2 : List UInt8} {ix : Int} {la : List aq} {con : Bool} {l pre : List dZ} {f : dZ} {i : Nat} {c1 c2 c3 : Bool} {T : Exit -> aa -> Prop} (hi : i < (aH l).length) (ht : l[i]? = some f)
  (h1 : ae 87 [.dat (sb f.nm)] (bv c1)) (hs : mE pre f.nm = c2) (h2 : ae 89 [.dat f.ty.enc, iv ar] (bv c3))
  (e1 : (c1 && (!c2 && c3)) = true -> T .normal ((TJ (OU (ez (pre ++ [f])) nm ar k nm2 ix (sl la) con (.slice (aH l))) (.slice (aH l)) (aH l).length (aG .i64 (Int.ofNat i + 1))).aw Tryz.f50.ntmps))
  (e2 : (c1 && (!c2 && c3)) = false -> T .ret ((Rl false).aw Tryz.f50.ntmps)) :
  KD (roundOf Tryz.f50 0) T ((TJ (OU (ez pre) nm ar k nm2 ix (sl la) con (.slice (aH l))) (.slice (aH l)) (aH l).length (Int.ofNat i)).aw Tryz.f50.ntmps) := by
 have g1 := bN hi
 have g2 := xl ht
 have g3 := IE pre f.nm
 rw [hs] at g3
 have g4 : c2 = false -> cX (env ap.aK) 97 [.map (.loc 50), .dat (sb f.nm), bv true] (some (.map (ez pre))) = some ⟨.undef, .set (.map (ez (pre ++ [f])))⟩ := fun h => KX (by rw [hs, h])
 generalize ez pre = es at *
 generalize ez (pre ++ [f]) = es2 at *
 obtain ⟨fnm, fk, ftn, fix, fa⟩ := f
 generalize aH l = xs at *
 clear ht hi hs
 rcases la with _ | ⟨x, la⟩ <;>
 ·rcases fa with _ | ⟨z, fa⟩ <;>
  ·refine az [55] [56, 66, 100076] (H := QX) (live := xe) (by kernel_rfl) ?_; refine ob g1 ?_; refine oo g2 ?_; refine on h1 ?_
   cases c1
   ·exact oe (e2 rfl)
   refine oo g3 ?_
   cases c2
   ·refine on h2 ?_
    cases c3
    ·exact oe (e2 rfl)
    refine oo (g4 rfl) ?_; exact oe (e1 rfl)
   exact oe (e2 rfl)
theorem HM {es : List (Go.Value × aq)} {nm : List UInt8} {ar k : Int} {nm2 : List UInt8} {ix : Int} {la : List aq} {con : Bool} {b : aq} {n : Nat} {T : Exit -> aa -> Prop}
  (e : T (.exit 0) ((Rk (OU es nm ar k nm2 ix (sl la) con b) b n (Int.ofNat n)).aw Tryz.f50.ntmps)) :
  KD (roundOf Tryz.f50 0) T ((TJ (OU es nm ar k nm2 ix (sl la) con b) b n (Int.ofNat n)).aw Tryz.f50.ntmps) := by
 have h1 := bO (i := n) (L := n) (by omega)
 refine az [55] [] (H := QX) (live := xe) (by kernel_rfl) ?_; refine ob h1 ?_; exact oe e
def Gi (ar : Int) : List dZ -> List dZ -> Bool
 | _, [] => true
 | pre, f :: r => (isIdent f.nm && (!mE pre f.nm && f.ty.over ar)) && Gi ar (pre ++ [f]) r
theorem BM {ar : Int} {l : List dZ} {i : Nat} {f : dZ} (h : l[i]? = some f) : Gi ar (l.take i) (l.drop i) = ((isIdent f.nm && (!mE (l.take i) f.nm && f.ty.over ar)) && Gi ar (l.take (i + 1)) (l.drop (i + 1))) := by
 rw [dv h, ee h]
 rfl
theorem HL {nm : List UInt8} {ar k : Int} {nm2 : List UInt8} {ix : Int} {la : List aq} {con : Bool} {l : List dZ} {b : aq} (hb : b = sl (aH l)) (hn : l.length < 1000000000) (hf : ∀ f ∈ l, f.ty.cA) :
  KD (.loop (roundOf Tryz.f50 0)) (fun e s => (e = .exit 0 /\ Gi ar [] l = true /\ s = (Rk (OU (ez l) nm ar k nm2 ix (sl la) con b) b (aH l).length (Int.ofNat (aH l).length)).aw Tryz.f50.ntmps) ∨ (e = .ret /\ Gi ar [] l = false /\ s = (Rl false).aw Tryz.f50.ntmps))
   ((TJ (OU [] nm ar k nm2 ix (sl la) con b) b (aH l).length (Int.ofNat 0)).aw Tryz.f50.ntmps) := by
 refine ct (St := fun i => (TJ (OU (ez (l.take i)) nm ar k nm2 ix (sl la) con b) b (aH l).length (Int.ofNat i)).aw Tryz.f50.ntmps) (fun i => Gi ar [] l = Gi ar (l.take i) (l.drop i)) (aH l).length ?_ ?_ (i := 0) (Nat.zero_le _) rfl
 ·intro i hi hI
  obtain ⟨f, ht, hm⟩ := jH hi
  have hi2 := hi
  rw [bw] at hi2
  have hd := BM (ar := ar) ht
  rw [← hI] at hd
  have hw : aG .i64 (Int.ofNat i + 1) = Int.ofNat (i + 1) := bi (by omega)
  have hb2 : b = .slice (aH l) := by
   rw [hb]
   cases l with
   | nil => simp at ht
   | cons x r => rfl
  subst hb2
  refine D5 hi ht (sU f.nm) rfl (ur (ar := ar) (hf f hm)) ?_ ?_
  ·intro h
   rw [h] at hd
   rw [hw, ← ee ht]
   exact ⟨rfl, hd⟩
  intro h
  rw [h] at hd
  exact .inr ⟨rfl, hd, rfl⟩
 intro hI
 rw [bw, List.take_length, List.drop_length] at hI
 rw [bw, List.take_length]
 exact HM (.inl ⟨rfl, hI, rfl⟩)
def R0 (l : List aq) : Bool := match l with | [] => false | _ => true
theorem JL {nm nm2 : List UInt8} {ar k ix : Int} {la lb : List aq} {es : List (Go.Value × aq)} {con c1 c2 c3 c4 c5 c6 c7 : Bool} (h1 : ae 87 [.dat (sb nm)] (bv c1)) (h2 : ae 88 [.dat (.slice (iP mN)), .dat (sb nm)] (bv c2)) (h3 : ba ar 0 = c3)
  (h4 : bj k 0 = c4) (h5 : bj k 2 = c5) (h6 : ae 89 [.dat (.agg [i64 k, sb nm2, i64 ix, sl la]), iv ar] (bv c6))
  (h7 : KD (.loop (roundOf Tryz.f50 0)) (fun e s => (e = .exit 0 /\ c7 = true /\ s = (Rk (OU es nm ar k nm2 ix (sl la) con (sl lb)) (sl lb) lb.length (Int.ofNat lb.length)).aw Tryz.f50.ntmps) ∨ (e = .ret /\ c7 = false /\ s = (Rl false).aw Tryz.f50.ntmps))
   ((TJ (OU [] nm ar k nm2 ix (sl la) con (sl lb)) (sl lb) lb.length (Int.ofNat 0)).aw Tryz.f50.ntmps)) :
  ae 50 [.dat (eT nm ar k nm2 ix la con lb)] (bv (c1 && (!c2 && (!c3 && (!(!con && R0 lb) && ((c4 || c5) && (c6 && c7))))))) := by
 rcases la with _ | ⟨x, la⟩ <;>
 ·rcases lb with _ | ⟨y, lb⟩
  ·refine co [19, 35, 40] [] (x := .of Tryz.f50 CG xe) ?_; refine on h1 ?_
   cases c1
   ·exact fi
   refine on h2 ?_
   cases c2
   ·refine ob h3 ?_
    cases c3
    ·cases con <;>
     ·refine ox h4 ?_
      cases c4
      ·refine ox h5 ?_
       cases c5
       ·exact fi
       refine on h6 ?_
       cases c6
       ·exact fi
       refine lo h7 ?_
       rintro ex s (⟨rfl, rfl, rfl⟩ | ⟨rfl, rfl, rfl⟩) <;>
       ·refine ⟨_, rfl, ?_⟩; exact fi
      refine on h6 ?_
      cases c6
      ·exact fi
      refine lo h7 ?_
      rintro ex s (⟨rfl, rfl, rfl⟩ | ⟨rfl, rfl, rfl⟩) <;>
      ·refine ⟨_, rfl, ?_⟩; exact fi
    exact fi
   exact fi
  refine co [19, 35, 40] [] (x := .of Tryz.f50 CG xe) ?_; refine on h1 ?_
  cases c1
  ·exact fi
  refine on h2 ?_
  cases c2
  ·refine ob h3 ?_
   cases c3
   ·cases con
    ·exact fi
    refine ox h4 ?_
    cases c4
    ·refine ox h5 ?_
     cases c5
     ·exact fi
     refine on h6 ?_
     cases c6
     ·exact fi
     refine lo h7 ?_
     rintro ex s (⟨rfl, rfl, rfl⟩ | ⟨rfl, rfl, rfl⟩) <;>
     ·refine ⟨_, rfl, ?_⟩; exact fi
    refine on h6 ?_
    cases c6
    ·exact fi
    refine lo h7 ?_
    rintro ex s (⟨rfl, rfl, rfl⟩ | ⟨rfl, rfl, rfl⟩) <;>
    ·refine ⟨_, rfl, ?_⟩; exact fi
   exact fi
  exact fi
def Ty.kind : Ty -> Int
 | .mk k _ _ _ => k
def Ty.IK : Ty -> Int
 | .mk _ _ i _ => i
def bc.wf (d : bc) : Bool := isIdent d.nm && (!fL d.nm && (!ba d.ar 0 && (!(!d.con && R0 (aH d.fl)) && ((bj d.sup.kind 0 || bj d.sup.kind 2) && (d.sup.over d.ar && Gi d.ar [] d.fl)))))
theorem Bu {d : bc} (h : d.cA) : ae 50 [.dat d.enc] (bv d.wf) := by
 obtain ⟨h1, h2, h3⟩ := h
 have g1 := sU d.nm
 have g2 := uv d.nm
 have g6 := ur (ar := d.ar) h1
 obtain ⟨nm, ar, ⟨k, tn, ix, la⟩, con, fl⟩ := d
 exact JL g1 g2 rfl rfl rfl g6 (HL rfl h3 h2)
theorem zt : ∀ cs : List aq, bE (av cs) = true
 | [] => rfl
 | d :: r => by show (eV (.dat d) && bE (av r)) = true; rw [zt r]; rfl
theorem CP (cs : List aq) : bL (.cells (av cs)) = true := zt cs
theorem TF {cs cs2 : List aq} {es es2 : List (Go.Value × aq)} {n : Nat} {nm nm2 : List UInt8} {ar k ix : Int} {con : Bool} {la lb : List aq}
  (h0 : kY (env ap.aK) 23 [.win (.out 2) 8 0 n] none = some ⟨iv (Int.ofNat n), .keep⟩)
  (h1 : cX (env ap.aK) 80 [.map (.out 0), .dat (sb nm), iv (Int.ofNat n)] (some (.map es)) = some ⟨.undef, .set (.map es2)⟩)
  (h2 : bq (env ap.aK) true 23 [.win (.out 2) 8 0 n, .dat (.slice [eT nm ar k nm2 ix la con lb])] (some (.cells (av cs))) = some ⟨.undef, .grow (.cells (av cs2)) 8 (n + 1)⟩) :
  KC 52 [hP, .dat (eT nm ar k nm2 ix la con lb)] (hG 2 (av cs) es n) 3 (XQ ⟨.tup [], hG 3 (av cs2) es2 (n + 1), 4⟩) := by
 have hn := CP cs2
 rcases la with _ | ⟨x, la⟩ <;>
 ·rcases lb with _ | ⟨y, lb⟩ <;>
  ·refine cV [500022] [14, 100007, 22] (x := kD.of Tryz.f52 Lm Mk) (by kernel_rfl) ?_; refine oo h0 ?_; refine oo h1 ?_; refine oo h2 ?_; refine ob hn ?_; exact fi
theorem RD {cs : List aq} {es es2 : List (Go.Value × aq)} {n : Nat} {nm : List UInt8}
  (h0 : kY (env ap.aK) 23 [.win (.out 2) 8 0 (n + 1)] none = some ⟨iv (Int.ofNat (n + 1)), .keep⟩)
  (h2 : aC (env ap.aK) 23 [.win (.out 2) 8 0 (n + 1), iv (aG .i64 (Int.ofNat (n + 1) - 1))] = some ⟨.ptr (.out 2) (0 + n * 8), .keep⟩)
  (h3 : dD (env ap.aK) false 9 [.ptr (.out 2) (0 + n * 8)] (some (.cells (av cs))) = some ⟨.dat (sb nm), .keep⟩)
  (h4 : kC (env ap.aK) 80 [.map (.out 0), .dat (sb nm)] (some (.map es)) = some ⟨.tup [], .set (.map es2)⟩)
  (h5 : iZ (env ap.aK) 23 none (some (.tmp 26)) none [.win (.out 2) 8 0 (n + 1), iv (aG .i64 (Int.ofNat (n + 1) - 1))] = some ⟨.win (.out 2) 8 0 n, .keep⟩) :
  KC 56 [hP] (hG 2 (av cs) es (n + 1)) 3 (XQ ⟨.tup [], hG 2 (av cs) es2 n, 3⟩) := by
 refine cV [] [7, 18, 20, 100012, 27] (x := kD.of Tryz.f56 Lk Mi) (by kernel_rfl) ?_; refine oo h0 ?_; refine oo h2 ?_; refine oo h3 ?_; refine oo h4 ?_; refine oo h5 ?_; exact fi
theorem oF {r n : Nat} (h : n <= iV) : kY (env ap.aK) 23 [.win (.out r) 8 0 n] none = some ⟨iv (Int.ofNat n), .keep⟩ := by
 have h1 : kY (env ap.aK) 23 [.win (.out r) 8 0 n] none = (if Nat.ble n iV = true then some ⟨iv (Int.ofNat n), .keep⟩ else none) := by kernel_rfl
 rw [h1, if_pos (by rw [Nat.ble_eq]; exact h)]
theorem xn (b : List bc) : ∀ (a : List bc) (i : Nat), bu (a ++ b) i = bu a i ++ bu b (i + a.length)
 | [], i => by simp [bu]
 | x :: r, i => by
  simp only [List.cons_append, bu, List.length_cons]
  rw [xn b r (i + 1), show i + 1 + r.length = i + (r.length + 1) by omega]
theorem lf (b : List bc) : ∀ a : List bc, bm (a ++ b) = bm a ++ bm b
 | [] => rfl
 | x :: r => by simp only [List.cons_append, bm, lf b r, List.append_assoc]
theorem OG {ds : List bc} {d : bc} (h : jS ds d.nm = none) : cX (env ap.aK) 80 [.map (.out 0), .dat (sb d.nm), iv (Int.ofNat ds.length)] (some (.map (bu ds 0))) = some ⟨.undef, .set (.map (bu (ds ++ [d]) 0))⟩ := by
 have h1 : cX (env ap.aK) 80 [.map (.out 0), .dat (sb d.nm), iv (Int.ofNat ds.length)] (some (.map (bu ds 0))) = (match findF .string (.string ⟨⟨d.nm⟩⟩) (bu ds 0) 0 with
  | some (some (i, _)) => some ⟨.undef, .set (.map (setAt i (i64 (Int.ofNat ds.length)) (bu ds 0)))⟩ | some none => some ⟨.undef, .set (.map (bu ds 0 ++ [(.string ⟨⟨d.nm⟩⟩, i64 (Int.ofNat ds.length))]))⟩ | none => none) := by kernel_rfl
 rw [h1, lu, h, xn, Nat.zero_add]
 rfl
theorem P8 {l : List ac} (h : 3 <= l.length) : cM l = false := by
 rcases l with _ | ⟨a, _ | ⟨b, _ | ⟨c, r⟩⟩⟩ <;> simp at h
 exact NI a b c r
noncomputable def Ea : TI := match Go.Tp.elemOf (env ap.aK) 23 with | some t => t | none => default
theorem HJ {ds : List bc} {d : bc} {tl : List aq} (hn : ds.length < 1000) : bq (env ap.aK) true 23 [.win (.out 2) 8 0 ds.length, .dat (.slice [d.enc])] (some (.cells (av (bm ds ++ tl)))) = some ⟨.undef, .grow (.cells (av (bm (ds ++ [d])))) 8 (ds.length + 1)⟩ := by
 have h1 : ∀ (n : Nat) (cs : List ac) (x : ac), bq (env ap.aK) true 23 [.win (.out 2) 8 0 n, x] (some (.cells cs)) = iB (env ap.aK) Ea n cs x := fun n cs x => by kernel_rfl
 have h2 : gS ap.aK Ea [] (.dat (.slice [d.enc])) = some [d.enc] := by
  obtain ⟨nm, ar, ⟨k, tn, ix, la⟩, con, fl⟩ := d
  kernel_rfl
 have h3 : ∀ (n : Nat) (cs : List ac) (x : ac), iB (env ap.aK) Ea n cs x = (match gS ap.aK Ea [] x with
  | some ds => if (Nat.ble ((n + ds.length) * Ea.bytes) 140737488355328 && Nat.ble (n + ds.length) iV && Nat.ble (n * 8) cs.length && !cM (ew (n * 8) cs ++ (ds.flatMap aq.cells).map .dat)) = true
   then some ⟨.undef, .grow (.cells (ew (n * 8) cs ++ (ds.flatMap aq.cells).map .dat)) 8 (n + ds.length)⟩ else none
  | none => none) := fun n cs x => by kernel_rfl
 have hb : Ea.bytes <= 1000 := fN (by kernel_rfl)
 have hl := iG ds
 have hc : ew (ds.length * 8) (av (bm ds ++ tl)) ++ ([d.enc].flatMap aq.cells).map .dat = av (bm (ds ++ [d])) := by
  rw [BR, ← hl, List.take_left, lf]
  simp only [av, List.map_append, List.flatMap_cons, List.flatMap_nil, List.append_nil, bm]
  rfl
 rw [h1, h3, h2]
 dsimp only
 rw [hc]
 have hd : (bm (ds ++ [d])).length = ds.length * 8 + 8 := by rw [iG]; simp; omega
 rw [if_pos]
 ·rfl
 have e1 : cM (av (bm (ds ++ [d]))) = false := P8 (by simp [av, hd])
 rw [e1]
 simp only [List.length_singleton, Bool.and_eq_true, Nat.ble_eq, Bool.not_false, and_true]
 refine ⟨⟨?_, ?_⟩, ?_⟩
 ·calc (ds.length + 1) * Ea.bytes <= 1000 * 1000 := Nat.mul_le_mul (by omega) hb
   _ <= 140737488355328 := by decide
 ·simp only [iV]; omega
 simp [av, hl]
theorem Tx {ds : List bc} {d : bc} {tl : List aq} (hn : ds.length < 1000) (h : jS ds d.nm = none) : KC 52 [hP, .dat d.enc] (hH 2 ds tl) 3 (XQ ⟨.tup [], hH 3 (ds ++ [d]) [], 4⟩) := by
 have h0 := oF (r := 2) (n := ds.length) (by simp only [iV]; omega)
 have h1 := OG h
 have h2 := HJ (d := d) (tl := tl) hn
 have e : hH 3 (ds ++ [d]) [] = hG 3 (av (bm (ds ++ [d]))) (bu (ds ++ [d]) 0) (ds.length + 1) := by unfold hH; rw [List.append_nil, List.length_append, List.length_singleton]
 rw [e]
 obtain ⟨nm, ar, ⟨k, tn, ix, la⟩, con, fl⟩ := d
 exact TF h0 h1 h2
theorem K3 {ds : List bc} {d : bc} (h : jS ds d.nm = none) : jS (ds ++ [d]) d.nm = some ds.length := by
 induction ds with
 | nil => simp [jS, rp]
 | cons x r ih =>
  simp only [jS, List.cons_append] at h ⊢
  cases he : fY d.nm x.nm with
  | true => rw [he] at h; simp at h
  | false =>
   rw [he] at h
   simp only [Option.map_eq_none_iff] at h
   rw [ih h]
   rfl
theorem FV (a : List (Go.Value × aq)) (x : Go.Value × aq) : um a.length (a ++ [x]) = a := by
 induction a with
 | nil => rfl
 | cons y r ih => simp only [List.length_cons, List.cons_append, um, ih]
theorem tV : ∀ (ds : List bc) (i : Nat), (bu ds i).length = ds.length
 | [], _ => rfl
 | x :: r, i => by simp only [bu, List.length_cons, tV r]
theorem Wa {ds : List bc} {d : bc} {tl : List aq} (hn : ds.length < 1000) (h : jS ds d.nm = none) : KC 56 [hP] (hH 2 (ds ++ [d]) tl) 3 (XQ ⟨.tup [], hH 2 ds (d.cells ++ tl), 3⟩) := by
 have e1 : hH 2 (ds ++ [d]) tl = hG 2 (av (bm (ds ++ [d]) ++ tl)) (bu (ds ++ [d]) 0) (ds.length + 1) := by unfold hH; rw [List.length_append, List.length_singleton]
 have e2 : hH 2 ds (d.cells ++ tl) = hG 2 (av (bm (ds ++ [d]) ++ tl)) (bu ds 0) ds.length := by
  unfold hH
  rw [lf, List.append_assoc]
  simp only [bm, List.append_nil]
 have hw : aG .i64 (Int.ofNat (ds.length + 1) - 1) = Int.ofNat ds.length := by
  rw [dx, show (Int.ofNat (ds.length + 1) - 1 : Int) = Int.ofNat ds.length by simp]
  exact wrap_i64 (by simp only [Int.ofNat_eq_natCast]; omega) (by simp only [Int.ofNat_eq_natCast]; omega)
 have h0 := oF (r := 2) (n := ds.length + 1) (by simp only [iV]; omega)
 have h2 := mb (r := 2) (n := ds.length + 1) (k := ds.length) (by omega)
 rw [← hw] at h2
 have hg : (ds ++ [d])[ds.length]? = some d := by simp
 have h3 : dD (env ap.aK) false 9 [.ptr (.out 2) (0 + ds.length * 8)] (some (.cells (av (bm (ds ++ [d]) ++ tl)))) = some ⟨.dat (sb d.nm), .keep⟩ := by
  have k1 : ∀ cs, dD (env ap.aK) false 9 [.ptr (.out 2) (0 + ds.length * 8)] (some (.cells cs)) = tS (match cs[0 + ds.length * 8]? with
   | some (.own es) => some (.dat (.slice es)) | some .undef => none | some (.agg _) => none | some (.tup _) => none | some a => some a | none => none) := fun cs => by kernel_rfl
  have k2 : (av (bm (ds ++ [d]) ++ tl))[0 + ds.length * 8]? = some (.dat (sb d.nm)) := by
   rw [lf, List.append_assoc]
   unfold av
   rw [List.getElem?_map, Nat.zero_add, List.getElem?_append_right (by rw [iG]; omega), iG, Nat.sub_self]
   rfl
  rw [k1, k2]
  rfl
 have h4 : kC (env ap.aK) 80 [.map (.out 0), .dat (sb d.nm)] (some (.map (bu (ds ++ [d]) 0))) = some ⟨.tup [], .set (.map (bu ds 0))⟩ := by
  have k1 : kC (env ap.aK) 80 [.map (.out 0), .dat (sb d.nm)] (some (.map (bu (ds ++ [d]) 0))) = (match findF .string (.string ⟨⟨d.nm⟩⟩) (bu (ds ++ [d]) 0) 0 with
   | some (some (i, _)) => some ⟨.tup [], .set (.map (um i (bu (ds ++ [d]) 0)))⟩ | some none => some ⟨.tup [], .set (.map (bu (ds ++ [d]) 0))⟩ | none => none) := by kernel_rfl
  rw [k1, lu, K3 h]
  simp only [Option.map_some, Nat.zero_add]
  rw [xn, ← tV ds 0]
  simp only [bu]
  rw [FV]
 have h5 : iZ (env ap.aK) 23 none (some (.tmp 26)) none [.win (.out 2) 8 0 (ds.length + 1), iv (aG .i64 (Int.ofNat (ds.length + 1) - 1))] = some ⟨.win (.out 2) 8 0 ds.length, .keep⟩ := by
  rw [hw]
  have k1 : ∀ m n : Nat, iZ (env ap.aK) 23 none (some (.tmp 26)) none [.win (.out 2) 8 0 m, iv (Int.ofNat n)] = (if (Nat.ble 0 n && Nat.ble n m && Nat.beq 8 8) = true then some ⟨.win (.out 2) 8 0 n, .keep⟩ else none) := fun m n => by kernel_rfl
  rw [k1, if_pos (by simp)]
 rw [e1, e2]
 obtain ⟨nm, ar, ⟨k, tn, ix, la⟩, con, fl⟩ := d
 exact RD h0 h2 h3 h4 h5
def rA : Name × aN := (.out 4, .cells [hP])
def bQ : ac := .ptr (.out 4) 0
noncomputable def Pu : Hints := ⟨au, CD, ax, rowsOf ax 67⟩
def NZ : ac := .fn (.func 55) [] [bQ]
def Uz (H : Heap) (nx : Nat) (l : List aq) (i : Int) : ab := ⟨[(8, iv i), (7, iv (Int.ofNat l.length)), (0, .dat (.slice l)), (1, NZ)], [], H, nx⟩
def Ux (H : Heap) (nx : Nat) (l : List aq) : ab := ⟨[(9, bv false), (8, iv (Int.ofNat l.length)), (7, iv (Int.ofNat l.length)), (0, .dat (.slice l)), (1, NZ)], [], H, nx⟩
def Uy (H : Heap) (nx : Nat) (i : Nat) : ab := ⟨[(4, iv (Int.ofNat i))], [], H, nx⟩
def Rv (H : Heap) (nx : Nat) : ab := ⟨[(8, iv 0), (7, iv 0), (0, .dat nl), (1, NZ)], [], H, nx⟩
def QG (H : Heap) (nx : Nat) : ab := ⟨[(9, bv false), (8, iv 0), (7, iv 0), (0, .dat nl), (1, NZ)], [], H, nx⟩
theorem A4 {l : List dZ} {t : dZ} {H : Heap} {nx i : Nat} {c : Bool} {T : Exit -> aa -> Prop} (hi : i < (aH l).length) (ht : l[i]? = some t) (hc : KC 55 [.dat t.enc, bQ] H nx (XQ ⟨bv c, H, nx⟩))
  (e1 : c = false -> T .normal ((Uz H nx (aH l) (aG .i64 (Int.ofNat i + 1))).aw Tryz.f67.ntmps)) (e2 : c = true -> T .ret ((Uy H nx i).aw Tryz.f67.ntmps)) :
  KD (roundOf Tryz.f67 0) T ((Uz H nx (aH l) (Int.ofNat i)).aw Tryz.f67.ntmps) := by
 have h1 := bN hi
 have h2 := xl ht
 generalize aH l = es at *
 clear ht hi
 obtain ⟨fnm, k2, nm2, ix2, a2⟩ := t
 rcases a2 with _ | ⟨b, d⟩ <;>
 ·cases c
  ·refine az [9] [14] (H := Pu) (live := pT) (by kernel_rfl) ?_; refine ob h1 ?_; refine oo h2 ?_; refine oh hc ?_; exact oe (e1 rfl)
  refine az [9] [14] (H := Pu) (live := pT) (by kernel_rfl) ?_; refine ob h1 ?_; refine oo h2 ?_; refine oh hc ?_; exact oe (e2 rfl)
theorem Fs {l : List aq} {H : Heap} {nx : Nat} {T : Exit -> aa -> Prop} (e1 : T (.exit 0) ((Ux H nx l).aw Tryz.f67.ntmps)) :
  KD (roundOf Tryz.f67 0) T ((Uz H nx l (Int.ofNat l.length)).aw Tryz.f67.ntmps) := by
 have h1 := bO (i := l.length) (L := l.length) (by omega)
 refine az [9] [] (H := Pu) (live := pT) (by kernel_rfl) ?_; refine ob h1 ?_; exact oe e1
theorem C6 {H : Heap} {nx : Nat} {T : Exit -> aa -> Prop} (e1 : T (.exit 0) ((QG H nx).aw Tryz.f67.ntmps)) :
  KD (roundOf Tryz.f67 0) T ((Rv H nx).aw Tryz.f67.ntmps) := by
 refine az [] [] (H := Pu) (live := pT) (by kernel_rfl) ?_; exact oe e1
theorem C7 {l : List dZ} {p : dZ -> Bool} {H : Heap} {nx : Nat} {x : aq} {r : List aq} (hl0 : aH l = x :: r) (hg : ∀ v, dG nx v = false -> rW nx ⟨v, H, nx⟩ = ⟨v, H, nx⟩) (hp : ∀ t ∈ l, KC 55 [.dat t.enc, bQ] H nx (XQ ⟨bv (p t), H, nx⟩)) (hb : l.length < 1000000000) :
  KC 67 [.dat (.slice (x :: r)), NZ] H nx (XQ ⟨iv (rV p l 0), H, nx⟩) := by
 have hl : KD (.loop (roundOf Tryz.f67 0)) (fun e s => (e = .exit 0 /\ rV p l 0 = -1 /\ s = (Ux H nx (x :: r)).aw Tryz.f67.ntmps) ∨ (e = .ret /\ ∃ i : Nat, rV p l 0 = Int.ofNat i /\ s = (Uy H nx i).aw Tryz.f67.ntmps)) ((Uz H nx (x :: r) (Int.ofNat 0)).aw Tryz.f67.ntmps) := by
  rw [← hl0]
  refine ct (St := fun i => (Uz H nx (aH l) (Int.ofNat i)).aw Tryz.f67.ntmps) (fun i => rV p l 0 = rV p (l.drop i) i) (aH l).length ?_ ?_ (i := 0) (Nat.zero_le _) rfl
  ·intro i hi hI
   obtain ⟨t, ht, hm⟩ := jH hi
   have ha := xi (p := p) ht
   have hw : aG .i64 (Int.ofNat i + 1) = Int.ofNat (i + 1) := bi (by rw [bw] at hi; omega)
   have hc := hp t hm
   rw [← hI] at ha
   generalize p t = c at hc ha
   refine A4 hi ht hc ?_ ?_
   ·rintro rfl
    rw [hw]
    exact ⟨rfl, ha⟩
   rintro rfl
   exact .inr ⟨rfl, i, ha, rfl⟩
  intro hI
  refine Fs (.inl ⟨rfl, ?_, rfl⟩)
  rw [hI, bw, List.drop_length]
  rfl
 have hg1 := hg (iv (rV p l 0)) rfl
 clear hp hb hg
 generalize hj : rV p l 0 = j at hg1 hl
 clear hj hl0
 refine co [] [] (x := .of Tryz.f67 CD pT) ?_; refine lo hl ?_
 rintro ex s (⟨rfl, rfl, rfl⟩ | ⟨rfl, ⟨x0, rfl, rfl⟩⟩) <;>
 ·refine ⟨_, rfl, ?_⟩
  exact cj (by kernel_rfl) hg1
theorem Qd {l : List dZ} {p : dZ -> Bool} {H : Heap} {nx : Nat} (hg : ∀ v, dG nx v = false -> rW nx ⟨v, H, nx⟩ = ⟨v, H, nx⟩) (hp : ∀ t ∈ l, KC 55 [.dat t.enc, bQ] H nx (XQ ⟨bv (p t), H, nx⟩)) (hb : l.length < 1000000000) :
  KC 54 [.dat (sl (aH l)), NZ] H nx (XQ ⟨bv (l.any p), H, nx⟩) := by
 cases l with
 | nil =>
  have h0 : KC 67 [.dat nl, NZ] H nx (XQ ⟨iv (-1), H, nx⟩) := by
   have hg1 := hg (iv (-1)) rfl
   have hl : KD (.loop (roundOf Tryz.f67 0)) (fun e s => (e = .exit 0 /\ s = (QG H nx).aw Tryz.f67.ntmps)) ((Rv H nx).aw Tryz.f67.ntmps) := by
    refine bG (St := fun _ => (Rv H nx).aw Tryz.f67.ntmps) 0 (fun i hi => absurd hi (Nat.not_lt_zero i)) ?_ (i := 0) (Nat.le_refl _)
    exact C6 ⟨rfl, rfl⟩
   clear hg hp hb
   refine co [] [] (x := .of Tryz.f67 CD pT) ?_; refine lo hl ?_; rintro ex s ⟨rfl, rfl⟩; refine ⟨_, rfl, ?_⟩
   exact cj (by kernel_rfl) hg1
  have hg1 := hg (bv false) rfl
  clear hg hp hb
  refine co [] [] (x := .of Tryz.f54 GM E7) ?_; refine oh h0 ?_
  exact cj (by kernel_rfl) hg1
 | cons t r =>
  have h := C7 (l := t :: r) (x := t.enc) (r := aH r) rfl hg hp hb
  have h3 := A0 (p := p) (l := t :: r) (i := 0)
  have hg1 := hg (bv (!(!((t :: r).any p)))) rfl
  generalize (t :: r).any p = c at h3 hg1
  have hg2 : rW nx ⟨bv (!(!c)), H, nx⟩ = ⟨bv c, H, nx⟩ := by rw [hg1, Bool.not_not]
  clear hg1
  generalize rV p (t :: r) 0 = j at h3 h
  show KC 54 [.dat (.slice (t.enc :: aH r)), NZ] H nx _
  generalize t.enc = x at h
  generalize aH r = xs at h
  clear hp hb hg
  refine co [8] [] (x := .of Tryz.f54 GM E7) ?_; refine oh h ?_; refine ox h3 ?_
  exact cj (by kernel_rfl) hg2
def Pv (cs : List aq) (es : List (Go.Value × aq)) (n : Nat) : Heap := rA :: hG 3 (av cs) es n
theorem W0 (v : ac) (cs : List aq) (es : List (Go.Value × aq)) (n : Nat) (hv : dG 5 v = false) : rW 5 ⟨v, Pv cs es n, 5⟩ = ⟨v, Pv cs es n, 5⟩ := by
 have h1 : eG 5 (Pv cs es n) = Pv cs es n := rfl
 have h2 : cO 5 (Pv cs es n) = false := by simp [cO, Pv, hG, nj, iz, dR, dG, rA, hP]; exact ⟨rfl, rfl, rfl⟩
 unfold rW
 dsimp only
 rw [h1, h2, hv]
 rfl
abbrev BG (g : FuncId) (args : List ac) (cs : List aq) (es : List (Go.Value × aq)) (n : Nat) (v : ac) : Prop := KC g args (Pv cs es n) 5 (XQ ⟨v, Pv cs es n, 5⟩)
theorem Nf {cs : List aq} {es : List (Go.Value × aq)} {n : Nat} {k ix : Int} {fnm nm : List UInt8} {l : List aq} {c : Bool} (h : BG 39 [hP, .dat (.agg [i64 k, sb nm, i64 ix, sl l])] cs es n (bv c)) :
  BG 55 [.dat (.agg [sb fnm, i64 k, sb nm, i64 ix, sl l]), bQ] cs es n (bv (!c)) := by
 have hg := W0 (bv (!c)) cs es n rfl
 rcases l with _ | ⟨z, l⟩ <;>
 ·refine co [] [] (x := .of Tryz.f55 Ll Mj) ?_; refine oh h ?_
  exact cj (by kernel_rfl) hg
theorem NA {ds : List bc} {tl : List aq} {l : List dZ} (hf : ∀ f ∈ l, f.ty.cA) (hn : l.length < 1000000000) :
  BG 54 [.dat (sl (aH l)), NZ] (bm ds ++ tl) (bu ds 0) ds.length (bv (l.any (fun f => !cH ds f.ty))) := by
 refine Qd (p := fun f => !cH ds f.ty) (fun v hv => W0 v _ _ _ hv) ?_ hn
 intro f hm
 have h2 := qx (r := 3) (m := 5) rfl rfl rfl [rA] (Bv ds tl f.ty (by have := (hf f hm).1; omega))
 obtain ⟨fnm, k2, nm2, ix2, l2⟩ := f
 exact Nf h2
def cellsD (nm : List UInt8) (ar k : Int) (tn : List UInt8) (ix : Int) (la : List aq) (con : Bool) (lb : List aq) : List ac := [.dat (sb nm), iv ar, iv k, .dat (sb tn), iv ix, .dat (sl la), .dat (bl con), .dat (sl lb)]
theorem cC (l : Nat) (nm : List UInt8) (ar k : Int) (tn : List UInt8) (ix : Int) (la : List aq) (con : Bool) (lb : List aq) :
  tp (env ap.aK) 35 [.ptr (.loc l) 0, .dat (eT nm ar k tn ix la con lb)] (some (.cells (cellsD [] 0 0 [] 0 [] false []))) = some ⟨.undef, .set (.cells (cellsD nm ar k tn ix la con lb))⟩ := by
 rcases la with _ | ⟨x, la⟩ <;> rcases lb with _ | ⟨y, lb⟩ <;> kernel_rfl
theorem br (t : Bool) (l : Nat) (nm : List UInt8) (ar k : Int) (tn : List UInt8) (ix : Int) (la : List aq) (con : Bool) (lb : List aq) :
  dD (env ap.aK) t 35 [.ptr (.loc l) 0] (some (.cells (cellsD nm ar k tn ix la con lb))) = some ⟨.dat (eT nm ar k tn ix la con lb), .keep⟩ := by
 cases t <;> rcases la with _ | ⟨x, la⟩ <;> rcases lb with _ | ⟨y, lb⟩ <;> kernel_rfl
def r3 (c : Int) (cs : List aq) (es : List (Go.Value × aq)) (n : Nat) : eu := ⟨iv c, hG 2 (av cs) es n, 3⟩
def r5 (c : Int) (cs : List aq) (es : List (Go.Value × aq)) (n : Nat) : eu := ⟨iv c, rA :: hG 3 (av cs) es n, 5⟩
def Q2 (cs cs2 : List aq) (es es2 es3 : List (Go.Value × aq)) (n : Nat) (oex c0 c1 c2 c3 c4 c5 c6 c7 c8 : Bool) : eu :=
 match c0 with
 | false => r3 2 cs es n
 | true => match c1 with
  | true => r3 4 cs es n
  | false => match c2 with
   | true => r3 4 cs es n
   | false => match oex with
    | true => (match c3 with | true => r3 0 cs es n | false => r3 6 cs es n)
    | false => match c4 with
     | false => r3 8 cs es n
     | true => match c5 with
      | false => r3 5 cs es n
      | true => match c6 with
       | true => r5 5 cs2 es3 n
       | false => match c7 with
        | false => r5 0 cs2 es2 (n + 1)
        | true => match c8 with
         | true => r5 10 cs2 es3 n
         | false => r5 0 cs2 es2 (n + 1)
theorem PS {cs cs2 : List aq} {es es2 es3 : List (Go.Value × aq)} {n : Nat} {nm nm2 : List UInt8} {ar k ix : Int} {con : Bool} {la lb : List aq}
  {onm onm2 : List UInt8} {oar ok oix : Int} {ocon oex : Bool} {ola olb : List aq} {snm snm2 : List UInt8} {sar sk six : Int} {c8 sex : Bool} {sla slb : List aq} {c0 c1 c2 c3 c4 c5 c6 c7 : Bool}
  (hf : gV 49 [hP, .dat (sb nm)] cs es n (.tup [.dat (eT onm oar ok onm2 oix ola ocon olb), bv oex]))
  (hw : ae 50 [.dat (eT nm ar k nm2 ix la con lb)] (bv c0))
  (h1 : ba 6 ar = c1) (h2 : ba 6 (Int.ofNat lb.length) = c2)
  (he : ae 51 [.dat (eT onm oar ok onm2 oix ola ocon olb), .dat (eT nm ar k nm2 ix la con lb)] (bv c3))
  (hl : kY (env ap.aK) 23 [.win (.out 2) 8 0 n] none = some ⟨iv (Int.ofNat n), .keep⟩) (h3 : ba (Int.ofNat n) 60 = c4)
  (hk : gV 39 [hP, .dat (.agg [i64 k, sb nm2, i64 ix, sl la])] cs es n (bv c5)) 
  (hc : ae 53 [.dat (eT nm ar k nm2 ix la con lb)] (.dat (eT nm ar k nm2 ix la con lb)))
  (ha : oex = false -> KC 52 [hP, .dat (eT nm ar k nm2 ix la con lb)] (hG 2 (av cs) es n) 3 (XQ ⟨.tup [], hG 3 (av cs2) es2 (n + 1), 4⟩))
  (hcf : KC 54 [.dat (sl lb), NZ] (rA :: hG 3 (av cs2) es2 (n + 1)) 5 (XQ ⟨bv c6, rA :: hG 3 (av cs2) es2 (n + 1), 5⟩))
  (hr : oex = false -> KC 56 [hP] (rA :: hG 3 (av cs2) es2 (n + 1)) 5 (XQ ⟨.tup [], rA :: hG 3 (av cs2) es3 n, 5⟩))
  (hs : KC 49 [hP, .dat (sb nm2)] (rA :: hG 3 (av cs2) es2 (n + 1)) 5 (XQ ⟨.tup [.dat (eT snm sar sk snm2 six sla c8 slb), bv sex], rA :: hG 3 (av cs2) es2 (n + 1), 5⟩))
  (h4 : bj k 2 = c7) :
  KC 16 [hP, .dat (eT nm ar k nm2 ix la con lb)] (hG 2 (av cs) es n) 3 (XQ (Q2 cs cs2 es es2 es3 n oex c0 c1 c2 c3 c4 c5 c6 c7 c8)) := by
 have q1 := cC 5 onm oar ok onm2 oix ola ocon olb
 have q2 := br false 5 onm oar ok onm2 oix ola ocon olb
 have q4 := cC 7 snm sar sk snm2 six sla c8 slb
 rcases lb with _ | ⟨y, lb⟩
 ·have z : c2 = false := h2.symm
  subst z
  clear h2
  rcases la with _ | ⟨x, la⟩ <;>
  ·refine cV [23, 45, 73] [100005, 33, 44, 100007] (x := kD.of Tryz.f16 GX Fb) (by kernel_rfl) ?_; refine oh hf ?_; refine oo q1 ?_; refine on hw ?_
   cases c0
   ·exact fi
   refine ob h1 ?_
   cases c1
   ·cases oex
    ·refine oo hl ?_; refine ox h3 ?_
     cases c4
     ·exact fi
     refine oh hk ?_
     cases c5
     ·exact fi
     refine on hc ?_; refine oh (ha rfl) ?_; refine oh hcf ?_
     cases c6
     ·refine oh hs ?_; refine oo q4 ?_; refine ob h4 ?_
      cases c7
      ·exact fi
      cases c8
      ·exact fi
      refine oh (hr rfl) ?_; exact fi
     refine oh (hr rfl) ?_; exact fi
    refine oo q2 ?_; refine on he ?_
    cases c3 <;>
    ·exact fi
   exact fi
 rcases la with _ | ⟨x, la⟩ <;>
 ·refine cV [23, 28, 45, 73] [100005, 33, 44, 100007] (x := kD.of Tryz.f16 GX Fb) (by kernel_rfl) ?_; refine oh hf ?_; refine oo q1 ?_; refine on hw ?_
  cases c0
  ·exact fi
  refine ob h1 ?_
  cases c1
  ·refine ob h2 ?_
   cases c2
   ·cases oex
    ·refine oo hl ?_; refine ox h3 ?_
     cases c4
     ·exact fi
     refine oh hk ?_
     cases c5
     ·exact fi
     refine on hc ?_; refine oh (ha rfl) ?_; refine oh hcf ?_
     cases c6
     ·refine oh hs ?_; refine oo q4 ?_; refine ob h4 ?_
      cases c7
      ·exact fi
      cases c8
      ·exact fi
      refine oh (hr rfl) ?_; exact fi
     refine oh (hr rfl) ?_; exact fi
    refine oo q2 ?_; refine on he ?_
    cases c3 <;>
    ·exact fi
   exact fi
  exact fi
/-- What changes the hierarchy serves under another name of the row, beside other objects. -/
theorem OR {g : FuncId} {args : List ac} {v : ac} {cs cs2 : List aq} {es es2 : List (Go.Value × aq)} {n n2 r m : Nat} (ha : dR 3 args = false) (he : gv (Qo r) args = args) (hv : eX (ln (Qo r) 3 m) v = v) (pre : Heap)
  (h : KC g args (hG 2 (av cs) es n) 3 (XQ ⟨v, hG 2 (av cs2) es2 n2, 3⟩)) :
  KC g args (pre ++ hG r (av cs) es n) m (XQ ⟨v, pre ++ hG r (av cs2) es2 n2, m⟩) := by
 have e1 : ∀ (cs : List aq) (es : List (Go.Value × aq)) (n : Nat) (ρ : Nat -> Nat), ρ 0 = 0 -> ρ 1 = 1 -> ρ 2 = r -> lF ρ (hG 2 (av cs) es n) = hG r (av cs) es n := by
  intro cs es n ρ h0 h1 h2
  simp [hG, lF, oX, uZ, iT, gv, eX, h0, h1, h2]
 have hf := ay.frame h (Qo r) (heap := pre ++ hG r (av cs) es n) (rest := pre) (next := m) (by rw [e1 _ _ _ _ rfl rfl rfl]; exact List.perm_append_comm) (by rfl) (by simp [cO, hG, nj, iz, dR, dG]; exact ⟨rfl, rfl⟩) (by rfl) ha
 rw [he] at hf
 refine ay.hU hf ?_
 rintro v' h' m' ⟨v0, h1, n1, ⟨rfl, rfl, rfl⟩, rfl, rfl, rfl⟩
 rw [hv, e1 _ _ _ _ rfl rfl rfl]
 exact ⟨_, List.perm_append_comm, rfl, rfl, rfl⟩
theorem qH (p : Nat -> Bool) : ∀ l : List aq, gW p (av l) = true
 | [] => rfl
 | d :: r => by show (AL p (.dat d) && gW p (av r)) = true; rw [qH p r]; rfl
theorem TN {g : FuncId} {args : List ac} {h0 : Heap} {c : Int} {cs : List aq} {es : List (Go.Value × aq)} {n : Nat} (h : KC g args h0 3 (XQ (r3 c cs es n))) : KC g args h0 3 (XQ ⟨iv c, hG 3 (av cs) es n, 4⟩) := by
 refine ay.rn h ?_
 rintro v hp m ⟨rfl, rfl, rfl⟩
 refine ⟨[2], rfl, ?_, ?_⟩
 ·simp [r3, hG, bY, GZ, JD, gW, AL, dB, gF, qH]
  rfl
 simp [r3, hG, bY, lF, oX, uZ, gv, eX, dB, gF, jD, oY, iT]
 exact ⟨rfl, rfl, rfl⟩
theorem Wk {g : FuncId} {args : List ac} {h0 : Heap} {c : Int} {cs : List aq} {es : List (Go.Value × aq)} {n : Nat} (h : KC g args h0 3 (XQ (r5 c cs es n))) : KC g args h0 3 (XQ ⟨iv c, hG 3 (av cs) es n, 4⟩) := by
 refine ay.rn h ?_
 rintro v hp m ⟨rfl, rfl, rfl⟩
 have e : bY (dB 3 [3]) (r5 c cs es n).heap = hG 3 (av cs) es n := rfl
 refine ⟨[3], rfl, ?_, ?_⟩
 ·rw [e]
  simp [hG, GZ, JD, gW, AL, dB, gF, qH]
 rw [e]
 simp [hG, lF, oX, uZ, gv, eX, gF, jD, oY, iT]
 exact ⟨rfl, rfl, rfl⟩
def Ty.nm : Ty -> List UInt8
 | .mk _ n _ _ => n
/-- What Declare answers, and the hierarchy behind it. -/
def iR (ds : List bc) (d : bc) : Int × List bc :=
 match d.wf with
 | false => (2, ds)
 | true => match ba 6 d.ar with
  | true => (4, ds)
  | false => match ba 6 (Int.ofNat (aH d.fl).length) with
   | true => (4, ds)
   | false => match aW ds d.nm with
    | some o => (match o.eq d with | true => (0, ds) | false => (6, ds))
    | none => match ba (Int.ofNat ds.length) 60 with
     | false => (8, ds)
     | true => match cH ds d.sup with
      | false => (5, ds)
      | true => match d.fl.any (fun f => !cH (ds ++ [d]) f.ty) with
       | true => (5, ds)
       | false => match bj d.sup.kind 2 with
        | false => (0, ds ++ [d])
        | true => match (oS (aW (ds ++ [d]) d.sup.nm)).con with
         | true => (10, ds)
         | false => (0, ds ++ [d])
theorem yH : bc.zero.cA := ⟨⟨by decide, by simp [bc.zero, Ty.eI, di, bj]⟩, by simp [bc.zero], by decide⟩
theorem oN : ∀ {ds : List bc} {nm : List UInt8} {o : bc}, aW ds nm = some o -> o ∈ ds
 | [], nm, o, h => by simp [aW] at h
 | d :: r, nm, o, h => by
  unfold aW at h
  split at h
  ·simp at h; subst h; simp
  exact List.mem_cons_of_mem _ (oN h)
theorem IY {ds : List bc} {nm : List UInt8} (h : aW ds nm = none) : jS ds nm = none := by
 cases hp : jS ds nm with
 | none => rfl
 | some k =>
  obtain ⟨d, _, h2, _⟩ := wL hp
  rw [h2] at h; simp at h
theorem Nc {ds : List bc} {d : bc} {tl : List aq} (hd : d.cA) (hds : ∀ o ∈ ds, o.cA) (hn : ds.length < 999) :
  KC 16 [hP, .dat d.enc] (hH 2 ds tl) 3 (XQ (Q2 (bm ds ++ tl) (bm (ds ++ [d]) ++ []) (bu ds 0) (bu (ds ++ [d]) 0) (bu ds 0) ds.length (km (aW ds d.nm)) d.wf (ba 6 d.ar) (ba 6 (Int.ofNat (aH d.fl).length)) ((oS (aW ds d.nm)).eq d) (ba (Int.ofNat ds.length) 60) (cH ds d.sup) (d.fl.any (fun f => !cH (ds ++ [d]) f.ty)) (bj d.sup.kind 2) (oS (aW (ds ++ [d]) d.sup.nm)).con)) := by
 have hf : gV 49 [hP, .dat (sb d.nm)] (bm ds ++ tl) (bu ds 0) ds.length (.tup [.dat (oS (aW ds d.nm)).enc, bv (km (aW ds d.nm))]) := Bx ds tl d.nm
 have hw := Bu hd
 have ho : (oS (aW ds d.nm)).cA := by
  cases h : aW ds d.nm with
  | none => exact yH
  | some o => exact hds o (oN h)
 have he := ry ho hd
 have hl := oF (r := 2) (n := ds.length) (by simp only [iV]; omega)
 have hk : gV 39 [hP, .dat d.sup.enc] (bm ds ++ tl) (bu ds 0) ds.length (bv (cH ds d.sup)) := Bv ds tl d.sup (by have := hd.1.1; omega)
 have hc := nR hd
 have hpos : km (aW ds d.nm) = false -> jS ds d.nm = none := by
  intro h
  cases hf : aW ds d.nm with
  | none => exact IY hf
  | some o => rw [hf] at h; simp [km] at h
 have ha := fun h => Tx (tl := tl) (by omega) (hpos h)
 have hcf := NA (ds := ds ++ [d]) (tl := []) hd.2.1 hd.2.2
 have hr : km (aW ds d.nm) = false -> KC 56 [hP] (rA :: hG 3 (av (bm (ds ++ [d]) ++ [])) (bu (ds ++ [d]) 0) (ds.length + 1)) 5 (XQ ⟨.tup [], rA :: hG 3 (av (bm (ds ++ [d]) ++ [])) (bu ds 0) ds.length, 5⟩) := by
  intro h
  have h2 := Wa (tl := []) (by omega) (hpos h)
  have e2 : hH 2 ds (d.cells ++ []) = hG 2 (av (bm (ds ++ [d]) ++ [])) (bu ds 0) ds.length := by
   unfold hH
   rw [lf]
   simp only [bm, List.append_nil]
  rw [e2] at h2
  have e1 : hH 2 (ds ++ [d]) [] = hG 2 (av (bm (ds ++ [d]) ++ [])) (bu (ds ++ [d]) 0) (ds.length + 1) := by unfold hH; rw [List.length_append, List.length_singleton]
  rw [e1] at h2
  exact OR (r := 3) (m := 5) rfl rfl rfl [rA] h2
 have hs := Tv 3 5 [rA] (ds ++ [d]) [] d.sup.nm
 have el : (ds ++ [d]).length = ds.length + 1 := by simp
 have e3 : hH 3 (ds ++ [d]) [] = hG 3 (av (bm (ds ++ [d]) ++ [])) (bu (ds ++ [d]) 0) (ds.length + 1) := by unfold hH; rw [el]
 rw [e3] at hs
 simp only [e3] at ha
 unfold BG Pv at hcf
 rw [el] at hcf
 generalize (oS (aW ds d.nm)).eq d = c3 at he ⊢
 generalize d.fl.any (fun f => !cH (ds ++ [d]) f.ty) = c6 at hcf ⊢
 generalize d.wf = c0 at hw ⊢
 generalize cH ds d.sup = c5 at hk ⊢
 generalize oS (aW ds d.nm) = o at *
 generalize oS (aW (ds ++ [d]) d.sup.nm) = so at *
 generalize km (aW (ds ++ [d]) d.sup.nm) = sb at *
 generalize bm (ds ++ [d]) ++ [] = cs2 at *
 generalize bu (ds ++ [d]) 0 = es2 at *
 have e0 : hH 2 ds tl = hG 2 (av (bm ds ++ tl)) (bu ds 0) ds.length := rfl
 rw [e0] at ha ⊢
 generalize bu ds 0 = es at *
 generalize bm ds ++ tl = cs at *
 obtain ⟨nm, ar, ⟨k, tn, ix, la⟩, con, fl⟩ := d
 obtain ⟨onm, oar, ⟨ok, otn, oix, ola⟩, ocon, ofl⟩ := o
 obtain ⟨snm, sar, ⟨sk, stn, six, sla⟩, scon, sfl⟩ := so
 exact PS hf hw rfl rfl he hl rfl hk hc ha hcf hr hs rfl
theorem MB (r : Nat) (ds : List bc) (d : bc) : hH r (ds ++ [d]) [] = hG r (av (bm (ds ++ [d]) ++ [])) (bu (ds ++ [d]) 0) (ds.length + 1) := by unfold hH; rw [List.length_append, List.length_singleton]
theorem MA (r : Nat) (ds : List bc) (d : bc) : hH r ds d.cells = hG r (av (bm (ds ++ [d]) ++ [])) (bu ds 0) ds.length := by
 unfold hH
 rw [lf]
 simp only [bm, List.append_nil]
theorem sX {ds : List bc} {d : bc} {tl : List aq} (hd : d.cA) (hds : ∀ o ∈ ds, o.cA) (hn : ds.length < 999) :
  ∃ tl2, KC 16 [hP, .dat d.enc] (hH 2 ds tl) 3 (XQ ⟨iv (iR ds d).1, hH 3 (iR ds d).2 tl2, 4⟩) := by
 have h := Nc (tl := tl) hd hds hn
 unfold iR
 generalize d.wf = c0 at h ⊢
 cases c0 with
 | false => exact ⟨tl, TN h⟩
 | true =>
  generalize ba 6 d.ar = c1 at h ⊢
  cases c1
  ·generalize ba 6 (Int.ofNat (aH d.fl).length) = c2 at h ⊢
   cases c2
   ·generalize aW ds d.nm = fo at h ⊢
    cases fo with
    | some o =>
     dsimp only [oS, km] at h ⊢
     generalize o.eq d = c3 at h ⊢
     cases c3 <;>
     ·exact ⟨tl, TN h⟩
    | none =>
     dsimp only [oS, km] at h ⊢
     generalize ba (Int.ofNat ds.length) 60 = c4 at h ⊢
     cases c4 with
     | false => exact ⟨tl, TN h⟩
     | true =>
      generalize cH ds d.sup = c5 at h ⊢
      cases c5 with
      | false => exact ⟨tl, TN h⟩
      | true =>
       generalize d.fl.any (fun f => !cH (ds ++ [d]) f.ty) = c6 at h ⊢
       cases c6
       ·generalize bj d.sup.kind 2 = c7 at h ⊢
        cases c7 with
        | false =>
         dsimp only
         exact ⟨[], by rw [MB]; exact Wk h⟩
        | true =>
         dsimp only [oS] at h ⊢
         generalize (match aW (ds ++ [d]) d.sup.nm with | some d => d | none => bc.zero).con = c8 at h ⊢
         cases c8
         ·dsimp only
          exact ⟨[], by rw [MB]; exact Wk h⟩
         dsimp only
         exact ⟨d.cells, by rw [MA]; exact Wk h⟩
       dsimp only
       exact ⟨d.cells, by rw [MA]; exact Wk h⟩
   exact ⟨tl, TN h⟩
  exact ⟨tl, TN h⟩
def xT (nm : List UInt8) : bc := ⟨nm, 0, .mk 0 [] 0 [], true, []⟩
def cY : List bc := fQ.map xT
theorem Wc : KC 44 [] [] 0 (XQ ⟨hP, hH 2 cY [], 3⟩) := by
 have h : KC 44 [] [] 0 (XQ ⟨hP, hG 5 (av (bm cY ++ [])) (bu cY 0) 4, 6⟩) := pf _ _ _ _ _ (by kernel_rfl)
 refine ay.rn h ?_
 rintro v hp m ⟨rfl, rfl, rfl⟩
 exact ⟨[0, 1, 5], rfl, rfl, rfl, rfl, rfl⟩
def aJ : List bc -> List aq
 | [] => []
 | d :: r => d.enc :: aJ r
theorem nO : ∀ l : List bc, aJ l = l.map bc.enc
 | [] => by simp [aJ]
 | t :: r => by simp [aJ, nO r]
theorem aX (l : List bc) : (aJ l).length = l.length := by simp [nO]
theorem M5 {l : List bc} {i : Nat} {t : bc} (h : l[i]? = some t) : (aJ l)[i]? = some t.enc := by simp [nO, h]
theorem Ni (d : bc) : d.enc.cells.length = 8 := by obtain ⟨a, b, ⟨e, f, g, h⟩, i, j⟩ := d; rfl
theorem M4 {l : List bc} {d : aq} (h : d ∈ aJ l) : ∃ t, d = bc.enc t := by
 rw [nO] at h
 obtain ⟨t, _, rfl⟩ := List.mem_map.1 h
 exact ⟨t, rfl⟩
theorem rq (a b : List bc) : aJ (a ++ b) = aJ a ++ aJ b := by simp [nO]
theorem mo (l : List bc) : sizedB 8 (aJ l) = true := jr (fun d hd => by obtain ⟨t, rfl⟩ := M4 hd; exact Ni t)
theorem xF (l : List bc) : eW (aJ l) = false := by
 cases l with
 | nil => rfl
 | cons t r => rfl
theorem D9 : Go.Tp.elemOf (env ap.aK) 23 = some Ea := by kernel_rfl
theorem qn : Ea.size = 8 := by kernel_rfl
theorem BC {pre : List bc} {t : bc} (hl : pre.length < 1000000000) : bq (env ap.aK) false 23 [.own (aJ pre), .dat (.slice [t.enc])] none = some ⟨.own (aJ (pre ++ [t])), .keep⟩ := by
 rw [rq]
 refine rK (i := Ea) (ds := [t.enc]) (k := 7) D9 rfl qn ?_ ?_ (by kernel_rfl) ?_ ?_ ?_ (by simp)
 ·exact mo [t]
 ·exact mo pre
 ·have h1 : Ea.bytes <= 1000 := fN (by kernel_rfl)
  rw [aX]
  calc (pre.length + 1) * Ea.bytes <= 1000000000 * 1000 := Nat.mul_le_mul (by omega) h1
   _ <= 140737488355328 := by decide
 ·rw [aX]; simp [iV]; omega
 unfold io
 rw [show aJ pre ++ [t.enc] = aJ (pre ++ [t]) by rw [rq]; rfl, xF]
def yx : List bc -> ac
 | [] => .dat nl
 | t :: r => .own (aJ (t :: r))
noncomputable def MF : Hints := ⟨au, zq, ax, rowsOf ax 19⟩
def Uw (cs : List aq) (es : List (Go.Value × aq)) (n : Nat) (pre : List bc) (i : Int) : ab := ⟨[(11, iv i), (10, iv (Int.ofNat n)), (9, .win (.out 2) 8 0 n), (3, yx pre)], [], hG 2 (av cs) es n, 3⟩
def Uv (cs : List aq) (es : List (Go.Value × aq)) (n : Nat) (pre : List bc) (i : Int) : ab := ⟨[(12, bv false), (11, iv i), (10, iv (Int.ofNat n)), (9, .win (.out 2) 8 0 n), (3, yx pre)], [], hG 2 (av cs) es n, 3⟩
theorem DD {cs : List aq} {es : List (Go.Value × aq)} {n i : Nat} {pre : List bc} {t : bc} (hi : i < n) (h2 : aC (env ap.aK) 23 [.win (.out 2) 8 0 n, iv (Int.ofNat i)] = some ⟨.ptr (.out 2) (0 + i * 8), .keep⟩)
  (h3 : dD (env ap.aK) false 35 [.ptr (.out 2) (0 + i * 8)] (some (.cells (av cs))) = some ⟨.dat t.enc, .keep⟩) (hc : ae 53 [.dat t.enc] (.dat t.enc)) (hp : pre.length < 1000000000) {T : Exit -> aa -> Prop}
  (e : T .normal ((Uw cs es n (pre ++ [t]) (aG .i64 (Int.ofNat i + 1))).aw Tryz.f19.ntmps)) :
  KD (roundOf Tryz.f19 0) T ((Uw cs es n pre (Int.ofNat i)).aw Tryz.f19.ntmps) := by
 have h1 := bN hi
 have h4 := BC (t := t) hp
 clear hi hp
 obtain ⟨nm, ar, ⟨k, tn, ix, la⟩, con, fl⟩ := t
 rcases la with _ | ⟨x, la⟩ <;>
 ·rcases fl with _ | ⟨y, fl⟩ <;>
  ·rcases pre with _ | ⟨z, pre⟩ <;>
   ·refine az [12] [13, 14, 19] (H := MF) (live := dJ) (by kernel_rfl) ?_; refine ob h1 ?_; refine oo h2 ?_; refine oo h3 ?_; refine on hc ?_; refine oo h4 ?_; exact oe e
theorem FW {cs : List aq} {es : List (Go.Value × aq)} {n : Nat} {pre : List bc} {T : Exit -> aa -> Prop} (e : T (.exit 0) ((Uv cs es n pre (Int.ofNat n)).aw Tryz.f19.ntmps)) :
  KD (roundOf Tryz.f19 0) T ((Uw cs es n pre (Int.ofNat n)).aw Tryz.f19.ntmps) := by
 have h1 := bO (i := n) (L := n) (by omega)
 rcases pre with _ | ⟨z, pre⟩ <;>
 ·refine az [12] [] (H := MF) (live := dJ) (by kernel_rfl) ?_; refine ob h1 ?_; exact oe e
theorem Jm {cs : List aq} {es : List (Go.Value × aq)} {n : Nat} {pre : List bc} (h0 : kY (env ap.aK) 23 [.win (.out 2) 8 0 n] none = some ⟨iv (Int.ofNat n), .keep⟩)
  (hl : KD (.loop (roundOf Tryz.f19 0)) (fun e s => e = .exit 0 /\ s = (Uv cs es n pre (Int.ofNat n)).aw Tryz.f19.ntmps) ((Uw cs es n [] (Int.ofNat 0)).aw Tryz.f19.ntmps)) : gV 19 [hP] cs es n (yx pre) := by
 rcases pre with _ | ⟨z, pre⟩ <;>
 ·refine cV [] [10] (x := kD.of Tryz.f19 zq dJ) (by kernel_rfl) ?_; refine oo h0 ?_; refine lo hl ?_; rintro ex s ⟨rfl, rfl⟩; refine ⟨_, rfl, ?_⟩; exact fi
theorem Bz (r m : Nat) (pre : Heap) {ds : List bc} {tl : List aq} (hds : ∀ o ∈ ds, o.cA) (hn : ds.length < 1000) : KC 19 [hP] (pre ++ hH r ds tl) m (XQ ⟨yx ds, pre ++ hH r ds tl, m⟩) := by
 have h : gV 19 [hP] (bm ds ++ tl) (bu ds 0) ds.length (yx ds) := by
  refine Jm (oF (by simp only [iV]; omega)) ?_
  refine bG (St := fun i => (Uw (bm ds ++ tl) (bu ds 0) ds.length (ds.take i) (Int.ofNat i)).aw Tryz.f19.ntmps) ds.length ?_ ?_ (i := 0) (Nat.zero_le _)
  ·intro i hi
   have ht : ds[i]? = some ds[i] := List.getElem?_eq_getElem hi
   have hm : ds[i] ∈ ds := List.getElem_mem hi
   generalize ds[i] = t at ht hm
   refine DD hi (mb hi) (nt ht) (nR (hds t hm)) (by rw [List.length_take]; omega) ?_
   rw [bi (by omega), ← ee ht]
   rfl
  refine FW ⟨rfl, ?_⟩
  rw [List.take_length]
 cases ds with
 | nil => exact qx rfl rfl rfl pre h
 | cons d ds => exact qx rfl rfl rfl pre h
theorem zB (i : Int) : ae 47 [iv i] (.dat (Ty.mk 5 [] i []).enc) := by
 refine co [] [] (x := .of Tryz.f47 Lo Mm) ?_; exact fi
theorem xt : ae 82 [] (.dat (Ty.mk 0 [] 0 []).enc) := by
 refine co [] [] (x := .of Tryz.f82 Lf Md) ?_; exact fi
theorem Py : ae 86 [] (.dat (Ty.mk 1 [] 0 []).enc) := by
 refine co [] [] (x := .of Tryz.f86 Lc Ma) ?_; exact fi
theorem nC (nm : List UInt8) : ae 46 [.dat (sb nm), .dat nl] (.dat (Ty.mk 2 nm 0 []).enc) := by
 refine co [] [] (x := .of Tryz.f46 GP E9) ?_; exact fi
theorem xr (nm : List UInt8) (x : aq) (l : List aq) : ae 46 [.dat (sb nm), .dat (.slice (x :: l))] (.dat (.agg [i64 2, sb nm, i64 0, .slice (x :: l)])) := by
 refine co [] [] (x := .of Tryz.f46 GP E9) ?_; exact fi
theorem Hu (x : aq) (l : List aq) : ae 84 [.dat (.slice (x :: l))] (.dat (.agg [i64 4, sb [], i64 0, .slice (x :: l)])) := by
 refine co [] [] (x := .of Tryz.f84 Le Mc) ?_; exact fi
theorem nD (t u : Ty) : ae 85 [.dat t.enc, .dat u.enc] (.dat (Ty.mk 6 [] 0 [t, u]).enc) := by
 refine co [] [] (x := .of Tryz.f85 Ld Mb) ?_
 obtain ⟨v0, v1, v2, v3⟩ := t
 rcases v3 with _ | ⟨v10, v11⟩
 ·obtain ⟨v4, v5, v6, v7⟩ := u
  rcases v7 with _ | ⟨v8, v9⟩ <;>
  ·exact fi
 obtain ⟨v12, v13, v14, v15⟩ := u
 rcases v15 with _ | ⟨v16, v17⟩ <;>
 ·exact fi
theorem MY {L : List (List UInt8)} {i : Nat} {b : List UInt8} (h : L[i]? = some b) : (iP L)[i]? = some (sb b) := by simp [iP, h, sb]
noncomputable def WQ : TI := match Go.Tp.elemOf (env ap.aK) 60 with | some t => t | none => default
theorem Ri : Go.Tp.elemOf (env ap.aK) 60 = some WQ := by kernel_rfl
theorem BO : WQ.size = 1 := by kernel_rfl
theorem UU {L : List (List UInt8)} {i : Nat} {b : List UInt8} (h : L[i]? = some b) : aC (env ap.aK) 60 [.dat (.slice (iP L)), .dat (.flat (.int .i64 (Int.ofNat i)))] = some ⟨.ref [sb b], .keep⟩ :=
 rI Ri rfl (MY h) (by rw [BO]; rfl) (by rw [BO]; decide)
theorem xm {l : List bc} {i : Nat} {t : bc} (h : l[i]? = some t) : aC (env ap.aK) 23 [.dat (.slice (aJ l)), .dat (.flat (.int .i64 (Int.ofNat i)))] = some ⟨.ref t.cells, .keep⟩ :=
 rI D9 rfl (M5 h) (by rw [qn]; exact Ni t) (by rw [qn]; decide)
theorem LW {l ds : List aq} {k k2 : Int} {r v dp : Int} {b : List UInt8} (h1 : KC 64 [eD, iv (aG .i64 (Int.ofNat ds.length + 4))] (fK l k) 1 (XQ ⟨iv r, fK l k2, 1⟩)) (h2 : ba r 4 = true)
  (hi : aC (env ap.aK) 60 [.dat (.slice (iP fQ)), .dat (.flat (.int .i64 r))] = some ⟨.ref [sb b], .keep⟩) :
  KC 83 [eD, .dat (.slice ds), iv dp, iv v] (fK l k) 1 (XQ ⟨.dat (Ty.mk 2 b 0 []).enc, fK l k2, 1⟩) := by
 have h3 := nC b
 refine co [19] [22] (x := .of Tryz.f83 CC xb) ?_; refine oh h1 ?_; refine ob h2 ?_; refine oo hi ?_; refine on h3 ?_; exact fi
noncomputable def Mz : Hints := ⟨au, CC, ax, rowsOf ax 83⟩
def RQ (lo : Heap) (nm : List UInt8) (pre : List Ty) : Heap := (.loc 11, .cells [iv 2, .dat (sb nm), iv 0, OH pre]) :: lo
def E3 (cs : List ac) : Heap := [(.loc 10, .cells cs), (.loc 8, .cells [iv 0, .dat (sb []), iv 0, .dat nl])]
def J4 (lo : Heap) (l ds : List aq) (dp v K i : Int) : ab := ⟨[(12, iv i), (11, .ptr (.loc 11) 0), (10, .ptr (.loc 10) 0), (8, .ptr (.loc 8) 0), (0, eD), (1, .dat (.slice ds)), (2, iv dp), (3, iv v)], lo, fK l K, 1⟩
def Qr (lo : Heap) (l ds : List aq) (dp v K i : Int) : ab := ⟨[(36, bv false), (12, iv i), (11, .ptr (.loc 11) 0), (10, .ptr (.loc 10) 0), (8, .ptr (.loc 8) 0), (0, eD), (1, .dat (.slice ds)), (2, iv dp), (3, iv v)], lo, fK l K, 1⟩
theorem LQ {l ds : List aq} {dp v K K2 ar i kk ix : Int} {nm tn : List UInt8} {con : Bool} {la lb : List aq} {pre : List Ty} {t : Ty} (h1 : ba i ar = true)
  (h2 : KC 65 [eD, .dat (.slice ds), iv (aG .i64 (dp - 1)), iv v] (fK l K) 1 (XQ ⟨.dat t.enc, fK l K2, 1⟩)) (hp : pre.length < 1000000000) {T : Exit -> aa -> Prop}
  (e : T .normal ((J4 (RQ (E3 (cellsD nm ar kk tn ix la con lb)) nm (pre ++ [t])) l ds dp v K2 (aG .i64 (i + 1))).aw Tryz.f83.ntmps)) :
  KD (roundOf Tryz.f83 0) T ((J4 (RQ (E3 (cellsD nm ar kk tn ix la con lb)) nm pre) l ds dp v K i).aw Tryz.f83.ntmps) := by
 have h3 := Qb (t := t) hp
 clear hp
 rcases pre with _ | ⟨d, r⟩ <;>
 ·refine az [36] [48] (H := Mz) (live := xb) (by kernel_rfl) ?_; refine ob h1 ?_; refine oh h2 ?_
  obtain ⟨v0, v1, v2, v3⟩ := t
  refine oo h3 ?_; exact oe e
theorem OP {l ds : List aq} {dp v K ar i kk ix : Int} {nm tn : List UInt8} {con : Bool} {la lb : List aq} {pre : List Ty} (h1 : ba i ar = false) {T : Exit -> aa -> Prop}
  (e : T (.exit 0) ((Qr (RQ (E3 (cellsD nm ar kk tn ix la con lb)) nm pre) l ds dp v K i).aw Tryz.f83.ntmps)) :
  KD (roundOf Tryz.f83 0) T ((J4 (RQ (E3 (cellsD nm ar kk tn ix la con lb)) nm pre) l ds dp v K i).aw Tryz.f83.ntmps) := by
 rcases pre with _ | ⟨d, r⟩ <;>
 ·refine az [36] [] (H := Mz) (live := xb) (by kernel_rfl) ?_; refine ob h1 ?_; exact oe e
theorem LX {l : List aq} {ds : List aq} {k k2 k3 : Int} {r v dp : Int} {nm tn : List UInt8} {ar kk ix ie : Int} {con : Bool} {la lb : List aq} {ts : List Ty} (h1 : KC 64 [eD, iv (aG .i64 (Int.ofNat ds.length + 4))] (fK l k) 1 (XQ ⟨iv r, fK l k2, 1⟩)) (h2 : ba r 4 = false)
  (hi : aC (env ap.aK) 23 [.dat (.slice ds), .dat (.flat (.int .i64 (aG .i64 (r - 4))))] = some ⟨.ref [sb nm, i64 ar, i64 kk, sb tn, i64 ix, sl la, bl con, sl lb], .keep⟩)
  (hl : KD (.loop (roundOf Tryz.f83 0)) (fun e s => e = .exit 0 /\ s = (Qr (RQ (E3 (cellsD nm ar kk tn ix la con lb)) nm ts) l ds dp v k3 ie).aw Tryz.f83.ntmps) ((J4 (RQ (E3 (cellsD nm ar kk tn ix la con lb)) nm []) l ds dp v k2 0).aw Tryz.f83.ntmps)) :
  KC 83 [eD, .dat (.slice ds), iv dp, iv v] (fK l k) 1 (XQ ⟨.dat (Ty.mk 2 nm 0 ts).enc, fK l k3, 1⟩) := by
 have q1 := cC 10 nm ar kk tn ix la con lb
 rcases ts with _ | ⟨t, ts⟩ <;>
 ·refine co [19] [28, 100010] (x := .of Tryz.f83 CC xb) ?_; refine oh h1 ?_; refine ob h2 ?_; refine oo hi ?_; refine oo q1 ?_; refine lo hl ?_; rintro ex s ⟨rfl, rfl⟩; refine ⟨_, rfl, ?_⟩; exact fi
theorem P9 {l ds : List aq} {k k2 k3 r v dp i : Int} (h1 : KC 64 [eD, iv 6] (fK l k) 1 (XQ ⟨iv r, fK l k2, 1⟩)) (h2 : ba r 2 = true) (h3 : ba 0 v = true) (h4 : KC 64 [eD, iv v] (fK l k2) 1 (XQ ⟨iv i, fK l k3, 1⟩)) :
  KC 65 [eD, .dat (.slice ds), iv dp, iv v] (fK l k) 1 (XQ ⟨.dat (Ty.mk 5 [] i []).enc, fK l k3, 1⟩) := by
 have h5 := zB i
 refine co [14, 17] [] (x := .of Tryz.f65 tP pU) ?_; refine oh h1 ?_; refine ob h2 ?_; refine ob h3 ?_; refine oh h4 ?_; refine on h5 ?_; exact fi
theorem NR {l ds : List aq} {k k2 k3 r v dp i : Int} {b : List UInt8} {c2 c3 : Bool} (h1 : KC 64 [eD, iv 6] (fK l k) 1 (XQ ⟨iv r, fK l k2, 1⟩)) (h2 : ba r 2 = c2) (h3 : ba 0 v = c3) (hc : c2 = true -> c3 = false) (hd : ba 0 dp = false) (h4 : KC 64 [eD, iv 4] (fK l k2) 1 (XQ ⟨iv i, fK l k3, 1⟩))
  (hi : aC (env ap.aK) 60 [.dat (.slice (iP fQ)), .dat (.flat (.int .i64 i))] = some ⟨.ref [sb b], .keep⟩) :
  KC 65 [eD, .dat (.slice ds), iv dp, iv v] (fK l k) 1 (XQ ⟨.dat (Ty.mk 2 b 0 []).enc, fK l k3, 1⟩) := by
 have h5 := nC b
 cases c2
 ·refine co [14, 25] [29] (x := .of Tryz.f65 tP pU) ?_; refine oh h1 ?_; refine ob h2 ?_; refine ox hd ?_; refine oh h4 ?_; refine oo hi ?_; refine on h5 ?_; exact fi
 obtain rfl := hc rfl
 refine co [14, 17, 25] [29] (x := .of Tryz.f65 tP pU) ?_; refine oh h1 ?_; refine ob h2 ?_; refine ob h3 ?_; refine ox hd ?_; refine oh h4 ?_; refine oo hi ?_; refine on h5 ?_; exact fi
theorem Jw {l ds : List aq} {k k2 k3 r v dp : Int} {t : Ty} {c2 c3 : Bool} (h1 : KC 64 [eD, iv 6] (fK l k) 1 (XQ ⟨iv r, fK l k2, 1⟩)) (h2 : ba r 2 = c2) (h3 : ba 0 v = c3) (hc : c2 = true -> c3 = false) (hd : ba 0 dp = true) (h4 : ba r 4 = true)
  (h5 : KC 83 [eD, .dat (.slice ds), iv dp, iv v] (fK l k2) 1 (XQ ⟨.dat t.enc, fK l k3, 1⟩)) :
  KC 65 [eD, .dat (.slice ds), iv dp, iv v] (fK l k) 1 (XQ ⟨.dat t.enc, fK l k3, 1⟩) := by
 obtain ⟨ek, en, ei, ea⟩ := t
 cases c2
 ·rcases ea with _ | ⟨x, ea⟩ <;>
  ·refine co [14, 25, 34] [] (x := .of Tryz.f65 tP pU) ?_; refine oh h1 ?_; refine ob h2 ?_; refine ox hd ?_; refine ob h4 ?_; refine oh h5 ?_; exact fi
 obtain rfl := hc rfl
 rcases ea with _ | ⟨x, ea⟩ <;>
 ·refine co [14, 17, 25, 34] [] (x := .of Tryz.f65 tP pU) ?_; refine oh h1 ?_; refine ob h2 ?_; refine ob h3 ?_; refine ox hd ?_; refine ob h4 ?_; refine oh h5 ?_; exact fi
theorem NP {l ds : List aq} {k k2 k3 r v dp : Int} {t : Ty} (h1 : KC 64 [eD, iv 6] (fK l k) 1 (XQ ⟨iv r, fK l k2, 1⟩)) (h2 : ba r 2 = false) (hd : ba 0 dp = true) (h4 : ba r 4 = false)
  (h5 : KC 48 [eD, .dat (.slice ds), iv (aG .i64 (dp - 1)), iv 0] (fK l k2) 1 (XQ ⟨.dat t.enc, fK l k3, 1⟩)) :
  KC 65 [eD, .dat (.slice ds), iv dp, iv v] (fK l k) 1 (XQ ⟨.dat t.enc, fK l k3, 1⟩) := by
 obtain ⟨ek, en, ei, ea⟩ := t
 rcases ea with _ | ⟨x, ea⟩ <;>
 ·refine co [14, 25, 34] [] (x := .of Tryz.f65 tP pU) ?_; refine oh h1 ?_; refine ob h2 ?_; refine ox hd ?_; refine ob h4 ?_; refine oh h5 ?_; exact fi
abbrev bC (l : List aq) (k n r k2 : Int) : Prop := KC 64 [eD, iv n] (fK l k) 1 (XQ ⟨iv r, fK l k2, 1⟩)
abbrev dE (l ds : List aq) (dp v k : Int) (d : aq) (k2 : Int) : Prop := KC 48 [eD, .dat (.slice ds), iv dp, iv v] (fK l k) 1 (XQ ⟨.dat d, fK l k2, 1⟩)
abbrev tx (l ds : List aq) (dp v k : Int) (d : aq) (k2 : Int) : Prop := KC 83 [eD, .dat (.slice ds), iv dp, iv v] (fK l k) 1 (XQ ⟨.dat d, fK l k2, 1⟩)
theorem vK {l ds : List aq} {k k2 k3 v dp i : Int} {c : Bool} {b : List UInt8} (h1 : bC l k 14 0 k2) (h2 : ba 0 dp = c) (h4 : bC l k2 4 i k3)
  (hi : aC (env ap.aK) 60 [.dat (.slice (iP fQ)), .dat (.flat (.int .i64 i))] = some ⟨.ref [sb b], .keep⟩) : dE l ds dp v k (Ty.mk 2 b 0 []).enc k3 := by
 have h5 := nC b
 refine co [17] [29] (x := .of Tryz.f48 eU dz) ?_; refine oh h1 ?_; refine ox h2 ?_
 cases c <;>
 ·refine oh h4 ?_; refine oo hi ?_; refine on h5 ?_; exact fi
theorem vJ {l ds : List aq} {k k2 k3 v dp i : Int} {c : Bool} {b : List UInt8} (h1 : bC l k 14 1 k2) (h2 : ba 0 dp = c) (h4 : bC l k2 4 i k3)
  (hi : aC (env ap.aK) 60 [.dat (.slice (iP fQ)), .dat (.flat (.int .i64 i))] = some ⟨.ref [sb b], .keep⟩) : dE l ds dp v k (Ty.mk 2 b 0 []).enc k3 := by
 have h5 := nC b
 refine co [17] [29] (x := .of Tryz.f48 eU dz) ?_; refine oh h1 ?_; refine ox h2 ?_
 cases c <;>
 ·refine oh h4 ?_; refine oo hi ?_; refine on h5 ?_; exact fi
theorem HQ {l ds : List aq} {k k2 k3 v dp i r : Int} {b : List UInt8} (h1 : bC l k 14 r k2) (h2 : ba 0 dp = false) (h3 : ba 5 r = true) (h4 : bC l k2 4 i k3)
  (hi : aC (env ap.aK) 60 [.dat (.slice (iP fQ)), .dat (.flat (.int .i64 i))] = some ⟨.ref [sb b], .keep⟩) : dE l ds dp v k (Ty.mk 2 b 0 []).enc k3 := by
 have h5 := nC b
 refine co [17, 20] [29] (x := .of Tryz.f48 eU dz) ?_; refine oh h1 ?_; refine ox h2 ?_; refine ob h3 ?_; refine oh h4 ?_; refine oo hi ?_; refine on h5 ?_; exact fi
theorem BQ {l ds : List aq} {k k2 v dp : Int} {c : Bool} (h1 : bC l k 14 2 k2) (h2 : ba 0 dp = c) : dE l ds dp v k (Ty.mk 0 [] 0 []).enc k2 := by
 have h5 := xt
 refine co [17] [] (x := .of Tryz.f48 eU dz) ?_; refine oh h1 ?_; refine ox h2 ?_
 cases c <;>
 ·refine on h5 ?_; exact fi
theorem yM {l ds : List aq} {k k2 k3 v dp i : Int} {c : Bool} (h1 : bC l k 14 3 k2) (h2 : ba 0 dp = c) (h3 : ba 0 v = true) (h4 : bC l k2 v i k3) : dE l ds dp v k (Ty.mk 5 [] i []).enc k3 := by
 have h5 := zB i
 refine co [17, 39] [] (x := .of Tryz.f48 eU dz) ?_; refine oh h1 ?_; refine ox h2 ?_
 cases c <;>
 ·refine ob h3 ?_; refine oh h4 ?_; refine on h5 ?_; exact fi
theorem yP {l ds : List aq} {k k2 k3 v dp : Int} {c : Bool} {t : Ty} (h1 : bC l k 14 3 k2) (h2 : ba 0 dp = c) (h3 : ba 0 v = false) (h4 : tx l ds dp v k2 t.enc k3) : dE l ds dp v k t.enc k3 := by
 obtain ⟨ek, en, ei, ea⟩ := t
 rcases ea with _ | ⟨x, ea⟩ <;>
 ·refine co [17, 39] [] (x := .of Tryz.f48 eU dz) ?_; refine oh h1 ?_; refine ox h2 ?_
  cases c <;>
  ·refine ob h3 ?_; refine oh h4 ?_; exact fi
theorem yL {l ds : List aq} {k k2 k3 v dp i : Int} {c : Bool} (h1 : bC l k 14 4 k2) (h2 : ba 0 dp = c) (h3 : ba 0 v = true) (h4 : bC l k2 v i k3) : dE l ds dp v k (Ty.mk 5 [] i []).enc k3 := by
 have h5 := zB i
 refine co [17, 39] [] (x := .of Tryz.f48 eU dz) ?_; refine oh h1 ?_; refine ox h2 ?_
 cases c <;>
 ·refine ob h3 ?_; refine oh h4 ?_; refine on h5 ?_; exact fi
theorem yO {l ds : List aq} {k k2 k3 v dp : Int} {c : Bool} {t : Ty} (h1 : bC l k 14 4 k2) (h2 : ba 0 dp = c) (h3 : ba 0 v = false) (h4 : tx l ds dp v k2 t.enc k3) : dE l ds dp v k t.enc k3 := by
 obtain ⟨ek, en, ei, ea⟩ := t
 rcases ea with _ | ⟨x, ea⟩ <;>
 ·refine co [17, 39] [] (x := .of Tryz.f48 eU dz) ?_; refine oh h1 ?_; refine ox h2 ?_
  cases c <;>
  ·refine ob h3 ?_; refine oh h4 ?_; exact fi
theorem yN {l ds : List aq} {k k2 k3 v dp : Int} {c : Bool} {t : Ty} (h1 : bC l k 14 5 k2) (h2 : ba 0 dp = c) (h4 : tx l ds dp v k2 t.enc k3) : dE l ds dp v k t.enc k3 := by
 obtain ⟨ek, en, ei, ea⟩ := t
 rcases ea with _ | ⟨x, ea⟩ <;>
 ·refine co [17] [] (x := .of Tryz.f48 eU dz) ?_; refine oh h1 ?_; refine ox h2 ?_
  cases c <;>
  ·refine oh h4 ?_; exact fi
theorem HP {l ds : List aq} {k k2 k3 v dp : Int} {t : Ty} (h1 : bC l k 14 6 k2) (h2 : ba 0 dp = true) (h4 : tx l ds dp v k2 t.enc k3) : dE l ds dp v k t.enc k3 := by
 obtain ⟨ek, en, ei, ea⟩ := t
 rcases ea with _ | ⟨x, ea⟩ <;>
 ·refine co [17] [] (x := .of Tryz.f48 eU dz) ?_; refine oh h1 ?_; refine ox h2 ?_; refine oh h4 ?_; exact fi
theorem HO {l ds : List aq} {k k2 k3 v dp : Int} {t : Ty} (h1 : bC l k 14 7 k2) (h2 : ba 0 dp = true) (h4 : tx l ds dp v k2 t.enc k3) : dE l ds dp v k t.enc k3 := by
 obtain ⟨ek, en, ei, ea⟩ := t
 rcases ea with _ | ⟨x, ea⟩ <;>
 ·refine co [17] [] (x := .of Tryz.f48 eU dz) ?_; refine oh h1 ?_; refine ox h2 ?_; refine oh h4 ?_; exact fi
theorem JX {l ds : List aq} {k k2 k3 k4 v dp : Int} {t u : Ty} (h1 : bC l k 14 8 k2) (h2 : ba 0 dp = true) (h4 : dE l ds (aG .i64 (dp - 1)) v k2 t.enc k3) (h5 : dE l ds (aG .i64 (dp - 1)) v k3 u.enc k4) : dE l ds dp v k (Ty.mk 4 [] 0 [t, u]).enc k4 := by
 have h6 := Hu t.enc [u.enc]
 obtain ⟨ek, en, ei, ea⟩ := t
 obtain ⟨uk, un, ui, ua⟩ := u
 rcases ea with _ | ⟨x, ea⟩ <;>
 ·rcases ua with _ | ⟨y, ua⟩ <;>
  ·refine co [17] [] (x := .of Tryz.f48 eU dz) ?_; refine oh h1 ?_; refine ox h2 ?_; refine oh h4 ?_; refine oh h5 ?_; refine on h6 ?_; exact fi
theorem JW {l ds : List aq} {k k2 k3 k4 v dp : Int} {t u : Ty} (h1 : bC l k 14 9 k2) (h2 : ba 0 dp = true) (h4 : dE l ds (aG .i64 (dp - 1)) v k2 t.enc k3) (h5 : dE l ds (aG .i64 (dp - 1)) v k3 u.enc k4) : dE l ds dp v k (Ty.mk 4 [] 0 [t, u]).enc k4 := by
 have h6 := Hu t.enc [u.enc]
 obtain ⟨ek, en, ei, ea⟩ := t
 obtain ⟨uk, un, ui, ua⟩ := u
 rcases ea with _ | ⟨x, ea⟩ <;>
 ·rcases ua with _ | ⟨y, ua⟩ <;>
  ·refine co [17] [] (x := .of Tryz.f48 eU dz) ?_; refine oh h1 ?_; refine ox h2 ?_; refine oh h4 ?_; refine oh h5 ?_; refine on h6 ?_; exact fi
noncomputable def QY : Hints := ⟨au, eU, ax, rowsOf ax 48⟩
def UO (pre : List Ty) : Heap := [(.loc 10, .cells [iv 3, .dat (sb []), iv 0, OH pre]), (.loc 8, .cells [iv 0, .dat (sb []), iv 0, .dat nl])]
def Ek (l ds : List aq) (dp v n K i : Int) (pre : List Ty) : ab := ⟨[(12, iv i), (11, iv n), (10, .ptr (.loc 10) 0), (8, .ptr (.loc 8) 0), (0, eD), (1, .dat (.slice ds)), (2, iv dp), (3, iv v)], UO pre, fK l K, 1⟩
def Gn (l ds : List aq) (dp v n K i : Int) (pre : List Ty) : ab := ⟨[(83, bv false), (12, iv i), (11, iv n), (10, .ptr (.loc 10) 0), (8, .ptr (.loc 8) 0), (0, eD), (1, .dat (.slice ds)), (2, iv dp), (3, iv v)], UO pre, fK l K, 1⟩
theorem JR {l ds : List aq} {dp v n K K2 i : Int} {pre : List Ty} {t : Ty} (h1 : ba i n = true) (h2 : dE l ds (aG .i64 (dp - 1)) v K t.enc K2) (hp : pre.length < 1000000000) {T : Exit -> aa -> Prop}
  (e : T .normal ((Ek l ds dp v n K2 (aG .i64 (i + 1)) (pre ++ [t])).aw Tryz.f48.ntmps)) :
  KD (roundOf Tryz.f48 0) T ((Ek l ds dp v n K i pre).aw Tryz.f48.ntmps) := by
 have h3 := Qb (t := t) hp
 clear hp
 rcases pre with _ | ⟨d, r⟩ <;>
 ·refine az [83] [95] (H := QY) (live := dz) (by kernel_rfl) ?_; refine ob h1 ?_; refine oh h2 ?_
  obtain ⟨v0, v1, v2, v3⟩ := t
  refine oo h3 ?_; exact oe e
theorem Oc {l ds : List aq} {dp v n K i : Int} {pre : List Ty} (h1 : ba i n = false) {T : Exit -> aa -> Prop}
  (e : T (.exit 1) ((Gn l ds dp v n K i pre).aw Tryz.f48.ntmps)) :
  KD (roundOf Tryz.f48 0) T ((Ek l ds dp v n K i pre).aw Tryz.f48.ntmps) := by
 rcases pre with _ | ⟨d, r⟩ <;>
 ·refine az [83] [] (H := QY) (live := dz) (by kernel_rfl) ?_; refine ob h1 ?_; exact oe e
theorem Ec {l ds : List aq} {k k2 k3 k4 v dp n ie : Int} {ts : List Ty} (h1 : bC l k 14 10 k2) (h2 : ba 0 dp = true) (h4 : bC l k2 4 n k3)
  (hl : KD (.loop (roundOf Tryz.f48 0)) (fun e s => e = .exit 1 /\ s = (Gn l ds dp v n k4 ie ts).aw Tryz.f48.ntmps) ((Ek l ds dp v n k3 0 []).aw Tryz.f48.ntmps)) : dE l ds dp v k (Ty.mk 3 [] 0 ts).enc k4 := by
 rcases ts with _ | ⟨x, ea⟩ <;>
 ·refine co [17] [] (x := .of Tryz.f48 eU dz) ?_; refine oh h1 ?_; refine ox h2 ?_; refine oh h4 ?_; refine lo hl ?_; rintro ex s ⟨rfl, rfl⟩; refine ⟨_, rfl, ?_⟩; exact fi
theorem Eb {l ds : List aq} {k k2 k3 k4 v dp n ie : Int} {ts : List Ty} (h1 : bC l k 14 11 k2) (h2 : ba 0 dp = true) (h4 : bC l k2 4 n k3)
  (hl : KD (.loop (roundOf Tryz.f48 0)) (fun e s => e = .exit 1 /\ s = (Gn l ds dp v n k4 ie ts).aw Tryz.f48.ntmps) ((Ek l ds dp v n k3 0 []).aw Tryz.f48.ntmps)) : dE l ds dp v k (Ty.mk 3 [] 0 ts).enc k4 := by
 rcases ts with _ | ⟨x, ea⟩ <;>
 ·refine co [17] [] (x := .of Tryz.f48 eU dz) ?_; refine oh h1 ?_; refine ox h2 ?_; refine oh h4 ?_; refine lo hl ?_; rintro ex s ⟨rfl, rfl⟩; refine ⟨_, rfl, ?_⟩; exact fi
theorem JZ {l ds : List aq} {k k2 k3 k4 v dp : Int} {u : Ty} (h1 : bC l k 14 12 k2) (h2 : ba 0 dp = true) (h4 : bC l k2 2 0 k3) (h5 : dE l ds (aG .i64 (dp - 1)) (aG .i64 (v + 1)) k3 u.enc k4) : dE l ds dp v k (Ty.mk 6 [] 0 [.mk 0 [] 0 [], u]).enc k4 := by
 have h6 := xt
 have h7 := nD (.mk 0 [] 0 []) u
 obtain ⟨uk, un, ui, ua⟩ := u
 rcases ua with _ | ⟨y, ua⟩ <;>
 ·refine co [17] [] (x := .of Tryz.f48 eU dz) ?_; refine oh h1 ?_; refine ox h2 ?_; refine on h6 ?_; refine oh h4 ?_; refine oh h5 ?_; refine on h7 ?_; exact fi
theorem JY {l ds : List aq} {k k2 k3 k4 k5 v dp : Int} {t u : Ty} (h1 : bC l k 14 12 k2) (h2 : ba 0 dp = true) (h3 : bC l k2 2 1 k3) (h4 : dE l ds 1 0 k3 t.enc k4) (h5 : dE l ds (aG .i64 (dp - 1)) (aG .i64 (v + 1)) k4 u.enc k5) : dE l ds dp v k (Ty.mk 6 [] 0 [t, u]).enc k5 := by
 have h6 := xt
 have h7 := nD t u
 obtain ⟨ek, en, ei, ea⟩ := t
 obtain ⟨uk, un, ui, ua⟩ := u
 rcases ea with _ | ⟨x, ea⟩ <;>
 ·rcases ua with _ | ⟨y, ua⟩ <;>
  ·refine co [17] [] (x := .of Tryz.f48 eU dz) ?_; refine oh h1 ?_; refine ox h2 ?_; refine on h6 ?_; refine oh h3 ?_; refine oh h4 ?_; refine oh h5 ?_; refine on h7 ?_; exact fi
theorem Ed {l ds : List aq} {k k2 k3 v dp : Int} (h1 : bC l k 14 13 k2) (h2 : ba 0 dp = true) (h4 : bC l k2 4 0 k3) : dE l ds dp v k (Ty.mk 1 [] 0 []).enc k3 := by
 have h6 := Py
 refine co [17] [] (x := .of Tryz.f48 eU dz) ?_; refine oh h1 ?_; refine ox h2 ?_; refine oh h4 ?_; refine on h6 ?_; exact fi
def F5 : Ty := .mk 6 [] 0 [.mk 0 [] 0 [], .mk 2 [66, 111, 120] 0 [.mk 5 [] 0 []]]
theorem HT {l ds : List aq} {k k2 k3 v dp : Int} (h1 : bC l k 14 13 k2) (h2 : ba 0 dp = true) (h4 : bC l k2 4 1 k3) : dE l ds dp v k F5.enc k3 := by
 have h5 := xt
 have h6 := zB 0
 have h7 := xr [66, 111, 120] (Ty.mk 5 [] 0 []).enc []
 have h8 := nD (.mk 0 [] 0 []) (.mk 2 [66, 111, 120] 0 [.mk 5 [] 0 []])
 refine co [17] [] (x := .of Tryz.f48 eU dz) ?_; refine oh h1 ?_; refine ox h2 ?_; refine oh h4 ?_; refine on h5 ?_; refine on h6 ?_; refine on h7 ?_; refine on h8 ?_; exact fi
theorem HS {l ds : List aq} {k k2 k3 v dp : Int} (h1 : bC l k 14 13 k2) (h2 : ba 0 dp = true) (h4 : bC l k2 4 2 k3) : dE l ds dp v k F5.enc k3 := by
 have h5 := xt
 have h6 := zB 0
 have h7 := xr [66, 111, 120] (Ty.mk 5 [] 0 []).enc []
 have h8 := nD (.mk 0 [] 0 []) (.mk 2 [66, 111, 120] 0 [.mk 5 [] 0 []])
 refine co [17] [] (x := .of Tryz.f48 eU dz) ?_; refine oh h1 ?_; refine ox h2 ?_; refine oh h4 ?_; refine on h5 ?_; refine on h6 ?_; refine on h7 ?_; refine on h8 ?_; exact fi
theorem HR {l ds : List aq} {k k2 k3 v dp : Int} (h1 : bC l k 14 13 k2) (h2 : ba 0 dp = true) (h4 : bC l k2 4 3 k3) : dE l ds dp v k F5.enc k3 := by
 have h5 := xt
 have h6 := zB 0
 have h7 := xr [66, 111, 120] (Ty.mk 5 [] 0 []).enc []
 have h8 := nD (.mk 0 [] 0 []) (.mk 2 [66, 111, 120] 0 [.mk 5 [] 0 []])
 refine co [17] [] (x := .of Tryz.f48 eU dz) ?_; refine oh h1 ?_; refine ox h2 ?_; refine oh h4 ?_; refine on h5 ?_; refine on h6 ?_; refine on h7 ?_; refine on h8 ?_; exact fi
mutual
/-- Each named term in it has a name and a number of arguments that P allows. -/
def Ty.from (P : List UInt8 -> Nat -> Prop) : Ty -> Prop
 | .mk k nm _ args => (k = 2 -> P nm args.length) /\ jJ P args
def jJ (P : List UInt8 -> Nat -> Prop) : List Ty -> Prop
 | [] => True
 | t :: r => t.from P /\ jJ P r
end
theorem De {P : List UInt8 -> Nat -> Prop} : ∀ {l : List Ty}, (∀ t ∈ l, t.from P) -> jJ P l
 | [], _ => trivial
 | t :: r, h => ⟨h t (by simp), De (fun x hx => h x (by simp [hx]))⟩
theorem C1 : ∀ {l : List Ty}, (∀ t ∈ l, t.eI) -> di l
 | [], _ => by simp [di]
 | t :: r, h => by simp only [di]; exact ⟨h t (by simp), C1 (fun x hx => h x (by simp [hx]))⟩
/-- What the generator makes between two places of the stream. -/
structure GT (P : List UInt8 -> Nat -> Prop) (N : Nat) (t : Ty) (k k2 : Nat) : Prop where
 size : t.size + 4 * k <= 4 * k2 + 1
 ix : t.eI
 frm : t.from P
 le : k <= k2
 top : k2 <= N
def GR (l : List Int) (P : List UInt8 -> Nat -> Prop) (g : FuncId) (args : List ac) (k : Nat) : Prop := ∃ t k2, GT P l.length t k k2 /\ KC g args (fK (l.map iN) (Int.ofNat k)) 1 (XQ ⟨.dat t.enc, fK (l.map iN) (Int.ofNat k2), 1⟩)
theorem Br {l : List Int} {P : List UInt8 -> Nat -> Prop} {g : FuncId} {args : List ac} {k : Nat} (hk : k <= l.length) (h : ∀ k', k <= k' -> k' <= l.length -> GR l P g args k') : ∀ n : Nat, ∃ (ts : List Ty) (ks : Nat -> Nat), ts.length = n /\ ks 0 = k /\ k <= ks n /\ ks n <= l.length /\ aR ts + 4 * k <= 4 * ks n + n /\ di ts /\ jJ P ts ∧
  ∀ i t, ts[i]? = some t -> KC g args (fK (l.map iN) (Int.ofNat (ks i))) 1 (XQ ⟨.dat t.enc, fK (l.map iN) (Int.ofNat (ks (i + 1))), 1⟩)
 | 0 => ⟨[], fun _ => k, rfl, rfl, Nat.le_refl _, hk, by simp [aR], by simp [di], trivial, fun i t h => by simp at h⟩
 | n + 1 => by
  obtain ⟨ts, ks, h1, h2, h3, h4, h5, h6, h7, h8⟩ := Br hk h n
  obtain ⟨t, k2, ht, hc⟩ := h (ks n) h3 h4
  have hsz : aR (ts ++ [t]) = aR ts + t.size := by
   have := jC (l := ts ++ [t]) (i := n) (t := t) (by rw [← h1]; simp)
   rw [show (ts ++ [t]).take (n + 1) = ts ++ [t] from List.take_of_length_le (by simp; omega), show (ts ++ [t]).take n = ts by rw [← h1]; simp] at this
   exact this
  have hmem : ∀ {Q : Ty -> Prop}, (∀ x ∈ ts, Q x) -> Q t -> ∀ x ∈ ts ++ [t], Q x := by
   intro Q ha hb x hx
   rcases List.mem_append.1 hx with hx | hx
   ·exact ha x hx
   simp at hx; rw [hx]; exact hb
  have hto1 : ∀ {l : List Ty}, di l -> ∀ x ∈ l, x.eI := by
   intro l
   induction l with
   | nil => intro _ x hx; simp at hx
   | cons a r ih => intro h x hx; simp only [di] at h; rcases List.mem_cons.1 hx with rfl | hx; exact h.1; exact ih h.2 x hx
  have hto2 : ∀ {l : List Ty}, jJ P l -> ∀ x ∈ l, x.from P := by
   intro l
   induction l with
   | nil => intro _ x hx; simp at hx
   | cons a r ih => intro h x hx; simp only [jJ] at h; rcases List.mem_cons.1 hx with rfl | hx; exact h.1; exact ih h.2 x hx
  refine ⟨ts ++ [t], fun i => if i <= n then ks i else k2, by simp [h1], by simp [h2], ?_, ?_, ?_, C1 (hmem (hto1 h6) ht.ix), De (hmem (hto2 h7) ht.frm), ?_⟩
  ·have := ht.le; dsimp only; rw [if_neg (by omega : ¬ n + 1 <= n)]; omega
  ·have := ht.top; dsimp only; rw [if_neg (by omega : ¬ n + 1 <= n)]; omega
  ·have := ht.size; dsimp only; rw [if_neg (by omega : ¬ n + 1 <= n), hsz]; omega
  intro i u hu
  by_cases hi : i < n
  ·rw [List.getElem?_append_left (by omega)] at hu
   dsimp only
   rw [if_pos (by omega : i <= n), if_pos (by omega : i + 1 <= n)]
   exact h8 i u hu
  have hin : i = n := by
   have := (List.getElem?_eq_some_iff.1 hu).1
   simp at this; omega
  subst hin
  rw [List.getElem?_append_right (by omega), h1, Nat.sub_self] at hu
  simp at hu; subst hu
  dsimp only
  rw [if_pos (Nat.le_refl _), if_neg (by omega : ¬ i + 1 <= i)]
  exact hc
theorem fu {a b : Nat} (h : a < b) : ba (Int.ofNat a) (Int.ofNat b) = true := by rw [fZ, decide_eq_true h]
theorem ik {a b : Nat} (h : ¬ a < b) : ba (Int.ofNat a) (Int.ofNat b) = false := by rw [fZ, decide_eq_false h]
theorem EA {dp : Int} (h : 0 < dp) : ba 0 dp = true := by rw [gd, decide_eq_true h]
theorem LU {dp : Int} (h : ¬ 0 < dp) : ba 0 dp = false := by rw [gd, decide_eq_false h]
theorem kZ {dp : Int} (h1 : 0 <= dp) (h2 : dp <= 100) : aG .i64 (dp - 1) = dp - 1 := by rw [dx, wrap_i64 (by omega) (by omega)]
theorem Pg (i : Nat) (h : i < 4) : ∃ b, fQ[i]? = some b /\ b ∈ fQ := ⟨fQ[i], List.getElem?_eq_getElem h, List.getElem_mem h⟩
theorem xg {i : Nat} (h : i < 4) : ∃ b, b ∈ fQ /\ aC (env ap.aK) 60 [.dat (.slice (iP fQ)), .dat (.flat (.int .i64 (Int.ofNat i)))] = some ⟨.ref [sb b], .keep⟩ := by
 obtain ⟨b, hb, hm⟩ := Pg i h
 exact ⟨b, hm, UU hb⟩
theorem mc {P : List UInt8 -> Nat -> Prop} {N k k2 : Nat} {b : List UInt8} (hP : P b 0) (h1 : k <= k2) (h2 : k2 <= N) : GT P N (.mk 2 b 0 []) k k2 :=
 ⟨by simp [Ty.size, aR]; omega, by simp [Ty.eI, di, bj], by simp [Ty.from, jJ]; exact hP, h1, h2⟩
theorem xp {P : List UInt8 -> Nat -> Prop} {N k k2 i : Nat} (hi : i < 500000000) (h1 : k <= k2) (h2 : k2 <= N) : GT P N (.mk 5 [] (Int.ofNat i) []) k k2 :=
 ⟨by simp [Ty.size, aR]; omega, by simp only [Ty.eI, di]; exact ⟨fun _ => fu hi, trivial⟩, by simp [Ty.from, jJ], h1, h2⟩
section
variable {l : List Int} {ds : List bc} {P : List UInt8 -> Nat -> Prop} (hl : l.length < 10000000) (hds : ds.length < 1000) (har : ∀ d ∈ ds, ∃ n : Nat, d.ar = Int.ofNat n /\ n <= 4 /\ P d.nm n) (hP0 : ∀ b ∈ fQ, P b 0) (hPB : P [66, 111, 120] 1)
def aA (ds : List bc) (dp : Int) (v : Nat) : List ac := [eD, .dat (.slice (aJ ds)), iv dp, iv (Int.ofNat v)]
include hl hds har hP0
theorem CR {k : Nat} (hk : k <= l.length) {dp : Int} {v : Nat} (h0 : 0 <= dp) (h3 : dp <= 3) (ih : ∀ k', k < k' -> k' <= l.length -> GR l P 65 (aA ds (dp - 1) v) k') : GR l P 83 (aA ds dp v) k := by
 have hw : aG .i64 (Int.ofNat (aJ ds).length + 4) = Int.ofNat (ds.length + 4) := by
  rw [aX, dx]
  exact wrap_i64 (by simp; omega) (by simp; omega)
 obtain ⟨r, k2, ⟨hr, hk2, hk3, hk4⟩, hc⟩ := eh (n := ds.length + 4) (by omega : l.length < 1000000000) hk (by omega) (by omega)
 rw [← hw] at hc
 by_cases h4 : r < 4
 ·obtain ⟨b, hb, hi⟩ := xg h4
  exact ⟨_, k2, mc (hP0 b hb) hk2 hk3, LW hc (fu h4) hi⟩
 have hlt : r - 4 < ds.length := by omega
 have hg : ds[r - 4]? = some ds[r - 4] := List.getElem?_eq_getElem hlt
 obtain ⟨n, hn, hn4, hPn⟩ := har _ (List.getElem_mem hlt)
 have hkk := hk4 (by omega)
 obtain ⟨ts, ks, c1, c2, c3, c4, c5, c6, c7, c8⟩ := Br (g := 65) (args := aA ds (dp - 1) v) (P := P) hk3 (fun k' hk' hkl => ih k' (by omega) hkl) n
 have hi := xm hg
 have hw2 : Int.ofNat (r - 4) = aG .i64 (Int.ofNat r - 4) := by
  rw [dx, wrap_i64 (by simp; omega) (by simp; omega)]
  simp; omega
 rw [hw2] at hi
 generalize ds[r - 4] = d at *
 obtain ⟨nm, ar, ⟨kk, tn, ix, la⟩, con, fl⟩ := d
 dsimp only at hn hPn
 subst hn
 refine ⟨.mk 2 nm 0 ts, ks n, ⟨by simp only [Ty.size]; omega, by simp only [Ty.eI]; exact ⟨by simp [bj], c6⟩, by simp only [Ty.from]; exact ⟨fun _ => by rw [c1]; exact hPn, c7⟩, by omega, c4⟩, ?_⟩
 refine LX (la := an la) (lb := aH fl) (ie := Int.ofNat n) hc (ik h4) hi ?_
 rw [← c2]
 refine bG (St := fun i => (J4 (RQ (E3 (cellsD nm (Int.ofNat n) kk tn ix (an la) con (aH fl))) nm (ts.take i)) (l.map iN) (aJ ds) dp (Int.ofNat v) (Int.ofNat (ks i)) (Int.ofNat i)).aw Tryz.f83.ntmps) n ?_ ?_ (i := 0) (Nat.zero_le _)
 ·intro i hi2
  have hti : ts[i]? = some ts[i] := List.getElem?_eq_getElem (by omega)
  have hci := c8 i _ hti
  have hwp : dp - 1 = aG .i64 (dp - 1) := (kZ h0 (by omega)).symm
  unfold aA at hci
  rw [hwp] at hci
  refine LQ (fu hi2) hci (by rw [List.length_take]; omega) ?_
  rw [bi (by omega), ← ee hti]
  exact rfl
 refine OP (ik (by omega)) ⟨rfl, ?_⟩
 rw [List.take_of_length_le (by omega)]
omit hds har in
theorem NQ {k : Nat} (hk : k <= l.length) {dp : Int} {v : Nat} (h0 : -1 <= dp) (h3 : dp <= 3) (hv : v < 100) (ihn : 0 < dp -> ∀ k', k <= k' -> k' <= l.length -> GR l P 83 (aA ds dp v) k') (iht : 0 < dp -> ∀ k', k < k' -> k' <= l.length -> GR l P 48 (aA ds (dp - 1) 0) k') : GR l P 65 (aA ds dp v) k := by
 obtain ⟨r, k2, ⟨hr, hk2, hk3, hk4⟩, hc⟩ := eh (n := 6) (by omega : l.length < 1000000000) hk (by omega) (by omega)
 by_cases hv0 : r < 2 /\ 0 < v
 ·obtain ⟨i, k3, ⟨hi, hk5, hk6, hk7⟩, hc2⟩ := eh (n := v) (by omega : l.length < 1000000000) hk3 hv0.2 (by omega)
  exact ⟨_, k3, xp (by omega) (by omega) hk6, P9 hc (fu hv0.1) (fu (a := 0) hv0.2) hc2⟩
 have hcc : ba (Int.ofNat r) (Int.ofNat 2) = true -> ba (Int.ofNat 0) (Int.ofNat v) = false := by
  intro h
  rw [fZ, decide_eq_true_eq] at h
  exact ik (by omega)
 by_cases hdp : 0 < dp
 ·by_cases hr4 : r < 4
  ·obtain ⟨t, k3, ht, hct⟩ := ihn hdp k2 hk2 hk3
   refine ⟨t, k3, ⟨?_, ht.ix, ht.frm, ?_, ht.top⟩, Jw hc rfl rfl hcc (EA hdp) (fu hr4) hct⟩
   ·have := ht.size; omega
   have := ht.le; omega
  obtain ⟨t, k3, ht, hct⟩ := iht hdp k2 (hk4 (by omega)) hk3
  unfold aA at hct
  rw [← kZ (by omega : 0 <= dp) (by omega)] at hct
  refine ⟨t, k3, ⟨?_, ht.ix, ht.frm, ?_, ht.top⟩, NP hc (ik (b := 2) (by omega)) (EA hdp) (ik hr4) hct⟩
  ·have := ht.size; omega
  have := ht.le; omega
 obtain ⟨i, k3, ⟨hi, hk5, hk6, hk7⟩, hc2⟩ := eh (n := 4) (by omega : l.length < 1000000000) hk3 (by omega) (by omega)
 obtain ⟨b, hb, hix⟩ := xg hi
 exact ⟨_, k3, mc (hP0 b hb) (by omega) hk6, NR hc rfl rfl hcc (LU hdp) hc2 hix⟩
omit hds har in
include hPB in
theorem Gk {k : Nat} (hk : k <= l.length) {dp : Int} {v : Nat} (h0 : 0 <= dp) (h3 : dp <= 3) (hv : v + dp <= 10) (ihn : ∀ k', k < k' -> k' <= l.length -> GR l P 83 (aA ds dp v) k')
  (iht : ∀ k', k < k' -> k' <= l.length -> ∀ (dp : Int) (v : Nat), 0 <= dp -> dp <= 3 -> v + dp <= 10 -> GR l P 48 (aA ds dp v) k') : GR l P 48 (aA ds dp v) k := by
 obtain ⟨r, k2, ⟨hr, hk2, hk3, hk4⟩, hc⟩ := eh (n := 14) (by omega : l.length < 1000000000) hk (by omega) (by omega)
 have leaf : ∃ i k3 b, (k2 <= k3 /\ k3 <= l.length /\ P b 0) /\ bC (l.map iN) (Int.ofNat k2) 4 (Int.ofNat i) (Int.ofNat k3) /\ aC (env ap.aK) 60 [.dat (.slice (iP fQ)), .dat (.flat (.int .i64 (Int.ofNat i)))] = some ⟨.ref [sb b], .keep⟩ := by
  obtain ⟨i, k3, ⟨hi, hk5, hk6, hk7⟩, hc2⟩ := eh (n := 4) (by omega : l.length < 1000000000) hk3 (by omega) (by omega)
  obtain ⟨b, hb, hix⟩ := xg hi
  exact ⟨i, k3, b, ⟨hk5, hk6, hP0 b hb⟩, hc2, hix⟩
 have hnam : ∀ {c : Nat}, 0 < r -> ∃ t k3, GT P l.length t k k3 /\ tx (l.map iN) (aJ ds) dp (Int.ofNat v) (Int.ofNat k2) t.enc (Int.ofNat k3) := by
  intro c h
  obtain ⟨t, k3, ht, hct⟩ := ihn k2 (hk4 h) hk3
  exact ⟨t, k3, ⟨by have := ht.size; omega, ht.ix, ht.frm, by have := ht.le; omega, ht.top⟩, hct⟩
 by_cases hdp : 0 < dp
 ·have hd := EA hdp
  have sub : ∀ (k' : Nat), k < k' -> k' <= l.length -> ∃ t k3, GT P l.length t k' k3 /\ dE (l.map iN) (aJ ds) (aG .i64 (dp - 1)) (Int.ofNat v) (Int.ofNat k') t.enc (Int.ofNat k3) := by
   intro k' h1 h2
   obtain ⟨t, k3, ht, hct⟩ := iht k' h1 h2 (dp - 1) v (by omega) (by omega) (by omega)
   rw [kZ (by omega) (by omega)]
   exact ⟨t, k3, ht, hct⟩
  have hcase : r = 0 ∨ r = 1 ∨ r = 2 ∨ r = 3 ∨ r = 4 ∨ r = 5 ∨ r = 6 ∨ r = 7 ∨ r = 8 ∨ r = 9 ∨ r = 10 ∨ r = 11 ∨ r = 12 ∨ r = 13 := by omega
  have hun : 0 < r -> ∃ t u k3 k4, GT P l.length (.mk 4 [] 0 [t, u]) k k4 /\ dE (l.map iN) (aJ ds) (aG .i64 (dp - 1)) (Int.ofNat v) (Int.ofNat k2) t.enc (Int.ofNat k3) /\ dE (l.map iN) (aJ ds) (aG .i64 (dp - 1)) (Int.ofNat v) (Int.ofNat k3) u.enc (Int.ofNat k4) := by
   intro h
   have hkk := hk4 h
   obtain ⟨t, k3, ht, hct⟩ := sub k2 hkk hk3
   obtain ⟨u, k4, hu, hcu⟩ := sub k3 (by have := ht.le; omega) ht.top
   refine ⟨t, u, k3, k4, ⟨?_, ?_, ?_, ?_, hu.top⟩, hct, hcu⟩
   ·have := ht.size; have := hu.size; simp only [Ty.size, aR]; omega
   ·simp only [Ty.eI, di]; exact ⟨by simp [bj], ht.ix, hu.ix, trivial⟩
   ·simp only [Ty.from, jJ]; exact ⟨fun h => by simp at h, ht.frm, hu.frm, trivial⟩
   have := ht.le; have := hu.le; omega
  have htup : 0 < r -> ∃ n k3 ts k4, bC (l.map iN) (Int.ofNat k2) 4 n (Int.ofNat k3) /\ GT P l.length (.mk 3 [] 0 ts) k k4 /\ KD (.loop (roundOf Tryz.f48 0)) (fun e s => e = .exit 1 /\ s = (Gn (l.map iN) (aJ ds) dp (Int.ofNat v) n (Int.ofNat k4) n ts).aw Tryz.f48.ntmps) ((Ek (l.map iN) (aJ ds) dp (Int.ofNat v) n (Int.ofNat k3) 0 []).aw Tryz.f48.ntmps) := by
   intro h
   have hkk := hk4 h
   obtain ⟨n, k3, ⟨hn, hk5, hk6, hk7⟩, hc2⟩ := eh (n := 4) (by omega : l.length < 1000000000) hk3 (by omega) (by omega)
   obtain ⟨ts, ks, c1, c2, c3, c4, c5, c6, c7, c8⟩ := Br (g := 48) (args := aA ds (dp - 1) v) (P := P) hk6 (fun k' h1 h2 => iht k' (by omega) h2 (dp - 1) v (by omega) (by omega) (by omega)) n
   refine ⟨_, k3, ts, ks n, hc2, ⟨by simp only [Ty.size]; omega, by simp only [Ty.eI]; exact ⟨by simp [bj], c6⟩, by simp only [Ty.from]; exact ⟨fun h => by simp at h, c7⟩, by omega, c4⟩, ?_⟩
   rw [← c2]
   refine bG (St := fun i => (Ek (l.map iN) (aJ ds) dp (Int.ofNat v) (Int.ofNat n) (Int.ofNat (ks i)) (Int.ofNat i) (ts.take i)).aw Tryz.f48.ntmps) n ?_ ?_ (i := 0) (Nat.zero_le _)
   ·intro i hi2
    have hti : ts[i]? = some ts[i] := List.getElem?_eq_getElem (by omega)
    have hci := c8 i _ hti
    unfold aA at hci
    rw [← kZ h0 (by omega)] at hci
    refine JR (fu hi2) hci (by rw [List.length_take]; omega) ?_
    rw [bi (by omega), ← ee hti]
    exact rfl
   refine Oc (ik (by omega)) ⟨rfl, ?_⟩
   rw [List.take_of_length_le (by omega)]
  rcases hcase with rfl | rfl | rfl | rfl | rfl | rfl | rfl | rfl | rfl | rfl | rfl | rfl | rfl | rfl
  ·obtain ⟨i, k3, b, ⟨g1, g2, g3⟩, hc2, hix⟩ := leaf
   exact ⟨_, k3, mc g3 (by omega) g2, vK hc rfl hc2 hix⟩
  ·obtain ⟨i, k3, b, ⟨g1, g2, g3⟩, hc2, hix⟩ := leaf
   exact ⟨_, k3, mc g3 (by omega) g2, vJ hc rfl hc2 hix⟩
  ·exact ⟨_, k2, ⟨by simp [Ty.size, aR]; omega, by simp [Ty.eI, di, bj], by simp [Ty.from, jJ], hk2, hk3⟩, BQ hc rfl⟩
  ·by_cases hv0 : 0 < v
   ·obtain ⟨i, k3, ⟨hi, hk5, hk6, hk7⟩, hc2⟩ := eh (n := v) (by omega : l.length < 1000000000) hk3 hv0 (by omega)
    exact ⟨_, k3, xp (by omega) (by omega) hk6, yM hc rfl (fu (a := 0) hv0) hc2⟩
   obtain ⟨t, k3, ht, hct⟩ := hnam (c := 0) (by omega)
   exact ⟨t, k3, ht, yP hc rfl (ik (a := 0) hv0) hct⟩
  ·by_cases hv0 : 0 < v
   ·obtain ⟨i, k3, ⟨hi, hk5, hk6, hk7⟩, hc2⟩ := eh (n := v) (by omega : l.length < 1000000000) hk3 hv0 (by omega)
    exact ⟨_, k3, xp (by omega) (by omega) hk6, yL hc rfl (fu (a := 0) hv0) hc2⟩
   obtain ⟨t, k3, ht, hct⟩ := hnam (c := 0) (by omega)
   exact ⟨t, k3, ht, yO hc rfl (ik (a := 0) hv0) hct⟩
  ·obtain ⟨t, k3, ht, hct⟩ := hnam (c := 0) (by omega)
   exact ⟨t, k3, ht, yN hc rfl hct⟩
  ·obtain ⟨t, k3, ht, hct⟩ := hnam (c := 0) (by omega)
   exact ⟨t, k3, ht, HP hc hd hct⟩
  ·obtain ⟨t, k3, ht, hct⟩ := hnam (c := 0) (by omega)
   exact ⟨t, k3, ht, HO hc hd hct⟩
  ·obtain ⟨t, u, k3, k4, g, ht, hu⟩ := hun (by omega)
   exact ⟨_, k4, g, JX hc hd ht hu⟩
  ·obtain ⟨t, u, k3, k4, g, ht, hu⟩ := hun (by omega)
   exact ⟨_, k4, g, JW hc hd ht hu⟩
  ·obtain ⟨n, k3, ts, k4, hn, g, hlp⟩ := htup (by omega)
   exact ⟨_, k4, g, Ec hc hd hn hlp⟩
  ·obtain ⟨n, k3, ts, k4, hn, g, hlp⟩ := htup (by omega)
   exact ⟨_, k4, g, Eb hc hd hn hlp⟩
  ·have hkk := hk4 (by omega)
   obtain ⟨i, k3, ⟨hi, hk5, hk6, hk7⟩, hc2⟩ := eh (n := 2) (by omega : l.length < 1000000000) hk3 (by omega) (by omega)
   have hwv : aG .i64 (Int.ofNat v + 1) = Int.ofNat (v + 1) := bi (by omega)
   have hwp : aG .i64 (dp - 1) = dp - 1 := kZ h0 (by omega)
   by_cases hi0 : i = 0
   ·subst hi0
    obtain ⟨u, k4, hu, hcu⟩ := iht k3 (by omega) hk6 (dp - 1) (v + 1) (by omega) (by omega) (by omega)
    refine ⟨_, k4, ⟨?_, ?_, ?_, ?_, hu.top⟩, JZ hc hd hc2 (by rw [hwp, hwv]; exact hcu)⟩
    ·have := hu.size; simp only [Ty.size, aR]; omega
    ·simp only [Ty.eI, di]; exact ⟨by simp [bj], ⟨by simp [bj], trivial⟩, hu.ix, trivial⟩
    ·simp only [Ty.from, jJ]; exact ⟨fun h => by simp at h, ⟨fun h => by simp at h, trivial⟩, hu.frm, trivial⟩
    have := hu.le; omega
   have hi1 : i = 1 := by omega
   subst hi1
   obtain ⟨t, k4, ht, hct⟩ := iht k3 (by omega) hk6 1 0 (by omega) (by omega) (by omega)
   obtain ⟨u, k5, hu, hcu⟩ := iht k4 (by have := ht.le; omega) ht.top (dp - 1) (v + 1) (by omega) (by omega) (by omega)
   refine ⟨_, k5, ⟨?_, ?_, ?_, ?_, hu.top⟩, JY hc hd hc2 hct (by rw [hwp, hwv]; exact hcu)⟩
   ·have := ht.size; have := hu.size; simp only [Ty.size, aR]; omega
   ·simp only [Ty.eI, di]; exact ⟨by simp [bj], ht.ix, hu.ix, trivial⟩
   ·simp only [Ty.from, jJ]; exact ⟨fun h => by simp at h, ht.frm, hu.frm, trivial⟩
   have := ht.le; have := hu.le; omega
  have hkk := hk4 (by omega)
  obtain ⟨i, k3, ⟨hi, hk5, hk6, hk7⟩, hc2⟩ := eh (n := 4) (by omega : l.length < 1000000000) hk3 (by omega) (by omega)
  have gb : GT P l.length F5 k k3 := ⟨by simp [F5, Ty.size, aR]; omega, by simp [F5, Ty.eI, di, bj, ba], by simp [F5, Ty.from, jJ]; exact hPB, by omega, hk6⟩
  have hic : i = 0 ∨ i = 1 ∨ i = 2 ∨ i = 3 := by omega
  rcases hic with rfl | rfl | rfl | rfl
  ·exact ⟨_, k3, ⟨by simp [Ty.size, aR]; omega, by simp [Ty.eI, di, bj], by simp [Ty.from, jJ], by omega, hk6⟩, Ed hc hd hc2⟩
  ·exact ⟨_, k3, gb, HT hc hd hc2⟩
  ·exact ⟨_, k3, gb, HS hc hd hc2⟩
  exact ⟨_, k3, gb, HR hc hd hc2⟩
 have hd := LU hdp
 by_cases h5 : 5 < r
 ·obtain ⟨i, k3, b, ⟨g1, g2, g3⟩, hc2, hix⟩ := leaf
  exact ⟨_, k3, mc g3 (by omega) g2, HQ hc hd (fu (a := 5) h5) hc2 hix⟩
 have hcase : r = 0 ∨ r = 1 ∨ r = 2 ∨ r = 3 ∨ r = 4 ∨ r = 5 := by omega
 rcases hcase with rfl | rfl | rfl | rfl | rfl | rfl
 ·obtain ⟨i, k3, b, ⟨g1, g2, g3⟩, hc2, hix⟩ := leaf
  exact ⟨_, k3, mc g3 (by omega) g2, vK hc rfl hc2 hix⟩
 ·obtain ⟨i, k3, b, ⟨g1, g2, g3⟩, hc2, hix⟩ := leaf
  exact ⟨_, k3, mc g3 (by omega) g2, vJ hc rfl hc2 hix⟩
 ·exact ⟨_, k2, ⟨by simp [Ty.size, aR]; omega, by simp [Ty.eI, di, bj], by simp [Ty.from, jJ], hk2, hk3⟩, BQ hc rfl⟩
 ·by_cases hv0 : 0 < v
  ·obtain ⟨i, k3, ⟨hi, hk5, hk6, hk7⟩, hc2⟩ := eh (n := v) (by omega : l.length < 1000000000) hk3 hv0 (by omega)
   exact ⟨_, k3, xp (by omega) (by omega) hk6, yM hc rfl (fu (a := 0) hv0) hc2⟩
  obtain ⟨t, k3, ht, hct⟩ := hnam (c := 0) (by omega)
  exact ⟨t, k3, ht, yP hc rfl (ik (a := 0) hv0) hct⟩
 ·by_cases hv0 : 0 < v
  ·obtain ⟨i, k3, ⟨hi, hk5, hk6, hk7⟩, hc2⟩ := eh (n := v) (by omega : l.length < 1000000000) hk3 hv0 (by omega)
   exact ⟨_, k3, xp (by omega) (by omega) hk6, yL hc rfl (fu (a := 0) hv0) hc2⟩
  obtain ⟨t, k3, ht, hct⟩ := hnam (c := 0) (by omega)
  exact ⟨t, k3, ht, yO hc rfl (ik (a := 0) hv0) hct⟩
 obtain ⟨t, k3, ht, hct⟩ := hnam (c := 0) (by omega)
 exact ⟨t, k3, ht, yN hc rfl hct⟩
include hPB in
theorem Px : ∀ (m k : Nat), k <= l.length -> l.length - k <= m ->
  (∀ (dp : Int) (v : Nat), 0 <= dp -> dp <= 3 -> v + dp <= 10 -> GR l P 83 (aA ds dp v) k) /\ (∀ (dp : Int) (v : Nat), -1 <= dp -> dp <= 3 -> v + dp <= 10 -> GR l P 65 (aA ds dp v) k) /\ (∀ (dp : Int) (v : Nat), 0 <= dp -> dp <= 3 -> v + dp <= 10 -> GR l P 48 (aA ds dp v) k) := by
 intro m
 induction m with
 | zero =>
  intro k hk hm
  have hn : ∀ (dp : Int) (v : Nat), 0 <= dp -> dp <= 3 -> v + dp <= 10 -> GR l P 83 (aA ds dp v) k := fun dp v h0 h3 hv => CR hl hds har hP0 hk h0 h3 (fun k' h1 h2 => by omega)
  refine ⟨hn, ?_, ?_⟩
  ·intro dp v h0 h3 hv
   refine NQ hl hP0 hk h0 h3 (by omega) (fun hp k' h1 h2 => ?_) (fun hp k' h1 h2 => by omega)
   have : k' = k := by omega
   subst this
   exact hn dp v (by omega) h3 hv
  intro dp v h0 h3 hv
  exact Gk hl hP0 hPB hk h0 h3 hv (fun k' h1 h2 => by omega) (fun k' h1 h2 => by omega)
 | succ m ih =>
  intro k hk hm
  have hn : ∀ (dp : Int) (v : Nat), 0 <= dp -> dp <= 3 -> v + dp <= 10 -> GR l P 83 (aA ds dp v) k := fun dp v h0 h3 hv => CR hl hds har hP0 hk h0 h3 (fun k' h1 h2 => (ih k' h2 (by omega)).2.1 _ _ (by omega) (by omega) (by omega))
  refine ⟨hn, ?_, ?_⟩
  ·intro dp v h0 h3 hv
   refine NQ hl hP0 hk h0 h3 (by omega) (fun hp k' h1 h2 => ?_) (fun hp k' h1 h2 => (ih k' h2 (by omega)).2.2 _ _ (by omega) (by omega) (by omega))
   by_cases hkk : k' = k
   ·subst hkk
    exact hn dp v (by omega) h3 hv
   exact (ih k' h2 (by omega)).1 _ _ (by omega) h3 hv
  intro dp v h0 h3 hv
  exact Gk hl hP0 hPB hk h0 h3 hv (fun k' h1 h2 => (ih k' h2 (by omega)).1 _ _ h0 h3 hv) (fun k' h1 h2 dp v a b c => (ih k' h2 (by omega)).2.2 _ _ a b c)
end
def gr : List bc := [⟨[66, 111, 120], 1, (.mk 0 [] 0 []), false, []⟩,
 ⟨[67, 101, 108, 108], 1, (.mk 2 [66, 111, 120] 0 [(.mk 5 [] 0 [])]), true, [⟨[105, 116, 101, 109], (.mk 5 [] 0 [])⟩]⟩,
 ⟨[73, 110, 116, 66, 111, 120], 0, (.mk 2 [66, 111, 120] 0 [(.mk 2 [73, 110, 116] 0 [])]), true, [⟨[105, 116, 101, 109], (.mk 2 [73, 110, 116] 0 [])⟩]⟩,
 ⟨[83, 104, 97, 112, 101], 0, (.mk 0 [] 0 []), false, []⟩,
 ⟨[68, 111, 116], 0, (.mk 2 [83, 104, 97, 112, 101] 0 []), true, []⟩,
 ⟨[68, 105, 115, 107], 0, (.mk 2 [83, 104, 97, 112, 101] 0 []), true, [⟨[114, 97, 100, 105, 117, 115], (.mk 2 [73, 110, 116] 0 [])⟩]⟩,
 ⟨[80, 97, 105, 114], 2, (.mk 0 [] 0 []), true, [⟨[102, 105, 114, 115, 116], (.mk 5 [] 0 [])⟩, ⟨[115, 101, 99, 111, 110, 100], (.mk 5 [] 1 [])⟩]⟩,
 ⟨[78, 101, 115, 116], 1, (.mk 2 [66, 111, 120] 0 [(.mk 2 [66, 111, 120] 0 [(.mk 5 [] 0 [])])]), true, [⟨[105, 110, 110, 101, 114], (.mk 2 [66, 111, 120] 0 [(.mk 5 [] 0 [])])⟩]⟩]
theorem Sb : ae 43 [] (.own (aJ gr)) := pf _ _ _ _ _ (by kernel_rfl)
noncomputable def MC : Hints := ⟨au, GV, ax, rowsOf ax 28⟩
def kF (l : List aq) (ds : List aq) (K n i : Int) : ab := ⟨[(6, iv i), (5, iv n), (0, eD), (1, .own ds)], [], fK l K, 1⟩
def G3 (b : List UInt8) (ar kk : Int) (tn : List UInt8) (A : ac) (con : Bool) (F : ac) : Heap := [(.loc 7, .cells [.dat (sb b), iv ar, iv kk, .dat (sb tn), iv 0, A, .dat (bl con), F])]
/-- The loop that gathers the abstract ones. -/
def Ak (lo : Heap) (l ds : List aq) (K n i j : Int) (pre : List bc) : ab := ⟨[(9, iv j), (8, yx pre), (7, .ptr (.loc 7) 0), (6, iv i), (5, iv n), (0, eD), (1, .own ds)], lo, fK l K, 1⟩
def BW (lo : Heap) (l ds : List aq) (K n i j : Int) (pre : List bc) : ab := ⟨[(35, bv false), (9, iv j), (8, yx pre), (7, .ptr (.loc 7) 0), (6, iv i), (5, iv n), (0, eD), (1, .own ds)], lo, fK l K, 1⟩
theorem MN {b : List UInt8} {ar K n i j : Int} {con : Bool} {l : List aq} {ds pre : List bc} {t : bc} (h1 : ba j (Int.ofNat (aJ ds).length) = true) (hi : aC (env ap.aK) 23 [.dat (.slice (aJ ds)), .dat (.flat (.int .i64 j))] = some ⟨.ref t.cells, .keep⟩) (hp : pre.length < 1000000000) {T : Exit -> aa -> Prop}
  (e1 : t.con = true -> T .normal ((Ak (G3 b ar 0 [] (.dat nl) con (.dat nl)) l (aJ ds) K n i (aG .i64 (j + 1)) pre).aw Tryz.f28.ntmps))
  (e2 : t.con = false -> T .normal ((Ak (G3 b ar 0 [] (.dat nl) con (.dat nl)) l (aJ ds) K n i (aG .i64 (j + 1)) (pre ++ [t])).aw Tryz.f28.ntmps)) :
  KD (roundOf Tryz.f28 1) T ((Ak (G3 b ar 0 [] (.dat nl) con (.dat nl)) l (aJ ds) K n i j pre).aw Tryz.f28.ntmps) := by
 have h3 := BC (t := t) hp
 clear hp
 generalize aJ ds = es at *
 obtain ⟨nm, ar2, ⟨kk, tn, ix, la⟩, con2, fl⟩ := t
 rcases pre with _ | ⟨d, r⟩ <;>
 ·refine az [35] [40, 47, 50] (H := MC) (live := ig) (by kernel_rfl) ?_; refine ob h1 ?_; refine oo hi ?_
  cases con2
  ·refine oo hi ?_; refine oo h3 ?_; exact oe (e2 rfl)
  exact oe (e1 rfl)
theorem PF {b : List UInt8} {ar K n i j : Int} {con : Bool} {l ds : List aq} {pre : List bc} (h1 : ba j (Int.ofNat ds.length) = false) {T : Exit -> aa -> Prop}
  (e : T (.exit 2) ((BW (G3 b ar 0 [] (.dat nl) con (.dat nl)) l ds K n i j pre).aw Tryz.f28.ntmps)) :
  KD (roundOf Tryz.f28 1) T ((Ak (G3 b ar 0 [] (.dat nl) con (.dat nl)) l ds K n i j pre).aw Tryz.f28.ntmps) := by
 rcases pre with _ | ⟨d, r⟩ <;>
 ·refine az [35] [] (H := MC) (live := ig) (by kernel_rfl) ?_; refine ob h1 ?_; exact oe e
/-- The loop of the supertype's arguments. -/
def sA (cs : List ac) (b : List UInt8) (ar : Int) (tn : List UInt8) (pre : List Ty) (con : Bool) : Heap := [(.loc 10, .cells cs), (.loc 7, .cells [.dat (sb b), iv ar, iv 2, .dat (sb tn), iv 0, OH pre, .dat (bl con), .dat nl])]
def BT (lo : Heap) (l ds : List aq) (K n i j : Int) : ab := ⟨[(11, iv j), (10, .ptr (.loc 10) 0), (7, .ptr (.loc 7) 0), (6, iv i), (5, iv n), (0, eD), (1, .own ds)], lo, fK l K, 1⟩
def BS (lo : Heap) (l ds : List aq) (K n i j : Int) : ab := ⟨[(65, bv false), (11, iv j), (10, .ptr (.loc 10) 0), (7, .ptr (.loc 7) 0), (6, iv i), (5, iv n), (0, eD), (1, .own ds)], lo, fK l K, 1⟩
abbrev TH (l ds : List aq) (dp v k : Int) (d : aq) (k2 : Int) : Prop := KC 65 [eD, .dat (.slice ds), iv dp, iv v] (fK l k) 1 (XQ ⟨.dat d, fK l k2, 1⟩)
theorem Kp {b nm tn tn2 : List UInt8} {ar ar2 kk ix K K2 n i j : Int} {con con2 : Bool} {l ds la lb : List aq} {pre : List Ty} {t : Ty} (h1 : ba j ar2 = true) (h2 : TH l ds 1 ar K t.enc K2) (hp : pre.length < 1000000000) {T : Exit -> aa -> Prop}
  (e : T .normal ((BT (sA (cellsD nm ar2 kk tn2 ix la con2 lb) b ar tn (pre ++ [t]) con) l ds K2 n i (aG .i64 (j + 1))).aw Tryz.f28.ntmps)) :
  KD (roundOf Tryz.f28 2) T ((BT (sA (cellsD nm ar2 kk tn2 ix la con2 lb) b ar tn pre con) l ds K n i j).aw Tryz.f28.ntmps) := by
 have h3 := Qb (t := t) hp
 clear hp
 rcases pre with _ | ⟨d, r⟩ <;>
 ·refine az [65] [77] (H := MC) (live := ig) (by kernel_rfl) ?_; refine ob h1 ?_; refine oh h2 ?_
  obtain ⟨v0, v1, v2, v3⟩ := t
  refine oo h3 ?_; exact oe e
theorem On {b nm tn tn2 : List UInt8} {ar ar2 kk ix K n i j : Int} {con con2 : Bool} {l ds la lb : List aq} {pre : List Ty} (h1 : ba j ar2 = false) {T : Exit -> aa -> Prop}
  (e : T (.exit 4) ((BS (sA (cellsD nm ar2 kk tn2 ix la con2 lb) b ar tn pre con) l ds K n i j).aw Tryz.f28.ntmps)) :
  KD (roundOf Tryz.f28 2) T ((BT (sA (cellsD nm ar2 kk tn2 ix la con2 lb) b ar tn pre con) l ds K n i j).aw Tryz.f28.ntmps) := by
 rcases pre with _ | ⟨d, r⟩ <;>
 ·refine az [65] [] (H := MC) (live := ig) (by kernel_rfl) ?_; refine ob h1 ?_; exact oe e
theorem Tg {l : List aq} {ds : List bc} {k k2 k3 k4 n i ar : Int} {b : List UInt8} (h1 : ba i n = true) (hS : aC (env ap.aK) 60 [.dat (.slice (iP gK)), .dat (.flat (.int .i64 i))] = some ⟨.ref [sb b], .keep⟩)
  (n1 : bC l k 3 ar k2) (n2 : bC l k2 2 0 k3) (n3 : bC l k3 3 0 k4)
  (hp : ds.length < 1000000000) {T : Exit -> aa -> Prop} (e : T .normal ((kF l (aJ (ds ++ [⟨b, ar, (.mk 0 [] 0 []), false, []⟩])) k4 n (aG .i64 (i + 1))).aw Tryz.f28.ntmps)) :
  KD (roundOf Tryz.f28 0) T ((kF l (aJ ds) k n i).aw Tryz.f28.ntmps) := by
 have h9 := BC (t := ⟨b, ar, (.mk 0 [] 0 []), false, []⟩) hp
 clear hp
 refine az [16] [21, 98] (H := MC) (live := ig) (by kernel_rfl) ?_; refine ob h1 ?_; refine oo hS ?_; refine oh n1 ?_; refine oh n2 ?_; refine oh n3 ?_; refine oo h9 ?_; exact oe e
theorem Tf {l : List aq} {ds abs : List bc} {a ah : bc} {k k2 k3 k4 k5 k6 n i ar sp ai ej ek : Int} {b : List UInt8} {ts : List Ty} (h1 : ba i n = true) (hS : aC (env ap.aK) 60 [.dat (.slice (iP gK)), .dat (.flat (.int .i64 i))] = some ⟨.ref [sb b], .keep⟩)
  (n1 : bC l k 3 ar k2) (n2 : bC l k2 2 0 k3) (n3 : bC l k3 3 sp k4) (hsp : ba 0 sp = true)
  (hl : KD (.loop (roundOf Tryz.f28 1)) (fun e s => e = .exit 2 /\ s = (BW (G3 b ar 0 [] (.dat nl) false (.dat nl)) l (aJ ds) k4 n i ej (ah :: abs)).aw Tryz.f28.ntmps) ((Ak (G3 b ar 0 [] (.dat nl) false (.dat nl)) l (aJ ds) k4 n i 0 []).aw Tryz.f28.ntmps))
  (n5 : bC l k4 (Int.ofNat (aJ (ah :: abs)).length) ai k5) (hi : aC (env ap.aK) 23 [.dat (.slice (aJ (ah :: abs))), .dat (.flat (.int .i64 ai))] = some ⟨.ref a.cells, .keep⟩)
  (hl2 : KD (.loop (roundOf Tryz.f28 2)) (fun e s => e = .exit 4 /\ s = (BS (sA (cellsD a.nm a.ar a.sup.kind a.sup.nm a.sup.IK (an a.sup.args) a.con (aH a.fl)) b ar a.nm ts false) l (aJ ds) k6 n i ek).aw Tryz.f28.ntmps) ((BT (sA (cellsD a.nm a.ar a.sup.kind a.sup.nm a.sup.IK (an a.sup.args) a.con (aH a.fl)) b ar a.nm [] false) l (aJ ds) k5 n i 0).aw Tryz.f28.ntmps))
  (hp : ds.length < 1000000000) {T : Exit -> aa -> Prop} (e : T .normal ((kF l (aJ (ds ++ [⟨b, ar, (.mk 2 a.nm 0 ts), false, []⟩])) k6 n (aG .i64 (i + 1))).aw Tryz.f28.ntmps)) :
  KD (roundOf Tryz.f28 0) T ((kF l (aJ ds) k n i).aw Tryz.f28.ntmps) := by
 have h9 := BC (t := ⟨b, ar, (.mk 2 a.nm 0 ts), false, []⟩) hp
 clear hp
 obtain ⟨anm, aar, ⟨akk, atn, aix, ala⟩, acon, afl⟩ := a
 have q1 := cC 10 anm aar akk atn aix (an ala) acon (aH afl)
 dsimp only [Ty.kind, Ty.nm, Ty.IK, Ty.args] at hi hl2 h9 e
 rcases ts with _ | ⟨z1, y1⟩ <;>
 ·refine az [16, 31] [21, 56, 100010, 98] (H := MC) (live := ig) (by kernel_rfl) ?_; refine ob h1 ?_; refine oo hS ?_; refine oh n1 ?_; refine oh n2 ?_; refine oh n3 ?_; refine ob hsp ?_; refine lo hl ?_; rintro ex s ⟨rfl, rfl⟩; refine ⟨_, rfl, ?_⟩; refine oh n5 ?_; refine oo hi ?_; refine oo q1 ?_; refine lo hl2 ?_; rintro ex s ⟨rfl, rfl⟩; refine ⟨_, rfl, ?_⟩; refine oo h9 ?_; exact oe e
theorem Te {l : List aq} {ds : List bc} {k k2 k3 k4 k7 n i ar : Int} {b : List UInt8} (h1 : ba i n = true) (hS : aC (env ap.aK) 60 [.dat (.slice (iP gK)), .dat (.flat (.int .i64 i))] = some ⟨.ref [sb b], .keep⟩)
  (n1 : bC l k 3 ar k2) (n2 : bC l k2 2 1 k3) (n3 : bC l k3 3 0 k4) (n6 : bC l k4 2 0 k7)
  (hp : ds.length < 1000000000) {T : Exit -> aa -> Prop} (e : T .normal ((kF l (aJ (ds ++ [⟨b, ar, (.mk 0 [] 0 []), true, []⟩])) k7 n (aG .i64 (i + 1))).aw Tryz.f28.ntmps)) :
  KD (roundOf Tryz.f28 0) T ((kF l (aJ ds) k n i).aw Tryz.f28.ntmps) := by
 have h9 := BC (t := ⟨b, ar, (.mk 0 [] 0 []), true, []⟩) hp
 clear hp
 refine az [16] [21, 98] (H := MC) (live := ig) (by kernel_rfl) ?_; refine ob h1 ?_; refine oo hS ?_; refine oh n1 ?_; refine oh n2 ?_; refine oh n3 ?_; refine oh n6 ?_; refine oo h9 ?_; exact oe e
theorem Td {l : List aq} {ds : List bc} {k k2 k3 k4 k7 k8 n i ar : Int} {b : List UInt8} {t : Ty} (h1 : ba i n = true) (hS : aC (env ap.aK) 60 [.dat (.slice (iP gK)), .dat (.flat (.int .i64 i))] = some ⟨.ref [sb b], .keep⟩)
  (n1 : bC l k 3 ar k2) (n2 : bC l k2 2 1 k3) (n3 : bC l k3 3 0 k4) (n6 : bC l k4 2 1 k7) (n7 : TH l (aJ ds) 1 ar k7 t.enc k8)
  (hp : ds.length < 1000000000) {T : Exit -> aa -> Prop} (e : T .normal ((kF l (aJ (ds ++ [⟨b, ar, (.mk 0 [] 0 []), true, [⟨[112, 97, 114, 116], t⟩]⟩])) k8 n (aG .i64 (i + 1))).aw Tryz.f28.ntmps)) :
  KD (roundOf Tryz.f28 0) T ((kF l (aJ ds) k n i).aw Tryz.f28.ntmps) := by
 have h9 := BC (t := ⟨b, ar, (.mk 0 [] 0 []), true, [⟨[112, 97, 114, 116], t⟩]⟩) hp
 clear hp
 obtain ⟨ek2, en, ei, ea⟩ := t
 rcases ea with _ | ⟨z1, y1⟩ <;>
 ·refine az [16] [21, 98] (H := MC) (live := ig) (by kernel_rfl) ?_; refine ob h1 ?_; refine oo hS ?_; refine oh n1 ?_; refine oh n2 ?_; refine oh n3 ?_; refine oh n6 ?_; refine oh n7 ?_; refine oo h9 ?_; exact oe e
theorem Tc {l : List aq} {ds abs : List bc} {a ah : bc} {k k2 k3 k4 k5 k6 k7 n i ar sp ai ej ek : Int} {b : List UInt8} {ts : List Ty} (h1 : ba i n = true) (hS : aC (env ap.aK) 60 [.dat (.slice (iP gK)), .dat (.flat (.int .i64 i))] = some ⟨.ref [sb b], .keep⟩)
  (n1 : bC l k 3 ar k2) (n2 : bC l k2 2 1 k3) (n3 : bC l k3 3 sp k4) (hsp : ba 0 sp = true)
  (hl : KD (.loop (roundOf Tryz.f28 1)) (fun e s => e = .exit 2 /\ s = (BW (G3 b ar 0 [] (.dat nl) true (.dat nl)) l (aJ ds) k4 n i ej (ah :: abs)).aw Tryz.f28.ntmps) ((Ak (G3 b ar 0 [] (.dat nl) true (.dat nl)) l (aJ ds) k4 n i 0 []).aw Tryz.f28.ntmps))
  (n5 : bC l k4 (Int.ofNat (aJ (ah :: abs)).length) ai k5) (hi : aC (env ap.aK) 23 [.dat (.slice (aJ (ah :: abs))), .dat (.flat (.int .i64 ai))] = some ⟨.ref a.cells, .keep⟩)
  (hl2 : KD (.loop (roundOf Tryz.f28 2)) (fun e s => e = .exit 4 /\ s = (BS (sA (cellsD a.nm a.ar a.sup.kind a.sup.nm a.sup.IK (an a.sup.args) a.con (aH a.fl)) b ar a.nm ts true) l (aJ ds) k6 n i ek).aw Tryz.f28.ntmps) ((BT (sA (cellsD a.nm a.ar a.sup.kind a.sup.nm a.sup.IK (an a.sup.args) a.con (aH a.fl)) b ar a.nm [] true) l (aJ ds) k5 n i 0).aw Tryz.f28.ntmps)) (n6 : bC l k6 2 0 k7)
  (hp : ds.length < 1000000000) {T : Exit -> aa -> Prop} (e : T .normal ((kF l (aJ (ds ++ [⟨b, ar, (.mk 2 a.nm 0 ts), true, []⟩])) k7 n (aG .i64 (i + 1))).aw Tryz.f28.ntmps)) :
  KD (roundOf Tryz.f28 0) T ((kF l (aJ ds) k n i).aw Tryz.f28.ntmps) := by
 have h9 := BC (t := ⟨b, ar, (.mk 2 a.nm 0 ts), true, []⟩) hp
 clear hp
 obtain ⟨anm, aar, ⟨akk, atn, aix, ala⟩, acon, afl⟩ := a
 have q1 := cC 10 anm aar akk atn aix (an ala) acon (aH afl)
 dsimp only [Ty.kind, Ty.nm, Ty.IK, Ty.args] at hi hl2 h9 e
 rcases ts with _ | ⟨z1, y1⟩ <;>
 ·refine az [16, 31] [21, 56, 100010, 98] (H := MC) (live := ig) (by kernel_rfl) ?_; refine ob h1 ?_; refine oo hS ?_; refine oh n1 ?_; refine oh n2 ?_; refine oh n3 ?_; refine ob hsp ?_; refine lo hl ?_; rintro ex s ⟨rfl, rfl⟩; refine ⟨_, rfl, ?_⟩; refine oh n5 ?_; refine oo hi ?_; refine oo q1 ?_; refine lo hl2 ?_; rintro ex s ⟨rfl, rfl⟩; refine ⟨_, rfl, ?_⟩; refine oh n6 ?_; refine oo h9 ?_; exact oe e
theorem Tb {l : List aq} {ds abs : List bc} {a ah : bc} {k k2 k3 k4 k5 k6 k7 k8 n i ar sp ai ej ek : Int} {b : List UInt8} {ts : List Ty} {t : Ty} (h1 : ba i n = true) (hS : aC (env ap.aK) 60 [.dat (.slice (iP gK)), .dat (.flat (.int .i64 i))] = some ⟨.ref [sb b], .keep⟩)
  (n1 : bC l k 3 ar k2) (n2 : bC l k2 2 1 k3) (n3 : bC l k3 3 sp k4) (hsp : ba 0 sp = true)
  (hl : KD (.loop (roundOf Tryz.f28 1)) (fun e s => e = .exit 2 /\ s = (BW (G3 b ar 0 [] (.dat nl) true (.dat nl)) l (aJ ds) k4 n i ej (ah :: abs)).aw Tryz.f28.ntmps) ((Ak (G3 b ar 0 [] (.dat nl) true (.dat nl)) l (aJ ds) k4 n i 0 []).aw Tryz.f28.ntmps))
  (n5 : bC l k4 (Int.ofNat (aJ (ah :: abs)).length) ai k5) (hi : aC (env ap.aK) 23 [.dat (.slice (aJ (ah :: abs))), .dat (.flat (.int .i64 ai))] = some ⟨.ref a.cells, .keep⟩)
  (hl2 : KD (.loop (roundOf Tryz.f28 2)) (fun e s => e = .exit 4 /\ s = (BS (sA (cellsD a.nm a.ar a.sup.kind a.sup.nm a.sup.IK (an a.sup.args) a.con (aH a.fl)) b ar a.nm ts true) l (aJ ds) k6 n i ek).aw Tryz.f28.ntmps) ((BT (sA (cellsD a.nm a.ar a.sup.kind a.sup.nm a.sup.IK (an a.sup.args) a.con (aH a.fl)) b ar a.nm [] true) l (aJ ds) k5 n i 0).aw Tryz.f28.ntmps)) (n6 : bC l k6 2 1 k7) (n7 : TH l (aJ ds) 1 ar k7 t.enc k8)
  (hp : ds.length < 1000000000) {T : Exit -> aa -> Prop} (e : T .normal ((kF l (aJ (ds ++ [⟨b, ar, (.mk 2 a.nm 0 ts), true, [⟨[112, 97, 114, 116], t⟩]⟩])) k8 n (aG .i64 (i + 1))).aw Tryz.f28.ntmps)) :
  KD (roundOf Tryz.f28 0) T ((kF l (aJ ds) k n i).aw Tryz.f28.ntmps) := by
 have h9 := BC (t := ⟨b, ar, (.mk 2 a.nm 0 ts), true, [⟨[112, 97, 114, 116], t⟩]⟩) hp
 clear hp
 obtain ⟨ek2, en, ei, ea⟩ := t
 obtain ⟨anm, aar, ⟨akk, atn, aix, ala⟩, acon, afl⟩ := a
 have q1 := cC 10 anm aar akk atn aix (an ala) acon (aH afl)
 dsimp only [Ty.kind, Ty.nm, Ty.IK, Ty.args] at hi hl2 h9 e
 rcases ts with _ | ⟨z2, y2⟩ <;>
 ·rcases ea with _ | ⟨z1, y1⟩ <;>
  ·refine az [16, 31] [21, 56, 100010, 98] (H := MC) (live := ig) (by kernel_rfl) ?_; refine ob h1 ?_; refine oo hS ?_; refine oh n1 ?_; refine oh n2 ?_; refine oh n3 ?_; refine ob hsp ?_; refine lo hl ?_; rintro ex s ⟨rfl, rfl⟩; refine ⟨_, rfl, ?_⟩; refine oh n5 ?_; refine oo hi ?_; refine oo q1 ?_; refine lo hl2 ?_; rintro ex s ⟨rfl, rfl⟩; refine ⟨_, rfl, ?_⟩; refine oh n6 ?_; refine oh n7 ?_; refine oo h9 ?_; exact oe e
/-- A chain of steps, each of which there is. -/
theorem Ns {α : Type} {n : Nat} {Inv : Nat -> α -> Prop} {R : Nat -> α -> α -> Prop} (a0 : α) (h0 : Inv 0 a0) (h : ∀ i a, i < n -> Inv i a -> ∃ b, R i a b /\ Inv (i + 1) b) :
  ∃ f : Nat -> α, f 0 = a0 /\ (∀ i, i <= n -> Inv i (f i)) /\ ∀ i, i < n -> R i (f i) (f (i + 1)) := by
 induction n with
 | zero =>
  refine ⟨fun _ => a0, rfl, ?_, fun i hi => absurd hi (Nat.not_lt_zero i)⟩
  intro i hi
  have : i = 0 := by omega
  subst this
  exact h0
 | succ n ih =>
  obtain ⟨f, h1, h2, h3⟩ := ih (fun i a hi => h i a (by omega))
  obtain ⟨b, hb, hi⟩ := h n (f n) (by omega) (h2 n (Nat.le_refl _))
  refine ⟨fun i => if i <= n then f i else b, by simp [h1], ?_, ?_⟩
  ·intro i hin
   dsimp only
   by_cases hi2 : i <= n
   ·rw [if_pos hi2]; exact h2 i hi2
   obtain rfl : i = n + 1 := by omega
   rw [if_neg hi2]; exact hi
  intro i hin
  dsimp only
  by_cases hi2 : i < n
  ·rw [if_pos (by omega : i <= n), if_pos (by omega : i + 1 <= n)]; exact h3 i hi2
  obtain rfl : i = n := by omega
  rw [if_pos (Nat.le_refl _), if_neg (by omega : ¬ i + 1 <= i)]; exact hb
def Fu : List (List UInt8) := gr.map bc.nm ++ gK
/-- A declaration of the generator. -/
structure Wq (d : bc) : Prop where
 cA : d.cA
 ar : ∃ n : Nat, d.ar = Int.ofNat n /\ n <= 2
 nm : d.nm ∈ Fu
 flen : d.fl.length <= 2
structure GD (ds : List bc) : Prop where
 len : ds.length <= 900
 each : ∀ d ∈ ds, Wq d
 abs : ∃ d ∈ ds, d.con = false
theorem Dk {ds : List bc} {j : Nat} {t : bc} (h : ds[j]? = some t) : (ds.take (j + 1)).filter (fun d => !d.con) = (ds.take j).filter (fun d => !d.con) ++ (if t.con then [] else [t]) := by
 rw [ee h, List.filter_append]
 cases hc : t.con <;> simp [hc]
theorem kq {l : List bc} {i : Nat} (h : i < (aJ l).length) : ∃ t, l[i]? = some t /\ t ∈ l := by
 rw [aX] at h
 exact ⟨l[i], List.getElem?_eq_getElem h, List.getElem_mem h⟩
theorem PE {b : List UInt8} {ar K n i : Int} {con : Bool} {l : List aq} {ds : List bc} (hb : ds.length < 1000000) :
  KD (.loop (roundOf Tryz.f28 1)) (fun e s => e = .exit 2 /\ s = (BW (G3 b ar 0 [] (.dat nl) con (.dat nl)) l (aJ ds) K n i (Int.ofNat ds.length) (ds.filter (fun d => !d.con))).aw Tryz.f28.ntmps)
   ((Ak (G3 b ar 0 [] (.dat nl) con (.dat nl)) l (aJ ds) K n i 0 []).aw Tryz.f28.ntmps) := by
 refine bG (St := fun j => (Ak (G3 b ar 0 [] (.dat nl) con (.dat nl)) l (aJ ds) K n i (Int.ofNat j) ((ds.take j).filter (fun d => !d.con))).aw Tryz.f28.ntmps) (aJ ds).length ?_ ?_ (i := 0) (Nat.zero_le _)
 ·intro j hj
  obtain ⟨t, ht, hm⟩ := kq hj
  have hw : aG .i64 (Int.ofNat j + 1) = Int.ofNat (j + 1) := bi (by rw [aX] at hj; omega)
  have hft := Dk ht
  refine MN (fu hj) (xm ht) (by have := List.length_filter_le (fun d : bc => !d.con) (ds.take j); rw [List.length_take] at this; omega) ?_ ?_
  ·intro hc
   rw [hw]
   rw [hc] at hft
   simp only [if_true, List.append_nil] at hft
   rw [← hft]
   exact rfl
  intro hc
  rw [hw]
  rw [hc] at hft
  simp only [if_false, Bool.false_eq_true] at hft
  rw [← hft]
  exact rfl
 refine PF (ik (by omega)) ⟨rfl, ?_⟩
 rw [aX, List.take_length]
section
variable {l : List Int} {ds : List bc} (hl : l.length < 10000000) (hd : GD ds)
include hl hd
theorem A7 {k : Nat} (hk : k <= l.length) {v : Nat} (hv : v <= 2) : GR l (fun _ _ => True) 65 (aA ds 1 v) k :=
 (Px (P := fun _ _ => True) hl (by have := hd.len; omega) (fun d hm => by obtain ⟨n, h1, h2⟩ := (hd.each d hm).ar; exact ⟨n, h1, by omega, trivial⟩) (fun _ _ => trivial) trivial (l.length - k) k hk (Nat.le_refl _)).2.1 1 v (by omega) (by omega) (by omega)
omit hd in
theorem Db {t : Ty} {k k2 : Nat} (h : GT (fun _ _ => True) l.length t k k2) : t.cA := ⟨by have := h.size; have := h.top; omega, h.ix⟩
/-- A round of Extra. -/
theorem FJ {n i k : Nat} (hk : k <= l.length) (hi : i < n) (hn : n <= 4) : ∃ d k2, Wq d /\ k2 <= l.length /\ ∀ T : Exit -> aa -> Prop, T .normal ((kF (l.map iN) (aJ (ds ++ [d])) (Int.ofNat k2) (Int.ofNat n) (Int.ofNat (i + 1))).aw Tryz.f28.ntmps) ->
  KD (roundOf Tryz.f28 0) T ((kF (l.map iN) (aJ ds) (Int.ofNat k) (Int.ofNat n) (Int.ofNat i)).aw Tryz.f28.ntmps) := by
 have hb : l.length < 1000000000 := by omega
 have hw : aG .i64 (Int.ofNat i + 1) = Int.ofNat (i + 1) := bi (by omega)
 rw [← hw]
 obtain ⟨b, hbx, hS⟩ : ∃ b, b ∈ gK /\ aC (env ap.aK) _ [.dat (.slice (iP gK)), .dat (.flat (.int .i64 (Int.ofNat i)))] = some ⟨.ref [sb b], .keep⟩ := by
  have h4 : i < gK.length := by show i < 4; omega
  exact ⟨gK[i], List.getElem_mem h4, UU (List.getElem?_eq_getElem h4)⟩
 have hbn : b ∈ Fu := List.mem_append_right _ hbx
 have h1 := fu hi
 have hp : ds.length < 1000000000 := by have := hd.len; omega
 obtain ⟨ar, k2, ⟨a1, a2, a3, _⟩, n1⟩ := eh (n := 3) hb hk (by omega) (by omega)
 obtain ⟨cc, k3, ⟨b1, b2, b3, _⟩, n2⟩ := eh (n := 2) hb a3 (by omega) (by omega)
 obtain ⟨sp, k4, ⟨c1, c2, c3, _⟩, n3⟩ := eh (n := 3) hb b3 (by omega) (by omega)
 have hcc : cc = 0 ∨ cc = 1 := by omega
 have har : ∃ n : Nat, Int.ofNat ar = Int.ofNat n /\ n <= 2 := ⟨ar, rfl, by omega⟩
 have anyF : Ty.cA (.mk 0 [] 0 []) := ⟨by simp [Ty.size, aR], by simp [Ty.eI, di, bj]⟩
 by_cases hsp : sp = 0
 ·subst hsp
  rcases hcc with rfl | rfl
  ·exact ⟨_, k4, ⟨⟨anyF, by simp, by simp⟩, har, hbn, by simp⟩, c3, fun T e => Tg h1 hS n1 n2 n3 hp e⟩
  obtain ⟨fb, k7, ⟨f1, f2, f3, _⟩, n6⟩ := eh (n := 2) hb c3 (by omega) (by omega)
  have hfb : fb = 0 ∨ fb = 1 := by omega
  rcases hfb with rfl | rfl
  ·exact ⟨_, k7, ⟨⟨anyF, by simp, by simp⟩, har, hbn, by simp⟩, f3, fun T e => Te h1 hS n1 n2 n3 n6 hp e⟩
  obtain ⟨t, k8, ht, n7⟩ := A7 hl hd f3 (v := ar) (by omega)
  have tf := Db hl ht
  exact ⟨_, k8, ⟨⟨anyF, by intro f hf; rw [List.mem_singleton.1 hf]; exact tf, by simp⟩, har, hbn, by simp⟩, ht.top, fun T e => Td h1 hS n1 n2 n3 n6 n7 hp e⟩
 have hsp2 : ba 0 (Int.ofNat sp) = true := fu (a := 0) (by omega)
 have hfl := fun con => PE (b := b) (ar := Int.ofNat ar) (K := Int.ofNat k4) (n := Int.ofNat n) (i := Int.ofNat i) (con := con) (l := l.map iN) (ds := ds) (by have := hd.len; omega)
 obtain ⟨d0, hd0, hc0⟩ := hd.abs
 have hmem : ∀ x ∈ ds.filter (fun d => !d.con), x ∈ ds := fun x hx => (List.mem_filter.1 hx).1
 have hne : d0 ∈ ds.filter (fun d => !d.con) := List.mem_filter.2 ⟨hd0, by simp [hc0]⟩
 have hle := List.length_filter_le (fun d : bc => !d.con) ds
 cases hab : ds.filter (fun d => !d.con) with
 | nil => rw [hab] at hne; simp at hne
 | cons ah abs =>
  rw [hab] at hmem hle hfl
  obtain ⟨ai, k5, ⟨d1, d2, d3, _⟩, n5⟩ := eh (n := (aJ (ah :: abs)).length) hb c3 (by simp [aJ]) (by rw [aX]; have := hd.len; omega)
  obtain ⟨a, ha, ham⟩ := kq d1
  have hi := xm ha
  obtain ⟨m, hm1, hm2⟩ := (hd.each a (hmem a ham)).ar
  have hanm := (hd.each a (hmem a ham)).nm
  obtain ⟨ts, ks, e1, e2, e3, e4, e5, e6, e7, e8⟩ := Br (g := 65) (args := aA ds 1 ar) (P := fun _ _ => True) d3 (fun k' hk' hkl => A7 hl hd hkl (by omega)) m
  have supF : Ty.cA (.mk 2 a.nm 0 ts) := ⟨by simp only [Ty.size]; omega, by simp only [Ty.eI]; exact ⟨by simp [bj], e6⟩⟩
  have hl2 : ∀ con : Bool, KD (.loop (roundOf Tryz.f28 2)) (fun e s => e = .exit 4 /\ s = (BS (sA (cellsD a.nm a.ar a.sup.kind a.sup.nm a.sup.IK (an a.sup.args) a.con (aH a.fl)) b (Int.ofNat ar) a.nm ts con) (l.map iN) (aJ ds) (Int.ofNat (ks m)) (Int.ofNat n) (Int.ofNat i) (Int.ofNat m)).aw Tryz.f28.ntmps)
    ((BT (sA (cellsD a.nm a.ar a.sup.kind a.sup.nm a.sup.IK (an a.sup.args) a.con (aH a.fl)) b (Int.ofNat ar) a.nm [] con) (l.map iN) (aJ ds) (Int.ofNat k5) (Int.ofNat n) (Int.ofNat i) 0).aw Tryz.f28.ntmps) := by
   intro con
   rw [← e2]
   refine bG (St := fun j => (BT (sA (cellsD a.nm a.ar a.sup.kind a.sup.nm a.sup.IK (an a.sup.args) a.con (aH a.fl)) b (Int.ofNat ar) a.nm (ts.take j) con) (l.map iN) (aJ ds) (Int.ofNat (ks j)) (Int.ofNat n) (Int.ofNat i) (Int.ofNat j)).aw Tryz.f28.ntmps) m ?_ ?_ (i := 0) (Nat.zero_le _)
   ·intro j hj
    have hti : ts[j]? = some ts[j] := List.getElem?_eq_getElem (by omega)
    refine Kp (by rw [hm1]; exact fu hj) (e8 j _ hti) (by rw [List.length_take]; omega) ?_
    rw [bi (by omega), ← ee hti]
    exact rfl
   refine On (by rw [hm1]; exact ik (by omega)) ⟨rfl, ?_⟩
   rw [List.take_of_length_le (by omega)]
  rcases hcc with rfl | rfl
  ·exact ⟨_, ks m, ⟨⟨supF, by simp, by simp⟩, har, hbn, by simp⟩, e4, fun T e => Tf h1 hS n1 n2 n3 hsp2 (hfl false) n5 hi (hl2 false) hp e⟩
  obtain ⟨fb, k7, ⟨f1, f2, f3, _⟩, n6⟩ := eh (n := 2) hb e4 (by omega) (by omega)
  have hfb : fb = 0 ∨ fb = 1 := by omega
  rcases hfb with rfl | rfl
  ·exact ⟨_, k7, ⟨⟨supF, by simp, by simp⟩, har, hbn, by simp⟩, f3, fun T e => Tc h1 hS n1 n2 n3 hsp2 (hfl true) n5 hi (hl2 true) n6 hp e⟩
  obtain ⟨t, k8, ht, n7⟩ := A7 hl hd f3 (v := ar) (by omega)
  have tf := Db hl ht
  exact ⟨_, k8, ⟨⟨supF, by intro f hf; rw [List.mem_singleton.1 hf]; exact tf, by simp⟩, har, hbn, by simp⟩, ht.top, fun T e => Tb h1 hS n1 n2 n3 hsp2 (hfl true) n5 hi (hl2 true) n6 n7 hp e⟩
end
def Qw (l : List aq) (ds : List aq) (K n i : Int) : ab := ⟨[(16, bv false), (6, iv i), (5, iv n), (0, eD), (1, .own ds)], [], fK l K, 1⟩
theorem PI {l ds : List aq} {k n i : Int} (h1 : ba i n = false) {T : Exit -> aa -> Prop} (e : T (.exit 0) ((Qw l ds k n i).aw Tryz.f28.ntmps)) :
  KD (roundOf Tryz.f28 0) T ((kF l ds k n i).aw Tryz.f28.ntmps) := by
 refine az [16] [] (H := MC) (live := ig) (by kernel_rfl) ?_; refine ob h1 ?_; exact oe e
theorem MS {l ds ds2 : List aq} {k k2 k3 n : Int} (h1 : bC l k 5 n k2) (hl : KD (.loop (roundOf Tryz.f28 0)) (fun e s => e = .exit 0 /\ s = (Qw l ds2 k3 n n).aw Tryz.f28.ntmps) ((kF l ds k2 n 0).aw Tryz.f28.ntmps)) :
  KC 28 [eD, .own ds] (fK l k) 1 (XQ ⟨.own ds2, fK l k3, 1⟩) := by
 refine co [] [] (x := .of Tryz.f28 GV ig) ?_; refine oh h1 ?_; refine lo hl ?_; rintro ex s ⟨rfl, rfl⟩; refine ⟨_, rfl, ?_⟩; exact fi
theorem GD.add {ds : List bc} {d : bc} (h : GD ds) (hd : Wq d) (hn : ds.length < 900) : GD (ds ++ [d]) where
 len := by simp; omega
 each := by
  intro x hx
  rcases List.mem_append.1 hx with hx | hx
  ·exact h.each x hx
  rw [List.mem_singleton.1 hx]; exact hd
 abs := by
  obtain ⟨d, h1, h2⟩ := h.abs
  exact ⟨d, List.mem_append_left _ h1, h2⟩
/-- Extra: up to four more. -/
theorem Pz {l : List Int} {ds : List bc} (hl : l.length < 10000000) (hd : GD ds) (hn : ds.length <= 800) {k : Nat} (hk : k <= l.length) :
  ∃ (m : List bc) (k2 : Nat), GD (ds ++ m) /\ m.length <= 4 /\ k2 <= l.length /\ KC 28 [eD, .own (aJ ds)] (fK (l.map iN) (Int.ofNat k)) 1 (XQ ⟨.own (aJ (ds ++ m)), fK (l.map iN) (Int.ofNat k2), 1⟩) := by
 obtain ⟨n, k2, ⟨h1, h2, h3, _⟩, hc⟩ := eh (n := 5) (by omega : l.length < 1000000000) hk (by omega) (by omega)
 obtain ⟨f, f0, fI, fR⟩ := Ns (α := List bc × Nat) (n := n) (Inv := fun i a => GD (ds ++ a.1) /\ a.1.length = i /\ a.2 <= l.length)
  (R := fun i a b => ∀ T : Exit -> aa -> Prop, T .normal ((kF (l.map iN) (aJ (ds ++ b.1)) (Int.ofNat b.2) (Int.ofNat n) (Int.ofNat (i + 1))).aw Tryz.f28.ntmps) ->
   KD (roundOf Tryz.f28 0) T ((kF (l.map iN) (aJ (ds ++ a.1)) (Int.ofNat a.2) (Int.ofNat n) (Int.ofNat i)).aw Tryz.f28.ntmps))
  ([], k2) ⟨by rw [List.append_nil]; exact hd, rfl, h3⟩ (by
   rintro i ⟨m, kk⟩ hi ⟨g1, g2, g3⟩
   obtain ⟨d, k3, hd3, hk3, hR⟩ := FJ hl g1 g3 hi (by omega)
   refine ⟨(m ++ [d], k3), ?_, ?_, by simp at g2 ⊢; omega, hk3⟩
   ·intro T hT
    rw [← List.append_assoc] at hT
    exact hR T hT
   rw [← List.append_assoc]
   refine g1.add hd3 ?_
   simp at g2 ⊢; omega)
 obtain ⟨g1, g2, g3⟩ := fI n (Nat.le_refl _)
 refine ⟨(f n).1, (f n).2, g1, by omega, g3, MS hc ?_⟩
 have e : kF (l.map iN) (aJ ds) (Int.ofNat k2) (Int.ofNat n) 0 = kF (l.map iN) (aJ (ds ++ (f 0).1)) (Int.ofNat (f 0).2) (Int.ofNat n) (Int.ofNat 0) := by rw [f0]; simp
 rw [e]
 refine bG (St := fun i => (kF (l.map iN) (aJ (ds ++ (f i).1)) (Int.ofNat (f i).2) (Int.ofNat n) (Int.ofNat i)).aw Tryz.f28.ntmps) n ?_ ?_ (i := 0) (Nat.zero_le _)
 ·intro i hi
  exact fR i hi _ rfl
 exact PI (ik (by omega)) ⟨rfl, rfl⟩
theorem NN : GD gr where
 len := by decide
 each := by
  have key : ∀ d ∈ gr, (d.sup.size < 100000000 /\ d.sup.eI) /\ (∀ f ∈ d.fl, f.ty.size < 100000000 /\ f.ty.eI) /\ d.fl.length <= 2 /\ (∃ n : Nat, d.ar = Int.ofNat n /\ n <= 2) := by
   intro d hd
   simp only [gr, List.mem_cons, List.mem_nil_iff, or_false] at hd
   rcases hd with rfl | rfl | rfl | rfl | rfl | rfl | rfl | rfl <;>
    simp [Ty.size, aR, Ty.eI, di, bj, ba]
   all_goals first | exact ⟨0, rfl, by omega⟩ | exact ⟨1, rfl, by omega⟩ | exact ⟨2, rfl, by omega⟩
  intro d hd
  obtain ⟨h1, h2, h3, h4⟩ := key d hd
  exact ⟨⟨h1, h2, by omega⟩, h4, List.mem_append_left _ (List.mem_map_of_mem hd), h3⟩
 abs := ⟨_, List.mem_cons_self, rfl⟩
theorem Nb {l ds ds2 : List aq} {k : Int} (h1 : ae 43 [] (.own ds)) (h2 : KC 15 [.dat (.slice l)] [] 0 (XQ ⟨eD, fK l 0, 1⟩)) (h3 : KC 28 [eD, .own ds] (fK l 0) 1 (XQ ⟨.own ds2, fK l k, 1⟩)) :
  ae 9 [.dat (.slice l)] (.own ds2) := by
 refine co [] [] (x := .of Tryz.f9 RJ QR) ?_; refine oh h2 ?_; refine on h1 ?_; refine oh h3 ?_; exact fi
/-- Decls: the base and up to four more. -/
theorem Hw {l : List Int} (hl : l.length < 10000000) : ∃ m : List bc, GD (gr ++ m) /\ m.length <= 4 /\ ae 9 [.dat (.slice (l.map iN))] (.own (aJ (gr ++ m))) := by
 obtain ⟨m, k2, h1, h2, h3, h4⟩ := Pz hl NN (by decide) (Nat.zero_le _)
 exact ⟨m, h1, h2, Nb Sb U2 h4⟩
def jg (j : Nat) (k : Int) (nm : List UInt8) (ix : Int) (a : aq) : Heap := [(.loc j, .cells [iv k, .dat (sb nm), iv ix, .dat a])]
def uG (lo : Heap) (i n : Int) : ab := ⟨[(4, iv i), (3, iv n), (1, .ptr (.loc 1) 0)], lo, [], 0⟩
def yT (lo : Heap) (i n : Int) : ab := ⟨[(9, bv false), (4, iv i), (3, iv n), (1, .ptr (.loc 1) 0)], lo, [], 0⟩
theorem ka {l : List Ty} {i : Nat} (h : i < (an l).length) : sl (an l) = .slice (an l) := by cases l with | nil => simp [an] at h | cons x r => rfl
noncomputable def Wv : Hints := ⟨au, Az, ax, rowsOf ax 175⟩
theorem Ks {k : Int} {nm : List UInt8} {ix n m : Int} {l : List Ty} {t : Ty} {i : Nat} (hi : i < (an l).length) (ht : l[i]? = some t) (hc : ae 175 [.dat t.enc] (iv m)) {T : Exit -> aa -> Prop}
  (e : T .normal ((uG (jg 1 k nm ix (.slice (an l))) (aG .i64 (Int.ofNat i + 1)) (aG .i64 (n + m))).aw Tryz.f175.ntmps)) :
  KD (roundOf Tryz.f175 0) T ((uG (jg 1 k nm ix (.slice (an l))) (Int.ofNat i) n).aw Tryz.f175.ntmps) := by
 have h1 := bN hi
 have h2 := jT ht
 generalize an l = es at *
 clear ht hi
 obtain ⟨k2, nm2, ix2, a2⟩ := t
 rcases a2 with _ | ⟨b, d⟩ <;>
 ·refine az [9] [16] (H := Wv) (live := qR) (by kernel_rfl) ?_; refine ob h1 ?_; refine oo h2 ?_; refine on hc ?_; exact oe e
theorem Oo {k : Int} {nm : List UInt8} {ix n : Int} {l : List aq} {T : Exit -> aa -> Prop} (e : T (.exit 0) ((yT (jg 1 k nm ix (sl l)) (Int.ofNat l.length) n).aw Tryz.f175.ntmps)) :
  KD (roundOf Tryz.f175 0) T ((uG (jg 1 k nm ix (sl l)) (Int.ofNat l.length) n).aw Tryz.f175.ntmps) := by
 have h1 := bO (i := l.length) (L := l.length) (by omega)
 rcases l with _ | ⟨x, l⟩
 ·refine az [] [] (H := Wv) (live := qR) (by kernel_rfl) ?_; exact oe e
 refine az [9] [] (H := Wv) (live := qR) (by kernel_rfl) ?_; refine ob h1 ?_; exact oe e
theorem Rz {k : Int} {nm : List UInt8} {ix n : Int} {l : List aq} (hl : KD (.loop (roundOf Tryz.f175 0)) (fun e s => e = .exit 0 /\ s = (yT (jg 1 k nm ix (sl l)) (Int.ofNat l.length) n).aw Tryz.f175.ntmps) ((uG (jg 1 k nm ix (sl l)) (Int.ofNat 0) 1).aw Tryz.f175.ntmps)) :
  ae 175 [.dat (.agg [i64 k, sb nm, i64 ix, sl l])] (iv n) := by
 rcases l with _ | ⟨x, l⟩ <;>
 ·refine co [] [] (x := .of Tryz.f175 Az qR) ?_; refine lo hl ?_; rintro ex s ⟨rfl, rfl⟩; refine ⟨_, rfl, ?_⟩; exact fi
mutual
theorem KL : ∀ t : Ty, t.size < 1000000000 -> ae 175 [.dat t.enc] (iv (Int.ofNat t.size))
 | .mk k nm ix l, h => by
  simp only [Ty.size] at h
  have ih := Gv l (by omega)
  have hlen := eg l
  refine Rz ?_
  rw [show Int.ofNat (Ty.mk k nm ix l).size = Int.ofNat (1 + aR l) by simp only [Ty.size]; rw [Nat.add_comm]]
  refine bG (St := fun i => (uG (jg 1 k nm ix (sl (an l))) (Int.ofNat i) (Int.ofNat (1 + aR (l.take i)))).aw Tryz.f175.ntmps) (an l).length ?_ ?_ (i := 0) (Nat.zero_le _)
  ·intro i hi
   obtain ⟨t, ht, hm⟩ := get_mem hi
   have hs := jC ht
   have hle := qq (l := l) (i + 1)
   have hsl := ka hi
   have e := Ks (k := k) (nm := nm) (ix := ix) (n := Int.ofNat (1 + aR (l.take i))) hi ht (ih t hm) (T := qv (fun s => s = (uG (jg 1 k nm ix (sl (an l))) (Int.ofNat (i + 1)) (Int.ofNat (1 + aR (l.take (i + 1))))).aw Tryz.f175.ntmps) (fun e s => e = .exit 0 /\ s = (yT (jg 1 k nm ix (sl (an l))) (Int.ofNat (an l).length) (Int.ofNat (1 + aR l))).aw Tryz.f175.ntmps)) (by
    rw [aE] at hi
    rw [bi (by omega), wrap_add (by omega), hs, hsl, Nat.add_assoc]
    rfl)
   rw [hsl] at e ⊢
   exact e
  refine Oo ⟨rfl, ?_⟩
  rw [aE, List.take_length]
theorem Gv : ∀ l : List Ty, aR l < 1000000000 -> ∀ t ∈ l, ae 175 [.dat t.enc] (iv (Int.ofNat t.size))
 | [], _, t, ht => by simp at ht
 | u :: r, h, t, ht => by
  simp only [aR] at h
  rcases List.mem_cons.1 ht with h1 | ht
  ·rw [h1]; exact KL u (by omega)
  exact Gv r (by omega) t ht
end
noncomputable def Wy : Hints := ⟨au, Ay, ax, rowsOf ax 176⟩
theorem KH {k : Int} {nm : List UInt8} {ix : Int} {n m : Nat} {l : List Ty} {t : Ty} {i : Nat} (hi : i < (an l).length) (ht : l[i]? = some t) (hc : ae 176 [.dat t.enc] (iv (Int.ofNat m))) {T : Exit -> aa -> Prop}
  (e : T .normal ((uG (jg 1 k nm ix (.slice (an l))) (aG .i64 (Int.ofNat i + 1)) (match ba (Int.ofNat n) (Int.ofNat m) with | true => Int.ofNat m | false => Int.ofNat n)).aw Tryz.f176.ntmps)) :
  KD (roundOf Tryz.f176 0) T ((uG (jg 1 k nm ix (.slice (an l))) (Int.ofNat i) (Int.ofNat n)).aw Tryz.f176.ntmps) := by
 have h1 := bN hi
 have h2 := jT ht
 generalize an l = es at *
 clear ht hi
 obtain ⟨k2, nm2, ix2, a2⟩ := t
 rcases a2 with _ | ⟨b, d⟩ <;>
 ·refine az [9] [16] (H := Wy) (live := qQ) (by kernel_rfl) ?_; refine ob h1 ?_; refine oo h2 ?_; refine on hc ?_; exact oe e
theorem OA {k : Int} {nm : List UInt8} {ix n : Int} {l : List aq} {T : Exit -> aa -> Prop} (e : T (.exit 0) ((yT (jg 1 k nm ix (sl l)) (Int.ofNat l.length) n).aw Tryz.f176.ntmps)) :
  KD (roundOf Tryz.f176 0) T ((uG (jg 1 k nm ix (sl l)) (Int.ofNat l.length) n).aw Tryz.f176.ntmps) := by
 have h1 := bO (i := l.length) (L := l.length) (by omega)
 rcases l with _ | ⟨x, l⟩
 ·refine az [] [] (H := Wy) (live := qQ) (by kernel_rfl) ?_; exact oe e
 refine az [9] [] (H := Wy) (live := qQ) (by kernel_rfl) ?_; refine ob h1 ?_; exact oe e
theorem RE {k : Int} {nm : List UInt8} {ix n : Int} {l : List aq} (hl : KD (.loop (roundOf Tryz.f176 0)) (fun e s => e = .exit 0 /\ s = (yT (jg 1 k nm ix (sl l)) (Int.ofNat l.length) n).aw Tryz.f176.ntmps) ((uG (jg 1 k nm ix (sl l)) (Int.ofNat 0) 0).aw Tryz.f176.ntmps)) :
  ae 176 [.dat (.agg [i64 k, sb nm, i64 ix, sl l])] (iv (aG .i64 (n + 1))) := by
 rcases l with _ | ⟨x, l⟩ <;>
 ·refine co [] [] (x := .of Tryz.f176 Ay qQ) ?_; refine lo hl ?_; rintro ex s ⟨rfl, rfl⟩; refine ⟨_, rfl, ?_⟩; exact fi
mutual
theorem Gz : ∀ t : Ty, t.size < 1000000000 -> ae 176 [.dat t.enc] (iv (Int.ofNat t.depth))
 | .mk k nm ix l, h => by
  simp only [Ty.size] at h
  have ih := Cn l (by omega)
  have hlen := eg l
  have hdl := iQ l
  rw [show Int.ofNat (Ty.mk k nm ix l).depth = aG .i64 (Int.ofNat (cB l) + 1) by rw [bi (by omega)]; rfl]
  refine RE ?_
  refine bG (St := fun i => (uG (jg 1 k nm ix (sl (an l))) (Int.ofNat i) (Int.ofNat (cB (l.take i)))).aw Tryz.f176.ntmps) (an l).length ?_ ?_ (i := 0) (Nat.zero_le _)
  ·intro i hi
   obtain ⟨t, ht, hm⟩ := get_mem hi
   have hs := uj ht
   have hsl := ka hi
   have e := KH (k := k) (nm := nm) (ix := ix) (n := cB (l.take i)) hi ht (ih t hm) (T := qv (fun s => s = (uG (jg 1 k nm ix (sl (an l))) (Int.ofNat (i + 1)) (Int.ofNat (cB (l.take (i + 1))))).aw Tryz.f176.ntmps) (fun e s => e = .exit 0 /\ s = (yT (jg 1 k nm ix (sl (an l))) (Int.ofNat (an l).length) (Int.ofNat (cB l))).aw Tryz.f176.ntmps)) (by
    rw [aE] at hi
    rw [bi (by omega), hs, hsl]
    have e2 : (match ba (Int.ofNat (cB (l.take i))) (Int.ofNat t.depth) with | true => Int.ofNat t.depth | false => Int.ofNat (cB (l.take i))) = Int.ofNat (max (cB (l.take i)) t.depth) := by
     rw [fZ]
     by_cases hlt : cB (l.take i) < t.depth
     ·rw [decide_eq_true hlt, Nat.max_eq_right (by omega)]
     rw [decide_eq_false hlt, Nat.max_eq_left (by omega)]
    rw [e2]
    rfl)
   rw [hsl] at e ⊢
   exact e
  refine OA ⟨rfl, ?_⟩
  rw [aE, List.take_length]
theorem Cn : ∀ l : List Ty, aR l < 1000000000 -> ∀ t ∈ l, ae 176 [.dat t.enc] (iv (Int.ofNat t.depth))
 | [], _, t, ht => by simp at ht
 | u :: r, h, t, ht => by
  simp only [aR] at h
  rcases List.mem_cons.1 ht with h1 | ht
  ·rw [h1]; exact Gz u (by omega)
  exact Cn r (by omega) t ht
end
def Iu (c : Bool) : Int := match c with | true => -1 | false => 1
theorem Gx (c : Bool) : ae 96 [bv c] (iv (Iu c)) := by
 cases c <;> exact pf _ _ _ _ _ (by kernel_rfl)
noncomputable def Wz : Hints := ⟨au, tQ, ax, rowsOf ax 61⟩
def OV (k : Int) (nm : List UInt8) (ix : Int) (a : aq) (k2 : Int) (nm2 : List UInt8) (ix2 : Int) (a2 : aq) : Heap := [(.loc 3, .cells [iv k2, .dat (sb nm2), iv ix2, .dat a2]), (.loc 2, .cells [iv k, .dat (sb nm), iv ix, .dat a])]
def TK (lo : Heap) (i : Int) : ab := ⟨[(5, iv i), (3, .ptr (.loc 3) 0), (2, .ptr (.loc 2) 0)], lo, [], 0⟩
def Rm (lo : Heap) (i : Int) : ab := ⟨[(63, bv false), (5, iv i), (3, .ptr (.loc 3) 0), (2, .ptr (.loc 2) 0)], lo, [], 0⟩
def Rn (c : Int) : ab := ⟨[(4, iv c)], [], [], 0⟩
theorem KI {k : Int} {nm : List UInt8} {ix : Int} {l : List Ty} {k2 : Int} {nm2 : List UInt8} {ix2 : Int} {l2 : List Ty} {t u : Ty} {i : Nat} {c : Int} {cz : Bool} (hi : i < (an l).length) (ht : l[i]? = some t) (hu : l2[i]? = some u) (hc : ae 61 [.dat t.enc, .dat u.enc] (iv c)) (hz : bj c 0 = cz) {T : Exit -> aa -> Prop}
  (e1 : cz = true -> T .normal ((TK (OV k nm ix (.slice (an l)) k2 nm2 ix2 (.slice (an l2))) (aG .i64 (Int.ofNat i + 1))).aw Tryz.f61.ntmps)) (e2 : cz = false -> T .ret ((Rn c).aw Tryz.f61.ntmps)) :
  KD (roundOf Tryz.f61 0) T ((TK (OV k nm ix (.slice (an l)) k2 nm2 ix2 (.slice (an l2))) (Int.ofNat i)).aw Tryz.f61.ntmps) := by
 have h1 := bN hi
 have h2 := jT ht
 have h3 := jT hu
 generalize an l = es at *
 generalize an l2 = es2 at *
 clear ht hi hu
 obtain ⟨tk, tn, tix, ta⟩ := t
 obtain ⟨uk, un, uix, ua⟩ := u
 rcases ta with _ | ⟨b, d⟩ <;>
 ·rcases ua with _ | ⟨b2, d2⟩ <;>
  ·refine az [63, 78] [69, 74] (H := Wz) (live := lU) (by kernel_rfl) ?_; refine ob h1 ?_; refine oo h2 ?_; refine oo h3 ?_; refine on hc ?_; refine ox hz ?_
   cases cz
   ·exact oe (e2 rfl)
   exact oe (e1 rfl)
theorem OC {k : Int} {nm : List UInt8} {ix : Int} {l : List aq} {k2 : Int} {nm2 : List UInt8} {ix2 : Int} {a : List aq} {T : Exit -> aa -> Prop} (e : T (.exit 1) ((Rm (OV k nm ix (sl l) k2 nm2 ix2 (sl a)) (Int.ofNat l.length)).aw Tryz.f61.ntmps)) :
  KD (roundOf Tryz.f61 0) T ((TK (OV k nm ix (sl l) k2 nm2 ix2 (sl a)) (Int.ofNat l.length)).aw Tryz.f61.ntmps) := by
 have h1 := bO (i := l.length) (L := l.length) (by omega)
 rcases l with _ | ⟨x, l⟩
 ·refine az [] [] (H := Wz) (live := lU) (by kernel_rfl) ?_; exact oe e
 refine az [63] [] (H := Wz) (live := lU) (by kernel_rfl) ?_; refine ob h1 ?_; exact oe e
def Gs (c1 c2 c3 c4 c5 c6 c7 c8 : Bool) (r : Int) : Int := match c1 with | false => Iu c5 | true => match c2 with | false => Iu c6 | true => match c3 with | false => Iu c7 | true => match c4 with | false => Iu c8 | true => r
theorem RH {k : Int} {nm : List UInt8} {ix : Int} {l : List aq} {k2 : Int} {nm2 : List UInt8} {ix2 : Int} {l2 : List aq} {c1 c2 c3 c4 c5 c6 c7 c8 : Bool} {r : Int} (h1 : bj k k2 = c1) (h2 : fY nm nm2 = c2) (h3 : bj ix ix2 = c3) (h4 : bj (Int.ofNat l.length) (Int.ofNat l2.length) = c4) (h5 : ba k k2 = c5) (h6 : IC nm nm2 = c6) (h7 : ba ix ix2 = c7) (h8 : ba (Int.ofNat l.length) (Int.ofNat l2.length) = c8)
 (hl : c4 = true -> KD (.loop (roundOf Tryz.f61 0)) (fun e s => (e = .exit 1 /\ r = 0 /\ s = (Rm (OV k nm ix (sl l) k2 nm2 ix2 (sl l2)) (Int.ofNat l.length)).aw Tryz.f61.ntmps) ∨ (e = .ret /\ s = (Rn r).aw Tryz.f61.ntmps)) ((TK (OV k nm ix (sl l) k2 nm2 ix2 (sl l2)) (Int.ofNat 0)).aw Tryz.f61.ntmps)) :
 ae 61 [.dat (.agg [i64 k, sb nm, i64 ix, sl l]), .dat (.agg [i64 k2, sb nm2, i64 ix2, sl l2])] (iv (Gs c1 c2 c3 c4 c5 c6 c7 c8 r)) := by
 have o1 := Gx true
 have o2 := Gx false
 rcases l with _ | ⟨x, l⟩
 ·rcases l2 with _ | ⟨y, l2⟩
  ·have z : c4 = true := h4.symm
   subst z
   have hl2 := hl rfl
   clear hl h4 h8
   refine co [12, 24, 36, 41, 29, 17] [] (x := .of Tryz.f61 tQ lU) ?_; refine ox h1 ?_
   cases c1
   ·refine ob h5 ?_
    cases c5
    ·refine on o2 ?_; exact fi
    refine on o1 ?_; exact fi
   refine ox h2 ?_
   cases c2
   ·refine ob h6 ?_
    cases c6
    ·refine on o2 ?_; exact fi
    refine on o1 ?_; exact fi
   refine ox h3 ?_
   cases c3
   ·refine ob h7 ?_
    cases c7
    ·refine on o2 ?_; exact fi
    refine on o1 ?_; exact fi
   refine lo hl2 ?_
   rintro ex s (⟨rfl, rfl, rfl⟩ | ⟨rfl, rfl⟩) <;>
   ·refine ⟨_, rfl, ?_⟩; exact fi
  have z : c4 = false := h4.symm
  have z8 : c8 = true := h8.symm
  subst z z8
  clear hl h4 h8
  refine co [12, 24, 36, 41, 29, 17] [] (x := .of Tryz.f61 tQ lU) ?_; refine ox h1 ?_
  cases c1
  ·refine ob h5 ?_
   cases c5
   ·refine on o2 ?_; exact fi
   refine on o1 ?_; exact fi
  refine ox h2 ?_
  cases c2
  ·refine ob h6 ?_
   cases c6
   ·refine on o2 ?_; exact fi
   refine on o1 ?_; exact fi
  refine ox h3 ?_
  cases c3
  ·refine ob h7 ?_
   cases c7
   ·refine on o2 ?_; exact fi
   refine on o1 ?_; exact fi
  refine on o1 ?_; exact fi
 rcases l2 with _ | ⟨y, l2⟩
 ·have z : c4 = false := h4.symm
  have z8 : c8 = false := h8.symm
  subst z z8
  clear hl h4 h8
  refine co [12, 24, 36, 41, 29, 17] [] (x := .of Tryz.f61 tQ lU) ?_; refine ox h1 ?_
  cases c1
  ·refine ob h5 ?_
   cases c5
   ·refine on o2 ?_; exact fi
   refine on o1 ?_; exact fi
  refine ox h2 ?_
  cases c2
  ·refine ob h6 ?_
   cases c6
   ·refine on o2 ?_; exact fi
   refine on o1 ?_; exact fi
  refine ox h3 ?_
  cases c3
  ·refine ob h7 ?_
   cases c7
   ·refine on o2 ?_; exact fi
   refine on o1 ?_; exact fi
  refine on o2 ?_; exact fi
 cases c4
 ·clear hl
  refine co [12, 24, 36, 50, 57, 41, 29, 17] [] (x := .of Tryz.f61 tQ lU) ?_; refine ox h1 ?_
  cases c1
  ·refine ob h5 ?_
   cases c5
   ·refine on o2 ?_; exact fi
   refine on o1 ?_; exact fi
  refine ox h2 ?_
  cases c2
  ·refine ob h6 ?_
   cases c6
   ·refine on o2 ?_; exact fi
   refine on o1 ?_; exact fi
  refine ox h3 ?_
  cases c3
  ·refine ob h7 ?_
   cases c7
   ·refine on o2 ?_; exact fi
   refine on o1 ?_; exact fi
  refine ox h4 ?_; refine ob h8 ?_
  cases c8
  ·refine on o2 ?_; exact fi
  refine on o1 ?_; exact fi
 have hl2 := hl rfl
 clear hl
 refine co [12, 24, 36, 50, 41, 29, 17] [] (x := .of Tryz.f61 tQ lU) ?_; refine ox h1 ?_
 cases c1
 ·refine ob h5 ?_
  cases c5
  ·refine on o2 ?_; exact fi
  refine on o1 ?_; exact fi
 refine ox h2 ?_
 cases c2
 ·refine ob h6 ?_
  cases c6
  ·refine on o2 ?_; exact fi
  refine on o1 ?_; exact fi
 refine ox h3 ?_
 cases c3
 ·refine ob h7 ?_
  cases c7
  ·refine on o2 ?_; exact fi
  refine on o1 ?_; exact fi
 refine ox h4 ?_; refine lo hl2 ?_
 rintro ex s (⟨rfl, rfl, rfl⟩ | ⟨rfl, rfl⟩) <;>
 ·refine ⟨_, rfl, ?_⟩; exact fi
mutual
def Et : Ty -> Ty -> Int
 | .mk k nm ix l, .mk k2 nm2 ix2 l2 => Gs (bj k k2) (fY nm nm2) (bj ix ix2) (bj (Int.ofNat (an l).length) (Int.ofNat (an l2).length)) (ba k k2) (IC nm nm2) (ba ix ix2) (ba (Int.ofNat (an l).length) (Int.ofNat (an l2).length)) (Gt l l2)
def Gt : List Ty -> List Ty -> Int
 | t :: r, u :: v => match bj (Et t u) 0 with | true => Gt r v | false => Et t u
 | _, _ => 0
end
theorem KJ {l l2 : List Ty} {i : Nat} {t u : Ty} (ht : l[i]? = some t) (hu : l2[i]? = some u) : Gt (l.drop i) (l2.drop i) = (match bj (Et t u) 0 with | true => Gt (l.drop (i + 1)) (l2.drop (i + 1)) | false => Et t u) := by rw [dv ht, dv hu, Gt]
theorem OB {k : Int} {nm : List UInt8} {ix : Int} {l : List Ty} {k2 : Int} {nm2 : List UInt8} {ix2 : Int} {l2 : List Ty} (hlen : l.length = l2.length) (hb : l.length < 1000000000) (ih : ∀ t ∈ l, ∀ u ∈ l2, ae 61 [.dat t.enc, .dat u.enc] (iv (Et t u))) :
  KD (.loop (roundOf Tryz.f61 0)) (fun e s => (e = .exit 1 /\ Gt l l2 = 0 /\ s = (Rm (OV k nm ix (sl (an l)) k2 nm2 ix2 (sl (an l2))) (Int.ofNat (an l).length)).aw Tryz.f61.ntmps) ∨ (e = .ret /\ s = (Rn (Gt l l2)).aw Tryz.f61.ntmps)) ((TK (OV k nm ix (sl (an l)) k2 nm2 ix2 (sl (an l2))) (Int.ofNat 0)).aw Tryz.f61.ntmps) := by
 refine ct (St := fun i => (TK (OV k nm ix (sl (an l)) k2 nm2 ix2 (sl (an l2))) (Int.ofNat i)).aw Tryz.f61.ntmps) (fun i => Gt l l2 = Gt (l.drop i) (l2.drop i)) (an l).length ?_ ?_ (i := 0) (Nat.zero_le _) rfl
 ·intro i hi hI
  obtain ⟨t, ht, hm⟩ := get_mem hi
  have hi2 := hi
  rw [aE] at hi2
  have hu : l2[i]? = some l2[i] := List.getElem?_eq_getElem (by omega)
  have hm2 : l2[i] ∈ l2 := List.getElem_mem _
  generalize l2[i] = u at hu hm2
  have h := ih t hm u hm2
  have hd := KJ ht hu
  rw [← hI] at hd
  have hw : aG .i64 (Int.ofNat i + 1) = Int.ofNat (i + 1) := bi (by omega)
  have hs1 := ka hi
  have hs2 : sl (an l2) = .slice (an l2) := ka (i := i) (by rw [aE]; omega)
  rw [hs1, hs2]
  generalize Et t u = c at h hd
  refine KI hi ht hu h rfl ?_ ?_
  ·intro hz
   rw [hz] at hd
   rw [hw]
   exact ⟨rfl, hd⟩
  intro hz
  rw [hz] at hd
  dsimp only at hd
  exact .inr ⟨rfl, by rw [hd]⟩
 intro hI
 refine OC (.inl ⟨rfl, ?_, rfl⟩)
 rw [hI, aE, List.drop_length]
 cases l2.drop l.length <;> rfl
mutual
theorem wG : ∀ (t u : Ty), t.thin -> ae 61 [.dat t.enc, .dat u.enc] (iv (Et t u))
 | .mk k nm ix l, .mk k2 nm2 ix2 l2, h => by
  simp only [Ty.thin] at h
  have ih := tK l h.2
  rw [Et]
  refine RH rfl rfl rfl rfl rfl rfl rfl rfl (fun he => ?_)
  rw [qa, aE, aE] at he
  exact OB (by simpa using he) h.1 (fun t ht u _ => ih t ht u)
theorem tK : ∀ l : List Ty, mR l -> ∀ t ∈ l, ∀ u, ae 61 [.dat t.enc, .dat u.enc] (iv (Et t u))
 | [], _, t, ht, _ => by simp at ht
 | x :: r, h, t, ht, u => by
  simp only [mR] at h
  rcases List.mem_cons.1 ht with h1 | ht
  ·rw [h1]; exact wG x u h.1
  exact tK r h.2 t ht u
end
theorem UD {k ix k2 ix2 r : Int} {nm nm2 : List UInt8} {l l2 : List aq} {c : Bool} (h : ae 61 [.dat (.agg [i64 k, sb nm, i64 ix, sl l]), .dat (.agg [i64 k2, sb nm2, i64 ix2, sl l2])] (iv r)) (hc : bj r 0 = c) : ae 24 [.dat (.agg [i64 k, sb nm, i64 ix, sl l]), .dat (.agg [i64 k2, sb nm2, i64 ix2, sl l2])] (bv c) := by
 rcases l with _ | ⟨x, l⟩ <;>
 ·rcases l2 with _ | ⟨y, l2⟩ <;>
  ·refine co [8] [] (x := .of Tryz.f24 Lr Mp) ?_; refine on h ?_; refine ob hc ?_
   cases c <;>
   ·exact fi
def UE (t u : Ty) : Bool := bj (Et t u) 0
theorem KO (t u : Ty) (h : t.thin) : ae 24 [.dat t.enc, .dat u.enc] (bv (UE t u)) := by
 have h1 := wG t u h
 obtain ⟨k, nm, ix, l⟩ := t
 obtain ⟨k2, nm2, ix2, l2⟩ := u
 exact UD h1 rfl
theorem OD (t u : Ty) (h : t.size < 1000000000) : ae 24 [.dat t.enc, .dat u.enc] (bv (UE t u)) := KO t u (uW t h)
/-! ### Equal terms are the same -/
theorem OL (c : Bool) : Iu c ≠ 0 := by cases c <;> decide
theorem Bk {a b : List UInt8} (h : fY a b = true) : a = b := by rw [jN] at h; simpa using h
theorem iW {a b : Int} (h : bj a b = true) : a = b := by rw [fM] at h; simpa using h
theorem Eu {c1 c2 c3 c4 c5 c6 c7 c8 : Bool} {r : Int} (h : Gs c1 c2 c3 c4 c5 c6 c7 c8 r = 0) : c1 = true /\ c2 = true /\ c3 = true /\ c4 = true /\ r = 0 := by
 cases c1 <;> cases c2 <;> cases c3 <;> cases c4 <;> simp [Gs, OL] at h ⊢ <;> exact h
mutual
theorem Ci : ∀ (t u : Ty), Et t u = 0 -> t = u
 | .mk k nm ix l, .mk k2 nm2 ix2 l2, h => by
  rw [Et] at h
  obtain ⟨h1, h2, h3, h4, h5⟩ := Eu h
  rw [iW h1, Bk h2, iW h3]
  rw [qa, aE, aE] at h4
  rw [Ck l l2 (by simpa using h4) h5]
theorem Ck : ∀ (l l2 : List Ty), l.length = l2.length -> Gt l l2 = 0 -> l = l2
 | [], [], _, _ => rfl
 | [], _ :: _, h, _ => by simp at h
 | _ :: _, [], h, _ => by simp at h
 | t :: r, u :: v, h, h2 => by
  rw [Gt] at h2
  cases hz : bj (Et t u) 0 with
  | true =>
   rw [hz] at h2
   rw [Ci t u (iW hz), Ck r v (by simpa using h) h2]
  | false =>
   rw [hz] at h2
   dsimp only at h2
   rw [h2, dq] at hz
   simp at hz
end
mutual
theorem Cj : ∀ t : Ty, Et t t = 0
 | .mk k nm ix l => by rw [Et, dq, rp, dq, dq, Cl l]; rfl
theorem Cl : ∀ l : List Ty, Gt l l = 0
 | [] => by simp [Gt]
 | t :: r => by rw [Gt, Cj t, dq, Cl r]
end
theorem Oy {t u : Ty} : UE t u = true ↔ t = u := by
 unfold UE
 constructor
 ·intro h; exact Ci t u (iW h)
 rintro rfl; rw [Cj, dq]
theorem rz (nm : List UInt8) (ar k : Int) (tn : List UInt8) (ix : Int) (la : List aq) (con : Bool) (lb : List aq) :
  Qk [.dat (eT nm ar k tn ix la con lb)] = some ⟨.undef, .new (.cells (cellsD nm ar k tn ix la con lb))⟩ := by
 rcases la with _ | ⟨x, la⟩ <;> rcases lb with _ | ⟨y, lb⟩ <;> kernel_rfl
theorem AY (t : Bool) (l : Nat) (nm : List UInt8) (ar k : Int) (tn : List UInt8) (ix : Int) (la : List aq) (con : Bool) (lb : List aq) :
  dD (env ap.aK) t 32 [.ptr (.loc l) 2] (some (.cells (cellsD nm ar k tn ix la con lb))) = some ⟨.dat (.agg [i64 k, sb tn, i64 ix, sl la]), .keep⟩ := by
 cases t <;> rcases la with _ | ⟨x, la⟩ <;> rcases lb with _ | ⟨y, lb⟩ <;> kernel_rfl
def bH (nm : List UInt8) (ar k : Int) (tn : List UInt8) (ix : Int) (a : aq) (con : Bool) (b : aq) : List ac := [.dat (sb nm), iv ar, iv k, .dat (sb tn), iv ix, .dat a, .dat (bl con), .dat b]
noncomputable def WB : Hints := ⟨au, wO, ax, rowsOf ax 37⟩
def AQ (c1 c2 : List ac) : Heap := [(.loc 3, .cells c2), (.loc 2, .cells c1)]
def HZ (lo : Heap) (i : Int) : ab := ⟨[(5, iv i), (3, .ptr (.loc 3) 0), (2, .ptr (.loc 2) 0)], lo, [], 0⟩
def Ke (lo : Heap) (i : Int) : ab := ⟨[(46, bv false), (5, iv i), (3, .ptr (.loc 3) 0), (2, .ptr (.loc 2) 0)], lo, [], 0⟩
def Kf : ab := ⟨[(4, bv false)], [], [], 0⟩
theorem Nh {nm nm2 tn tn2 : List UInt8} {ar ar2 k k2 ix ix2 : Int} {A A2 : aq} {con con2 : Bool} {l l2 : List dZ} {t u : dZ} {i : Nat} {c1 c2 : Bool} {T : Exit -> aa -> Prop} (hi : i < (aH l).length) (ht : l[i]? = some t) (hu : l2[i]? = some u) (hn : fY t.nm u.nm = c1) (hc : ae 24 [.dat t.ty.enc, .dat u.ty.enc] (bv c2))
  (e1 : (c1 && c2) = true -> T .normal ((HZ (AQ (bH nm ar k tn ix A con (.slice (aH l))) (bH nm2 ar2 k2 tn2 ix2 A2 con2 (.slice (aH l2)))) (aG .i64 (Int.ofNat i + 1))).aw Tryz.f37.ntmps)) (e2 : (c1 && c2) = false -> T .ret (Kf.aw Tryz.f37.ntmps)) :
  KD (roundOf Tryz.f37 0) T ((HZ (AQ (bH nm ar k tn ix A con (.slice (aH l))) (bH nm2 ar2 k2 tn2 ix2 A2 con2 (.slice (aH l2)))) (Int.ofNat i)).aw Tryz.f37.ntmps) := by
 have h1 := bN hi
 have h2 := xl ht
 have h3 := xl hu
 generalize aH l = es at *
 generalize aH l2 = es2 at *
 clear ht hi hu
 obtain ⟨fn, tk, tn', tix, ta⟩ := t
 obtain ⟨gn, uk, un, uix, ua⟩ := u
 rcases ta with _ | ⟨b, d⟩ <;>
 ·rcases ua with _ | ⟨b2, d2⟩ <;>
  ·refine az [46, 61] [52, 58, 66, 72] (H := WB) (live := ny) (by kernel_rfl) ?_; refine ob h1 ?_; refine oo h2 ?_; refine oo h3 ?_; refine ox hn ?_
   cases c1
   ·exact oe (e2 rfl)
   refine oo h2 ?_; refine oo h3 ?_; refine on hc ?_
   cases c2
   ·exact oe (e2 rfl)
   exact oe (e1 rfl)
theorem PU {nm nm2 tn tn2 : List UInt8} {ar ar2 k k2 ix ix2 : Int} {A A2 B : aq} {con con2 : Bool} {l : List aq} {T : Exit -> aa -> Prop}
  (e : T (.exit 0) ((Ke (AQ (bH nm ar k tn ix A con (sl l)) (bH nm2 ar2 k2 tn2 ix2 A2 con2 B)) (Int.ofNat l.length)).aw Tryz.f37.ntmps)) :
  KD (roundOf Tryz.f37 0) T ((HZ (AQ (bH nm ar k tn ix A con (sl l)) (bH nm2 ar2 k2 tn2 ix2 A2 con2 B)) (Int.ofNat l.length)).aw Tryz.f37.ntmps) := by
 have h1 := bO (i := l.length) (L := l.length) (by omega)
 rcases l with _ | ⟨x, l⟩
 ·refine az [] [] (H := WB) (live := ny) (by kernel_rfl) ?_; exact oe e
 refine az [46] [] (H := WB) (live := ny) (by kernel_rfl) ?_; refine ob h1 ?_; exact oe e
theorem Tn {nm nm2 : List UInt8} {ar ar2 k ix k2 ix2 : Int} {tn tn2 : List UInt8} {la la2 lb lb2 : List aq} {con con2 : Bool} {c1 c2 c3 c4 c5 d : Bool} (h1 : fY nm nm2 = c1) (h2 : bj ar ar2 = c2) (h3 : (con == con2) = c3) (h4 : ae 24 [.dat (.agg [i64 k, sb tn, i64 ix, sl la]), .dat (.agg [i64 k2, sb tn2, i64 ix2, sl la2])] (bv c4)) (h5 : bj (Int.ofNat lb.length) (Int.ofNat lb2.length) = c5)
  (hl : c5 = true -> KD (.loop (roundOf Tryz.f37 0)) (fun e s => (e = .exit 0 /\ d = true /\ s = (Ke (AQ (bH nm ar k tn ix (sl la) con (sl lb)) (bH nm2 ar2 k2 tn2 ix2 (sl la2) con2 (sl lb2))) (Int.ofNat lb.length)).aw Tryz.f37.ntmps) ∨ (e = .ret /\ d = false /\ s = Kf.aw Tryz.f37.ntmps)) ((HZ (AQ (bH nm ar k tn ix (sl la) con (sl lb)) (bH nm2 ar2 k2 tn2 ix2 (sl la2) con2 (sl lb2))) (Int.ofNat 0)).aw Tryz.f37.ntmps)) :
  ae 37 [.dat (eT nm ar k tn ix la con lb), .dat (eT nm2 ar2 k2 tn2 ix2 la2 con2 lb2)] (bv (c1 && (c2 && (c3 && (c4 && (c5 && d)))))) := by
 have q1 := rz nm ar k tn ix la con lb
 have q2 := rz nm2 ar2 k2 tn2 ix2 la2 con2 lb2
 have q3 := AY false 2 nm ar k tn ix la con lb
 have q4 := AY false 3 nm2 ar2 k2 tn2 ix2 la2 con2 lb2
 subst h3
 rcases lb with _ | ⟨x, lb⟩
 ·rcases lb2 with _ | ⟨y, lb2⟩
  ·have z : c5 = true := h5.symm
   subst z
   have hl2 := hl rfl
   clear hl h5
   refine co [10, 16] [2, 3, 27, 29] (x := .of Tryz.f37 wO ny) ?_; refine oo q1 ?_; refine oo q2 ?_; refine ox h1 ?_
   cases c1
   ·exact fi
   refine ox h2 ?_
   cases c2
   ·exact fi
   cases con
   ·cases con2
    ·refine oo q3 ?_; refine oo q4 ?_; refine on h4 ?_
     cases c4
     ·exact fi
     refine lo hl2 ?_
     rintro ex s (⟨rfl, rfl, rfl⟩ | ⟨rfl, rfl, rfl⟩) <;>
     ·refine ⟨_, rfl, ?_⟩; exact fi
    exact fi
   cases con2
   ·exact fi
   refine oo q3 ?_; refine oo q4 ?_; refine on h4 ?_
   cases c4
   ·exact fi
   refine lo hl2 ?_
   rintro ex s (⟨rfl, rfl, rfl⟩ | ⟨rfl, rfl, rfl⟩) <;>
   ·refine ⟨_, rfl, ?_⟩; exact fi
  have z : c5 = false := h5.symm
  subst z
  clear hl h5
  refine co [10, 16] [2, 3, 27, 29] (x := .of Tryz.f37 wO ny) ?_; refine oo q1 ?_; refine oo q2 ?_; refine ox h1 ?_
  cases c1
  ·exact fi
  refine ox h2 ?_
  cases c2
  ·exact fi
  cases con
  ·cases con2
   ·refine oo q3 ?_; refine oo q4 ?_; refine on h4 ?_
    cases c4 <;>
    ·exact fi
   exact fi
  cases con2
  ·exact fi
  refine oo q3 ?_; refine oo q4 ?_; refine on h4 ?_
  cases c4 <;>
  ·exact fi
 rcases lb2 with _ | ⟨y, lb2⟩
 ·have z : c5 = false := h5.symm
  subst z
  clear hl h5
  refine co [10, 16] [2, 3, 27, 29] (x := .of Tryz.f37 wO ny) ?_; refine oo q1 ?_; refine oo q2 ?_; refine ox h1 ?_
  cases c1
  ·exact fi
  refine ox h2 ?_
  cases c2
  ·exact fi
  cases con
  ·cases con2
   ·refine oo q3 ?_; refine oo q4 ?_; refine on h4 ?_
    cases c4 <;>
    ·exact fi
   exact fi
  cases con2
  ·exact fi
  refine oo q3 ?_; refine oo q4 ?_; refine on h4 ?_
  cases c4 <;>
  ·exact fi
 refine co [10, 16, 40] [2, 3, 27, 29] (x := .of Tryz.f37 wO ny) ?_; refine oo q1 ?_; refine oo q2 ?_; refine ox h1 ?_
 cases c1
 ·exact fi
 refine ox h2 ?_
 cases c2
 ·exact fi
 cases con
 ·cases con2
  ·refine oo q3 ?_; refine oo q4 ?_; refine on h4 ?_
   cases c4
   ·exact fi
   refine ox h5 ?_
   cases c5
   ·exact fi
   refine lo (hl rfl) ?_
   rintro ex s (⟨rfl, rfl, rfl⟩ | ⟨rfl, rfl, rfl⟩) <;>
   ·refine ⟨_, rfl, ?_⟩; exact fi
  exact fi
 cases con2
 ·exact fi
 refine oo q3 ?_; refine oo q4 ?_; refine on h4 ?_
 cases c4
 ·exact fi
 refine ox h5 ?_
 cases c5
 ·exact fi
 refine lo (hl rfl) ?_
 rintro ex s (⟨rfl, rfl, rfl⟩ | ⟨rfl, rfl, rfl⟩) <;>
 ·refine ⟨_, rfl, ?_⟩; exact fi
theorem sS (x : Int) : eL x x = 0 := by
 unfold eL
 rw [show ba x x = false by rw [gd]; simp]
theorem CX : ∀ x : List UInt8, IC x x = false
 | [] => rfl
 | c :: r => by
  unfold IC
  rw [show Nat.blt c.toNat c.toNat = false by simp [Nat.blt_eq, Bool.eq_false_iff], show Nat.beq c.toNat c.toNat = true by simp]
  exact CX r
theorem Jr (x : List UInt8) : nQ x x = 0 := by
 unfold nQ
 rw [CX, rp]
 rfl
theorem Jq {x y : List UInt8} (h : nQ x y = 0) : x = y := by
 unfold nQ at h
 cases h1 : IC x y with
 | true => rw [h1] at h; simp at h
 | false =>
  rw [h1] at h
  cases h2 : fY x y with
  | true => exact Bk h2
  | false => rw [h2] at h; simp at h
mutual
theorem zM : ∀ (t u : Ty), mr t u = 0 -> t = u
 | .mk k nm ix l, .mk k2 nm2 ix2 l2, h => by
  rw [mr] at h
  cases hz : bj (yo [eL k k2, nQ nm nm2, eL ix ix2, eL (Int.ofNat (an l).length) (Int.ofNat (an l2).length)]) 0 with
  | true =>
   rw [hz] at h
   have ho := wT (nL hz)
   have h1 := sR (ho (eL k k2) (by simp))
   have h2 := Jq (ho (nQ nm nm2) (by simp))
   have h3 := sR (ho (eL ix ix2) (by simp))
   have h4 := xo hz
   rw [h1, h2, h3, zO l l2 h4 h]
  | false =>
   rw [hz] at h
   dsimp only at h
   rw [h, dq] at hz
   simp at hz
theorem zO : ∀ (l l2 : List Ty), l.length = l2.length -> pd l l2 = 0 -> l = l2
 | [], [], _, _ => rfl
 | [], _ :: _, h, _ => by simp at h
 | _ :: _, [], h, _ => by simp at h
 | t :: r, u :: v, h, h2 => by
  rw [pd] at h2
  cases hz : bj (mr t u) 0 with
  | true =>
   rw [hz] at h2
   rw [zM t u (iW hz), zO r v (by simpa using h) h2]
  | false =>
   rw [hz] at h2
   dsimp only at h2
   rw [h2, dq] at hz
   simp at hz
end
mutual
theorem zN : ∀ t : Ty, mr t t = 0
 | .mk k nm ix l => by
  rw [mr, sS, Jr, sS, sS, zP l]
  rfl
theorem zP : ∀ l : List Ty, pd l l = 0
 | [] => by simp [pd]
 | t :: r => by rw [pd, zN t, dq, zP r]
end
theorem vw {t u : Ty} : I3 t u = true ↔ t = u := by
 unfold I3
 constructor
 ·intro h; exact zM t u (iW h)
 rintro rfl; rw [zN, dq]
theorem Oz (t u : Ty) : UE t u = I3 t u := by
 rw [Bool.eq_iff_iff, Oy, vw]
theorem wF (t u : Ty) (h : t.size < 1000000000) : ae 24 [.dat t.enc, .dat u.enc] (bv (I3 t u)) := by
 rw [← Oz]
 exact OD t u h
theorem PT {nm nm2 tn tn2 : List UInt8} {ar ar2 k k2 ix ix2 : Int} {A A2 B B2 : aq} {con con2 : Bool} {l l2 : List dZ} (ha : B = sl (aH l)) (hb : B2 = sl (aH l2)) (hlen : l.length = l2.length) (hn : l.length < 1000000000) (hf : ∀ t ∈ l, t.ty.cA) :
  KD (.loop (roundOf Tryz.f37 0)) (fun e s => (e = .exit 0 /\ qc l l2 = true /\ s = (Ke (AQ (bH nm ar k tn ix A con B) (bH nm2 ar2 k2 tn2 ix2 A2 con2 B2)) (Int.ofNat (aH l).length)).aw Tryz.f37.ntmps) ∨ (e = .ret /\ qc l l2 = false /\ s = Kf.aw Tryz.f37.ntmps))
   ((HZ (AQ (bH nm ar k tn ix A con B) (bH nm2 ar2 k2 tn2 ix2 A2 con2 B2)) (Int.ofNat 0)).aw Tryz.f37.ntmps) := by
 refine ct (St := fun i => (HZ (AQ (bH nm ar k tn ix A con B) (bH nm2 ar2 k2 tn2 ix2 A2 con2 B2)) (Int.ofNat i)).aw Tryz.f37.ntmps) (fun i => qc l l2 = qc (l.drop i) (l2.drop i)) (aH l).length ?_ ?_ (i := 0) (Nat.zero_le _) rfl
 ·intro i hi hI
  obtain ⟨t, ht, hm⟩ := jH hi
  have hi2 := hi
  rw [bw] at hi2
  have hu : l2[i]? = some l2[i] := List.getElem?_eq_getElem (by omega)
  generalize l2[i] = u at hu
  have hd := zJ ht hu
  rw [← hI] at hd
  have hw : aG .i64 (Int.ofNat i + 1) = Int.ofNat (i + 1) := bi (by omega)
  have ha2 : B = .slice (aH l) := by
   rw [ha]
   cases l with
   | nil => simp at ht
   | cons x r => rfl
  have hb2 : B2 = .slice (aH l2) := by
   rw [hb]
   cases l2 with
   | nil => simp at hu
   | cons x r => rfl
  subst ha2
  subst hb2
  refine Nh hi ht hu (c1 := fY t.nm u.nm) (c2 := I3 t.ty u.ty) rfl (wF _ _ (by have := (hf t hm).1; omega)) ?_ ?_
  ·intro hc
   rw [hw]
   refine ⟨rfl, ?_⟩
   rw [hd]
   unfold dZ.eq
   rw [hc, Bool.true_and]
  intro hc
  refine .inr ⟨rfl, ?_, rfl⟩
  rw [hd]
  unfold dZ.eq
  rw [hc, Bool.false_and]
 intro hI
 rw [ha]
 refine PU (.inl ⟨rfl, ?_, rfl⟩)
 rw [hI, bw, List.drop_length]
 cases l2.drop l.length <;> rfl
theorem Co {d o : bc} (hd : d.cA) : ae 37 [.dat d.enc, .dat o.enc] (bv (d.eq o)) := by
 have h4 := wF d.sup o.sup (by have := hd.1.1; omega)
 have hf := hd.2.1
 have hn := hd.2.2
 obtain ⟨nm, ar, ⟨k, tn, ix, la⟩, con, fl⟩ := d
 obtain ⟨nm2, ar2, ⟨k2, tn2, ix2, la2⟩, con2, fl2⟩ := o
 refine Tn rfl rfl rfl h4 rfl ?_
 intro hc
 exact PT rfl rfl (Hz rfl hc) hn hf
theorem bc.eq_iff {d o : bc} : d.eq o = true ↔ d = o := by
 have hfl : ∀ l l2 : List dZ, l.length = l2.length -> (qc l l2 = true ↔ l = l2) := by
  intro l
  induction l with
  | nil => intro l2 h; cases l2 with | nil => simp [qc] | cons x r => simp at h
  | cons x r ih =>
   intro l2 h
   cases l2 with
   | nil => simp at h
   | cons y s =>
    simp only [qc, Bool.and_eq_true, ih s (by simpa using h), dZ.eq, vw, jN, beq_iff_eq, List.cons.injEq]
    obtain ⟨a, b⟩ := x
    obtain ⟨c, d⟩ := y
    simp
 obtain ⟨nm, ar, t, con, fl⟩ := d
 obtain ⟨nm2, ar2, t2, con2, fl2⟩ := o
 simp only [bc.eq, Ti, Bool.and_eq_true, jN, fM, vw, beq_iff_eq, bw, bc.mk.injEq]
 constructor
 ·rintro ⟨h1, h2, h3, h4, h5, h6⟩
  exact ⟨h1, h2, h4, h3, (hfl _ _ (Int.ofNat.inj h5)).1 h6⟩
 rintro ⟨h1, h2, h4, h3, rfl⟩
 exact ⟨h1, h2, h3, h4, rfl, (hfl _ _ rfl).2 rfl⟩
noncomputable def UZ : Hints := ⟨au, wP, ax, rowsOf ax 192⟩
def Uo (es : List aq) (x k : Int) : ab := ⟨[(5, iv k), (0, .dat (.slice es)), (1, iv x)], [], [], 0⟩
def Rp (es : List aq) (x k : Int) : ab := ⟨[(17, bv false), (5, iv k), (0, .dat (.slice es)), (1, iv x)], [], [], 0⟩
theorem sG {es : List aq} {x y : Int} {i : Nat} {c1 c2 : Bool} (h1 : ba (Int.ofNat i) (Int.ofNat es.length) = c1) (h2 : c1 = true -> aC (env ap.aK) 22 [.dat (.slice es), .dat (.flat (.int .i64 (Int.ofNat i)))] = some ⟨.ref [iN y], .keep⟩) (h3 : ba y x = c2) {T : Exit -> aa -> Prop}
  (e1 : (c1 && c2) = true -> T .normal ((Uo es x (aG .i64 (Int.ofNat i + 1))).aw Tryz.f192.ntmps)) (e2 : (c1 && c2) = false -> T (.exit 0) ((Rp es x (Int.ofNat i)).aw Tryz.f192.ntmps)) :
  KD (roundOf Tryz.f192 0) T ((Uo es x (Int.ofNat i)).aw Tryz.f192.ntmps) := by
 refine az [9, 16] [13] (H := UZ) (live := qP) (by kernel_rfl) ?_; refine ob h1 ?_
 cases c1
 ·exact oe (e2 rfl)
 refine oo (h2 rfl) ?_; refine ob h3 ?_
 cases c2
 ·exact oe (e2 rfl)
 exact oe (e1 rfl)
theorem Ax {g : FuncId} {args : List ac} {heap : Heap} {next : Nat} {es : List aq} {h2 : Heap} {m : Nat} (h : KC g args heap next (XQ ⟨.own es, h2, m⟩)) : KC g args heap next (XQ ⟨.dat (.slice es), h2, m⟩) := by
 intro w R N cargs bsA bsH bsF ha hh hnd hnx hg hF
 refine (h w R N cargs bsA bsH bsF ha hh hnd hnx hg hF).mono ?_
 rintro e w' ⟨v, cv, h1, next', R', N', bsV, bsH', rfl, ⟨rfl, rfl, rfl⟩, hv, hh', hnd', hnx', hk, hN⟩
 refine ⟨_, cv, _, _, R', N', [], bsH', rfl, ⟨rfl, rfl, rfl⟩, bW (bZ hv).rep, hh', ?_, hnx', hk, hN⟩
 exact (List.nodup_append.1 hnd').2.1
def Ro (x k : Int) : ab := ⟨[(5, iv k), (0, .dat nl), (1, iv x)], [], [], 0⟩
def Qq (x k : Int) : ab := ⟨[(17, bv false), (5, iv k), (0, .dat nl), (1, iv x)], [], [], 0⟩
theorem Fo {x : Int} {T : Exit -> aa -> Prop} (e2 : T (.exit 0) ((Qq x (Int.ofNat 0)).aw Tryz.f192.ntmps)) :
  KD (roundOf Tryz.f192 0) T ((Ro x (Int.ofNat 0)).aw Tryz.f192.ntmps) := by
 refine az [] [] (H := UZ) (live := qP) (by kernel_rfl) ?_; exact oe e2
theorem Pp {x : Int} (a2 : bq (env ap.aK) false 22 [.own [], .dat (.slice [iN x])] none = some ⟨.own [iN x], .keep⟩) : ae 192 [.dat nl, iv x] (.own [iN x]) := by
 have hl : KD (.loop (roundOf Tryz.f192 0)) (fun e s => e = .exit 0 /\ s = (Qq x (Int.ofNat 0)).aw Tryz.f192.ntmps) ((Ro x (Int.ofNat 0)).aw Tryz.f192.ntmps) :=
  bG (St := fun _ => (Ro x (Int.ofNat 0)).aw Tryz.f192.ntmps) 0 (fun i hi => absurd hi (Nat.not_lt_zero i)) (Fo ⟨rfl, rfl⟩) (i := 0) (Nat.le_refl _)
 refine co [] [40, 44] (x := .of Tryz.f192 wP qP) ?_; refine lo hl ?_; rintro ex s ⟨rfl, rfl⟩; refine ⟨_, rfl, ?_⟩; refine oo a2 ?_; refine oo a2 ?_; exact fi
theorem Hp {e0 : aq} {es p q : List aq} {x y : Int} {i : Nat} {c1 c2 : Bool} (h1 : ba (Int.ofNat i) (Int.ofNat (e0 :: es).length) = c1) (h2 : c1 = true -> aC (env ap.aK) 22 [.dat (.slice (e0 :: es)), .dat (.flat (.int .i64 (Int.ofNat i)))] = some ⟨.ref [iN y], .keep⟩) (h3 : bj y x = c2)
  (hl : KD (.loop (roundOf Tryz.f192 0)) (fun e s => e = .exit 0 /\ s = (Rp (e0 :: es) x (Int.ofNat i)).aw Tryz.f192.ntmps) ((Uo (e0 :: es) x (Int.ofNat 0)).aw Tryz.f192.ntmps))
  (s1 : iZ (env ap.aK) 22 none (some (.tmp 35)) none [.dat (.slice (e0 :: es)), iv (Int.ofNat i)] = some ⟨.dat (.slice p), .keep⟩)
  (s2 : iZ (env ap.aK) 22 (some (.tmp 42)) none none [.dat (.slice (e0 :: es)), iv (Int.ofNat i)] = some ⟨.dat (.slice q), .keep⟩)
  (a1 : bq (env ap.aK) false 22 [.own [], .dat (.slice p)] none = some ⟨.own p, .keep⟩)
  (a2 : bq (env ap.aK) false 22 [.own p, .dat (.slice [iN x])] none = some ⟨.own (p ++ [iN x]), .keep⟩)
  (a3 : bq (env ap.aK) false 22 [.own (p ++ [iN x]), .dat (.slice q)] none = some ⟨.own (p ++ [iN x] ++ q), .keep⟩) :
  ae 192 [.dat (.slice (e0 :: es)), iv x] (match c1 && c2 with | true => .dat (.slice (e0 :: es)) | false => .own (p ++ [iN x] ++ q)) := by
 refine co [23, 30] [27, 36, 43, 37, 40, 44] (x := .of Tryz.f192 wP qP) ?_; refine lo hl ?_; rintro ex s ⟨rfl, rfl⟩; refine ⟨_, rfl, ?_⟩; refine ob h1 ?_
 cases c1
 ·refine oo s1 ?_; refine oo s2 ?_; refine oo a1 ?_; refine oo a2 ?_; refine oo a3 ?_; exact fi
 refine oo (h2 rfl) ?_; refine ob h3 ?_
 cases c2
 ·refine oo s1 ?_; refine oo s2 ?_; refine oo a1 ?_; refine oo a2 ?_; refine oo a3 ?_; exact fi
 exact fi
/-- The place of a number: how many at the front are less. -/
def kW : List Int -> Int -> Nat
 | [], _ => 0
 | y :: r, x => match ba y x with | true => kW r x + 1 | false => 0
theorem QU : ∀ {l : List Int} {x : Int}, kW l x <= l.length
 | [], _ => Nat.le_refl _
 | y :: r, x => by
  unfold kW
  split
  ·simp only [List.length_cons]; have := QU (l := r) (x := x); omega
  omega
theorem QT : ∀ {l : List Int} {x : Int} {i : Nat} {y : Int}, i < kW l x -> l[i]? = some y -> ba y x = true
 | [], x, i, y, h, h2 => by simp [kW] at h
 | z :: r, x, i, y, h, h2 => by
  unfold kW at h
  cases hz : ba z x with
  | false => rw [hz] at h; simp at h
  | true =>
   rw [hz] at h
   cases i with
   | zero => simp at h2; subst h2; exact hz
   | succ i => simp at h2; exact QT (by simp at h; omega) h2
theorem QV : ∀ {l : List Int} {x : Int} {y : Int}, l[kW l x]? = some y -> ba y x = false
 | [], x, y, h => by simp at h
 | z :: r, x, y, h => by
  unfold kW at h
  cases hz : ba z x with
  | false => rw [hz] at h; simp at h; subst h; exact hz
  | true => rw [hz] at h; simp at h; exact QV h
theorem zy {l : List Int} {x : Int} (hs : l.Pairwise (· <= ·)) : kW l x = l.countP (· < x) := by
 induction l with
 | nil => rfl
 | cons y r ih =>
  have ih := ih (List.Pairwise.of_cons hs)
  unfold kW
  by_cases hy : y < x
  ·rw [gd, decide_eq_true hy, List.countP_cons_of_pos (by simpa using hy), ih]
  rw [gd, decide_eq_false hy]
  symm
  dsimp only
  rw [List.countP_eq_zero]
  intro z hz
  have : y <= z := by
   rcases List.mem_cons.1 hz with rfl | hz
   ·exact Int.le_refl _
   exact List.rel_of_pairwise_cons hs hz
  simp only [decide_eq_true_eq]
  omega
def Mx (l : List Int) (x : Int) : List Int := match l[kW l x]? with | some y => (match bj y x with | true => l | false => fJ l (kW l x) x) | none => fJ l (kW l x) x
theorem C3 {l : List Int} {x : Int} (hs : l.Pairwise (· <= ·)) : Mx l x = hJ l x := by
 obtain ⟨c1, c2⟩ := countP_split (x := x) hs
 unfold Mx hJ
 rw [← zy hs]
 rw [← zy hs] at c1 c2
 cases hc : l.contains x with
 | true =>
  have hm : x ∈ l := by simpa using hc
  have hd : x ∈ l.drop (kW l x) := by
   rcases List.mem_append.1 ((List.take_append_drop (kW l x) l).symm ▸ hm) with h | h
   ·exact absurd (c1 x h) (Int.lt_irrefl x)
   exact h
  have hlt : kW l x < l.length := by
   rcases Nat.lt_or_ge (kW l x) l.length with h | h
   ·exact h
   rw [List.drop_eq_nil_of_le h] at hd; simp at hd
  have hg : l[kW l x]? = some l[kW l x] := List.getElem?_eq_getElem hlt
  have hge : x <= l[kW l x] := c2 _ (by rw [List.drop_eq_getElem_cons hlt]; exact List.mem_cons_self)
  have hle : l[kW l x] <= x := by
   have hp : (l.drop (kW l x)).Pairwise (· <= ·) := hs.sublist (List.drop_sublist _ _)
   rw [List.drop_eq_getElem_cons hlt] at hp hd
   rcases List.mem_cons.1 hd with h | h
   ·omega
   exact List.rel_of_pairwise_cons hp h
  rw [hg]
  dsimp only
  rw [show l[kW l x] = x by omega, dq]
 | false =>
  have hm : x ∉ l := by intro h; rw [List.contains_iff_mem.2 h] at hc; simp at hc
  cases hg : l[kW l x]? with
  | none => rfl
  | some y =>
   dsimp only
   have : bj y x = false := by
    rw [fM]
    have : y ≠ x := by rintro rfl; exact hm (List.mem_of_getElem? hg)
    simpa using this
   rw [this]
theorem rG {a b : List Int} (h : a.length + b.length < 1000000000) : bq (env ap.aK) false 22 [.own (a.map iN), .dat (.slice (b.map iN))] none = some ⟨.own (a.map iN ++ b.map iN), .keep⟩ := by
 refine rK (i := Od) (ds := b.map iN) (k := 0) JU rfl mQ ?_ ?_ (by kernel_rfl) ?_ ?_ ?_ (by simp)
 ·exact jr (fun d hd => by obtain ⟨x, _, rfl⟩ := List.mem_map.1 hd; rfl)
 ·exact jr (fun d hd => by obtain ⟨x, _, rfl⟩ := List.mem_map.1 hd; rfl)
 ·have h1 : Od.bytes <= 1000 := fN (by kernel_rfl)
  simp only [List.length_map]
  calc (a.length + b.length) * Od.bytes <= 1000000000 * 1000 := Nat.mul_le_mul (by omega) h1
   _ <= 140737488355328 := by decide
 ·simp [iV]; omega
 have hb : eW (a.map iN ++ b.map iN) = false := by
  rw [← List.map_append]
  cases a ++ b with
  | nil => rfl
  | cons x r => rfl
 unfold io
 rw [hb]
theorem vW (l : List Int) : sizedB 1 (l.map iN) = true := jr (fun d hd => by obtain ⟨x, _, rfl⟩ := List.mem_map.1 hd; rfl)
theorem Kl {l : List Int} {i : Nat} (h : i <= l.length) (x : Operand) : iZ (env ap.aK) 22 none (some x) none [.dat (.slice (l.map iN)), iv (Int.ofNat i)] = some ⟨.dat (.slice ((l.take i).map iN)), .keep⟩ := by
 have h1 : ap.aK.sub Od.size (l.map iN) none (some (Int.ofNat i)) = some ((l.take i).map iN) := by
  rw [mQ]
  show (match sizedB 1 (l.map iN), Nat.blt 0 1 with
   | true, true => (match dA (some (Int.ofNat i)) (l.map iN).length, dA none 0 with
    | some h, some lo => (match Nat.ble lo h, Nat.ble h (l.map iN).length with | true, true => some (((l.map iN).take h).drop lo) | _, _ => none)
    | _, _ => none)
   | _, _ => none) = _
  rw [vW]
  have e1 : dA (some (Int.ofNat i)) (l.map iN).length = some i := rfl
  have e2 : Nat.ble i (l.map iN).length = true := by rw [Nat.ble_eq]; simpa using h
  rw [e1]
  dsimp only [dA]
  rw [e2]
  simp [Nat.ble, List.map_take]
  rfl
 have h2 : iZ (env ap.aK) 22 none (some x) none [.dat (.slice (l.map iN)), iv (Int.ofNat i)] = tS (match ap.aK.sub Od.size (l.map iN) none (some (Int.ofNat i)) with | some r => some (.dat (.slice r)) | none => none) := by kernel_rfl
 rw [h2, h1]
 rfl
theorem En {l : List Int} {i : Nat} (h : i <= l.length) (x : Operand) : iZ (env ap.aK) 22 (some x) none none [.dat (.slice (l.map iN)), iv (Int.ofNat i)] = some ⟨.dat (.slice ((l.drop i).map iN)), .keep⟩ := by
 have h1 : ap.aK.sub Od.size (l.map iN) (some (Int.ofNat i)) none = some ((l.drop i).map iN) := by
  rw [mQ]
  show (match sizedB 1 (l.map iN), Nat.blt 0 1 with
   | true, true => (match dA none (l.map iN).length, dA (some (Int.ofNat i)) 0 with
    | some h, some lo => (match Nat.ble lo h, Nat.ble h (l.map iN).length with | true, true => some (((l.map iN).take h).drop lo) | _, _ => none)
    | _, _ => none)
   | _, _ => none) = _
  rw [vW]
  have e1 : dA (some (Int.ofNat i)) 0 = some i := rfl
  have e2 : Nat.ble i (l.map iN).length = true := by rw [Nat.ble_eq]; simpa using h
  have e3 : Nat.ble (l.map iN).length (l.map iN).length = true := by rw [Nat.ble_eq]; exact Nat.le_refl _
  rw [e1]
  dsimp only [dA]
  rw [e2, e3, List.take_length]
  simp [List.map_drop]
  rfl
 have h2 : iZ (env ap.aK) 22 (some x) none none [.dat (.slice (l.map iN)), iv (Int.ofNat i)] = tS (match ap.aK.sub Od.size (l.map iN) (some (Int.ofNat i)) none with | some r => some (.dat (.slice r)) | none => none) := by kernel_rfl
 rw [h2, h1]
 rfl
theorem UF {l : List Int} {x : Int} (hn : l.length < 100000000) : ae 192 [.dat (sl (l.map iN)), iv x] (.dat (sl ((Mx l x).map iN))) := by
 cases l with
 | nil => exact Ax (Pp (rG (a := []) (b := [x]) (by simp)))
 | cons y0 r =>
  obtain ⟨l, hl⟩ : ∃ l, l = y0 :: r := ⟨_, rfl⟩
  have hnl : (l.map iN) = iN y0 :: r.map iN := by rw [hl]; rfl
  have hne : sl (l.map iN) = .slice (l.map iN) := by rw [hnl]; rfl
  rw [← hl] at hn ⊢
  have hle := QU (l := l) (x := x)
  have hloop : KD (.loop (roundOf Tryz.f192 0)) (fun e s => e = .exit 0 /\ s = (Rp (l.map iN) x (Int.ofNat (kW l x))).aw Tryz.f192.ntmps) ((Uo (l.map iN) x (Int.ofNat 0)).aw Tryz.f192.ntmps) := by
   refine bG (St := fun i => (Uo (l.map iN) x (Int.ofNat i)).aw Tryz.f192.ntmps) (kW l x) ?_ ?_ (i := 0) (Nat.zero_le _)
   ·intro i hi
    have hil : i < l.length := by omega
    have hg : l[i]? = some l[i] := List.getElem?_eq_getElem hil
    refine sG (y := l[i]) (c1 := true) (c2 := true) (bN (by simpa using hil)) (fun _ => IS hg) (QT hi hg) (fun _ => ?_) (fun h => by simp at h)
    rw [bi (by omega)]
    rfl
   cases hg : l[kW l x]? with
   | none =>
    have : l.length <= kW l x := by simpa using hg
    exact sG (y := 0) (c1 := false) (c2 := ba 0 x) (bO (by simp; omega)) (fun h => by simp at h) rfl (fun h => by simp at h) (fun _ => ⟨rfl, rfl⟩)
   | some y =>
    have hil := (List.getElem?_eq_some_iff.1 hg).1
    exact sG (y := y) (c1 := true) (c2 := false) (bN (by simpa using hil)) (fun _ => IS hg) (QV hg) (fun h => by simp at h) (fun _ => ⟨rfl, rfl⟩)
  have s1 := Kl (l := l) hle (.tmp 35)
  have s2 := En (l := l) hle (.tmp 42)
  have a1 := rG (a := []) (b := l.take (kW l x)) (by simp; omega)
  have a2 := rG (a := l.take (kW l x)) (b := [x]) (by simp; omega)
  have a3 := rG (a := l.take (kW l x) ++ [x]) (b := l.drop (kW l x)) (by simp; omega)
  rw [List.map_append] at a3
  have hins : sl ((fJ l (kW l x) x).map iN) = .slice ((l.take (kW l x)).map iN ++ [x].map iN ++ (l.drop (kW l x)).map iN) := by
   have : (fJ l (kW l x) x).map iN = (l.take (kW l x)).map iN ++ [x].map iN ++ (l.drop (kW l x)).map iN := by simp [fJ]
   rw [← this]
   cases h : (fJ l (kW l x) x).map iN with
   | nil => simp [fJ] at h
   | cons _ _ => rfl
  rw [hnl] at s1 s2 hloop hne
  rw [hnl, hne]
  unfold Mx
  cases hg : l[kW l x]? with
  | none =>
   have : l.length <= kW l x := by simpa using hg
   have h := Hp (y := 0) (c1 := false) (c2 := bj 0 x) (bO (by rw [← hnl]; simp; omega)) (fun h => by simp at h) rfl hloop s1 s2 a1 a2 a3
   dsimp only
   rw [hins]
   exact Ax h
  | some y =>
   have hil := (List.getElem?_eq_some_iff.1 hg).1
   have h := Hp (y := y) (c1 := true) (c2 := bj y x) (bN (by rw [← hnl]; simpa using hil)) (fun _ => by rw [← hnl]; exact IS hg) rfl hloop s1 s2 a1 a2 a3
   dsimp only
   generalize bj y x = c at h
   cases c
   ·dsimp only
    rw [hins]
    exact Ax h
   dsimp only
   rw [hnl]
   exact h
/-! ### freeVars -/
noncomputable def Wx : Hints := ⟨au, ss, ax, rowsOf ax 174⟩
def TL (lo : Heap) (u : Nat) (s : aq) (i : Int) : ab := ⟨[(7, iv i), (3, .ptr (.loc 3) 0), (1, iv (Int.ofNat u)), (2, .dat s)], lo, [], 0⟩
def Rr (lo : Heap) (u : Nat) (s : aq) (i : Int) : ab := ⟨[(27, bv false), (7, iv i), (3, .ptr (.loc 3) 0), (1, iv (Int.ofNat u)), (2, .dat s)], lo, [], 0⟩
def TC (c6 c1 : Bool) : Int := match c6 with | true => (match c1 with | true => 1 | false => 0) | false => 0
theorem NK (k : Int) (i : Nat) : Int.ofNat (cW k i) = TC (bj k 6) (bj (Int.ofNat i) (Int.ofNat 1)) := by
 unfold cW
 rw [qa]
 cases bj k 6
 ·simp [TC]
 by_cases h : i = 1
 ·subst h; rfl
 simp [TC, h]
theorem rb (k : Int) (nm : List UInt8) (ix : Int) (a : List aq) (i : Nat) : ae 127 [.dat (.agg [i64 k, sb nm, i64 ix, sl a]), iv (Int.ofNat i)] (iv (Int.ofNat (cW k i))) := by
 rw [NK]
 generalize h6 : bj k 6 = c6
 generalize h1 : bj (Int.ofNat i) (Int.ofNat 1) = c1
 rcases a with _ | ⟨x, a⟩ <;>
 ·refine co [7, 10] [] (x := .of Tryz.f127 EQ Hg) ?_; refine ob h6 ?_
  cases c6
  ·exact fi
  refine ob h1 ?_
  cases c1 <;>
  ·exact fi
theorem KA {k : Int} {nm : List UInt8} {ix : Int} {x : aq} {es : List aq} {l : List Ty} {t : Ty} {i u b : Nat} {s s2 : List aq} (hl : an l = x :: es) (hi : i < (an l).length) (ht : l[i]? = some t)
  (hb : ae 127 [.dat (.agg [i64 k, sb nm, i64 ix, .slice (x :: es)]), iv (Int.ofNat i)] (iv (Int.ofNat b)))
  (hc : ae 174 [.dat t.enc, iv (aG .i64 (Int.ofNat u + Int.ofNat b)), .dat (sl s)] (.dat (sl s2))) {T : Exit -> aa -> Prop}
  (e : T .normal ((TL (jg 3 k nm ix (.slice (x :: es))) u (sl s2) (aG .i64 (Int.ofNat i + 1))).aw Tryz.f174.ntmps)) :
  KD (roundOf Tryz.f174 0) T ((TL (jg 3 k nm ix (.slice (x :: es))) u (sl s) (Int.ofNat i)).aw Tryz.f174.ntmps) := by
 have h1 := bN hi
 have h2 := jT ht
 rw [hl] at h1 h2
 clear ht hi hl
 obtain ⟨k2, nm2, ix2, a2⟩ := t
 rcases a2 with _ | ⟨b2, d2⟩ <;>
 ·rcases s with _ | ⟨y, s⟩ <;>
  ·refine az [27] [33] (H := Wx) (live := lV) (by kernel_rfl) ?_; refine ob h1 ?_; refine oo h2 ?_; refine on hb ?_; refine on hc ?_; exact oe e
theorem Ov {k : Int} {nm : List UInt8} {ix : Int} {l s : List aq} {u : Nat} {T : Exit -> aa -> Prop} (e : T (.exit 0) ((Rr (jg 3 k nm ix (sl l)) u (sl s) (Int.ofNat l.length)).aw Tryz.f174.ntmps)) :
  KD (roundOf Tryz.f174 0) T ((TL (jg 3 k nm ix (sl l)) u (sl s) (Int.ofNat l.length)).aw Tryz.f174.ntmps) := by
 have h1 := bO (i := l.length) (L := l.length) (by omega)
 rcases l with _ | ⟨x, l⟩
 ·refine az [] [] (H := Wx) (live := lV) (by kernel_rfl) ?_; exact oe e
 refine az [27] [] (H := Wx) (live := lV) (by kernel_rfl) ?_; refine ob h1 ?_; exact oe e
theorem KB {k : Int} {nm : List UInt8} {ix : Int} {l s s1 s2 : List aq} {u : Nat} {ck cg : Bool} (hk : bj k 5 = ck) (hg : ba ix (Int.ofNat u) = cg)
  (ha : ck = true -> cg = false -> ae 192 [.dat (sl s), iv (aG .i64 (ix - Int.ofNat u))] (.dat (sl s1))) (he : ck = false ∨ cg = true -> s1 = s)
  (hl : KD (.loop (roundOf Tryz.f174 0)) (fun e s' => e = .exit 0 /\ s' = (Rr (jg 3 k nm ix (sl l)) u (sl s2) (Int.ofNat l.length)).aw Tryz.f174.ntmps) ((TL (jg 3 k nm ix (sl l)) u (sl s1) (Int.ofNat 0)).aw Tryz.f174.ntmps)) :
  ae 174 [.dat (.agg [i64 k, sb nm, i64 ix, sl l]), iv (Int.ofNat u), .dat (sl s)] (.dat (sl s2)) := by
 rcases l with _ | ⟨x, l⟩ <;>
 ·rcases s with _ | ⟨y, s⟩ <;>
  ·cases ck
   ·obtain rfl := he (.inl rfl)
    clear he ha
    refine co [10] [] (x := .of Tryz.f174 ss lV) ?_; refine ob hk ?_; refine lo hl ?_; rintro ex s ⟨rfl, rfl⟩; refine ⟨_, rfl, ?_⟩; exact fi
   cases cg
   ·have ha2 := ha rfl rfl
    clear he ha
    refine co [10, 15] [] (x := .of Tryz.f174 ss lV) ?_; refine ob hk ?_; refine ox hg ?_; refine on ha2 ?_; refine lo hl ?_; rintro ex s ⟨rfl, rfl⟩; refine ⟨_, rfl, ?_⟩; exact fi
   obtain rfl := he (.inr rfl)
   clear he ha
   refine co [10, 15] [] (x := .of Tryz.f174 ss lV) ?_; refine ob hk ?_; refine ox hg ?_; refine lo hl ?_; rintro ex s ⟨rfl, rfl⟩; refine ⟨_, rfl, ?_⟩; exact fi
def Kv (k ix : Int) (u : Nat) (s : List Int) : List Int := match bj k 5 with | false => s | true => (match ba ix (Int.ofNat u) with | true => s | false => Mx s (ix - Int.ofNat u))
theorem Ku {k ix : Int} {u : Nat} {s : List Int} (h : s.Pairwise (· <= ·)) : Kv k ix u s = dH k ix u s := by
 unfold Kv dH
 cases bj k 5 <;> cases ba ix (Int.ofNat u) <;> first | rfl | exact C3 h
def RF (t : Ty) (u : Nat) (s : List Int) : Prop := ae 174 [.dat t.enc, iv (Int.ofNat u), .dat (sl (s.map iN))] (.dat (sl ((t.cf u s).map iN)))
theorem RC {k : Int} {nm : List UInt8} {ix : Int} {l : List Ty} {u b : Nat} {s : List Int} (hs : fm b s) (hbd : b + 1 + aR l < 100000000) (hu : u < 1000000000) (hix : bj k 5 = true -> ba ix 500000000 = true)
  (ih : ∀ t ∈ l, ∀ v s2, v <= u + 1 -> fm (b + 1 + aR l) s2 -> (∃ b2, fm b2 s2 /\ b2 + t.size <= b + 1 + aR l) -> RF t v s2) : RF (.mk k nm ix l) u s := by
 have hlen := eg l
 have hs1 := wo (k := k) (ix := ix) (u := u) hs
 have ha : bj k 5 = true -> ba ix (Int.ofNat u) = false -> ae 192 [.dat (sl (s.map iN)), iv (aG .i64 (ix - Int.ofNat u))] (.dat (sl ((dH k ix u s).map iN))) := by
  intro hk hg
  rw [← Ku hs.1]
  unfold Kv
  rw [hk, hg]
  have hix := hix hk
  rw [gd] at hg hix
  simp only [decide_eq_false_iff_not, decide_eq_true_eq] at hg hix
  have e : aG .i64 (ix - Int.ofNat u) = ix - Int.ofNat u := by
   rw [dx]
   simp only [Int.ofNat_eq_natCast] at hg ⊢
   exact wrap_i64 (by omega) (by omega)
  rw [e]
  exact UF (by have := hs.2; omega)
 have he : bj k 5 = false ∨ ba ix (Int.ofNat u) = true -> (dH k ix u s).map iN = s.map iN := by
  unfold dH
  rintro (h | h)
  ·rw [h]
  rw [h]; cases bj k 5 <;> rfl
 refine KB rfl rfl ha he ?_
 refine bG (St := fun i => (TL (jg 3 k nm ix (sl (an l))) u (sl ((pv k (l.take i) 0 u (dH k ix u s)).map iN)) (Int.ofNat i)).aw Tryz.f174.ntmps) (an l).length ?_ ?_ (i := 0) (Nat.zero_le _)
 ·intro i hi
  obtain ⟨t, ht, hmem⟩ := get_mem hi
  have hi2 := hi
  rw [aE] at hi2
  have hbn : cW k i <= 1 := by unfold cW; split <;> omega
  obtain ⟨x, es, hx⟩ : ∃ x es, an l = x :: es := by
   cases hl : an l with
   | nil => rw [hl] at hi; simp at hi
   | cons x es => exact ⟨x, es, rfl⟩
  have hst := jC ht
  have hsl := qq (l := l) (i + 1)
  have hpre : fm (b + 1 + aR (l.take i)) (pv k (l.take i) 0 u (dH k ix u s)) := Bs _ u hs1
  have hcf := ih t hmem (u + cW k i) (pv k (l.take i) 0 u (dH k ix u s)) (by omega) ⟨hpre.1, by have := hpre.2; omega⟩ ⟨_, hpre, by omega⟩
  unfold RF at hcf
  rw [← wrap_add (n := u) (m := cW k i) (by omega)] at hcf
  have hbi := rb k nm ix (x :: es) i
  have e := KA (T := qv (fun s' => s' = (TL (jg 3 k nm ix (sl (an l))) u (sl ((pv k (l.take (i + 1)) 0 u (dH k ix u s)).map iN)) (Int.ofNat (i + 1))).aw Tryz.f174.ntmps)
   (fun e s' => e = .exit 0 /\ s' = (Rr (jg 3 k nm ix (sl (an l))) u (sl (((Ty.mk k nm ix l).cf u s).map iN)) (Int.ofNat (an l).length)).aw Tryz.f174.ntmps)) hx hi ht hbi hcf (by
    rw [hx, bi (by omega), DK ht]
    rfl)
  rw [hx]
  rw [hx] at e
  exact e
 refine Ov ⟨rfl, ?_⟩
 rw [aE, List.take_length, Ty.cf]
mutual
theorem KN : ∀ (t : Ty) (u : Nat) {b : Nat} {s : List Int}, fm b s -> b + t.size < 100000000 -> u + t.depth < 1000000000 -> t.eI -> RF t u s
 | .mk k nm ix l, u, b, s, hs, hb, hu, hx => by
  simp only [Ty.size] at hb
  simp only [Ty.depth] at hu
  simp only [Ty.eI] at hx
  exact RC hs (by omega) (by omega) hx.1 (Gy l u (by omega) (by omega) hx.2)
theorem Gy : ∀ (l : List Ty) (u : Nat) {B : Nat}, u + cB l + 1 < 1000000000 -> B < 100000000 -> di l -> ∀ t ∈ l, ∀ v s2, v <= u + 1 -> fm B s2 -> (∃ b2, fm b2 s2 /\ b2 + t.size <= B) -> RF t v s2
 | [], u, B, hu, _, hx, t, ht, _, _, _, _, _ => by simp at ht
 | y :: r, u, B, hu, hB, hx, t, ht, v, s2, hv, h1, h2 => by
  simp only [cB] at hu
  simp only [di] at hx
  rcases List.mem_cons.1 ht with h3 | ht
  ·obtain ⟨b2, h4, h5⟩ := h2
   rw [h3] at h5 ⊢
   exact KN y v h4 (by omega) (by omega) hx.1
  exact Gy r u (by omega) hB hx.2 t ht v s2 hv h1 h2
end
theorem Ry {k : Int} {nm : List UInt8} {ix : Int} {l s : List aq} (h : ae 174 [.dat (.agg [i64 k, sb nm, i64 ix, sl l]), iv (Int.ofNat 0), .dat nl] (.dat (sl s))) : ae 148 [.dat (.agg [i64 k, sb nm, i64 ix, sl l])] (.dat (sl s)) := by
 rcases l with _ | ⟨x, l⟩ <;>
 ·rcases s with _ | ⟨y, s⟩ <;>
  ·refine co [] [] (x := .of Tryz.f148 EL Hb) ?_; refine on h ?_; exact fi
theorem wD {t : Ty} (hs : t.size < 100000000) (hx : t.eI) : ae 148 [.dat t.enc] (.dat (sl (t.fv.map iN))) := by
 have h1 : RF t 0 [] := KN t 0 (b := 0) ⟨List.Pairwise.nil, Nat.le_refl 0⟩ (by omega) (by have := jO t; omega) hx
 unfold RF at h1
 unfold Ty.fv
 obtain ⟨k, nm, ix, l⟩ := t
 exact Ry h1
def JG {α : Type} : List α -> Bool
 | [] => true
 | _ => false
theorem RG {k : Int} {nm : List UInt8} {ix : Int} {l s : List aq} (h : ae 148 [.dat (.agg [i64 k, sb nm, i64 ix, sl l])] (.dat (sl s))) : ae 178 [.dat (.agg [i64 k, sb nm, i64 ix, sl l])] (bv (JG s)) := by
 rcases l with _ | ⟨x, l⟩ <;>
 ·rcases s with _ | ⟨y, s⟩ <;>
  ·refine co [] [] (x := .of Tryz.f178 EE G4) ?_; refine on h ?_; exact fi
theorem KP {t : Ty} (hs : t.size < 100000000) (hx : t.eI) : ae 178 [.dat t.enc] (bv (JG t.fv)) := by
 have h := wD hs hx
 have e : JG t.fv = JG (t.fv.map iN) := by cases t.fv <;> rfl
 rw [e]
 obtain ⟨k, nm, ix, l⟩ := t
 exact RG h
end Go.Proofs.YtiihadmgkoamoaaGreatDoor
