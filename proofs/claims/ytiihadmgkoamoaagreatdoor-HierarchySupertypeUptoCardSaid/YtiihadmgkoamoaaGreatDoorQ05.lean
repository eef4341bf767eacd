/- HierarchySupertype returns true and changes nothing, for arguments of bulk at most 1048576 (the card of the second form; conditions: those of the given row). Names are shortened by a program, for the claim's bound. Part 5. -/
import Derived.Shelf.Slices.SearchI
import Derived.Shelf.Spec.SlicesInsert
import Derived.Shelf.Spec.SlicesInsertGrow
import Derived.Test.YtiihadmgkoamoaaGreatDoorQ04
set_option linter.unusedVariables false
set_option linter.unusedSimpArgs false
set_option maxRecDepth 100000
set_option maxHeartbeats 4000000
namespace Go.Tp
open Go.Proofs Go.Shelf Go.RowKit
def vS (l : List Int) : List ac := l.map iv
def ints (l : List Int) : List Value := l.map (Value.int .i64)
section
variable {w : World} {R : Own} {N : Name -> Option Nat}
theorem oY : ∀ {l : List Int} {us : List Value} {bs : List Nat}, ag w R N (vS l) us bs -> us = ints l /\ bs = [] /\ ∀ x ∈ l, bV (.int .i64 x) = true
 | [], us, bs, h => by obtain ⟨rfl, rfl⟩ := ba h; simp [ints]
 | x :: l, us, bs, h => by
  have h : ag w R N (iv x :: vS l) us bs := h
  obtain ⟨v, vs', b1, b2, rfl, rfl, h1, h2⟩ := aD h
  obtain ⟨rfl, rfl, h3⟩ := oY h2
  simp only [ak] at h1
  obtain ⟨rfl, h1⟩ := h1
  have h1 : ep w R v (.flat (.int .i64 x)) := h1
  cases h1 with
  | flat hf => exact ⟨rfl, rfl, by rintro y hy; rcases List.mem_cons.1 hy with rfl | hy; exact hf; exact h3 y hy⟩
theorem Ge : ∀ {l : List Int}, (∀ x ∈ l, bV (.int .i64 x) = true) -> ag w R N (vS l) (ints l) []
 | [], _ => aT
 | x :: l, h => by
  have h1 : ak w R N (iv x) (.int .i64 x) [] := by
   simp only [ak]
   exact ⟨trivial, .flat (h x (by simp))⟩
  exact aH (b1 := []) (b2 := []) h1 (Ge (l := l) (fun y hy => h y (by simp [hy])))
theorem ru {l : List Int} : ∀ v ∈ ints l, v.oneCell' = true := by
 intro v hv
 obtain ⟨x, _, rfl⟩ := List.mem_map.1 hv
 rfl
theorem WE {l : List Int} {j : Nat} {v : Value} (h : (ints l)[j]? = some v) : ∃ x, l[j]? = some x /\ v = .int .i64 x := by
 simp only [ints, List.getElem?_map, Option.map_eq_some_iff] at h
 obtain ⟨x, h1, h2⟩ := h
 exact ⟨x, h1, h2.symm⟩
theorem ka {b off : Nat} {vs : Array Value} {e : TypeId} {fr : Nat × Nat} (hb : w.heap[b]? = some (.cells vs e fr)) {v : Value} (h : vs.toList[off]? = some v) : w.cell? ⟨b, off, none⟩ = some v := by
 rw [Array.getElem?_toList] at h
 simp [World.cell?, hb, h]
theorem gF (b o : Nat) (e : TypeId) (news : List Value) (cur : Array Value) (hg : w.heap[b]? = some (.cells cur e (0, 0))) (hfit : o + news.length <= cur.size) (h1 : ∀ u ∈ news, u.oneCell' = true) :
  w.setCells b o news = w.setRow b (cur.toList.take o ++ news ++ cur.toList.drop (o + news.length)).toArray := by
 have hc : ∀ j, j < news.length -> (w.cell? ⟨b, o + 0 + j, none⟩).isSome = true := by
  intro j hj
  rw [ka hg (v := cur.toList[o + 0 + j]'(by simp; omega)) (by simp)]
  rfl
 have hf : ∀ j, j < news.length -> w.frozen? ⟨b, o + 0 + j, none⟩ = false := by
  intro j _
  simp [World.frozen?, hg]
 have a1 := run_storeCells_cells (P := default) b o news 0 w hc hf h1
 have a2 := run_storeCells_at default b o e news 0 cur w hg (by simpa using hfit) h1
 rw [a1] at a2
 simp only [Nat.add_zero, Result.ok.injEq] at a2
 exact a2.2
end
section
variable {P : Program} {ρ : Ren} {G : bF}
theorem nN {w : World} {R : Own} {g : Nat} {cur : Array Value} {t : TypeId} (hg : w.heap[g]? = some (.cells cur t (0, 0))) (arr : Array Value) (hsz : arr.size = cur.size) (hRv : ∀ j, j < cur.size -> R g j) (hpos : 0 < cur.size) (bs : List Nat) (hb : g ∉ bs) : bz w R (w.setRow g arr) R bs :=
 ki hg arr hsz (fun _ _ h => h) (fun _ _ _ h => h) (fun off hno => by
  rw [Array.getElem?_eq_none (by
   rcases Nat.lt_or_ge off cur.size with h' | h'
   ·exact (hno (hRv off h')).elim
   ·omega), Array.getElem?_eq_none (by
   rcases Nat.lt_or_ge off cur.size with h' | h'
   ·exact (hno (hRv off h')).elim
   omega)]) ⟨0, hRv 0 hpos⟩ bs hb
theorem tb {w w' : World} {R R' : Own} {bs : List Nat} (k : bz w.drew R w' R' bs) : bz w R w' R' bs :=
 ⟨⟨k.step.os, k.step.tape, k.step.output, k.step.size, k.step.block, k.step.cell, k.step.sizes⟩, k.same⟩
theorem Gb {w : World} {R : Own} (q : Nat) (bs : List Nat) : bz w R (w.drewN q) R bs :=
 ⟨⟨rfl, rfl, rfl, Nat.le_refl _, fun b _ h => ⟨rfl, h⟩, fun b off _ h => ⟨h, rfl⟩, fun b _ => rfl⟩, fun b _ _ => ⟨rfl, fun _ h => h⟩⟩
/-- slices.BinarySearch at []int. -/
theorem OS (L : Lays2.n25 P ρ) {l : List Int} {x : Int} (hs : l.Pairwise (· <= ·)) (hn : l.length < 1000000000) :
  aB P G (ρ.f 25) [.win (.out 0) 1 0 l.length, iv x] [(.out 0, .cells (vS l))] 1 (XQ ⟨.tup [iv (Int.ofNat (l.countP (· < x))), bv (l.contains x)], [(.out 0, .cells (vS l))], 1⟩) := by
 intro w R N cargs bsA bsH bsF hargs hheap hnd hnx hglob hF
 obtain ⟨v0, r1, c0, d1, rfl, rfl, h0, hr1⟩ := aD hargs
 obtain ⟨v1, r2, c1, d2, rfl, rfl, h1, hr2⟩ := aD hr1
 obtain ⟨rfl, rfl⟩ := ba hr2
 have hheap0 := hheap
 obtain ⟨b, b1, b2, rfl, hb, hobj, hrest⟩ := hheap
 have hrest : b2 = [] := hrest
 subst hrest
 obtain ⟨vs, elem, sp, hblk, hrv, hRv, _⟩ := hobj
 simp only [ak] at h0 h1
 obtain ⟨rfl, b', cap, hb', rfl, hcap, _, hblt, hrow⟩ := h0
 have : b' = b := by rw [hb] at hb'; simpa using hb'.symm
 subst this
 obtain ⟨rfl, h1⟩ := h1
 have h1 : ep w R v1 (.flat (.int .i64 x)) := h1
 have e1 : v1 = .int .i64 x := by cases h1 with | flat _ => rfl
 have hfx : bV (.int .i64 x) = true := by cases h1 with | flat h => exact h
 subst e1
 obtain ⟨us1, us2, q1, q2, hus, rfl, hr1, _⟩ := ez hrv
 obtain ⟨rfl, rfl, hfl⟩ := oY hr1
 have hcell : ∀ j, j < l.length -> w.cell? ⟨b', 0 + j, none⟩ = some (.int .i64 (l.getD j 0)) := by
  intro j hj
  refine ka hblk ?_
  rw [hus, Nat.zero_add, List.getElem?_append_left (by simp [ints]; exact hj)]
  simp [ints, hj]
 refine (Any.slices_BinarySearch_int L b' 0 l.length cap l x w (Nat.le_refl _) (by omega) hcell (by rw [List.take_length]; exact hs)).mono ?_
 rintro e w' ⟨rfl, q, rfl⟩
 rw [List.take_length]
 have hk : ∀ bs, bz w R (w.drewN q) R bs := Gb q
 refine ⟨_, _, _, 1, R, N, [], _, rfl, ⟨rfl, rfl, rfl⟩, ?_, hheap0.keep (hk _), by simpa using hnd, hnx, hk _, fun _ _ h => h⟩
 have hi : ∀ n : Nat, n < 9223372036854775808 -> bV (.int .i64 (Int.ofNat n)) = true := by
  intro n hn
  simp [bV, IntKind.min, IntKind.max, IntKind.signed, IntKind.bits]
  omega
 have hcnt : l.countP (· < x) <= l.length := List.countP_le_length
 simp only [ak]
 refine ⟨[.int .i64 (Int.ofNat (l.countP (· < x))), .bool (l.contains x)], rfl, ?_⟩
 refine aH (b1 := []) (b2 := []) ?_ (aH (b1 := []) (b2 := []) ?_ aT)
 ·simp only [ak]; exact ⟨trivial, .flat (hi _ (by omega))⟩
 simp only [ak]; exact ⟨trivial, .flat rfl⟩
/-- The row with one more. -/
def fP (l : List Int) (i : Nat) (x : Int) : List Int := l.take i ++ x :: l.drop i
theorem ry {l : List Int} {i : Nat} {x : Int} (h : i <= l.length) : (fP l i x).length = l.length + 1 := by simp [fP]; omega
theorem ml {l : List Int} {i : Nat} {x : Int} : ints (fP l i x) = (ints l).take i ++ .int .i64 x :: (ints l).drop i := by simp [fP, ints, List.map_take, List.map_drop]
theorem Gl {l : List Int} {i : Nat} {x : Int} (h : ∀ y ∈ l, bV (.int .i64 y) = true) (hx : bV (.int .i64 x) = true) : ∀ y ∈ fP l i x, bV (.int .i64 y) = true := by
 intro y hy
 simp only [fP, List.mem_append, List.mem_cons] at hy
 rcases hy with hy | rfl | hy
 ·exact h y (List.mem_of_mem_take hy)
 ·exact hx
 exact h y (List.mem_of_mem_drop hy)
theorem QS (l : List Int) : cK (vS l) = false := by
 rcases l with _ | ⟨a, _ | ⟨b, _ | ⟨c, r⟩⟩⟩ <;> rfl
theorem oI {w : World} {R : Own} {N : Name -> Option Nat} : ∀ {n : Nat} {us : List Value} {bs : List Nat}, ag w R N (List.replicate n .undef) us bs -> bs = [] /\ us.length = n
 | 0, us, bs, h => by obtain ⟨rfl, rfl⟩ := ba h; exact ⟨rfl, rfl⟩
 | n + 1, us, bs, h => by
  have h : ag w R N (.undef :: List.replicate n .undef) us bs := h
  obtain ⟨v, vs', b1, b2, rfl, rfl, h1, h2⟩ := aD h
  obtain ⟨rfl, h3⟩ := oI h2
  simp only [ak] at h1
  subst h1
  exact ⟨rfl, by simp [h3]⟩
/-- What is behind: the block g holds the row. -/
theorem vT {w w' : World} {R R' : Own} {N : Name -> Option Nat} {vb g cap : Nat} {elem : TypeId} {arr rest : List Value} {l2 : List Int} {x : Int} {bsF : List Nat}
  (hnx : ∀ o b, N (.out o) = some b -> o < 2) (hk : ∀ bs, g ∉ bs -> bz w R w' R' bs) (hgF : g ∉ bsF) (hgv : g ≠ vb) (hnd : (vb :: bsF).Nodup)
  (hg : w'.heap[g]? = some (.cells arr.toArray elem (0, 0))) (harr : arr = ints l2 ++ rest) (hfl : ∀ y ∈ l2, bV (.int .i64 y) = true) (hR' : ∀ j, j < arr.length -> R' g j) (hcap : arr.length = cap) (hcm : cap <= iD) (hl2 : l2.length <= cap)
  (hv : al w R (outs N) [(.out 1, .cells [iv x])] [vb]) (cv : Value) (hcv : cv = .slice (some ⟨g, 0, none⟩) l2.length cap) :
  ∃ v cv' heap' next' R2 N' bsV bsH', Ending.returned cv = .returned cv' /\ XQ ⟨.win (.out 2) 1 0 l2.length, [(.out 2, .cells (vS l2)), (.out 1, .cells [iv x])], 3⟩ v heap' next' /\ ak w' R2 (outs N') v cv' bsV /\ al w' R2 (outs N') heap' bsH' ∧
   (bsV ++ (bsH' ++ bsF)).Nodup /\ (∀ o b, N' (.out o) = some b -> o < next') /\ bz w R w' R2 bsF /\ (∀ o b, N (.out o) = some b -> N' (.out o) = some b) := by
 have hext := CR (N := N) (b := g) hnx
 have hlt : g < w'.heap.size := bH hg
 refine ⟨_, cv, _, 3, R', bR N (.out 2) g, [], [g, vb], rfl, ⟨rfl, rfl, rfl⟩, ?_, ?_, ?_, ?_, hk bsF hgF, fun o b h => hext _ _ h⟩
 ·simp only [ak]
  refine ⟨trivial, g, cap, by simp [outs, bR], hcv, hl2, ⟨by decide, hcm⟩, hlt, ?_⟩
  rw [dV hg]
  simp [hcap]
 ·refine ⟨g, [], [vb], rfl, by simp [outs, bR], ?_, (hv.keep (hk _ (by simpa using hgv))).ext (Dk hext)⟩
  refine ⟨arr.toArray, elem, rest.length, hg, ?_, fun j hj => hR' j (by simpa using hj), fun h => by rw [QS] at h; simp at h⟩
  have h1 : ag w' R' (outs (bR N (.out 2) g)) (vS l2) (ints l2) [] := Ge hfl
  have h2 := fJ (w := w') (R := R') (N := outs (bR N (.out 2) g)) rest
  simpa [harr] using cy h1 h2
 ·simp only [List.nil_append, List.cons_append]
  refine List.nodup_cons.2 ⟨?_, hnd⟩
  simp only [List.mem_cons, not_or]
  exact ⟨hgv, hgF⟩
 intro o c ho
 by_cases hne : o = 2
 ·omega
 have : N (.out o) = some c := by simpa [bR, hne] using ho
 have := hnx o c this
 omega
theorem QY (B z1 z2 : List Value) (x zz : Value) (i : Nat) (h : B.length = i) : (B ++ zz :: z1 ++ z2).take i ++ [x] ++ (B ++ zz :: z1 ++ z2).drop (i + 1) = B ++ x :: (z1 ++ z2) := by
 subst h
 have e1 : (B ++ zz :: z1 ++ z2).take B.length = B := by simp
 have e2 : (B ++ zz :: z1 ++ z2).drop (B.length + 1) = z1 ++ z2 := by
  rw [List.append_assoc, List.drop_length_add_append]
  rfl
 rw [e1, e2]
 simp
theorem JJ (A : List Value) (u0 x : Value) (us3 : List Value) (i : Nat) (h : i <= A.length) :
  ((A ++ u0 :: us3).take (i + 1) ++ A.drop i ++ (A ++ u0 :: us3).drop (i + 1 + (A.drop i).length)).take i ++ [x] ++ ((A ++ u0 :: us3).take (i + 1) ++ A.drop i ++ (A ++ u0 :: us3).drop (i + 1 + (A.drop i).length)).drop (i + 1) = A.take i ++ x :: A.drop i ++ us3 := by
 obtain ⟨A1, A2, rfl, h1⟩ : ∃ A1 A2, A = A1 ++ A2 /\ A1.length = i := ⟨A.take i, A.drop i, (List.take_append_drop i A).symm, by simp; omega⟩
 subst h1
 have e1 : (A1 ++ A2).drop A1.length = A2 := by simp
 have e2 : (A1 ++ A2).take A1.length = A1 := by simp
 rw [e1, e2]
 obtain ⟨y, t, ht⟩ : ∃ y t, A2 ++ u0 :: us3 = y :: t := by cases A2 with | nil => exact ⟨_, _, rfl⟩ | cons a r => exact ⟨_, _, rfl⟩
 have e3 : (A1 ++ A2 ++ u0 :: us3).take (A1.length + 1) = A1 ++ [y] := by rw [List.append_assoc, ht]; simp [List.take_append]; exact List.take_of_length_le (by omega)
 have e4 : (A1 ++ A2 ++ u0 :: us3).drop (A1.length + 1 + A2.length) = us3 := by
  have : A1.length + 1 + A2.length = (A1 ++ A2).length + 1 := by simp; omega
  rw [this, List.drop_length_add_append]
  rfl
 rw [e3, e4]
 simp [List.take_append, List.drop_append]
/-- slices.Insert at []int. -/
theorem OT (L : Lays2.n21 P ρ) {l : List Int} {x : Int} {i : Nat} (hi : i <= l.length) (hn : l.length < 1000000000) :
  aB P G (ρ.f 21) [.win (.out 0) 1 0 l.length, iv (Int.ofNat i), .win (.out 1) 1 0 1] [(.out 0, .cells (vS l)), (.out 1, .cells [iv x])] 2
   (XQ ⟨.win (.out 2) 1 0 (fP l i x).length, [(.out 2, .cells (vS (fP l i x))), (.out 1, .cells [iv x])], 3⟩) := by
 intro w R N cargs bsA bsH bsF hargs hheap hnd hnx hglob hF
 obtain ⟨v0, r1, c0, d1, rfl, rfl, h0, hr1⟩ := aD hargs
 obtain ⟨v1, r2, c1, d2, rfl, rfl, h1, hr2⟩ := aD hr1
 obtain ⟨v2, r3, c2, d3, rfl, rfl, h2, hr3⟩ := aD hr2
 obtain ⟨rfl, rfl⟩ := ba hr3
 obtain ⟨b, b1, b2, rfl, hb, hobj, hrest⟩ := hheap
 have hrest0 := hrest
 obtain ⟨vb, b3, b4, rfl, hvb, hobjv, hrest⟩ := hrest
 have hrest : b4 = [] := hrest
 subst hrest
 obtain ⟨vs, elem, sp, hblk, hrv, hRv, _⟩ := hobj
 obtain ⟨vs2, elem2, sp2, hblk2, hrv2, hRv2, _⟩ := hobjv
 simp only [ak] at h0 h1 h2
 obtain ⟨rfl, b', cap, hb', rfl, hcap, ⟨_, hcm⟩, hblt, hrow⟩ := h0
 have : b' = b := by rw [hb] at hb'; simpa using hb'.symm
 subst this
 obtain ⟨rfl, vb', vc, hvb', rfl, hvc, _, hvlt, hvrow⟩ := h2
 have : vb' = vb := by rw [hvb] at hvb'; simpa using hvb'.symm
 subst this
 obtain ⟨rfl, h1⟩ := h1
 have h1 : ep w R v1 (.flat (.int .i64 (Int.ofNat i))) := h1
 have e1 : v1 = .int .i64 (Int.ofNat i) := by cases h1 with | flat _ => rfl
 subst e1
 obtain ⟨us1, us2, q1, q2, hus, rfl, hr1, hq2⟩ := ez hrv
 obtain ⟨rfl, rfl, hfl⟩ := oY hr1
 obtain ⟨ws1, ws2, q3, q4, hws, rfl, hr2, hq4⟩ := ez hrv2
 obtain ⟨rfl, rfl, hfx⟩ := oY (l := [x]) hr2
 have hfx := hfx x (by simp)
 obtain ⟨rfl, _⟩ := oI hq2
 obtain ⟨rfl, _⟩ := oI hq4
 simp only [List.nil_append, List.append_nil, List.cons_append] at hnd
 have hvb0 : b' ≠ vb' := by
  have := (List.nodup_cons.1 hnd).1
  simp only [List.mem_cons, not_or] at this
  exact this.1
 have hbF : b' ∉ bsF := by
  have := (List.nodup_cons.1 hnd).1
  simp only [List.mem_cons, not_or] at this
  exact this.2
 have hnd2 : (vb' :: bsF).Nodup := (List.nodup_cons.1 hnd).2
 have hsz : vs.size = cap := by rw [dV hblk] at hrow; omega
 have hlen : (ints l).length = l.length := by simp [ints]
 have hl2 : (fP l i x).length = l.length + 1 := ry hi
 have hfl2 := Gl (i := i) hfl hfx
 have hvs : ∀ j v, [Value.int .i64 x][j]? = some v -> w.cell? ⟨vb', 0 + j, none⟩ = some v := by
  intro j v hj
  refine ka hblk2 ?_
  rw [hws]
  cases j with
  | zero => simpa [ints] using hj
  | succ j => simp at hj
 have hcs : ∀ j v, (ints l)[j]? = some v -> w.cell? ⟨b', 0 + j, none⟩ = some v := by
  intro j v hj
  refine ka hblk ?_
  have : j < (ints l).length := (List.getElem?_eq_some_iff.1 hj).1
  rw [hus, Nat.zero_add, List.getElem?_append_left this]
  exact hj
 have h1v : ∀ v ∈ [Value.int .i64 x], v.oneCell' = true := by intro v hv; simp at hv; subst hv; rfl
 have hsome : ∀ j, j < cap -> (w.cell? ⟨b', 0 + j, none⟩).isSome = true := by
  intro j hj
  have hj2 : j < vs.toList.length := by simp; omega
  rw [ka hblk (v := vs.toList[j]) (by rw [Nat.zero_add]; exact List.getElem?_eq_getElem hj2)]
  rfl
 have hfroz : ∀ j, w.frozen? ⟨b', j, none⟩ = false := by intro j; simp [World.frozen?, hblk]
 have hus2 : us2.length = cap - l.length := by
  have := congrArg List.length hus
  simp [hlen] at this
  omega
 by_cases hroom : l.length + 1 <= cap
 ·
  obtain ⟨u0, us3, rfl⟩ : ∃ u0 us3, us2 = u0 :: us3 := by
   cases us2 with
   | nil => simp at hus2; omega
   | cons a r => exact ⟨a, r, rfl⟩
  rcases Nat.lt_or_ge i l.length with hlt | hge
  ·refine (Any2.slices_Insert_int_shift L b' 0 l.length cap i vb' 0 1 vc (ints l) [.int .i64 x] w hlt (by decide) hroom ?_ (Ne.symm hvb0) hlen rfl hcs (fun j hj => hsome j (by omega)) (fun j _ => hfroz _) hvs ru h1v elem2 elem vs2.size vs.size ?_ ?_ ?_ ?_ ?_).mono ?_
   ·exact hcm
   ·simp [World.shape?, hblk2]
   ·simp [World.shape?, hblk]
   ·omega
   ·simp [World.frozen?, hblk2]
   ·simp [World.frozen?, hblk2]
   rintro e w' ⟨rfl, rfl⟩
   have hg1 : (w.drew).heap[b']? = some (.cells vs elem (0, 0)) := hblk
   have hd : ((ints l).drop i).length = l.length - i := by simp [hlen]
   rw [gF (w := w.drew) b' (0 + (i + 1)) elem ((ints l).drop i) vs hg1 (by rw [hd]; omega) (fun u hu => ru u (List.mem_of_mem_drop hu))]
   obtain ⟨ar1, har1⟩ : ∃ ar1, ar1 = vs.toList.take (0 + (i + 1)) ++ (ints l).drop i ++ vs.toList.drop (0 + (i + 1) + ((ints l).drop i).length) := ⟨_, rfl⟩
   rw [← har1]
   have hl1 : ar1.length = cap := by
    rw [har1]
    simp [hlen]
    omega
   have hg2 := setRow_heap w.drew b' vs ar1.toArray elem (0, 0) hg1
   rw [gF (w := w.drew.setRow b' ar1.toArray) b' (0 + i) elem [.int .i64 x] ar1.toArray hg2 (by simp [hl1]; omega) h1v]
   obtain ⟨ar2, har2⟩ : ∃ ar2, ar2 = ar1.toArray.toList.take (0 + i) ++ [.int .i64 x] ++ ar1.toArray.toList.drop (0 + i + [Value.int .i64 x].length) := ⟨_, rfl⟩
   rw [← har2]
   have hl3 : ar2.length = cap := by
    rw [har2]
    simp [hl1]
    omega
   have hg3 := setRow_heap (w.drew.setRow b' ar1.toArray) b' ar1.toArray ar2.toArray elem (0, 0) hg2
   refine vT (g := b') (vb := vb') (cap := cap) (arr := ar2) (rest := us3) (R' := R) hnx (fun bs hb => ?_) hbF hvb0 hnd2 hg3 ?_ hfl2 (fun j hj => hRv j (by omega)) hl3 hcm (by rw [hl2]; exact hroom) hrest0 _ (by rw [hl2])
   ·refine tb (bz.trans (nN hg1 ar1.toArray (by simp [hl1, hsz]) hRv (by omega) bs hb) (nN hg2 ar2.toArray (by simp [hl1, hl3]) (fun j hj => hRv j (by simp [hl1] at hj; omega)) (by simp [hl1]; omega) bs hb))
   -- the cells
   have hv : vs.toList = ints l ++ (u0 :: us3) := hus
   rw [har2, har1, hv, ml]
   simp only [Nat.zero_add, List.toList_toArray, List.length_singleton]
   exact JJ (ints l) u0 (.int .i64 x) us3 i (by rw [hlen]; omega)
  have hil : i = l.length := by omega
  subst hil
  refine (Any2.slices_Insert_int_end_room L b' 0 l.length cap vb' 0 1 vc [.int .i64 x] w (by decide) hroom hcm rfl (fun j hj => ?_) (fun j _ => hfroz _) hvs h1v).mono ?_
  ·rw [Nat.add_assoc]; exact hsome _ (by omega)
  rintro e w' ⟨rfl, rfl⟩
  rw [gF (w := w) b' (0 + l.length) elem [.int .i64 x] vs hblk (by simp; omega) h1v]
  obtain ⟨ar2, har2⟩ : ∃ ar2, ar2 = vs.toList.take (0 + l.length) ++ [.int .i64 x] ++ vs.toList.drop (0 + l.length + [Value.int .i64 x].length) := ⟨_, rfl⟩
  rw [← har2]
  have hl3 : ar2.length = cap := by
   rw [har2]
   simp
   omega
  have hg3 := setRow_heap w b' vs ar2.toArray elem (0, 0) hblk
  refine vT (g := b') (vb := vb') (cap := cap) (arr := ar2) (rest := us3) (R' := R) hnx (fun bs hb => nN hblk ar2.toArray (by simp [hl3, hsz]) hRv (by omega) bs hb) hbF hvb0 hnd2 hg3 ?_ hfl2 (fun j hj => hRv j (by omega)) hl3 hcm (by rw [hl2]; exact hroom) hrest0 _ (by rw [hl2])
  have hv : vs.toList = ints l ++ (u0 :: us3) := hus
  rw [har2, hv, ml, Nat.zero_add, ← hlen, List.take_left, List.take_length, List.drop_length, List.length_singleton, List.drop_length_add_append]
  simp
 -- a new row
 have hcl : cap = l.length := by omega
 subst hcl
 have hge := grownCap_ge w (l.length + 1) l.length (ρ.t 3)
 have hgm : grownCap w (l.length + 1) l.length (ρ.t 3) <= iD := Nat.le_trans (grownCap_le_maxLen w (l.length + 1) l.length (ρ.t 3) (by unfold maxLen; omega)) (by decide)
 generalize hgc : grownCap w (l.length + 1) l.length (ρ.t 3) = gc at hge hgm
 have hltb : b' < w.heap.size := bH hblk
 have hltv : vb' < w.heap.size := bH hblk2
 have hzs : ∀ n, (Builtin.zeroCells (Value.int .i64 0).cells n).toList.length = n := fun n => by simp [Builtin.zeroCells, Value.cells]
 have WL : w.heap.size ∉ bsF := fun h => by have := hF _ h; omega
 have SG : ∀ j, R.more w.heap.size w.heap.size j := fun j => .inl rfl
 rcases Nat.lt_or_ge i l.length with hlt | hge2
 ·refine (Any2.slices_Insert_int_grow L b' 0 l.length l.length i vb' 0 1 vc (ints l) [.int .i64 x] w hlt (by decide) (Nat.le_refl _) (by omega) (by omega) hlen rfl hcs hvs ru h1v).mono ?_
  rw [hgc]
  rintro e w' ⟨rfl, rfl⟩
  obtain ⟨z1, hz1⟩ : ∃ z1, z1 = (Builtin.zeroCells (Value.int .i64 0).cells (l.length + 1 - i)).toList := ⟨_, rfl⟩
  obtain ⟨z2, hz2⟩ : ∃ z2, z2 = (Builtin.zeroCells (Value.int .i64 0).cells (gc - (l.length + 1))).toList := ⟨_, rfl⟩
  have hl1 : z1.length = l.length + 1 - i := by rw [hz1, hzs]
  have hl2' : z2.length = gc - (l.length + 1) := by rw [hz2, hzs]
  obtain ⟨ar0, har0⟩ : ∃ ar0, ar0 = (ints l).take i ++ z1 ++ z2 := ⟨_, rfl⟩
  have hc0 : (((ints l).take i).toArray ++ Builtin.zeroCells (Value.int .i64 0).cells (l.length + 1 - i) ++ Builtin.zeroCells (Value.int .i64 0).cells (gc - (l.length + 1))) = ar0.toArray := by rw [har0, hz1, hz2]; simp
  rw [hc0]
  have hl0 : ar0.length = gc := by rw [har0]; simp [hl1, hl2', hlen]; omega
  have hg0 : ((w.alloc (.cells ar0.toArray (ρ.t 3))).drew).heap[w.heap.size]? = some (.cells ar0.toArray (ρ.t 3) (0, 0)) := heap_alloc_new w _
  rw [gF (w := (w.alloc (.cells ar0.toArray (ρ.t 3))).drew) w.heap.size i (ρ.t 3) [.int .i64 x] ar0.toArray hg0 (by simp [hl0]; omega) h1v]
  obtain ⟨ar1, har1⟩ : ∃ ar1, ar1 = ar0.toArray.toList.take i ++ [.int .i64 x] ++ ar0.toArray.toList.drop (i + [Value.int .i64 x].length) := ⟨_, rfl⟩
  rw [← har1]
  have hl3 : ar1.length = gc := by rw [har1]; simp [hl0]; omega
  have hg1 := setRow_heap (w.alloc (.cells ar0.toArray (ρ.t 3))).drew w.heap.size ar0.toArray ar1.toArray (ρ.t 3) (0, 0) hg0
  have hg1' : (((w.alloc (.cells ar0.toArray (ρ.t 3))).drew.setRow w.heap.size ar1.toArray).drew).heap[w.heap.size]? = some (.cells ar1.toArray (ρ.t 3) (0, 0)) := hg1
  have hd : ((ints l).drop i).length = l.length - i := by simp [hlen]
  rw [gF (w := ((w.alloc (.cells ar0.toArray (ρ.t 3))).drew.setRow w.heap.size ar1.toArray).drew) w.heap.size (i + 1) (ρ.t 3) ((ints l).drop i) ar1.toArray hg1' (by rw [hd]; simp [hl3]; omega) (fun u hu => ru u (List.mem_of_mem_drop hu))]
  obtain ⟨ar2, har2⟩ : ∃ ar2, ar2 = ar1.toArray.toList.take (i + 1) ++ (ints l).drop i ++ ar1.toArray.toList.drop (i + 1 + ((ints l).drop i).length) := ⟨_, rfl⟩
  rw [← har2]
  have hl4 : ar2.length = gc := by rw [har2]; simp [hl3, hlen]; omega
  have hg2 := setRow_heap ((w.alloc (.cells ar0.toArray (ρ.t 3))).drew.setRow w.heap.size ar1.toArray).drew w.heap.size ar1.toArray ar2.toArray (ρ.t 3) (0, 0) hg1'
  refine vT (g := w.heap.size) (vb := vb') (cap := gc) (arr := ar2) (rest := z2) (R' := R.more w.heap.size) hnx (fun bs hb => ?_) WL (by omega) hnd2 hg2 ?_ hfl2 (fun j _ => SG j) hl4 hgm (by rw [hl2]; exact hge) hrest0 _ (by rw [hl2])
  ·have k1 : bz w R (w.alloc (.cells ar0.toArray (ρ.t 3))) (R.more w.heap.size) bs := fx _ (fun b off hb => Own.nF hb) bs
   have k2 := nN (R := R.more w.heap.size) hg0 ar1.toArray (by simp [hl0, hl3]) (fun j _ => SG j) (by simp [hl0]; omega) bs hb
   have k3 := nN (R := R.more w.heap.size) hg1' ar2.toArray (by simp [hl4, hl3]) (fun j _ => SG j) (by simp [hl3]; omega) bs hb
   exact k1.trans (tb (k2.trans (tb k3)))
  have e0 : ((ints l).take i).length = i := by simp [hlen]; omega
  obtain ⟨zz, z1', hz⟩ : ∃ zz z1', z1 = zz :: z1' := by
   cases z1 with
   | nil => simp at hl1; omega
   | cons a r => exact ⟨a, r, rfl⟩
  have hl5 : z1'.length = l.length - i := by rw [hz] at hl1; simp at hl1; omega
  have e1 : ar1 = (ints l).take i ++ .int .i64 x :: (z1' ++ z2) := by
   rw [har1, har0, hz]
   simp only [List.toList_toArray, List.length_singleton]
   exact QY _ z1' z2 (.int .i64 x) zz i e0
  rw [har2, e1, ml]
  simp only [List.toList_toArray]
  have e2 : ((ints l).take i ++ .int .i64 x :: (z1' ++ z2)).take (i + 1) = (ints l).take i ++ [.int .i64 x] := by
   rw [List.take_append, e0]
   simp [List.take_take]
  have e3 : ((ints l).take i ++ .int .i64 x :: (z1' ++ z2)).drop (i + 1 + ((ints l).drop i).length) = z2 := by
   have : i + 1 + ((ints l).drop i).length = ((ints l).take i).length + (1 + z1'.length) := by rw [e0, hd, hl5]; omega
   rw [this, List.drop_length_add_append, Nat.add_comm 1, List.drop_succ_cons, List.drop_left]
  rw [e2, e3]
  simp
 have hil : i = l.length := by omega
 subst hil
 refine (Any2.slices_Insert_int_end_grow L (some ⟨b', 0, none⟩) l.length l.length vb' 0 1 vc (ints l) [.int .i64 x] w (by decide) (Nat.le_refl _) (by omega) (by omega) hlen rfl (by simp) (fun a ha j v hj => ?_) hvs h1v).mono ?_
 ·simp only [Option.some.injEq] at ha
  subst ha
  rw [add_plain]
  exact hcs j v hj
 rw [hgc]
 rintro e w' ⟨rfl, rfl⟩
 obtain ⟨ar2, har2⟩ : ∃ ar2, ar2 = (ints l ++ [.int .i64 x]) ++ (Builtin.zeroCells (Value.int .i64 0).cells (gc - (l.length + 1))).toList := ⟨_, rfl⟩
 have hcells : ((ints l ++ [Value.int .i64 x]).toArray ++ Builtin.zeroCells (Value.int .i64 0).cells (gc - (l.length + 1))) = ar2.toArray := by rw [har2]; simp
 rw [hcells]
 have hl3 : ar2.length = gc := by rw [har2, List.length_append, hzs]; simp [hlen]; omega
 have hg3 : (w.drew.alloc (.cells ar2.toArray (ρ.t 3))).heap[w.heap.size]? = some (.cells ar2.toArray (ρ.t 3) (0, 0)) := heap_alloc_new w.drew _
 refine vT (g := w.heap.size) (vb := vb') (cap := gc) (arr := ar2) (rest := (Builtin.zeroCells (Value.int .i64 0).cells (gc - (l.length + 1))).toList) (R' := R.more w.heap.size) hnx (fun bs hb => gh _ (fun b off hb => Own.nF hb) bs) WL (by omega) hnd2 hg3 ?_ hfl2 (fun j _ => SG j) hl3 hgm (by rw [hl2]; exact hge) hrest0 _ (by rw [hl2])
 rw [har2, ml, ← hlen, List.take_length, List.drop_length]
/-- .. on nothing. -/
theorem Ch (L : Lays2.n21 P ρ) {x : Int} :
  aB P G (ρ.f 21) [.dat (.flat (.slice none 0 0)), iv (Int.ofNat 0), .win (.out 0) 1 0 1] [(.out 0, .cells [iv x])] 1
   (XQ ⟨.win (.out 1) 1 0 1, [(.out 1, .cells [iv x]), (.out 0, .cells [iv x])], 2⟩) := by
 intro w R N cargs bsA bsH bsF hargs hheap hnd hnx hglob hF
 obtain ⟨v0, r1, c0, d1, rfl, rfl, h0, hr1⟩ := aD hargs
 obtain ⟨v1, r2, c1, d2, rfl, rfl, h1, hr2⟩ := aD hr1
 obtain ⟨v2, r3, c2, d3, rfl, rfl, h2, hr3⟩ := aD hr2
 obtain ⟨rfl, rfl⟩ := ba hr3
 have hheap0 := hheap
 obtain ⟨vb, b3, b4, rfl, hvb, hobjv, hrest⟩ := hheap
 have hrest : b4 = [] := hrest
 subst hrest
 obtain ⟨vs2, elem2, sp2, hblk2, hrv2, hRv2, _⟩ := hobjv
 simp only [ak] at h0 h1 h2
 obtain ⟨rfl, h0⟩ := h0
 have hv : v0 = .slice none 0 0 := by
  have h0 : ep w R v0 (.flat (.slice none 0 0)) := h0
  cases h0 with | flat _ => rfl
 subst hv
 obtain ⟨rfl, vb', vc, hvb', rfl, hvc, _, hvlt, hvrow⟩ := h2
 have : vb' = vb := by rw [hvb] at hvb'; simpa using hvb'.symm
 subst this
 obtain ⟨rfl, h1⟩ := h1
 have h1 : ep w R v1 (.flat (.int .i64 (Int.ofNat 0))) := h1
 have e1 : v1 = .int .i64 (Int.ofNat 0) := by cases h1 with | flat _ => rfl
 subst e1
 obtain ⟨ws1, ws2, q3, q4, hws, rfl, hr2, hq4⟩ := ez hrv2
 obtain ⟨rfl, rfl, hfx⟩ := oY (l := [x]) hr2
 obtain ⟨rfl, _⟩ := oI hq4
 simp only [List.nil_append, List.append_nil] at hnd
 have hvs : ∀ j v, [Value.int .i64 x][j]? = some v -> w.cell? ⟨vb', 0 + j, none⟩ = some v := by
  intro j v hj
  refine ka hblk2 ?_
  rw [hws]
  cases j with
  | zero => simpa [ints] using hj
  | succ j => simp at hj
 have h1v : ∀ v ∈ [Value.int .i64 x], v.oneCell' = true := by intro v hv; simp at hv; subst hv; rfl
 have hltv : vb' < w.heap.size := bH hblk2
 have WL : w.heap.size ∉ bsF := fun h => by have := hF _ h; omega
 refine (Any2.slices_Insert_int_end_grow L none 0 0 vb' 0 1 vc [] [.int .i64 x] w (by decide) (Nat.le_refl _) (by omega) (by omega) rfl rfl (by simp) (by simp) hvs h1v).mono ?_
 have hge := grownCap_ge w (0 + 1) 0 (ρ.t 3)
 have hgm : grownCap w (0 + 1) 0 (ρ.t 3) <= iD := Nat.le_trans (grownCap_le_maxLen w (0 + 1) 0 (ρ.t 3) (by unfold maxLen; omega)) (by decide)
 generalize hgc : grownCap w (0 + 1) 0 (ρ.t 3) = gc at hge hgm
 have hzs : ∀ n, (Builtin.zeroCells (Value.int .i64 0).cells n).toList.length = n := fun n => by simp [Builtin.zeroCells, Value.cells]
 rintro e w' ⟨rfl, rfl⟩
 obtain ⟨ar2, har2⟩ : ∃ ar2, ar2 = Value.int .i64 x :: (Builtin.zeroCells (Value.int .i64 0).cells (gc - (0 + 1))).toList := ⟨_, rfl⟩
 have hcells : (([] ++ [Value.int .i64 x]).toArray ++ Builtin.zeroCells (Value.int .i64 0).cells (gc - (0 + 1))) = ar2.toArray := by
  apply Array.toList_inj.1
  rw [har2]
  simp
 rw [hcells]
 have hl3 : ar2.length = gc := by rw [har2, List.length_cons, hzs]; omega
 have hg3 : (w.drew.alloc (.cells ar2.toArray (ρ.t 3))).heap[w.heap.size]? = some (.cells ar2.toArray (ρ.t 3) (0, 0)) := heap_alloc_new w.drew _
 have hk : ∀ bs, bz w R (w.drew.alloc (.cells ar2.toArray (ρ.t 3))) (R.more w.heap.size) bs := fun bs => gh _ (fun b off hb => Own.nF hb) bs
 have hext := CR (N := N) (b := w.heap.size) hnx
 refine ⟨_, _, _, 2, R.more w.heap.size, bR N (.out 1) w.heap.size, [], [w.heap.size, vb'], rfl, ⟨rfl, rfl, rfl⟩, ?_, ?_, ?_, ?_, hk bsF, fun o b h => hext _ _ h⟩
 ·simp only [ak]
  refine ⟨trivial, w.heap.size, gc, by simp [outs, bR], rfl, hge, ⟨by decide, hgm⟩, bH hg3, ?_⟩
  rw [dV hg3]
  simp [hl3]
 ·refine ⟨w.heap.size, [], [vb'], rfl, by simp [outs, bR], ?_, ((by simpa using hheap0 : al w R (outs N) _ [vb']).keep (hk _)).ext (Dk hext)⟩
  refine ⟨ar2.toArray, ρ.t 3, (Builtin.zeroCells (Value.int .i64 0).cells (gc - (0 + 1))).toList.length, hg3, ?_, fun j _ => .inl rfl, fun h => by simp [cK] at h⟩
  have h2 := fJ (w := w.drew.alloc (.cells ar2.toArray (ρ.t 3))) (R := R.more w.heap.size) (N := outs (bR N (.out 1) w.heap.size)) (Builtin.zeroCells (Value.int .i64 0).cells (gc - (0 + 1))).toList
  have h3 : ag (w.drew.alloc (.cells ar2.toArray (ρ.t 3))) (R.more w.heap.size) (outs (bR N (.out 1) w.heap.size)) (vS [x]) (ints [x]) [] := Ge hfx
  have h4 := cy h3 h2
  have e : ar2.toArray.toList = ints [x] ++ (Builtin.zeroCells (Value.int .i64 0).cells (gc - (0 + 1))).toList := by rw [har2]; rfl
  rw [e]
  exact h4
 ·simp only [List.nil_append, List.cons_append]
  refine List.nodup_cons.2 ⟨?_, hnd⟩
  simp only [List.mem_cons, not_or]
  exact ⟨by omega, WL⟩
 intro o c ho
 by_cases hne : o = 1
 ·omega
 have : N (.out o) = some c := by simpa [bR, hne] using ho
 have := hnx o c this
 omega
/-- A row that nobody changes any more is data. -/
theorem aB.Rb {g : FuncId} {args : List ac} {r m : Nat} {l : List Int} {rest : Heap} (h : aB P G g args [] 0 (XQ ⟨.win (.out r) 1 0 l.length, (.out r, .cells (vS l)) :: rest, m⟩)) (hn : l.length <= jv) :
  aB P G g args [] 0 (XQ ⟨.dat (.slice (l.map fun x => .flat (.int .i64 x))), [], 0⟩) := by
 intro w R N cargs bsA bsH bsF ha hh hnd hnx hg hF
 refine (h w R N cargs bsA bsH bsF ha hh hnd hnx hg hF).mono ?_
 rintro e w' ⟨v, cv, hp, m', R', N', bsV, bsH', rfl, ⟨rfl, rfl, rfl⟩, hv, hh', hnd', hnx', hk, hN⟩
 simp only [ak] at hv
 obtain ⟨rfl, b, cap, hb, rfl, hcap, _, hblt, hrow⟩ := hv
 obtain ⟨b', b1, b2, rfl, hb', hobj, hrest⟩ := hh'
 have : b' = b := by rw [hb] at hb'; simpa using hb'.symm
 subst this
 obtain ⟨vs, elem, sp, hblk, hrv, hRv, _⟩ := hobj
 obtain ⟨us1, us2, q1, q2, hus, rfl, hr1, _⟩ := ez hrv
 obtain ⟨rfl, rfl, hfl⟩ := oY hr1
 have hbF : b' ∉ bsF := by
  intro hm
  have h1 : (b' :: ((([] ++ q2) ++ b2) ++ bsF)).Nodup := by simpa using hnd'
  exact (List.nodup_cons.1 h1).1 (List.mem_append_right _ hm)
 let R2 : Own := fun c off => c ≠ b' /\ R' c off
 have hk2 : bz w' R' w' R2 bsF := ⟨⟨rfl, rfl, rfl, Nat.le_refl _, fun c _ hno => ⟨rfl, fun off h => hno off h.2⟩, fun c off _ hno => ⟨fun h => hno h.2, rfl⟩, fun _ _ => rfl⟩, fun c hc _ => ⟨rfl, fun off h => ⟨fun e => hbF (e ▸ hc), h⟩⟩⟩
 refine ⟨_, _, _, 0, R2, fun m => match m with | .loc i => N' (.loc i) | .out _ => none, [], [], rfl, ⟨rfl, rfl, rfl⟩, ?_, rfl, ?_, by intro o c ho; simp at ho, hk.trans hk2, ?_⟩
 ·simp only [ak]
  refine ⟨trivial, ?_⟩
  have hl : l.length = (l.map fun x => an.flat (.int .i64 x)).length := by simp
  rw [hl]
  refine ep.slice b' 0 cap 1 _ (fun i _ => .int .i64 (l.getD i 0)) (by decide) ?_ (by simpa using hcap) (by simpa using hn) ?_ ?_
  ·intro e he
   obtain ⟨x, _, rfl⟩ := List.mem_map.1 he
   rfl
  ·intro i j hi hj
   have : j = 0 := by omega
   subst this
   simp only [List.length_map] at hi
   refine ⟨?_, fun h => h.1 rfl⟩
   refine ka hblk ?_
   rw [hus, show 0 + i * 1 + 0 = i by omega, List.getElem?_append_left (by simp [ints]; exact hi)]
   simp [ints, hi]
  intro i j e c he hc
  simp only [List.getElem?_map, Option.map_eq_some_iff] at he
  obtain ⟨x, hx, rfl⟩ := he
  have hc2 : c = .flat (.int .i64 x) := by
   have hc : [an.flat (.int .i64 x)][j]? = some c := hc
   cases j with
   | zero => simpa using hc.symm
   | succ j => simp at hc
  subst hc2
  obtain ⟨hi, rfl⟩ := List.getElem?_eq_some_iff.1 hx
  have : l.getD i 0 = l[i] := by simp [hi]
  rw [this]
  exact .flat (hfl _ (List.getElem_mem hi))
 ·have h1 : (b' :: ((([] ++ q2) ++ b2) ++ bsF)).Nodup := by simpa using hnd'
  have h2 := (List.nodup_cons.1 h1).2
  simpa using (List.nodup_append.1 h2).2.1
 intro o c ho
 have := hnx o c ho
 omega
end
end Go.Tp

namespace Go.Proofs.YtiihadmgkoamoaaGreatDoor
open Go.Tp
theorem dK (ls bs : List Nat) {g : FuncId} {x : mW} (hx : Gr.find g = some x) {args : List ac} {heap : Heap} {next : Nat} {r : eQ} (h : (L3 (Pp ls) (Pp bs) (env az.aU) cN aq aw x g args heap next).Ok Tryz.prog cN (fun y => y = r)) :
  KC g args heap next (XQ r) := AN (L2 GJ rA hx (fun _ _ => h))
theorem ra (k : Nat) : ∀ l : List Int, dJ k (vS l) = false
 | [] => rfl
 | d :: r => by show (dF k (iv d) || dJ k (vS r)) = false; rw [ra k r]; rfl
theorem gG (ρ : Nat -> Nat) : ∀ l : List Int, hO ρ (vS l) = vS l
 | [] => rfl
 | d :: r => by show eZ ρ (iv d) :: hO ρ (vS r) = _; rw [gG ρ r]; rfl
theorem qX (p : Nat -> Bool) : ∀ l : List Int, io p (vS l) = true
 | [] => rfl
 | d :: r => by show (Dy p (iv d) && io p (vS r)) = true; rw [qX p r]; rfl
theorem lW {g : FuncId} {args : List ac} {heap : Heap} {next : Nat} {Q Q' : ac -> Heap -> Nat -> Prop} (h : KC g args heap next Q) (hq : ∀ v h m, Q v h m -> ∃ h2, h.Perm h2 /\ Q' v h2 m) : KC g args heap next Q' := by
 intro w R N cargs bsA bsH bsF ha hh hnd hnx hg hF
 refine (h w R N cargs bsA bsH bsF ha hh hnd hnx hg hF).mono ?_
 rintro e w' ⟨v, cv, h1, next', R', N', bsV, bsH', rfl, hq1, hv, hh', hnd', hnx', hk, hN⟩
 obtain ⟨h2, hp, hq2⟩ := hq _ _ _ hq1
 obtain ⟨bs2, k1, k2⟩ := hh'.perm hp
 refine ⟨v, cv, h2, next', R', N', bsV, bs2, rfl, hq2, hv, k1, ?_, hnx', hk, hN⟩
 exact (List.Perm.nodup_iff (List.Perm.append_left _ (List.Perm.append_right _ k2))).1 hnd'
def sP : ac := .ptr (.out 0) 0
/-- A set of integers: the row's name, its elements. -/
def hS (r : Nat) : List Int -> Heap
 | [] => [(.out 0, .cells [.dat nl])]
 | x :: l => [(.out r, .cells (vS (x :: l))), (.out 0, .cells [.win (.out r) 1 0 (x :: l).length])]
def hR (r : Nat) (l : List Int) (n : Nat) : Heap := [(.out r, .cells (vS l)), (.out 0, .cells [.win (.out r) 1 0 n])]
theorem Is {r : Nat} {l : List Int} (h : l ≠ []) : hS r l = hR r l l.length := by cases l with | nil => exact absurd rfl h | cons x l => rfl
/-! ### BinarySearch, Insert, beside the set -/
theorem I7 {l : List Int} {x : Int} {n : Nat} (hs : l.Pairwise (· <= ·)) (hn : l.length < 1000000000) (hl : n = l.length) :
  KC 190 [.win (.out 1) 1 0 n, iv x] (hR 1 l n) 2 (XQ ⟨.tup [iv (Int.ofNat (l.countP (· < x))), bv (l.contains x)], hR 1 l n, 2⟩) := by
 subst hl
 have h := aB.frame (OS (G := cN) Tryz.YE (x := x) hs hn) (fun _ => 1) (heap := hR 1 l l.length) (rest := [(.out 0, .cells [.win (.out 1) 1 0 l.length])]) (next := 2) (by simp [hR, ni, qx, zi, gG]) rfl (by simp [cP, nC, ra]) rfl rfl
 refine lW h ?_
 rintro v h m ⟨v0, h1, n1, ⟨rfl, rfl, rfl⟩, rfl, rfl, rfl⟩
 refine ⟨hR 1 l l.length, ?_, rfl, rfl, rfl⟩
 simp [hR, ni, qx, zi, gG, jm]
 exact List.Perm.refl _
theorem JI {l : List Int} {x : Int} {i n : Nat} (hi : i <= l.length) (hn : l.length < 1000000000) (hl : n = l.length) :
  KC 191 [.win (.out 1) 1 0 n, iv (Int.ofNat i), .win (.out 2) 1 0 1] ((.out 2, .cells [iv x]) :: hR 1 l n) 3
   (XQ ⟨.win (.out 3) 1 0 (fP l i x).length, [(.out 3, .cells (vS (fP l i x))), (.out 2, .cells [iv x]), (.out 0, .cells [.win (.out 1) 1 0 n])], 4⟩) := by
 subst hl
 have h := aB.frame (OT (G := cN) Tryz.SC (x := x) hi hn) (fun o => o + 1) (heap := (.out 2, .cells [iv x]) :: hR 1 l l.length) (rest := [(.out 0, .cells [.win (.out 1) 1 0 l.length])]) (next := 3) (by simp [hR, ni, qx, zi, gG, hO, eZ]; exact List.Perm.swap _ _ _) rfl (by simp [cP, nC, ra, dJ, dF]) rfl rfl
 refine lW h ?_
 rintro v h m ⟨v0, h1, n1, ⟨rfl, rfl, rfl⟩, rfl, rfl, rfl⟩
 refine ⟨_, List.Perm.refl _, rfl, ?_, rfl⟩
 simp [ni, qx, zi, gG, hO, eZ, jm]
 exact ⟨rfl, rfl⟩
theorem insert_nil {x : Int} :
  KC 191 [.dat nl, iv (Int.ofNat 0), .win (.out 1) 1 0 1] [(.out 1, .cells [iv x]), (.out 0, .cells [.dat nl])] 2
   (XQ ⟨.win (.out 2) 1 0 1, [(.out 2, .cells [iv x]), (.out 1, .cells [iv x]), (.out 0, .cells [.dat nl])], 3⟩) := by
 have h := aB.frame (Ch (G := cN) Tryz.SC (x := x)) (fun o => o + 1) (heap := [(.out 1, .cells [iv x]), (.out 0, .cells [.dat nl])]) (rest := [(.out 0, .cells [.dat nl])]) (next := 2) (by rfl) rfl rfl rfl rfl
 refine lW h ?_
 rintro v h m ⟨v0, h1, n1, ⟨rfl, rfl, rfl⟩, rfl, rfl, rfl⟩
 exact ⟨_, List.Perm.refl _, rfl, rfl, rfl⟩
/-! ### add -/
theorem Fg {x : Int} : ae 190 [.dat nl, iv x] (.tup [iv (Int.ofNat 0), bv false]) := oG _ _ _ _ _ (by kernel_rfl)
theorem RR {x : Int} : KC 170 [sP, iv x] [(.out 0, .cells [.dat nl])] 1 (XQ ⟨.tup [], [(.out 2, .cells [iv x]), (.out 1, .cells [iv x]), (.out 0, .cells [.win (.out 2) 1 0 1])], 3⟩) := by
 have h1 := Fg (x := x)
 have h2 := insert_nil (x := x)
 refine dK [] [] (x := mW.of Tryz.f170 xA vM) (by kernel_rfl) ?_; refine on h1 ?_; refine oh h2 ?_; exact fi
theorem RS {l l2 : List Int} {x : Int} {i n n2 : Nat} (h1 : KC 190 [.win (.out 1) 1 0 n, iv x] (hR 1 l n) 2 (XQ ⟨.tup [iv (Int.ofNat i), bv false], hR 1 l n, 2⟩))
  (h2 : KC 191 [.win (.out 1) 1 0 n, iv (Int.ofNat i), .win (.out 2) 1 0 1] ((.out 2, .cells [iv x]) :: hR 1 l n) 3
   (XQ ⟨.win (.out 3) 1 0 n2, [(.out 3, .cells (vS l2)), (.out 2, .cells [iv x]), (.out 0, .cells [.win (.out 1) 1 0 n])], 4⟩)) :
  KC 170 [sP, iv x] (hR 1 l n) 2 (XQ ⟨.tup [], [(.out 3, .cells (vS l2)), (.out 2, .cells [iv x]), (.out 0, .cells [.win (.out 3) 1 0 n2])], 4⟩) := by
 refine dK [] [] (x := mW.of Tryz.f170 xA vM) (by kernel_rfl) ?_; refine oh h1 ?_; refine oh h2 ?_; exact fi
theorem RQ {l : List Int} {x : Int} {i n : Nat} (h1 : KC 190 [.win (.out 1) 1 0 n, iv x] (hR 1 l n) 2 (XQ ⟨.tup [iv (Int.ofNat i), bv true], hR 1 l n, 2⟩)) :
  KC 170 [sP, iv x] (hR 1 l n) 2 (XQ ⟨.tup [], hR 1 l n, 2⟩) := by
 refine dK [] [] (x := mW.of Tryz.f170 xA vM) (by kernel_rfl) ?_; refine oh h1 ?_; exact fi
def ik (l : List Int) (x : Int) : List Int := match l.contains x with | true => l | false => fP l (l.countP (· < x)) x
theorem DT {l : List Int} {i : Nat} {x : Int} : fP l i x ≠ [] := by simp [fP]
theorem RT {l : List Int} {x : Int} (h0 : l ≠ []) (hs : l.Pairwise (· <= ·)) (hn : l.length < 1000000000) :
  KC 170 [sP, iv x] (hR 1 l l.length) 2 (XQ ⟨.tup [], hR 2 (ik l x) (ik l x).length, 3⟩) := by
 have h1 := I7 (x := x) hs hn rfl
 unfold ik
 generalize hc : l.contains x = c at h1
 cases c
 ·have h2 := JI (x := x) (i := l.countP (· < x)) List.countP_le_length hn rfl
  refine aB.rn (RS h1 h2) ?_
  rintro v hp m ⟨rfl, rfl, rfl⟩
  refine ⟨[3], rfl, ?_, ?_⟩
  ·simp [hR, cd, Ju, MV, io, Dy, eB, ir, qX]
   rfl
  simp [hR, cd, ni, qx, zi, hO, eZ, eB, ir, mU, qk, gG]
  exact ⟨rfl, rfl, rfl⟩
 refine aB.rn (RQ h1) ?_
 rintro v hp m ⟨rfl, rfl, rfl⟩
 refine ⟨[1], rfl, ?_, ?_⟩
 ·simp [hR, cd, Ju, MV, io, Dy, eB, ir, qX]
  rfl
 simp [hR, cd, ni, qx, zi, hO, eZ, eB, ir, mU, qk, gG]
 exact ⟨rfl, rfl, rfl⟩
theorem EQ {x : Int} : KC 170 [sP, iv x] [(.out 0, .cells [.dat nl])] 1 (XQ ⟨.tup [], hR 1 [x] 1, 2⟩) := by
 refine aB.rn (RR (x := x)) ?_
 rintro v hp m ⟨rfl, rfl, rfl⟩
 exact ⟨[2], rfl, rfl, rfl, rfl, rfl⟩
theorem X7 {l : List Int} {x : Int} (hs : l.Pairwise (· <= ·)) (hn : l.length < 1000000000) (r m : Nat) :
  KC 170 [sP, iv x] (hS r l) m (XQ ⟨.tup [], hS m (ik l x), m + 1⟩) := by
 cases l with
 | nil =>
  have h := aB.frame (EQ (x := x)) (fun o => o) (heap := hS r []) (rest := []) (next := m) (by rfl) rfl rfl rfl rfl
  refine h.mono ?_
  rintro v h m' ⟨v0, h1, n1, ⟨rfl, rfl, rfl⟩, rfl, rfl, rfl⟩
  refine ⟨rfl, ?_, rfl⟩
  show _ = hS m [x]
  simp [hS, hR, ni, qx, zi, hO, eZ, gG, jm]
  exact ⟨rfl, rfl, rfl⟩
 | cons y l =>
  have h2 : ik (y :: l) x ≠ [] := by
   unfold ik
   cases (y :: l).contains x with
   | true => simp
   | false => exact DT
  rw [Is (by simp : (y :: l) ≠ []), Is h2]
  have h := aB.frame (RT (x := x) (by simp : (y :: l) ≠ []) hs hn) (fun o => match o with | 0 => 0 | _ => r) (heap := hR r (y :: l) (y :: l).length) (rest := []) (next := m) (by simp [hR, ni, qx, zi, gG, hO, eZ]) (by rfl) (by simp [cP, hR, nC, ra, dJ, dF]; rfl) (by rfl) rfl
  refine h.mono ?_
  rintro v h m' ⟨v0, h1, n1, ⟨rfl, rfl, rfl⟩, rfl, rfl, rfl⟩
  refine ⟨rfl, ?_, rfl⟩
  simp [hR, ni, qx, zi, hO, eZ, gG, jm]
  exact ⟨rfl, rfl, rfl⟩
/-! ### collectFree -/
noncomputable def WM : Hints := ⟨aq, sU, aw, rowsOf aw 142⟩
def Tb (k : Int) (nm : List UInt8) (ix : Int) (a : an) (n u : Nat) (H : Heap) (m : Nat) (i : Int) : ab := ⟨[(26, iv i), (25, iv (Int.ofNat n)), (24, .dat a), (3, .ptr (.loc 3) 0), (1, iv (Int.ofNat u)), (2, sP)], [(.loc 3, .cells [iv k, .dat (sb nm), iv ix, .dat a])], H, m⟩
def PJ (k : Int) (nm : List UInt8) (ix : Int) (a : an) (n u : Nat) (H : Heap) (m : Nat) (i : Int) : ab := ⟨[(27, bv false), (26, iv i), (25, iv (Int.ofNat n)), (24, .dat a), (3, .ptr (.loc 3) 0), (1, iv (Int.ofNat u)), (2, sP)], [(.loc 3, .cells [iv k, .dat (sb nm), iv ix, .dat a])], H, m⟩
theorem J9 {k : Int} {nm : List UInt8} {ix : Int} {x : an} {es : List an} {l : List Ty} {t : Ty} {i u b m m2 : Nat} {H H2 : Heap} (hl : ap l = x :: es) (hi : i < (ap l).length) (ht : l[i]? = some t)
  (hb : ae 126 [.dat (.agg [i64 k, sb nm, i64 ix, .slice (x :: es)]), iv (Int.ofNat i)] (iv (Int.ofNat b)))
  (hc : KC 142 [.dat t.enc, iv (aE .i64 (Int.ofNat u + Int.ofNat b)), sP] H m (XQ ⟨.tup [], H2, m2⟩)) {T : Exit -> aa -> Prop}
  (e : T .normal ((Tb k nm ix (.slice (x :: es)) (x :: es).length u H2 m2 (aE .i64 (Int.ofNat i + 1))).au Tryz.f142.ntmps)) :
  KD (roundOf Tryz.f142 0) T ((Tb k nm ix (.slice (x :: es)) (x :: es).length u H m (Int.ofNat i)).au Tryz.f142.ntmps) := by
 have h1 := bq hi
 have h2 := jg ht
 rw [hl] at h1 h2
 clear ht hi hl
 obtain ⟨k2, nm2, ix2, a2⟩ := t
 rcases a2 with _ | ⟨b2, d2⟩ <;>
 ·refine ax [27] [29] (H := WM) (live := oU) (by kernel_rfl) ?_; refine ob h1 ?_; refine oo h2 ?_; refine on hb ?_; refine oh hc ?_; exact oe e
theorem OJ {k : Int} {nm : List UInt8} {ix : Int} {a : an} {n u m : Nat} {H : Heap} {T : Exit -> aa -> Prop} (e : T (.exit 0) ((PJ k nm ix a n u H m (Int.ofNat n)).au Tryz.f142.ntmps)) :
  KD (roundOf Tryz.f142 0) T ((Tb k nm ix a n u H m (Int.ofNat n)).au Tryz.f142.ntmps) := by
 have h1 := bu (i := n) (L := n) (by omega)
 refine ax [27] [] (H := WM) (live := oU) (by kernel_rfl) ?_; refine ob h1 ?_; exact oe e
/-- What a root gives. -/
def dH (k ix : Int) (u : Nat) (s : List Int) : List Int := match aX k 5 with | false => s | true => (match bn ix (Int.ofNat u) with | true => s | false => ik s (ix - Int.ofNat u))
mutual
def Ty.cf : Ty -> Nat -> List Int -> List Int
 | .mk k _ ix args, u, s => pG k args 0 u (dH k ix u s)
def pG (k : Int) : List Ty -> Nat -> Nat -> List Int -> List Int
 | [], _, _, s => s
 | t :: r, j, u, s => pG k r (j + 1) u (t.cf (u + cM k j) s)
end
theorem IA {k : Int} {b : List Ty} {u : Nat} : ∀ {a : List Ty} {j : Nat} {s : List Int}, pG k (a ++ b) j u s = pG k b (j + a.length) u (pG k a j u s)
 | [], j, s => by simp [pG]
 | t :: r, j, s => by
  simp only [List.cons_append, pG, List.length_cons]
  rw [IA, show j + 1 + r.length = j + (r.length + 1) by omega]
theorem Ez {k : Int} {l : List Ty} {i u : Nat} {t : Ty} {s : List Int} (h : l[i]? = some t) : pG k (l.take (i + 1)) 0 u s = t.cf (u + cM k i) (pG k (l.take i) 0 u s) := by
 have hi := (List.getElem?_eq_some_iff.1 h).1
 rw [List.take_add_one, h, Option.toList_some, IA, Nat.zero_add, List.length_take, Nat.min_eq_left (by omega), pG, pG]
theorem Ka {k : Int} {nm : List UInt8} {ix : Int} {l : List an} {u m m2 m3 : Nat} {ck cg : Bool} {H H2 H3 : Heap} (hk : aX k 5 = ck) (hg : bn ix (Int.ofNat u) = cg)
  (ha : ck = true -> cg = false -> KC 170 [sP, iv (aE .i64 (ix - Int.ofNat u))] H m (XQ ⟨.tup [], H2, m2⟩)) (he : ck = false ∨ cg = true -> H2 = H /\ m2 = m)
  (hl : KD (.loop (roundOf Tryz.f142 0)) (fun e s => e = .exit 0 /\ s = (PJ k nm ix (sl l) l.length u H3 m3 (Int.ofNat l.length)).au Tryz.f142.ntmps) ((Tb k nm ix (sl l) l.length u H2 m2 (Int.ofNat 0)).au Tryz.f142.ntmps)) :
  KC 142 [.dat (.agg [i64 k, sb nm, i64 ix, sl l]), iv (Int.ofNat u), sP] H m (XQ ⟨.tup [], H3, m3⟩) := by
 cases ck
 ·obtain ⟨rfl, rfl⟩ := he (.inl rfl)
  clear he ha
  rcases l with _ | ⟨x, l⟩ <;>
  ·refine dK [10] [] (x := mW.of Tryz.f142 sU oU) (by kernel_rfl) ?_; refine ob hk ?_; refine lo hl ?_; rintro ex s ⟨rfl, rfl⟩; refine ⟨_, rfl, ?_⟩; exact fi
 cases cg
 ·have ha2 := ha rfl rfl
  clear he ha
  rcases l with _ | ⟨x, l⟩ <;>
  ·refine dK [10, 15] [] (x := mW.of Tryz.f142 sU oU) (by kernel_rfl) ?_; refine ob hk ?_; refine ox hg ?_; refine oh ha2 ?_; refine lo hl ?_; rintro ex s ⟨rfl, rfl⟩; refine ⟨_, rfl, ?_⟩; exact fi
 obtain ⟨rfl, rfl⟩ := he (.inr rfl)
 clear he ha
 rcases l with _ | ⟨x, l⟩ <;>
 ·refine dK [10, 15] [] (x := mW.of Tryz.f142 sU oU) (by kernel_rfl) ?_; refine ob hk ?_; refine ox hg ?_; refine lo hl ?_; rintro ex s ⟨rfl, rfl⟩; refine ⟨_, rfl, ?_⟩; exact fi
/-- Sets as they are built. -/
def fu (b : Nat) (s : List Int) : Prop := s.Pairwise (· <= ·) /\ s.length <= b
theorem countP_split {l : List Int} {x : Int} (hs : l.Pairwise (· <= ·)) : (∀ y ∈ l.take (l.countP (· < x)), y < x) /\ (∀ y ∈ l.drop (l.countP (· < x)), x <= y) := by
 induction l with
 | nil => simp
 | cons a r ih =>
  obtain ⟨h1, h2⟩ := ih (List.Pairwise.of_cons hs)
  by_cases ha : a < x
  ·rw [List.countP_cons_of_pos (by simpa using ha)]
   refine ⟨?_, ?_⟩
   ·intro y hy
    simp only [List.take_succ_cons, List.mem_cons] at hy
    rcases hy with rfl | hy
    ·exact ha
    exact h1 y hy
   simpa only [List.drop_succ_cons] using h2
  have h0 : (a :: r).countP (· < x) = 0 := by
   rw [List.countP_eq_zero]
   intro y hy
   have hay : a <= y := by
    rcases List.mem_cons.1 hy with rfl | hy
    ·exact Int.le_refl _
    exact List.rel_of_pairwise_cons hs hy
   simp only [decide_eq_true_eq]
   omega
  rw [h0]
  refine ⟨by simp, ?_⟩
  intro y hy
  simp only [List.drop_zero] at hy
  have hay : a <= y := by
   rcases List.mem_cons.1 hy with rfl | hy
   ·exact Int.le_refl _
   exact List.rel_of_pairwise_cons hs hy
  omega
theorem I6 {b : Nat} {s : List Int} {x : Int} (h : fu b s) : fu (b + 1) (ik s x) := by
 obtain ⟨h1, h2⟩ := h
 unfold ik
 cases s.contains x with
 | true => exact ⟨h1, Nat.le_succ_of_le h2⟩
 | false =>
  obtain ⟨c1, c2⟩ := countP_split (x := x) h1
  refine ⟨?_, ?_⟩
  ·unfold fP
   rw [List.pairwise_append]
   refine ⟨h1.sublist (List.take_sublist _ _), ?_, ?_⟩
   ·rw [List.pairwise_cons]
    exact ⟨c2, h1.sublist (List.drop_sublist _ _)⟩
   intro y hy z hz
   have := c1 y hy
   rcases List.mem_cons.1 hz with rfl | hz
   ·omega
   have := c2 z hz
   omega
  rw [ry List.countP_le_length]; omega
theorem wU {b : Nat} {k ix : Int} {u : Nat} {s : List Int} (h : fu b s) : fu (b + 1) (dH k ix u s) := by
 unfold dH
 cases aX k 5 with
 | false => exact ⟨h.1, Nat.le_succ_of_le h.2⟩
 | true =>
  cases bn ix (Int.ofNat u) with
  | true => exact ⟨h.1, Nat.le_succ_of_le h.2⟩
  | false => exact I6 h
mutual
theorem SL : ∀ (t : Ty) (u : Nat) {b : Nat} {s : List Int}, fu b s -> fu (b + t.size) (t.cf u s)
 | .mk k nm ix l, u, b, s, h => by
  rw [Ty.cf, Ty.size, show b + (aR l + 1) = b + 1 + aR l by omega]
  exact Cd l u (wU h)
theorem Cd {k : Int} : ∀ (l : List Ty) {j : Nat} (u : Nat) {b : Nat} {s : List Int}, fu b s -> fu (b + aR l) (pG k l j u s)
 | [], j, u, b, s, h => by simpa [pG, aR] using h
 | t :: r, j, u, b, s, h => by
  rw [pG, aR, ← Nat.add_assoc]
  exact Cd r u (SL t _ h)
end
def CF (t : Ty) (u : Nat) (s : List Int) : Prop := ∀ r m, 0 < r -> 0 < m -> KC 142 [.dat t.enc, iv (Int.ofNat u), sP] (hS r s) m (XQ ⟨.tup [], hS m (t.cf u s), m + 1⟩)
def CW (r m : Nat) : Nat -> Nat
 | 0 => r
 | i + 1 => m + i
theorem CV {r m i : Nat} (h1 : 0 < r) (h2 : 0 < m) : 0 < CW r m i := by cases i with | zero => exact h1 | succ i => simp only [CW]; omega
theorem Tk {f : FuncId} {args : List ac} {h0 : Heap} {m q mm : Nat} {s : List Int} (hm : 0 < m) (hq : 0 < q) (h : KC f args h0 m (XQ ⟨.tup [], hS q s, mm⟩)) : KC f args h0 m (XQ ⟨.tup [], hS m s, m + 1⟩) := by
 refine aB.rn h ?_
 rintro v hp m' ⟨rfl, rfl, rfl⟩
 refine ⟨[q], rfl, ?_, ?_⟩
 all_goals
  have e1 : ir 0 [q] = false := by cases q with | zero => omega | succ q => rfl
  have e2 : ir q [q] = true := by simp [ir]
  have e3 : eB m [q] 0 = true := by simp [eB, Nat.blt_eq, hm]
  have e4 : eB m [q] q = true := by simp [eB, e2]
  have e5 : mU m [q] 0 = 0 := by simp [mU, e1]
  have e6 : mU m [q] q = m := by simp [mU, e2, qk]
 ·cases s with
  | nil => simp [hS, cd, Ju, MV, io, Dy, e3]
  | cons x l => simp [hS, cd, Ju, MV, io, Dy, e3, e4, qX]
 ·cases s with
  | nil => simp [hS, cd, ni, qx, zi, hO, eZ, e3, e5]; exact ⟨rfl, rfl, rfl⟩
  | cons x l => simp [hS, cd, ni, qx, zi, hO, eZ, e3, e4, e5, e6, gG]; exact ⟨rfl, rfl, rfl⟩
theorem Rx {k : Int} {nm : List UInt8} {ix : Int} {l : List Ty} {u b : Nat} {s : List Int} (hs : fu b s) (hbd : b + 1 + aR l < 1000000000) (hu : u < 1000000000) (hix : aX k 5 = true -> bn ix 500000000 = true)
  (ih : ∀ t ∈ l, ∀ v s2, v <= u + 1 -> fu (b + 1 + aR l) s2 -> (∃ b2, fu b2 s2 /\ b2 + t.size <= b + 1 + aR l) -> CF t v s2) : CF (.mk k nm ix l) u s := by
 intro r m hr hm
 have hlen := ee l
 obtain ⟨r2, m2, hr2, hm2, hH2⟩ : ∃ r2 m2, 0 < r2 /\ 0 < m2 /\ ((aX k 5 = true -> bn ix (Int.ofNat u) = false -> KC 170 [sP, iv (aE .i64 (ix - Int.ofNat u))] (hS r s) m (XQ ⟨.tup [], hS r2 (dH k ix u s), m2⟩)) /\ (aX k 5 = false ∨ bn ix (Int.ofNat u) = true -> hS r2 (dH k ix u s) = hS r s /\ m2 = m)) := by
  unfold dH
  cases hk : aX k 5 with
  | false => exact ⟨r, m, hr, hm, by simp, fun _ => ⟨rfl, rfl⟩⟩
  | true =>
   cases hg : bn ix (Int.ofNat u) with
   | true => exact ⟨r, m, hr, hm, by simp, fun _ => ⟨rfl, rfl⟩⟩
   | false =>
    refine ⟨m, m + 1, hm, by omega, fun _ _ => ?_, by simp⟩
    have hix := hix hk
    rw [gl] at hg hix
    simp only [decide_eq_false_iff_not, decide_eq_true_eq] at hg hix
    have e : aE .i64 (ix - Int.ofNat u) = ix - Int.ofNat u := by
     rw [dx]
     simp only [Int.ofNat_eq_natCast] at hg ⊢
     exact wrap_i64 (by omega) (by omega)
    rw [e]
    exact X7 hs.1 (by have := hs.2; omega) r m
 have hs1 := wU (k := k) (ix := ix) (u := u) hs
 refine Tk (q := CW r2 m2 l.length) (mm := m2 + l.length) hm (CV hr2 hm2) ?_
 have hl : KD (.loop (roundOf Tryz.f142 0)) (fun e s' => e = .exit 0 /\ s' = (PJ k nm ix (sl (ap l)) (ap l).length u (hS (CW r2 m2 l.length) (pG k l 0 u (dH k ix u s))) (m2 + l.length) (Int.ofNat (ap l).length)).au Tryz.f142.ntmps)
   ((Tb k nm ix (sl (ap l)) (ap l).length u (hS r2 (dH k ix u s)) m2 (Int.ofNat 0)).au Tryz.f142.ntmps) := by
  refine bi (St := fun i => (Tb k nm ix (sl (ap l)) (ap l).length u (hS (CW r2 m2 i) (pG k (l.take i) 0 u (dH k ix u s))) (m2 + i) (Int.ofNat i)).au Tryz.f142.ntmps) (ap l).length ?_ ?_ (i := 0) (Nat.zero_le _)
  ·intro i hi
   obtain ⟨t, ht, hmem⟩ := get_mem hi
   have hi2 := hi
   rw [aC] at hi2
   have hbn : cM k i <= 1 := by unfold cM; split <;> omega
   obtain ⟨x, es, hx⟩ : ∃ x es, ap l = x :: es := by
    cases hl : ap l with
    | nil => rw [hl] at hi; simp at hi
    | cons x es => exact ⟨x, es, rfl⟩
   have hst := jP ht
   have hsl := qI (l := l) (i + 1)
   have hpre : fu (b + 1 + aR (l.take i)) (pG k (l.take i) 0 u (dH k ix u s)) := Cd _ u hs1
   have hcf := ih t hmem (u + cM k i) (pG k (l.take i) 0 u (dH k ix u s)) (by omega) ⟨hpre.1, by have := hpre.2; omega⟩ ⟨_, hpre, by omega⟩ (CW r2 m2 i) (m2 + i) (CV hr2 hm2) (by omega)
   rw [← wrap_add (n := u) (m := cM k i) (by omega)] at hcf
   have hbi := tG k nm ix (.slice (x :: es)) (.inr ⟨_, rfl⟩) i
   have e := J9 (T := pQ (fun s' => s' = (Tb k nm ix (sl (ap l)) (ap l).length u (hS (CW r2 m2 (i + 1)) (pG k (l.take (i + 1)) 0 u (dH k ix u s))) (m2 + (i + 1)) (Int.ofNat (i + 1))).au Tryz.f142.ntmps)
    (fun e s' => e = .exit 0 /\ s' = (PJ k nm ix (sl (ap l)) (ap l).length u (hS (CW r2 m2 l.length) (pG k l 0 u (dH k ix u s))) (m2 + l.length) (Int.ofNat (ap l).length)).au Tryz.f142.ntmps)) hx hi ht hbi hcf (by
     rw [hx, aZ (by omega), Ez ht]
     rfl)
   rw [hx]
   rw [hx] at e
   exact e
  refine OJ ⟨rfl, ?_⟩
  rw [aC, List.take_length]
 exact Ka rfl rfl hH2.1 hH2.2 hl
mutual
theorem AE : ∀ (t : Ty) (u : Nat) {b : Nat} {s : List Int}, fu b s -> b + t.size < 1000000000 -> u + t.depth < 1000000000 -> t.dy -> CF t u s
 | .mk k nm ix l, u, b, s, hs, hb, hu, hx => by
  simp only [Ty.size] at hb
  simp only [Ty.depth] at hu
  simp only [Ty.dy] at hx
  exact Rx hs (by omega) (by omega) hx.1 (yC l u (by omega) (by omega) hx.2)
theorem yC : ∀ (l : List Ty) (u : Nat) {B : Nat}, u + bA l + 1 < 1000000000 -> B < 1000000000 -> cI l -> ∀ t ∈ l, ∀ v s2, v <= u + 1 -> fu B s2 -> (∃ b2, fu b2 s2 /\ b2 + t.size <= B) -> CF t v s2
 | [], u, B, hu, _, hx, t, ht, _, _, _, _, _ => by simp at ht
 | y :: r, u, B, hu, hB, hx, t, ht, v, s2, hv, h1, h2 => by
  simp only [bA] at hu
  simp only [cI] at hx
  rcases List.mem_cons.1 ht with h3 | ht
  ·obtain ⟨b2, h4, h5⟩ := h2
   rw [h3] at h5 ⊢
   exact AE y v h4 (by omega) (by omega) hx.1
  exact yC r u (by omega) hB hx.2 t ht v s2 hv h1 h2
end
/-! ### FreeVars -/
theorem NZ {k : Int} {nm : List UInt8} {ix : Int} {l : List an} {s : List Int} (h : KC 142 [.dat (.agg [i64 k, sb nm, i64 ix, sl l]), iv (Int.ofNat 0), sP] [(.out 0, .cells [.dat nl])] 1 (XQ ⟨.tup [], hS 1 s, 2⟩)) :
  KC 119 [.dat (.agg [i64 k, sb nm, i64 ix, sl l])] [] 0 (XQ (match s with | [] => ⟨.dat nl, hS 1 [], 2⟩ | x :: r => ⟨.win (.out 1) 1 0 (x :: r).length, hS 1 (x :: r), 2⟩)) := by
 rcases l with _ | ⟨y, l⟩ <;>
 ·cases s with
  | nil =>
   refine dK [] [] (x := mW.of Tryz.f119 Bo BG) (by kernel_rfl) ?_; refine oh h ?_; exact fi
  | cons x r =>
   refine dK [] [] (x := mW.of Tryz.f119 Bo BG) (by kernel_rfl) ?_; refine oh h ?_; exact fi
def iN (x : Int) : an := .flat (.int .i64 x)
def Ty.fv (t : Ty) : List Int := t.cf 0 []
theorem BQ {t : Ty} : fu (0 + t.size) t.fv := SL t 0 ⟨List.Pairwise.nil, Nat.le_refl _⟩
theorem yD {t : Ty} (hs : t.size < 400000000) (hx : t.dy) : ae 119 [.dat t.enc] (.dat (sl (t.fv.map iN))) := by
 have h1 := AE t 0 (s := []) ⟨List.Pairwise.nil, Nat.le_refl 0⟩ (by omega) (by have := iC t; omega) hx 1 1 (by decide) (by decide)
 have h2 := BQ (t := t)
 unfold Ty.fv at h2 ⊢
 generalize t.cf 0 [] = s at h1 h2
 obtain ⟨k, nm, ix, l⟩ := t
 have h3 := NZ h1
 cases s with
 | nil =>
  refine aB.rn h3 ?_
  rintro v hp m ⟨rfl, rfl, rfl⟩
  exact ⟨[], rfl, rfl, rfl, rfl, rfl⟩
 | cons x r => exact aB.Rb h3 (by have := h2.2; simp only [jv]; omega)
def gw : List Ty -> Bool
 | t :: _ => t.closed 0
 | [] => false
def qe (k : Int) (nm : List UInt8) (ix : Int) (l : List Ty) : Bool :=
 if (!aX k 2 && !dX nm []) = true then false
 else if (!aX k 5 && !aX ix 0) = true then false
 else if (aX k 0 || aX k 1) = true then aX (Int.ofNat (ap l).length) 0
 else if aX k 2 = true then isIdent nm && (!fQ nm && (!bn 6 (Int.ofNat (ap l).length) && !fZ l))
 else if aX k 3 = true then !bn 6 (Int.ofNat (ap l).length)
 else if aX k 4 = true then !bn (Int.ofNat (ap l).length) 2
 else if aX k 5 = true then aX (Int.ofNat (ap l).length) 0 && (!bn ix 0 && !bn 200 ix)
 else if aX k 6 = true then aX (Int.ofNat (ap l).length) 2 && gw l
 else false
theorem EA {k : Int} {nm : List UInt8} {ix : Int} {l : List Ty} (hp : ∀ t ∈ l, ae 117 [.dat t.enc] (bv t.plain)) (hcl : ∀ t ∈ l, ae 139 [.dat t.enc, iv (Int.ofNat 0)] (bv (t.closed 0)))
  (hb : l.length < 1000000000) : ae 167 [.dat (Ty.mk k nm ix l).enc] (bv (qe k nm ix l)) := by
 have hid := tE nm
 have hrs := uX nm
 have hpa := uW (k := k) (nm := nm) (ix := ix) hp hb
 have hfc : ∀ t r, l = t :: r -> ae 139 [.dat t.enc, iv (Int.ofNat 0)] (bv (gw l)) := by
  rintro t r rfl
  exact hcl t (by simp)
 unfold qe
 generalize gw l = fc at hfc
 generalize isIdent nm = ci at hid
 generalize fQ nm = cr at hrs
 generalize fZ l = cp at hpa
 generalize h0 : aX k 0 = c0
 generalize h1 : aX k 1 = c1
 generalize h2 : aX k 2 = c2
 generalize h3 : aX k 3 = c3
 generalize h4 : aX k 4 = c4
 generalize h5 : aX k 5 = c5
 generalize h6 : aX k 6 = c6
 generalize hn : dX nm [] = cn
 generalize hx : aX ix 0 = cx
 generalize hl6 : bn 6 (Int.ofNat (ap l).length) = l6
 generalize hl2 : bn (Int.ofNat (ap l).length) 2 = l2
 generalize he0 : aX (Int.ofNat (ap l).length) 0 = e0
 generalize he2 : aX (Int.ofNat (ap l).length) 2 = e2
 generalize hx0 : bn ix 0 = x0
 generalize hx2 : bn 200 ix = x2
 clear hp hcl hb
 rcases l with _ | ⟨t, r⟩ <;>
 ·refine co [5, 9, 14, 18, 24, 25, 31, 53, 59, 65, 81, 29, 46, 57, 63, 69, 73, 78, 85] [89] (x := .of Tryz.f167 FB H7) ?_; refine bb (b := !c2) (c := !aX k 2) (by rw [h2]) (by kernel_rfl) ?_
  cases c2
  ·refine bb (b := !cn) (c := !dX nm []) (by rw [hn]) (by kernel_rfl) ?_
   cases cn with
   | false => exact fi
   | true =>
    refine bb (b := !c5) (c := !aX k 5) (by rw [h5]) (by kernel_rfl) ?_
    cases c5
    ·refine bb (b := !cx) (c := !aX ix 0) (by rw [hx]) (by kernel_rfl) ?_
     cases cx with
     | false => exact fi
     | true =>
      refine ob h0 ?_
      cases c0
      ·refine ob h1 ?_
       cases c1
       ·refine ob h2 ?_; refine ob h3 ?_
        cases c3
        ·refine ob h4 ?_
         cases c4
         ·refine ob h5 ?_; refine ob h6 ?_
          cases c6 with
          | false => exact fi
          | true =>
           refine ob he2 ?_
           cases e2 with
           | false => exact fi
           | true =>
            first
            |exact absurd he2 (by decide)
            |have hc := hfc _ _ rfl
             have hidx := jg (l := t :: r) (i := 0) (t := t) rfl
             obtain ⟨k2, nm2, ix2, a2⟩ := t
             rcases a2 with _ | ⟨b, d⟩ <;>
             ·refine oo hidx ?_; refine on hc ?_
              cases fc <;> exact fi
         refine bb (b := !l2) (c := !bn _ 2) (by rw [hl2]) (by kernel_rfl) ?_
         cases l2 <;> exact fi
        refine bb (b := !l6) (c := !bn 6 _) (by rw [hl6]) (by kernel_rfl) ?_
        cases l6 <;> exact fi
       refine ob he0 ?_
       cases e0 <;> exact fi
      refine ob he0 ?_
      cases e0 <;> exact fi
    refine ob h0 ?_
    cases c0
    ·refine ob h1 ?_
     cases c1
     ·refine ob h2 ?_; refine ob h3 ?_
      cases c3
      ·refine ob h4 ?_
       cases c4
       ·refine ob h5 ?_; refine ob he0 ?_
        cases e0 with
        | false => exact fi
        | true =>
         refine bb (b := !x0) (c := !bn ix 0) (by rw [hx0]) (by kernel_rfl) ?_
         cases x0
         ·refine bb (b := !x2) (c := !bn 200 ix) (by rw [hx2]) (by kernel_rfl) ?_
          cases x2 <;> exact fi
         exact fi
       exact absurd h4 (by rw [fS] at h5 ⊢; simp at h5 ⊢; omega)
      exact absurd h3 (by rw [fS] at h5 ⊢; simp at h5 ⊢; omega)
     exact absurd h1 (by rw [fS] at h5 ⊢; simp at h5 ⊢; omega)
    exact absurd h0 (by rw [fS] at h5 ⊢; simp at h5 ⊢; omega)
  refine bb (b := !c5) (c := !aX k 5) (by rw [h5]) (by kernel_rfl) ?_
  cases c5
  ·refine bb (b := !cx) (c := !aX ix 0) (by rw [hx]) (by kernel_rfl) ?_
   cases cx with
   | false => exact fi
   | true =>
    refine ob h0 ?_
    cases c0
    ·refine ob h1 ?_
     cases c1
     ·refine ob h2 ?_; refine on hid ?_
      cases ci with
      | false => exact fi
      | true =>
       refine on hrs ?_
       cases cr
       ·refine bb (b := !l6) (c := !bn 6 _) (by rw [hl6]) (by kernel_rfl) ?_
        cases l6
        ·refine on hpa ?_
         cases cp <;> exact fi
        exact fi
       exact fi
     exact absurd h1 (by rw [fS] at h2 ⊢; simp at h2 ⊢; omega)
    exact absurd h0 (by rw [fS] at h2 ⊢; simp at h2 ⊢; omega)
  exact absurd h5 (by rw [fS] at h2 ⊢; simp at h2 ⊢; omega)
mutual
def Ty.valid : Ty -> Bool
 | .mk k nm ix l => qe k nm ix l && !mS l
def mS : List Ty -> Bool
 | [] => false
 | t :: r => !t.valid || mS r
end
theorem AK : ∀ l : List Ty, mS l = l.any (fun t => !t.valid)
 | [] => by simp [mS]
 | t :: r => by simp [mS, AK r]
theorem EY {k : Int} {nm : List UInt8} {ix : Int} {l : List Ty} (hv : ∀ t ∈ l, ae 138 [.dat t.enc] (bv t.valid)) (hs : (Ty.mk k nm ix l).size < 1000000000) : ae 138 [.dat (Ty.mk k nm ix l).enc] (bv (Ty.mk k nm ix l).valid) := by
 have hsz : aR l < 1000000000 := by simp only [Ty.size] at hs; omega
 have hb : l.length < 1000000000 := by have := ee l; omega
 have hdp := ja l
 have h1 := EA (k := k) (nm := nm) (ix := ix) (yA l hsz) (tF l 0 hsz (by omega)) hb
 have h2 : ∀ t ∈ l, ae 168 [.dat t.enc] (bv (!t.valid)) := by
  intro t ht
  have hc := hv t ht
  generalize t.valid = c at hc
  obtain ⟨k2, nm2, ix2, a2⟩ := t
  rcases a2 with _ | ⟨b, d⟩ <;> cases c <;>
  ·refine co [] [] (x := .of Tryz.f168 FA H6) ?_; refine on hc ?_; exact fi
 have h3 := yO h2 hb
 rw [Ty.valid, AK]
 generalize l.any (fun t => !t.valid) = ca at h3
 generalize qe k nm ix l = cn at h1
 clear hv hs hsz hb hdp h2
 rcases l with _ | ⟨b, d⟩ <;>
 ·refine co [] [] (x := .of Tryz.f138 FH Ie) ?_; refine on h1 ?_
  cases cn with
  | false => exact fi
  | true =>
   refine on h3 ?_
   cases ca <;> exact fi
mutual
theorem IB : ∀ t : Ty, t.size < 1000000000 -> ae 138 [.dat t.enc] (bv t.valid)
 | .mk k nm ix l, h => EY (EB l (by simp only [Ty.size] at h; omega)) h
theorem EB : ∀ l : List Ty, aR l < 1000000000 -> ∀ t ∈ l, ae 138 [.dat t.enc] (bv t.valid)
 | [], _, t, ht => by simp at ht
 | x :: r, h, t, ht => by
  simp only [aR] at h
  rcases List.mem_cons.1 ht with h1 | ht
  ·rw [h1]; exact IB x (by omega)
  exact EB r (by omega) t ht
end
/-- What Validate answers. -/
def Ty.validate (t : Ty) : Int := match bn 200 (Int.ofNat t.size) || bn 12 (Int.ofNat t.depth) with | true => 4 | false => (match t.valid with | true => 0 | false => 2)
theorem GU (t : Ty) (h : t.size < 1000000000) : ae 116 [.dat t.enc] (iv t.validate) := by
 have h1 := OR t h
 have h2 := IF t h
 have h3 := IB t h
 unfold Ty.validate
 generalize hs : t.size = n at h1 h
 generalize t.depth = m at h2
 generalize t.valid = c at h3
 generalize hn : bn 200 (Int.ofNat n) = cn
 generalize hm : bn 12 (Int.ofNat m) = cm
 clear hs h
 obtain ⟨k2, nm2, ix2, a2⟩ := t
 rcases a2 with _ | ⟨b, d⟩ <;>
 ·refine co [6, 10] [] (x := .of Tryz.f116 FO Im) ?_; refine on h1 ?_; refine ob hn ?_
  cases cn
  ·refine on h2 ?_; refine ob hm ?_
   cases cm
   ·refine on h3 ?_
    cases c <;> exact fi
   exact fi
  exact fi
noncomputable def PA : TI := match Go.Tp.elemOf (env az.aU) 22 with | some t => t | none => default
theorem KK : Go.Tp.elemOf (env az.aU) 22 = some PA := by kernel_rfl
theorem mY : PA.size = 1 := by kernel_rfl
theorem JM {l : List Int} {i : Nat} {t : Int} (h : l[i]? = some t) : aL (env az.aU) 22 [.dat (.slice (l.map iN)), .dat (.flat (.int .i64 (Int.ofNat i)))] = some ⟨.ref [iN t], .keep⟩ :=
 sd (d := iN t) KK rfl (by rw [List.getElem?_map, h]; rfl) (by rw [mY]; rfl) (by rw [mY]; decide)
theorem RC {x ar : Int} : ae 120 [iv x, .ref [iN ar]] (bv (!bn x ar)) := by
 generalize h : bn x ar = c
 refine co [6] [] (x := .of Tryz.f120 FL Ij) ?_; refine ox h ?_
 cases c <;>
 ·exact fi
def XW (ar : Int) : ac := .fn (.func 120) [] [.ref [iN ar]]
noncomputable def TW : Hints := ⟨aq, Bi, aw, rowsOf aw 141⟩
def V4 (ar : Int) (a : an) (n : Nat) (i : Int) : ab := ⟨[(8, iv i), (7, iv (Int.ofNat n)), (0, .dat a), (1, XW ar)], [], [], 0⟩
def V2 (ar : Int) (a : an) (n : Nat) : ab := ⟨[(9, bv false), (8, iv (Int.ofNat n)), (7, iv (Int.ofNat n)), (0, .dat a), (1, XW ar)], [], [], 0⟩
def V3 (i : Nat) : ab := ⟨[(4, iv (Int.ofNat i))], [], [], 0⟩
theorem Fv {l : List Int} {x ar : Int} {i : Nat} {c : Bool} {T : Exit -> aa -> Prop} (hi : i < (l.map iN).length) (ht : l[i]? = some x) (hc : ae 120 [iv x, .ref [iN ar]] (bv c))
  (e1 : c = false -> T .normal ((V4 ar (.slice (l.map iN)) (l.map iN).length (aE .i64 (Int.ofNat i + 1))).au Tryz.f141.ntmps)) (e2 : c = true -> T .ret ((V3 i).au Tryz.f141.ntmps)) :
  KD (roundOf Tryz.f141 0) T ((V4 ar (.slice (l.map iN)) (l.map iN).length (Int.ofNat i)).au Tryz.f141.ntmps) := by
 have h1 := bq hi
 have h2 := JM ht
 generalize l.map iN = es at *
 clear ht hi
 cases c
 ·refine ax [9] [14] (H := TW) (live := rl) (by kernel_rfl) ?_; refine ob h1 ?_; refine oo h2 ?_; refine on hc ?_; exact oe (e1 rfl)
 refine ax [9] [14] (H := TW) (live := rl) (by kernel_rfl) ?_; refine ob h1 ?_; refine oo h2 ?_; refine on hc ?_; exact oe (e2 rfl)
theorem Me {ar : Int} {a : an} {n : Nat} {T : Exit -> aa -> Prop} (e1 : T (.exit 0) ((V2 ar a n).au Tryz.f141.ntmps)) :
  KD (roundOf Tryz.f141 0) T ((V4 ar a n (Int.ofNat n)).au Tryz.f141.ntmps) := by
 have h1 := bu (i := n) (L := n) (by omega)
 refine ax [9] [] (H := TW) (live := rl) (by kernel_rfl) ?_; refine ob h1 ?_; exact oe e1
theorem Qf {l : List Int} {ar : Int} (hb : l.length < 1000000000) : ae 141 [.dat (sl (l.map iN)), XW ar] (iv (oX (fun x => !bn x ar) l 0)) := by
 have hl : ∀ a, a = sl (l.map iN) -> KD (.loop (roundOf Tryz.f141 0)) (fun e s => (e = .exit 0 /\ oX (fun x => !bn x ar) l 0 = -1 /\ s = (V2 ar a (l.map iN).length).au Tryz.f141.ntmps) ∨ (e = .ret /\ ∃ i : Nat, oX (fun x => !bn x ar) l 0 = Int.ofNat i /\ s = (V3 i).au Tryz.f141.ntmps)) ((V4 ar a (l.map iN).length (Int.ofNat 0)).au Tryz.f141.ntmps) := by
  intro a ha
  refine bW (St := fun i => (V4 ar a (l.map iN).length (Int.ofNat i)).au Tryz.f141.ntmps) (fun i => oX (fun x => !bn x ar) l 0 = oX (fun x => !bn x ar) (l.drop i) i) (l.map iN).length ?_ ?_ (i := 0) (Nat.zero_le _) rfl
  ·intro i hi hI
   have hi2 := hi
   rw [List.length_map] at hi2
   have ht : l[i]? = some l[i] := List.getElem?_eq_getElem hi2
   generalize l[i] = t at ht
   have hd := rp (p := fun x => !bn x ar) ht
   have hw : aE .i64 (Int.ofNat i + 1) = Int.ofNat (i + 1) := aZ (by omega)
   rw [← hI] at hd
   have ha2 : a = .slice (l.map iN) := by
    rw [ha]
    cases l with
    | nil => simp at ht
    | cons x r => rfl
   subst ha2
   have hc := RC (x := t) (ar := ar)
   generalize (!bn t ar) = c at hc hd
   refine Fv hi ht hc ?_ ?_
   ·rintro rfl
    rw [hw]
    exact ⟨rfl, hd⟩
   rintro rfl
   exact .inr ⟨rfl, i, hd, rfl⟩
  intro hI
  refine Me (.inl ⟨rfl, ?_, rfl⟩)
  rw [hI, List.length_map, List.drop_length]
  rfl
 have hl := hl _ rfl
 clear hb
 generalize hj : oX (fun x => !bn x ar) l 0 = j at hl
 clear hj
 generalize l.map iN = es at *
 rcases es with _ | ⟨x, es⟩ <;>
 ·refine co [] [] (x := .of Tryz.f141 Bi rl) ?_; refine lo hl ?_
  rintro ex s (⟨rfl, rfl, rfl⟩ | ⟨rfl, ⟨x0, rfl, rfl⟩⟩) <;>
  ·refine ⟨_, rfl, ?_⟩; exact fi
theorem Mf {l : List Int} {ar : Int} (hb : l.length < 1000000000) : ae 118 [.dat (sl (l.map iN)), XW ar] (bv (l.any (fun x => !bn x ar))) := by
 have h := Qf (ar := ar) hb
 have h3 := BK (p := fun x => !bn x ar) (l := l) (i := 0)
 generalize oX (fun x => !bn x ar) l 0 = j at h h3
 have e : l.any (fun x => !bn x ar) = !(!(l.any (fun x => !bn x ar))) := by rw [Bool.not_not]
 rw [e]
 generalize l.any (fun x => !bn x ar) = c at h3
 generalize l.map iN = es at *
 clear hb e
 rcases es with _ | ⟨x, es⟩ <;>
 ·refine co [8] [] (x := .of Tryz.f118 FM Ik) ?_; refine on h ?_; refine ox h3 ?_; exact fi
theorem Jq {k : Int} {nm : List UInt8} {ix ar v : Int} {l fv : List an} {c1 c2 c3 : Bool} (h1 : ae 116 [.dat (.agg [i64 k, sb nm, i64 ix, sl l])] (iv v)) (hv : aX v 0 = c1) (h2 : ae 117 [.dat (.agg [i64 k, sb nm, i64 ix, sl l])] (bv c2))
 (h3 : ae 119 [.dat (.agg [i64 k, sb nm, i64 ix, sl l])] (.dat (sl fv))) (h4 : ae 118 [.dat (sl fv), XW ar] (bv c3)) : ae 89 [.dat (.agg [i64 k, sb nm, i64 ix, sl l]), iv ar] (bv (c1 && (c2 && !c3))) := by
 rcases l with _ | ⟨x, l⟩ <;>
 ·rcases fv with _ | ⟨y, fv⟩ <;>
  ·refine co [7] [] (x := .of Tryz.f89 Mi Ng) ?_; refine on h1 ?_; refine ob hv ?_
   cases c1
   ·exact fi
   refine on h2 ?_
   cases c2
   ·exact fi
   refine on h3 ?_; refine on h4 ?_; exact fi
def Ty.over (t : Ty) (ar : Int) : Bool := aX t.validate 0 && (t.plain && !(t.fv.any (fun x => !bn x ar)))
theorem uV {t : Ty} {ar : Int} (h : t.ct) : ae 89 [.dat t.enc, iv ar] (bv (t.over ar)) := by
 have hs := h.1
 have h1 := GU t (by omega)
 have h2 := ID t (by omega)
 have h3 := yD (by omega) h.2
 have h4 := Mf (l := t.fv) (ar := ar) (by have := (BQ (t := t)).2; omega)
 obtain ⟨k, nm, ix, l⟩ := t
 exact Jq h1 rfl h2 h3 h4
def TB (c : Bool) (r m : Int) : Int := match c with | true => aE .i64 (r + m) | false => r
theorem P3 {n m : Int} (h : aX m 0 = false) : Kr (env az.aU) .rem 3 [iv n, iv m] = some ⟨iv (n.tmod m), .keep⟩ := by
 have h1 : Kr (env az.aU) .rem 3 [iv n, iv m] = Tx (if aX m 0 = true then none else some (.int .i64 (n.tmod m))) := by kernel_rfl
 rw [h1, h]
 rfl
theorem TA {n m : Int} {c : Bool} (h1 : Kr (env az.aU) .rem 3 [iv n, iv m] = some ⟨iv (n.tmod m), .keep⟩) (h2 : bn (n.tmod m) 0 = c) : ae 13 [iv n, iv m] (iv (TB c (n.tmod m) m)) := by
 refine co [9] [7] (x := .of Tryz.f13 MP NC) ?_; refine oo h1 ?_; refine ob h2 ?_
 cases c <;>
 ·exact fi
theorem NW (n : Int) {m : Nat} (hm : 0 < m) (hb : m < 1000000000) : ae 13 [iv n, iv (Int.ofNat m)] (iv (n % Int.ofNat m)) := by
 have h := TA (n := n) (m := Int.ofNat m) (P3 (by rw [fS, beq_eq_false_iff_ne]; intro h; have := Int.ofNat.inj (h.trans (show (0 : Int) = Int.ofNat 0 from rfl)); omega)) rfl
 have e : TB (bn (n.tmod (Int.ofNat m)) 0) (n.tmod (Int.ofNat m)) (Int.ofNat m) = n % Int.ofNat m := by
  have h0 : (0 : Int) < Int.ofNat m := by simp; omega
  have h1 := Int.emod_nonneg n (show Int.ofNat m ≠ 0 by omega)
  have h2 := Int.emod_lt_of_pos n h0
  have h3 : Int.ofNat m < 1000000000 := by simp; omega
  rw [gl]
  have ht := Int.tmod_eq_emod (a := n) (b := Int.ofNat m)
  generalize Int.ofNat m = M at *
  generalize n % M = q at *
  rw [ht]
  unfold TB
  split at ht
  ·rename_i hc
   rw [if_pos hc, show ((0 : Nat) : Int) = 0 from rfl, Int.sub_zero]
   rw [decide_eq_false (by omega)]
  rename_i hc
  rw [if_neg hc]
  have hM : (M.natAbs : Int) = M := by omega
  rw [hM]
  rw [decide_eq_true (by omega)]
  dsimp only
  rw [dx, wrap_i64 (by omega) (by omega)]
  omega
 rw [e] at h
 exact h
/-- The stream: the list and the place. -/
def eD (l : List an) (k : Int) : Heap := [(.out 0, .cells [.dat (.slice l), iv k])]
def eu : ac := .ptr (.out 0) 0
theorem NX {l : List an} : KC 15 [.dat (.slice l)] [] 0 (XQ ⟨eu, eD l 0, 1⟩) := by
 refine co [] [] (x := .of Tryz.f15 MK NA) ?_; exact fi
theorem HT {l : List an} {k n x r : Int} {c : Bool} (h1 : bn k (Int.ofNat l.length) = c) (h2 : c = true -> aL (env az.aU) 22 [.dat (.slice l), .dat (.flat (.int .i64 (aE .i64 (aE .i64 (k + 1) - 1))))] = some ⟨.ref [iN x], .keep⟩) (h3 : ae 13 [iv x, iv n] (iv r)) :
  KC 64 [eu, iv n] (eD l k) 1 (XQ ⟨iv (match c with | true => r | false => 0), eD l (match c with | true => aE .i64 (k + 1) | false => k), 1⟩) := by
 refine co [14] [31] (x := .of Tryz.f64 Ms Nq) ?_; refine ox h1 ?_
 cases c
 ·exact fi
 refine oo (h2 rfl) ?_; refine on h3 ?_; exact fi
/-- Next: a number below n, the stream a place further. -/
theorem eg {l : List Int} {k : Nat} {n : Nat} (hl : l.length < 1000000000) (hk0 : k <= l.length) (hn : 0 < n) (hb : n < 1000000000) :
  ∃ r k2 : Nat, (r < n /\ k <= k2 /\ k2 <= l.length /\ (0 < r -> k < k2)) /\ KC 64 [eu, iv (Int.ofNat n)] (eD (l.map iN) (Int.ofNat k)) 1 (XQ ⟨iv (Int.ofNat r), eD (l.map iN) (Int.ofNat k2), 1⟩) := by
 by_cases hk : k < l.length
 ·have hg : l[k]? = some l[k] := List.getElem?_eq_getElem hk
  have hw : aE .i64 (Int.ofNat k + 1) = Int.ofNat (k + 1) := aZ (by omega)
  have hw2 : aE .i64 (Int.ofNat (k + 1) - 1) = Int.ofNat k := by
   rw [dx, show Int.ofNat (k + 1) - 1 = Int.ofNat k by simp]
   exact wrap_i64 (by show _ <= (k : Int); omega) (by show (k : Int) <= _; omega)
  have h0 := Int.emod_nonneg l[k] (show Int.ofNat n ≠ 0 from fun h => absurd (Int.ofNat.inj (h.trans (show (0 : Int) = Int.ofNat 0 from rfl))) (by omega))
  have h2 := Int.emod_lt_of_pos l[k] (show (0 : Int) < Int.ofNat n from Int.ofNat_lt.2 hn)
  refine ⟨(l[k] % Int.ofNat n).toNat, k + 1, ⟨(Int.toNat_lt h0).2 h2, by omega, by omega, fun _ => by omega⟩, ?_⟩
  have h := HT (l := l.map iN) (k := Int.ofNat k) (x := l[k]) (n := Int.ofNat n) (r := l[k] % Int.ofNat n) (c := true) (by rw [jd, List.length_map, decide_eq_true hk]) (fun _ => by rw [hw, hw2]; exact JM hg) (NW _ hn hb)
  dsimp only at h
  rw [hw] at h
  rw [show Int.ofNat (l[k] % Int.ofNat n).toNat = l[k] % Int.ofNat n from Int.toNat_of_nonneg h0]
  exact h
 refine ⟨0, k, ⟨hn, by omega, by omega, fun h => by omega⟩, ?_⟩
 exact HT (l := l.map iN) (k := Int.ofNat k) (x := 0) (n := Int.ofNat n) (r := 0) (c := false) (by rw [jd, List.length_map, decide_eq_false hk]) (fun h => by simp at h) (by have := NW 0 hn hb; rw [Int.zero_emod] at this; exact this)
def ey : List cC -> List (Go.Value × an)
 | [] => []
 | f :: r => (.string ⟨⟨f.nm⟩⟩, bl true) :: ey r
theorem zJ (b : List cC) : ∀ a : List cC, ey (a ++ b) = ey a ++ ey b
 | [] => rfl
 | x :: r => by simp only [List.cons_append, ey, zJ b r]
def mL : List cC -> List UInt8 -> Bool
 | [], _ => false
 | f :: r, nm => match dX nm f.nm with | true => true | false => mL r nm
theorem qm : ∀ (l : List cC) (nm : List UInt8) (j : Nat), findF .string (.string ⟨⟨nm⟩⟩) (ey l) j = some (match mL l nm with | true => some (match findF .string (.string ⟨⟨nm⟩⟩) (ey l) j with | some (some (i, _)) => i | _ => 0, bl true) | false => none)
 | [], nm, j => rfl
 | d :: r, nm, j => by
  have e : findF .string (.string ⟨⟨nm⟩⟩) (ey (d :: r)) j = (match wP .string (.string ⟨⟨nm⟩⟩) (.string ⟨⟨d.nm⟩⟩) with | some true => some (some (j, bl true)) | some false => findF .string (.string ⟨⟨nm⟩⟩) (ey r) (j + 1) | none => none) := rfl
  rw [e, show wP .string (.string ⟨⟨nm⟩⟩) (.string ⟨⟨d.nm⟩⟩) = some (dX nm d.nm) from rfl]
  unfold mL
  cases he : dX nm d.nm with
  | true => rfl
  | false => exact qm r nm (j + 1)
theorem JC (l : List cC) (nm : List UInt8) : fN (env az.aU) 97 false [.map (.loc 50), .dat (sb nm)] (some (.map (ey l))) = some ⟨bv (mL l nm), .keep⟩ := by
 have h1 : fN (env az.aU) 97 false [.map (.loc 50), .dat (sb nm)] (some (.map (ey l))) = (match findF .string (.string ⟨⟨nm⟩⟩) (ey l) 0 with
  | some (some (_, d)) => some ⟨.dat d, .keep⟩ | some none => some ⟨bv false, .keep⟩ | none => none) := by kernel_rfl
 rw [h1, qm]
 cases mL l nm <;> rfl
theorem L8 {l : List cC} {f : cC} (h : mL l f.nm = false) : cY (env az.aU) 97 [.map (.loc 50), .dat (sb f.nm), bv true] (some (.map (ey l))) = some ⟨.undef, .set (.map (ey (l ++ [f])))⟩ := by
 have h1 : cY (env az.aU) 97 [.map (.loc 50), .dat (sb f.nm), bv true] (some (.map (ey l))) = (match findF .string (.string ⟨⟨f.nm⟩⟩) (ey l) 0 with
  | some (some (i, _)) => some ⟨.undef, .set (.map (setAt i (bl true) (ey l)))⟩ | some none => some ⟨.undef, .set (.map (ey l ++ [(.string ⟨⟨f.nm⟩⟩, bl true)]))⟩ | none => none) := by kernel_rfl
 rw [h1, qm, h, zJ]
 rfl
noncomputable def SD : Hints := ⟨aq, Dq, aw, rowsOf aw 50⟩
def Qu (es : List (Go.Value × an)) (nm : List UInt8) (ar k : Int) (nm2 : List UInt8) (ix : Int) (a : an) (con : Bool) (b : an) : Heap := [(.loc 50, .map es), (.loc 1, .cells [.dat (sb nm), iv ar, iv k, .dat (sb nm2), iv ix, .dat a, .dat (bl con), .dat b])]
def Vt (lo : Heap) (b : an) (n : Nat) (i : Int) : ab := ⟨[(54, iv i), (53, iv (Int.ofNat n)), (52, .dat b), (3, .map (.loc 50)), (1, .ptr (.loc 1) 0)], lo, [], 0⟩
def S1 (lo : Heap) (b : an) (n : Nat) (i : Int) : ab := ⟨[(55, bv false), (54, iv i), (53, iv (Int.ofNat n)), (52, .dat b), (3, .map (.loc 50)), (1, .ptr (.loc 1) 0)], lo, [], 0⟩
def S2 (c : Bool) : ab := ⟨[(2, bv c)], [], [], 0⟩
theorem EX {nm : List UInt8} {ar k : Int} {nm2 : List UInt8} {ix : Int} {la : List an} {con : Bool} {l pre : List cC} {f : cC} {i : Nat} {c1 c2 c3 : Bool} {T : Exit -> aa -> Prop} (hi : i < (aG l).length) (ht : l[i]? = some f)
  (h1 : ae 87 [.dat (sb f.nm)] (bv c1)) (hs : mL pre f.nm = c2) (h2 : ae 89 [.dat f.ty.enc, iv ar] (bv c3))
  (e1 : (c1 && (!c2 && c3)) = true -> T .normal ((Vt (Qu (ey (pre ++ [f])) nm ar k nm2 ix (sl la) con (.slice (aG l))) (.slice (aG l)) (aG l).length (aE .i64 (Int.ofNat i + 1))).au Tryz.f50.ntmps))
  (e2 : (c1 && (!c2 && c3)) = false -> T .ret ((S2 false).au Tryz.f50.ntmps)) :
  KD (roundOf Tryz.f50 0) T ((Vt (Qu (ey pre) nm ar k nm2 ix (sl la) con (.slice (aG l))) (.slice (aG l)) (aG l).length (Int.ofNat i)).au Tryz.f50.ntmps) := by
 have g1 := bq hi
 have g2 := nO ht
 have g3 := JC pre f.nm
 rw [hs] at g3
 have g4 : c2 = false -> cY (env az.aU) 97 [.map (.loc 50), .dat (sb f.nm), bv true] (some (.map (ey pre))) = some ⟨.undef, .set (.map (ey (pre ++ [f])))⟩ := fun h => L8 (by rw [hs, h])
 generalize ey pre = es at *
 generalize ey (pre ++ [f]) = es2 at *
 obtain ⟨fnm, fk, ftn, fix, fa⟩ := f
 generalize aG l = xs at *
 clear ht hi hs
 rcases la with _ | ⟨x, la⟩ <;>
 ·rcases fa with _ | ⟨z, fa⟩ <;>
  ·refine ax [55] [56, 66, 100076] (H := SD) (live := xN) (by kernel_rfl) ?_; refine ob g1 ?_; refine oo g2 ?_; refine on h1 ?_
   cases c1
   ·exact oe (e2 rfl)
   refine oo g3 ?_
   cases c2
   ·refine on h2 ?_
    cases c3
    ·exact oe (e2 rfl)
    refine oo (g4 rfl) ?_; exact oe (e1 rfl)
   exact oe (e2 rfl)
theorem IJ {es : List (Go.Value × an)} {nm : List UInt8} {ar k : Int} {nm2 : List UInt8} {ix : Int} {la : List an} {con : Bool} {b : an} {n : Nat} {T : Exit -> aa -> Prop}
  (e : T (.exit 0) ((S1 (Qu es nm ar k nm2 ix (sl la) con b) b n (Int.ofNat n)).au Tryz.f50.ntmps)) :
  KD (roundOf Tryz.f50 0) T ((Vt (Qu es nm ar k nm2 ix (sl la) con b) b n (Int.ofNat n)).au Tryz.f50.ntmps) := by
 have h1 := bu (i := n) (L := n) (by omega)
 refine ax [55] [] (H := SD) (live := xN) (by kernel_rfl) ?_; refine ob h1 ?_; exact oe e
def Ha (ar : Int) : List cC -> List cC -> Bool
 | _, [] => true
 | pre, f :: r => (isIdent f.nm && (!mL pre f.nm && f.ty.over ar)) && Ha ar (pre ++ [f]) r
theorem Cv {ar : Int} {l : List cC} {i : Nat} {f : cC} (h : l[i]? = some f) : Ha ar (l.take i) (l.drop i) = ((isIdent f.nm && (!mL (l.take i) f.nm && f.ty.over ar)) && Ha ar (l.take (i + 1)) (l.drop (i + 1))) := by
 rw [df h, dG h]
 rfl
theorem II {nm : List UInt8} {ar k : Int} {nm2 : List UInt8} {ix : Int} {la : List an} {con : Bool} {l : List cC} {b : an} (hb : b = sl (aG l)) (hn : l.length < 1000000000) (hf : ∀ f ∈ l, f.ty.ct) :
  KD (.loop (roundOf Tryz.f50 0)) (fun e s => (e = .exit 0 /\ Ha ar [] l = true /\ s = (S1 (Qu (ey l) nm ar k nm2 ix (sl la) con b) b (aG l).length (Int.ofNat (aG l).length)).au Tryz.f50.ntmps) ∨ (e = .ret /\ Ha ar [] l = false /\ s = (S2 false).au Tryz.f50.ntmps))
   ((Vt (Qu [] nm ar k nm2 ix (sl la) con b) b (aG l).length (Int.ofNat 0)).au Tryz.f50.ntmps) := by
 refine bW (St := fun i => (Vt (Qu (ey (l.take i)) nm ar k nm2 ix (sl la) con b) b (aG l).length (Int.ofNat i)).au Tryz.f50.ntmps) (fun i => Ha ar [] l = Ha ar (l.take i) (l.drop i)) (aG l).length ?_ ?_ (i := 0) (Nat.zero_le _) rfl
 ·intro i hi hI
  obtain ⟨f, ht, hm⟩ := eO hi
  have hi2 := hi
  rw [aS] at hi2
  have hd := Cv (ar := ar) ht
  rw [← hI] at hd
  have hw : aE .i64 (Int.ofNat i + 1) = Int.ofNat (i + 1) := aZ (by omega)
  have hb2 : b = .slice (aG l) := by
   rw [hb]
   cases l with
   | nil => simp at ht
   | cons x r => rfl
  subst hb2
  refine EX hi ht (tE f.nm) rfl (uV (ar := ar) (hf f hm)) ?_ ?_
  ·intro h
   rw [h] at hd
   rw [hw, ← dG ht]
   exact ⟨rfl, hd⟩
  intro h
  rw [h] at hd
  exact .inr ⟨rfl, hd, rfl⟩
 intro hI
 rw [aS, List.take_length, List.drop_length] at hI
 rw [aS, List.take_length]
 exact IJ (.inl ⟨rfl, hI, rfl⟩)
def TN (l : List an) : Bool := match l with | [] => false | _ => true
theorem Kz {nm nm2 : List UInt8} {ar k ix : Int} {la lb : List an} {es : List (Go.Value × an)} {con c1 c2 c3 c4 c5 c6 c7 : Bool} (h1 : ae 87 [.dat (sb nm)] (bv c1)) (h2 : ae 88 [.dat (.slice (gA mV)), .dat (sb nm)] (bv c2)) (h3 : bn ar 0 = c3)
  (h4 : aX k 0 = c4) (h5 : aX k 2 = c5) (h6 : ae 89 [.dat (.agg [i64 k, sb nm2, i64 ix, sl la]), iv ar] (bv c6))
  (h7 : KD (.loop (roundOf Tryz.f50 0)) (fun e s => (e = .exit 0 /\ c7 = true /\ s = (S1 (Qu es nm ar k nm2 ix (sl la) con (sl lb)) (sl lb) lb.length (Int.ofNat lb.length)).au Tryz.f50.ntmps) ∨ (e = .ret /\ c7 = false /\ s = (S2 false).au Tryz.f50.ntmps))
   ((Vt (Qu [] nm ar k nm2 ix (sl la) con (sl lb)) (sl lb) lb.length (Int.ofNat 0)).au Tryz.f50.ntmps)) :
  ae 50 [.dat (dU nm ar k nm2 ix la con lb)] (bv (c1 && (!c2 && (!c3 && (!(!con && TN lb) && ((c4 || c5) && (c6 && c7))))))) := by
 rcases la with _ | ⟨x, la⟩ <;>
 ·rcases lb with _ | ⟨y, lb⟩
  ·refine co [19, 35, 40] [] (x := .of Tryz.f50 Dq xN) ?_; refine on h1 ?_
   cases c1
   ·exact fi
   refine on h2 ?_
   cases c2
   ·refine ob h3 ?_
    cases c3
    ·cases con <;>
     ·refine ox h4 ?_
      cases c4
      ·refine ox h5 ?_
       cases c5
       ·exact fi
       refine on h6 ?_
       cases c6
       ·exact fi
       refine lo h7 ?_
       rintro ex s (⟨rfl, rfl, rfl⟩ | ⟨rfl, rfl, rfl⟩) <;>
       ·refine ⟨_, rfl, ?_⟩; exact fi
      refine on h6 ?_
      cases c6
      ·exact fi
      refine lo h7 ?_
      rintro ex s (⟨rfl, rfl, rfl⟩ | ⟨rfl, rfl, rfl⟩) <;>
      ·refine ⟨_, rfl, ?_⟩; exact fi
    exact fi
   exact fi
  refine co [19, 35, 40] [] (x := .of Tryz.f50 Dq xN) ?_; refine on h1 ?_
  cases c1
  ·exact fi
  refine on h2 ?_
  cases c2
  ·refine ob h3 ?_
   cases c3
   ·cases con
    ·exact fi
    refine ox h4 ?_
    cases c4
    ·refine ox h5 ?_
     cases c5
     ·exact fi
     refine on h6 ?_
     cases c6
     ·exact fi
     refine lo h7 ?_
     rintro ex s (⟨rfl, rfl, rfl⟩ | ⟨rfl, rfl, rfl⟩) <;>
     ·refine ⟨_, rfl, ?_⟩; exact fi
    refine on h6 ?_
    cases c6
    ·exact fi
    refine lo h7 ?_
    rintro ex s (⟨rfl, rfl, rfl⟩ | ⟨rfl, rfl, rfl⟩) <;>
    ·refine ⟨_, rfl, ?_⟩; exact fi
   exact fi
  exact fi
def Ty.kind : Ty -> Int
 | .mk k _ _ _ => k
def Ty.xS : Ty -> Int
 | .mk _ _ i _ => i
def bd.wf (d : bd) : Bool := isIdent d.nm && (!fQ d.nm && (!bn d.ar 0 && (!(!d.con && TN (aG d.fl)) && ((aX d.sup.kind 0 || aX d.sup.kind 2) && (d.sup.over d.ar && Ha d.ar [] d.fl)))))
theorem Cf {d : bd} (h : d.ct) : ae 50 [.dat d.enc] (bv d.wf) := by
 obtain ⟨h1, h2, h3⟩ := h
 have g1 := tE d.nm
 have g2 := uX d.nm
 have g6 := uV (ar := d.ar) h1
 obtain ⟨nm, ar, ⟨k, tn, ix, la⟩, con, fl⟩ := d
 exact Kz g1 g2 rfl rfl rfl g6 (II rfl h3 h2)
theorem Ad : ∀ cs : List an, bG (av cs) = true
 | [] => rfl
 | d :: r => by show (eX (.dat d) && bG (av r)) = true; rw [Ad r]; rfl
theorem MY (cs : List an) : cT (.cells (av cs)) = true := Ad cs
theorem Vp {cs cs2 : List an} {es es2 : List (Go.Value × an)} {n : Nat} {nm nm2 : List UInt8} {ar k ix : Int} {con : Bool} {la lb : List an}
  (h0 : oE (env az.aU) 23 [.win (.out 2) 8 0 n] none = some ⟨iv (Int.ofNat n), .keep⟩)
  (h1 : cY (env az.aU) 80 [.map (.out 0), .dat (sb nm), iv (Int.ofNat n)] (some (.map es)) = some ⟨.undef, .set (.map es2)⟩)
  (h2 : cZ (env az.aU) true 23 [.win (.out 2) 8 0 n, .dat (.slice [dU nm ar k nm2 ix la con lb])] (some (.cells (av cs))) = some ⟨.undef, .grow (.cells (av cs2)) 8 (n + 1)⟩) :
  KC 52 [hP, .dat (dU nm ar k nm2 ix la con lb)] (hG 2 (av cs) es n) 3 (XQ ⟨.tup [], hG 3 (av cs2) es2 (n + 1), 4⟩) := by
 have hn := MY cs2
 rcases la with _ | ⟨x, la⟩ <;>
 ·rcases lb with _ | ⟨y, lb⟩ <;>
  ·refine dK [500022] [14, 100007, 22] (x := mW.of Tryz.f52 Mx Nv) (by kernel_rfl) ?_; refine oo h0 ?_; refine oo h1 ?_; refine oo h2 ?_; refine ob hn ?_; exact fi
theorem To {cs : List an} {es es2 : List (Go.Value × an)} {n : Nat} {nm : List UInt8}
  (h0 : oE (env az.aU) 23 [.win (.out 2) 8 0 (n + 1)] none = some ⟨iv (Int.ofNat (n + 1)), .keep⟩)
  (h2 : aL (env az.aU) 23 [.win (.out 2) 8 0 (n + 1), iv (aE .i64 (Int.ofNat (n + 1) - 1))] = some ⟨.ptr (.out 2) (0 + n * 8), .keep⟩)
  (h3 : kM (env az.aU) false 9 [.ptr (.out 2) (0 + n * 8)] (some (.cells (av cs))) = some ⟨.dat (sb nm), .keep⟩)
  (h4 : kN (env az.aU) 80 [.map (.out 0), .dat (sb nm)] (some (.map es)) = some ⟨.tup [], .set (.map es2)⟩)
  (h5 : jk (env az.aU) 23 none (some (.tmp 26)) none [.win (.out 2) 8 0 (n + 1), iv (aE .i64 (Int.ofNat (n + 1) - 1))] = some ⟨.win (.out 2) 8 0 n, .keep⟩) :
  KC 56 [hP] (hG 2 (av cs) es (n + 1)) 3 (XQ ⟨.tup [], hG 2 (av cs) es2 n, 3⟩) := by
 refine dK [] [7, 18, 20, 100012, 27] (x := mW.of Tryz.f56 Mv Nt) (by kernel_rfl) ?_; refine oo h0 ?_; refine oo h2 ?_; refine oo h3 ?_; refine oo h4 ?_; refine oo h5 ?_; exact fi
theorem vR {r n : Nat} (h : n <= jv) : oE (env az.aU) 23 [.win (.out r) 8 0 n] none = some ⟨iv (Int.ofNat n), .keep⟩ := by
 have h1 : oE (env az.aU) 23 [.win (.out r) 8 0 n] none = (if Nat.ble n jv = true then some ⟨iv (Int.ofNat n), .keep⟩ else none) := by kernel_rfl
 rw [h1, if_pos (by rw [Nat.ble_eq]; exact h)]
theorem xV (b : List bd) : ∀ (a : List bd) (i : Nat), cW (a ++ b) i = cW a i ++ cW b (i + a.length)
 | [], i => by simp [cW]
 | x :: r, i => by
  simp only [List.cons_append, cW, List.length_cons]
  rw [xV b r (i + 1), show i + 1 + r.length = i + (r.length + 1) by omega]
theorem lp (b : List bd) : ∀ a : List bd, du (a ++ b) = du a ++ du b
 | [] => rfl
 | x :: r => by simp only [List.cons_append, du, lp b r, List.append_assoc]
theorem Qe {ds : List bd} {d : bd} (h : fV ds d.nm = none) : cY (env az.aU) 80 [.map (.out 0), .dat (sb d.nm), iv (Int.ofNat ds.length)] (some (.map (cW ds 0))) = some ⟨.undef, .set (.map (cW (ds ++ [d]) 0))⟩ := by
 have h1 : cY (env az.aU) 80 [.map (.out 0), .dat (sb d.nm), iv (Int.ofNat ds.length)] (some (.map (cW ds 0))) = (match findF .string (.string ⟨⟨d.nm⟩⟩) (cW ds 0) 0 with
  | some (some (i, _)) => some ⟨.undef, .set (.map (setAt i (i64 (Int.ofNat ds.length)) (cW ds 0)))⟩ | some none => some ⟨.undef, .set (.map (cW ds 0 ++ [(.string ⟨⟨d.nm⟩⟩, i64 (Int.ofNat ds.length))]))⟩ | none => none) := by kernel_rfl
 rw [h1, lB, h, xV, Nat.zero_add]
 rfl
theorem RK {l : List ac} (h : 3 <= l.length) : cK l = false := by
 rcases l with _ | ⟨a, _ | ⟨b, _ | ⟨c, r⟩⟩⟩ <;> simp at h
 exact O5 a b c r
noncomputable def E2 : TI := match Go.Tp.elemOf (env az.aU) 23 with | some t => t | none => default
theorem RM {ds : List bd} {d : bd} {tl : List an} (hn : ds.length < 1000) : cZ (env az.aU) true 23 [.win (.out 2) 8 0 ds.length, .dat (.slice [d.enc])] (some (.cells (av (du ds ++ tl)))) = some ⟨.undef, .grow (.cells (av (du (ds ++ [d])))) 8 (ds.length + 1)⟩ := by
 have h1 : ∀ (n : Nat) (cs : List ac) (x : ac), cZ (env az.aU) true 23 [.win (.out 2) 8 0 n, x] (some (.cells cs)) = iM (env az.aU) E2 n cs x := fun n cs x => by kernel_rfl
 have h2 : hD az.aU E2 [] (.dat (.slice [d.enc])) = some [d.enc] := by
  obtain ⟨nm, ar, ⟨k, tn, ix, la⟩, con, fl⟩ := d
  kernel_rfl
 have h3 : ∀ (n : Nat) (cs : List ac) (x : ac), iM (env az.aU) E2 n cs x = (match hD az.aU E2 [] x with
  | some ds => if (Nat.ble ((n + ds.length) * E2.bytes) 140737488355328 && Nat.ble (n + ds.length) jv && Nat.ble (n * 8) cs.length && !cK (ev (n * 8) cs ++ (ds.flatMap an.cells).map .dat)) = true
   then some ⟨.undef, .grow (.cells (ev (n * 8) cs ++ (ds.flatMap an.cells).map .dat)) 8 (n + ds.length)⟩ else none
  | none => none) := fun n cs x => by kernel_rfl
 have hb : E2.bytes <= 1000 := fT (by kernel_rfl)
 have hl := iS ds
 have hc : ev (ds.length * 8) (av (du ds ++ tl)) ++ ([d.enc].flatMap an.cells).map .dat = av (du (ds ++ [d])) := by
  rw [CA, ← hl, List.take_left, lp]
  simp only [av, List.map_append, List.flatMap_cons, List.flatMap_nil, List.append_nil, du]
  rfl
 rw [h1, h3, h2]
 dsimp only
 rw [hc]
 have hd : (du (ds ++ [d])).length = ds.length * 8 + 8 := by rw [iS]; simp; omega
 rw [if_pos]
 ·rfl
 have e1 : cK (av (du (ds ++ [d]))) = false := RK (by simp [av, hd])
 rw [e1]
 simp only [List.length_singleton, Bool.and_eq_true, Nat.ble_eq, Bool.not_false, and_true]
 refine ⟨⟨?_, ?_⟩, ?_⟩
 ·calc (ds.length + 1) * E2.bytes <= 1000 * 1000 := Nat.mul_le_mul (by omega) hb
   _ <= 140737488355328 := by decide
 ·simp only [jv]; omega
 simp [av, hl]
theorem Vj {ds : List bd} {d : bd} {tl : List an} (hn : ds.length < 1000) (h : fV ds d.nm = none) : KC 52 [hP, .dat d.enc] (hH 2 ds tl) 3 (XQ ⟨.tup [], hH 3 (ds ++ [d]) [], 4⟩) := by
 have h0 := vR (r := 2) (n := ds.length) (by simp only [jv]; omega)
 have h1 := Qe h
 have h2 := RM (d := d) (tl := tl) hn
 have e : hH 3 (ds ++ [d]) [] = hG 3 (av (du (ds ++ [d]))) (cW (ds ++ [d]) 0) (ds.length + 1) := by unfold hH; rw [List.append_nil, List.length_append, List.length_singleton]
 rw [e]
 obtain ⟨nm, ar, ⟨k, tn, ix, la⟩, con, fl⟩ := d
 exact Vp h0 h1 h2
theorem Md {ds : List bd} {d : bd} (h : fV ds d.nm = none) : fV (ds ++ [d]) d.nm = some ds.length := by
 induction ds with
 | nil => simp [fV, oc]
 | cons x r ih =>
  simp only [fV, List.cons_append] at h ⊢
  cases he : dX d.nm x.nm with
  | true => rw [he] at h; simp at h
  | false =>
   rw [he] at h
   simp only [Option.map_eq_none_iff] at h
   rw [ih h]
   rfl
theorem GO (a : List (Go.Value × an)) (x : Go.Value × an) : uS a.length (a ++ [x]) = a := by
 induction a with
 | nil => rfl
 | cons y r ih => simp only [List.length_cons, List.cons_append, uS, ih]
theorem uF : ∀ (ds : List bd) (i : Nat), (cW ds i).length = ds.length
 | [], _ => rfl
 | x :: r, i => by simp only [cW, List.length_cons, uF r]
theorem X6 {ds : List bd} {d : bd} {tl : List an} (hn : ds.length < 1000) (h : fV ds d.nm = none) : KC 56 [hP] (hH 2 (ds ++ [d]) tl) 3 (XQ ⟨.tup [], hH 2 ds (d.cells ++ tl), 3⟩) := by
 have e1 : hH 2 (ds ++ [d]) tl = hG 2 (av (du (ds ++ [d]) ++ tl)) (cW (ds ++ [d]) 0) (ds.length + 1) := by unfold hH; rw [List.length_append, List.length_singleton]
 have e2 : hH 2 ds (d.cells ++ tl) = hG 2 (av (du (ds ++ [d]) ++ tl)) (cW ds 0) ds.length := by
  unfold hH
  rw [lp, List.append_assoc]
  simp only [du, List.append_nil]
 have hw : aE .i64 (Int.ofNat (ds.length + 1) - 1) = Int.ofNat ds.length := by
  rw [dx, show (Int.ofNat (ds.length + 1) - 1 : Int) = Int.ofNat ds.length by simp]
  exact wrap_i64 (by simp only [Int.ofNat_eq_natCast]; omega) (by simp only [Int.ofNat_eq_natCast]; omega)
 have h0 := vR (r := 2) (n := ds.length + 1) (by simp only [jv]; omega)
 have h2 := vU (r := 2) (n := ds.length + 1) (k := ds.length) (by omega)
 rw [← hw] at h2
 have hg : (ds ++ [d])[ds.length]? = some d := by simp
 have h3 : kM (env az.aU) false 9 [.ptr (.out 2) (0 + ds.length * 8)] (some (.cells (av (du (ds ++ [d]) ++ tl)))) = some ⟨.dat (sb d.nm), .keep⟩ := by
  have k1 : ∀ cs, kM (env az.aU) false 9 [.ptr (.out 2) (0 + ds.length * 8)] (some (.cells cs)) = uB (match cs[0 + ds.length * 8]? with
   | some (.own es) => some (.dat (.slice es)) | some .undef => none | some (.agg _) => none | some (.tup _) => none | some a => some a | none => none) := fun cs => by kernel_rfl
  have k2 : (av (du (ds ++ [d]) ++ tl))[0 + ds.length * 8]? = some (.dat (sb d.nm)) := by
   rw [lp, List.append_assoc]
   unfold av
   rw [List.getElem?_map, Nat.zero_add, List.getElem?_append_right (by rw [iS]; omega), iS, Nat.sub_self]
   rfl
  rw [k1, k2]
  rfl
 have h4 : kN (env az.aU) 80 [.map (.out 0), .dat (sb d.nm)] (some (.map (cW (ds ++ [d]) 0))) = some ⟨.tup [], .set (.map (cW ds 0))⟩ := by
  have k1 : kN (env az.aU) 80 [.map (.out 0), .dat (sb d.nm)] (some (.map (cW (ds ++ [d]) 0))) = (match findF .string (.string ⟨⟨d.nm⟩⟩) (cW (ds ++ [d]) 0) 0 with
   | some (some (i, _)) => some ⟨.tup [], .set (.map (uS i (cW (ds ++ [d]) 0)))⟩ | some none => some ⟨.tup [], .set (.map (cW (ds ++ [d]) 0))⟩ | none => none) := by kernel_rfl
  rw [k1, lB, Md h]
  simp only [Option.map_some, Nat.zero_add]
  rw [xV, ← uF ds 0]
  simp only [cW]
  rw [GO]
 have h5 : jk (env az.aU) 23 none (some (.tmp 26)) none [.win (.out 2) 8 0 (ds.length + 1), iv (aE .i64 (Int.ofNat (ds.length + 1) - 1))] = some ⟨.win (.out 2) 8 0 ds.length, .keep⟩ := by
  rw [hw]
  have k1 : ∀ m n : Nat, jk (env az.aU) 23 none (some (.tmp 26)) none [.win (.out 2) 8 0 m, iv (Int.ofNat n)] = (if (Nat.ble 0 n && Nat.ble n m && Nat.beq 8 8) = true then some ⟨.win (.out 2) 8 0 n, .keep⟩ else none) := fun m n => by kernel_rfl
  rw [k1, if_pos (by simp)]
 rw [e1, e2]
 obtain ⟨nm, ar, ⟨k, tn, ix, la⟩, con, fl⟩ := d
 exact To h0 h2 h3 h4 h5
def rS : Name × aN := (.out 4, .cells [hP])
def bQ : ac := .ptr (.out 4) 0
noncomputable def Q3 : Hints := ⟨aq, xw, aw, rowsOf aw 67⟩
def Pq : ac := .fn (.func 55) [] [bQ]
def Wj (H : Heap) (nx : Nat) (l : List an) (i : Int) : ab := ⟨[(8, iv i), (7, iv (Int.ofNat l.length)), (0, .dat (.slice l)), (1, Pq)], [], H, nx⟩
def Wh (H : Heap) (nx : Nat) (l : List an) : ab := ⟨[(9, bv false), (8, iv (Int.ofNat l.length)), (7, iv (Int.ofNat l.length)), (0, .dat (.slice l)), (1, Pq)], [], H, nx⟩
def Wi (H : Heap) (nx : Nat) (i : Nat) : ab := ⟨[(4, iv (Int.ofNat i))], [], H, nx⟩
def Td (H : Heap) (nx : Nat) : ab := ⟨[(8, iv 0), (7, iv 0), (0, .dat nl), (1, Pq)], [], H, nx⟩
def Sn (H : Heap) (nx : Nat) : ab := ⟨[(9, bv false), (8, iv 0), (7, iv 0), (0, .dat nl), (1, Pq)], [], H, nx⟩
theorem BM {l : List cC} {t : cC} {H : Heap} {nx i : Nat} {c : Bool} {T : Exit -> aa -> Prop} (hi : i < (aG l).length) (ht : l[i]? = some t) (hc : KC 55 [.dat t.enc, bQ] H nx (XQ ⟨bv c, H, nx⟩))
  (e1 : c = false -> T .normal ((Wj H nx (aG l) (aE .i64 (Int.ofNat i + 1))).au Tryz.f67.ntmps)) (e2 : c = true -> T .ret ((Wi H nx i).au Tryz.f67.ntmps)) :
  KD (roundOf Tryz.f67 0) T ((Wj H nx (aG l) (Int.ofNat i)).au Tryz.f67.ntmps) := by
 have h1 := bq hi
 have h2 := nO ht
 generalize aG l = es at *
 clear ht hi
 obtain ⟨fnm, k2, nm2, ix2, a2⟩ := t
 rcases a2 with _ | ⟨b, d⟩ <;>
 ·cases c
  ·refine ax [9] [14] (H := Q3) (live := jT) (by kernel_rfl) ?_; refine ob h1 ?_; refine oo h2 ?_; refine oh hc ?_; exact oe (e1 rfl)
  refine ax [9] [14] (H := Q3) (live := jT) (by kernel_rfl) ?_; refine ob h1 ?_; refine oo h2 ?_; refine oh hc ?_; exact oe (e2 rfl)
theorem Gn {l : List an} {H : Heap} {nx : Nat} {T : Exit -> aa -> Prop} (e1 : T (.exit 0) ((Wh H nx l).au Tryz.f67.ntmps)) :
  KD (roundOf Tryz.f67 0) T ((Wj H nx l (Int.ofNat l.length)).au Tryz.f67.ntmps) := by
 have h1 := bu (i := l.length) (L := l.length) (by omega)
 refine ax [9] [] (H := Q3) (live := jT) (by kernel_rfl) ?_; refine ob h1 ?_; exact oe e1
theorem DV {H : Heap} {nx : Nat} {T : Exit -> aa -> Prop} (e1 : T (.exit 0) ((Sn H nx).au Tryz.f67.ntmps)) :
  KD (roundOf Tryz.f67 0) T ((Td H nx).au Tryz.f67.ntmps) := by
 refine ax [] [] (H := Q3) (live := jT) (by kernel_rfl) ?_; exact oe e1
theorem DW {l : List cC} {p : cC -> Bool} {H : Heap} {nx : Nat} {x : an} {r : List an} (hl0 : aG l = x :: r) (hg : ∀ v, dF nx v = false -> sx nx ⟨v, H, nx⟩ = ⟨v, H, nx⟩) (hp : ∀ t ∈ l, KC 55 [.dat t.enc, bQ] H nx (XQ ⟨bv (p t), H, nx⟩)) (hb : l.length < 1000000000) :
  KC 67 [.dat (.slice (x :: r)), Pq] H nx (XQ ⟨iv (oX p l 0), H, nx⟩) := by
 have hl : KD (.loop (roundOf Tryz.f67 0)) (fun e s => (e = .exit 0 /\ oX p l 0 = -1 /\ s = (Wh H nx (x :: r)).au Tryz.f67.ntmps) ∨ (e = .ret /\ ∃ i : Nat, oX p l 0 = Int.ofNat i /\ s = (Wi H nx i).au Tryz.f67.ntmps)) ((Wj H nx (x :: r) (Int.ofNat 0)).au Tryz.f67.ntmps) := by
  rw [← hl0]
  refine bW (St := fun i => (Wj H nx (aG l) (Int.ofNat i)).au Tryz.f67.ntmps) (fun i => oX p l 0 = oX p (l.drop i) i) (aG l).length ?_ ?_ (i := 0) (Nat.zero_le _) rfl
  ·intro i hi hI
   obtain ⟨t, ht, hm⟩ := eO hi
   have ha := rp (p := p) ht
   have hw : aE .i64 (Int.ofNat i + 1) = Int.ofNat (i + 1) := aZ (by rw [aS] at hi; omega)
   have hc := hp t hm
   rw [← hI] at ha
   generalize p t = c at hc ha
   refine BM hi ht hc ?_ ?_
   ·rintro rfl
    rw [hw]
    exact ⟨rfl, ha⟩
   rintro rfl
   exact .inr ⟨rfl, i, ha, rfl⟩
  intro hI
  refine Gn (.inl ⟨rfl, ?_, rfl⟩)
  rw [hI, aS, List.drop_length]
  rfl
 have hg1 := hg (iv (oX p l 0)) rfl
 clear hp hb hg
 generalize hj : oX p l 0 = j at hg1 hl
 clear hj hl0
 refine co [] [] (x := .of Tryz.f67 xw jT) ?_; refine lo hl ?_
 rintro ex s (⟨rfl, rfl, rfl⟩ | ⟨rfl, ⟨x0, rfl, rfl⟩⟩) <;>
 ·refine ⟨_, rfl, ?_⟩
  exact bp (by kernel_rfl) hg1
theorem RP {l : List cC} {p : cC -> Bool} {H : Heap} {nx : Nat} (hg : ∀ v, dF nx v = false -> sx nx ⟨v, H, nx⟩ = ⟨v, H, nx⟩) (hp : ∀ t ∈ l, KC 55 [.dat t.enc, bQ] H nx (XQ ⟨bv (p t), H, nx⟩)) (hb : l.length < 1000000000) :
  KC 54 [.dat (sl (aG l)), Pq] H nx (XQ ⟨bv (l.any p), H, nx⟩) := by
 cases l with
 | nil =>
  have h0 : KC 67 [.dat nl, Pq] H nx (XQ ⟨iv (-1), H, nx⟩) := by
   have hg1 := hg (iv (-1)) rfl
   have hl : KD (.loop (roundOf Tryz.f67 0)) (fun e s => (e = .exit 0 /\ s = (Sn H nx).au Tryz.f67.ntmps)) ((Td H nx).au Tryz.f67.ntmps) := by
    refine bi (St := fun _ => (Td H nx).au Tryz.f67.ntmps) 0 (fun i hi => absurd hi (Nat.not_lt_zero i)) ?_ (i := 0) (Nat.le_refl _)
    exact DV ⟨rfl, rfl⟩
   clear hg hp hb
   refine co [] [] (x := .of Tryz.f67 xw jT) ?_; refine lo hl ?_; rintro ex s ⟨rfl, rfl⟩; refine ⟨_, rfl, ?_⟩
   exact bp (by kernel_rfl) hg1
  have hg1 := hg (bv false) rfl
  clear hg hp hb
  refine co [] [] (x := .of Tryz.f54 HE F1) ?_; refine oh h0 ?_
  exact bp (by kernel_rfl) hg1
 | cons t r =>
  have h := DW (l := t :: r) (x := t.enc) (r := aG r) rfl hg hp hb
  have h3 := BK (p := p) (l := t :: r) (i := 0)
  have hg1 := hg (bv (!(!((t :: r).any p)))) rfl
  generalize (t :: r).any p = c at h3 hg1
  have hg2 : sx nx ⟨bv (!(!c)), H, nx⟩ = ⟨bv c, H, nx⟩ := by rw [hg1, Bool.not_not]
  clear hg1
  generalize oX p (t :: r) 0 = j at h3 h
  show KC 54 [.dat (.slice (t.enc :: aG r)), Pq] H nx _
  generalize t.enc = x at h
  generalize aG r = xs at h
  clear hp hb hg
  refine co [8] [] (x := .of Tryz.f54 HE F1) ?_; refine oh h ?_; refine ox h3 ?_
  exact bp (by kernel_rfl) hg2
def Q4 (cs : List an) (es : List (Go.Value × an)) (n : Nat) : Heap := rS :: hG 3 (av cs) es n
theorem YV (v : ac) (cs : List an) (es : List (Go.Value × an)) (n : Nat) (hv : dF 5 v = false) : sx 5 ⟨v, Q4 cs es n, 5⟩ = ⟨v, Q4 cs es n, 5⟩ := by
 have h1 : eG 5 (Q4 cs es n) = Q4 cs es n := rfl
 have h2 : cP 5 (Q4 cs es n) = false := by simp [cP, Q4, hG, nC, kz, dJ, dF, rS, hP]; exact ⟨rfl, rfl, rfl⟩
 unfold sx
 dsimp only
 rw [h1, h2, hv]
 rfl
abbrev Cp (g : FuncId) (args : List ac) (cs : List an) (es : List (Go.Value × an)) (n : Nat) (v : ac) : Prop := KC g args (Q4 cs es n) 5 (XQ ⟨v, Q4 cs es n, 5⟩)
theorem OC {cs : List an} {es : List (Go.Value × an)} {n : Nat} {k ix : Int} {fnm nm : List UInt8} {l : List an} {c : Bool} (h : Cp 39 [hP, .dat (.agg [i64 k, sb nm, i64 ix, sl l])] cs es n (bv c)) :
  Cp 55 [.dat (.agg [sb fnm, i64 k, sb nm, i64 ix, sl l]), bQ] cs es n (bv (!c)) := by
 have hg := YV (bv (!c)) cs es n rfl
 rcases l with _ | ⟨z, l⟩ <;>
 ·refine co [] [] (x := .of Tryz.f55 Mw Nu) ?_; refine oh h ?_
  exact bp (by kernel_rfl) hg
theorem OW {ds : List bd} {tl : List an} {l : List cC} (hf : ∀ f ∈ l, f.ty.ct) (hn : l.length < 1000000000) :
  Cp 54 [.dat (sl (aG l)), Pq] (du ds ++ tl) (cW ds 0) ds.length (bv (l.any (fun f => !cj ds f.ty))) := by
 refine RP (p := fun f => !cj ds f.ty) (fun v hv => YV v _ _ _ hv) ?_ hn
 intro f hm
 have h2 := oO (r := 3) (m := 5) rfl rfl rfl [rS] (Cg ds tl f.ty (by have := (hf f hm).1; omega))
 obtain ⟨fnm, k2, nm2, ix2, l2⟩ := f
 exact OC h2
def cellsD (nm : List UInt8) (ar k : Int) (tn : List UInt8) (ix : Int) (la : List an) (con : Bool) (lb : List an) : List ac := [.dat (sb nm), iv ar, iv k, .dat (sb tn), iv ix, .dat (sl la), .dat (bl con), .dat (sl lb)]
theorem eV (l : Nat) (nm : List UInt8) (ar k : Int) (tn : List UInt8) (ix : Int) (la : List an) (con : Bool) (lb : List an) :
  tP (env az.aU) 35 [.ptr (.loc l) 0, .dat (dU nm ar k tn ix la con lb)] (some (.cells (cellsD [] 0 0 [] 0 [] false []))) = some ⟨.undef, .set (.cells (cellsD nm ar k tn ix la con lb))⟩ := by
 rcases la with _ | ⟨x, la⟩ <;> rcases lb with _ | ⟨y, lb⟩ <;> kernel_rfl
theorem BJ (t : Bool) (l : Nat) (nm : List UInt8) (ar k : Int) (tn : List UInt8) (ix : Int) (la : List an) (con : Bool) (lb : List an) :
  kM (env az.aU) t 35 [.ptr (.loc l) 0] (some (.cells (cellsD nm ar k tn ix la con lb))) = some ⟨.dat (dU nm ar k tn ix la con lb), .keep⟩ := by
 cases t <;> rcases la with _ | ⟨x, la⟩ <;> rcases lb with _ | ⟨y, lb⟩ <;> kernel_rfl
def r3 (c : Int) (cs : List an) (es : List (Go.Value × an)) (n : Nat) : eQ := ⟨iv c, hG 2 (av cs) es n, 3⟩
def r5 (c : Int) (cs : List an) (es : List (Go.Value × an)) (n : Nat) : eQ := ⟨iv c, rS :: hG 3 (av cs) es n, 5⟩
def SJ (cs cs2 : List an) (es es2 es3 : List (Go.Value × an)) (n : Nat) (oex c0 c1 c2 c3 c4 c5 c6 c7 c8 : Bool) : eQ :=
 match c0 with
 | false => r3 2 cs es n
 | true => match c1 with
  | true => r3 4 cs es n
  | false => match c2 with
   | true => r3 4 cs es n
   | false => match oex with
    | true => (match c3 with | true => r3 0 cs es n | false => r3 6 cs es n)
    | false => match c4 with
     | false => r3 8 cs es n
     | true => match c5 with
      | false => r3 5 cs es n
      | true => match c6 with
       | true => r5 5 cs2 es3 n
       | false => match c7 with
        | false => r5 0 cs2 es2 (n + 1)
        | true => match c8 with
         | true => r5 10 cs2 es3 n
         | false => r5 0 cs2 es2 (n + 1)
theorem Rr {cs cs2 : List an} {es es2 es3 : List (Go.Value × an)} {n : Nat} {nm nm2 : List UInt8} {ar k ix : Int} {con : Bool} {la lb : List an}
  {onm onm2 : List UInt8} {oar ok oix : Int} {ocon oex : Bool} {ola olb : List an} {snm snm2 : List UInt8} {sar sk six : Int} {c8 sex : Bool} {sla slb : List an} {c0 c1 c2 c3 c4 c5 c6 c7 : Bool}
  (hf : cE 49 [hP, .dat (sb nm)] cs es n (.tup [.dat (dU onm oar ok onm2 oix ola ocon olb), bv oex]))
  (hw : ae 50 [.dat (dU nm ar k nm2 ix la con lb)] (bv c0))
  (h1 : bn 6 ar = c1) (h2 : bn 6 (Int.ofNat lb.length) = c2)
  (he : ae 51 [.dat (dU onm oar ok onm2 oix ola ocon olb), .dat (dU nm ar k nm2 ix la con lb)] (bv c3))
  (hl : oE (env az.aU) 23 [.win (.out 2) 8 0 n] none = some ⟨iv (Int.ofNat n), .keep⟩) (h3 : bn (Int.ofNat n) 60 = c4)
  (hk : cE 39 [hP, .dat (.agg [i64 k, sb nm2, i64 ix, sl la])] cs es n (bv c5)) 
  (hc : ae 53 [.dat (dU nm ar k nm2 ix la con lb)] (.dat (dU nm ar k nm2 ix la con lb)))
  (ha : oex = false -> KC 52 [hP, .dat (dU nm ar k nm2 ix la con lb)] (hG 2 (av cs) es n) 3 (XQ ⟨.tup [], hG 3 (av cs2) es2 (n + 1), 4⟩))
  (hcf : KC 54 [.dat (sl lb), Pq] (rS :: hG 3 (av cs2) es2 (n + 1)) 5 (XQ ⟨bv c6, rS :: hG 3 (av cs2) es2 (n + 1), 5⟩))
  (hr : oex = false -> KC 56 [hP] (rS :: hG 3 (av cs2) es2 (n + 1)) 5 (XQ ⟨.tup [], rS :: hG 3 (av cs2) es3 n, 5⟩))
  (hs : KC 49 [hP, .dat (sb nm2)] (rS :: hG 3 (av cs2) es2 (n + 1)) 5 (XQ ⟨.tup [.dat (dU snm sar sk snm2 six sla c8 slb), bv sex], rS :: hG 3 (av cs2) es2 (n + 1), 5⟩))
  (h4 : aX k 2 = c7) :
  KC 16 [hP, .dat (dU nm ar k nm2 ix la con lb)] (hG 2 (av cs) es n) 3 (XQ (SJ cs cs2 es es2 es3 n oex c0 c1 c2 c3 c4 c5 c6 c7 c8)) := by
 have q1 := eV 5 onm oar ok onm2 oix ola ocon olb
 have q2 := BJ false 5 onm oar ok onm2 oix ola ocon olb
 have q4 := eV 7 snm sar sk snm2 six sla c8 slb
 rcases lb with _ | ⟨y, lb⟩
 ·have z : c2 = false := h2.symm
  subst z
  clear h2
  rcases la with _ | ⟨x, la⟩ <;>
  ·refine dK [23, 45, 73] [100005, 33, 44, 100007] (x := mW.of Tryz.f16 HR F7) (by kernel_rfl) ?_; refine oh hf ?_; refine oo q1 ?_; refine on hw ?_
   cases c0
   ·exact fi
   refine ob h1 ?_
   cases c1
   ·cases oex
    ·refine oo hl ?_; refine ox h3 ?_
     cases c4
     ·exact fi
     refine oh hk ?_
     cases c5
     ·exact fi
     refine on hc ?_; refine oh (ha rfl) ?_; refine oh hcf ?_
     cases c6
     ·refine oh hs ?_; refine oo q4 ?_; refine ob h4 ?_
      cases c7
      ·exact fi
      cases c8
      ·exact fi
      refine oh (hr rfl) ?_; exact fi
     refine oh (hr rfl) ?_; exact fi
    refine oo q2 ?_; refine on he ?_
    cases c3 <;>
    ·exact fi
   exact fi
 rcases la with _ | ⟨x, la⟩ <;>
 ·refine dK [23, 28, 45, 73] [100005, 33, 44, 100007] (x := mW.of Tryz.f16 HR F7) (by kernel_rfl) ?_; refine oh hf ?_; refine oo q1 ?_; refine on hw ?_
  cases c0
  ·exact fi
  refine ob h1 ?_
  cases c1
  ·refine ob h2 ?_
   cases c2
   ·cases oex
    ·refine oo hl ?_; refine ox h3 ?_
     cases c4
     ·exact fi
     refine oh hk ?_
     cases c5
     ·exact fi
     refine on hc ?_; refine oh (ha rfl) ?_; refine oh hcf ?_
     cases c6
     ·refine oh hs ?_; refine oo q4 ?_; refine ob h4 ?_
      cases c7
      ·exact fi
      cases c8
      ·exact fi
      refine oh (hr rfl) ?_; exact fi
     refine oh (hr rfl) ?_; exact fi
    refine oo q2 ?_; refine on he ?_
    cases c3 <;>
    ·exact fi
   exact fi
  exact fi
/-- What changes the hierarchy serves under another name of the row, beside other objects. -/
theorem Qp {g : FuncId} {args : List ac} {v : ac} {cs cs2 : List an} {es es2 : List (Go.Value × an)} {n n2 r m : Nat} (ha : dJ 3 args = false) (he : hO (Pm r) args = args) (hv : eZ (jm (Pm r) 3 m) v = v) (pre : Heap)
  (h : KC g args (hG 2 (av cs) es n) 3 (XQ ⟨v, hG 2 (av cs2) es2 n2, 3⟩)) :
  KC g args (pre ++ hG r (av cs) es n) m (XQ ⟨v, pre ++ hG r (av cs2) es2 n2, m⟩) := by
 have e1 : ∀ (cs : List an) (es : List (Go.Value × an)) (n : Nat) (ρ : Nat -> Nat), ρ 0 = 0 -> ρ 1 = 1 -> ρ 2 = r -> ni ρ (hG 2 (av cs) es n) = hG r (av cs) es n := by
  intro cs es n ρ h0 h1 h2
  simp [hG, ni, qx, zi, pT, hO, eZ, h0, h1, h2]
 have hf := aB.frame h (Pm r) (heap := pre ++ hG r (av cs) es n) (rest := pre) (next := m) (by rw [e1 _ _ _ _ rfl rfl rfl]; exact List.perm_append_comm) (by rfl) (by simp [cP, hG, nC, kz, dJ, dF]; exact ⟨rfl, rfl⟩) (by rfl) ha
 rw [he] at hf
 refine aB.lW hf ?_
 rintro v' h' m' ⟨v0, h1, n1, ⟨rfl, rfl, rfl⟩, rfl, rfl, rfl⟩
 rw [hv, e1 _ _ _ _ rfl rfl rfl]
 exact ⟨_, List.perm_append_comm, rfl, rfl, rfl⟩
theorem vL (p : Nat -> Bool) : ∀ l : List an, io p (av l) = true
 | [] => rfl
 | d :: r => by show (Dy p (.dat d) && io p (av r)) = true; rw [vL p r]; rfl
theorem Vx {g : FuncId} {args : List ac} {h0 : Heap} {c : Int} {cs : List an} {es : List (Go.Value × an)} {n : Nat} (h : KC g args h0 3 (XQ (r3 c cs es n))) : KC g args h0 3 (XQ ⟨iv c, hG 3 (av cs) es n, 4⟩) := by
 refine aB.rn h ?_
 rintro v hp m ⟨rfl, rfl, rfl⟩
 refine ⟨[2], rfl, ?_, ?_⟩
 ·simp [r3, hG, cd, Ju, MV, io, Dy, eB, ir, vL]
  rfl
 simp [r3, hG, cd, ni, qx, zi, hO, eZ, eB, ir, mU, qk, pT]
 exact ⟨rfl, rfl, rfl⟩
theorem Yh {g : FuncId} {args : List ac} {h0 : Heap} {c : Int} {cs : List an} {es : List (Go.Value × an)} {n : Nat} (h : KC g args h0 3 (XQ (r5 c cs es n))) : KC g args h0 3 (XQ ⟨iv c, hG 3 (av cs) es n, 4⟩) := by
 refine aB.rn h ?_
 rintro v hp m ⟨rfl, rfl, rfl⟩
 have e : cd (eB 3 [3]) (r5 c cs es n).heap = hG 3 (av cs) es n := rfl
 refine ⟨[3], rfl, ?_, ?_⟩
 ·rw [e]
  simp [hG, Ju, MV, io, Dy, eB, ir, vL]
 rw [e]
 simp [hG, ni, qx, zi, hO, eZ, ir, mU, qk, pT]
 exact ⟨rfl, rfl, rfl⟩
def Ty.nm : Ty -> List UInt8
 | .mk _ n _ _ => n
/-- What Declare answers, and the hierarchy behind it. -/
def gV (ds : List bd) (d : bd) : Int × List bd :=
 match d.wf with
 | false => (2, ds)
 | true => match bn 6 d.ar with
  | true => (4, ds)
  | false => match bn 6 (Int.ofNat (aG d.fl).length) with
   | true => (4, ds)
   | false => match aM ds d.nm with
    | some o => (match o.eq d with | true => (0, ds) | false => (6, ds))
    | none => match bn (Int.ofNat ds.length) 60 with
     | false => (8, ds)
     | true => match cj ds d.sup with
      | false => (5, ds)
      | true => match d.fl.any (fun f => !cj (ds ++ [d]) f.ty) with
       | true => (5, ds)
       | false => match aX d.sup.kind 2 with
        | false => (0, ds ++ [d])
        | true => match (hY (aM (ds ++ [d]) d.sup.nm)).con with
         | true => (10, ds)
         | false => (0, ds ++ [d])
theorem sA : bd.zero.ct := ⟨⟨by decide, by simp [bd.zero, Ty.dy, cI, aX]⟩, by simp [bd.zero], by decide⟩
theorem lC : ∀ {ds : List bd} {nm : List UInt8} {o : bd}, aM ds nm = some o -> o ∈ ds
 | [], nm, o, h => by simp [aM] at h
 | d :: r, nm, o, h => by
  unfold aM at h
  split at h
  ·simp at h; subst h; simp
  exact List.mem_cons_of_mem _ (lC h)
theorem JS {ds : List bd} {nm : List UInt8} (h : aM ds nm = none) : fV ds nm = none := by
 cases hp : fV ds nm with
 | none => rfl
 | some k =>
  obtain ⟨d, _, h2, _⟩ := nt hp
  rw [h2] at h; simp at h
theorem OA {ds : List bd} {d : bd} {tl : List an} (hd : d.ct) (hds : ∀ o ∈ ds, o.ct) (hn : ds.length < 999) :
  KC 16 [hP, .dat d.enc] (hH 2 ds tl) 3 (XQ (SJ (du ds ++ tl) (du (ds ++ [d]) ++ []) (cW ds 0) (cW (ds ++ [d]) 0) (cW ds 0) ds.length (iL (aM ds d.nm)) d.wf (bn 6 d.ar) (bn 6 (Int.ofNat (aG d.fl).length)) ((hY (aM ds d.nm)).eq d) (bn (Int.ofNat ds.length) 60) (cj ds d.sup) (d.fl.any (fun f => !cj (ds ++ [d]) f.ty)) (aX d.sup.kind 2) (hY (aM (ds ++ [d]) d.sup.nm)).con)) := by
 have hf : cE 49 [hP, .dat (sb d.nm)] (du ds ++ tl) (cW ds 0) ds.length (.tup [.dat (hY (aM ds d.nm)).enc, bv (iL (aM ds d.nm))]) := rO ds tl d.nm
 have hw := Cf hd
 have ho : (hY (aM ds d.nm)).ct := by
  cases h : aM ds d.nm with
  | none => exact sA
  | some o => exact hds o (lC h)
 have he := Ci ho hd
 have hl := vR (r := 2) (n := ds.length) (by simp only [jv]; omega)
 have hk : cE 39 [hP, .dat d.sup.enc] (du ds ++ tl) (cW ds 0) ds.length (bv (cj ds d.sup)) := Cg ds tl d.sup (by have := hd.1.1; omega)
 have hc := uZ hd
 have hpos : iL (aM ds d.nm) = false -> fV ds d.nm = none := by
  intro h
  cases hf : aM ds d.nm with
  | none => exact JS hf
  | some o => rw [hf] at h; simp [iL] at h
 have ha := fun h => Vj (tl := tl) (by omega) (hpos h)
 have hcf := OW (ds := ds ++ [d]) (tl := []) hd.2.1 hd.2.2
 have hr : iL (aM ds d.nm) = false -> KC 56 [hP] (rS :: hG 3 (av (du (ds ++ [d]) ++ [])) (cW (ds ++ [d]) 0) (ds.length + 1)) 5 (XQ ⟨.tup [], rS :: hG 3 (av (du (ds ++ [d]) ++ [])) (cW ds 0) ds.length, 5⟩) := by
  intro h
  have h2 := X6 (tl := []) (by omega) (hpos h)
  have e2 : hH 2 ds (d.cells ++ []) = hG 2 (av (du (ds ++ [d]) ++ [])) (cW ds 0) ds.length := by
   unfold hH
   rw [lp]
   simp only [du, List.append_nil]
  rw [e2] at h2
  have e1 : hH 2 (ds ++ [d]) [] = hG 2 (av (du (ds ++ [d]) ++ [])) (cW (ds ++ [d]) 0) (ds.length + 1) := by unfold hH; rw [List.length_append, List.length_singleton]
  rw [e1] at h2
  exact Qp (r := 3) (m := 5) rfl rfl rfl [rS] h2
 have hs := Vh 3 5 [rS] (ds ++ [d]) [] d.sup.nm
 have el : (ds ++ [d]).length = ds.length + 1 := by simp
 have e3 : hH 3 (ds ++ [d]) [] = hG 3 (av (du (ds ++ [d]) ++ [])) (cW (ds ++ [d]) 0) (ds.length + 1) := by unfold hH; rw [el]
 rw [e3] at hs
 simp only [e3] at ha
 unfold Cp Q4 at hcf
 rw [el] at hcf
 generalize (hY (aM ds d.nm)).eq d = c3 at he ⊢
 generalize d.fl.any (fun f => !cj (ds ++ [d]) f.ty) = c6 at hcf ⊢
 generalize d.wf = c0 at hw ⊢
 generalize cj ds d.sup = c5 at hk ⊢
 generalize hY (aM ds d.nm) = o at *
 generalize hY (aM (ds ++ [d]) d.sup.nm) = so at *
 generalize iL (aM (ds ++ [d]) d.sup.nm) = sb at *
 generalize du (ds ++ [d]) ++ [] = cs2 at *
 generalize cW (ds ++ [d]) 0 = es2 at *
 have e0 : hH 2 ds tl = hG 2 (av (du ds ++ tl)) (cW ds 0) ds.length := rfl
 rw [e0] at ha ⊢
 generalize cW ds 0 = es at *
 generalize du ds ++ tl = cs at *
 obtain ⟨nm, ar, ⟨k, tn, ix, la⟩, con, fl⟩ := d
 obtain ⟨onm, oar, ⟨ok, otn, oix, ola⟩, ocon, ofl⟩ := o
 obtain ⟨snm, sar, ⟨sk, stn, six, sla⟩, scon, sfl⟩ := so
 exact Rr hf hw rfl rfl he hl rfl hk hc ha hcf hr hs rfl
theorem NN (r : Nat) (ds : List bd) (d : bd) : hH r (ds ++ [d]) [] = hG r (av (du (ds ++ [d]) ++ [])) (cW (ds ++ [d]) 0) (ds.length + 1) := by unfold hH; rw [List.length_append, List.length_singleton]
theorem NM (r : Nat) (ds : List bd) (d : bd) : hH r ds d.cells = hG r (av (du (ds ++ [d]) ++ [])) (cW ds 0) ds.length := by
 unfold hH
 rw [lp]
 simp only [du, List.append_nil]
theorem Kg {ds : List bd} {d : bd} {tl : List an} (hd : d.ct) (hds : ∀ o ∈ ds, o.ct) (hn : ds.length < 999) :
  ∃ tl2, KC 16 [hP, .dat d.enc] (hH 2 ds tl) 3 (XQ ⟨iv (gV ds d).1, hH 3 (gV ds d).2 tl2, 4⟩) := by
 have h := OA (tl := tl) hd hds hn
 unfold gV
 generalize d.wf = c0 at h ⊢
 cases c0 with
 | false => exact ⟨tl, Vx h⟩
 | true =>
  generalize bn 6 d.ar = c1 at h ⊢
  cases c1
  ·generalize bn 6 (Int.ofNat (aG d.fl).length) = c2 at h ⊢
   cases c2
   ·generalize aM ds d.nm = fo at h ⊢
    cases fo with
    | some o =>
     dsimp only [hY, iL] at h ⊢
     generalize o.eq d = c3 at h ⊢
     cases c3 <;>
     ·exact ⟨tl, Vx h⟩
    | none =>
     dsimp only [hY, iL] at h ⊢
     generalize bn (Int.ofNat ds.length) 60 = c4 at h ⊢
     cases c4 with
     | false => exact ⟨tl, Vx h⟩
     | true =>
      generalize cj ds d.sup = c5 at h ⊢
      cases c5 with
      | false => exact ⟨tl, Vx h⟩
      | true =>
       generalize d.fl.any (fun f => !cj (ds ++ [d]) f.ty) = c6 at h ⊢
       cases c6
       ·generalize aX d.sup.kind 2 = c7 at h ⊢
        cases c7 with
        | false =>
         dsimp only
         exact ⟨[], by rw [NN]; exact Yh h⟩
        | true =>
         dsimp only [hY] at h ⊢
         generalize (match aM (ds ++ [d]) d.sup.nm with | some d => d | none => bd.zero).con = c8 at h ⊢
         cases c8
         ·dsimp only
          exact ⟨[], by rw [NN]; exact Yh h⟩
         dsimp only
         exact ⟨d.cells, by rw [NM]; exact Yh h⟩
       dsimp only
       exact ⟨d.cells, by rw [NM]; exact Yh h⟩
   exact ⟨tl, Vx h⟩
  exact ⟨tl, Vx h⟩
def yE (nm : List UInt8) : bd := ⟨nm, 0, .mk 0 [] 0 [], true, []⟩
def cX : List bd := fO.map yE
theorem X8 : KC 44 [] [] 0 (XQ ⟨hP, hH 2 cX [], 3⟩) := by
 have h : KC 44 [] [] 0 (XQ ⟨hP, hG 5 (av (du cX ++ [])) (cW cX 0) 4, 6⟩) := oG _ _ _ _ _ (by kernel_rfl)
 refine aB.rn h ?_
 rintro v hp m ⟨rfl, rfl, rfl⟩
 exact ⟨[0, 1, 5], rfl, rfl, rfl, rfl, rfl⟩
def aI : List bd -> List an
 | [] => []
 | d :: r => d.enc :: aI r
theorem om : ∀ l : List bd, aI l = l.map bd.enc
 | [] => by simp [aI]
 | t :: r => by simp [aI, om r]
theorem bm (l : List bd) : (aI l).length = l.length := by simp [om]
theorem Oq {l : List bd} {i : Nat} {t : bd} (h : l[i]? = some t) : (aI l)[i]? = some t.enc := by simp [om, h]
theorem OF (d : bd) : d.enc.cells.length = 8 := by obtain ⟨a, b, ⟨e, f, g, h⟩, i, j⟩ := d; rfl
theorem Oo {l : List bd} {d : an} (h : d ∈ aI l) : ∃ t, d = bd.enc t := by
 rw [om] at h
 obtain ⟨t, _, rfl⟩ := List.mem_map.1 h
 exact ⟨t, rfl⟩
theorem rN (a b : List bd) : aI (a ++ b) = aI a ++ aI b := by simp [om]
theorem mz (l : List bd) : sizedB 8 (aI l) = true := jG (fun d hd => by obtain ⟨t, rfl⟩ := Oo hd; exact OF t)
theorem yo (l : List bd) : eY (aI l) = false := by
 cases l with
 | nil => rfl
 | cons t r => rfl
theorem E1 : Go.Tp.elemOf (env az.aU) 23 = some E2 := by kernel_rfl
theorem qC : E2.size = 8 := by kernel_rfl
theorem Cl {pre : List bd} {t : bd} (hl : pre.length < 1000000000) : cZ (env az.aU) false 23 [.own (aI pre), .dat (.slice [t.enc])] none = some ⟨.own (aI (pre ++ [t])), .keep⟩ := by
 rw [rN]
 refine sf (i := E2) (ds := [t.enc]) (k := 7) E1 rfl qC ?_ ?_ (by kernel_rfl) ?_ ?_ ?_ (by simp)
 ·exact mz [t]
 ·exact mz pre
 ·have h1 : E2.bytes <= 1000 := fT (by kernel_rfl)
  rw [bm]
  calc (pre.length + 1) * E2.bytes <= 1000000000 * 1000 := Nat.mul_le_mul (by omega) h1
   _ <= 140737488355328 := by decide
 ·rw [bm]; simp [jv]; omega
 unfold iE
 rw [show aI pre ++ [t.enc] = aI (pre ++ [t]) by rw [rN]; rfl, yo]
def Dj : List bd -> ac
 | [] => .dat nl
 | t :: r => .own (aI (t :: r))
noncomputable def NR : Hints := ⟨aq, HP, aw, rowsOf aw 19⟩
def Wd (cs : List an) (es : List (Go.Value × an)) (n : Nat) (pre : List bd) (i : Int) : ab := ⟨[(11, iv i), (10, iv (Int.ofNat n)), (9, .win (.out 2) 8 0 n), (3, Dj pre)], [], hG 2 (av cs) es n, 3⟩
def Wc (cs : List an) (es : List (Go.Value × an)) (n : Nat) (pre : List bd) (i : Int) : ab := ⟨[(12, bv false), (11, iv i), (10, iv (Int.ofNat n)), (9, .win (.out 2) 8 0 n), (3, Dj pre)], [], hG 2 (av cs) es n, 3⟩
theorem Es {cs : List an} {es : List (Go.Value × an)} {n i : Nat} {pre : List bd} {t : bd} (hi : i < n) (h2 : aL (env az.aU) 23 [.win (.out 2) 8 0 n, iv (Int.ofNat i)] = some ⟨.ptr (.out 2) (0 + i * 8), .keep⟩)
  (h3 : kM (env az.aU) false 35 [.ptr (.out 2) (0 + i * 8)] (some (.cells (av cs))) = some ⟨.dat t.enc, .keep⟩) (hc : ae 53 [.dat t.enc] (.dat t.enc)) (hp : pre.length < 1000000000) {T : Exit -> aa -> Prop}
  (e : T .normal ((Wd cs es n (pre ++ [t]) (aE .i64 (Int.ofNat i + 1))).au Tryz.f19.ntmps)) :
  KD (roundOf Tryz.f19 0) T ((Wd cs es n pre (Int.ofNat i)).au Tryz.f19.ntmps) := by
 have h1 := bq hi
 have h4 := Cl (t := t) hp
 clear hi hp
 obtain ⟨nm, ar, ⟨k, tn, ix, la⟩, con, fl⟩ := t
 rcases la with _ | ⟨x, la⟩ <;>
 ·rcases fl with _ | ⟨y, fl⟩ <;>
  ·rcases pre with _ | ⟨z, pre⟩ <;>
   ·refine ax [12] [13, 14, 19] (H := NR) (live := BD) (by kernel_rfl) ?_; refine ob h1 ?_; refine oo h2 ?_; refine oo h3 ?_; refine on hc ?_; refine oo h4 ?_; exact oe e
theorem GP {cs : List an} {es : List (Go.Value × an)} {n : Nat} {pre : List bd} {T : Exit -> aa -> Prop} (e : T (.exit 0) ((Wc cs es n pre (Int.ofNat n)).au Tryz.f19.ntmps)) :
  KD (roundOf Tryz.f19 0) T ((Wd cs es n pre (Int.ofNat n)).au Tryz.f19.ntmps) := by
 have h1 := bu (i := n) (L := n) (by omega)
 rcases pre with _ | ⟨z, pre⟩ <;>
 ·refine ax [12] [] (H := NR) (live := BD) (by kernel_rfl) ?_; refine ob h1 ?_; exact oe e
theorem J6 {cs : List an} {es : List (Go.Value × an)} {n : Nat} {pre : List bd} (h0 : oE (env az.aU) 23 [.win (.out 2) 8 0 n] none = some ⟨iv (Int.ofNat n), .keep⟩)
  (hl : KD (.loop (roundOf Tryz.f19 0)) (fun e s => e = .exit 0 /\ s = (Wc cs es n pre (Int.ofNat n)).au Tryz.f19.ntmps) ((Wd cs es n [] (Int.ofNat 0)).au Tryz.f19.ntmps)) : cE 19 [hP] cs es n (Dj pre) := by
 rcases pre with _ | ⟨z, pre⟩ <;>
 ·refine dK [] [10] (x := mW.of Tryz.f19 HP BD) (by kernel_rfl) ?_; refine oo h0 ?_; refine lo hl ?_; rintro ex s ⟨rfl, rfl⟩; refine ⟨_, rfl, ?_⟩; exact fi
theorem RI (r m : Nat) (pre : Heap) {ds : List bd} {tl : List an} (hds : ∀ o ∈ ds, o.ct) (hn : ds.length < 1000) : KC 19 [hP] (pre ++ hH r ds tl) m (XQ ⟨Dj ds, pre ++ hH r ds tl, m⟩) := by
 have h : cE 19 [hP] (du ds ++ tl) (cW ds 0) ds.length (Dj ds) := by
  refine J6 (vR (by simp only [jv]; omega)) ?_
  refine bi (St := fun i => (Wd (du ds ++ tl) (cW ds 0) ds.length (ds.take i) (Int.ofNat i)).au Tryz.f19.ntmps) ds.length ?_ ?_ (i := 0) (Nat.zero_le _)
  ·intro i hi
   have ht : ds[i]? = some ds[i] := List.getElem?_eq_getElem hi
   have hm : ds[i] ∈ ds := List.getElem_mem hi
   generalize ds[i] = t at ht hm
   refine Es hi (vU hi) (DK ht) (uZ (hds t hm)) (by rw [List.length_take]; omega) ?_
   rw [aZ (by omega), ← dG ht]
   rfl
  refine GP ⟨rfl, ?_⟩
  rw [List.take_length]
 cases ds with
 | nil => exact oO rfl rfl rfl pre h
 | cons d ds => exact oO rfl rfl rfl pre h
theorem Am (i : Int) : ae 47 [iv i] (.dat (Ty.mk 5 [] i []).enc) := by
 refine co [] [] (x := .of Tryz.f47 Mz Nx) ?_; exact fi
theorem yb : ae 82 [] (.dat (Ty.mk 0 [] 0 []).enc) := by
 refine co [] [] (x := .of Tryz.f82 Mo Nm) ?_; exact fi
theorem Q7 : ae 86 [] (.dat (Ty.mk 1 [] 0 []).enc) := by
 refine co [] [] (x := .of Tryz.f86 Ml Nj) ?_; exact fi
theorem nQ (nm : List UInt8) : ae 46 [.dat (sb nm), .dat nl] (.dat (Ty.mk 2 nm 0 []).enc) := by
 refine co [] [] (x := .of Tryz.f46 HH F4) ?_; exact fi
theorem ya (nm : List UInt8) (x : an) (l : List an) : ae 46 [.dat (sb nm), .dat (.slice (x :: l))] (.dat (.agg [i64 2, sb nm, i64 0, .slice (x :: l)])) := by
 refine co [] [] (x := .of Tryz.f46 HH F4) ?_; exact fi
theorem Iv (x : an) (l : List an) : ae 84 [.dat (.slice (x :: l))] (.dat (.agg [i64 4, sb [], i64 0, .slice (x :: l)])) := by
 refine co [] [] (x := .of Tryz.f84 Mn Nl) ?_; exact fi
theorem nR (t u : Ty) : ae 85 [.dat t.enc, .dat u.enc] (.dat (Ty.mk 6 [] 0 [t, u]).enc) := by
 refine co [] [] (x := .of Tryz.f85 Mm Nk) ?_
 obtain ⟨v0, v1, v2, v3⟩ := t
 rcases v3 with _ | ⟨v10, v11⟩
 ·obtain ⟨v4, v5, v6, v7⟩ := u
  rcases v7 with _ | ⟨v8, v9⟩ <;>
  ·exact fi
 obtain ⟨v12, v13, v14, v15⟩ := u
 rcases v15 with _ | ⟨v16, v17⟩ <;>
 ·exact fi
theorem Oi {L : List (List UInt8)} {i : Nat} {b : List UInt8} (h : L[i]? = some b) : (gA L)[i]? = some (sb b) := by simp [gA, h, sb]
noncomputable def YI : TI := match Go.Tp.elemOf (env az.aU) 60 with | some t => t | none => default
theorem SZ : Go.Tp.elemOf (env az.aU) 60 = some YI := by kernel_rfl
theorem Cx : YI.size = 1 := by kernel_rfl
theorem TS {L : List (List UInt8)} {i : Nat} {b : List UInt8} (h : L[i]? = some b) : aL (env az.aU) 60 [.dat (.slice (gA L)), .dat (.flat (.int .i64 (Int.ofNat i)))] = some ⟨.ref [sb b], .keep⟩ :=
 sd SZ rfl (Oi h) (by rw [Cx]; rfl) (by rw [Cx]; decide)
theorem uE {l : List bd} {i : Nat} {t : bd} (h : l[i]? = some t) : aL (env az.aU) 23 [.dat (.slice (aI l)), .dat (.flat (.int .i64 (Int.ofNat i)))] = some ⟨.ref t.cells, .keep⟩ :=
 sd E1 rfl (Oq h) (by rw [qC]; exact OF t) (by rw [qC]; decide)
theorem M4 {l ds : List an} {k k2 : Int} {r v dp : Int} {b : List UInt8} (h1 : KC 64 [eu, iv (aE .i64 (Int.ofNat ds.length + 4))] (eD l k) 1 (XQ ⟨iv r, eD l k2, 1⟩)) (h2 : bn r 4 = true)
  (hi : aL (env az.aU) 60 [.dat (.slice (gA fO)), .dat (.flat (.int .i64 r))] = some ⟨.ref [sb b], .keep⟩) :
  KC 83 [eu, .dat (.slice ds), iv dp, iv v] (eD l k) 1 (XQ ⟨.dat (Ty.mk 2 b 0 []).enc, eD l k2, 1⟩) := by
 have h3 := nQ b
 refine co [19] [22] (x := .of Tryz.f83 Dp xL) ?_; refine oh h1 ?_; refine ob h2 ?_; refine oo hi ?_; refine on h3 ?_; exact fi
noncomputable def NL : Hints := ⟨aq, Dp, aw, rowsOf aw 83⟩
def TE (lo : Heap) (nm : List UInt8) (pre : List Ty) : Heap := (.loc 11, .cells [iv 2, .dat (sb nm), iv 0, Jr pre]) :: lo
def FW (cs : List ac) : Heap := [(.loc 10, .cells cs), (.loc 8, .cells [iv 0, .dat (sb []), iv 0, .dat nl])]
def K8 (lo : Heap) (l ds : List an) (dp v K i : Int) : ab := ⟨[(12, iv i), (11, .ptr (.loc 11) 0), (10, .ptr (.loc 10) 0), (8, .ptr (.loc 8) 0), (0, eu), (1, .dat (.slice ds)), (2, iv dp), (3, iv v)], lo, eD l K, 1⟩
def R9 (lo : Heap) (l ds : List an) (dp v K i : Int) : ab := ⟨[(36, bv false), (12, iv i), (11, .ptr (.loc 11) 0), (10, .ptr (.loc 10) 0), (8, .ptr (.loc 8) 0), (0, eu), (1, .dat (.slice ds)), (2, iv dp), (3, iv v)], lo, eD l K, 1⟩
theorem MZ {l ds : List an} {dp v K K2 ar i kk ix : Int} {nm tn : List UInt8} {con : Bool} {la lb : List an} {pre : List Ty} {t : Ty} (h1 : bn i ar = true)
  (h2 : KC 65 [eu, .dat (.slice ds), iv (aE .i64 (dp - 1)), iv v] (eD l K) 1 (XQ ⟨.dat t.enc, eD l K2, 1⟩)) (hp : pre.length < 1000000000) {T : Exit -> aa -> Prop}
  (e : T .normal ((K8 (TE (FW (cellsD nm ar kk tn ix la con lb)) nm (pre ++ [t])) l ds dp v K2 (aE .i64 (i + 1))).au Tryz.f83.ntmps)) :
  KD (roundOf Tryz.f83 0) T ((K8 (TE (FW (cellsD nm ar kk tn ix la con lb)) nm pre) l ds dp v K i).au Tryz.f83.ntmps) := by
 have h3 := Kn (t := t) hp
 clear hp
 rcases pre with _ | ⟨d, r⟩ <;>
 ·refine ax [36] [48] (H := NL) (live := xL) (by kernel_rfl) ?_; refine ob h1 ?_; refine oh h2 ?_
  obtain ⟨v0, v1, v2, v3⟩ := t
  refine oo h3 ?_; exact oe e
theorem Qn {l ds : List an} {dp v K ar i kk ix : Int} {nm tn : List UInt8} {con : Bool} {la lb : List an} {pre : List Ty} (h1 : bn i ar = false) {T : Exit -> aa -> Prop}
  (e : T (.exit 0) ((R9 (TE (FW (cellsD nm ar kk tn ix la con lb)) nm pre) l ds dp v K i).au Tryz.f83.ntmps)) :
  KD (roundOf Tryz.f83 0) T ((K8 (TE (FW (cellsD nm ar kk tn ix la con lb)) nm pre) l ds dp v K i).au Tryz.f83.ntmps) := by
 rcases pre with _ | ⟨d, r⟩ <;>
 ·refine ax [36] [] (H := NL) (live := xL) (by kernel_rfl) ?_; refine ob h1 ?_; exact oe e
theorem M5 {l : List an} {ds : List an} {k k2 k3 : Int} {r v dp : Int} {nm tn : List UInt8} {ar kk ix ie : Int} {con : Bool} {la lb : List an} {ts : List Ty} (h1 : KC 64 [eu, iv (aE .i64 (Int.ofNat ds.length + 4))] (eD l k) 1 (XQ ⟨iv r, eD l k2, 1⟩)) (h2 : bn r 4 = false)
  (hi : aL (env az.aU) 23 [.dat (.slice ds), .dat (.flat (.int .i64 (aE .i64 (r - 4))))] = some ⟨.ref [sb nm, i64 ar, i64 kk, sb tn, i64 ix, sl la, bl con, sl lb], .keep⟩)
  (hl : KD (.loop (roundOf Tryz.f83 0)) (fun e s => e = .exit 0 /\ s = (R9 (TE (FW (cellsD nm ar kk tn ix la con lb)) nm ts) l ds dp v k3 ie).au Tryz.f83.ntmps) ((K8 (TE (FW (cellsD nm ar kk tn ix la con lb)) nm []) l ds dp v k2 0).au Tryz.f83.ntmps)) :
  KC 83 [eu, .dat (.slice ds), iv dp, iv v] (eD l k) 1 (XQ ⟨.dat (Ty.mk 2 nm 0 ts).enc, eD l k3, 1⟩) := by
 have q1 := eV 10 nm ar kk tn ix la con lb
 rcases ts with _ | ⟨t, ts⟩ <;>
 ·refine co [19] [28, 100010] (x := .of Tryz.f83 Dp xL) ?_; refine oh h1 ?_; refine ob h2 ?_; refine oo hi ?_; refine oo q1 ?_; refine lo hl ?_; rintro ex s ⟨rfl, rfl⟩; refine ⟨_, rfl, ?_⟩; exact fi
theorem RL {l ds : List an} {k k2 k3 r v dp i : Int} (h1 : KC 64 [eu, iv 6] (eD l k) 1 (XQ ⟨iv r, eD l k2, 1⟩)) (h2 : bn r 2 = true) (h3 : bn 0 v = true) (h4 : KC 64 [eu, iv v] (eD l k2) 1 (XQ ⟨iv i, eD l k3, 1⟩)) :
  KC 65 [eu, .dat (.slice ds), iv dp, iv v] (eD l k) 1 (XQ ⟨.dat (Ty.mk 5 [] i []).enc, eD l k3, 1⟩) := by
 have h5 := Am i
 refine co [14, 17] [] (x := .of Tryz.f65 ux qh) ?_; refine oh h1 ?_; refine ob h2 ?_; refine ob h3 ?_; refine oh h4 ?_; refine on h5 ?_; exact fi
theorem Pe {l ds : List an} {k k2 k3 r v dp i : Int} {b : List UInt8} {c2 c3 : Bool} (h1 : KC 64 [eu, iv 6] (eD l k) 1 (XQ ⟨iv r, eD l k2, 1⟩)) (h2 : bn r 2 = c2) (h3 : bn 0 v = c3) (hc : c2 = true -> c3 = false) (hd : bn 0 dp = false) (h4 : KC 64 [eu, iv 4] (eD l k2) 1 (XQ ⟨iv i, eD l k3, 1⟩))
  (hi : aL (env az.aU) 60 [.dat (.slice (gA fO)), .dat (.flat (.int .i64 i))] = some ⟨.ref [sb b], .keep⟩) :
  KC 65 [eu, .dat (.slice ds), iv dp, iv v] (eD l k) 1 (XQ ⟨.dat (Ty.mk 2 b 0 []).enc, eD l k3, 1⟩) := by
 have h5 := nQ b
 cases c2
 ·refine co [14, 25] [29] (x := .of Tryz.f65 ux qh) ?_; refine oh h1 ?_; refine ob h2 ?_; refine ox hd ?_; refine oh h4 ?_; refine oo hi ?_; refine on h5 ?_; exact fi
 obtain rfl := hc rfl
 refine co [14, 17, 25] [29] (x := .of Tryz.f65 ux qh) ?_; refine oh h1 ?_; refine ob h2 ?_; refine ob h3 ?_; refine ox hd ?_; refine oh h4 ?_; refine oo hi ?_; refine on h5 ?_; exact fi
theorem Kk {l ds : List an} {k k2 k3 r v dp : Int} {t : Ty} {c2 c3 : Bool} (h1 : KC 64 [eu, iv 6] (eD l k) 1 (XQ ⟨iv r, eD l k2, 1⟩)) (h2 : bn r 2 = c2) (h3 : bn 0 v = c3) (hc : c2 = true -> c3 = false) (hd : bn 0 dp = true) (h4 : bn r 4 = true)
  (h5 : KC 83 [eu, .dat (.slice ds), iv dp, iv v] (eD l k2) 1 (XQ ⟨.dat t.enc, eD l k3, 1⟩)) :
  KC 65 [eu, .dat (.slice ds), iv dp, iv v] (eD l k) 1 (XQ ⟨.dat t.enc, eD l k3, 1⟩) := by
 obtain ⟨ek, en, ei, ea⟩ := t
 cases c2
 ·rcases ea with _ | ⟨x, ea⟩ <;>
  ·refine co [14, 25, 34] [] (x := .of Tryz.f65 ux qh) ?_; refine oh h1 ?_; refine ob h2 ?_; refine ox hd ?_; refine ob h4 ?_; refine oh h5 ?_; exact fi
 obtain rfl := hc rfl
 rcases ea with _ | ⟨x, ea⟩ <;>
 ·refine co [14, 17, 25, 34] [] (x := .of Tryz.f65 ux qh) ?_; refine oh h1 ?_; refine ob h2 ?_; refine ob h3 ?_; refine ox hd ?_; refine ob h4 ?_; refine oh h5 ?_; exact fi
theorem Pc {l ds : List an} {k k2 k3 r v dp : Int} {t : Ty} (h1 : KC 64 [eu, iv 6] (eD l k) 1 (XQ ⟨iv r, eD l k2, 1⟩)) (h2 : bn r 2 = false) (hd : bn 0 dp = true) (h4 : bn r 4 = false)
  (h5 : KC 48 [eu, .dat (.slice ds), iv (aE .i64 (dp - 1)), iv 0] (eD l k2) 1 (XQ ⟨.dat t.enc, eD l k3, 1⟩)) :
  KC 65 [eu, .dat (.slice ds), iv dp, iv v] (eD l k) 1 (XQ ⟨.dat t.enc, eD l k3, 1⟩) := by
 obtain ⟨ek, en, ei, ea⟩ := t
 rcases ea with _ | ⟨x, ea⟩ <;>
 ·refine co [14, 25, 34] [] (x := .of Tryz.f65 ux qh) ?_; refine oh h1 ?_; refine ob h2 ?_; refine ox hd ?_; refine ob h4 ?_; refine oh h5 ?_; exact fi
abbrev bE (l : List an) (k n r k2 : Int) : Prop := KC 64 [eu, iv n] (eD l k) 1 (XQ ⟨iv r, eD l k2, 1⟩)
abbrev dA (l ds : List an) (dp v k : Int) (d : an) (k2 : Int) : Prop := KC 48 [eu, .dat (.slice ds), iv dp, iv v] (eD l k) 1 (XQ ⟨.dat d, eD l k2, 1⟩)
abbrev tV (l ds : List an) (dp v k : Int) (d : an) (k2 : Int) : Prop := KC 83 [eu, .dat (.slice ds), iv dp, iv v] (eD l k) 1 (XQ ⟨.dat d, eD l k2, 1⟩)
theorem wv {l ds : List an} {k k2 k3 v dp i : Int} {c : Bool} {b : List UInt8} (h1 : bE l k 14 0 k2) (h2 : bn 0 dp = c) (h4 : bE l k2 4 i k3)
  (hi : aL (env az.aU) 60 [.dat (.slice (gA fO)), .dat (.flat (.int .i64 i))] = some ⟨.ref [sb b], .keep⟩) : dA l ds dp v k (Ty.mk 2 b 0 []).enc k3 := by
 have h5 := nQ b
 refine co [17] [29] (x := .of Tryz.f48 eW dB) ?_; refine oh h1 ?_; refine ox h2 ?_
 cases c <;>
 ·refine oh h4 ?_; refine oo hi ?_; refine on h5 ?_; exact fi
theorem wu {l ds : List an} {k k2 k3 v dp i : Int} {c : Bool} {b : List UInt8} (h1 : bE l k 14 1 k2) (h2 : bn 0 dp = c) (h4 : bE l k2 4 i k3)
  (hi : aL (env az.aU) 60 [.dat (.slice (gA fO)), .dat (.flat (.int .i64 i))] = some ⟨.ref [sb b], .keep⟩) : dA l ds dp v k (Ty.mk 2 b 0 []).enc k3 := by
 have h5 := nQ b
 refine co [17] [29] (x := .of Tryz.f48 eW dB) ?_; refine oh h1 ?_; refine ox h2 ?_
 cases c <;>
 ·refine oh h4 ?_; refine oo hi ?_; refine on h5 ?_; exact fi
theorem IN {l ds : List an} {k k2 k3 v dp i r : Int} {b : List UInt8} (h1 : bE l k 14 r k2) (h2 : bn 0 dp = false) (h3 : bn 5 r = true) (h4 : bE l k2 4 i k3)
  (hi : aL (env az.aU) 60 [.dat (.slice (gA fO)), .dat (.flat (.int .i64 i))] = some ⟨.ref [sb b], .keep⟩) : dA l ds dp v k (Ty.mk 2 b 0 []).enc k3 := by
 have h5 := nQ b
 refine co [17, 20] [29] (x := .of Tryz.f48 eW dB) ?_; refine oh h1 ?_; refine ox h2 ?_; refine ob h3 ?_; refine oh h4 ?_; refine oo hi ?_; refine on h5 ?_; exact fi
theorem Cz {l ds : List an} {k k2 v dp : Int} {c : Bool} (h1 : bE l k 14 2 k2) (h2 : bn 0 dp = c) : dA l ds dp v k (Ty.mk 0 [] 0 []).enc k2 := by
 have h5 := yb
 refine co [17] [] (x := .of Tryz.f48 eW dB) ?_; refine oh h1 ?_; refine ox h2 ?_
 cases c <;>
 ·refine on h5 ?_; exact fi
theorem zy {l ds : List an} {k k2 k3 v dp i : Int} {c : Bool} (h1 : bE l k 14 3 k2) (h2 : bn 0 dp = c) (h3 : bn 0 v = true) (h4 : bE l k2 v i k3) : dA l ds dp v k (Ty.mk 5 [] i []).enc k3 := by
 have h5 := Am i
 refine co [17, 39] [] (x := .of Tryz.f48 eW dB) ?_; refine oh h1 ?_; refine ox h2 ?_
 cases c <;>
 ·refine ob h3 ?_; refine oh h4 ?_; refine on h5 ?_; exact fi
theorem zC {l ds : List an} {k k2 k3 v dp : Int} {c : Bool} {t : Ty} (h1 : bE l k 14 3 k2) (h2 : bn 0 dp = c) (h3 : bn 0 v = false) (h4 : tV l ds dp v k2 t.enc k3) : dA l ds dp v k t.enc k3 := by
 obtain ⟨ek, en, ei, ea⟩ := t
 rcases ea with _ | ⟨x, ea⟩ <;>
 ·refine co [17, 39] [] (x := .of Tryz.f48 eW dB) ?_; refine oh h1 ?_; refine ox h2 ?_
  cases c <;>
  ·refine ob h3 ?_; refine oh h4 ?_; exact fi
theorem zx {l ds : List an} {k k2 k3 v dp i : Int} {c : Bool} (h1 : bE l k 14 4 k2) (h2 : bn 0 dp = c) (h3 : bn 0 v = true) (h4 : bE l k2 v i k3) : dA l ds dp v k (Ty.mk 5 [] i []).enc k3 := by
 have h5 := Am i
 refine co [17, 39] [] (x := .of Tryz.f48 eW dB) ?_; refine oh h1 ?_; refine ox h2 ?_
 cases c <;>
 ·refine ob h3 ?_; refine oh h4 ?_; refine on h5 ?_; exact fi
theorem zB {l ds : List an} {k k2 k3 v dp : Int} {c : Bool} {t : Ty} (h1 : bE l k 14 4 k2) (h2 : bn 0 dp = c) (h3 : bn 0 v = false) (h4 : tV l ds dp v k2 t.enc k3) : dA l ds dp v k t.enc k3 := by
 obtain ⟨ek, en, ei, ea⟩ := t
 rcases ea with _ | ⟨x, ea⟩ <;>
 ·refine co [17, 39] [] (x := .of Tryz.f48 eW dB) ?_; refine oh h1 ?_; refine ox h2 ?_
  cases c <;>
  ·refine ob h3 ?_; refine oh h4 ?_; exact fi
theorem zA {l ds : List an} {k k2 k3 v dp : Int} {c : Bool} {t : Ty} (h1 : bE l k 14 5 k2) (h2 : bn 0 dp = c) (h4 : tV l ds dp v k2 t.enc k3) : dA l ds dp v k t.enc k3 := by
 obtain ⟨ek, en, ei, ea⟩ := t
 rcases ea with _ | ⟨x, ea⟩ <;>
 ·refine co [17] [] (x := .of Tryz.f48 eW dB) ?_; refine oh h1 ?_; refine ox h2 ?_
  cases c <;>
  ·refine oh h4 ?_; exact fi
theorem IM {l ds : List an} {k k2 k3 v dp : Int} {t : Ty} (h1 : bE l k 14 6 k2) (h2 : bn 0 dp = true) (h4 : tV l ds dp v k2 t.enc k3) : dA l ds dp v k t.enc k3 := by
 obtain ⟨ek, en, ei, ea⟩ := t
 rcases ea with _ | ⟨x, ea⟩ <;>
 ·refine co [17] [] (x := .of Tryz.f48 eW dB) ?_; refine oh h1 ?_; refine ox h2 ?_; refine oh h4 ?_; exact fi
theorem IL {l ds : List an} {k k2 k3 v dp : Int} {t : Ty} (h1 : bE l k 14 7 k2) (h2 : bn 0 dp = true) (h4 : tV l ds dp v k2 t.enc k3) : dA l ds dp v k t.enc k3 := by
 obtain ⟨ek, en, ei, ea⟩ := t
 rcases ea with _ | ⟨x, ea⟩ <;>
 ·refine co [17] [] (x := .of Tryz.f48 eW dB) ?_; refine oh h1 ?_; refine ox h2 ?_; refine oh h4 ?_; exact fi
theorem KN {l ds : List an} {k k2 k3 k4 v dp : Int} {t u : Ty} (h1 : bE l k 14 8 k2) (h2 : bn 0 dp = true) (h4 : dA l ds (aE .i64 (dp - 1)) v k2 t.enc k3) (h5 : dA l ds (aE .i64 (dp - 1)) v k3 u.enc k4) : dA l ds dp v k (Ty.mk 4 [] 0 [t, u]).enc k4 := by
 have h6 := Iv t.enc [u.enc]
 obtain ⟨ek, en, ei, ea⟩ := t
 obtain ⟨uk, un, ui, ua⟩ := u
 rcases ea with _ | ⟨x, ea⟩ <;>
 ·rcases ua with _ | ⟨y, ua⟩ <;>
  ·refine co [17] [] (x := .of Tryz.f48 eW dB) ?_; refine oh h1 ?_; refine ox h2 ?_; refine oh h4 ?_; refine oh h5 ?_; refine on h6 ?_; exact fi
theorem KM {l ds : List an} {k k2 k3 k4 v dp : Int} {t u : Ty} (h1 : bE l k 14 9 k2) (h2 : bn 0 dp = true) (h4 : dA l ds (aE .i64 (dp - 1)) v k2 t.enc k3) (h5 : dA l ds (aE .i64 (dp - 1)) v k3 u.enc k4) : dA l ds dp v k (Ty.mk 4 [] 0 [t, u]).enc k4 := by
 have h6 := Iv t.enc [u.enc]
 obtain ⟨ek, en, ei, ea⟩ := t
 obtain ⟨uk, un, ui, ua⟩ := u
 rcases ea with _ | ⟨x, ea⟩ <;>
 ·rcases ua with _ | ⟨y, ua⟩ <;>
  ·refine co [17] [] (x := .of Tryz.f48 eW dB) ?_; refine oh h1 ?_; refine ox h2 ?_; refine oh h4 ?_; refine oh h5 ?_; refine on h6 ?_; exact fi
noncomputable def SE : Hints := ⟨aq, eW, aw, rowsOf aw 48⟩
def Wz (pre : List Ty) : Heap := [(.loc 10, .cells [iv 3, .dat (sb []), iv 0, Jr pre]), (.loc 8, .cells [iv 0, .dat (sb []), iv 0, .dat nl])]
def Fb (l ds : List an) (dp v n K i : Int) (pre : List Ty) : ab := ⟨[(12, iv i), (11, iv n), (10, .ptr (.loc 10) 0), (8, .ptr (.loc 8) 0), (0, eu), (1, .dat (.slice ds)), (2, iv dp), (3, iv v)], Wz pre, eD l K, 1⟩
def Hg (l ds : List an) (dp v n K i : Int) (pre : List Ty) : ab := ⟨[(83, bv false), (12, iv i), (11, iv n), (10, .ptr (.loc 10) 0), (8, .ptr (.loc 8) 0), (0, eu), (1, .dat (.slice ds)), (2, iv dp), (3, iv v)], Wz pre, eD l K, 1⟩
theorem KH {l ds : List an} {dp v n K K2 i : Int} {pre : List Ty} {t : Ty} (h1 : bn i n = true) (h2 : dA l ds (aE .i64 (dp - 1)) v K t.enc K2) (hp : pre.length < 1000000000) {T : Exit -> aa -> Prop}
  (e : T .normal ((Fb l ds dp v n K2 (aE .i64 (i + 1)) (pre ++ [t])).au Tryz.f48.ntmps)) :
  KD (roundOf Tryz.f48 0) T ((Fb l ds dp v n K i pre).au Tryz.f48.ntmps) := by
 have h3 := Kn (t := t) hp
 clear hp
 rcases pre with _ | ⟨d, r⟩ <;>
 ·refine ax [83] [95] (H := SE) (live := dB) (by kernel_rfl) ?_; refine ob h1 ?_; refine oh h2 ?_
  obtain ⟨v0, v1, v2, v3⟩ := t
  refine oo h3 ?_; exact oe e
theorem Pz {l ds : List an} {dp v n K i : Int} {pre : List Ty} (h1 : bn i n = false) {T : Exit -> aa -> Prop}
  (e : T (.exit 1) ((Hg l ds dp v n K i pre).au Tryz.f48.ntmps)) :
  KD (roundOf Tryz.f48 0) T ((Fb l ds dp v n K i pre).au Tryz.f48.ntmps) := by
 rcases pre with _ | ⟨d, r⟩ <;>
 ·refine ax [83] [] (H := SE) (live := dB) (by kernel_rfl) ?_; refine ob h1 ?_; exact oe e
theorem E4 {l ds : List an} {k k2 k3 k4 v dp n ie : Int} {ts : List Ty} (h1 : bE l k 14 10 k2) (h2 : bn 0 dp = true) (h4 : bE l k2 4 n k3)
  (hl : KD (.loop (roundOf Tryz.f48 0)) (fun e s => e = .exit 1 /\ s = (Hg l ds dp v n k4 ie ts).au Tryz.f48.ntmps) ((Fb l ds dp v n k3 0 []).au Tryz.f48.ntmps)) : dA l ds dp v k (Ty.mk 3 [] 0 ts).enc k4 := by
 rcases ts with _ | ⟨x, ea⟩ <;>
 ·refine co [17] [] (x := .of Tryz.f48 eW dB) ?_; refine oh h1 ?_; refine ox h2 ?_; refine oh h4 ?_; refine lo hl ?_; rintro ex s ⟨rfl, rfl⟩; refine ⟨_, rfl, ?_⟩; exact fi
theorem E3 {l ds : List an} {k k2 k3 k4 v dp n ie : Int} {ts : List Ty} (h1 : bE l k 14 11 k2) (h2 : bn 0 dp = true) (h4 : bE l k2 4 n k3)
  (hl : KD (.loop (roundOf Tryz.f48 0)) (fun e s => e = .exit 1 /\ s = (Hg l ds dp v n k4 ie ts).au Tryz.f48.ntmps) ((Fb l ds dp v n k3 0 []).au Tryz.f48.ntmps)) : dA l ds dp v k (Ty.mk 3 [] 0 ts).enc k4 := by
 rcases ts with _ | ⟨x, ea⟩ <;>
 ·refine co [17] [] (x := .of Tryz.f48 eW dB) ?_; refine oh h1 ?_; refine ox h2 ?_; refine oh h4 ?_; refine lo hl ?_; rintro ex s ⟨rfl, rfl⟩; refine ⟨_, rfl, ?_⟩; exact fi
theorem KP {l ds : List an} {k k2 k3 k4 v dp : Int} {u : Ty} (h1 : bE l k 14 12 k2) (h2 : bn 0 dp = true) (h4 : bE l k2 2 0 k3) (h5 : dA l ds (aE .i64 (dp - 1)) (aE .i64 (v + 1)) k3 u.enc k4) : dA l ds dp v k (Ty.mk 6 [] 0 [.mk 0 [] 0 [], u]).enc k4 := by
 have h6 := yb
 have h7 := nR (.mk 0 [] 0 []) u
 obtain ⟨uk, un, ui, ua⟩ := u
 rcases ua with _ | ⟨y, ua⟩ <;>
 ·refine co [17] [] (x := .of Tryz.f48 eW dB) ?_; refine oh h1 ?_; refine ox h2 ?_; refine on h6 ?_; refine oh h4 ?_; refine oh h5 ?_; refine on h7 ?_; exact fi
theorem KO {l ds : List an} {k k2 k3 k4 k5 v dp : Int} {t u : Ty} (h1 : bE l k 14 12 k2) (h2 : bn 0 dp = true) (h3 : bE l k2 2 1 k3) (h4 : dA l ds 1 0 k3 t.enc k4) (h5 : dA l ds (aE .i64 (dp - 1)) (aE .i64 (v + 1)) k4 u.enc k5) : dA l ds dp v k (Ty.mk 6 [] 0 [t, u]).enc k5 := by
 have h6 := yb
 have h7 := nR t u
 obtain ⟨ek, en, ei, ea⟩ := t
 obtain ⟨uk, un, ui, ua⟩ := u
 rcases ea with _ | ⟨x, ea⟩ <;>
 ·rcases ua with _ | ⟨y, ua⟩ <;>
  ·refine co [17] [] (x := .of Tryz.f48 eW dB) ?_; refine oh h1 ?_; refine ox h2 ?_; refine on h6 ?_; refine oh h3 ?_; refine oh h4 ?_; refine oh h5 ?_; refine on h7 ?_; exact fi
theorem E5 {l ds : List an} {k k2 k3 v dp : Int} (h1 : bE l k 14 13 k2) (h2 : bn 0 dp = true) (h4 : bE l k2 4 0 k3) : dA l ds dp v k (Ty.mk 1 [] 0 []).enc k3 := by
 have h6 := Q7
 refine co [17] [] (x := .of Tryz.f48 eW dB) ?_; refine oh h1 ?_; refine ox h2 ?_; refine oh h4 ?_; refine on h6 ?_; exact fi
def GY : Ty := .mk 6 [] 0 [.mk 0 [] 0 [], .mk 2 [66, 111, 120] 0 [.mk 5 [] 0 []]]
theorem IS {l ds : List an} {k k2 k3 v dp : Int} (h1 : bE l k 14 13 k2) (h2 : bn 0 dp = true) (h4 : bE l k2 4 1 k3) : dA l ds dp v k GY.enc k3 := by
 have h5 := yb
 have h6 := Am 0
 have h7 := ya [66, 111, 120] (Ty.mk 5 [] 0 []).enc []
 have h8 := nR (.mk 0 [] 0 []) (.mk 2 [66, 111, 120] 0 [.mk 5 [] 0 []])
 refine co [17] [] (x := .of Tryz.f48 eW dB) ?_; refine oh h1 ?_; refine ox h2 ?_; refine oh h4 ?_; refine on h5 ?_; refine on h6 ?_; refine on h7 ?_; refine on h8 ?_; exact fi
theorem IQ {l ds : List an} {k k2 k3 v dp : Int} (h1 : bE l k 14 13 k2) (h2 : bn 0 dp = true) (h4 : bE l k2 4 2 k3) : dA l ds dp v k GY.enc k3 := by
 have h5 := yb
 have h6 := Am 0
 have h7 := ya [66, 111, 120] (Ty.mk 5 [] 0 []).enc []
 have h8 := nR (.mk 0 [] 0 []) (.mk 2 [66, 111, 120] 0 [.mk 5 [] 0 []])
 refine co [17] [] (x := .of Tryz.f48 eW dB) ?_; refine oh h1 ?_; refine ox h2 ?_; refine oh h4 ?_; refine on h5 ?_; refine on h6 ?_; refine on h7 ?_; refine on h8 ?_; exact fi
theorem IP {l ds : List an} {k k2 k3 v dp : Int} (h1 : bE l k 14 13 k2) (h2 : bn 0 dp = true) (h4 : bE l k2 4 3 k3) : dA l ds dp v k GY.enc k3 := by
 have h5 := yb
 have h6 := Am 0
 have h7 := ya [66, 111, 120] (Ty.mk 5 [] 0 []).enc []
 have h8 := nR (.mk 0 [] 0 []) (.mk 2 [66, 111, 120] 0 [.mk 5 [] 0 []])
 refine co [17] [] (x := .of Tryz.f48 eW dB) ?_; refine oh h1 ?_; refine ox h2 ?_; refine oh h4 ?_; refine on h5 ?_; refine on h6 ?_; refine on h7 ?_; refine on h8 ?_; exact fi
mutual
/-- Each named term in it has a name and a number of arguments that P allows. -/
def Ty.from (P : List UInt8 -> Nat -> Prop) : Ty -> Prop
 | .mk k nm _ args => (k = 2 -> P nm args.length) /\ jV P args
def jV (P : List UInt8 -> Nat -> Prop) : List Ty -> Prop
 | [] => True
 | t :: r => t.from P /\ jV P r
end
theorem D1 {P : List UInt8 -> Nat -> Prop} : ∀ {l : List Ty}, (∀ t ∈ l, t.from P) -> jV P l
 | [], _ => trivial
 | t :: r, h => ⟨h t (by simp), D1 (fun x hx => h x (by simp [hx]))⟩
theorem DP : ∀ {l : List Ty}, (∀ t ∈ l, t.dy) -> cI l
 | [], _ => by simp [cI]
 | t :: r, h => by simp only [cI]; exact ⟨h t (by simp), DP (fun x hx => h x (by simp [hx]))⟩
/-- What the generator makes between two places of the stream. -/
structure GT (P : List UInt8 -> Nat -> Prop) (N : Nat) (t : Ty) (k k2 : Nat) : Prop where
 size : t.size + 4 * k <= 4 * k2 + 1
 ix : t.dy
 frm : t.from P
 le : k <= k2
 top : k2 <= N
def GR (l : List Int) (P : List UInt8 -> Nat -> Prop) (g : FuncId) (args : List ac) (k : Nat) : Prop := ∃ t k2, GT P l.length t k k2 /\ KC g args (eD (l.map iN) (Int.ofNat k)) 1 (XQ ⟨.dat t.enc, eD (l.map iN) (Int.ofNat k2), 1⟩)
theorem Cc {l : List Int} {P : List UInt8 -> Nat -> Prop} {g : FuncId} {args : List ac} {k : Nat} (hk : k <= l.length) (h : ∀ k', k <= k' -> k' <= l.length -> GR l P g args k') : ∀ n : Nat, ∃ (ts : List Ty) (ks : Nat -> Nat), ts.length = n /\ ks 0 = k /\ k <= ks n /\ ks n <= l.length /\ aR ts + 4 * k <= 4 * ks n + n /\ cI ts /\ jV P ts ∧
  ∀ i t, ts[i]? = some t -> KC g args (eD (l.map iN) (Int.ofNat (ks i))) 1 (XQ ⟨.dat t.enc, eD (l.map iN) (Int.ofNat (ks (i + 1))), 1⟩)
 | 0 => ⟨[], fun _ => k, rfl, rfl, Nat.le_refl _, hk, by simp [aR], by simp [cI], trivial, fun i t h => by simp at h⟩
 | n + 1 => by
  obtain ⟨ts, ks, h1, h2, h3, h4, h5, h6, h7, h8⟩ := Cc hk h n
  obtain ⟨t, k2, ht, hc⟩ := h (ks n) h3 h4
  have hsz : aR (ts ++ [t]) = aR ts + t.size := by
   have := jP (l := ts ++ [t]) (i := n) (t := t) (by rw [← h1]; simp)
   rw [show (ts ++ [t]).take (n + 1) = ts ++ [t] from List.take_of_length_le (by simp; omega), show (ts ++ [t]).take n = ts by rw [← h1]; simp] at this
   exact this
  have hmem : ∀ {Q : Ty -> Prop}, (∀ x ∈ ts, Q x) -> Q t -> ∀ x ∈ ts ++ [t], Q x := by
   intro Q ha hb x hx
   rcases List.mem_append.1 hx with hx | hx
   ·exact ha x hx
   simp at hx; rw [hx]; exact hb
  have hto1 : ∀ {l : List Ty}, cI l -> ∀ x ∈ l, x.dy := by
   intro l
   induction l with
   | nil => intro _ x hx; simp at hx
   | cons a r ih => intro h x hx; simp only [cI] at h; rcases List.mem_cons.1 hx with rfl | hx; exact h.1; exact ih h.2 x hx
  have hto2 : ∀ {l : List Ty}, jV P l -> ∀ x ∈ l, x.from P := by
   intro l
   induction l with
   | nil => intro _ x hx; simp at hx
   | cons a r ih => intro h x hx; simp only [jV] at h; rcases List.mem_cons.1 hx with rfl | hx; exact h.1; exact ih h.2 x hx
  refine ⟨ts ++ [t], fun i => if i <= n then ks i else k2, by simp [h1], by simp [h2], ?_, ?_, ?_, DP (hmem (hto1 h6) ht.ix), D1 (hmem (hto2 h7) ht.frm), ?_⟩
  ·have := ht.le; dsimp only; rw [if_neg (by omega : ¬ n + 1 <= n)]; omega
  ·have := ht.top; dsimp only; rw [if_neg (by omega : ¬ n + 1 <= n)]; omega
  ·have := ht.size; dsimp only; rw [if_neg (by omega : ¬ n + 1 <= n), hsz]; omega
  intro i u hu
  by_cases hi : i < n
  ·rw [List.getElem?_append_left (by omega)] at hu
   dsimp only
   rw [if_pos (by omega : i <= n), if_pos (by omega : i + 1 <= n)]
   exact h8 i u hu
  have hin : i = n := by
   have := (List.getElem?_eq_some_iff.1 hu).1
   simp at this; omega
  subst hin
  rw [List.getElem?_append_right (by omega), h1, Nat.sub_self] at hu
  simp at hu; subst hu
  dsimp only
  rw [if_pos (Nat.le_refl _), if_neg (by omega : ¬ i + 1 <= i)]
  exact hc
theorem eS {a b : Nat} (h : a < b) : bn (Int.ofNat a) (Int.ofNat b) = true := by rw [jd, decide_eq_true h]
theorem iA {a b : Nat} (h : ¬ a < b) : bn (Int.ofNat a) (Int.ofNat b) = false := by rw [jd, decide_eq_false h]
theorem Ft {dp : Int} (h : 0 < dp) : bn 0 dp = true := by rw [gl, decide_eq_true h]
theorem M1 {dp : Int} (h : ¬ 0 < dp) : bn 0 dp = false := by rw [gl, decide_eq_false h]
theorem lk {dp : Int} (h1 : 0 <= dp) (h2 : dp <= 100) : aE .i64 (dp - 1) = dp - 1 := by rw [dx, wrap_i64 (by omega) (by omega)]
theorem QQ (i : Nat) (h : i < 4) : ∃ b, fO[i]? = some b /\ b ∈ fO := ⟨fO[i], List.getElem?_eq_getElem h, List.getElem_mem h⟩
theorem xQ {i : Nat} (h : i < 4) : ∃ b, b ∈ fO /\ aL (env az.aU) 60 [.dat (.slice (gA fO)), .dat (.flat (.int .i64 (Int.ofNat i)))] = some ⟨.ref [sb b], .keep⟩ := by
 obtain ⟨b, hb, hm⟩ := QQ i h
 exact ⟨b, hm, TS hb⟩
theorem mn {P : List UInt8 -> Nat -> Prop} {N k k2 : Nat} {b : List UInt8} (hP : P b 0) (h1 : k <= k2) (h2 : k2 <= N) : GT P N (.mk 2 b 0 []) k k2 :=
 ⟨by simp [Ty.size, aR]; omega, by simp [Ty.dy, cI, aX], by simp [Ty.from, jV]; exact hP, h1, h2⟩
theorem xX {P : List UInt8 -> Nat -> Prop} {N k k2 i : Nat} (hi : i < 500000000) (h1 : k <= k2) (h2 : k2 <= N) : GT P N (.mk 5 [] (Int.ofNat i) []) k k2 :=
 ⟨by simp [Ty.size, aR]; omega, by simp only [Ty.dy, cI]; exact ⟨fun _ => eS hi, trivial⟩, by simp [Ty.from, jV], h1, h2⟩
section
variable {l : List Int} {ds : List bd} {P : List UInt8 -> Nat -> Prop} (hl : l.length < 10000000) (hds : ds.length < 1000) (har : ∀ d ∈ ds, ∃ n : Nat, d.ar = Int.ofNat n /\ n <= 4 /\ P d.nm n) (hP0 : ∀ b ∈ fO, P b 0) (hPB : P [66, 111, 120] 1)
def aA (ds : List bd) (dp : Int) (v : Nat) : List ac := [eu, .dat (.slice (aI ds)), iv dp, iv (Int.ofNat v)]
include hl hds har hP0
theorem DC {k : Nat} (hk : k <= l.length) {dp : Int} {v : Nat} (h0 : 0 <= dp) (h3 : dp <= 3) (ih : ∀ k', k < k' -> k' <= l.length -> GR l P 65 (aA ds (dp - 1) v) k') : GR l P 83 (aA ds dp v) k := by
 have hw : aE .i64 (Int.ofNat (aI ds).length + 4) = Int.ofNat (ds.length + 4) := by
  rw [bm, dx]
  exact wrap_i64 (by simp; omega) (by simp; omega)
 obtain ⟨r, k2, ⟨hr, hk2, hk3, hk4⟩, hc⟩ := eg (n := ds.length + 4) (by omega : l.length < 1000000000) hk (by omega) (by omega)
 rw [← hw] at hc
 by_cases h4 : r < 4
 ·obtain ⟨b, hb, hi⟩ := xQ h4
  exact ⟨_, k2, mn (hP0 b hb) hk2 hk3, M4 hc (eS h4) hi⟩
 have hlt : r - 4 < ds.length := by omega
 have hg : ds[r - 4]? = some ds[r - 4] := List.getElem?_eq_getElem hlt
 obtain ⟨n, hn, hn4, hPn⟩ := har _ (List.getElem_mem hlt)
 have hkk := hk4 (by omega)
 obtain ⟨ts, ks, c1, c2, c3, c4, c5, c6, c7, c8⟩ := Cc (g := 65) (args := aA ds (dp - 1) v) (P := P) hk3 (fun k' hk' hkl => ih k' (by omega) hkl) n
 have hi := uE hg
 have hw2 : Int.ofNat (r - 4) = aE .i64 (Int.ofNat r - 4) := by
  rw [dx, wrap_i64 (by simp; omega) (by simp; omega)]
  simp; omega
 rw [hw2] at hi
 generalize ds[r - 4] = d at *
 obtain ⟨nm, ar, ⟨kk, tn, ix, la⟩, con, fl⟩ := d
 dsimp only at hn hPn
 subst hn
 refine ⟨.mk 2 nm 0 ts, ks n, ⟨by simp only [Ty.size]; omega, by simp only [Ty.dy]; exact ⟨by simp [aX], c6⟩, by simp only [Ty.from]; exact ⟨fun _ => by rw [c1]; exact hPn, c7⟩, by omega, c4⟩, ?_⟩
 refine M5 (la := ap la) (lb := aG fl) (ie := Int.ofNat n) hc (iA h4) hi ?_
 rw [← c2]
 refine bi (St := fun i => (K8 (TE (FW (cellsD nm (Int.ofNat n) kk tn ix (ap la) con (aG fl))) nm (ts.take i)) (l.map iN) (aI ds) dp (Int.ofNat v) (Int.ofNat (ks i)) (Int.ofNat i)).au Tryz.f83.ntmps) n ?_ ?_ (i := 0) (Nat.zero_le _)
 ·intro i hi2
  have hti : ts[i]? = some ts[i] := List.getElem?_eq_getElem (by omega)
  have hci := c8 i _ hti
  have hwp : dp - 1 = aE .i64 (dp - 1) := (lk h0 (by omega)).symm
  unfold aA at hci
  rw [hwp] at hci
  refine MZ (eS hi2) hci (by rw [List.length_take]; omega) ?_
  rw [aZ (by omega), ← dG hti]
  exact rfl
 refine Qn (iA (by omega)) ⟨rfl, ?_⟩
 rw [List.take_of_length_le (by omega)]
omit hds har in
theorem Pd {k : Nat} (hk : k <= l.length) {dp : Int} {v : Nat} (h0 : -1 <= dp) (h3 : dp <= 3) (hv : v < 100) (ihn : 0 < dp -> ∀ k', k <= k' -> k' <= l.length -> GR l P 83 (aA ds dp v) k') (iht : 0 < dp -> ∀ k', k < k' -> k' <= l.length -> GR l P 48 (aA ds (dp - 1) 0) k') : GR l P 65 (aA ds dp v) k := by
 obtain ⟨r, k2, ⟨hr, hk2, hk3, hk4⟩, hc⟩ := eg (n := 6) (by omega : l.length < 1000000000) hk (by omega) (by omega)
 by_cases hv0 : r < 2 /\ 0 < v
 ·obtain ⟨i, k3, ⟨hi, hk5, hk6, hk7⟩, hc2⟩ := eg (n := v) (by omega : l.length < 1000000000) hk3 hv0.2 (by omega)
  exact ⟨_, k3, xX (by omega) (by omega) hk6, RL hc (eS hv0.1) (eS (a := 0) hv0.2) hc2⟩
 have hcc : bn (Int.ofNat r) (Int.ofNat 2) = true -> bn (Int.ofNat 0) (Int.ofNat v) = false := by
  intro h
  rw [jd, decide_eq_true_eq] at h
  exact iA (by omega)
 by_cases hdp : 0 < dp
 ·by_cases hr4 : r < 4
  ·obtain ⟨t, k3, ht, hct⟩ := ihn hdp k2 hk2 hk3
   refine ⟨t, k3, ⟨?_, ht.ix, ht.frm, ?_, ht.top⟩, Kk hc rfl rfl hcc (Ft hdp) (eS hr4) hct⟩
   ·have := ht.size; omega
   have := ht.le; omega
  obtain ⟨t, k3, ht, hct⟩ := iht hdp k2 (hk4 (by omega)) hk3
  unfold aA at hct
  rw [← lk (by omega : 0 <= dp) (by omega)] at hct
  refine ⟨t, k3, ⟨?_, ht.ix, ht.frm, ?_, ht.top⟩, Pc hc (iA (b := 2) (by omega)) (Ft hdp) (iA hr4) hct⟩
  ·have := ht.size; omega
  have := ht.le; omega
 obtain ⟨i, k3, ⟨hi, hk5, hk6, hk7⟩, hc2⟩ := eg (n := 4) (by omega : l.length < 1000000000) hk3 (by omega) (by omega)
 obtain ⟨b, hb, hix⟩ := xQ hi
 exact ⟨_, k3, mn (hP0 b hb) (by omega) hk6, Pe hc rfl rfl hcc (M1 hdp) hc2 hix⟩
omit hds har in
include hPB in
theorem Hd {k : Nat} (hk : k <= l.length) {dp : Int} {v : Nat} (h0 : 0 <= dp) (h3 : dp <= 3) (hv : v + dp <= 10) (ihn : ∀ k', k < k' -> k' <= l.length -> GR l P 83 (aA ds dp v) k')
  (iht : ∀ k', k < k' -> k' <= l.length -> ∀ (dp : Int) (v : Nat), 0 <= dp -> dp <= 3 -> v + dp <= 10 -> GR l P 48 (aA ds dp v) k') : GR l P 48 (aA ds dp v) k := by
 obtain ⟨r, k2, ⟨hr, hk2, hk3, hk4⟩, hc⟩ := eg (n := 14) (by omega : l.length < 1000000000) hk (by omega) (by omega)
 have leaf : ∃ i k3 b, (k2 <= k3 /\ k3 <= l.length /\ P b 0) /\ bE (l.map iN) (Int.ofNat k2) 4 (Int.ofNat i) (Int.ofNat k3) /\ aL (env az.aU) 60 [.dat (.slice (gA fO)), .dat (.flat (.int .i64 (Int.ofNat i)))] = some ⟨.ref [sb b], .keep⟩ := by
  obtain ⟨i, k3, ⟨hi, hk5, hk6, hk7⟩, hc2⟩ := eg (n := 4) (by omega : l.length < 1000000000) hk3 (by omega) (by omega)
  obtain ⟨b, hb, hix⟩ := xQ hi
  exact ⟨i, k3, b, ⟨hk5, hk6, hP0 b hb⟩, hc2, hix⟩
 have hnam : ∀ {c : Nat}, 0 < r -> ∃ t k3, GT P l.length t k k3 /\ tV (l.map iN) (aI ds) dp (Int.ofNat v) (Int.ofNat k2) t.enc (Int.ofNat k3) := by
  intro c h
  obtain ⟨t, k3, ht, hct⟩ := ihn k2 (hk4 h) hk3
  exact ⟨t, k3, ⟨by have := ht.size; omega, ht.ix, ht.frm, by have := ht.le; omega, ht.top⟩, hct⟩
 by_cases hdp : 0 < dp
 ·have hd := Ft hdp
  have sub : ∀ (k' : Nat), k < k' -> k' <= l.length -> ∃ t k3, GT P l.length t k' k3 /\ dA (l.map iN) (aI ds) (aE .i64 (dp - 1)) (Int.ofNat v) (Int.ofNat k') t.enc (Int.ofNat k3) := by
   intro k' h1 h2
   obtain ⟨t, k3, ht, hct⟩ := iht k' h1 h2 (dp - 1) v (by omega) (by omega) (by omega)
   rw [lk (by omega) (by omega)]
   exact ⟨t, k3, ht, hct⟩
  have hcase : r = 0 ∨ r = 1 ∨ r = 2 ∨ r = 3 ∨ r = 4 ∨ r = 5 ∨ r = 6 ∨ r = 7 ∨ r = 8 ∨ r = 9 ∨ r = 10 ∨ r = 11 ∨ r = 12 ∨ r = 13 := by omega
  have hun : 0 < r -> ∃ t u k3 k4, GT P l.length (.mk 4 [] 0 [t, u]) k k4 /\ dA (l.map iN) (aI ds) (aE .i64 (dp - 1)) (Int.ofNat v) (Int.ofNat k2) t.enc (Int.ofNat k3) /\ dA (l.map iN) (aI ds) (aE .i64 (dp - 1)) (Int.ofNat v) (Int.ofNat k3) u.enc (Int.ofNat k4) := by
   intro h
   have hkk := hk4 h
   obtain ⟨t, k3, ht, hct⟩ := sub k2 hkk hk3
   obtain ⟨u, k4, hu, hcu⟩ := sub k3 (by have := ht.le; omega) ht.top
   refine ⟨t, u, k3, k4, ⟨?_, ?_, ?_, ?_, hu.top⟩, hct, hcu⟩
   ·have := ht.size; have := hu.size; simp only [Ty.size, aR]; omega
   ·simp only [Ty.dy, cI]; exact ⟨by simp [aX], ht.ix, hu.ix, trivial⟩
   ·simp only [Ty.from, jV]; exact ⟨fun h => by simp at h, ht.frm, hu.frm, trivial⟩
   have := ht.le; have := hu.le; omega
  have htup : 0 < r -> ∃ n k3 ts k4, bE (l.map iN) (Int.ofNat k2) 4 n (Int.ofNat k3) /\ GT P l.length (.mk 3 [] 0 ts) k k4 /\ KD (.loop (roundOf Tryz.f48 0)) (fun e s => e = .exit 1 /\ s = (Hg (l.map iN) (aI ds) dp (Int.ofNat v) n (Int.ofNat k4) n ts).au Tryz.f48.ntmps) ((Fb (l.map iN) (aI ds) dp (Int.ofNat v) n (Int.ofNat k3) 0 []).au Tryz.f48.ntmps) := by
   intro h
   have hkk := hk4 h
   obtain ⟨n, k3, ⟨hn, hk5, hk6, hk7⟩, hc2⟩ := eg (n := 4) (by omega : l.length < 1000000000) hk3 (by omega) (by omega)
   obtain ⟨ts, ks, c1, c2, c3, c4, c5, c6, c7, c8⟩ := Cc (g := 48) (args := aA ds (dp - 1) v) (P := P) hk6 (fun k' h1 h2 => iht k' (by omega) h2 (dp - 1) v (by omega) (by omega) (by omega)) n
   refine ⟨_, k3, ts, ks n, hc2, ⟨by simp only [Ty.size]; omega, by simp only [Ty.dy]; exact ⟨by simp [aX], c6⟩, by simp only [Ty.from]; exact ⟨fun h => by simp at h, c7⟩, by omega, c4⟩, ?_⟩
   rw [← c2]
   refine bi (St := fun i => (Fb (l.map iN) (aI ds) dp (Int.ofNat v) (Int.ofNat n) (Int.ofNat (ks i)) (Int.ofNat i) (ts.take i)).au Tryz.f48.ntmps) n ?_ ?_ (i := 0) (Nat.zero_le _)
   ·intro i hi2
    have hti : ts[i]? = some ts[i] := List.getElem?_eq_getElem (by omega)
    have hci := c8 i _ hti
    unfold aA at hci
    rw [← lk h0 (by omega)] at hci
    refine KH (eS hi2) hci (by rw [List.length_take]; omega) ?_
    rw [aZ (by omega), ← dG hti]
    exact rfl
   refine Pz (iA (by omega)) ⟨rfl, ?_⟩
   rw [List.take_of_length_le (by omega)]
  rcases hcase with rfl | rfl | rfl | rfl | rfl | rfl | rfl | rfl | rfl | rfl | rfl | rfl | rfl | rfl
  ·obtain ⟨i, k3, b, ⟨g1, g2, g3⟩, hc2, hix⟩ := leaf
   exact ⟨_, k3, mn g3 (by omega) g2, wv hc rfl hc2 hix⟩
  ·obtain ⟨i, k3, b, ⟨g1, g2, g3⟩, hc2, hix⟩ := leaf
   exact ⟨_, k3, mn g3 (by omega) g2, wu hc rfl hc2 hix⟩
  ·exact ⟨_, k2, ⟨by simp [Ty.size, aR]; omega, by simp [Ty.dy, cI, aX], by simp [Ty.from, jV], hk2, hk3⟩, Cz hc rfl⟩
  ·by_cases hv0 : 0 < v
   ·obtain ⟨i, k3, ⟨hi, hk5, hk6, hk7⟩, hc2⟩ := eg (n := v) (by omega : l.length < 1000000000) hk3 hv0 (by omega)
    exact ⟨_, k3, xX (by omega) (by omega) hk6, zy hc rfl (eS (a := 0) hv0) hc2⟩
   obtain ⟨t, k3, ht, hct⟩ := hnam (c := 0) (by omega)
   exact ⟨t, k3, ht, zC hc rfl (iA (a := 0) hv0) hct⟩
  ·by_cases hv0 : 0 < v
   ·obtain ⟨i, k3, ⟨hi, hk5, hk6, hk7⟩, hc2⟩ := eg (n := v) (by omega : l.length < 1000000000) hk3 hv0 (by omega)
    exact ⟨_, k3, xX (by omega) (by omega) hk6, zx hc rfl (eS (a := 0) hv0) hc2⟩
   obtain ⟨t, k3, ht, hct⟩ := hnam (c := 0) (by omega)
   exact ⟨t, k3, ht, zB hc rfl (iA (a := 0) hv0) hct⟩
  ·obtain ⟨t, k3, ht, hct⟩ := hnam (c := 0) (by omega)
   exact ⟨t, k3, ht, zA hc rfl hct⟩
  ·obtain ⟨t, k3, ht, hct⟩ := hnam (c := 0) (by omega)
   exact ⟨t, k3, ht, IM hc hd hct⟩
  ·obtain ⟨t, k3, ht, hct⟩ := hnam (c := 0) (by omega)
   exact ⟨t, k3, ht, IL hc hd hct⟩
  ·obtain ⟨t, u, k3, k4, g, ht, hu⟩ := hun (by omega)
   exact ⟨_, k4, g, KN hc hd ht hu⟩
  ·obtain ⟨t, u, k3, k4, g, ht, hu⟩ := hun (by omega)
   exact ⟨_, k4, g, KM hc hd ht hu⟩
  ·obtain ⟨n, k3, ts, k4, hn, g, hlp⟩ := htup (by omega)
   exact ⟨_, k4, g, E4 hc hd hn hlp⟩
  ·obtain ⟨n, k3, ts, k4, hn, g, hlp⟩ := htup (by omega)
   exact ⟨_, k4, g, E3 hc hd hn hlp⟩
  ·have hkk := hk4 (by omega)
   obtain ⟨i, k3, ⟨hi, hk5, hk6, hk7⟩, hc2⟩ := eg (n := 2) (by omega : l.length < 1000000000) hk3 (by omega) (by omega)
   have hwv : aE .i64 (Int.ofNat v + 1) = Int.ofNat (v + 1) := aZ (by omega)
   have hwp : aE .i64 (dp - 1) = dp - 1 := lk h0 (by omega)
   by_cases hi0 : i = 0
   ·subst hi0
    obtain ⟨u, k4, hu, hcu⟩ := iht k3 (by omega) hk6 (dp - 1) (v + 1) (by omega) (by omega) (by omega)
    refine ⟨_, k4, ⟨?_, ?_, ?_, ?_, hu.top⟩, KP hc hd hc2 (by rw [hwp, hwv]; exact hcu)⟩
    ·have := hu.size; simp only [Ty.size, aR]; omega
    ·simp only [Ty.dy, cI]; exact ⟨by simp [aX], ⟨by simp [aX], trivial⟩, hu.ix, trivial⟩
    ·simp only [Ty.from, jV]; exact ⟨fun h => by simp at h, ⟨fun h => by simp at h, trivial⟩, hu.frm, trivial⟩
    have := hu.le; omega
   have hi1 : i = 1 := by omega
   subst hi1
   obtain ⟨t, k4, ht, hct⟩ := iht k3 (by omega) hk6 1 0 (by omega) (by omega) (by omega)
   obtain ⟨u, k5, hu, hcu⟩ := iht k4 (by have := ht.le; omega) ht.top (dp - 1) (v + 1) (by omega) (by omega) (by omega)
   refine ⟨_, k5, ⟨?_, ?_, ?_, ?_, hu.top⟩, KO hc hd hc2 hct (by rw [hwp, hwv]; exact hcu)⟩
   ·have := ht.size; have := hu.size; simp only [Ty.size, aR]; omega
   ·simp only [Ty.dy, cI]; exact ⟨by simp [aX], ht.ix, hu.ix, trivial⟩
   ·simp only [Ty.from, jV]; exact ⟨fun h => by simp at h, ht.frm, hu.frm, trivial⟩
   have := ht.le; have := hu.le; omega
  have hkk := hk4 (by omega)
  obtain ⟨i, k3, ⟨hi, hk5, hk6, hk7⟩, hc2⟩ := eg (n := 4) (by omega : l.length < 1000000000) hk3 (by omega) (by omega)
  have gb : GT P l.length GY k k3 := ⟨by simp [GY, Ty.size, aR]; omega, by simp [GY, Ty.dy, cI, aX, bn], by simp [GY, Ty.from, jV]; exact hPB, by omega, hk6⟩
  have hic : i = 0 ∨ i = 1 ∨ i = 2 ∨ i = 3 := by omega
  rcases hic with rfl | rfl | rfl | rfl
  ·exact ⟨_, k3, ⟨by simp [Ty.size, aR]; omega, by simp [Ty.dy, cI, aX], by simp [Ty.from, jV], by omega, hk6⟩, E5 hc hd hc2⟩
  ·exact ⟨_, k3, gb, IS hc hd hc2⟩
  ·exact ⟨_, k3, gb, IQ hc hd hc2⟩
  exact ⟨_, k3, gb, IP hc hd hc2⟩
 have hd := M1 hdp
 by_cases h5 : 5 < r
 ·obtain ⟨i, k3, b, ⟨g1, g2, g3⟩, hc2, hix⟩ := leaf
  exact ⟨_, k3, mn g3 (by omega) g2, IN hc hd (eS (a := 5) h5) hc2 hix⟩
 have hcase : r = 0 ∨ r = 1 ∨ r = 2 ∨ r = 3 ∨ r = 4 ∨ r = 5 := by omega
 rcases hcase with rfl | rfl | rfl | rfl | rfl | rfl
 ·obtain ⟨i, k3, b, ⟨g1, g2, g3⟩, hc2, hix⟩ := leaf
  exact ⟨_, k3, mn g3 (by omega) g2, wv hc rfl hc2 hix⟩
 ·obtain ⟨i, k3, b, ⟨g1, g2, g3⟩, hc2, hix⟩ := leaf
  exact ⟨_, k3, mn g3 (by omega) g2, wu hc rfl hc2 hix⟩
 ·exact ⟨_, k2, ⟨by simp [Ty.size, aR]; omega, by simp [Ty.dy, cI, aX], by simp [Ty.from, jV], hk2, hk3⟩, Cz hc rfl⟩
 ·by_cases hv0 : 0 < v
  ·obtain ⟨i, k3, ⟨hi, hk5, hk6, hk7⟩, hc2⟩ := eg (n := v) (by omega : l.length < 1000000000) hk3 hv0 (by omega)
   exact ⟨_, k3, xX (by omega) (by omega) hk6, zy hc rfl (eS (a := 0) hv0) hc2⟩
  obtain ⟨t, k3, ht, hct⟩ := hnam (c := 0) (by omega)
  exact ⟨t, k3, ht, zC hc rfl (iA (a := 0) hv0) hct⟩
 ·by_cases hv0 : 0 < v
  ·obtain ⟨i, k3, ⟨hi, hk5, hk6, hk7⟩, hc2⟩ := eg (n := v) (by omega : l.length < 1000000000) hk3 hv0 (by omega)
   exact ⟨_, k3, xX (by omega) (by omega) hk6, zx hc rfl (eS (a := 0) hv0) hc2⟩
  obtain ⟨t, k3, ht, hct⟩ := hnam (c := 0) (by omega)
  exact ⟨t, k3, ht, zB hc rfl (iA (a := 0) hv0) hct⟩
 obtain ⟨t, k3, ht, hct⟩ := hnam (c := 0) (by omega)
 exact ⟨t, k3, ht, zA hc rfl hct⟩
include hPB in
theorem Iu : ∀ (m k : Nat), k <= l.length -> l.length - k <= m ->
  (∀ (dp : Int) (v : Nat), 0 <= dp -> dp <= 3 -> v + dp <= 10 -> GR l P 83 (aA ds dp v) k) /\ (∀ (dp : Int) (v : Nat), -1 <= dp -> dp <= 3 -> v + dp <= 10 -> GR l P 65 (aA ds dp v) k) /\ (∀ (dp : Int) (v : Nat), 0 <= dp -> dp <= 3 -> v + dp <= 10 -> GR l P 48 (aA ds dp v) k) := by
 intro m
 induction m with
 | zero =>
  intro k hk hm
  have hn : ∀ (dp : Int) (v : Nat), 0 <= dp -> dp <= 3 -> v + dp <= 10 -> GR l P 83 (aA ds dp v) k := fun dp v h0 h3 hv => DC hl hds har hP0 hk h0 h3 (fun k' h1 h2 => by omega)
  refine ⟨hn, ?_, ?_⟩
  ·intro dp v h0 h3 hv
   refine Pd hl hP0 hk h0 h3 (by omega) (fun hp k' h1 h2 => ?_) (fun hp k' h1 h2 => by omega)
   have : k' = k := by omega
   subst this
   exact hn dp v (by omega) h3 hv
  intro dp v h0 h3 hv
  exact Hd hl hP0 hPB hk h0 h3 hv (fun k' h1 h2 => by omega) (fun k' h1 h2 => by omega)
 | succ m ih =>
  intro k hk hm
  have hn : ∀ (dp : Int) (v : Nat), 0 <= dp -> dp <= 3 -> v + dp <= 10 -> GR l P 83 (aA ds dp v) k := fun dp v h0 h3 hv => DC hl hds har hP0 hk h0 h3 (fun k' h1 h2 => (ih k' h2 (by omega)).2.1 _ _ (by omega) (by omega) (by omega))
  refine ⟨hn, ?_, ?_⟩
  ·intro dp v h0 h3 hv
   refine Pd hl hP0 hk h0 h3 (by omega) (fun hp k' h1 h2 => ?_) (fun hp k' h1 h2 => (ih k' h2 (by omega)).2.2 _ _ (by omega) (by omega) (by omega))
   by_cases hkk : k' = k
   ·subst hkk
    exact hn dp v (by omega) h3 hv
   exact (ih k' h2 (by omega)).1 _ _ (by omega) h3 hv
  intro dp v h0 h3 hv
  exact Hd hl hP0 hPB hk h0 h3 hv (fun k' h1 h2 => (ih k' h2 (by omega)).1 _ _ h0 h3 hv) (fun k' h1 h2 dp v a b c => (ih k' h2 (by omega)).2.2 _ _ a b c)
end
def gZ : List bd := [⟨[66, 111, 120], 1, (.mk 0 [] 0 []), false, []⟩,
 ⟨[67, 101, 108, 108], 1, (.mk 2 [66, 111, 120] 0 [(.mk 5 [] 0 [])]), true, [⟨[105, 116, 101, 109], (.mk 5 [] 0 [])⟩]⟩,
 ⟨[73, 110, 116, 66, 111, 120], 0, (.mk 2 [66, 111, 120] 0 [(.mk 2 [73, 110, 116] 0 [])]), true, [⟨[105, 116, 101, 109], (.mk 2 [73, 110, 116] 0 [])⟩]⟩,
 ⟨[83, 104, 97, 112, 101], 0, (.mk 0 [] 0 []), false, []⟩,
 ⟨[68, 111, 116], 0, (.mk 2 [83, 104, 97, 112, 101] 0 []), true, []⟩,
 ⟨[68, 105, 115, 107], 0, (.mk 2 [83, 104, 97, 112, 101] 0 []), true, [⟨[114, 97, 100, 105, 117, 115], (.mk 2 [73, 110, 116] 0 [])⟩]⟩,
 ⟨[80, 97, 105, 114], 2, (.mk 0 [] 0 []), true, [⟨[102, 105, 114, 115, 116], (.mk 5 [] 0 [])⟩, ⟨[115, 101, 99, 111, 110, 100], (.mk 5 [] 1 [])⟩]⟩,
 ⟨[78, 101, 115, 116], 1, (.mk 2 [66, 111, 120] 0 [(.mk 2 [66, 111, 120] 0 [(.mk 5 [] 0 [])])]), true, [⟨[105, 110, 110, 101, 114], (.mk 2 [66, 111, 120] 0 [(.mk 5 [] 0 [])])⟩]⟩]
theorem T0 : ae 43 [] (.own (aI gZ)) := oG _ _ _ _ _ (by kernel_rfl)
noncomputable def NO : Hints := ⟨aq, HO, aw, rowsOf aw 28⟩
def kP (l : List an) (ds : List an) (K n i : Int) : ab := ⟨[(6, iv i), (5, iv n), (0, eu), (1, .own ds)], [], eD l K, 1⟩
def HW (b : List UInt8) (ar kk : Int) (tn : List UInt8) (A : ac) (con : Bool) (F : ac) : Heap := [(.loc 7, .cells [.dat (sb b), iv ar, iv kk, .dat (sb tn), iv 0, A, .dat (bl con), F])]
/-- The loop that gathers the abstract ones. -/
def AW (lo : Heap) (l ds : List an) (K n i j : Int) (pre : List bd) : ab := ⟨[(9, iv j), (8, Dj pre), (7, .ptr (.loc 7) 0), (6, iv i), (5, iv n), (0, eu), (1, .own ds)], lo, eD l K, 1⟩
def CG (lo : Heap) (l ds : List an) (K n i j : Int) (pre : List bd) : ab := ⟨[(35, bv false), (9, iv j), (8, Dj pre), (7, .ptr (.loc 7) 0), (6, iv i), (5, iv n), (0, eu), (1, .own ds)], lo, eD l K, 1⟩
theorem N8 {b : List UInt8} {ar K n i j : Int} {con : Bool} {l : List an} {ds pre : List bd} {t : bd} (h1 : bn j (Int.ofNat (aI ds).length) = true) (hi : aL (env az.aU) 23 [.dat (.slice (aI ds)), .dat (.flat (.int .i64 j))] = some ⟨.ref t.cells, .keep⟩) (hp : pre.length < 1000000000) {T : Exit -> aa -> Prop}
  (e1 : t.con = true -> T .normal ((AW (HW b ar 0 [] (.dat nl) con (.dat nl)) l (aI ds) K n i (aE .i64 (j + 1)) pre).au Tryz.f28.ntmps))
  (e2 : t.con = false -> T .normal ((AW (HW b ar 0 [] (.dat nl) con (.dat nl)) l (aI ds) K n i (aE .i64 (j + 1)) (pre ++ [t])).au Tryz.f28.ntmps)) :
  KD (roundOf Tryz.f28 1) T ((AW (HW b ar 0 [] (.dat nl) con (.dat nl)) l (aI ds) K n i j pre).au Tryz.f28.ntmps) := by
 have h3 := Cl (t := t) hp
 clear hp
 generalize aI ds = es at *
 obtain ⟨nm, ar2, ⟨kk, tn, ix, la⟩, con2, fl⟩ := t
 rcases pre with _ | ⟨d, r⟩ <;>
 ·refine ax [35] [40, 47, 50] (H := NO) (live := iw) (by kernel_rfl) ?_; refine ob h1 ?_; refine oo hi ?_
  cases con2
  ·refine oo hi ?_; refine oo h3 ?_; exact oe (e2 rfl)
  exact oe (e1 rfl)
theorem Rf {b : List UInt8} {ar K n i j : Int} {con : Bool} {l ds : List an} {pre : List bd} (h1 : bn j (Int.ofNat ds.length) = false) {T : Exit -> aa -> Prop}
  (e : T (.exit 2) ((CG (HW b ar 0 [] (.dat nl) con (.dat nl)) l ds K n i j pre).au Tryz.f28.ntmps)) :
  KD (roundOf Tryz.f28 1) T ((AW (HW b ar 0 [] (.dat nl) con (.dat nl)) l ds K n i j pre).au Tryz.f28.ntmps) := by
 rcases pre with _ | ⟨d, r⟩ <;>
 ·refine ax [35] [] (H := NO) (live := iw) (by kernel_rfl) ?_; refine ob h1 ?_; exact oe e
/-- The loop of the supertype's arguments. -/
def sX (cs : List ac) (b : List UInt8) (ar : Int) (tn : List UInt8) (pre : List Ty) (con : Bool) : Heap := [(.loc 10, .cells cs), (.loc 7, .cells [.dat (sb b), iv ar, iv 2, .dat (sb tn), iv 0, Jr pre, .dat (bl con), .dat nl])]
def CC (lo : Heap) (l ds : List an) (K n i j : Int) : ab := ⟨[(11, iv j), (10, .ptr (.loc 10) 0), (7, .ptr (.loc 7) 0), (6, iv i), (5, iv n), (0, eu), (1, .own ds)], lo, eD l K, 1⟩
def CB (lo : Heap) (l ds : List an) (K n i j : Int) : ab := ⟨[(65, bv false), (11, iv j), (10, .ptr (.loc 10) 0), (7, .ptr (.loc 7) 0), (6, iv i), (5, iv n), (0, eu), (1, .own ds)], lo, eD l K, 1⟩
abbrev Vs (l ds : List an) (dp v k : Int) (d : an) (k2 : Int) : Prop := KC 65 [eu, .dat (.slice ds), iv dp, iv v] (eD l k) 1 (XQ ⟨.dat d, eD l k2, 1⟩)
theorem Lt {b nm tn tn2 : List UInt8} {ar ar2 kk ix K K2 n i j : Int} {con con2 : Bool} {l ds la lb : List an} {pre : List Ty} {t : Ty} (h1 : bn j ar2 = true) (h2 : Vs l ds 1 ar K t.enc K2) (hp : pre.length < 1000000000) {T : Exit -> aa -> Prop}
  (e : T .normal ((CC (sX (cellsD nm ar2 kk tn2 ix la con2 lb) b ar tn (pre ++ [t]) con) l ds K2 n i (aE .i64 (j + 1))).au Tryz.f28.ntmps)) :
  KD (roundOf Tryz.f28 2) T ((CC (sX (cellsD nm ar2 kk tn2 ix la con2 lb) b ar tn pre con) l ds K n i j).au Tryz.f28.ntmps) := by
 have h3 := Kn (t := t) hp
 clear hp
 rcases pre with _ | ⟨d, r⟩ <;>
 ·refine ax [65] [77] (H := NO) (live := iw) (by kernel_rfl) ?_; refine ob h1 ?_; refine oh h2 ?_
  obtain ⟨v0, v1, v2, v3⟩ := t
  refine oo h3 ?_; exact oe e
theorem PM {b nm tn tn2 : List UInt8} {ar ar2 kk ix K n i j : Int} {con con2 : Bool} {l ds la lb : List an} {pre : List Ty} (h1 : bn j ar2 = false) {T : Exit -> aa -> Prop}
  (e : T (.exit 4) ((CB (sX (cellsD nm ar2 kk tn2 ix la con2 lb) b ar tn pre con) l ds K n i j).au Tryz.f28.ntmps)) :
  KD (roundOf Tryz.f28 2) T ((CC (sX (cellsD nm ar2 kk tn2 ix la con2 lb) b ar tn pre con) l ds K n i j).au Tryz.f28.ntmps) := by
 rcases pre with _ | ⟨d, r⟩ <;>
 ·refine ax [65] [] (H := NO) (live := iw) (by kernel_rfl) ?_; refine ob h1 ?_; exact oe e
theorem U7 {l : List an} {ds : List bd} {k k2 k3 k4 n i ar : Int} {b : List UInt8} (h1 : bn i n = true) (hS : aL (env az.aU) 60 [.dat (.slice (gA gS)), .dat (.flat (.int .i64 i))] = some ⟨.ref [sb b], .keep⟩)
  (n1 : bE l k 3 ar k2) (n2 : bE l k2 2 0 k3) (n3 : bE l k3 3 0 k4)
  (hp : ds.length < 1000000000) {T : Exit -> aa -> Prop} (e : T .normal ((kP l (aI (ds ++ [⟨b, ar, (.mk 0 [] 0 []), false, []⟩])) k4 n (aE .i64 (i + 1))).au Tryz.f28.ntmps)) :
  KD (roundOf Tryz.f28 0) T ((kP l (aI ds) k n i).au Tryz.f28.ntmps) := by
 have h9 := Cl (t := ⟨b, ar, (.mk 0 [] 0 []), false, []⟩) hp
 clear hp
 refine ax [16] [21, 98] (H := NO) (live := iw) (by kernel_rfl) ?_; refine ob h1 ?_; refine oo hS ?_; refine oh n1 ?_; refine oh n2 ?_; refine oh n3 ?_; refine oo h9 ?_; exact oe e
theorem U6 {l : List an} {ds abs : List bd} {a ah : bd} {k k2 k3 k4 k5 k6 n i ar sp ai ej ek : Int} {b : List UInt8} {ts : List Ty} (h1 : bn i n = true) (hS : aL (env az.aU) 60 [.dat (.slice (gA gS)), .dat (.flat (.int .i64 i))] = some ⟨.ref [sb b], .keep⟩)
  (n1 : bE l k 3 ar k2) (n2 : bE l k2 2 0 k3) (n3 : bE l k3 3 sp k4) (hsp : bn 0 sp = true)
  (hl : KD (.loop (roundOf Tryz.f28 1)) (fun e s => e = .exit 2 /\ s = (CG (HW b ar 0 [] (.dat nl) false (.dat nl)) l (aI ds) k4 n i ej (ah :: abs)).au Tryz.f28.ntmps) ((AW (HW b ar 0 [] (.dat nl) false (.dat nl)) l (aI ds) k4 n i 0 []).au Tryz.f28.ntmps))
  (n5 : bE l k4 (Int.ofNat (aI (ah :: abs)).length) ai k5) (hi : aL (env az.aU) 23 [.dat (.slice (aI (ah :: abs))), .dat (.flat (.int .i64 ai))] = some ⟨.ref a.cells, .keep⟩)
  (hl2 : KD (.loop (roundOf Tryz.f28 2)) (fun e s => e = .exit 4 /\ s = (CB (sX (cellsD a.nm a.ar a.sup.kind a.sup.nm a.sup.xS (ap a.sup.args) a.con (aG a.fl)) b ar a.nm ts false) l (aI ds) k6 n i ek).au Tryz.f28.ntmps) ((CC (sX (cellsD a.nm a.ar a.sup.kind a.sup.nm a.sup.xS (ap a.sup.args) a.con (aG a.fl)) b ar a.nm [] false) l (aI ds) k5 n i 0).au Tryz.f28.ntmps))
  (hp : ds.length < 1000000000) {T : Exit -> aa -> Prop} (e : T .normal ((kP l (aI (ds ++ [⟨b, ar, (.mk 2 a.nm 0 ts), false, []⟩])) k6 n (aE .i64 (i + 1))).au Tryz.f28.ntmps)) :
  KD (roundOf Tryz.f28 0) T ((kP l (aI ds) k n i).au Tryz.f28.ntmps) := by
 have h9 := Cl (t := ⟨b, ar, (.mk 2 a.nm 0 ts), false, []⟩) hp
 clear hp
 obtain ⟨anm, aar, ⟨akk, atn, aix, ala⟩, acon, afl⟩ := a
 have q1 := eV 10 anm aar akk atn aix (ap ala) acon (aG afl)
 dsimp only [Ty.kind, Ty.nm, Ty.xS, Ty.args] at hi hl2 h9 e
 rcases ts with _ | ⟨z1, y1⟩ <;>
 ·refine ax [16, 31] [21, 56, 100010, 98] (H := NO) (live := iw) (by kernel_rfl) ?_; refine ob h1 ?_; refine oo hS ?_; refine oh n1 ?_; refine oh n2 ?_; refine oh n3 ?_; refine ob hsp ?_; refine lo hl ?_; rintro ex s ⟨rfl, rfl⟩; refine ⟨_, rfl, ?_⟩; refine oh n5 ?_; refine oo hi ?_; refine oo q1 ?_; refine lo hl2 ?_; rintro ex s ⟨rfl, rfl⟩; refine ⟨_, rfl, ?_⟩; refine oo h9 ?_; exact oe e
theorem U5 {l : List an} {ds : List bd} {k k2 k3 k4 k7 n i ar : Int} {b : List UInt8} (h1 : bn i n = true) (hS : aL (env az.aU) 60 [.dat (.slice (gA gS)), .dat (.flat (.int .i64 i))] = some ⟨.ref [sb b], .keep⟩)
  (n1 : bE l k 3 ar k2) (n2 : bE l k2 2 1 k3) (n3 : bE l k3 3 0 k4) (n6 : bE l k4 2 0 k7)
  (hp : ds.length < 1000000000) {T : Exit -> aa -> Prop} (e : T .normal ((kP l (aI (ds ++ [⟨b, ar, (.mk 0 [] 0 []), true, []⟩])) k7 n (aE .i64 (i + 1))).au Tryz.f28.ntmps)) :
  KD (roundOf Tryz.f28 0) T ((kP l (aI ds) k n i).au Tryz.f28.ntmps) := by
 have h9 := Cl (t := ⟨b, ar, (.mk 0 [] 0 []), true, []⟩) hp
 clear hp
 refine ax [16] [21, 98] (H := NO) (live := iw) (by kernel_rfl) ?_; refine ob h1 ?_; refine oo hS ?_; refine oh n1 ?_; refine oh n2 ?_; refine oh n3 ?_; refine oh n6 ?_; refine oo h9 ?_; exact oe e
theorem U4 {l : List an} {ds : List bd} {k k2 k3 k4 k7 k8 n i ar : Int} {b : List UInt8} {t : Ty} (h1 : bn i n = true) (hS : aL (env az.aU) 60 [.dat (.slice (gA gS)), .dat (.flat (.int .i64 i))] = some ⟨.ref [sb b], .keep⟩)
  (n1 : bE l k 3 ar k2) (n2 : bE l k2 2 1 k3) (n3 : bE l k3 3 0 k4) (n6 : bE l k4 2 1 k7) (n7 : Vs l (aI ds) 1 ar k7 t.enc k8)
  (hp : ds.length < 1000000000) {T : Exit -> aa -> Prop} (e : T .normal ((kP l (aI (ds ++ [⟨b, ar, (.mk 0 [] 0 []), true, [⟨[112, 97, 114, 116], t⟩]⟩])) k8 n (aE .i64 (i + 1))).au Tryz.f28.ntmps)) :
  KD (roundOf Tryz.f28 0) T ((kP l (aI ds) k n i).au Tryz.f28.ntmps) := by
 have h9 := Cl (t := ⟨b, ar, (.mk 0 [] 0 []), true, [⟨[112, 97, 114, 116], t⟩]⟩) hp
 clear hp
 obtain ⟨ek2, en, ei, ea⟩ := t
 rcases ea with _ | ⟨z1, y1⟩ <;>
 ·refine ax [16] [21, 98] (H := NO) (live := iw) (by kernel_rfl) ?_; refine ob h1 ?_; refine oo hS ?_; refine oh n1 ?_; refine oh n2 ?_; refine oh n3 ?_; refine oh n6 ?_; refine oh n7 ?_; refine oo h9 ?_; exact oe e
theorem U3 {l : List an} {ds abs : List bd} {a ah : bd} {k k2 k3 k4 k5 k6 k7 n i ar sp ai ej ek : Int} {b : List UInt8} {ts : List Ty} (h1 : bn i n = true) (hS : aL (env az.aU) 60 [.dat (.slice (gA gS)), .dat (.flat (.int .i64 i))] = some ⟨.ref [sb b], .keep⟩)
  (n1 : bE l k 3 ar k2) (n2 : bE l k2 2 1 k3) (n3 : bE l k3 3 sp k4) (hsp : bn 0 sp = true)
  (hl : KD (.loop (roundOf Tryz.f28 1)) (fun e s => e = .exit 2 /\ s = (CG (HW b ar 0 [] (.dat nl) true (.dat nl)) l (aI ds) k4 n i ej (ah :: abs)).au Tryz.f28.ntmps) ((AW (HW b ar 0 [] (.dat nl) true (.dat nl)) l (aI ds) k4 n i 0 []).au Tryz.f28.ntmps))
  (n5 : bE l k4 (Int.ofNat (aI (ah :: abs)).length) ai k5) (hi : aL (env az.aU) 23 [.dat (.slice (aI (ah :: abs))), .dat (.flat (.int .i64 ai))] = some ⟨.ref a.cells, .keep⟩)
  (hl2 : KD (.loop (roundOf Tryz.f28 2)) (fun e s => e = .exit 4 /\ s = (CB (sX (cellsD a.nm a.ar a.sup.kind a.sup.nm a.sup.xS (ap a.sup.args) a.con (aG a.fl)) b ar a.nm ts true) l (aI ds) k6 n i ek).au Tryz.f28.ntmps) ((CC (sX (cellsD a.nm a.ar a.sup.kind a.sup.nm a.sup.xS (ap a.sup.args) a.con (aG a.fl)) b ar a.nm [] true) l (aI ds) k5 n i 0).au Tryz.f28.ntmps)) (n6 : bE l k6 2 0 k7)
  (hp : ds.length < 1000000000) {T : Exit -> aa -> Prop} (e : T .normal ((kP l (aI (ds ++ [⟨b, ar, (.mk 2 a.nm 0 ts), true, []⟩])) k7 n (aE .i64 (i + 1))).au Tryz.f28.ntmps)) :
  KD (roundOf Tryz.f28 0) T ((kP l (aI ds) k n i).au Tryz.f28.ntmps) := by
 have h9 := Cl (t := ⟨b, ar, (.mk 2 a.nm 0 ts), true, []⟩) hp
 clear hp
 obtain ⟨anm, aar, ⟨akk, atn, aix, ala⟩, acon, afl⟩ := a
 have q1 := eV 10 anm aar akk atn aix (ap ala) acon (aG afl)
 dsimp only [Ty.kind, Ty.nm, Ty.xS, Ty.args] at hi hl2 h9 e
 rcases ts with _ | ⟨z1, y1⟩ <;>
 ·refine ax [16, 31] [21, 56, 100010, 98] (H := NO) (live := iw) (by kernel_rfl) ?_; refine ob h1 ?_; refine oo hS ?_; refine oh n1 ?_; refine oh n2 ?_; refine oh n3 ?_; refine ob hsp ?_; refine lo hl ?_; rintro ex s ⟨rfl, rfl⟩; refine ⟨_, rfl, ?_⟩; refine oh n5 ?_; refine oo hi ?_; refine oo q1 ?_; refine lo hl2 ?_; rintro ex s ⟨rfl, rfl⟩; refine ⟨_, rfl, ?_⟩; refine oh n6 ?_; refine oo h9 ?_; exact oe e
theorem U2 {l : List an} {ds abs : List bd} {a ah : bd} {k k2 k3 k4 k5 k6 k7 k8 n i ar sp ai ej ek : Int} {b : List UInt8} {ts : List Ty} {t : Ty} (h1 : bn i n = true) (hS : aL (env az.aU) 60 [.dat (.slice (gA gS)), .dat (.flat (.int .i64 i))] = some ⟨.ref [sb b], .keep⟩)
  (n1 : bE l k 3 ar k2) (n2 : bE l k2 2 1 k3) (n3 : bE l k3 3 sp k4) (hsp : bn 0 sp = true)
  (hl : KD (.loop (roundOf Tryz.f28 1)) (fun e s => e = .exit 2 /\ s = (CG (HW b ar 0 [] (.dat nl) true (.dat nl)) l (aI ds) k4 n i ej (ah :: abs)).au Tryz.f28.ntmps) ((AW (HW b ar 0 [] (.dat nl) true (.dat nl)) l (aI ds) k4 n i 0 []).au Tryz.f28.ntmps))
  (n5 : bE l k4 (Int.ofNat (aI (ah :: abs)).length) ai k5) (hi : aL (env az.aU) 23 [.dat (.slice (aI (ah :: abs))), .dat (.flat (.int .i64 ai))] = some ⟨.ref a.cells, .keep⟩)
  (hl2 : KD (.loop (roundOf Tryz.f28 2)) (fun e s => e = .exit 4 /\ s = (CB (sX (cellsD a.nm a.ar a.sup.kind a.sup.nm a.sup.xS (ap a.sup.args) a.con (aG a.fl)) b ar a.nm ts true) l (aI ds) k6 n i ek).au Tryz.f28.ntmps) ((CC (sX (cellsD a.nm a.ar a.sup.kind a.sup.nm a.sup.xS (ap a.sup.args) a.con (aG a.fl)) b ar a.nm [] true) l (aI ds) k5 n i 0).au Tryz.f28.ntmps)) (n6 : bE l k6 2 1 k7) (n7 : Vs l (aI ds) 1 ar k7 t.enc k8)
  (hp : ds.length < 1000000000) {T : Exit -> aa -> Prop} (e : T .normal ((kP l (aI (ds ++ [⟨b, ar, (.mk 2 a.nm 0 ts), true, [⟨[112, 97, 114, 116], t⟩]⟩])) k8 n (aE .i64 (i + 1))).au Tryz.f28.ntmps)) :
  KD (roundOf Tryz.f28 0) T ((kP l (aI ds) k n i).au Tryz.f28.ntmps) := by
 have h9 := Cl (t := ⟨b, ar, (.mk 2 a.nm 0 ts), true, [⟨[112, 97, 114, 116], t⟩]⟩) hp
 clear hp
 obtain ⟨ek2, en, ei, ea⟩ := t
 obtain ⟨anm, aar, ⟨akk, atn, aix, ala⟩, acon, afl⟩ := a
 have q1 := eV 10 anm aar akk atn aix (ap ala) acon (aG afl)
 dsimp only [Ty.kind, Ty.nm, Ty.xS, Ty.args] at hi hl2 h9 e
 rcases ts with _ | ⟨z2, y2⟩ <;>
 ·rcases ea with _ | ⟨z1, y1⟩ <;>
  ·refine ax [16, 31] [21, 56, 100010, 98] (H := NO) (live := iw) (by kernel_rfl) ?_; refine ob h1 ?_; refine oo hS ?_; refine oh n1 ?_; refine oh n2 ?_; refine oh n3 ?_; refine ob hsp ?_; refine lo hl ?_; rintro ex s ⟨rfl, rfl⟩; refine ⟨_, rfl, ?_⟩; refine oh n5 ?_; refine oo hi ?_; refine oo q1 ?_; refine lo hl2 ?_; rintro ex s ⟨rfl, rfl⟩; refine ⟨_, rfl, ?_⟩; refine oh n6 ?_; refine oh n7 ?_; refine oo h9 ?_; exact oe e
/-- A chain of steps, each of which there is. -/
theorem OP {α : Type} {n : Nat} {Inv : Nat -> α -> Prop} {R : Nat -> α -> α -> Prop} (a0 : α) (h0 : Inv 0 a0) (h : ∀ i a, i < n -> Inv i a -> ∃ b, R i a b /\ Inv (i + 1) b) :
  ∃ f : Nat -> α, f 0 = a0 /\ (∀ i, i <= n -> Inv i (f i)) /\ ∀ i, i < n -> R i (f i) (f (i + 1)) := by
 induction n with
 | zero =>
  refine ⟨fun _ => a0, rfl, ?_, fun i hi => absurd hi (Nat.not_lt_zero i)⟩
  intro i hi
  have : i = 0 := by omega
  subst this
  exact h0
 | succ n ih =>
  obtain ⟨f, h1, h2, h3⟩ := ih (fun i a hi => h i a (by omega))
  obtain ⟨b, hb, hi⟩ := h n (f n) (by omega) (h2 n (Nat.le_refl _))
  refine ⟨fun i => if i <= n then f i else b, by simp [h1], ?_, ?_⟩
  ·intro i hin
   dsimp only
   by_cases hi2 : i <= n
   ·rw [if_pos hi2]; exact h2 i hi2
   obtain rfl : i = n + 1 := by omega
   rw [if_neg hi2]; exact hi
  intro i hin
  dsimp only
  by_cases hi2 : i < n
  ·rw [if_pos (by omega : i <= n), if_pos (by omega : i + 1 <= n)]; exact h3 i hi2
  obtain rfl : i = n := by omega
  rw [if_pos (Nat.le_refl _), if_neg (by omega : ¬ i + 1 <= i)]; exact hb
def NT : List (List UInt8) := gZ.map bd.nm ++ gS
/-- A declaration of the generator. -/
structure YH (d : bd) : Prop where
 ct : d.ct
 ar : ∃ n : Nat, d.ar = Int.ofNat n /\ n <= 2
 nm : d.nm ∈ NT
 flen : d.fl.length <= 2
structure GD (ds : List bd) : Prop where
 len : ds.length <= 900
 each : ∀ d ∈ ds, YH d
 abs : ∃ d ∈ ds, d.con = false
theorem D8 {ds : List bd} {j : Nat} {t : bd} (h : ds[j]? = some t) : (ds.take (j + 1)).filter (fun d => !d.con) = (ds.take j).filter (fun d => !d.con) ++ (if t.con then [] else [t]) := by
 rw [dG h, List.filter_append]
 cases hc : t.con <;> simp [hc]
theorem kE {l : List bd} {i : Nat} (h : i < (aI l).length) : ∃ t, l[i]? = some t /\ t ∈ l := by
 rw [bm] at h
 exact ⟨l[i], List.getElem?_eq_getElem h, List.getElem_mem h⟩
theorem Re {b : List UInt8} {ar K n i : Int} {con : Bool} {l : List an} {ds : List bd} (hb : ds.length < 1000000) :
  KD (.loop (roundOf Tryz.f28 1)) (fun e s => e = .exit 2 /\ s = (CG (HW b ar 0 [] (.dat nl) con (.dat nl)) l (aI ds) K n i (Int.ofNat ds.length) (ds.filter (fun d => !d.con))).au Tryz.f28.ntmps)
   ((AW (HW b ar 0 [] (.dat nl) con (.dat nl)) l (aI ds) K n i 0 []).au Tryz.f28.ntmps) := by
 refine bi (St := fun j => (AW (HW b ar 0 [] (.dat nl) con (.dat nl)) l (aI ds) K n i (Int.ofNat j) ((ds.take j).filter (fun d => !d.con))).au Tryz.f28.ntmps) (aI ds).length ?_ ?_ (i := 0) (Nat.zero_le _)
 ·intro j hj
  obtain ⟨t, ht, hm⟩ := kE hj
  have hw : aE .i64 (Int.ofNat j + 1) = Int.ofNat (j + 1) := aZ (by rw [bm] at hj; omega)
  have hft := D8 ht
  refine N8 (eS hj) (uE ht) (by have := List.length_filter_le (fun d : bd => !d.con) (ds.take j); rw [List.length_take] at this; omega) ?_ ?_
  ·intro hc
   rw [hw]
   rw [hc] at hft
   simp only [if_true, List.append_nil] at hft
   rw [← hft]
   exact rfl
  intro hc
  rw [hw]
  rw [hc] at hft
  simp only [if_false, Bool.false_eq_true] at hft
  rw [← hft]
  exact rfl
 refine Rf (iA (by omega)) ⟨rfl, ?_⟩
 rw [bm, List.take_length]
section
variable {l : List Int} {ds : List bd} (hl : l.length < 10000000) (hd : GD ds)
include hl hd
theorem BP {k : Nat} (hk : k <= l.length) {v : Nat} (hv : v <= 2) : GR l (fun _ _ => True) 65 (aA ds 1 v) k :=
 (Iu (P := fun _ _ => True) hl (by have := hd.len; omega) (fun d hm => by obtain ⟨n, h1, h2⟩ := (hd.each d hm).ar; exact ⟨n, h1, by omega, trivial⟩) (fun _ _ => trivial) trivial (l.length - k) k hk (Nat.le_refl _)).2.1 1 v (by omega) (by omega) (by omega)
omit hd in
theorem xZ {t : Ty} {k k2 : Nat} (h : GT (fun _ _ => True) l.length t k k2) : t.ct := ⟨by have := h.size; have := h.top; omega, h.ix⟩
/-- A round of Extra. -/
theorem GH {n i k : Nat} (hk : k <= l.length) (hi : i < n) (hn : n <= 4) : ∃ d k2, YH d /\ k2 <= l.length /\ ∀ T : Exit -> aa -> Prop, T .normal ((kP (l.map iN) (aI (ds ++ [d])) (Int.ofNat k2) (Int.ofNat n) (Int.ofNat (i + 1))).au Tryz.f28.ntmps) ->
  KD (roundOf Tryz.f28 0) T ((kP (l.map iN) (aI ds) (Int.ofNat k) (Int.ofNat n) (Int.ofNat i)).au Tryz.f28.ntmps) := by
 have hb : l.length < 1000000000 := by omega
 have hw : aE .i64 (Int.ofNat i + 1) = Int.ofNat (i + 1) := aZ (by omega)
 rw [← hw]
 obtain ⟨b, hbx, hS⟩ : ∃ b, b ∈ gS /\ aL (env az.aU) _ [.dat (.slice (gA gS)), .dat (.flat (.int .i64 (Int.ofNat i)))] = some ⟨.ref [sb b], .keep⟩ := by
  have h4 : i < gS.length := by show i < 4; omega
  exact ⟨gS[i], List.getElem_mem h4, TS (List.getElem?_eq_getElem h4)⟩
 have hbn : b ∈ NT := List.mem_append_right _ hbx
 have h1 := eS hi
 have hp : ds.length < 1000000000 := by have := hd.len; omega
 obtain ⟨ar, k2, ⟨a1, a2, a3, _⟩, n1⟩ := eg (n := 3) hb hk (by omega) (by omega)
 obtain ⟨cc, k3, ⟨b1, b2, b3, _⟩, n2⟩ := eg (n := 2) hb a3 (by omega) (by omega)
 obtain ⟨sp, k4, ⟨c1, c2, c3, _⟩, n3⟩ := eg (n := 3) hb b3 (by omega) (by omega)
 have hcc : cc = 0 ∨ cc = 1 := by omega
 have har : ∃ n : Nat, Int.ofNat ar = Int.ofNat n /\ n <= 2 := ⟨ar, rfl, by omega⟩
 have anyF : Ty.ct (.mk 0 [] 0 []) := ⟨by simp [Ty.size, aR], by simp [Ty.dy, cI, aX]⟩
 by_cases hsp : sp = 0
 ·subst hsp
  rcases hcc with rfl | rfl
  ·exact ⟨_, k4, ⟨⟨anyF, by simp, by simp⟩, har, hbn, by simp⟩, c3, fun T e => U7 h1 hS n1 n2 n3 hp e⟩
  obtain ⟨fb, k7, ⟨f1, f2, f3, _⟩, n6⟩ := eg (n := 2) hb c3 (by omega) (by omega)
  have hfb : fb = 0 ∨ fb = 1 := by omega
  rcases hfb with rfl | rfl
  ·exact ⟨_, k7, ⟨⟨anyF, by simp, by simp⟩, har, hbn, by simp⟩, f3, fun T e => U5 h1 hS n1 n2 n3 n6 hp e⟩
  obtain ⟨t, k8, ht, n7⟩ := BP hl hd f3 (v := ar) (by omega)
  have tf := xZ hl ht
  exact ⟨_, k8, ⟨⟨anyF, by intro f hf; rw [List.mem_singleton.1 hf]; exact tf, by simp⟩, har, hbn, by simp⟩, ht.top, fun T e => U4 h1 hS n1 n2 n3 n6 n7 hp e⟩
 have hsp2 : bn 0 (Int.ofNat sp) = true := eS (a := 0) (by omega)
 have hfl := fun con => Re (b := b) (ar := Int.ofNat ar) (K := Int.ofNat k4) (n := Int.ofNat n) (i := Int.ofNat i) (con := con) (l := l.map iN) (ds := ds) (by have := hd.len; omega)
 obtain ⟨d0, hd0, hc0⟩ := hd.abs
 have hmem : ∀ x ∈ ds.filter (fun d => !d.con), x ∈ ds := fun x hx => (List.mem_filter.1 hx).1
 have hne : d0 ∈ ds.filter (fun d => !d.con) := List.mem_filter.2 ⟨hd0, by simp [hc0]⟩
 have hle := List.length_filter_le (fun d : bd => !d.con) ds
 cases hab : ds.filter (fun d => !d.con) with
 | nil => rw [hab] at hne; simp at hne
 | cons ah abs =>
  rw [hab] at hmem hle hfl
  obtain ⟨ai, k5, ⟨d1, d2, d3, _⟩, n5⟩ := eg (n := (aI (ah :: abs)).length) hb c3 (by simp [aI]) (by rw [bm]; have := hd.len; omega)
  obtain ⟨a, ha, ham⟩ := kE d1
  have hi := uE ha
  obtain ⟨m, hm1, hm2⟩ := (hd.each a (hmem a ham)).ar
  have hanm := (hd.each a (hmem a ham)).nm
  obtain ⟨ts, ks, e1, e2, e3, e4, e5, e6, e7, e8⟩ := Cc (g := 65) (args := aA ds 1 ar) (P := fun _ _ => True) d3 (fun k' hk' hkl => BP hl hd hkl (by omega)) m
  have supF : Ty.ct (.mk 2 a.nm 0 ts) := ⟨by simp only [Ty.size]; omega, by simp only [Ty.dy]; exact ⟨by simp [aX], e6⟩⟩
  have hl2 : ∀ con : Bool, KD (.loop (roundOf Tryz.f28 2)) (fun e s => e = .exit 4 /\ s = (CB (sX (cellsD a.nm a.ar a.sup.kind a.sup.nm a.sup.xS (ap a.sup.args) a.con (aG a.fl)) b (Int.ofNat ar) a.nm ts con) (l.map iN) (aI ds) (Int.ofNat (ks m)) (Int.ofNat n) (Int.ofNat i) (Int.ofNat m)).au Tryz.f28.ntmps)
    ((CC (sX (cellsD a.nm a.ar a.sup.kind a.sup.nm a.sup.xS (ap a.sup.args) a.con (aG a.fl)) b (Int.ofNat ar) a.nm [] con) (l.map iN) (aI ds) (Int.ofNat k5) (Int.ofNat n) (Int.ofNat i) 0).au Tryz.f28.ntmps) := by
   intro con
   rw [← e2]
   refine bi (St := fun j => (CC (sX (cellsD a.nm a.ar a.sup.kind a.sup.nm a.sup.xS (ap a.sup.args) a.con (aG a.fl)) b (Int.ofNat ar) a.nm (ts.take j) con) (l.map iN) (aI ds) (Int.ofNat (ks j)) (Int.ofNat n) (Int.ofNat i) (Int.ofNat j)).au Tryz.f28.ntmps) m ?_ ?_ (i := 0) (Nat.zero_le _)
   ·intro j hj
    have hti : ts[j]? = some ts[j] := List.getElem?_eq_getElem (by omega)
    refine Lt (by rw [hm1]; exact eS hj) (e8 j _ hti) (by rw [List.length_take]; omega) ?_
    rw [aZ (by omega), ← dG hti]
    exact rfl
   refine PM (by rw [hm1]; exact iA (by omega)) ⟨rfl, ?_⟩
   rw [List.take_of_length_le (by omega)]
  rcases hcc with rfl | rfl
  ·exact ⟨_, ks m, ⟨⟨supF, by simp, by simp⟩, har, hbn, by simp⟩, e4, fun T e => U6 h1 hS n1 n2 n3 hsp2 (hfl false) n5 hi (hl2 false) hp e⟩
  obtain ⟨fb, k7, ⟨f1, f2, f3, _⟩, n6⟩ := eg (n := 2) hb e4 (by omega) (by omega)
  have hfb : fb = 0 ∨ fb = 1 := by omega
  rcases hfb with rfl | rfl
  ·exact ⟨_, k7, ⟨⟨supF, by simp, by simp⟩, har, hbn, by simp⟩, f3, fun T e => U3 h1 hS n1 n2 n3 hsp2 (hfl true) n5 hi (hl2 true) n6 hp e⟩
  obtain ⟨t, k8, ht, n7⟩ := BP hl hd f3 (v := ar) (by omega)
  have tf := xZ hl ht
  exact ⟨_, k8, ⟨⟨supF, by intro f hf; rw [List.mem_singleton.1 hf]; exact tf, by simp⟩, har, hbn, by simp⟩, ht.top, fun T e => U2 h1 hS n1 n2 n3 hsp2 (hfl true) n5 hi (hl2 true) n6 n7 hp e⟩
end
def Sf (l : List an) (ds : List an) (K n i : Int) : ab := ⟨[(16, bv false), (6, iv i), (5, iv n), (0, eu), (1, .own ds)], [], eD l K, 1⟩
theorem Rk {l ds : List an} {k n i : Int} (h1 : bn i n = false) {T : Exit -> aa -> Prop} (e : T (.exit 0) ((Sf l ds k n i).au Tryz.f28.ntmps)) :
  KD (roundOf Tryz.f28 0) T ((kP l ds k n i).au Tryz.f28.ntmps) := by
 refine ax [16] [] (H := NO) (live := iw) (by kernel_rfl) ?_; refine ob h1 ?_; exact oe e
theorem Oe {l ds ds2 : List an} {k k2 k3 n : Int} (h1 : bE l k 5 n k2) (hl : KD (.loop (roundOf Tryz.f28 0)) (fun e s => e = .exit 0 /\ s = (Sf l ds2 k3 n n).au Tryz.f28.ntmps) ((kP l ds k2 n 0).au Tryz.f28.ntmps)) :
  KC 28 [eu, .own ds] (eD l k) 1 (XQ ⟨.own ds2, eD l k3, 1⟩) := by
 refine co [] [] (x := .of Tryz.f28 HO iw) ?_; refine oh h1 ?_; refine lo hl ?_; rintro ex s ⟨rfl, rfl⟩; refine ⟨_, rfl, ?_⟩; exact fi
theorem GD.add {ds : List bd} {d : bd} (h : GD ds) (hd : YH d) (hn : ds.length < 900) : GD (ds ++ [d]) where
 len := by simp; omega
 each := by
  intro x hx
  rcases List.mem_append.1 hx with hx | hx
  ·exact h.each x hx
  rw [List.mem_singleton.1 hx]; exact hd
 abs := by
  obtain ⟨d, h1, h2⟩ := h.abs
  exact ⟨d, List.mem_append_left _ h1, h2⟩
/-- Extra: up to four more. -/
theorem Iw {l : List Int} {ds : List bd} (hl : l.length < 10000000) (hd : GD ds) (hn : ds.length <= 800) {k : Nat} (hk : k <= l.length) :
  ∃ (m : List bd) (k2 : Nat), GD (ds ++ m) /\ m.length <= 4 /\ k2 <= l.length /\ KC 28 [eu, .own (aI ds)] (eD (l.map iN) (Int.ofNat k)) 1 (XQ ⟨.own (aI (ds ++ m)), eD (l.map iN) (Int.ofNat k2), 1⟩) := by
 obtain ⟨n, k2, ⟨h1, h2, h3, _⟩, hc⟩ := eg (n := 5) (by omega : l.length < 1000000000) hk (by omega) (by omega)
 obtain ⟨f, f0, fI, fR⟩ := OP (α := List bd × Nat) (n := n) (Inv := fun i a => GD (ds ++ a.1) /\ a.1.length = i /\ a.2 <= l.length)
  (R := fun i a b => ∀ T : Exit -> aa -> Prop, T .normal ((kP (l.map iN) (aI (ds ++ b.1)) (Int.ofNat b.2) (Int.ofNat n) (Int.ofNat (i + 1))).au Tryz.f28.ntmps) ->
   KD (roundOf Tryz.f28 0) T ((kP (l.map iN) (aI (ds ++ a.1)) (Int.ofNat a.2) (Int.ofNat n) (Int.ofNat i)).au Tryz.f28.ntmps))
  ([], k2) ⟨by rw [List.append_nil]; exact hd, rfl, h3⟩ (by
   rintro i ⟨m, kk⟩ hi ⟨g1, g2, g3⟩
   obtain ⟨d, k3, hd3, hk3, hR⟩ := GH hl g1 g3 hi (by omega)
   refine ⟨(m ++ [d], k3), ?_, ?_, by simp at g2 ⊢; omega, hk3⟩
   ·intro T hT
    rw [← List.append_assoc] at hT
    exact hR T hT
   rw [← List.append_assoc]
   refine g1.add hd3 ?_
   simp at g2 ⊢; omega)
 obtain ⟨g1, g2, g3⟩ := fI n (Nat.le_refl _)
 refine ⟨(f n).1, (f n).2, g1, by omega, g3, Oe hc ?_⟩
 have e : kP (l.map iN) (aI ds) (Int.ofNat k2) (Int.ofNat n) 0 = kP (l.map iN) (aI (ds ++ (f 0).1)) (Int.ofNat (f 0).2) (Int.ofNat n) (Int.ofNat 0) := by rw [f0]; simp
 rw [e]
 refine bi (St := fun i => (kP (l.map iN) (aI (ds ++ (f i).1)) (Int.ofNat (f i).2) (Int.ofNat n) (Int.ofNat i)).au Tryz.f28.ntmps) n ?_ ?_ (i := 0) (Nat.zero_le _)
 ·intro i hi
  exact fR i hi _ rfl
 exact Rk (iA (by omega)) ⟨rfl, rfl⟩
theorem O9 : GD gZ where
 len := by decide
 each := by
  have key : ∀ d ∈ gZ, (d.sup.size < 100000000 /\ d.sup.dy) /\ (∀ f ∈ d.fl, f.ty.size < 100000000 /\ f.ty.dy) /\ d.fl.length <= 2 /\ (∃ n : Nat, d.ar = Int.ofNat n /\ n <= 2) := by
   intro d hd
   simp only [gZ, List.mem_cons, List.mem_nil_iff, or_false] at hd
   rcases hd with rfl | rfl | rfl | rfl | rfl | rfl | rfl | rfl <;>
    simp [Ty.size, aR, Ty.dy, cI, aX, bn]
   all_goals first | exact ⟨0, rfl, by omega⟩ | exact ⟨1, rfl, by omega⟩ | exact ⟨2, rfl, by omega⟩
  intro d hd
  obtain ⟨h1, h2, h3, h4⟩ := key d hd
  exact ⟨⟨h1, h2, by omega⟩, h4, List.mem_append_left _ (List.mem_map_of_mem hd), h3⟩
 abs := ⟨_, List.mem_cons_self, rfl⟩
theorem Oz {l ds ds2 : List an} {k : Int} (h1 : ae 43 [] (.own ds)) (h2 : KC 15 [.dat (.slice l)] [] 0 (XQ ⟨eu, eD l 0, 1⟩)) (h3 : KC 28 [eu, .own ds] (eD l 0) 1 (XQ ⟨.own ds2, eD l k, 1⟩)) :
  ae 9 [.dat (.slice l)] (.own ds2) := by
 refine co [] [] (x := .of Tryz.f9 Tv Sy) ?_; refine oh h2 ?_; refine on h1 ?_; refine oh h3 ?_; exact fi
/-- Decls: the base and up to four more. -/
theorem Q9 {l : List Int} (hl : l.length < 10000000) : ∃ m : List bd, GD (gZ ++ m) /\ m.length <= 4 /\ ae 9 [.dat (.slice (l.map iN))] (.own (aI (gZ ++ m))) := by
 obtain ⟨m, k2, h1, h2, h3, h4⟩ := Iw hl O9 (by decide) (Nat.zero_le _)
 exact ⟨m, h1, h2, Oz T0 NX h4⟩
theorem Qk {l ds : List an} {k k2 v : Int} {t : Ty} (h : dA l ds 3 v k t.enc k2) : KC 14 [eu, .dat (.slice ds), iv v] (eD l k) 1 (XQ ⟨.dat t.enc, eD l k2, 1⟩) := by
 obtain ⟨ek2, en, ei, ea⟩ := t
 rcases ea with _ | ⟨x, ea⟩ <;>
 ·refine co [] [] (x := .of Tryz.f14 MN NB) ?_; refine oh h ?_; exact fi
def ju (j : Nat) (k : Int) (nm : List UInt8) (ix : Int) (a : an) : Heap := [(.loc j, .cells [iv k, .dat (sb nm), iv ix, .dat a])]
def vm (lo : Heap) (i n : Int) : ab := ⟨[(4, iv i), (3, iv n), (1, .ptr (.loc 1) 0)], lo, [], 0⟩
def zG (lo : Heap) (i n : Int) : ab := ⟨[(9, bv false), (4, iv i), (3, iv n), (1, .ptr (.loc 1) 0)], lo, [], 0⟩
theorem iJ {l : List Ty} {i : Nat} (h : i < (ap l).length) : sl (ap l) = .slice (ap l) := by cases l with | nil => simp [ap] at h | cons x r => rfl
noncomputable def Yp : Hints := ⟨aq, Bf, aw, rowsOf aw 175⟩
theorem Lw {k : Int} {nm : List UInt8} {ix n m : Int} {l : List Ty} {t : Ty} {i : Nat} (hi : i < (ap l).length) (ht : l[i]? = some t) (hc : ae 175 [.dat t.enc] (iv m)) {T : Exit -> aa -> Prop}
  (e : T .normal ((vm (ju 1 k nm ix (.slice (ap l))) (aE .i64 (Int.ofNat i + 1)) (aE .i64 (n + m))).au Tryz.f175.ntmps)) :
  KD (roundOf Tryz.f175 0) T ((vm (ju 1 k nm ix (.slice (ap l))) (Int.ofNat i) n).au Tryz.f175.ntmps) := by
 have h1 := bq hi
 have h2 := jg ht
 generalize ap l = es at *
 clear ht hi
 obtain ⟨k2, nm2, ix2, a2⟩ := t
 rcases a2 with _ | ⟨b, d⟩ <;>
 ·refine ax [9] [16] (H := Yp) (live := rj) (by kernel_rfl) ?_; refine ob h1 ?_; refine oo h2 ?_; refine on hc ?_; exact oe e
theorem PN {k : Int} {nm : List UInt8} {ix n : Int} {l : List an} {T : Exit -> aa -> Prop} (e : T (.exit 0) ((zG (ju 1 k nm ix (sl l)) (Int.ofNat l.length) n).au Tryz.f175.ntmps)) :
  KD (roundOf Tryz.f175 0) T ((vm (ju 1 k nm ix (sl l)) (Int.ofNat l.length) n).au Tryz.f175.ntmps) := by
 have h1 := bu (i := l.length) (L := l.length) (by omega)
 rcases l with _ | ⟨x, l⟩
 ·refine ax [] [] (H := Yp) (live := rj) (by kernel_rfl) ?_; exact oe e
 refine ax [9] [] (H := Yp) (live := rj) (by kernel_rfl) ?_; refine ob h1 ?_; exact oe e
theorem Ti {k : Int} {nm : List UInt8} {ix n : Int} {l : List an} (hl : KD (.loop (roundOf Tryz.f175 0)) (fun e s => e = .exit 0 /\ s = (zG (ju 1 k nm ix (sl l)) (Int.ofNat l.length) n).au Tryz.f175.ntmps) ((vm (ju 1 k nm ix (sl l)) (Int.ofNat 0) 1).au Tryz.f175.ntmps)) :
  ae 175 [.dat (.agg [i64 k, sb nm, i64 ix, sl l])] (iv n) := by
 rcases l with _ | ⟨x, l⟩ <;>
 ·refine co [] [] (x := .of Tryz.f175 Bf rj) ?_; refine lo hl ?_; rintro ex s ⟨rfl, rfl⟩; refine ⟨_, rfl, ?_⟩; exact fi
mutual
theorem LS : ∀ t : Ty, t.size < 1000000000 -> ae 175 [.dat t.enc] (iv (Int.ofNat t.size))
 | .mk k nm ix l, h => by
  simp only [Ty.size] at h
  have ih := Ho l (by omega)
  have hlen := ee l
  refine Ti ?_
  rw [show Int.ofNat (Ty.mk k nm ix l).size = Int.ofNat (1 + aR l) by simp only [Ty.size]; rw [Nat.add_comm]]
  refine bi (St := fun i => (vm (ju 1 k nm ix (sl (ap l))) (Int.ofNat i) (Int.ofNat (1 + aR (l.take i)))).au Tryz.f175.ntmps) (ap l).length ?_ ?_ (i := 0) (Nat.zero_le _)
  ·intro i hi
   obtain ⟨t, ht, hm⟩ := get_mem hi
   have hs := jP ht
   have hle := qI (l := l) (i + 1)
   have hsl := iJ hi
   have e := Lw (k := k) (nm := nm) (ix := ix) (n := Int.ofNat (1 + aR (l.take i))) hi ht (ih t hm) (T := pQ (fun s => s = (vm (ju 1 k nm ix (sl (ap l))) (Int.ofNat (i + 1)) (Int.ofNat (1 + aR (l.take (i + 1))))).au Tryz.f175.ntmps) (fun e s => e = .exit 0 /\ s = (zG (ju 1 k nm ix (sl (ap l))) (Int.ofNat (ap l).length) (Int.ofNat (1 + aR l))).au Tryz.f175.ntmps)) (by
    rw [aC] at hi
    rw [aZ (by omega), wrap_add (by omega), hs, hsl, Nat.add_assoc]
    rfl)
   rw [hsl] at e ⊢
   exact e
  refine PN ⟨rfl, ?_⟩
  rw [aC, List.take_length]
theorem Ho : ∀ l : List Ty, aR l < 1000000000 -> ∀ t ∈ l, ae 175 [.dat t.enc] (iv (Int.ofNat t.size))
 | [], _, t, ht => by simp at ht
 | u :: r, h, t, ht => by
  simp only [aR] at h
  rcases List.mem_cons.1 ht with h1 | ht
  ·rw [h1]; exact LS u (by omega)
  exact Ho r (by omega) t ht
end
noncomputable def Ys : Hints := ⟨aq, Be, aw, rowsOf aw 176⟩
theorem LO {k : Int} {nm : List UInt8} {ix : Int} {n m : Nat} {l : List Ty} {t : Ty} {i : Nat} (hi : i < (ap l).length) (ht : l[i]? = some t) (hc : ae 176 [.dat t.enc] (iv (Int.ofNat m))) {T : Exit -> aa -> Prop}
  (e : T .normal ((vm (ju 1 k nm ix (.slice (ap l))) (aE .i64 (Int.ofNat i + 1)) (match bn (Int.ofNat n) (Int.ofNat m) with | true => Int.ofNat m | false => Int.ofNat n)).au Tryz.f176.ntmps)) :
  KD (roundOf Tryz.f176 0) T ((vm (ju 1 k nm ix (.slice (ap l))) (Int.ofNat i) (Int.ofNat n)).au Tryz.f176.ntmps) := by
 have h1 := bq hi
 have h2 := jg ht
 generalize ap l = es at *
 clear ht hi
 obtain ⟨k2, nm2, ix2, a2⟩ := t
 rcases a2 with _ | ⟨b, d⟩ <;>
 ·refine ax [9] [16] (H := Ys) (live := ri) (by kernel_rfl) ?_; refine ob h1 ?_; refine oo h2 ?_; refine on hc ?_; exact oe e
theorem P5 {k : Int} {nm : List UInt8} {ix n : Int} {l : List an} {T : Exit -> aa -> Prop} (e : T (.exit 0) ((zG (ju 1 k nm ix (sl l)) (Int.ofNat l.length) n).au Tryz.f176.ntmps)) :
  KD (roundOf Tryz.f176 0) T ((vm (ju 1 k nm ix (sl l)) (Int.ofNat l.length) n).au Tryz.f176.ntmps) := by
 have h1 := bu (i := l.length) (L := l.length) (by omega)
 rcases l with _ | ⟨x, l⟩
 ·refine ax [] [] (H := Ys) (live := ri) (by kernel_rfl) ?_; exact oe e
 refine ax [9] [] (H := Ys) (live := ri) (by kernel_rfl) ?_; refine ob h1 ?_; exact oe e
theorem Tq {k : Int} {nm : List UInt8} {ix n : Int} {l : List an} (hl : KD (.loop (roundOf Tryz.f176 0)) (fun e s => e = .exit 0 /\ s = (zG (ju 1 k nm ix (sl l)) (Int.ofNat l.length) n).au Tryz.f176.ntmps) ((vm (ju 1 k nm ix (sl l)) (Int.ofNat 0) 0).au Tryz.f176.ntmps)) :
  ae 176 [.dat (.agg [i64 k, sb nm, i64 ix, sl l])] (iv (aE .i64 (n + 1))) := by
 rcases l with _ | ⟨x, l⟩ <;>
 ·refine co [] [] (x := .of Tryz.f176 Be ri) ?_; refine lo hl ?_; rintro ex s ⟨rfl, rfl⟩; refine ⟨_, rfl, ?_⟩; exact fi
mutual
theorem Ht : ∀ t : Ty, t.size < 1000000000 -> ae 176 [.dat t.enc] (iv (Int.ofNat t.depth))
 | .mk k nm ix l, h => by
  simp only [Ty.size] at h
  have ih := C8 l (by omega)
  have hlen := ee l
  have hdl := ja l
  rw [show Int.ofNat (Ty.mk k nm ix l).depth = aE .i64 (Int.ofNat (bA l) + 1) by rw [aZ (by omega)]; rfl]
  refine Tq ?_
  refine bi (St := fun i => (vm (ju 1 k nm ix (sl (ap l))) (Int.ofNat i) (Int.ofNat (bA (l.take i)))).au Tryz.f176.ntmps) (ap l).length ?_ ?_ (i := 0) (Nat.zero_le _)
  ·intro i hi
   obtain ⟨t, ht, hm⟩ := get_mem hi
   have hs := uR ht
   have hsl := iJ hi
   have e := LO (k := k) (nm := nm) (ix := ix) (n := bA (l.take i)) hi ht (ih t hm) (T := pQ (fun s => s = (vm (ju 1 k nm ix (sl (ap l))) (Int.ofNat (i + 1)) (Int.ofNat (bA (l.take (i + 1))))).au Tryz.f176.ntmps) (fun e s => e = .exit 0 /\ s = (zG (ju 1 k nm ix (sl (ap l))) (Int.ofNat (ap l).length) (Int.ofNat (bA l))).au Tryz.f176.ntmps)) (by
    rw [aC] at hi
    rw [aZ (by omega), hs, hsl]
    have e2 : (match bn (Int.ofNat (bA (l.take i))) (Int.ofNat t.depth) with | true => Int.ofNat t.depth | false => Int.ofNat (bA (l.take i))) = Int.ofNat (max (bA (l.take i)) t.depth) := by
     rw [jd]
     by_cases hlt : bA (l.take i) < t.depth
     ·rw [decide_eq_true hlt, Nat.max_eq_right (by omega)]
     rw [decide_eq_false hlt, Nat.max_eq_left (by omega)]
    rw [e2]
    rfl)
   rw [hsl] at e ⊢
   exact e
  refine P5 ⟨rfl, ?_⟩
  rw [aC, List.take_length]
theorem C8 : ∀ l : List Ty, aR l < 1000000000 -> ∀ t ∈ l, ae 176 [.dat t.enc] (iv (Int.ofNat t.depth))
 | [], _, t, ht => by simp at ht
 | u :: r, h, t, ht => by
  simp only [aR] at h
  rcases List.mem_cons.1 ht with h1 | ht
  ·rw [h1]; exact Ht u (by omega)
  exact C8 r (by omega) t ht
end
def Js (c : Bool) : Int := match c with | true => -1 | false => 1
theorem Hq (c : Bool) : ae 96 [bv c] (iv (Js c)) := by
 cases c <;> exact oG _ _ _ _ _ (by kernel_rfl)
noncomputable def Yt : Hints := ⟨aq, uy, aw, rowsOf aw 61⟩
def Qv (k : Int) (nm : List UInt8) (ix : Int) (a : an) (k2 : Int) (nm2 : List UInt8) (ix2 : Int) (a2 : an) : Heap := [(.loc 3, .cells [iv k2, .dat (sb nm2), iv ix2, .dat a2]), (.loc 2, .cells [iv k, .dat (sb nm), iv ix, .dat a])]
def Vu (lo : Heap) (i : Int) : ab := ⟨[(5, iv i), (3, .ptr (.loc 3) 0), (2, .ptr (.loc 2) 0)], lo, [], 0⟩
def S3 (lo : Heap) (i : Int) : ab := ⟨[(63, bv false), (5, iv i), (3, .ptr (.loc 3) 0), (2, .ptr (.loc 2) 0)], lo, [], 0⟩
def S4 (c : Int) : ab := ⟨[(4, iv c)], [], [], 0⟩
theorem LP {k : Int} {nm : List UInt8} {ix : Int} {l : List Ty} {k2 : Int} {nm2 : List UInt8} {ix2 : Int} {l2 : List Ty} {t u : Ty} {i : Nat} {c : Int} {cz : Bool} (hi : i < (ap l).length) (ht : l[i]? = some t) (hu : l2[i]? = some u) (hc : ae 61 [.dat t.enc, .dat u.enc] (iv c)) (hz : aX c 0 = cz) {T : Exit -> aa -> Prop}
  (e1 : cz = true -> T .normal ((Vu (Qv k nm ix (.slice (ap l)) k2 nm2 ix2 (.slice (ap l2))) (aE .i64 (Int.ofNat i + 1))).au Tryz.f61.ntmps)) (e2 : cz = false -> T .ret ((S4 c).au Tryz.f61.ntmps)) :
  KD (roundOf Tryz.f61 0) T ((Vu (Qv k nm ix (.slice (ap l)) k2 nm2 ix2 (.slice (ap l2))) (Int.ofNat i)).au Tryz.f61.ntmps) := by
 have h1 := bq hi
 have h2 := jg ht
 have h3 := jg hu
 generalize ap l = es at *
 generalize ap l2 = es2 at *
 clear ht hi hu
 obtain ⟨tk, tn, tix, ta⟩ := t
 obtain ⟨uk, un, uix, ua⟩ := u
 rcases ta with _ | ⟨b, d⟩ <;>
 ·rcases ua with _ | ⟨b2, d2⟩ <;>
  ·refine ax [63, 78] [69, 74] (H := Yt) (live := mb) (by kernel_rfl) ?_; refine ob h1 ?_; refine oo h2 ?_; refine oo h3 ?_; refine on hc ?_; refine ox hz ?_
   cases cz
   ·exact oe (e2 rfl)
   exact oe (e1 rfl)
theorem P7 {k : Int} {nm : List UInt8} {ix : Int} {l : List an} {k2 : Int} {nm2 : List UInt8} {ix2 : Int} {a : List an} {T : Exit -> aa -> Prop} (e : T (.exit 1) ((S3 (Qv k nm ix (sl l) k2 nm2 ix2 (sl a)) (Int.ofNat l.length)).au Tryz.f61.ntmps)) :
  KD (roundOf Tryz.f61 0) T ((Vu (Qv k nm ix (sl l) k2 nm2 ix2 (sl a)) (Int.ofNat l.length)).au Tryz.f61.ntmps) := by
 have h1 := bu (i := l.length) (L := l.length) (by omega)
 rcases l with _ | ⟨x, l⟩
 ·refine ax [] [] (H := Yt) (live := mb) (by kernel_rfl) ?_; exact oe e
 refine ax [63] [] (H := Yt) (live := mb) (by kernel_rfl) ?_; refine ob h1 ?_; exact oe e
def Hl (c1 c2 c3 c4 c5 c6 c7 c8 : Bool) (r : Int) : Int := match c1 with | false => Js c5 | true => match c2 with | false => Js c6 | true => match c3 with | false => Js c7 | true => match c4 with | false => Js c8 | true => r
theorem Tt {k : Int} {nm : List UInt8} {ix : Int} {l : List an} {k2 : Int} {nm2 : List UInt8} {ix2 : Int} {l2 : List an} {c1 c2 c3 c4 c5 c6 c7 c8 : Bool} {r : Int} (h1 : aX k k2 = c1) (h2 : dX nm nm2 = c2) (h3 : aX ix ix2 = c3) (h4 : aX (Int.ofNat l.length) (Int.ofNat l2.length) = c4) (h5 : bn k k2 = c5) (h6 : JA nm nm2 = c6) (h7 : bn ix ix2 = c7) (h8 : bn (Int.ofNat l.length) (Int.ofNat l2.length) = c8)
 (hl : c4 = true -> KD (.loop (roundOf Tryz.f61 0)) (fun e s => (e = .exit 1 /\ r = 0 /\ s = (S3 (Qv k nm ix (sl l) k2 nm2 ix2 (sl l2)) (Int.ofNat l.length)).au Tryz.f61.ntmps) ∨ (e = .ret /\ s = (S4 r).au Tryz.f61.ntmps)) ((Vu (Qv k nm ix (sl l) k2 nm2 ix2 (sl l2)) (Int.ofNat 0)).au Tryz.f61.ntmps)) :
 ae 61 [.dat (.agg [i64 k, sb nm, i64 ix, sl l]), .dat (.agg [i64 k2, sb nm2, i64 ix2, sl l2])] (iv (Hl c1 c2 c3 c4 c5 c6 c7 c8 r)) := by
 have o1 := Hq true
 have o2 := Hq false
 rcases l with _ | ⟨x, l⟩
 ·rcases l2 with _ | ⟨y, l2⟩
  ·have z : c4 = true := h4.symm
   subst z
   have hl2 := hl rfl
   clear hl h4 h8
   refine co [12, 24, 36, 41, 29, 17] [] (x := .of Tryz.f61 uy mb) ?_; refine ox h1 ?_
   cases c1
   ·refine ob h5 ?_
    cases c5
    ·refine on o2 ?_; exact fi
    refine on o1 ?_; exact fi
   refine ox h2 ?_
   cases c2
   ·refine ob h6 ?_
    cases c6
    ·refine on o2 ?_; exact fi
    refine on o1 ?_; exact fi
   refine ox h3 ?_
   cases c3
   ·refine ob h7 ?_
    cases c7
    ·refine on o2 ?_; exact fi
    refine on o1 ?_; exact fi
   refine lo hl2 ?_
   rintro ex s (⟨rfl, rfl, rfl⟩ | ⟨rfl, rfl⟩) <;>
   ·refine ⟨_, rfl, ?_⟩; exact fi
  have z : c4 = false := h4.symm
  have z8 : c8 = true := h8.symm
  subst z z8
  clear hl h4 h8
  refine co [12, 24, 36, 41, 29, 17] [] (x := .of Tryz.f61 uy mb) ?_; refine ox h1 ?_
  cases c1
  ·refine ob h5 ?_
   cases c5
   ·refine on o2 ?_; exact fi
   refine on o1 ?_; exact fi
  refine ox h2 ?_
  cases c2
  ·refine ob h6 ?_
   cases c6
   ·refine on o2 ?_; exact fi
   refine on o1 ?_; exact fi
  refine ox h3 ?_
  cases c3
  ·refine ob h7 ?_
   cases c7
   ·refine on o2 ?_; exact fi
   refine on o1 ?_; exact fi
  refine on o1 ?_; exact fi
 rcases l2 with _ | ⟨y, l2⟩
 ·have z : c4 = false := h4.symm
  have z8 : c8 = false := h8.symm
  subst z z8
  clear hl h4 h8
  refine co [12, 24, 36, 41, 29, 17] [] (x := .of Tryz.f61 uy mb) ?_; refine ox h1 ?_
  cases c1
  ·refine ob h5 ?_
   cases c5
   ·refine on o2 ?_; exact fi
   refine on o1 ?_; exact fi
  refine ox h2 ?_
  cases c2
  ·refine ob h6 ?_
   cases c6
   ·refine on o2 ?_; exact fi
   refine on o1 ?_; exact fi
  refine ox h3 ?_
  cases c3
  ·refine ob h7 ?_
   cases c7
   ·refine on o2 ?_; exact fi
   refine on o1 ?_; exact fi
  refine on o2 ?_; exact fi
 cases c4
 ·clear hl
  refine co [12, 24, 36, 50, 57, 41, 29, 17] [] (x := .of Tryz.f61 uy mb) ?_; refine ox h1 ?_
  cases c1
  ·refine ob h5 ?_
   cases c5
   ·refine on o2 ?_; exact fi
   refine on o1 ?_; exact fi
  refine ox h2 ?_
  cases c2
  ·refine ob h6 ?_
   cases c6
   ·refine on o2 ?_; exact fi
   refine on o1 ?_; exact fi
  refine ox h3 ?_
  cases c3
  ·refine ob h7 ?_
   cases c7
   ·refine on o2 ?_; exact fi
   refine on o1 ?_; exact fi
  refine ox h4 ?_; refine ob h8 ?_
  cases c8
  ·refine on o2 ?_; exact fi
  refine on o1 ?_; exact fi
 have hl2 := hl rfl
 clear hl
 refine co [12, 24, 36, 50, 41, 29, 17] [] (x := .of Tryz.f61 uy mb) ?_; refine ox h1 ?_
 cases c1
 ·refine ob h5 ?_
  cases c5
  ·refine on o2 ?_; exact fi
  refine on o1 ?_; exact fi
 refine ox h2 ?_
 cases c2
 ·refine ob h6 ?_
  cases c6
  ·refine on o2 ?_; exact fi
  refine on o1 ?_; exact fi
 refine ox h3 ?_
 cases c3
 ·refine ob h7 ?_
  cases c7
  ·refine on o2 ?_; exact fi
  refine on o1 ?_; exact fi
 refine ox h4 ?_; refine lo hl2 ?_
 rintro ex s (⟨rfl, rfl, rfl⟩ | ⟨rfl, rfl⟩) <;>
 ·refine ⟨_, rfl, ?_⟩; exact fi
mutual
def Fk : Ty -> Ty -> Int
 | .mk k nm ix l, .mk k2 nm2 ix2 l2 => Hl (aX k k2) (dX nm nm2) (aX ix ix2) (aX (Int.ofNat (ap l).length) (Int.ofNat (ap l2).length)) (bn k k2) (JA nm nm2) (bn ix ix2) (bn (Int.ofNat (ap l).length) (Int.ofNat (ap l2).length)) (Hm l l2)
def Hm : List Ty -> List Ty -> Int
 | t :: r, u :: v => match aX (Fk t u) 0 with | true => Hm r v | false => Fk t u
 | _, _ => 0
end
theorem LQ {l l2 : List Ty} {i : Nat} {t u : Ty} (ht : l[i]? = some t) (hu : l2[i]? = some u) : Hm (l.drop i) (l2.drop i) = (match aX (Fk t u) 0 with | true => Hm (l.drop (i + 1)) (l2.drop (i + 1)) | false => Fk t u) := by rw [df ht, df hu, Hm]
theorem P6 {k : Int} {nm : List UInt8} {ix : Int} {l : List Ty} {k2 : Int} {nm2 : List UInt8} {ix2 : Int} {l2 : List Ty} (hlen : l.length = l2.length) (hb : l.length < 1000000000) (ih : ∀ t ∈ l, ∀ u ∈ l2, ae 61 [.dat t.enc, .dat u.enc] (iv (Fk t u))) :
  KD (.loop (roundOf Tryz.f61 0)) (fun e s => (e = .exit 1 /\ Hm l l2 = 0 /\ s = (S3 (Qv k nm ix (sl (ap l)) k2 nm2 ix2 (sl (ap l2))) (Int.ofNat (ap l).length)).au Tryz.f61.ntmps) ∨ (e = .ret /\ s = (S4 (Hm l l2)).au Tryz.f61.ntmps)) ((Vu (Qv k nm ix (sl (ap l)) k2 nm2 ix2 (sl (ap l2))) (Int.ofNat 0)).au Tryz.f61.ntmps) := by
 refine bW (St := fun i => (Vu (Qv k nm ix (sl (ap l)) k2 nm2 ix2 (sl (ap l2))) (Int.ofNat i)).au Tryz.f61.ntmps) (fun i => Hm l l2 = Hm (l.drop i) (l2.drop i)) (ap l).length ?_ ?_ (i := 0) (Nat.zero_le _) rfl
 ·intro i hi hI
  obtain ⟨t, ht, hm⟩ := get_mem hi
  have hi2 := hi
  rw [aC] at hi2
  have hu : l2[i]? = some l2[i] := List.getElem?_eq_getElem (by omega)
  have hm2 : l2[i] ∈ l2 := List.getElem_mem _
  generalize l2[i] = u at hu hm2
  have h := ih t hm u hm2
  have hd := LQ ht hu
  rw [← hI] at hd
  have hw : aE .i64 (Int.ofNat i + 1) = Int.ofNat (i + 1) := aZ (by omega)
  have hs1 := iJ hi
  have hs2 : sl (ap l2) = .slice (ap l2) := iJ (i := i) (by rw [aC]; omega)
  rw [hs1, hs2]
  generalize Fk t u = c at h hd
  refine LP hi ht hu h rfl ?_ ?_
  ·intro hz
   rw [hz] at hd
   rw [hw]
   exact ⟨rfl, hd⟩
  intro hz
  rw [hz] at hd
  dsimp only at hd
  exact .inr ⟨rfl, by rw [hd]⟩
 intro hI
 refine P7 (.inl ⟨rfl, ?_, rfl⟩)
 rw [hI, aC, List.drop_length]
 cases l2.drop l.length <;> rfl
mutual
theorem xn : ∀ (t u : Ty), t.thin -> ae 61 [.dat t.enc, .dat u.enc] (iv (Fk t u))
 | .mk k nm ix l, .mk k2 nm2 ix2 l2, h => by
  simp only [Ty.thin] at h
  have ih := uq l h.2
  rw [Fk]
  refine Tt rfl rfl rfl rfl rfl rfl rfl rfl (fun he => ?_)
  rw [tz, aC, aC] at he
  exact P6 (by simpa using he) h.1 (fun t ht u _ => ih t ht u)
theorem uq : ∀ l : List Ty, eU l -> ∀ t ∈ l, ∀ u, ae 61 [.dat t.enc, .dat u.enc] (iv (Fk t u))
 | [], _, t, ht, _ => by simp at ht
 | x :: r, h, t, ht, u => by
  simp only [eU] at h
  rcases List.mem_cons.1 ht with h1 | ht
  ·rw [h1]; exact xn x u h.1
  exact uq r h.2 t ht u
end
theorem Wn {k ix k2 ix2 r : Int} {nm nm2 : List UInt8} {l l2 : List an} {c : Bool} (h : ae 61 [.dat (.agg [i64 k, sb nm, i64 ix, sl l]), .dat (.agg [i64 k2, sb nm2, i64 ix2, sl l2])] (iv r)) (hc : aX r 0 = c) : ae 24 [.dat (.agg [i64 k, sb nm, i64 ix, sl l]), .dat (.agg [i64 k2, sb nm2, i64 ix2, sl l2])] (bv c) := by
 rcases l with _ | ⟨x, l⟩ <;>
 ·rcases l2 with _ | ⟨y, l2⟩ <;>
  ·refine co [8] [] (x := .of Tryz.f24 MA Ny) ?_; refine on h ?_; refine ob hc ?_
   cases c <;>
   ·exact fi
def Wo (t u : Ty) : Bool := aX (Fk t u) 0
theorem nq (t u : Ty) (h : t.thin) : ae 24 [.dat t.enc, .dat u.enc] (bv (Wo t u)) := by
 have h1 := xn t u h
 obtain ⟨k, nm, ix, l⟩ := t
 obtain ⟨k2, nm2, ix2, l2⟩ := u
 exact Wn h1 rfl
theorem P9 (t u : Ty) (h : t.size < 1000000000) : ae 24 [.dat t.enc, .dat u.enc] (bv (Wo t u)) := nq t u (qD t h)
/-! ### Equal terms are the same -/
theorem Qi (c : Bool) : Js c ≠ 0 := by cases c <;> decide
theorem B4 {a b : List UInt8} (h : dX a b = true) : a = b := by rw [jZ] at h; simpa using h
theorem jh {a b : Int} (h : aX a b = true) : a = b := by rw [fS] at h; simpa using h
theorem Fl {c1 c2 c3 c4 c5 c6 c7 c8 : Bool} {r : Int} (h : Hl c1 c2 c3 c4 c5 c6 c7 c8 r = 0) : c1 = true /\ c2 = true /\ c3 = true /\ c4 = true /\ r = 0 := by
 cases c1 <;> cases c2 <;> cases c3 <;> cases c4 <;> simp [Hl, Qi] at h ⊢ <;> exact h
mutual
theorem C2 : ∀ (t u : Ty), Fk t u = 0 -> t = u
 | .mk k nm ix l, .mk k2 nm2 ix2 l2, h => by
  rw [Fk] at h
  obtain ⟨h1, h2, h3, h4, h5⟩ := Fl h
  rw [jh h1, B4 h2, jh h3]
  rw [tz, aC, aC] at h4
  rw [C4 l l2 (by simpa using h4) h5]
theorem C4 : ∀ (l l2 : List Ty), l.length = l2.length -> Hm l l2 = 0 -> l = l2
 | [], [], _, _ => rfl
 | [], _ :: _, h, _ => by simp at h
 | _ :: _, [], h, _ => by simp at h
 | t :: r, u :: v, h, h2 => by
  rw [Hm] at h2
  cases hz : aX (Fk t u) 0 with
  | true =>
   rw [hz] at h2
   rw [C2 t u (jh hz), C4 r v (by simpa using h) h2]
  | false =>
   rw [hz] at h2
   dsimp only at h2
   rw [h2, dq] at hz
   simp at hz
end
mutual
theorem C3 : ∀ t : Ty, Fk t t = 0
 | .mk k nm ix l => by rw [Fk, dq, oc, dq, dq, C5 l]; rfl
theorem C5 : ∀ l : List Ty, Hm l l = 0
 | [] => by simp [Hm]
 | t :: r => by rw [Hm, C3 t, dq, C5 r]
end
theorem qQ {t u : Ty} : Wo t u = true ↔ t = u := by
 unfold Wo
 constructor
 ·intro h; exact C2 t u (jh h)
 rintro rfl; rw [C3, dq]
theorem rR (nm : List UInt8) (ar k : Int) (tn : List UInt8) (ix : Int) (la : List an) (con : Bool) (lb : List an) :
  RW [.dat (dU nm ar k tn ix la con lb)] = some ⟨.undef, .new (.cells (cellsD nm ar k tn ix la con lb))⟩ := by
 rcases la with _ | ⟨x, la⟩ <;> rcases lb with _ | ⟨y, lb⟩ <;> kernel_rfl
theorem BI (t : Bool) (l : Nat) (nm : List UInt8) (ar k : Int) (tn : List UInt8) (ix : Int) (la : List an) (con : Bool) (lb : List an) :
  kM (env az.aU) t 32 [.ptr (.loc l) 2] (some (.cells (cellsD nm ar k tn ix la con lb))) = some ⟨.dat (.agg [i64 k, sb tn, i64 ix, sl la]), .keep⟩ := by
 cases t <;> rcases la with _ | ⟨x, la⟩ <;> rcases lb with _ | ⟨y, lb⟩ <;> kernel_rfl
end Go.Proofs.YtiihadmgkoamoaaGreatDoor
