/- IrExamples returns true and changes nothing (the card; conditions: those of the given row, the package variables as the program's text lays them). -/
import Derived.Shelf.SlGeneric
import Derived.Ground.GgzProg
import Derived.Ground.SlgmProg
import Derived.Shelf.SlIter.Nil
import Derived.Shelf.SlIterI.Sorted
import Derived.Shelf.SortM.Plain
import Derived.Shelf.SortM.SortNone
import Derived.Test.YtmpmgmmcaghacaaGreatDoorProg
import Derived.Test.YtmpmgmmcaghacaaGreatDoorCards
import Derived.Test.YtmpmgmmcaghacaaGreatDoorTie
import Derived.WalkKit
import Derived.ProofKit
import Derived.OpenShut
import Derived.Deep.DeepHandedRow
import Derived.Deep.DeepWitnessRowRef
import Derived.Test.YtmpmgmmcaghacaaGreatDoorQ06
set_option linter.unusedVariables false
set_option linter.unusedSimpArgs false
set_option maxRecDepth 100000
set_option maxHeartbeats 4000000
namespace Go.Proofs.YtmpmgmmcaghacaaGreatDoor
open Go.Tp
theorem ld_insR (t : Bool) {op dst a b im : Int} {nm : List UInt8} {dx : Dat} {k : Int} {tn : List UInt8} {ix : Int} {dt : Dat} {ck ci : Int} {cs : List UInt8} (h1 : SlD dx) (h2 : SlD dt) : aLoad (env Prims.fast) t 45 [.ref [i64 op, i64 dst, i64 a, i64 b, i64 im, sb nm, dx, i64 k, sb tn, i64 ix, dt, i64 ck, i64 ci, sb cs, nl]] none = some ⟨.dat (insD op dst a b im nm dx k tn ix dt ck ci cs), .keep⟩ := by
 cases t <;> rcases h1 with rfl | ⟨e1, rfl⟩ <;> rcases h2 with rfl | ⟨e2, rfl⟩ <;> kernel_rfl
theorem st_ins (l : Nat) {op dst a b im : Int} {nm : List UInt8} {dx : Dat} {k : Int} {tn : List UInt8} {ix : Int} {dt : Dat} {ck ci : Int} {cs : List UInt8} (h1 : SlD dx) (h2 : SlD dt) : aStore (env Prims.fast) 45 [.ptr (.loc l) 0, .dat (insD op dst a b im nm dx k tn ix dt ck ci cs)] (some (.cells (cX 0 0 0 0 0 [] nl 0 [] 0 nl 0 0 []))) = some ⟨.undef, .set (.cells (cX op dst a b im nm dx k tn ix dt ck ci cs))⟩ := by
 rcases h1 with rfl | ⟨e1, rfl⟩ <;> rcases h2 with rfl | ⟨e2, rfl⟩ <;> kernel_rfl
theorem sort_at {l : List Int} (o : Nat) (hl : l ≠ []) (hn : l.length < 1000000000) :
  KC 59 [.win (.out o) 1 0 l.length] [(.out o, .cells (ivs l))] (o + 1) (XQ ⟨.tup [], [(.out o, .cells (ivs (sortI l)))], o + 1⟩) := by
 have h := c_sortRow (G := xglobs) Tryz.sortI hl hn
 have e : ∀ (l : List Int) (ρ : Nat -> Nat), rnL ρ (ivs l) = ivs l := by
  intro l ρ
  induction l with
  | nil => rfl
  | cons a r ih => show rnV ρ (iv a) :: rnL ρ (ivs r) = _; rw [ih]; rfl
 have e0 : ∀ (l : List Int), newL 1 (ivs l) = false := by
  intro l
  induction l with
  | nil => rfl
  | cons a r ih => show (newV 1 (iv a) || newL 1 (ivs r)) = _; rw [ih]; rfl
 have hf := ACalls.frame h (fun _ => o) (heap := [(.out o, .cells (ivs l))]) (rest := []) (next := o + 1) (by
  have : rnH (fun _ => o) [(Name.out 0, AObj.cells (ivs l))] = [(.out o, .cells (ivs l))] := by simp only [rnH, rnN, rnO, e]
  rw [this]; exact List.Perm.refl _) rfl (by simp only [newHeap, newO, e0]; rfl) rfl rfl
 refine hf.mono ?_
 rintro v' h' m' ⟨v0, h1, n1, ⟨rfl, rfl, rfl⟩, rfl, rfl, rfl⟩
 refine ⟨rfl, ?_, rfl⟩
 have hl0 : liftN (fun _ => o) 1 (o + 1) 0 = o := rfl
 simp only [rnH, rnN, rnO, e, hl0, List.append_nil]
theorem z23 : ∀ w, (Go.zeroValue (Tryz.compactI_ren.t 23)).run Tryz.prog w = .ok (.int .i64 0) w := Tryz.zeroValue3
theorem comp_at (o : Nat) {l : List Int} {r : List Int} (h1 : 1 <= l.length) (h2 : l.length < 1000000000) (hr : Go.Lib.compactUpTo l.toArray l.length = r) :
  KC 60 [.win (.out o) 1 0 l.length] [(.out o, .cells (ivs l))] (o + 1) (XQ ⟨.dat (.slice (r.map iN)), [], o + 1⟩) := by
 refine c_compact (G := xglobs) Tryz.compactI z23 ?_
 subst hr
 have e : ∀ l : List Int, intCells (ivs l) = some l := by
  intro l
  induction l with
  | nil => rfl
  | cons a r ih =>
   show (match intCells (ivs r) with | some l => some (a :: l) | none => none) = _
   rw [ih]
 have h3 : (ivs l).length = l.length := List.length_map _
 have ea : agetF (.out o) [(Name.out o, AObj.cells (ivs l))] = some (.cells (ivs l)) := by rw [agetF_eq]; simp [aget]
 have ed : adelF (.out o) [(Name.out o, AObj.cells (ivs l))] = [] := by rw [adelF_eq]; simp [adel]
 have hb : (Nat.beq l.length l.length && Nat.ble 1 l.length && Nat.ble l.length 4294967296) = true := by
  rw [Bool.and_eq_true, Bool.and_eq_true, Nat.beq_eq, Nat.ble_eq, Nat.ble_eq]
  exact ⟨⟨rfl, h1⟩, Nat.le_trans (Nat.le_of_lt h2) (by decide)⟩
 simp only [compactX, ea, h3, hb, e, ed]
 rfl
theorem c_compactNil : Calls1 60 [.dat nl] (.dat nl) := by
 refine co [] [] (x := .of Tryz.f60 ord60 live60) ?_; exact fi
theorem c_sortNl : KC 59 [.dat nl] [] 0 (XQ ⟨.tup [], [], 0⟩) := c_sortNil (G := xglobs) Tryz.sortI
/-- Two numbers in order, once each. -/
def srt2 (a b : Int) : List Int := if b < a then [b, a] else if a = b then [a] else [a, b]
theorem sortI_two (a b : Int) : sortI [a, b] = if b < a then [b, a] else [a, b] := by
 have e : sortI [a, b] = List.merge [a] [b] (fun x y => decide (x <= y)) := by
  simp [sortI, List.mergeSort, List.MergeSort.Internal.splitInTwo, List.splitAt_eq]
 rw [e]
 by_cases h : b < a
 ·have : ¬ a <= b := by omega
  simp [h, this, List.merge]
 have : a <= b := by omega
 simp [h, this, List.merge]
theorem comp_two (a b : Int) : Go.Lib.compactUpTo #[a, b] 2 = if a = b then [a] else [a, b] := by
 by_cases h : a = b
 ·subst h
  simp [Go.Lib.compactUpTo, List.range, List.range.loop, Go.Lib.keeps]
 have hb : ¬ b = a := fun e => h e.symm
 simp [Go.Lib.compactUpTo, List.range, List.range.loop, List.filter, Go.Lib.keeps, h, hb]
theorem comp_srt (a b : Int) : Go.Lib.compactUpTo (sortI [a, b]).toArray (sortI [a, b]).length = srt2 a b := by
 rw [sortI_two]
 unfold srt2
 by_cases h : b < a
 ·rw [if_pos h, if_pos h]
  have := comp_two b a
  rw [if_neg (by omega)] at this
  exact this
 rw [if_neg h, if_neg h]
 exact comp_two a b
def nxD (A B : Bool) (j im : Int) (l2 : List Dat) : Dat := match A, B with
 | true, true => .slice l2
 | true, false => .slice [iN j]
 | false, true => .slice [iN im]
 | false, false => nl
theorem nx_all {p sl : Int} {es : List Dat} {d2 : Dat} {i : Int} (g2 : SlD d2) {op dst a b im : Int} {nm : List UInt8} {dx : Dat} {k : Int} {tn : List UInt8} {ix : Int} {dt : Dat} {ck ci : Int} {cs : List UInt8} (g3 : SlD dx) (g4 : SlD dt)
  (hi : aIndexAddr (env Prims.fast) 23 [.dat (.slice es), .dat (.flat (.int .i64 i))] = some ⟨.ref [i64 op, i64 dst, i64 a, i64 b, i64 im, sb nm, dx, i64 k, sb tn, i64 ix, dt, i64 ck, i64 ci, sb cs, nl], .keep⟩)
  {s : Shp} {ok c1 c2 : Bool} (hs : Calls1 58 [iv op] (.tup [.dat s.enc, bv ok])) (h1 : ltF (wrapF .i64 (i + 1)) (Int.ofNat es.length) = c1) (h2 : eqF op 12 = c2) {u v : Int} {l2 : List Dat}
  (k0 : KC 59 [.dat nl] [] 0 (XQ ⟨.tup [], [], 0⟩)) (m0 : Calls1 60 [.dat nl] (.dat nl))
  (k1 : KC 59 [.win (.out 0) 1 0 1] [(.out 0, .cells [iv (wrapF .i64 (i + 1))])] 1 (XQ ⟨.tup [], [(.out 0, .cells [iv (wrapF .i64 (i + 1))])], 1⟩)) (m1 : KC 60 [.win (.out 0) 1 0 1] [(.out 0, .cells [iv (wrapF .i64 (i + 1))])] 1 (XQ ⟨.dat (.slice [iN (wrapF .i64 (i + 1))]), [], 1⟩))
  (k2 : KC 59 [.win (.out 0) 1 0 1] [(.out 0, .cells [iv im])] 1 (XQ ⟨.tup [], [(.out 0, .cells [iv im])], 1⟩)) (m2 : KC 60 [.win (.out 0) 1 0 1] [(.out 0, .cells [iv im])] 1 (XQ ⟨.dat (.slice [iN im]), [], 1⟩))
  (k3 : KC 59 [.win (.out 1) 1 0 2] [(.out 1, .cells [iv (wrapF .i64 (i + 1)), iv im])] 2 (XQ ⟨.tup [], [(.out 1, .cells [iv u, iv v])], 2⟩)) (m3 : KC 60 [.win (.out 1) 1 0 2] [(.out 1, .cells [iv u, iv v])] 2 (XQ ⟨.dat (.slice l2), [], 2⟩)) :
  Calls1 40 [.dat (codeD p sl (.slice es) d2), iv i] (.dat (nxD (!s.fin && c1) (s.cond || c2) (wrapF .i64 (i + 1)) im l2)) := by
 have q1 := bx_code (p := p) (s := sl) (d1 := .slice es) (.inr ⟨_, rfl⟩) g2
 have q2 := ld_insR false (op := op) (dst := dst) (a := a) (b := b) (im := im) (nm := nm) (k := k) (tn := tn) (ix := ix) (ck := ck) (ci := ci) (cs := cs) g3 g4
 have q3 := st_ins 5 (op := op) (dst := dst) (a := a) (b := b) (im := im) (nm := nm) (k := k) (tn := tn) (ix := ix) (ck := ck) (ci := ci) (cs := cs) g3 g4
 clear g2 g3 g4
 obtain ⟨w, s1, s2, s3, s4, s5, s6, s7, s8, s9, s10, s11⟩ := s
 refine co [41, 29] [2, 12, 13, 100005] (x := .of Tryz.f40 ord40 live40) ?_; refine oo q1 ?_; refine oo hi ?_; refine oo q2 ?_; refine oo q3 ?_; refine on hs ?_
 cases s11
 ·refine ob h1 ?_
  cases c1
  ·cases s10
   ·refine ob h2 ?_
    cases c2
    ·refine on k0 ?_; refine on m0 ?_; exact fi
    refine oh k2 ?_; refine oh m2 ?_; exact fi
   refine oh k2 ?_; refine oh m2 ?_; exact fi
  cases s10
  ·refine ob h2 ?_
   cases c2
   ·refine oh k1 ?_; refine oh m1 ?_; exact fi
   refine oh k3 ?_; refine oh m3 ?_; exact fi
  refine oh k3 ?_; refine oh m3 ?_; exact fi
 cases s10
 ·refine ob h2 ?_
  cases c2
  ·refine on k0 ?_; refine on m0 ?_; exact fi
  refine oh k2 ?_; refine oh m2 ?_; exact fi
 refine oh k2 ?_; refine oh m2 ?_; exact fi
/-- The successors of an instruction. -/
def succI (n : Nat) (op im : Int) (i : Nat) : List Int :=
 match !(shO (shpI op)).fin && decide (i + 1 < n), (shO (shpI op)).cond || eqF op 12 with
 | true, true => srt2 (Int.ofNat (i + 1)) im
 | true, false => [Int.ofNat (i + 1)]
 | false, true => [im]
 | false, false => []
theorem srt2_ne (a b : Int) : srt2 a b ≠ [] := by unfold srt2; split <;> (try split) <;> simp
theorem c_next {p sl : Int} {ins : List Ins} {d2 : Dat} {i : Nat} {x : Ins} (g2 : SlD d2) (hx : ins[i]? = some x) (hn : ins.length < 1000000000) :
  Calls1 40 [.dat (codeD p sl (.slice (encI ins)) d2), iv (Int.ofNat i)] (.dat (Go.Proofs.YtmpmgmmcaghacaaGreatDoor.sl ((succI ins.length x.op x.im i).map iN))) := by
 have hi := idxIn hx
 have hs := c_shape x.op
 obtain ⟨op, dst, a, b, im, nm, az, ar, ⟨k, tn, ix, la⟩, ck, ci, cs⟩ := x
 have hil : i < ins.length := (List.getElem?_eq_some_iff.1 hx).1
 have hw : wrapF .i64 (Int.ofNat i + 1) = Int.ofNat (i + 1) := wrap_of (by omega)
 have hlt : ltF (wrapF .i64 (Int.ofNat i + 1)) (Int.ofNat (encI ins).length) = decide (i + 1 < ins.length) := by
  rw [hw, encI_length, ltF_of]
 obtain ⟨j, hj⟩ : ∃ j, wrapF .i64 (Int.ofNat i + 1) = j := ⟨_, rfl⟩
 have e1 : ∀ y : Int, sortI [y] = [y] := fun y => by simp [sortI]
 have e2 : ∀ y : Int, Go.Lib.compactUpTo [y].toArray [y].length = [y] := fun y => by simp [Go.Lib.compactUpTo, List.range, List.range.loop, Go.Lib.keeps]
 obtain ⟨u, v, huv⟩ : ∃ u v, sortI [j, im] = [u, v] := by
  rw [sortI_two]
  split
  ·exact ⟨_, _, rfl⟩
  exact ⟨_, _, rfl⟩
 have k3 := sort_at (l := [j, im]) 1 (by simp) (by simp)
 rw [huv] at k3
 have m3 := comp_at (l := [u, v]) 1 (by simp) (by simp) (r := srt2 j im) (by rw [← huv, comp_srt])
 have k1 : ∀ y : Int, KC 59 [.win (.out 0) 1 0 1] [(.out 0, .cells [iv y])] 1 (XQ ⟨.tup [], [(.out 0, .cells [iv y])], 1⟩) := fun y => by
  have h := sort_at (l := [y]) 0 (by simp) (by simp)
  rw [e1] at h
  exact h
 have m1 := fun y => comp_at (l := [y]) 0 (by simp) (by simp) (r := [y]) (e2 y)
 subst hj
 have h := nx_all (p := p) (sl := sl) (es := encI ins) (i := Int.ofNat i) g2 (slD_sx az (ar.map iN)) (slD_sl (encL la)) hi hs hlt rfl c_sortNl c_compactNil (k1 _) (m1 _) (k1 _) (m1 _) k3 m3
 rw [hw] at h
 have e : nxD (!(shO (shpI op)).fin && decide (i + 1 < ins.length)) ((shO (shpI op)).cond || eqF op 12) (Int.ofNat (i + 1)) im ((srt2 (Int.ofNat (i + 1)) im).map iN) = Go.Proofs.YtmpmgmmcaghacaaGreatDoor.sl ((succI ins.length op im i).map iN) := by
  unfold nxD succI
  cases (!(shO (shpI op)).fin && decide (i + 1 < ins.length)) with
  | true =>
   cases ((shO (shpI op)).cond || eqF op 12) with
   | true =>
    dsimp only
    have := srt2_ne (Int.ofNat (i + 1)) im
    generalize srt2 (Int.ofNat (i + 1)) im = l at *
    cases l with
    | nil => exact absurd rfl this
    | cons a r => rfl
   | false => rfl
  | false =>
   cases ((shO (shpI op)).cond || eqF op 12) with
   | true => rfl
   | false => rfl
 rw [e] at h
 exact h
theorem ld_code (t : Bool) (l : Nat) {p s : Int} {d1 d2 : Dat} (h1 : SlD d1) (h2 : SlD d2) : aLoad (env Prims.fast) t 26 [.ptr (.loc l) 0] (some (.cells (cC p s d1 d2))) = some ⟨.dat (codeD p s d1 d2), .keep⟩ := by
 cases t <;> rcases h1 with rfl | ⟨e1, rfl⟩ <;> rcases h2 with rfl | ⟨e2, rfl⟩ <;> kernel_rfl
theorem ld_ins (t : Bool) (l : Nat) {op dst a b im : Int} {nm : List UInt8} {dx : Dat} {k : Int} {tn : List UInt8} {ix : Int} {dt : Dat} {ck ci : Int} {cs : List UInt8} (h1 : SlD dx) (h2 : SlD dt) : aLoad (env Prims.fast) t 45 [.ptr (.loc l) 0] (some (.cells (cX op dst a b im nm dx k tn ix dt ck ci cs))) = some ⟨.dat (insD op dst a b im nm dx k tn ix dt ck ci cs), .keep⟩ := by
 cases t <;> rcases h1 with rfl | ⟨e1, rfl⟩ <;> rcases h2 with rfl | ⟨e2, rfl⟩ <;> kernel_rfl
theorem noLoc_ivs : ∀ l : List Int, noLocO (.cells (ivs l)) = true
 | [] => rfl
 | a :: r => by
  have h : noLocL (ivs r) = true := noLoc_ivs r
  show (noLoc (iv a) && noLocL (ivs r)) = true
  rw [h]; rfl
theorem bldSh_ivs : ∀ l : List Int, bldSh (ivs l) = false
 | [] => rfl
 | [_] => rfl
 | [_, _] => rfl
 | _ :: _ :: _ :: _ => rfl
theorem replL_one {a : AVal} : ∀ n : Nat, replL [a] n = List.replicate n a
 | 0 => rfl
 | n + 1 => by show [a] ++ replL [a] n = _; rw [replL_one n]; rfl
theorem eqF_ne {a b : Int} (h : a ≠ b) : eqF a b = false := by rw [eqF_eq]; simpa using h
def succN (ins : List Ins) (i : Nat) : List Nat := ((match ins[i]? with | some x => succI ins.length x.op x.im i | none => []).map Int.toNat).filter (fun j => decide (j < ins.length))
def callN (ins : List Ins) (i : Nat) : Bool := match ins[i]? with | some x => (shO (shpI x.op)).call | none => false
def grOf (ins : List Ins) : Gr := ⟨ins.length, succN ins, callN ins, fun i _ j hj => by
 unfold succN at hj
 have := (List.mem_filter.1 hj).2
 simpa using this⟩
/-- All successors are instructions. -/
def okIns (ins : List Ins) : Prop := ∀ (i : Nat) (x : Ins), ins[i]? = some x -> ∀ j ∈ succI ins.length x.op x.im i, 0 <= j /\ j < Int.ofNat ins.length
theorem succN_eq {ins : List Ins} (h : okIns ins) {i : Nat} {x : Ins} (hx : ins[i]? = some x) : (succN ins i).map Int.ofNat = succI ins.length x.op x.im i := by
 have h1 := h i x hx
 unfold succN
 rw [hx]
 dsimp only
 generalize succI ins.length x.op x.im i = l at h1
 induction l with
 | nil => rfl
 | cons a r ih =>
  have ha := h1 a List.mem_cons_self
  have ih := ih (fun j hj => h1 j (List.mem_cons_of_mem _ hj))
  have hl : a.toNat < ins.length := by have := ha.2; simp only [Int.ofNat_eq_natCast] at this; omega
  rw [List.map_cons, List.filter_cons, if_pos (by simpa using hl), List.map_cons, ih]
  have : Int.ofNat a.toNat = a := Int.toNat_of_nonneg ha.1
  rw [this]
theorem succI_len (n : Nat) (op im : Int) (i : Nat) : (succI n op im i).length <= 2 := by
 unfold succI
 split
 ·unfold srt2; split
  ·simp
  split <;> simp
 ·simp
 ·simp
 simp
theorem succN_len (ins : List Ins) (i : Nat) : (succN ins i).length <= 2 := by
 unfold succN
 refine Nat.le_trans (List.length_filter_le _ _) ?_
 rw [List.length_map]
 split
 ·exact succI_len _ _ _ _
 simp
/-! ### The measure is bounded -/
theorem takeL_ivs : ∀ (l : List Int) (k : Nat), takeL k (ivs l) = ivs (l.take k)
 | l, 0 => by simp [takeL, ivs]
 | [], k + 1 => by simp [takeL, ivs]
 | a :: r, k + 1 => by
  have := takeL_ivs r k
  simp only [ivs, List.map_cons, takeL, List.take_succ_cons] at this ⊢
  rw [this]
/-! ### What is reached -/
/-! ### Rows -/
theorem cells_ints : ∀ x : List Int, ((x.map iN).flatMap Dat.cells).map AVal.dat = ivs x
 | [] => rfl
 | a :: r => by
  have := cells_ints r
  simp only [List.map_cons, List.flatMap_cons, List.map_append, this]
  rfl
theorem app_to {E : TEnv} {i : TI} {ds : List Dat} {k : Nat} (hp : E.pr = Prims.fast) (hs : i.size = k + 1) (hd : sizedB (k + 1) ds = true) (hb : Nat.blt 0 i.bytes = true) (hl : (0 + ds.length) * i.bytes <= 140737488355328) (hl2 : 0 + ds.length <= lim) :
  appendTo E.pr i [] (.dat (.slice ds)) = some ds := by
 have hes : sizedB (k + 1) ([] : List Dat) = true := rfl
 simp only [appendTo, hp, hs, Prims.fast, hd, hes, hb, List.length_nil, ble_mk hl, ble_mk hl2, List.nil_append]
theorem apw_ints {m : Name} {l : List Int} {k : Nat} (x : List Int) (h1 : k + x.length < 100000000) (h2 : k <= l.length) :
  aAppend (env Prims.fast) true 22 [.win m 1 0 k, .dat (.slice (x.map iN))] (some (.cells (ivs l))) = some ⟨.undef, .grow (.cells (ivs (l.take k ++ x))) 1 (k + x.length)⟩ := by
 have hb : tiI.bytes <= 1000 := ble_to (by kernel_rfl)
 have hb0 : Nat.blt 0 tiI.bytes = true := by kernel_rfl
 have hl1 : (0 + (x.map iN).length) * tiI.bytes <= 140737488355328 := by
  rw [List.length_map]
  calc (0 + x.length) * tiI.bytes <= 100000000 * 1000 := Nat.mul_le_mul (by omega) hb
   _ <= 140737488355328 := by decide
 have hl2 : 0 + (x.map iN).length <= lim := by rw [List.length_map]; simp only [lim]; omega
 have ea : appendTo (env Prims.fast).pr tiI [] (.dat (.slice (x.map iN))) = some (x.map iN) := app_to (k := 0) rfl tiI_size (sized_ints x) hb0 hl1 hl2
 have e2 : takeL (k * tiI.size) (ivs l) ++ ((x.map iN).flatMap Dat.cells).map AVal.dat = ivs (l.take k ++ x) := by
  rw [tiI_size, Nat.mul_one, takeL_ivs, cells_ints]
  simp [ivs]
 have h3 : Nat.ble ((k + (x.map iN).length) * tiI.bytes) 140737488355328 = true := by
  rw [Nat.ble_eq, List.length_map]
  calc (k + x.length) * tiI.bytes <= 100000000 * 1000 := Nat.mul_le_mul (by omega) hb
   _ <= 140737488355328 := by decide
 have h4 : Nat.ble (k + (x.map iN).length) lim = true := by rw [Nat.ble_eq, List.length_map]; simp only [lim]; omega
 have h5 : Nat.ble (k * tiI.size) (ivs l).length = true := by rw [tiI_size, Nat.ble_eq, show (ivs l).length = l.length from List.length_map _]; omega
 have h6 : Nat.beq 1 tiI.size = true := by rw [tiI_size]; rfl
 have h7 : Nat.beq 0 0 = true := rfl
 have e0 : aAppend (env Prims.fast) true 22 [.win m 1 0 k, .dat (.slice (x.map iN))] (some (.cells (ivs l))) = growRow (env Prims.fast) tiI k (ivs l) (.dat (.slice (x.map iN))) := by
  simp only [aAppend, tiI_eq, h6, h7, Bool.and_self, if_true]
 rw [e0]
 unfold growRow
 rw [ea]
 dsimp only
 rw [e2, h3, h4, h5, bldSh_ivs, tiI_size, List.length_map]
 rfl
/-! ### The loop -/
def dvB (b : Bool) (d : Int) : Int := match b with | true => d | false => 0
theorem c_DefS {op dst a b im : Int} {nm : List UInt8} {dx : Dat} {k : Int} {tn : List UInt8} {ix : Int} {dt : Dat} {ck ci : Int} {cs : List UInt8} (g3 : SlD dx) (g4 : SlD dt)
  {s : Shp} {ok : Bool} (hs : Calls1 58 [iv op] (.tup [.dat s.enc, bv ok])) : Calls1 22 [.dat (insD op dst a b im nm dx k tn ix dt ck ci cs)] (.tup [iv (dvB s.dst dst), bv s.dst]) := by
 have q1 := bx_ins (op := op) (dst := dst) (a := a) (b := b) (im := im) (nm := nm) (k := k) (tn := tn) (ix := ix) (ck := ck) (ci := ci) (cs := cs) g3 g4
 clear g3 g4
 obtain ⟨w, s1, s2, s3, s4, s5, s6, s7, s8, s9, s10, s11⟩ := s
 refine co [] [1] (x := .of Tryz.f22 ord22 live22) ?_; refine oo q1 ?_; refine on hs ?_
 cases s1 <;>
 ·exact fi
theorem us_tts {op dst a b im : Int} {nm : List UInt8} {xs : List Dat} {k : Int} {tn : List UInt8} {ix : Int} {dt : Dat} {ck ci : Int} {cs : List UInt8} (g4 : SlD dt)
  {s : Shp} {ok : Bool} (hs : Calls1 58 [iv op] (.tup [.dat s.enc, bv ok])) (ha : s.a = true) (hb : s.b = true /\ (eqF op 3 = false ∨ (eqF op 3 = true /\ eqF im 5 = false))) {K K2 : List AVal} {ln : Nat} {r : List Dat}
  (fa : aAppend (env Prims.fast) true 22 [.win (.out 1) 1 0 2, .dat (.slice xs)] (some (.cells [iv a, iv b])) = some ⟨.undef, .grow (.cells K) 1 ln⟩) (nK : noLocO (.cells K) = true)
  (k1 : KC 59 [.win (.out 2) 1 0 ln] [(.out 2, .cells K)] 3 (XQ ⟨.tup [], [(.out 2, .cells K2)], 3⟩)) (m1 : KC 60 [.win (.out 2) 1 0 ln] [(.out 2, .cells K2)] 3 (XQ ⟨.dat (.slice r), [], 3⟩)) : Calls1 24 [.dat (insD op dst a b im nm (.slice xs) k tn ix dt ck ci cs)] (.dat (.slice r)) := by
 have q1 := bx_ins (op := op) (dst := dst) (a := a) (b := b) (im := im) (nm := nm) (k := k) (tn := tn) (ix := ix) (ck := ck) (ci := ci) (cs := cs) (.inr ⟨xs, rfl⟩) g4
 clear g4
 obtain ⟨w, s1, s2, s3, s4, s5, s6, s7, s8, s9, s10, s11⟩ := s
 cases ha
 obtain ⟨hb, h3 | ⟨h3, h5⟩⟩ := hb
 ·cases hb
  refine co [24, 500040] [1, 40] (x := .of Tryz.f24 ord24 live24) ?_; refine oo q1 ?_; refine on hs ?_; refine ob h3 ?_; refine oo fa ?_; refine ob nK ?_; refine oh k1 ?_; refine oh m1 ?_; exact fi
 cases hb
 refine co [24, 28, 500040] [1, 40] (x := .of Tryz.f24 ord24 live24) ?_; refine oo q1 ?_; refine on hs ?_; refine ob h3 ?_; refine ob h5 ?_; refine oo fa ?_; refine ob nK ?_; refine oh k1 ?_; refine oh m1 ?_; exact fi
theorem us_ttn {op dst a b im : Int} {nm : List UInt8} {k : Int} {tn : List UInt8} {ix : Int} {dt : Dat} {ck ci : Int} {cs : List UInt8} (g4 : SlD dt)
  {s : Shp} {ok : Bool} (hs : Calls1 58 [iv op] (.tup [.dat s.enc, bv ok])) (ha : s.a = true) (hb : s.b = true /\ (eqF op 3 = false ∨ (eqF op 3 = true /\ eqF im 5 = false))) {K2 : List AVal} {r : List Dat}
  (k1 : KC 59 [.win (.out 2) 1 0 2] [(.out 2, .cells [iv a, iv b])] 3 (XQ ⟨.tup [], [(.out 2, .cells K2)], 3⟩)) (m1 : KC 60 [.win (.out 2) 1 0 2] [(.out 2, .cells K2)] 3 (XQ ⟨.dat (.slice r), [], 3⟩)) : Calls1 24 [.dat (insD op dst a b im nm (nl) k tn ix dt ck ci cs)] (.dat (.slice r)) := by
 have q1 := bx_ins (op := op) (dst := dst) (a := a) (b := b) (im := im) (nm := nm) (k := k) (tn := tn) (ix := ix) (ck := ck) (ci := ci) (cs := cs) (.inl rfl) g4
 clear g4
 obtain ⟨w, s1, s2, s3, s4, s5, s6, s7, s8, s9, s10, s11⟩ := s
 cases ha
 obtain ⟨hb, h3 | ⟨h3, h5⟩⟩ := hb
 ·cases hb
  refine co [24] [1] (x := .of Tryz.f24 ord24 live24) ?_; refine oo q1 ?_; refine on hs ?_; refine ob h3 ?_; refine oh k1 ?_; refine oh m1 ?_; exact fi
 cases hb
 refine co [24, 28] [1] (x := .of Tryz.f24 ord24 live24) ?_; refine oo q1 ?_; refine on hs ?_; refine ob h3 ?_; refine ob h5 ?_; refine oh k1 ?_; refine oh m1 ?_; exact fi
theorem us_tfs {op dst a b im : Int} {nm : List UInt8} {xs : List Dat} {k : Int} {tn : List UInt8} {ix : Int} {dt : Dat} {ck ci : Int} {cs : List UInt8} (g4 : SlD dt)
  {s : Shp} {ok : Bool} (hs : Calls1 58 [iv op] (.tup [.dat s.enc, bv ok])) (ha : s.a = true) (hb : s.b = false ∨ (s.b = true /\ eqF op 3 = true /\ eqF im 5 = true)) {K K2 : List AVal} {ln : Nat} {r : List Dat}
  (fa : aAppend (env Prims.fast) true 22 [.win (.out 0) 1 0 1, .dat (.slice xs)] (some (.cells [iv a])) = some ⟨.undef, .grow (.cells K) 1 ln⟩) (nK : noLocO (.cells K) = true)
  (k1 : KC 59 [.win (.out 1) 1 0 ln] [(.out 1, .cells K)] 2 (XQ ⟨.tup [], [(.out 1, .cells K2)], 2⟩)) (m1 : KC 60 [.win (.out 1) 1 0 ln] [(.out 1, .cells K2)] 2 (XQ ⟨.dat (.slice r), [], 2⟩)) : Calls1 24 [.dat (insD op dst a b im nm (.slice xs) k tn ix dt ck ci cs)] (.dat (.slice r)) := by
 have q1 := bx_ins (op := op) (dst := dst) (a := a) (b := b) (im := im) (nm := nm) (k := k) (tn := tn) (ix := ix) (ck := ck) (ci := ci) (cs := cs) (.inr ⟨xs, rfl⟩) g4
 clear g4
 obtain ⟨w, s1, s2, s3, s4, s5, s6, s7, s8, s9, s10, s11⟩ := s
 cases ha
 rcases hb with hb | ⟨hb, h3, h5⟩
 ·cases hb
  refine co [500040] [1, 40] (x := .of Tryz.f24 ord24 live24) ?_; refine oo q1 ?_; refine on hs ?_; refine oo fa ?_; refine ob nK ?_; refine oh k1 ?_; refine oh m1 ?_; exact fi
 cases hb
 refine co [24, 28, 500040] [1, 40] (x := .of Tryz.f24 ord24 live24) ?_; refine oo q1 ?_; refine on hs ?_; refine ob h3 ?_; refine ob h5 ?_; refine oo fa ?_; refine ob nK ?_; refine oh k1 ?_; refine oh m1 ?_; exact fi
theorem us_tfn {op dst a b im : Int} {nm : List UInt8} {k : Int} {tn : List UInt8} {ix : Int} {dt : Dat} {ck ci : Int} {cs : List UInt8} (g4 : SlD dt)
  {s : Shp} {ok : Bool} (hs : Calls1 58 [iv op] (.tup [.dat s.enc, bv ok])) (ha : s.a = true) (hb : s.b = false ∨ (s.b = true /\ eqF op 3 = true /\ eqF im 5 = true)) {K2 : List AVal} {r : List Dat}
  (k1 : KC 59 [.win (.out 1) 1 0 1] [(.out 1, .cells [iv a])] 2 (XQ ⟨.tup [], [(.out 1, .cells K2)], 2⟩)) (m1 : KC 60 [.win (.out 1) 1 0 1] [(.out 1, .cells K2)] 2 (XQ ⟨.dat (.slice r), [], 2⟩)) : Calls1 24 [.dat (insD op dst a b im nm (nl) k tn ix dt ck ci cs)] (.dat (.slice r)) := by
 have q1 := bx_ins (op := op) (dst := dst) (a := a) (b := b) (im := im) (nm := nm) (k := k) (tn := tn) (ix := ix) (ck := ck) (ci := ci) (cs := cs) (.inl rfl) g4
 clear g4
 obtain ⟨w, s1, s2, s3, s4, s5, s6, s7, s8, s9, s10, s11⟩ := s
 cases ha
 rcases hb with hb | ⟨hb, h3, h5⟩
 ·cases hb
  refine co [] [1] (x := .of Tryz.f24 ord24 live24) ?_; refine oo q1 ?_; refine on hs ?_; refine oh k1 ?_; refine oh m1 ?_; exact fi
 cases hb
 refine co [24, 28] [1] (x := .of Tryz.f24 ord24 live24) ?_; refine oo q1 ?_; refine on hs ?_; refine ob h3 ?_; refine ob h5 ?_; refine oh k1 ?_; refine oh m1 ?_; exact fi
theorem us_fts {op dst a b im : Int} {nm : List UInt8} {xs : List Dat} {k : Int} {tn : List UInt8} {ix : Int} {dt : Dat} {ck ci : Int} {cs : List UInt8} (g4 : SlD dt)
  {s : Shp} {ok : Bool} (hs : Calls1 58 [iv op] (.tup [.dat s.enc, bv ok])) (ha : s.a = false) (hb : s.b = true /\ (eqF op 3 = false ∨ (eqF op 3 = true /\ eqF im 5 = false))) {K K2 : List AVal} {ln : Nat} {r : List Dat}
  (fa : aAppend (env Prims.fast) true 22 [.win (.out 0) 1 0 1, .dat (.slice xs)] (some (.cells [iv b])) = some ⟨.undef, .grow (.cells K) 1 ln⟩) (nK : noLocO (.cells K) = true)
  (k1 : KC 59 [.win (.out 1) 1 0 ln] [(.out 1, .cells K)] 2 (XQ ⟨.tup [], [(.out 1, .cells K2)], 2⟩)) (m1 : KC 60 [.win (.out 1) 1 0 ln] [(.out 1, .cells K2)] 2 (XQ ⟨.dat (.slice r), [], 2⟩)) : Calls1 24 [.dat (insD op dst a b im nm (.slice xs) k tn ix dt ck ci cs)] (.dat (.slice r)) := by
 have q1 := bx_ins (op := op) (dst := dst) (a := a) (b := b) (im := im) (nm := nm) (k := k) (tn := tn) (ix := ix) (ck := ck) (ci := ci) (cs := cs) (.inr ⟨xs, rfl⟩) g4
 clear g4
 obtain ⟨w, s1, s2, s3, s4, s5, s6, s7, s8, s9, s10, s11⟩ := s
 cases ha
 obtain ⟨hb, h3 | ⟨h3, h5⟩⟩ := hb
 ·cases hb
  refine co [24, 500040] [1, 40] (x := .of Tryz.f24 ord24 live24) ?_; refine oo q1 ?_; refine on hs ?_; refine ob h3 ?_; refine oo fa ?_; refine ob nK ?_; refine oh k1 ?_; refine oh m1 ?_; exact fi
 cases hb
 refine co [24, 28, 500040] [1, 40] (x := .of Tryz.f24 ord24 live24) ?_; refine oo q1 ?_; refine on hs ?_; refine ob h3 ?_; refine ob h5 ?_; refine oo fa ?_; refine ob nK ?_; refine oh k1 ?_; refine oh m1 ?_; exact fi
theorem us_ftn {op dst a b im : Int} {nm : List UInt8} {k : Int} {tn : List UInt8} {ix : Int} {dt : Dat} {ck ci : Int} {cs : List UInt8} (g4 : SlD dt)
  {s : Shp} {ok : Bool} (hs : Calls1 58 [iv op] (.tup [.dat s.enc, bv ok])) (ha : s.a = false) (hb : s.b = true /\ (eqF op 3 = false ∨ (eqF op 3 = true /\ eqF im 5 = false))) {K2 : List AVal} {r : List Dat}
  (k1 : KC 59 [.win (.out 1) 1 0 1] [(.out 1, .cells [iv b])] 2 (XQ ⟨.tup [], [(.out 1, .cells K2)], 2⟩)) (m1 : KC 60 [.win (.out 1) 1 0 1] [(.out 1, .cells K2)] 2 (XQ ⟨.dat (.slice r), [], 2⟩)) : Calls1 24 [.dat (insD op dst a b im nm (nl) k tn ix dt ck ci cs)] (.dat (.slice r)) := by
 have q1 := bx_ins (op := op) (dst := dst) (a := a) (b := b) (im := im) (nm := nm) (k := k) (tn := tn) (ix := ix) (ck := ck) (ci := ci) (cs := cs) (.inl rfl) g4
 clear g4
 obtain ⟨w, s1, s2, s3, s4, s5, s6, s7, s8, s9, s10, s11⟩ := s
 cases ha
 obtain ⟨hb, h3 | ⟨h3, h5⟩⟩ := hb
 ·cases hb
  refine co [24] [1] (x := .of Tryz.f24 ord24 live24) ?_; refine oo q1 ?_; refine on hs ?_; refine ob h3 ?_; refine oh k1 ?_; refine oh m1 ?_; exact fi
 cases hb
 refine co [24, 28] [1] (x := .of Tryz.f24 ord24 live24) ?_; refine oo q1 ?_; refine on hs ?_; refine ob h3 ?_; refine ob h5 ?_; refine oh k1 ?_; refine oh m1 ?_; exact fi
theorem us_ffs {op dst a b im : Int} {nm : List UInt8} {x0 : Dat} {xs : List Dat} {k : Int} {tn : List UInt8} {ix : Int} {dt : Dat} {ck ci : Int} {cs : List UInt8} (g4 : SlD dt)
  {s : Shp} {ok : Bool} (hs : Calls1 58 [iv op] (.tup [.dat s.enc, bv ok])) (ha : s.a = false) (hb : s.b = false ∨ (s.b = true /\ eqF op 3 = true /\ eqF im 5 = true)) {K K2 : List AVal} {ln : Nat} {r : List Dat}
  (fa : aAppend (env Prims.fast) true 22 [.own [], .dat (.slice (x0 :: xs))] none = some ⟨.undef, .grow (.cells K) 1 ln⟩) (nK : noLocO (.cells K) = true)
  (k1 : KC 59 [.win (.out 0) 1 0 ln] [(.out 0, .cells K)] 1 (XQ ⟨.tup [], [(.out 0, .cells K2)], 1⟩)) (m1 : KC 60 [.win (.out 0) 1 0 ln] [(.out 0, .cells K2)] 1 (XQ ⟨.dat (.slice r), [], 1⟩)) : Calls1 24 [.dat (insD op dst a b im nm (.slice (x0 :: xs)) k tn ix dt ck ci cs)] (.dat (.slice r)) := by
 have q1 := bx_ins (op := op) (dst := dst) (a := a) (b := b) (im := im) (nm := nm) (k := k) (tn := tn) (ix := ix) (ck := ck) (ci := ci) (cs := cs) (.inr ⟨x0 :: xs, rfl⟩) g4
 clear g4
 obtain ⟨w, s1, s2, s3, s4, s5, s6, s7, s8, s9, s10, s11⟩ := s
 cases ha
 rcases hb with hb | ⟨hb, h3, h5⟩
 ·cases hb
  refine co [500040] [1, 40] (x := .of Tryz.f24 ord24 live24) ?_; refine oo q1 ?_; refine on hs ?_; refine oo fa ?_; refine ob nK ?_; refine oh k1 ?_; refine oh m1 ?_; exact fi
 cases hb
 refine co [24, 28, 500040] [1, 40] (x := .of Tryz.f24 ord24 live24) ?_; refine oo q1 ?_; refine on hs ?_; refine ob h3 ?_; refine ob h5 ?_; refine oo fa ?_; refine ob nK ?_; refine oh k1 ?_; refine oh m1 ?_; exact fi
theorem us_ffn {op dst a b im : Int} {nm : List UInt8} {k : Int} {tn : List UInt8} {ix : Int} {dt : Dat} {ck ci : Int} {cs : List UInt8} (g4 : SlD dt)
  {s : Shp} {ok : Bool} (hs : Calls1 58 [iv op] (.tup [.dat s.enc, bv ok])) (ha : s.a = false) (hb : s.b = false ∨ (s.b = true /\ eqF op 3 = true /\ eqF im 5 = true))
  (k0 : KC 59 [.dat (.slice [])] [] 0 (XQ ⟨.tup [], [], 0⟩)) (m0 : Calls1 60 [.dat (.slice [])] (.dat (.slice []))) : Calls1 24 [.dat (insD op dst a b im nm (nl) k tn ix dt ck ci cs)] (.dat (.slice [])) := by
 have q1 := bx_ins (op := op) (dst := dst) (a := a) (b := b) (im := im) (nm := nm) (k := k) (tn := tn) (ix := ix) (ck := ck) (ci := ci) (cs := cs) (.inl rfl) g4
 clear g4
 obtain ⟨w, s1, s2, s3, s4, s5, s6, s7, s8, s9, s10, s11⟩ := s
 cases ha
 rcases hb with hb | ⟨hb, h3, h5⟩
 ·cases hb
  refine co [] [1] (x := .of Tryz.f24 ord24 live24) ?_; refine oo q1 ?_; refine on hs ?_; refine on k0 ?_; refine on m0 ?_; exact fi
 cases hb
 refine co [24, 28] [1] (x := .of Tryz.f24 ord24 live24) ?_; refine oo q1 ?_; refine on hs ?_; refine ob h3 ?_; refine ob h5 ?_; refine on k0 ?_; refine on m0 ?_; exact fi
theorem us_ffe {op dst a b im : Int} {nm : List UInt8} {k : Int} {tn : List UInt8} {ix : Int} {dt : Dat} {ck ci : Int} {cs : List UInt8} (g4 : SlD dt)
  {s : Shp} {ok : Bool} (hs : Calls1 58 [iv op] (.tup [.dat s.enc, bv ok])) (ha : s.a = false) (hb : s.b = false ∨ (s.b = true /\ eqF op 3 = true /\ eqF im 5 = true))
  (k0 : KC 59 [.dat (.slice [])] [] 0 (XQ ⟨.tup [], [], 0⟩)) (m0 : Calls1 60 [.dat (.slice [])] (.dat (.slice []))) : Calls1 24 [.dat (insD op dst a b im nm (.slice []) k tn ix dt ck ci cs)] (.dat (.slice [])) := by
 have q1 := bx_ins (op := op) (dst := dst) (a := a) (b := b) (im := im) (nm := nm) (k := k) (tn := tn) (ix := ix) (ck := ck) (ci := ci) (cs := cs) (.inr ⟨[], rfl⟩) g4
 clear g4
 obtain ⟨w, s1, s2, s3, s4, s5, s6, s7, s8, s9, s10, s11⟩ := s
 cases ha
 rcases hb with hb | ⟨hb, h3, h5⟩
 ·cases hb
  refine co [] [1] (x := .of Tryz.f24 ord24 live24) ?_; refine oo q1 ?_; refine on hs ?_; refine on k0 ?_; refine on m0 ?_; exact fi
 cases hb
 refine co [24, 28] [1] (x := .of Tryz.f24 ord24 live24) ?_; refine oo q1 ?_; refine on hs ?_; refine ob h3 ?_; refine ob h5 ?_; refine on k0 ?_; refine on m0 ?_; exact fi
theorem c_compactE : Calls1 60 [.dat (.slice [])] (.dat (.slice [])) := by
 refine co [] [] (x := .of Tryz.f60 ord60 live60) ?_; exact fi
theorem c_sortE : KC 59 [.dat (.slice [])] [] 0 (XQ ⟨.tup [], [], 0⟩) := by
 intro w R N cargs bsA bsH bsF hargs hheap hnd hnx hglob hF
 obtain ⟨v0, r1, c0, e1, rfl, rfl, h0, hr1⟩ := repVs_cons_inv hargs
 obtain ⟨rfl, rfl⟩ := repVs_nil_inv hr1
 simp only [RepV] at h0
 obtain ⟨rfl, h0⟩ := h0
 have h0 : RepC w R v0 (.slice []) := h0
 obtain ⟨pp, cap, rfl⟩ : ∃ pp cap, v0 = .slice pp 0 cap := by
  generalize hd : Dat.slice [] = d at h0
  cases h0 with
  | flat _ => simp at hd
  | nil a cap => exact ⟨a, cap, rfl⟩
  | slice b off cap _ es _ _ _ _ _ _ _ => simp at hd; subst hd; exact ⟨_, cap, rfl⟩
 refine (AnyM.slices_Sort_int_none Tryz.sortI pp cap w).mono ?_
 rintro e w' ⟨rfl, rfl⟩
 exact ⟨_, _, _, 0, R, N, [], bsH, rfl, ⟨rfl, rfl, rfl⟩, by simp only [RepV]; exact ⟨[], rfl, repVs_nil⟩, hheap, by simpa using hnd, hnx, ⟨Step.refl _ _, fun _ _ _ => ⟨rfl, fun _ h => h⟩⟩, fun _ _ h => h⟩
/-- Sorted, once each. -/
def usC (l : List Int) : List Int := Go.Lib.compactUpTo (sortI l).toArray (sortI l).length
theorem apn_ints (y : Int) (ys : List Int) (h1 : ys.length < 10000000) :
  aAppend (env Prims.fast) true 22 [.own [], .dat (.slice ((y :: ys).map iN))] none = some ⟨.undef, .grow (.cells (ivs (y :: ys))) 1 (y :: ys).length⟩ := by
 have h := apw_ints (m := .out 0) (l := []) (k := 0) (y :: ys) (by simp only [List.length_cons]; omega) (Nat.le_refl _)
 have e1 : aAppend (env Prims.fast) true 22 [.win (.out 0) 1 0 0, .dat (.slice ((y :: ys).map iN))] (some (.cells (ivs []))) = growRow (env Prims.fast) tiI 0 (ivs []) (.dat (.slice ((y :: ys).map iN))) := by
  have h6 : Nat.beq 1 tiI.size = true := by rw [tiI_size]; rfl
  have h7 : Nat.beq 0 0 = true := rfl
  simp only [aAppend, tiI_eq, h6, h7, Bool.and_self, if_true]
 have e2 : aAppend (env Prims.fast) true 22 [.own [], .dat (.slice ((y :: ys).map iN))] none = growRow (env Prims.fast) tiI 0 [] (.dat (.slice ((y :: ys).map iN))) := by
  simp only [aAppend, tiI_eq]
  rfl
 rw [e2]
 rw [e1] at h
 have e3 : ivs [] = [] := rfl
 rw [e3] at h
 rw [h]
 simp
def usB (x : Ins) : Bool := (shO (shpI x.op)).b && !(eqF x.op 3 && eqF x.im 5)
/-- What an instruction reads. -/
def usP (x : Ins) : List Int := (if (shO (shpI x.op)).a then [x.a] else []) ++ ((if usB x then [x.b] else []) ++ x.ar)
def usI (x : Ins) : List Int := usC (usP x)
def dfI (x : Ins) : Option Int := if (shO (shpI x.op)).dst then some x.dst else none
theorem c_Def (x : Ins) : Calls1 22 [.dat x.enc] (.tup [iv (dvB (shO (shpI x.op)).dst x.dst), bv (shO (shpI x.op)).dst]) := by
 obtain ⟨op, dst, a, b, im, nm, az, ar, ⟨k, tn, ix, la⟩, ck, ci, cs⟩ := x
 exact c_DefS (slD_sx az (ar.map iN)) (slD_sl (encL la)) (c_shape op)
theorem c_Uses (x : Ins) (hn : x.ar.length < 1000000) : Calls1 24 [.dat x.enc] (.dat (.slice ((usI x).map iN))) := by
 obtain ⟨op, dst, a, b, im, nm, az, ar, ⟨k, tn, ix, la⟩, ck, ci, cs⟩ := x
 have hs := c_shape op
 have g4 := slD_sl (encL la)
 have hn : ar.length < 1000000 := hn
 have S : ∀ (o : Nat) (l : List Int), l ≠ [] -> l.length < 100000000 -> KC 59 [.win (.out o) 1 0 l.length] [(.out o, .cells (ivs l))] (o + 1) (XQ ⟨.tup [], [(.out o, .cells (ivs (sortI l)))], o + 1⟩) :=
  fun o l h1 h2 => sort_at o h1 (by omega)
 have C : ∀ (o : Nat) (l : List Int), l ≠ [] -> l.length < 100000000 -> KC 60 [.win (.out o) 1 0 l.length] [(.out o, .cells (ivs (sortI l)))] (o + 1) (XQ ⟨.dat (.slice ((usC l).map iN)), [], o + 1⟩) := by
  intro o l h1 h2
  have hl := sortI_length l
  have h3 : 1 <= (sortI l).length := by
   rw [hl]
   cases l with
   | nil => exact absurd rfl h1
   | cons _ _ => simp
  have := comp_at (l := sortI l) o h3 (by rw [hl]; omega) (r := usC l) rfl
  rw [hl] at this
  exact this
 have hB : usB ⟨op, dst, a, b, im, nm, az, ar, ⟨k, tn, ix, la⟩, ck, ci, cs⟩ = ((shO (shpI op)).b && !(eqF op 3 && eqF im 5)) := rfl
 have hP : ∀ A B, (shO (shpI op)).a = A -> ((shO (shpI op)).b && !(eqF op 3 && eqF im 5)) = B -> usI ⟨op, dst, a, b, im, nm, az, ar, ⟨k, tn, ix, la⟩, ck, ci, cs⟩ = usC ((if A then [a] else []) ++ ((if B then [b] else []) ++ ar)) := by
  intro A B h1 h2
  subst h1
  subst h2
  rfl
 generalize shO (shpI op) = s at hs hP
 clear hB
 have hbT : (s.b && !(eqF op 3 && eqF im 5)) = true -> s.b = true /\ (eqF op 3 = false ∨ (eqF op 3 = true /\ eqF im 5 = false)) := by
  intro h
  cases h1 : s.b <;> cases h2 : eqF op 3 <;> cases h3 : eqF im 5 <;> simp_all
 have hbF : (s.b && !(eqF op 3 && eqF im 5)) = false -> s.b = false ∨ (s.b = true /\ eqF op 3 = true /\ eqF im 5 = true) := by
  intro h
  cases h1 : s.b <;> cases h2 : eqF op 3 <;> cases h3 : eqF im 5 <;> simp_all
 have hnl : ∀ (d : Dat), (⟨op, dst, a, b, im, nm, az, ar, ⟨k, tn, ix, la⟩, ck, ci, cs⟩ : Ins).enc = insD op dst a b im nm (sx az (ar.map iN)) k tn ix (sl (encL la)) ck ci cs := fun _ => rfl
 rw [hnl nl]
 cases hA : s.a with
 | true =>
  cases hBB : (s.b && !(eqF op 3 && eqF im 5)) with
  | true =>
   rw [hP _ _ hA hBB]
   simp only [if_true]
   cases ar with
   | nil =>
    cases az with
    | false => exact us_ttn g4 hs hA (hbT hBB) (S 2 [a, b] (by simp) (by simp)) (C 2 [a, b] (by simp) (by simp))
    | true => exact us_tts g4 hs hA (hbT hBB) (apw_ints (m := .out 1) (l := [a, b]) (k := 2) [] (by simp) (by simp)) (noLoc_ivs _) (S 2 [a, b] (by simp) (by simp)) (C 2 [a, b] (by simp) (by simp))
   | cons y ys =>
    have hl : (a :: b :: y :: ys).length < 100000000 := by simp only [List.length_cons] at hn ⊢; omega
    have e : 2 + (y :: ys).length = (a :: b :: y :: ys).length := by simp only [List.length_cons]; omega
    have f := apw_ints (m := .out 1) (l := [a, b]) (k := 2) (y :: ys) (by simp only [List.length_cons] at hn ⊢; omega) (by simp)
    rw [e] at f
    exact us_tts g4 hs hA (hbT hBB) f (noLoc_ivs _) (S 2 (a :: b :: y :: ys) (by simp) hl) (C 2 (a :: b :: y :: ys) (by simp) hl)
  | false =>
   rw [hP _ _ hA hBB]
   simp only [if_true, Bool.false_eq_true, if_false, List.nil_append]
   cases ar with
   | nil =>
    cases az with
    | false => exact us_tfn g4 hs hA (hbF hBB) (S 1 [a] (by simp) (by simp)) (C 1 [a] (by simp) (by simp))
    | true => exact us_tfs g4 hs hA (hbF hBB) (apw_ints (m := .out 0) (l := [a]) (k := 1) [] (by simp) (by simp)) (noLoc_ivs _) (S 1 [a] (by simp) (by simp)) (C 1 [a] (by simp) (by simp))
   | cons y ys =>
    have hl : (a :: y :: ys).length < 100000000 := by simp only [List.length_cons] at hn ⊢; omega
    have e : 1 + (y :: ys).length = (a :: y :: ys).length := by simp only [List.length_cons]; omega
    have f := apw_ints (m := .out 0) (l := [a]) (k := 1) (y :: ys) (by simp only [List.length_cons] at hn ⊢; omega) (by simp)
    rw [e] at f
    exact us_tfs g4 hs hA (hbF hBB) f (noLoc_ivs _) (S 1 (a :: y :: ys) (by simp) hl) (C 1 (a :: y :: ys) (by simp) hl)
 | false =>
  cases hBB : (s.b && !(eqF op 3 && eqF im 5)) with
  | true =>
   rw [hP _ _ hA hBB]
   simp only [if_true, Bool.false_eq_true, if_false, List.nil_append]
   cases ar with
   | nil =>
    cases az with
    | false => exact us_ftn g4 hs hA (hbT hBB) (S 1 [b] (by simp) (by simp)) (C 1 [b] (by simp) (by simp))
    | true => exact us_fts g4 hs hA (hbT hBB) (apw_ints (m := .out 0) (l := [b]) (k := 1) [] (by simp) (by simp)) (noLoc_ivs _) (S 1 [b] (by simp) (by simp)) (C 1 [b] (by simp) (by simp))
   | cons y ys =>
    have hl : (b :: y :: ys).length < 100000000 := by simp only [List.length_cons] at hn ⊢; omega
    have e : 1 + (y :: ys).length = (b :: y :: ys).length := by simp only [List.length_cons]; omega
    have f := apw_ints (m := .out 0) (l := [b]) (k := 1) (y :: ys) (by simp only [List.length_cons] at hn ⊢; omega) (by simp)
    rw [e] at f
    exact us_fts g4 hs hA (hbT hBB) f (noLoc_ivs _) (S 1 (b :: y :: ys) (by simp) hl) (C 1 (b :: y :: ys) (by simp) hl)
  | false =>
   rw [hP _ _ hA hBB]
   simp only [Bool.false_eq_true, if_false, List.nil_append]
   cases ar with
   | nil =>
    have e0 : usC [] = [] := by simp [usC, sortI, Go.Lib.compactUpTo]
    rw [e0]
    cases az with
    | false => exact us_ffn g4 hs hA (hbF hBB) c_sortE c_compactE
    | true => exact us_ffe g4 hs hA (hbF hBB) c_sortE c_compactE
   | cons y ys =>
    have hl : (y :: ys).length < 100000000 := by simp only [List.length_cons] at hn ⊢; omega
    exact us_ffs g4 hs hA (hbF hBB) (apn_ints y ys (by simp only [List.length_cons] at hn; omega)) (noLoc_ivs _) (S 0 (y :: ys) (by simp) hl) (C 0 (y :: ys) (by simp) hl)
noncomputable def tiMs : TI := match Go.Tp.elemOf (env Prims.fast) 91 with | some t => t | none => default
theorem tiMs_eq : Go.Tp.elemOf (env Prims.fast) 91 = some tiMs := by kernel_rfl
theorem tiMs_size : tiMs.size = 1 := by kernel_rfl
noncomputable def tiM : TI := match (env Prims.fast).ty 92 with | some t => t | none => default
theorem tiM_eq : (env Prims.fast).ty 92 = some tiM := by kernel_rfl
theorem tiM_agg : tiM.isAgg = false := by kernel_rfl
theorem tiM_size : tiM.size = 1 := by kernel_rfl
theorem ixw_maps {m : Name} {n k : Nat} (h : k < n) : aIndexAddr (env Prims.fast) 91 [.win m 1 0 n, iv (Int.ofNat k)] = some ⟨.ptr m k, .keep⟩ := by
 have := Go.Tp.idx_win (m := m) (off := 0) (s := 1) tiMs_eq tiMs_size.symm h
 rw [Nat.zero_add, Nat.mul_one] at this
 exact this
theorem ld_row {cs : List AVal} {k : Nat} {x m : Name} (h : cs[k]? = some (.map x)) : aLoad (env Prims.fast) false 92 [.ptr m k] (some (.cells cs)) = some ⟨.map x, .keep⟩ := by
 simp [aLoad, tiM_eq, Go.Tp.loadCells, tiM_agg, h, Go.Tp.ofA]
theorem len_map {x : Name} {m : List Int} (h : m.length <= lim) : aLen (env Prims.fast) 92 [.map x] (some (.map (setM m))) = some ⟨iv (Int.ofNat m.length), .keep⟩ := by
 have e : aLen (env Prims.fast) 92 [.map x] (some (.map (setM m))) = if (setM m).length <= lim then some ⟨aval (.int .i64 (setM m).length), .keep⟩ else none := by kernel_rfl
 have hl : (setM m).length = m.length := List.length_map _
 rw [e, hl, if_pos h]
 rfl
noncomputable def tdI : TypeDesc := match (env Prims.fast).key 3 with | some t => t | none => .bool
theorem tdI_is : tdI = .int .i64 := by kernel_rfl
theorem same_int (x y : Int) : sameF tdI (.int .i64 x) (.int .i64 y) = some (eqF x y) := by
 rw [tdI_is, sameF_eq, eqF_eq]
 simp [Instr.sameNow]
theorem find_set (x : Int) : ∀ (m : List Int) (i : Nat), (x ∉ m -> findF tdI (.int .i64 x) (setM m) i = some none) /\ (x ∈ m -> ∃ j, findF tdI (.int .i64 x) (setM m) i = some (some (i + j, .flat (.bool true))) /\ j < m.length)
 | [], i => ⟨fun _ => rfl, fun h => by simp at h⟩
 | y :: r, i => by
  have e : findF tdI (.int .i64 x) (setM (y :: r)) i = (match sameF tdI (.int .i64 x) (.int .i64 y) with | some true => some (some (i, .flat (.bool true))) | some false => findF tdI (.int .i64 x) (setM r) (i + 1) | none => none) := rfl
  rw [e, same_int]
  obtain ⟨h1, h2⟩ := find_set x r (i + 1)
  by_cases hxy : x = y
  ·subst hxy
   rw [eqF_self]
   exact ⟨fun h => absurd List.mem_cons_self h, fun _ => ⟨0, rfl, by simp⟩⟩
  rw [eqF_ne hxy]
  refine ⟨fun h => h1 (fun hm => h (List.mem_cons_of_mem _ hm)), fun h => ?_⟩
  rcases List.mem_cons.1 h with h | h
  ·exact absurd h hxy
  obtain ⟨j, h3, h4⟩ := h2 h
  exact ⟨j + 1, by rw [show i + (j + 1) = i + 1 + j by omega]; exact h3, by simp only [List.length_cons]; omega⟩
theorem setAt_set : ∀ (m : List Int) (j : Nat), setAt j (.flat (.bool true)) (setM m) = setM m
 | [], j => by cases j <;> simp [setM, setAt]
 | y :: r, 0 => rfl
 | y :: r, j + 1 => by show _ :: setAt j _ (setM r) = _; rw [setAt_set r j]; rfl
theorem setM_add (m : List Int) (x : Int) : setM m ++ [(.int .i64 x, .flat (.bool true))] = setM (m ++ [x]) := by simp [setM]
theorem upd_map (z : Name) (m : List Int) (x : Int) : aMapUpdate (env Prims.fast) 92 [.map z, iv x, bv true] (some (.map (setM m))) = some ⟨.undef, .set (.map (setM (addK m x)))⟩ := by
 have e : aMapUpdate (env Prims.fast) 92 [.map z, iv x, bv true] (some (.map (setM m))) = (match findF tdI (.int .i64 x) (setM m) 0 with
   | some (some (i, _)) => some ⟨.undef, .set (.map (setAt i (.flat (.bool true)) (setM m)))⟩
   | some none => some ⟨.undef, .set (.map (setM m ++ [(.int .i64 x, .flat (.bool true))]))⟩
   | none => none) := by kernel_rfl
 rw [e]
 obtain ⟨h1, h2⟩ := find_set x m 0
 unfold addK
 by_cases hm : x ∈ m
 ·obtain ⟨j, h3, _⟩ := h2 hm
  rw [h3, if_pos hm]
  dsimp only
  rw [setAt_set]
 rw [h1 hm, if_neg hm]
 dsimp only
 rw [setM_add]
theorem ld_codeO (o : Nat) {p s : Int} {d1 d2 : Dat} (h1 : SlD d1) (h2 : SlD d2) : aLoad (env Prims.fast) false 26 [.ptr (.out o) 0] (some (.cells (cC p s d1 d2))) = some ⟨.dat (codeD p s d1 d2), .keep⟩ := by
 rcases h1 with rfl | ⟨e1, rfl⟩ <;> rcases h2 with rfl | ⟨e2, rfl⟩ <;> kernel_rfl
noncomputable def hLv : Hints := ⟨xmoves, ord21, xcaps, rowsOf xcaps 21⟩
/-- The round's code. -/
noncomputable def lvB0 : Code := inBlk (rfBody Tryz.f21)
abbrev LvC (c : Code) (T : Exit -> AState -> Prop) (s : FState) : Prop := KD c T (s.toA Tryz.f21.ntmps)
abbrev LvT (T : Exit -> AState -> Prop) (s : FState) : Prop := T .normal (s.toA Tryz.f21.ntmps)
def fn39 (es : List Dat) : AVal := .fn (.func 89) [] [.ref [.slice es]]
def F00 (es : List Dat) (i : Int) (d : Dat) (a b : Nat) : Sl := [(41, .dat d), (40, iv i), (39, fn39 es), (5, .ptr (.out b) 0), (3, .ptr (.out a) 0), (1, .ptr (.out 1) 0)]
def F0g (i : Int) (c a b : Nat) : Sl := [(7, .ptr (.loc 7) 0), (6, iv i), (5, .ptr (.out b) 0), (3, .ptr (.out a) 0), (1, .ptr (.out c) 0)]
abbrev F0 (i : Int) (a b : Nat) : Sl := F0g i 1 a b
def F1 (i be : Int) (a b : Nat) : Sl := (8, iv be) :: F0 i a b
def F2 (i be dv : Int) (db : Bool) (a b : Nat) : Sl := (10, bv db) :: (9, iv dv) :: F1 i be a b
/-- Behind the call of next. -/
def F3 (i be dv : Int) (db : Bool) (l : Dat) (ln k : Int) (a b : Nat) : Sl := [(56, iv k), (55, iv ln), (54, .dat l), (10, bv db), (9, iv dv), (8, iv be), (7, .ptr (.loc 7) 0), (6, iv i), (5, .ptr (.out b) 0), (3, .ptr (.out a) 0)]
section
variable {op dst xa xb im : Int} {nm : List UInt8} {dx : Dat} {k : Int} {tn : List UInt8} {ix : Int} {dt : Dat} {ck ci : Int} {cs : List UInt8}
theorem lv_asn (g3 : SlD dx) (g4 : SlD dt) {es : List Dat} {i : Int} {a b : Nat} {hp : Heap} {nx : Nat} {T : Exit -> AState -> Prop} (e : LvT T ⟨F0 i a b, [(.loc 7, .cells (cX op dst xa xb im nm dx k tn ix dt ck ci cs))], hp, nx⟩) :
  LvC (rfAsn Tryz.f21) T ⟨F00 es i (insD op dst xa xb im nm dx k tn ix dt ck ci cs) a b, [], hp, nx⟩ := by
 have q1 := st_ins 7 (op := op) (dst := dst) (a := xa) (b := xb) (im := im) (nm := nm) (k := k) (tn := tn) (ix := ix) (ck := ck) (ci := ci) (cs := cs) g3 g4
 clear g3 g4
 refine run_of [] [100007] (H := hLv) (live := live21) (by kernel_rfl) ?_; refine oo q1 ?_; exact oe e
theorem lv_15 {n m : Nat} {p s : Int} {d1 d2 : Dat} {ch : Bool} {fs : List AVal} {E : List (Go.Value × Dat)} {i be : Int} {o : Nat} {T : Exit -> AState -> Prop}
  (f1 : aIndexAddr (env Prims.fast) 91 [.win (.out 0) 1 0 n, iv i] = some ⟨.ptr (.out 0) o, .keep⟩) (f2 : aLoad (env Prims.fast) false 92 [.ptr (.out 0) o] (some (.cells fs)) = some ⟨.map (.out 4), .keep⟩)
  (f3 : aLen (env Prims.fast) 92 [.map (.out 4)] (some (.map E)) = some ⟨iv be, .keep⟩)
  (e : LvT T ⟨F1 i be 2 3, [(.loc 7, .cells (cX op dst xa xb im nm dx k tn ix dt ck ci cs))], lvB n p s d1 d2 3 ch fs ++ [(.out 4, .map E)], m⟩) :
  LvC (seqL lvB0) T ⟨F0 i 2 3, [(.loc 7, .cells (cX op dst xa xb im nm dx k tn ix dt ck ci cs))], lvB n p s d1 d2 3 ch fs ++ [(.out 4, .map E)], m⟩ := by
 refine run_of [] [44, 45, 46] (H := hLv) (live := live21) (by kernel_rfl) ?_; refine oo f1 ?_; refine oo f2 ?_; refine oo f3 ?_; exact oe e
theorem lv_16 (g3 : SlD dx) (g4 : SlD dt) {hp : Heap} {i be dv : Int} {db : Bool} {a b nx : Nat} {T : Exit -> AState -> Prop}
  (hd : Calls1 22 [.dat (insD op dst xa xb im nm dx k tn ix dt ck ci cs)] (.tup [iv dv, bv db]))
  (e : LvT T ⟨F2 i be dv db a b, [(.loc 7, .cells (cX op dst xa xb im nm dx k tn ix dt ck ci cs))], hp, nx⟩) :
  LvC (seqL (seqR lvB0)) T ⟨F1 i be a b, [(.loc 7, .cells (cX op dst xa xb im nm dx k tn ix dt ck ci cs))], hp, nx⟩ := by
 have q1 := ld_ins false 7 (op := op) (dst := dst) (a := xa) (b := xb) (im := im) (nm := nm) (k := k) (tn := tn) (ix := ix) (ck := ck) (ci := ci) (cs := cs) g3 g4
 clear g3 g4
 refine run_of [] [48] (H := hLv) (live := live21) (by kernel_rfl) ?_; refine oo q1 ?_; refine on hd ?_; exact oe e
theorem lv_17s {n m : Nat} {p s : Int} {d1 d2 : Dat} (h1 : SlD d1) (h2 : SlD d2) {ch : Bool} {fs : List AVal} {pl : Heap} {i be dv : Int} {db : Bool} {ls : List Dat} {T : Exit -> AState -> Prop}
  (hd : Calls1 40 [.dat (codeD p s d1 d2), iv i] (.dat (.slice ls)))
  (e : LvT T ⟨F3 i be dv db (.slice ls) (Int.ofNat ls.length) 0 2 3, [(.loc 7, .cells (cX op dst xa xb im nm dx k tn ix dt ck ci cs))], lvB n p s d1 d2 3 ch fs ++ pl, m⟩) :
  LvC (seqL (seqL (seqR (seqR lvB0)))) T ⟨F2 i be dv db 2 3, [(.loc 7, .cells (cX op dst xa xb im nm dx k tn ix dt ck ci cs))], lvB n p s d1 d2 3 ch fs ++ pl, m⟩ := by
 have q1 := ld_codeO 1 (p := p) (s := s) h1 h2
 clear h1 h2
 refine run_of [] [52] (H := hLv) (live := live21) (by kernel_rfl) ?_; refine oo q1 ?_; refine on hd ?_; exact oe e
theorem lv_17n {n m : Nat} {p s : Int} {d1 d2 : Dat} (h1 : SlD d1) (h2 : SlD d2) {ch : Bool} {fs : List AVal} {pl : Heap} {i be dv : Int} {db : Bool} {T : Exit -> AState -> Prop}
  (hd : Calls1 40 [.dat (codeD p s d1 d2), iv i] (.dat nl))
  (e : LvT T ⟨F3 i be dv db nl 0 0 2 3, [(.loc 7, .cells (cX op dst xa xb im nm dx k tn ix dt ck ci cs))], lvB n p s d1 d2 3 ch fs ++ pl, m⟩) :
  LvC (seqL (seqL (seqR (seqR lvB0)))) T ⟨F2 i be dv db 2 3, [(.loc 7, .cells (cX op dst xa xb im nm dx k tn ix dt ck ci cs))], lvB n p s d1 d2 3 ch fs ++ pl, m⟩ := by
 have q1 := ld_codeO 1 (p := p) (s := s) h1 h2
 clear h1 h2
 refine run_of [] [52] (H := hLv) (live := live21) (by kernel_rfl) ?_; refine oo q1 ?_; refine on hd ?_; exact oe e
/-! ### The loop over the successors -/
theorem lv_6x {hp : Heap} {i be dv : Int} {db : Bool} {l : Dat} {ln kk : Int} {a b nx : Nat} {T : Exit -> AState -> Prop} (h : ltF kk ln = false)
  (e : T (.exit 6) ((⟨(57, bv false) :: F3 i be dv db l ln kk a b, [(.loc 7, .cells (cX op dst xa xb im nm dx k tn ix dt ck ci cs))], hp, nx⟩ : FState).toA Tryz.f21.ntmps)) :
  LvC (rfLoop Tryz.f21 0) T ⟨F3 i be dv db l ln kk a b, [(.loc 7, .cells (cX op dst xa xb im nm dx k tn ix dt ck ci cs))], hp, nx⟩ := by
 refine run_of [57] [] (H := hLv) (live := live21) (by kernel_rfl) ?_; refine ob h ?_; exact oe e
theorem lv_18 {hp : Heap} {i be dv : Int} {db : Bool} {l : Dat} {ln kk : Int} {a b nx : Nat} {T : Exit -> AState -> Prop} (h : ltF kk ln = true)
  (e : LvT T ⟨(57, bv true) :: F3 i be dv db l ln kk a b, [(.loc 7, .cells (cX op dst xa xb im nm dx k tn ix dt ck ci cs))], hp, nx⟩) :
  LvC (seqL (rfLoop Tryz.f21 0)) T ⟨F3 i be dv db l ln kk a b, [(.loc 7, .cells (cX op dst xa xb im nm dx k tn ix dt ck ci cs))], hp, nx⟩ := by
 refine run_of [57] [] (H := hLv) (live := live21) (by kernel_rfl) ?_; refine ob h ?_; exact oe e
def F4 (i be dv : Int) (db : Bool) (l : Dat) (ln kk j : Int) (a b : Nat) : Sl := (12, iv j) :: F3 i be dv db l ln kk a b
theorem lv_19 {hp : Heap} {i be dv : Int} {db : Bool} {ls : List Dat} {ln kk j : Int} {a b nx : Nat} {T : Exit -> AState -> Prop} (h : aIndexAddr (env Prims.fast) 22 [.dat (.slice ls), iv kk] = some ⟨.ref [iN j], .keep⟩)
  (e : LvT T ⟨F4 i be dv db (.slice ls) ln kk j a b, [(.loc 7, .cells (cX op dst xa xb im nm dx k tn ix dt ck ci cs))], hp, nx⟩) :
  LvC (seqL (inBlk (seqL (seqR (seqR (rfLoop Tryz.f21 0)))))) T ⟨(57, bv true) :: F3 i be dv db (.slice ls) ln kk a b, [(.loc 7, .cells (cX op dst xa xb im nm dx k tn ix dt ck ci cs))], hp, nx⟩ := by
 refine run_of [] [58] (H := hLv) (live := live21) (by kernel_rfl) ?_; refine oo h ?_; exact oe e
theorem lv_25 {hp : Heap} {i be dv : Int} {db : Bool} {l : Dat} {ln kk : Int} {a b nx : Nat} {T : Exit -> AState -> Prop}
  (e : LvT T ⟨F3 i be dv db l ln (wrapF .i64 (kk + 1)) a b, [(.loc 7, .cells (cX op dst xa xb im nm dx k tn ix dt ck ci cs))], hp, nx⟩) :
  LvC (seqR (seqR (seqR (rfLoop Tryz.f21 0)))) T ⟨F3 i be dv db l ln kk a b, [(.loc 7, .cells (cX op dst xa xb im nm dx k tn ix dt ck ci cs))], hp, nx⟩ := by
 refine run_of [] [] (H := hLv) (live := live21) (by kernel_rfl) ?_; exact oe e
/-! ### The loop over what the instruction reads -/
def F5 (i be : Int) (us : List Dat) (kk : Int) (a b : Nat) : Sl := [(85, iv kk), (84, iv (Int.ofNat us.length)), (83, .dat (.slice us)), (8, iv be), (6, iv i), (5, .ptr (.out b) 0), (3, .ptr (.out a) 0)]
theorem lv_26 (g3 : SlD dx) (g4 : SlD dt) {hp : Heap} {i be dv : Int} {db : Bool} {l : Dat} {ln kk : Int} {a b nx : Nat} {us : List Dat} {T : Exit -> AState -> Prop}
  (hu : Calls1 24 [.dat (insD op dst xa xb im nm dx k tn ix dt ck ci cs)] (.dat (.slice us)))
  (e : LvT T ⟨F5 i be us 0 a b, [], hp, nx⟩) :
  LvC (seqL (seqL (seqR (seqR (seqR lvB0))))) T ⟨(57, bv false) :: F3 i be dv db l ln kk a b, [(.loc 7, .cells (cX op dst xa xb im nm dx k tn ix dt ck ci cs))], hp, nx⟩ := by
 have q1 := ld_ins false 7 (op := op) (dst := dst) (a := xa) (b := xb) (im := im) (nm := nm) (k := k) (tn := tn) (ix := ix) (ck := ck) (ci := ci) (cs := cs) g3 g4
 clear g3 g4
 refine run_of [] [82] (H := hLv) (live := live21) (by kernel_rfl) ?_; refine oo q1 ?_; refine on hu ?_; exact oe e
theorem lv_10x {hp : Heap} {i be : Int} {us : List Dat} {kk : Int} {a b nx : Nat} {T : Exit -> AState -> Prop} (h : ltF kk (Int.ofNat us.length) = false)
  (e : T (.exit 10) ((⟨(86, bv false) :: F5 i be us kk a b, [], hp, nx⟩ : FState).toA Tryz.f21.ntmps)) :
  LvC (rfLoop Tryz.f21 2) T ⟨F5 i be us kk a b, [], hp, nx⟩ := by
 refine run_of [86] [] (H := hLv) (live := live21) (by kernel_rfl) ?_; refine ob h ?_; exact oe e
theorem lv_10 {n m : Nat} {p s : Int} {d1 d2 : Dat} {ch : Bool} {fs : List AVal} {E E2 : List (Go.Value × Dat)} {i be u : Int} {us : List Dat} {kk : Int} {o : Nat} {T : Exit -> AState -> Prop} (h : ltF kk (Int.ofNat us.length) = true)
  (hx : aIndexAddr (env Prims.fast) 22 [.dat (.slice us), iv kk] = some ⟨.ref [iN u], .keep⟩)
  (f1 : aIndexAddr (env Prims.fast) 91 [.win (.out 0) 1 0 n, iv i] = some ⟨.ptr (.out 0) o, .keep⟩) (f2 : aLoad (env Prims.fast) false 92 [.ptr (.out 0) o] (some (.cells fs)) = some ⟨.map (.out 4), .keep⟩)
  (f3 : aMapUpdate (env Prims.fast) 92 [.map (.out 4), iv u, bv true] (some (.map E)) = some ⟨.undef, .set (.map E2)⟩)
  (e : LvT T ⟨F5 i be us (wrapF .i64 (kk + 1)) 2 3, [], lvB n p s d1 d2 3 ch fs ++ [(.out 4, .map E2)], m⟩) :
  LvC (rfLoop Tryz.f21 2) T ⟨F5 i be us kk 2 3, [], lvB n p s d1 d2 3 ch fs ++ [(.out 4, .map E)], m⟩ := by
 refine run_of [86] [87, 91, 92, 100092] (H := hLv) (live := live21) (by kernel_rfl) ?_; refine ob h ?_; refine oo hx ?_; refine oo f1 ?_; refine oo f2 ?_; refine oo f3 ?_; refine ok_bool (b := true) rfl (by kernel_rfl) ?_; exact oe e
theorem lv_31 {n m : Nat} {p s : Int} {d1 d2 : Dat} {ch : Bool} {fs : List AVal} {E : List (Go.Value × Dat)} {i be ln : Int} {us : List Dat} {kk : Int} {o : Nat} {c : Bool} {T : Exit -> AState -> Prop}
  (f1 : aIndexAddr (env Prims.fast) 91 [.win (.out 0) 1 0 n, iv i] = some ⟨.ptr (.out 0) o, .keep⟩) (f2 : aLoad (env Prims.fast) false 92 [.ptr (.out 0) o] (some (.cells fs)) = some ⟨.map (.out 4), .keep⟩)
  (f3 : aLen (env Prims.fast) 92 [.map (.out 4)] (some (.map E)) = some ⟨iv ln, .keep⟩) (h : eqF ln be = c)
  (e1 : ch = true -> LvT T ⟨[], [], lvB n p s d1 d2 3 true fs ++ [(.out 4, .map E)], m⟩)
  (e2 : ch = false -> LvT T ⟨[], [], lvB n p s d1 d2 3 (!c) fs ++ [(.out 4, .map E)], m⟩) :
  LvC (seqR (seqR (seqR (seqR lvB0)))) T ⟨(86, bv false) :: F5 i be us kk 2 3, [], lvB n p s d1 d2 3 ch fs ++ [(.out 4, .map E)], m⟩ := by
 refine run_of [103] [99, 100, 101] (H := hLv) (live := live21) (by kernel_rfl) ?_
 cases ch
 ·refine oo f1 ?_; refine oo f2 ?_; refine oo f3 ?_; refine ox h ?_
  cases c <;>
  ·exact oe (e2 rfl)
 exact oe (e1 rfl)
end
noncomputable def lvC8 : Code := rfLoop Tryz.f21 1
/-- The range and what leads to it. -/
noncomputable def lvR20 : Code := seqR (inBlk (seqL (seqR (seqR (rfLoop Tryz.f21 0)))))
def F6 (N : Nat) (i be dv : Int) (db : Bool) (l : Dat) (ln kk : Int) (a b : Nat) : Sl := (64, .ptr (.out N) 0) :: F3 i be dv db l ln kk a b
section
variable {op dst xa xb im : Int} {nm : List UInt8} {dx : Dat} {k : Int} {tn : List UInt8} {ix : Int} {dt : Dat} {ck ci : Int} {cs : List UInt8}
theorem lv_23 {N : Nat} {hp : Heap} {i be dv : Int} {db : Bool} {l : Dat} {ln kk u : Int} {a b nx : Nat} {c : Bool} {T : Exit -> AState -> Prop} (h : eqF u dv = c)
  (e1 : db = false -> LvT T ⟨(75, bv true) :: (13, iv u) :: F6 N i be dv false l ln kk a b, [(.loc 7, .cells (cX op dst xa xb im nm dx k tn ix dt ck ci cs))], hp, nx⟩)
  (e2 : db = true -> LvT T ⟨(75, bv (!c)) :: (13, iv u) :: F6 N i be dv true l ln kk a b, [(.loc 7, .cells (cX op dst xa xb im nm dx k tn ix dt ck ci cs))], hp, nx⟩) :
  LvC (seqL (seqR (inBlk (seqR (seqR lvC8))))) T ⟨(13, iv u) :: F6 N i be dv db l ln kk a b, [(.loc 7, .cells (cX op dst xa xb im nm dx k tn ix dt ck ci cs))], hp, nx⟩ := by
 refine run_of [74] [] (H := hLv) (live := live21) (by kernel_rfl) ?_
 cases db
 ·exact oe (e1 rfl)
 refine ox h ?_
 cases c <;>
 ·exact oe (e2 rfl)
theorem lv_24 {N n m : Nat} {p s : Int} {d1 d2 : Dat} {ch : Bool} {fs : List AVal} {E E2 : List (Go.Value × Dat)} {i be dv : Int} {db : Bool} {l : Dat} {ln kk u : Int} {o : Nat} {T : Exit -> AState -> Prop}
  (f1 : aIndexAddr (env Prims.fast) 91 [.win (.out 0) 1 0 n, iv i] = some ⟨.ptr (.out 0) o, .keep⟩) (f2 : aLoad (env Prims.fast) false 92 [.ptr (.out 0) o] (some (.cells fs)) = some ⟨.map (.out 4), .keep⟩)
  (f3 : aMapUpdate (env Prims.fast) 92 [.map (.out 4), iv u, bv true] (some (.map E)) = some ⟨.undef, .set (.map E2)⟩)
  (e : LvT T ⟨F6 N i be dv db l ln kk 2 3, [(.loc 7, .cells (cX op dst xa xb im nm dx k tn ix dt ck ci cs))], lvB n p s d1 d2 3 ch fs ++ [(.out 4, .map E2)], m⟩) :
  LvC (condT (seqR (seqR (inBlk (seqR (seqR lvC8)))))) T ⟨(75, bv true) :: (13, iv u) :: F6 N i be dv db l ln kk 2 3, [(.loc 7, .cells (cX op dst xa xb im nm dx k tn ix dt ck ci cs))], lvB n p s d1 d2 3 ch fs ++ [(.out 4, .map E)], m⟩ := by
 refine run_of [] [78, 79, 100079] (H := hLv) (live := live21) (by kernel_rfl) ?_; refine oo f1 ?_; refine oo f2 ?_; refine oo f3 ?_; refine ok_bool (b := true) rfl (by kernel_rfl) ?_; exact oe e
noncomputable def lvO20 : List Oper := regOps (seqL lvR20)
noncomputable def lvO21 : List Oper := regOps (seqL lvC8)
noncomputable def lvO22 : List Oper := regOps (seqL (inBlk (seqR (seqR lvC8))))
def F7 (n : Nat) (i be dv : Int) (db : Bool) (l : Dat) (ln kk j : Int) (o : Nat) (a b : Nat) : Sl := (63, .map (.out 5)) :: (62, .ptr (.out 0) o) :: (61, iv j) :: (60, .win (.out 0) 1 0 n) :: F4 i be dv db l ln kk j a b
theorem r20_pre {n N : Nat} {p s : Int} {d1 d2 : Dat} {ch : Bool} {fs : List AVal} {E E5 : List (Go.Value × Dat)} {i be dv : Int} {db : Bool} {l : Dat} {ln kk j : Int} {o : Nat}
  (f1 : aIndexAddr (env Prims.fast) 91 [.win (.out 0) 1 0 n, iv j] = some ⟨.ptr (.out 0) o, .keep⟩) (f2 : aLoad (env Prims.fast) false 92 [.ptr (.out 0) o] (some (.cells fs)) = some ⟨.map (.out 5), .keep⟩) {T : AState -> Prop}
  (h : T ((⟨F7 n i be dv db l ln kk j o 2 3, [(.loc 7, .cells (cX op dst xa xb im nm dx k tn ix dt ck ci cs))], lvB n p s d1 d2 3 ch fs ++ [(.out 4, .map E), (.out 5, .map E5)], N⟩ : FState).toA Tryz.f21.ntmps)) :
  (qops (inL []) (inL [62, 63]) (env Prims.fast) xglobs (hLv.at 20) Tryz.f21.ntmps lvO20 (lvO20.take 4) ⟨F4 i be dv db l ln kk j 2 3, [(.loc 7, .cells (cX op dst xa xb im nm dx k tn ix dt ck ci cs))], lvB n p s d1 d2 3 ch fs ++ [(.out 4, .map E), (.out 5, .map E5)], N⟩ (fun f' => Qy.fin f')).Ok Tryz.prog xglobs (fun f' => T (f'.toA Tryz.f21.ntmps)) := by
 refine oo f1 ?_; refine oo f2 ?_
 exact ok_finS (⟨F7 n i be dv db l ln kk j o 2 3, [(.loc 7, .cells (cX op dst xa xb im nm dx k tn ix dt ck ci cs))], lvB n p s d1 d2 3 ch fs ++ [(.out 4, .map E), (.out 5, .map E5)], N⟩) (by kernel_rfl) (by kernel_rfl) h
theorem app2 (a : Heap) (x y : Name × AObj) : a ++ [x, y] = (a ++ [x]) ++ [y] := by simp
theorem setM_get {f : List Int} {i : Nat} (h : i < f.length) : (setM f)[i]? = some (.int .i64 (f.getD i 0), .flat (.bool true)) := by
 unfold setM
 rw [List.getElem?_map, List.getElem?_eq_getElem h, List.getD_eq_getElem?_getD, List.getElem?_eq_getElem h]
 rfl
theorem hi2 {n m : Nat} {p s : Int} {d1 d2 : Dat} {ch : Bool} {fs : List AVal} {a b : List (Go.Value × Dat)} (h6 : 6 <= m) (hf : hiL m fs = false) : hiH m (lvB n p s d1 d2 3 ch fs ++ [(.out 4, .map a), (.out 5, .map b)]) = false := by
 have hb : ∀ q, q < 6 -> Nat.ble m q = false := by
  intro q hq
  cases e : Nat.ble m q with
  | true => have := ble_to e; omega
  | false => rfl
 simp only [lvB, lvBo, List.cons_append, List.nil_append, hiH, hiO, hiL, hiV, hb 5 (by omega), hb 4 (by omega), hb 3 (by omega), hb 2 (by omega), hb 1 (by omega), hb 0 (by omega), bv, hf, Bool.or_false, Bool.false_or]
 rfl
def dfO (db : Bool) (dv : Int) : Option Int := if db then some dv else none
theorem lv_20 {n N : Nat} {p s : Int} {d1 d2 : Dat} {ch : Bool} {fs : List AVal} {m f : List Int} {i be dv : Int} {db : Bool} {l : Dat} {ln kk j : Int} {oi oj : Nat} {T : Exit -> AState -> Prop} (h6 : 6 <= N) (hfs : hiL N fs = false) (hfl : ∀ x ∈ f, in64 x)
  (fj1 : aIndexAddr (env Prims.fast) 91 [.win (.out 0) 1 0 n, iv j] = some ⟨.ptr (.out 0) oj, .keep⟩) (fj2 : aLoad (env Prims.fast) false 92 [.ptr (.out 0) oj] (some (.cells fs)) = some ⟨.map (.out 5), .keep⟩)
  (fi1 : aIndexAddr (env Prims.fast) 91 [.win (.out 0) 1 0 n, iv i] = some ⟨.ptr (.out 0) oi, .keep⟩) (fi2 : aLoad (env Prims.fast) false 92 [.ptr (.out 0) oi] (some (.cells fs)) = some ⟨.map (.out 4), .keep⟩)
  (e : ∀ S : List Nat, (∀ i, i < f.length -> i ∈ S) -> (∀ i ∈ S, i < f.length) -> LvT T ⟨F3 i be dv db l ln kk 2 3, [(.loc 7, .cells (cX op dst xa xb im nm dx k tn ix dt ck ci cs))], lvB n p s d1 d2 3 ch fs ++ [(.out 4, .map (setM (visS (dfO db dv) m f S))), (.out 5, .map (setM f))], N⟩) :
  LvC lvR20 T ⟨F4 i be dv db l ln kk j 2 3, [(.loc 7, .cells (cX op dst xa xb im nm dx k tn ix dt ck ci cs))], lvB n p s d1 d2 3 ch fs ++ [(.out 4, .map (setM m)), (.out 5, .map (setM f))], N⟩ := by
 have key : LvC lvR20 (fun e q => e = .normal /\ ∃ S : List Nat, (∀ i, i < f.length -> i ∈ S) /\ (∀ i ∈ S, i < f.length) /\ q = (⟨(66, bv false) :: (65, .tup [bv false]) :: F6 N i be dv db l ln kk 2 3, [(.loc 7, .cells (cX op dst xa xb im nm dx k tn ix dt ck ci cs))], lvB n p s d1 d2 3 ch fs ++ [(.out 4, .map (setM (visS (dfO db dv) m f S))), (.out 5, .map (setM f))], N + 1⟩ : FState).toA Tryz.f21.ntmps)
   ⟨F4 i be dv db l ln kk j 2 3, [(.loc 7, .cells (cX op dst xa xb im nm dx k tn ix dt ck ci cs))], lvB n p s d1 d2 3 ch fs ++ [(.out 4, .map (setM m)), (.out 5, .map (setM f))], N⟩ := by
  refine acode_maprangeP (H := hLv.at 20) envF (by kernel_rfl) (by kernel_rfl) ?_
  have h4 : lvO20.drop 4 = opAt lvO20 4 :: lvO20.drop 5 := drop_opAt (by kernel_rfl)
  have h5 : lvO20.drop 5 = [] := by kernel_rfl
  have hr := rops_pre (T := fun q => q = (⟨F7 n i be dv db l ln kk j oj 2 3, [(.loc 7, .cells (cX op dst xa xb im nm dx k tn ix dt ck ci cs))], lvB n p s d1 d2 3 ch fs ++ [(.out 4, .map (setM m)), (.out 5, .map (setM f))], N⟩ : FState).toA Tryz.f21.ntmps)
   (all := lvO20) (pre := lvO20.take 4) (rest := lvO20.drop 4) (by rw [h4]; simp) (K := RBegin Tryz.prog xglobs lvO20 (seqR lvR20) (fun e q => e = .normal /\ ∃ S : List Nat, (∀ i, i < f.length -> i ∈ S) /\ (∀ i ∈ S, i < f.length) /\ q = (⟨(66, bv false) :: (65, .tup [bv false]) :: F6 N i be dv db l ln kk 2 3, [(.loc 7, .cells (cX op dst xa xb im nm dx k tn ix dt ck ci cs))], lvB n p s d1 d2 3 ch fs ++ [(.out 4, .map (setM (visS (dfO db dv) m f S))), (.out 5, .map (setM f))], N + 1⟩ : FState).toA Tryz.f21.ntmps)) (r20_pre (T := fun q => q = (⟨F7 n i be dv db l ln kk j oj 2 3, [(.loc 7, .cells (cX op dst xa xb im nm dx k tn ix dt ck ci cs))], lvB n p s d1 d2 3 ch fs ++ [(.out 4, .map (setM m)), (.out 5, .map (setM f))], N⟩ : FState).toA Tryz.f21.ntmps) fj1 fj2 rfl) ?_
  ·rw [List.take_append_drop] at hr
   exact hr
  ·rintro q rfl
   rw [h4, h5]
   show RBegin _ _ _ _ _ _ _
   refine ⟨63, 92, 3, 4, 5, setM f, lvB n p s d1 d2 3 ch fs ++ [(.out 4, .map (setM m))], by kernel_rfl, by kernel_rfl, by kernel_rfl, by kernel_rfl, ?_, ?_⟩
   ·have e1 := app2 (lvB n p s d1 d2 3 ch fs) (.out 4, .map (setM m)) (.out 5, .map (setM f))
    show (_ ++ [_, _] : Heap).Perm _
    rw [e1]
    exact List.perm_append_comm
   show GCode Tryz.prog xglobs (MIt 5 N (setM f)) (seqR lvR20) _ _ []
   refine gcode_blockP 8 (by kernel_rfl) ?_
   refine gcode_loopP (J := MIt 5 N (setM f)) (α := List Nat) (by kernel_rfl) [3, 5, 6, 7, 8, 9, 10, 54, 55, 56, 64] [7] (fun S => (⟨F6 N i be dv db l ln kk 2 3, [(.loc 7, .cells (cX op dst xa xb im nm dx k tn ix dt ck ci cs))], lvB n p s d1 d2 3 ch fs ++ [(.out 4, .map (setM (visS (dfO db dv) m f S)))], N + 1⟩ : FState).toA Tryz.f21.ntmps)
    (fun S => S) (fun S => S.Nodup /\ ∀ i ∈ S, i < f.length) (fun S => f.length - S.length) [] ⟨List.nodup_nil, by simp⟩ (by kernel_rfl) rfl ?_
   rintro S ⟨hnd, hlt⟩
   have e8 : inLoop (inBlk (seqR lvR20)) = lvC8 := by kernel_rfl
   rw [e8]
   dsimp only
   have h0 : lvO21 = opAt lvO21 0 :: lvO21.drop 1 := drop_opAt (k := 0) (by kernel_rfl)
   have h0' : lvO22 = opAt lvO22 0 :: lvO22.drop 1 := drop_opAt (k := 0) (by kernel_rfl)
   refine gcode_seqP (by kernel_rfl) (gcode_regP (H := hLv.at 21) envF (by kernel_rfl) ?_)
   suffices hg : ∀ Q : AState -> List Nat -> Prop, ((∀ i, i < f.length -> i ∈ S) -> Q ((⟨(66, bv false) :: (65, .tup [bv false]) :: F6 N i be dv db l ln kk 2 3, [(.loc 7, .cells (cX op dst xa xb im nm dx k tn ix dt ck ci cs))], lvB n p s d1 d2 3 ch fs ++ [(.out 4, .map (setM (visS (dfO db dv) m f S)))], N + 1⟩ : FState).toA Tryz.f21.ntmps) S) ->
     (∀ x, x < f.length -> x ∉ S -> Q ((⟨(66, bv true) :: (65, .tup [bv true, .undef, .undef]) :: F6 N i be dv db l ln kk 2 3, [(.loc 7, .cells (cX op dst xa xb im nm dx k tn ix dt ck ci cs))], lvB n p s d1 d2 3 ch fs ++ [(.out 4, .map (setM (visS (dfO db dv) m f S)))], N + 1⟩ : FState).toA Tryz.f21.ntmps) (x :: S)) ->
     gops Tryz.prog (env Prims.fast) xglobs (hLv.at 21) N (setM f) lvO21 Q (opAt lvO21 0 :: lvO21.drop 1) ((⟨F6 N i be dv db l ln kk 2 3, [(.loc 7, .cells (cX op dst xa xb im nm dx k tn ix dt ck ci cs))], lvB n p s d1 d2 3 ch fs ++ [(.out 4, .map (setM (visS (dfO db dv) m f S)))], N + 1⟩ : FState).toA Tryz.f21.ntmps) S by
    rw [← h0] at hg
    refine hg _ ?_ ?_
    ·intro hall
     dsimp only
     refine gcode_seqP (by kernel_rfl) (gcode_condP (t := 66) (by kernel_rfl) (b := false) (by kernel_rfl) ?_)
     have e9 : condF (seqL (seqR lvC8)) = .exit 8 := by kernel_rfl
     simp only [Bool.false_eq_true, if_false]
     rw [e9]
     refine gcode_exit (@mit_stable 5 N (setM f)) ?_
     dsimp only
     rw [if_pos rfl]
     refine ⟨lvB n p s d1 d2 3 ch fs ++ [(.out 4, .map (setM (visS (dfO db dv) m f S))), (.out 5, .map (setM f))], ?_, trivial, S, hall, hlt, rfl⟩
     rw [app2]
     exact List.perm_append_comm (l₁ := [_])
    intro x hx hxS
    dsimp only
    refine gcode_seqP (by kernel_rfl) (gcode_condP (t := 66) (by kernel_rfl) (b := true) (by kernel_rfl) ?_)
    have e9 : condT (seqL (seqR lvC8)) = .skip := by kernel_rfl
    simp only [if_true]
    rw [e9]
    refine gcode_skip (@mit_stable 5 N (setM f)) ?_
    dsimp only
    refine gcode_blockP 9 (by kernel_rfl) (gcode_seqP (by kernel_rfl) ?_)
    refine gcode_forget [3, 5, 6, 7, 8, 9, 10, 54, 55, 56, 64] [7] ?_
    have e10 : ((⟨(66, bv true) :: (65, .tup [bv true, .undef, .undef]) :: F6 N i be dv db l ln kk 2 3, [(.loc 7, .cells (cX op dst xa xb im nm dx k tn ix dt ck ci cs))], lvB n p s d1 d2 3 ch fs ++ [(.out 4, .map (setM (visS (dfO db dv) m f S)))], N + 1⟩ : FState).toA Tryz.f21.ntmps).keep [3, 5, 6, 7, 8, 9, 10, 54, 55, 56, 64] [7] = (⟨F6 N i be dv db l ln kk 2 3, [(.loc 7, .cells (cX op dst xa xb im nm dx k tn ix dt ck ci cs))], lvB n p s d1 d2 3 ch fs ++ [(.out 4, .map (setM (visS (dfO db dv) m f S)))], N + 1⟩ : FState).toA Tryz.f21.ntmps := by kernel_rfl
    rw [e10]
    refine gcode_regP (H := hLv.at 22) envF (by kernel_rfl) ?_
    generalize hu : f.getD x 0 = u
    have hux : in64 u := by
     rw [← hu, List.getD_eq_getElem?_getD, List.getElem?_eq_getElem hx]
     exact hfl _ (List.getElem_mem hx)
    suffices hg2 : ∀ Q : AState -> List Nat -> Prop, Q ((⟨(13, iv u) :: (68, iv u) :: (67, .tup [iv u, .undef]) :: F6 N i be dv db l ln kk 2 3, [(.loc 7, .cells (cX op dst xa xb im nm dx k tn ix dt ck ci cs))], lvB n p s d1 d2 3 ch fs ++ [(.out 4, .map (setM (visS (dfO db dv) m f S)))], N + 1⟩ : FState).toA Tryz.f21.ntmps) (x :: S) ->
      gops Tryz.prog (env Prims.fast) xglobs (hLv.at 22) N (setM f) lvO22 Q (opAt lvO22 0 :: lvO22.drop 1) ((⟨F6 N i be dv db l ln kk 2 3, [(.loc 7, .cells (cX op dst xa xb im nm dx k tn ix dt ck ci cs))], lvB n p s d1 d2 3 ch fs ++ [(.out 4, .map (setM (visS (dfO db dv) m f S)))], N + 1⟩ : FState).toA Tryz.f21.ntmps) (x :: S) by
     rw [← h0'] at hg2
     refine hg2 _ ?_
     dsimp only
     refine gcode_seqP (by kernel_rfl) ?_
     refine gcode_forget [3, 5, 6, 7, 8, 9, 10, 13, 54, 55, 56, 64] [7] ?_
     have e11 : ((⟨(13, iv u) :: (68, iv u) :: (67, .tup [iv u, .undef]) :: F6 N i be dv db l ln kk 2 3, [(.loc 7, .cells (cX op dst xa xb im nm dx k tn ix dt ck ci cs))], lvB n p s d1 d2 3 ch fs ++ [(.out 4, .map (setM (visS (dfO db dv) m f S)))], N + 1⟩ : FState).toA Tryz.f21.ntmps).keep [3, 5, 6, 7, 8, 9, 10, 13, 54, 55, 56, 64] [7] = (⟨(13, iv u) :: F6 N i be dv db l ln kk 2 3, [(.loc 7, .cells (cX op dst xa xb im nm dx k tn ix dt ck ci cs))], lvB n p s d1 d2 3 ch fs ++ [(.out 4, .map (setM (visS (dfO db dv) m f S)))], N + 1⟩ : FState).toA Tryz.f21.ntmps := by kernel_rfl
     rw [e11]
     have hok : (x :: S).Nodup /\ ∀ y ∈ x :: S, y < f.length := ⟨List.nodup_cons.2 ⟨hxS, hnd⟩, by
      intro y hy
      rcases List.mem_cons.1 hy with rfl | hy
      ·exact hx
      exact hlt y hy⟩
     have hμ : f.length - (x :: S).length < f.length - S.length := by
      have := List.Nodup.length_le_of_subset hok.1 (l₂ := List.range f.length) (fun y hy => List.mem_range.2 (hok.2 y hy))
      simp only [List.length_cons, List.length_range] at this ⊢
      omega
     have fin : ∀ (m2 : List Int) (sl : Sl), visS (dfO db dv) m f (x :: S) = m2 -> ((⟨sl, [(.loc 7, .cells (cX op dst xa xb im nm dx k tn ix dt ck ci cs))], lvB n p s d1 d2 3 ch fs ++ [(.out 4, .map (setM m2))], N + 1⟩ : FState).toA Tryz.f21.ntmps).keep [3, 5, 6, 7, 8, 9, 10, 54, 55, 56, 64] [7] = (⟨F6 N i be dv db l ln kk 2 3, [(.loc 7, .cells (cX op dst xa xb im nm dx k tn ix dt ck ci cs))], lvB n p s d1 d2 3 ch fs ++ [(.out 4, .map (setM m2))], N + 1⟩ : FState).toA Tryz.f21.ntmps ->
       ∃ x' : List Nat, (x'.Nodup /\ ∀ i ∈ x', i < f.length) /\ f.length - x'.length < f.length - S.length /\ ((⟨sl, [(.loc 7, .cells (cX op dst xa xb im nm dx k tn ix dt ck ci cs))], lvB n p s d1 d2 3 ch fs ++ [(.out 4, .map (setM m2))], N + 1⟩ : FState).toA Tryz.f21.ntmps).keep [3, 5, 6, 7, 8, 9, 10, 54, 55, 56, 64] [7] = (⟨F6 N i be dv db l ln kk 2 3, [(.loc 7, .cells (cX op dst xa xb im nm dx k tn ix dt ck ci cs))], lvB n p s d1 d2 3 ch fs ++ [(.out 4, .map (setM (visS (dfO db dv) m f x')))], N + 1⟩ : FState).toA Tryz.f21.ntmps /\ x :: S = x' := by
      intro m2 sl h1 h2
      exact ⟨x :: S, hok, hμ, by rw [h1]; exact h2, rfl⟩
     have hv : visS (dfO db dv) m f (x :: S) = visit (dfO db dv) (visS (dfO db dv) m f S) u := by
      show visit _ _ (f.getD x 0) = _
      rw [hu]
     generalize visS (dfO db dv) m f S = m1 at *
     have ec : ∀ b : Bool, condIs 75 (seqR (seqR (inBlk (seqR (seqR lvC8))))) = true := fun _ => by kernel_rfl
     have ecF : condF (seqR (seqR (inBlk (seqR (seqR lvC8))))) = .skip := by kernel_rfl
     refine gcode_of_acode (@mit_stable 5 N (setM f)) (lv_23 rfl ?_ ?_)
     ·intro hdb
      subst hdb
      refine gcode_condP (t := 75) (ec true) (b := true) (by kernel_rfl) ?_
      simp only [if_true]
      refine gcode_of_acode (@mit_stable 5 N (setM f)) (lv_24 fi1 fi2 (upd_map _ _ _) ?_)
      refine fin _ _ ?_ (by kernel_rfl)
      rw [hv]
      rfl
     intro hdb
     subst hdb
     cases huv : eqF u dv with
     | true =>
      refine gcode_condP (t := 75) (ec true) (b := false) (by kernel_rfl) ?_
      simp only [Bool.false_eq_true, if_false]
      rw [ecF]
      refine gcode_skip (@mit_stable 5 N (setM f)) ?_
      dsimp only
      refine fin _ _ ?_ (by kernel_rfl)
      rw [hv]
      have : u = dv := by rw [eqF_eq] at huv; simpa using huv
      subst this
      simp [visit, dfO]
     | false =>
      refine gcode_condP (t := 75) (ec true) (b := true) (by kernel_rfl) ?_
      simp only [if_true]
      refine gcode_of_acode (@mit_stable 5 N (setM f)) (lv_24 fi1 fi2 (upd_map _ _ _) ?_)
      refine fin _ _ ?_ (by kernel_rfl)
      rw [hv]
      have : dv ≠ u := by
       intro e
       subst e
       rw [eqF_self] at huv
       simp at huv
      simp [visit, dfO, this]
    intro Q hQ
    refine gops_entry 64 x (k := .int .i64 u) (d := .flat (.bool true)) (by kernel_rfl) (by kernel_rfl) (by kernel_rfl) (by rw [setM_get hx, hu]) (in64_flat hux) ?_
    have e12 : (((⟨F6 N i be dv db l ln kk 2 3, [(.loc 7, .cells (cX op dst xa xb im nm dx k tn ix dt ck ci cs))], lvB n p s d1 d2 3 ch fs ++ [(.out 4, .map (setM (visS (dfO db dv) m f S)))], N + 1⟩ : FState).toA Tryz.f21.ntmps).put (opAt lvO22 0).dst (.tup [.dat (.flat (.int .i64 u)), .undef])) = (⟨(67, .tup [iv u, .undef]) :: F6 N i be dv db l ln kk 2 3, [(.loc 7, .cells (cX op dst xa xb im nm dx k tn ix dt ck ci cs))], lvB n p s d1 d2 3 ch fs ++ [(.out 4, .map (setM (visS (dfO db dv) m f S)))], N + 1⟩ : FState).toA Tryz.f21.ntmps := by kernel_rfl
    rw [e12]
    refine gops_end (A := inL []) (B := inL []) (T := fun q => q = (⟨(13, iv u) :: (68, iv u) :: (67, .tup [iv u, .undef]) :: F6 N i be dv db l ln kk 2 3, [(.loc 7, .cells (cX op dst xa xb im nm dx k tn ix dt ck ci cs))], lvB n p s d1 d2 3 ch fs ++ [(.out 4, .map (setM (visS (dfO db dv) m f S)))], N + 1⟩ : FState).toA Tryz.f21.ntmps) (ok_finS (T := fun q => q = (⟨(13, iv u) :: (68, iv u) :: (67, .tup [iv u, .undef]) :: F6 N i be dv db l ln kk 2 3, [(.loc 7, .cells (cX op dst xa xb im nm dx k tn ix dt ck ci cs))], lvB n p s d1 d2 3 ch fs ++ [(.out 4, .map (setM (visS (dfO db dv) m f S)))], N + 1⟩ : FState).toA Tryz.f21.ntmps) (⟨(13, iv u) :: (68, iv u) :: (67, .tup [iv u, .undef]) :: F6 N i be dv db l ln kk 2 3, [(.loc 7, .cells (cX op dst xa xb im nm dx k tn ix dt ck ci cs))], lvB n p s d1 d2 3 ch fs ++ [(.out 4, .map (setM (visS (dfO db dv) m f S)))], N + 1⟩) (by kernel_rfl) (by kernel_rfl) rfl) ?_
    rintro q rfl
    exact hQ
   intro Q hQ1 hQ2
   refine gops_next 64 (by kernel_rfl) (by kernel_rfl) (by kernel_rfl) (fun hall => ?_) (fun x hx hxS => ?_)
   ·have e13 : (((⟨F6 N i be dv db l ln kk 2 3, [(.loc 7, .cells (cX op dst xa xb im nm dx k tn ix dt ck ci cs))], lvB n p s d1 d2 3 ch fs ++ [(.out 4, .map (setM (visS (dfO db dv) m f S)))], N + 1⟩ : FState).toA Tryz.f21.ntmps).put (opAt lvO21 0).dst (.tup [.dat (.flat (.bool false))])) = (⟨(65, .tup [bv false]) :: F6 N i be dv db l ln kk 2 3, [(.loc 7, .cells (cX op dst xa xb im nm dx k tn ix dt ck ci cs))], lvB n p s d1 d2 3 ch fs ++ [(.out 4, .map (setM (visS (dfO db dv) m f S)))], N + 1⟩ : FState).toA Tryz.f21.ntmps := by kernel_rfl
    rw [e13]
    refine gops_end (A := inL []) (B := inL []) (T := fun q => q = (⟨(66, bv false) :: (65, .tup [bv false]) :: F6 N i be dv db l ln kk 2 3, [(.loc 7, .cells (cX op dst xa xb im nm dx k tn ix dt ck ci cs))], lvB n p s d1 d2 3 ch fs ++ [(.out 4, .map (setM (visS (dfO db dv) m f S)))], N + 1⟩ : FState).toA Tryz.f21.ntmps) (ok_finS (T := fun q => q = (⟨(66, bv false) :: (65, .tup [bv false]) :: F6 N i be dv db l ln kk 2 3, [(.loc 7, .cells (cX op dst xa xb im nm dx k tn ix dt ck ci cs))], lvB n p s d1 d2 3 ch fs ++ [(.out 4, .map (setM (visS (dfO db dv) m f S)))], N + 1⟩ : FState).toA Tryz.f21.ntmps) (⟨(66, bv false) :: (65, .tup [bv false]) :: F6 N i be dv db l ln kk 2 3, [(.loc 7, .cells (cX op dst xa xb im nm dx k tn ix dt ck ci cs))], lvB n p s d1 d2 3 ch fs ++ [(.out 4, .map (setM (visS (dfO db dv) m f S)))], N + 1⟩) (by kernel_rfl) (by kernel_rfl) rfl) ?_
    rintro q rfl
    exact hQ1 (fun i hi => hall i (by rw [show (setM f).length = f.length from List.length_map _]; exact hi))
   have e13 : (((⟨F6 N i be dv db l ln kk 2 3, [(.loc 7, .cells (cX op dst xa xb im nm dx k tn ix dt ck ci cs))], lvB n p s d1 d2 3 ch fs ++ [(.out 4, .map (setM (visS (dfO db dv) m f S)))], N + 1⟩ : FState).toA Tryz.f21.ntmps).put (opAt lvO21 0).dst (.tup [.dat (.flat (.bool true)), .undef, .undef])) = (⟨(65, .tup [bv true, .undef, .undef]) :: F6 N i be dv db l ln kk 2 3, [(.loc 7, .cells (cX op dst xa xb im nm dx k tn ix dt ck ci cs))], lvB n p s d1 d2 3 ch fs ++ [(.out 4, .map (setM (visS (dfO db dv) m f S)))], N + 1⟩ : FState).toA Tryz.f21.ntmps := by kernel_rfl
   rw [e13]
   refine gops_end (A := inL []) (B := inL []) (T := fun q => q = (⟨(66, bv true) :: (65, .tup [bv true, .undef, .undef]) :: F6 N i be dv db l ln kk 2 3, [(.loc 7, .cells (cX op dst xa xb im nm dx k tn ix dt ck ci cs))], lvB n p s d1 d2 3 ch fs ++ [(.out 4, .map (setM (visS (dfO db dv) m f S)))], N + 1⟩ : FState).toA Tryz.f21.ntmps) (ok_finS (T := fun q => q = (⟨(66, bv true) :: (65, .tup [bv true, .undef, .undef]) :: F6 N i be dv db l ln kk 2 3, [(.loc 7, .cells (cX op dst xa xb im nm dx k tn ix dt ck ci cs))], lvB n p s d1 d2 3 ch fs ++ [(.out 4, .map (setM (visS (dfO db dv) m f S)))], N + 1⟩ : FState).toA Tryz.f21.ntmps) (⟨(66, bv true) :: (65, .tup [bv true, .undef, .undef]) :: F6 N i be dv db l ln kk 2 3, [(.loc 7, .cells (cX op dst xa xb im nm dx k tn ix dt ck ci cs))], lvB n p s d1 d2 3 ch fs ++ [(.out 4, .map (setM (visS (dfO db dv) m f S)))], N + 1⟩) (by kernel_rfl) (by kernel_rfl) rfl) ?_
   rintro q rfl
   exact hQ2 x (by rw [show (setM f).length = f.length from List.length_map _] at hx; exact hx) hxS
 refine ACode.low (ACode.keepQ [3, 5, 6, 7, 8, 9, 10, 54, 55, 56] [7] (Q' := fun e q => e = .normal /\ ∃ S : List Nat, (∀ i, i < f.length -> i ∈ S) /\ (∀ i ∈ S, i < f.length) /\ q = (⟨F3 i be dv db l ln kk 2 3, [(.loc 7, .cells (cX op dst xa xb im nm dx k tn ix dt ck ci cs))], lvB n p s d1 d2 3 ch fs ++ [(.out 4, .map (setM (visS (dfO db dv) m f S))), (.out 5, .map (setM f))], N + 1⟩ : FState).toA Tryz.f21.ntmps) key ?_) ?_
 ·rintro e q ⟨rfl, S, h1, h2, rfl⟩
  exact ⟨rfl, S, h1, h2, by kernel_rfl⟩
 rintro e q ⟨rfl, S, h1, h2, rfl⟩
 have k1 : hiL 4 ((⟨F3 i be dv db l ln kk 2 3, [(.loc 7, .cells (cX op dst xa xb im nm dx k tn ix dt ck ci cs))], lvB n p s d1 d2 3 ch fs ++ [(.out 4, .map (setM (visS (dfO db dv) m f S))), (.out 5, .map (setM f))], N + 1⟩ : FState).toA Tryz.f21.ntmps).tmps = false := by kernel_rfl
 exact ⟨hiL_mono (by show 4 <= N; omega) k1, by kernel_rfl, hi2 h6 hfs, e S h1 h2⟩
end
section
variable {op dst xa xb im : Int} {nm : List UInt8} {dx : Dat} {k : Int} {tn : List UInt8} {ix : Int} {dt : Dat} {ck ci : Int} {cs : List UInt8}
theorem fit_of {F : Nat -> Nat -> Sl} (h1 : ∀ ρ : Nat -> Nat, ρ 0 = 0 -> ρ 1 = 1 -> rnL ρ (tmL (F 2 3)) = tmL (F (ρ 2) (ρ 3))) (h2 : hiL 4 (tmL (F 2 3)) = false) : Fit F [(.loc 7, .cells (cX op dst xa xb im nm dx k tn ix dt ck ci cs))] :=
 ⟨h1, h2, fun _ => rfl, fun _ => rfl⟩
theorem fit_nil {F : Nat -> Nat -> Sl} (h1 : ∀ ρ : Nat -> Nat, ρ 0 = 0 -> ρ 1 = 1 -> rnL ρ (tmL (F 2 3)) = tmL (F (ρ 2) (ρ 3))) (h2 : hiL 4 (tmL (F 2 3)) = false) : Fit F [] := ⟨h1, h2, fun _ => rfl, fun _ => rfl⟩
theorem fit0 {i : Int} : Fit (F0 i) [(.loc 7, .cells (cX op dst xa xb im nm dx k tn ix dt ck ci cs))] := fit_of (fun ρ _ h => by
 have e : rnL ρ (tmL (F0g i 1 2 3)) = tmL (F0g i (ρ 1) (ρ 2) (ρ 3)) := by kernel_rfl
 rw [h] at e
 exact e) (by kernel_rfl)
theorem fit1 {i be : Int} : Fit (F1 i be) [(.loc 7, .cells (cX op dst xa xb im nm dx k tn ix dt ck ci cs))] := fit_of (fun ρ _ h => by
 have e : rnL ρ (tmL ((8, iv be) :: F0g i 1 2 3)) = tmL ((8, iv be) :: F0g i (ρ 1) (ρ 2) (ρ 3)) := by kernel_rfl
 rw [h] at e
 exact e) (by kernel_rfl)
theorem fit2 {i be dv : Int} {db : Bool} : Fit (F2 i be dv db) [(.loc 7, .cells (cX op dst xa xb im nm dx k tn ix dt ck ci cs))] := fit_of (fun ρ _ h => by
 have e : rnL ρ (tmL ((10, bv db) :: (9, iv dv) :: (8, iv be) :: F0g i 1 2 3)) = tmL ((10, bv db) :: (9, iv dv) :: (8, iv be) :: F0g i (ρ 1) (ρ 2) (ρ 3)) := by kernel_rfl
 rw [h] at e
 exact e) (by kernel_rfl)
theorem fit3 {i be dv : Int} {db : Bool} {l : Dat} {ln kk : Int} : Fit (F3 i be dv db l ln kk) [(.loc 7, .cells (cX op dst xa xb im nm dx k tn ix dt ck ci cs))] := fit_of (fun _ _ _ => by kernel_rfl) (by kernel_rfl)
theorem fit5 {i be : Int} {us : List Dat} {kk : Int} : Fit (F5 i be us kk) [] := fit_nil (fun _ _ _ => by kernel_rfl) (by kernel_rfl)
theorem fit5x {i be : Int} {us : List Dat} {kk : Int} : Fit (fun a b => (86, bv false) :: F5 i be us kk a b) [] := fit_nil (fun _ _ _ => by kernel_rfl) (by kernel_rfl)
theorem fitE : Fit (fun _ _ => []) [] := fit_nil (fun _ _ _ => by kernel_rfl) (by kernel_rfl)
/-- A piece that needs the one set. -/
theorem piece1 {n : Nat} {p s : Int} {d1 d2 : Dat} {c : Code} {Q : Exit -> AState -> Prop} {F F' : Nat -> Nat -> Sl} {L L' : Heap} {ch ch' : Bool} {es : List (List Int)} {i : Nat} {m m' : List Int} (hes : es.length = n) (hm : es[i]? = some m) (hF : Fit F L) (hF' : Fit F' L')
  (h : ∀ T : Exit -> AState -> Prop, LvT T ⟨F' 2 3, L', lH1 n p s d1 d2 i ch' m', 5 + n⟩ -> LvC c T ⟨F 2 3, L, lH1 n p s d1 d2 i ch m, 5 + n⟩)
  (hQ : LvT Q ⟨F' 2 (3 + n), L', lvH n p s d1 d2 ch' (es.set i m'), 4 + n⟩) : LvC c Q ⟨F 2 (3 + n), L, lvH n p s d1 d2 ch es, 4 + n⟩ :=
 view1 hes hm hF (h _ ⟨F', L', ch', m', hF', rfl, hQ⟩)
theorem nm1_i {i : Nat} : nm1 i i = 4 := by simp [nm1]
theorem nm2_i {i j : Nat} : nm2 i j i = 4 := by simp [nm2]
theorem nm2_j {i j : Nat} (h : i ≠ j) : nm2 i j j = 5 := by simp [nm2, Ne.symm h]
theorem set_same {es : List (List Int)} {i : Nat} {m : List Int} (h : es[i]? = some m) : es.set i m = es := by
 apply List.ext_getElem?
 intro j
 rw [List.getElem?_set]
 split
 ·rename_i e; subst e; rw [h]; simp [(List.getElem?_eq_some_iff.1 h).1]
 rfl
/-- The sets of the successors, one after the other. -/
theorem lv_loop6 {n : Nat} {p s : Int} {d1 d2 : Dat} {ch : Bool} {es : List (List Int)} {i : Nat} {m : List Int} {be dv : Int} {db : Bool} {js : List Nat} {Q : Exit -> AState -> Prop} (hes : es.length = n) (hm : es[i]? = some m) (hjs : ∀ j ∈ js, j < n /\ i ≠ j) (hjl : js.length <= 2) (h64 : ∀ j x, x ∈ es.getD j [] -> in64 x)
  {l : Dat} (hl : js ≠ [] -> l = .slice ((js.map Int.ofNat).map iN))
  (e : ∀ m', Grow m m' (fun x => ∃ j ∈ js, x ∈ es.getD j [] /\ dfO db dv ≠ some x) -> Q .normal ((⟨(57, bv false) :: F3 (Int.ofNat i) be dv db l (Int.ofNat js.length) (Int.ofNat js.length) 2 (3 + n), [(.loc 7, .cells (cX op dst xa xb im nm dx k tn ix dt ck ci cs))], lvH n p s d1 d2 ch (es.set i m'), 4 + n⟩ : FState).toA Tryz.f21.ntmps)) :
  LvC (seqR (seqL (seqR (seqR lvB0)))) Q ⟨F3 (Int.ofNat i) be dv db l (Int.ofNat js.length) 0 2 (3 + n), [(.loc 7, .cells (cX op dst xa xb im nm dx k tn ix dt ck ci cs))], lvH n p s d1 d2 ch es, 4 + n⟩ := by
 have hi : i < n := by rw [← hes]; exact (List.getElem?_eq_some_iff.1 hm).1
 refine acode_blockP 6 (by kernel_rfl) ?_
 have el : inLoop (inBlk (seqR (seqL (seqR (seqR lvB0))))) = rfLoop Tryz.f21 0 := by kernel_rfl
 refine acode_loopP (α := Nat × List Int) (by kernel_rfl) (fun x => (⟨F3 (Int.ofNat i) be dv db l (Int.ofNat js.length) (Int.ofNat x.1) 2 (3 + n), [(.loc 7, .cells (cX op dst xa xb im nm dx k tn ix dt ck ci cs))], lvH n p s d1 d2 ch (es.set i x.2), 4 + n⟩ : FState).toA Tryz.f21.ntmps)
  (fun x => x.1 <= js.length /\ Grow m x.2 (fun y => ∃ j ∈ js.take x.1, y ∈ es.getD j [] /\ dfO db dv ≠ some y)) (fun x => js.length - x.1) (0, m) ⟨Nat.zero_le _, (grow_refl m).congr fun y => by simp⟩ (by rw [set_same hm]; rfl) ?_
 rintro ⟨kk, m1⟩ ⟨hk, hg⟩
 rw [el]
 dsimp only at hk hg ⊢
 by_cases hlt : kk < js.length
 ·have hgk : js[kk]? = some js[kk] := List.getElem?_eq_getElem hlt
  have hjm := List.getElem_mem hlt
  have htk : js.take (kk + 1) = js.take kk ++ [js[kk]] := by rw [List.take_add_one, hgk]; rfl
  generalize js[kk] = j at hgk hjm htk
  obtain ⟨hjn, hij⟩ := hjs j hjm
  have hne : js ≠ [] := by intro h; subst h; simp at hlt
  obtain rfl := hl hne
  have hes1 : (es.set i m1).length = n := by rw [List.length_set]; exact hes
  have hm1 : (es.set i m1)[i]? = some m1 := by rw [List.getElem?_set]; simp [hes, hi]
  obtain ⟨f, hf⟩ : ∃ f, es[j]? = some f := ⟨_, List.getElem?_eq_getElem (by rw [hes]; exact hjn)⟩
  have hfD : es.getD j [] = f := by rw [List.getD_eq_getElem?_getD, hf]; rfl
  have hf1 : (es.set i m1)[j]? = some f := by rw [List.getElem?_set, if_neg hij]; exact hf
  refine view2 hij hes1 hm1 hf1 fit3 ?_
  have c1 : condT (seqL (seqR (rfLoop Tryz.f21 0))) = .skip := by kernel_rfl
  refine acode_seqP (by kernel_rfl) (lv_18 (ltF_yes hlt) ?_)
  refine acode_seqP (by kernel_rfl) (acode_condP (t := 57) (by kernel_rfl) (b := true) (by kernel_rfl) ?_)
  simp only [if_true]
  rw [c1]
  refine acode_here wpR_skip ?_
  dsimp only
  refine acode_seqP (by kernel_rfl) (acode_blockP 7 (by kernel_rfl) (acode_seqP (by kernel_rfl) (lv_19 (j := Int.ofNat j) ?_ ?_)))
  ·exact idxI (by rw [List.getElem?_map, hgk]; rfl)
  dsimp only
  refine lv_20 (oi := i) (oj := j) (by omega) ?_ ?_ (ixw_maps hjn) (ld_row (by rw [row_get hjn, nm2_j hij])) (ixw_maps hi) (ld_row (by rw [row_get hi, nm2_i])) ?_
  ·refine hiL_row ?_
   intro q hq
   unfold nm2
   split
   ·omega
   split <;> omega
  ·intro x hx
   exact h64 j x (by rw [hfD]; exact hx)
  intro S h1 h2
  refine lv_25 ?_
  have hw : wrapF .i64 (Int.ofNat kk + 1) = Int.ofNat (kk + 1) := wrap_of (by omega)
  rw [hw]
  refine ⟨_, _, _, visS (dfO db dv) m1 f S, fit3, rfl, ?_⟩
  refine ⟨(kk + 1, visS (dfO db dv) m1 f S), ⟨hlt, (hg.trans (grow_vis_all h1 h2)).congr fun y => ?_⟩, by dsimp only; omega, by rw [List.set_set]⟩
  rw [htk]
  simp only [List.mem_append, List.mem_singleton]
  constructor
  ·rintro (⟨q, h3, h4⟩ | ⟨h3, h4⟩)
   ·exact ⟨q, .inl h3, h4⟩
   exact ⟨j, .inr rfl, by rw [hfD]; exact h3, h4⟩
  rintro ⟨q, h3 | rfl, h4, h5⟩
  ·exact .inl ⟨q, h3, h4, h5⟩
  exact .inr ⟨by rw [← hfD]; exact h4, h5⟩
 have : kk = js.length := by omega
 subst this
 refine lv_6x (ltF_no hlt) ?_
 unfold seqQ
 dsimp only
 rw [if_pos rfl]
 refine e m1 (hg.congr fun y => ?_)
 rw [List.take_length]
/-- What the instruction reads. -/
theorem lv_loop10 {n : Nat} {p s : Int} {d1 d2 : Dat} {ch : Bool} {es : List (List Int)} {i : Nat} {m : List Int} {be : Int} {us : List Int} {Q : Exit -> AState -> Prop} (hes : es.length = n) (hm : es[i]? = some m) (hul : us.length < 1000000000)
  (e : ∀ m', Grow m m' (fun x => x ∈ us) -> Q .normal ((⟨(86, bv false) :: F5 (Int.ofNat i) be (us.map iN) (Int.ofNat us.length) 2 (3 + n), [], lvH n p s d1 d2 ch (es.set i m'), 4 + n⟩ : FState).toA Tryz.f21.ntmps)) :
  LvC (seqR (seqL (seqR (seqR (seqR lvB0))))) Q ⟨F5 (Int.ofNat i) be (us.map iN) 0 2 (3 + n), [], lvH n p s d1 d2 ch es, 4 + n⟩ := by
 have hi : i < n := by rw [← hes]; exact (List.getElem?_eq_some_iff.1 hm).1
 refine acode_blockP 10 (by kernel_rfl) ?_
 have el : inLoop (inBlk (seqR (seqL (seqR (seqR (seqR lvB0)))))) = rfLoop Tryz.f21 2 := by kernel_rfl
 refine acode_loopP (α := Nat × List Int) (by kernel_rfl) (fun x => (⟨F5 (Int.ofNat i) be (us.map iN) (Int.ofNat x.1) 2 (3 + n), [], lvH n p s d1 d2 ch (es.set i x.2), 4 + n⟩ : FState).toA Tryz.f21.ntmps)
  (fun x => x.1 <= us.length /\ Grow m x.2 (fun y => y ∈ us.take x.1)) (fun x => us.length - x.1) (0, m) ⟨Nat.zero_le _, (grow_refl m).congr fun y => by simp⟩ (by rw [set_same hm]; rfl) ?_
 rintro ⟨kk, m1⟩ ⟨hk, hg⟩
 rw [el]
 dsimp only at hk hg ⊢
 have hlen : (us.map iN).length = us.length := List.length_map _
 by_cases hlt : kk < us.length
 ·have hgk : us[kk]? = some us[kk] := List.getElem?_eq_getElem hlt
  have htk : us.take (kk + 1) = us.take kk ++ [us[kk]] := by rw [List.take_add_one, hgk]; rfl
  generalize us[kk] = u at hgk htk
  have hes1 : (es.set i m1).length = n := by rw [List.length_set]; exact hes
  have hm1 : (es.set i m1)[i]? = some m1 := by rw [List.getElem?_set]; simp [hes, hi]
  refine piece1 (ch' := ch) (m' := addK m1 u) hes1 hm1 fit5 (F' := F5 (Int.ofNat i) be (us.map iN) (Int.ofNat (kk + 1))) fit5 (fun T hT => ?_) ?_
  ·have hw : wrapF .i64 (Int.ofNat kk + 1) = Int.ofNat (kk + 1) := wrap_of (by omega)
   rw [← hw] at hT
   exact lv_10 (o := i) (ltF_yes (by rw [hlen]; exact hlt)) (idxI hgk) (ixw_maps hi) (ld_row (by rw [row_get hi, nm1_i])) (upd_map _ _ _) hT
  refine ⟨(kk + 1, addK m1 u), ⟨hlt, (hg.trans (grow_addK m1 u)).congr fun y => ?_⟩, by dsimp only; omega, by rw [List.set_set]⟩
  rw [htk]
  simp
 have : kk = us.length := by omega
 subst this
 refine lv_10x (ltF_no (by rw [hlen]; exact hlt)) ?_
 unfold seqQ
 dsimp only
 rw [if_pos rfl]
 refine e m1 (hg.congr fun y => ?_)
 rw [List.take_length]
end
def suL (ins : List Ins) (i : Nat) : List Nat := succN ins i
def usL (ins : List Ins) (i : Nat) : List Int := match ins[i]? with | some x => usI x | none => []
def dfL (ins : List Ins) (i : Nat) : Option Int := match ins[i]? with | some x => dfI x | none => none
/-- What is asked of the instructions. -/
structure LvIns (ins : List Ins) : Prop where
 ok : okIns ins
 pos : ins ≠ []
 len : ins.length < 1000000
 args : ∀ x ∈ ins, x.ar.length < 1000000
 self : ∀ i, i < ins.length -> i ∉ succN ins i
 u64 : ∀ x ∈ univ ins.length (usL ins), in64 x
 ulen : (univ ins.length (usL ins)).length < 1000000000
abbrev LvS (ins : List Ins) (es : List (List Int)) : Prop := LOk ins.length (suL ins) (usL ins) (dfL ins) es
theorem eq_len {m m' : List Int} {be : Int} (h : be = Int.ofNat m.length) : (!eqF (Int.ofNat m'.length) be) = decide (m'.length ≠ m.length) := by
 subst h
 rw [eqF_of]
 by_cases h : m'.length = m.length <;> simp [h]
theorem suL_lt {ins : List Ins} : ∀ i, i < ins.length -> ∀ j ∈ suL ins i, j < ins.length := fun i hi j hj => (grOf ins).lt i hi j hj
theorem univ_len {us : Nat -> List Int} {n i : Nat} (h : i < n) : (us i).length <= (univ n us).length := by
 induction n with
 | zero => omega
 | succ n ih =>
  unfold univ at ih ⊢
  rw [List.range_succ, List.flatMap_append, List.length_append]
  by_cases hi : i < n
  ·have := ih hi; omega
  have : i = n := by omega
  subst this
  simp
theorem lv_body {ins : List Ins} {p s : Int} {d2 : Dat} (g2 : SlD d2) (hI : LvIns ins) {ch : Bool} {es : List (List Int)} (hok : LvS ins es) {i : Nat} {op dst xa xb im : Int} {nm : List UInt8} {az : Bool} {ar : List Int} {k : Int} {tn : List UInt8} {ix : Int} {la : List Ty} {ck ci : Int} {cs : List UInt8} (hx : ins[i]? = some ⟨op, dst, xa, xb, im, nm, az, ar, ⟨k, tn, ix, la⟩, ck, ci, cs⟩)
  {Q : Exit -> AState -> Prop} (hQ : ∀ m', Grow (es.getD i []) m' (Just (suL ins) (usL ins) (dfL ins) es i) -> LvT Q ⟨[], [], lvH ins.length p s (.slice (encI ins)) d2 (ch || decide (m'.length ≠ (es.getD i []).length)) (es.set i m'), 4 + ins.length⟩) :
  LvC (rfBody Tryz.f21) Q ⟨F0 (Int.ofNat i) 2 (3 + ins.length), [(.loc 7, .cells (cX op dst xa xb im nm (sx az (ar.map iN)) k tn ix (sl (encL la)) ck ci cs))], lvH ins.length p s (.slice (encI ins)) d2 ch es, 4 + ins.length⟩ := by
 have g3 := slD_sx az (ar.map iN)
 have g4 := slD_sl (encL la)
 have hi : i < ins.length := (List.getElem?_eq_some_iff.1 hx).1
 have hmem : (⟨op, dst, xa, xb, im, nm, az, ar, ⟨k, tn, ix, la⟩, ck, ci, cs⟩ : Ins) ∈ ins := List.mem_of_getElem? hx
 have hes := hok.len
 obtain ⟨m, hm⟩ : ∃ m, es[i]? = some m := ⟨_, List.getElem?_eq_getElem (by rw [hes]; exact hi)⟩
 have hmD : es.getD i [] = m := by rw [List.getD_eq_getElem?_getD, hm]; rfl
 rw [hmD] at hQ
 have hml : m.length <= lim := by
  have h1 := hok.len_le i
  have h2 := hI.ulen
  rw [hmD] at h1
  simp only [lim]; omega
 have hfi1 := @ixw_maps (.out 0) _ _ hi
 have hfi2 : aLoad (env Prims.fast) false _ [.ptr (.out 0) i] (some (.cells (lvRow (nm1 i) ins.length))) = some ⟨.map (.out 4), .keep⟩ := ld_row (by rw [row_get hi, nm1_i])
 have hdef : Calls1 22 [.dat (insD op dst xa xb im nm (sx az (ar.map iN)) k tn ix (sl (encL la)) ck ci cs)] (.tup [iv (dvB (shO (shpI op)).dst dst), bv (shO (shpI op)).dst]) := c_Def ⟨op, dst, xa, xb, im, nm, az, ar, ⟨k, tn, ix, la⟩, ck, ci, cs⟩
 have huse := c_Uses ⟨op, dst, xa, xb, im, nm, az, ar, ⟨k, tn, ix, la⟩, ck, ci, cs⟩ (hI.args _ hmem)
 have hnx := c_next (p := p) (sl := s) g2 hx (by have := hI.len; omega)
 rw [← succN_eq hI.ok hx] at hnx
 have husl : usL ins i = usI ⟨op, dst, xa, xb, im, nm, az, ar, ⟨k, tn, ix, la⟩, ck, ci, cs⟩ := by unfold usL; rw [hx]
 have hdfl : dfL ins i = dfO (shO (shpI op)).dst (dvB (shO (shpI op)).dst dst) := by
  unfold dfL
  rw [hx]
  show dfI _ = _
  unfold dfI dfO
  cases h : (shO (shpI op)).dst with
  | true => simp [h, dvB]
  | false => simp [h]
 have hjl := succN_len ins i
 have hjs : ∀ j ∈ succN ins i, j < ins.length /\ i ≠ j := fun j hj => ⟨(grOf ins).lt i hi j hj, fun e => hI.self i hi (e ▸ hj)⟩
 have h64 : ∀ j x, x ∈ es.getD j [] -> in64 x := fun j x hx => hI.u64 x (hok.sub j x hx)
 have hul : (usI ⟨op, dst, xa, xb, im, nm, az, ar, ⟨k, tn, ix, la⟩, ck, ci, cs⟩).length < 1000000000 := by
  refine Nat.lt_of_le_of_lt ?_ hI.ulen
  rw [← husl]
  exact univ_len hi
 generalize hus : usI ⟨op, dst, xa, xb, im, nm, az, ar, ⟨k, tn, ix, la⟩, ck, ci, cs⟩ = us at *
 generalize hdb : (shO (shpI op)).dst = db at *
 generalize hdv : dvB db dst = dv at *
 have huse : Calls1 24 [.dat (insD op dst xa xb im nm (sx az (ar.map iN)) k tn ix (sl (encL la)) ck ci cs)] (.dat (.slice (us.map iN))) := huse
 refine acode_blockP 5 (by kernel_rfl) ?_
 show LvC lvB0 _ _
 refine acode_seqP (by kernel_rfl) (piece1 (ch' := ch) (m' := m) (F' := F1 (Int.ofNat i) (Int.ofNat m.length)) hes hm fit0 fit1 (fun T hT => lv_15 hfi1 hfi2 (len_map hml) hT) ?_)
 rw [set_same hm]
 refine acode_seqP (by kernel_rfl) (lv_16 g3 g4 hdef ?_)
 refine acode_seqP (by kernel_rfl) ?_
 have tail : ∀ (l : Dat) (m1 : List Int), Grow m m1 (fun x => ∃ j ∈ succN ins i, x ∈ es.getD j [] /\ dfO db dv ≠ some x) ->
   LvC (seqR (seqR (seqR lvB0))) (fun e s' => match e with | .normal => Q .normal s' | .exit i => if i = 5 then Q .normal s' else Q (.exit i) s' | e => Q e s') ⟨(57, bv false) :: F3 (Int.ofNat i) (Int.ofNat m.length) dv db l (Int.ofNat (succN ins i).length) (Int.ofNat (succN ins i).length) 2 (3 + ins.length), [(.loc 7, .cells (cX op dst xa xb im nm (sx az (ar.map iN)) k tn ix (sl (encL la)) ck ci cs))], lvH ins.length p s (.slice (encI ins)) d2 ch (es.set i m1), 4 + ins.length⟩ := by
  intro l m1 hg1
  have hes1 : (es.set i m1).length = ins.length := by rw [List.length_set]; exact hes
  have hm1 : (es.set i m1)[i]? = some m1 := by rw [List.getElem?_set]; simp [hes, hi]
  refine acode_seqP (by kernel_rfl) (acode_seqP (by kernel_rfl) (lv_26 g3 g4 huse ?_))
  refine lv_loop10 hes1 hm1 hul ?_
  intro m2 hg2
  dsimp only
  rw [List.set_set]
  have hg : Grow m m2 (Just (suL ins) (usL ins) (dfL ins) es i) := (hg1.trans hg2).congr fun x => by
   unfold Just
   rw [husl, hdfl]
   constructor
   ·rintro (h | h)
    ·exact .inr h
    exact .inl h
   rintro (h | h)
   ·exact .inr h
   exact .inl h
  have hok2 : LvS ins (es.set i m2) := hok.set suL_lt hi (by rw [hmD]; exact hg)
  have hm2l : m2.length <= lim := by
   have h1 := hok2.len_le i
   have h2 := hI.ulen
   rw [getD_set (by rw [hes]; exact hi), if_pos rfl] at h1
   simp only [lim]; omega
  have hes2 : (es.set i m2).length = ins.length := by rw [List.length_set]; exact hes
  have hm2 : (es.set i m2)[i]? = some m2 := by rw [List.getElem?_set]; simp [hes, hi]
  have hq := hQ m2 hg
  rw [← eq_len (m := m) (m' := m2) rfl] at hq
  cases ch
  ·refine piece1 (ch' := !eqF (Int.ofNat m2.length) (Int.ofNat m.length)) (m' := m2) (F := fun a b => (86, bv false) :: F5 (Int.ofNat i) (Int.ofNat m.length) (us.map iN) (Int.ofNat us.length) a b) (F' := fun _ _ => []) hes2 hm2 fit5x fitE (fun T hT => lv_31 hfi1 hfi2 (len_map hm2l) rfl (fun h => by simp at h) (fun _ => hT)) ?_
   rw [set_same hm2]
   exact hq
  refine piece1 (ch' := true) (m' := m2) (F := fun a b => (86, bv false) :: F5 (Int.ofNat i) (Int.ofNat m.length) (us.map iN) (Int.ofNat us.length) a b) (F' := fun _ _ => []) hes2 hm2 fit5x fitE (fun T hT => lv_31 hfi1 hfi2 (len_map hm2l) rfl (fun _ => hT) (fun h => by simp at h)) ?_
  rw [set_same hm2]
  exact hq
 by_cases hne : succN ins i = []
 ·have e0 : Int.ofNat (succN ins i).length = 0 := by rw [hne]; rfl
  have hnx0 := hnx
  rw [hne] at hnx0
  refine acode_seqP (by kernel_rfl) (piece1 (ch' := ch) (m' := m) (F' := F3 (Int.ofNat i) (Int.ofNat m.length) dv db nl (Int.ofNat (succN ins i).length) 0) hes hm fit2 fit3 (fun T hT => by
   rw [e0] at hT
   exact lv_17n (.inr ⟨_, rfl⟩) g2 hnx0 hT) ?_)
  rw [set_same hm]
  exact lv_loop6 hes hm hjs hjl h64 (fun h => absurd hne h) (fun m1 h1 => tail nl m1 h1)
 have hsl : sl (((succN ins i).map Int.ofNat).map iN) = .slice (((succN ins i).map Int.ofNat).map iN) := by
  cases hq : succN ins i with
  | nil => exact absurd hq hne
  | cons a r => rfl
 rw [hsl] at hnx
 have hlen : (((succN ins i).map Int.ofNat).map iN).length = (succN ins i).length := by simp
 refine acode_seqP (by kernel_rfl) (piece1 (ch' := ch) (m' := m) (F' := F3 (Int.ofNat i) (Int.ofNat m.length) dv db (.slice (((succN ins i).map Int.ofNat).map iN)) (Int.ofNat (((succN ins i).map Int.ofNat).map iN).length) 0) hes hm fit2 fit3 (fun T hT => lv_17s (.inr ⟨_, rfl⟩) g2 hnx hT) ?_)
 rw [set_same hm, hlen]
 exact lv_loop6 hes hm hjs hjl h64 (fun _ => rfl) (fun m1 h1 => tail _ m1 h1)
/-- The slots at the range. -/
def FR (es : List Dat) (a b : Nat) : Sl := [(39, fn39 es), (5, .ptr (.out b) 0), (3, .ptr (.out a) 0), (1, .ptr (.out 1) 0)]
theorem lv_round {ins : List Ins} {p s : Int} {d2 : Dat} (g2 : SlD d2) (hI : LvIns ins) {es0 : List (List Int)} {hp0 : Heap} {nx0 : Nat} {k : Nat} (hk : k < ins.length) {x : Ins} (hx : ins[k]? = some x) {hp : Heap} {nx : Nat}
  (h : ∃ es ch, hp = lvH ins.length p s (.slice (encI ins)) d2 ch es /\ nx = 4 + ins.length /\ LPass ins.length (suL ins) (usL ins) (dfL ins) es0 es (k + 1) ch) :
  Round Tryz.prog xglobs [40, 41] (rfAsn Tryz.f21) (rfBody Tryz.f21) (seenL ((⟨FR (encI ins) 2 (3 + ins.length), [], hp0, nx0⟩ : FState).toA Tryz.f21.ntmps).tmps) [iv (Int.ofNat k), .dat x.enc] hp nx
   (fun hp nx => ∃ es ch, hp = lvH ins.length p s (.slice (encI ins)) d2 ch es /\ nx = 4 + ins.length /\ LPass ins.length (suL ins) (usL ins) (dfL ins) es0 es k ch) := by
 obtain ⟨es, ch, rfl, rfl, hP⟩ := h
 obtain ⟨op, dst, xa, xb, im, nm, az, ar, ⟨xk, tn, ix, la⟩, ck, ci, cs⟩ := x
 have g3 := slD_sx az (ar.map iN)
 have g4 := slD_sl (encL la)
 have e0 : setPs [40, 41] [iv (Int.ofNat k), .dat (insD op dst xa xb im nm (sx az (ar.map iN)) xk tn ix (sl (encL la)) ck ci cs)] (seenL ((⟨FR (encI ins) 2 (3 + ins.length), [], hp0, nx0⟩ : FState).toA Tryz.f21.ntmps).tmps) = tmL (F00 (encI ins) (Int.ofNat k) (insD op dst xa xb im nm (sx az (ar.map iN)) xk tn ix (sl (encL la)) ck ci cs) 2 (3 + ins.length)) := by kernel_rfl
 show ACode _ _ _ _ (⟨setPs [40, 41] [iv (Int.ofNat k), .dat (insD op dst xa xb im nm (sx az (ar.map iN)) xk tn ix (sl (encL la)) ck ci cs)] _, [], _, _⟩ : AState)
 rw [e0]
 show LvC _ _ ⟨F00 (encI ins) (Int.ofNat k) (insD op dst xa xb im nm (sx az (ar.map iN)) xk tn ix (sl (encL la)) ck ci cs) 2 (3 + ins.length), [], lvH ins.length p s (.slice (encI ins)) d2 ch es, 4 + ins.length⟩
 refine lv_asn g3 g4 ?_
 refine ⟨rfl, lv_body g2 hI hP.ok hx ?_⟩
 intro m' hg
 exact ⟨rfl, _, _, rfl, rfl, hP.round suL_lt hk hg⟩
theorem idx_ins {ins : List Ins} {k : Nat} {x : Ins} (hx : ins[k]? = some x) : ∃ cs, aIndexAddr (env Prims.fast) 23 [.dat (.slice (encI ins)), iv (Int.ofNat k)] = some ⟨.ref cs, .keep⟩ /\ aLoad (env Prims.fast) false 45 [.ref cs] none = some ⟨.dat x.enc, .keep⟩ := by
 have h := idxIn hx
 obtain ⟨op, dst, a, b, im, nm, az, ar, ⟨xk, tn, ix, la⟩, ck, ci, cs⟩ := x
 exact ⟨_, h, ld_insR false (slD_sx az (ar.map iN)) (slD_sl (encL la))⟩
/-- One pass over all instructions. -/
theorem lv_pass {ins : List Ins} {p s : Int} {d2 : Dat} (g2 : SlD d2) (hI : LvIns ins) {es : List (List Int)} (hok : LvS ins es) {L : Heap} {Q : Exit -> AState -> Prop}
  (hQ : ∀ es' ch', LPass ins.length (suL ins) (usL ins) (dfL ins) es es' 0 ch' -> LvT Q ⟨FR (encI ins) 2 (3 + ins.length), L, lvH ins.length p s (.slice (encI ins)) d2 ch' es', 4 + ins.length⟩) :
  MCode Tryz.prog xglobs (.rangeFunc (.tmp 39) #[40, 41] (rfAsn Tryz.f21) (rfBody Tryz.f21)) Q ((⟨FR (encI ins) 2 (3 + ins.length), L, lvH ins.length p s (.slice (encI ins)) d2 false es, 4 + ins.length⟩ : FState).toA Tryz.f21.ntmps) := by
 refine mcode_range (gf := 89) (captured := [.ref [.slice (encI ins)]]) envF (K := fun hp nx => ∃ es' ch', hp = lvH ins.length p s (.slice (encI ins)) d2 ch' es' /\ nx = 4 + ins.length /\ LPass ins.length (suL ins) (usL ins) (dfL ins) es es' 0 ch')
  Tryz.func89 (ci := bodyOf Tryz.f89) (by kernel_rfl) (by kernel_rfl) (by kernel_rfl) (by kernel_rfl) ?_ ?_
 ·intro l rec h1 h2 h3 h4 h5
  have hlen : (encI ins).length = ins.length := encI_length ins
  refine back_icode (fun k hp nx => ∃ es' ch', hp = lvH ins.length p s (.slice (encI ins)) d2 ch' es' /\ nx = 4 + ins.length /\ LPass ins.length (suL ins) (usL ins) (dfL ins) es es' k ch') h1 h2 (by rw [h3]; rfl) (by rw [hlen]; have := hI.len; omega) ?_ ?_
  ·intro k hk
   rw [hlen] at hk
   have hx : ins[k]? = some ins[k] := List.getElem?_eq_getElem hk
   generalize ins[k] = x at hx
   obtain ⟨cs, k1, k2⟩ := idx_ins hx
   refine ⟨cs, x.enc, k1, k2, ?_⟩
   intro hp nx hh
   rw [h3, h4, h5]
   exact lv_round (hp0 := lvH ins.length p s (.slice (encI ins)) d2 false es) (nx0 := 4 + ins.length) g2 hI hk hx hh
  rw [hlen]
  exact ⟨es, false, rfl, rfl, lpass_start hok⟩
 ·rintro hp nx ⟨es', ch', rfl, rfl, hP⟩
  exact hQ es' ch' hP
section
variable {n : Nat} {p s : Int} {d1 d2 : Dat} {T : Exit -> AState -> Prop}
theorem lv_p0 (g1 : SlD d1) (g2 : SlD d2) (e : LvT T ⟨[(1, .ptr (.loc 1) 0)], [(.loc 1, .cells (cC p s d1 d2))], [], 0⟩) :
  LvC (partL Tryz.f21 0) T ⟨slOf 0 [.dat (codeD p s d1 d2)], [], [], 0⟩ := by
 have q1 := bx_code (p := p) (s := s) g1 g2
 clear g1 g2
 refine run_of [] [1] (H := hLv) (live := live21) (by kernel_rfl) ?_; refine oo q1 ?_; exact oe e
theorem lv_p1 (g1 : SlD d1) (g2 : SlD d2) (h0 : Calls1 13 [.dat (codeD p s d1 d2)] (iv 0)) (e : LvT T ⟨[(21, bv false), (1, .ptr (.loc 1) 0)], [(.loc 1, .cells (cC p s d1 d2))], [], 0⟩) :
  LvC (partL Tryz.f21 1) T ⟨[(1, .ptr (.loc 1) 0)], [(.loc 1, .cells (cC p s d1 d2))], [], 0⟩ := by
 have q3 := ld_code false 1 (p := p) (s := s) g1 g2
 clear g1 g2
 refine run_of [] [19] (H := hLv) (live := live21) (by kernel_rfl) ?_; refine oo q3 ?_; refine on h0 ?_; exact oe e
theorem lv_p2 {es : List Dat} {fs0 : List AVal} (h1 : aMakeSlice (env Prims.fast) 91 [iv (Int.ofNat es.length), iv (Int.ofNat es.length)] = some ⟨.undef, .grow (.cells fs0) 1 n⟩) (h2 : noLocO (.cells fs0) = true)
  (e : LvT T ⟨[(3, .ptr (.loc 3) 0), (1, .ptr (.loc 1) 0)], [(.loc 3, .cells [.win (.out 0) 1 0 n]), (.loc 1, .cells (cC p s (.slice es) d2))], [(.out 0, .cells fs0)], 1⟩) :
  LvC (partL Tryz.f21 2) T ⟨[(21, bv false), (1, .ptr (.loc 1) 0)], [(.loc 1, .cells (cC p s (.slice es) d2))], [], 0⟩ := by
 refine run_of [500025] [25] (H := hLv) (live := live21) (by kernel_rfl) ?_; refine oo h1 ?_; refine ob h2 ?_; exact oe e
/-- The objects without the set's and the flag's. -/
def lvA (n : Nat) (p s : Int) (d1 d2 : Dat) (fs : List AVal) : Heap := [(.out 2, .cells [.win (.out 0) 1 0 n]), (.out 1, .cells (cC p s d1 d2)), (.out 0, .cells fs)]
def FM (n : Nat) (k : Int) : Sl := [(28, iv k), (27, iv (Int.ofNat n)), (3, .ptr (.out 2) 0), (1, .ptr (.out 1) 0)]
theorem lv_p3 {fs0 : List AVal} (f3 : aLen (env Prims.fast) 91 [.win (.out 0) 1 0 n] none = some ⟨iv (Int.ofNat n), .keep⟩)
  (e : LvT T ⟨FM n 0, [], lvA n p s d1 d2 fs0, 3⟩) :
  LvC (seqL (partL Tryz.f21 3)) T ⟨[(3, .ptr (.loc 3) 0), (1, .ptr (.loc 1) 0)], [(.loc 3, .cells [.win (.out 0) 1 0 n]), (.loc 1, .cells (cC p s d1 d2))], [(.out 0, .cells fs0)], 1⟩ := by
 refine run_of [] [27] (H := hLv) (live := live21) (by kernel_rfl) ?_; refine oo f3 ?_; exact oe e
theorem lv_mk {m : Nat} {fs fs2 : List AVal} {kk : Int} {o : Nat} (h : ltF kk (Int.ofNat n) = true)
  (f1 : aIndexAddr (env Prims.fast) 91 [.win (.out 0) 1 0 n, iv kk] = some ⟨.ptr (.out 0) o, .keep⟩) (f2 : aStore (env Prims.fast) 92 [.ptr (.out 0) o, .map (.out (m + 3))] (some (.cells fs)) = some ⟨.undef, .set (.cells fs2)⟩) (h2 : noLocO (.cells fs2) = true)
  (e : LvT T ⟨FM n (wrapF .i64 (kk + 1)), [], (.out (m + 3), .map []) :: lvA n p s d1 d2 fs2, m + 3 + 1⟩) :
  LvC (roundOf Tryz.f21 0) T ⟨FM n kk, [], lvA n p s d1 d2 fs, m + 3⟩ := by
 refine run_of [29, 600034] [34, 100034] (H := hLv) (live := live21) (by kernel_rfl) ?_; refine ob h ?_; refine oo f1 ?_; refine oo f2 ?_; refine ob h2 ?_; exact oe e
theorem lv_mkx {hp : Heap} {nx : Nat} {kk : Int} (h : ltF kk (Int.ofNat n) = false)
  (e : T (.exit 0) ((⟨(29, bv false) :: FM n kk, [], hp, nx⟩ : FState).toA Tryz.f21.ntmps)) :
  LvC (roundOf Tryz.f21 0) T ⟨FM n kk, [], hp, nx⟩ := by
 refine run_of [29] [] (H := hLv) (live := live21) (by kernel_rfl) ?_; refine ob h ?_; exact oe e
/-! ### The sweep -/
def Fsl : Sl := [(5, .ptr (.loc 5) 0), (3, .ptr (.out 2) 0), (1, .ptr (.out 1) 0)]
theorem lv_9 {hp : Heap} {nx : Nat} {kk : Int} (e : LvT T ⟨Fsl, [(.loc 5, .cells [bv true])], hp, nx⟩) :
  LvC (seqL (partL Tryz.f21 4)) T ⟨(29, bv false) :: FM n kk, [], hp, nx⟩ := by
 refine run_of [] [] (H := hLv) (live := live21) (by kernel_rfl) ?_; exact oe e
theorem lv_r10 {hp : Heap} {nx : Nat} {ch : Bool} (e : LvT T ⟨(36, bv ch) :: Fsl, [(.loc 5, .cells [bv ch])], hp, nx⟩) :
  LvC (seqL (seqL (roundOf Tryz.f21 1))) T ⟨Fsl, [(.loc 5, .cells [bv ch])], hp, nx⟩ := by
 refine run_of [] [] (H := hLv) (live := live21) (by kernel_rfl) ?_; exact oe e
theorem lv_r11 {hp : Heap} {nx : Nat} {ch : Bool} (e : LvT T ⟨Fsl, [(.loc 5, .cells [bv false])], hp, nx⟩) :
  LvC (seqL (inBlk (seqL (seqR (roundOf Tryz.f21 1))))) T ⟨(36, bv true) :: Fsl, [(.loc 5, .cells [bv ch])], hp, nx⟩ := by
 refine run_of [] [] (H := hLv) (live := live21) (by kernel_rfl) ?_; exact oe e
theorem lv_r12 {es : List Dat} {fs : List AVal} {pl : Heap} {nx : Nat} (hb : Calls1 55 [.dat (.slice es)] (fn39 es))
  (e : LvT T ⟨FR es 2 nx, [], lvB n p s (.slice es) d2 nx false fs ++ pl, nx + 1⟩) :
  LvC (seqL (seqR (inBlk (seqL (seqR (roundOf Tryz.f21 1)))))) T ⟨Fsl, [(.loc 5, .cells [bv false])], lvA n p s (.slice es) d2 fs ++ pl, nx⟩ := by
 refine run_of [] [] (H := hLv) (live := live21) (by kernel_rfl) ?_; refine on hb ?_; exact oe e
theorem lv_r32 {es : List Dat} {fs : List AVal} {ch : Bool} {pl : Heap} {nx : Nat} (e : LvT T ⟨Fsl, [(.loc 5, .cells [bv ch])], lvB n p s (.slice es) d2 3 ch fs ++ pl, nx⟩) :
  LvC (seqR (seqR (roundOf Tryz.f21 1))) T ⟨FR es 2 3, [], lvB n p s (.slice es) d2 3 ch fs ++ pl, nx⟩ := by
 refine run_of [] [] (H := hLv) (live := live21) (by kernel_rfl) ?_; exact oe e
/-! ### The sorted sets -/
theorem lv_34 {fs oc : List AVal} {pl : Heap} {nx : Nat} (f3 : aLen (env Prims.fast) 91 [.win (.out 0) 1 0 n] none = some ⟨iv (Int.ofNat n), .keep⟩) (h1 : aMakeSlice (env Prims.fast) 55 [iv (Int.ofNat n), iv (Int.ofNat n)] = some ⟨.undef, .grow (.cells oc) 1 n⟩) (h2 : noLocO (.cells oc) = true)
  (e : LvT T ⟨[(16, .win (.out nx) 1 0 n), (3, .ptr (.out 2) 0)], [], lvBo n p s d1 d2 nx oc fs ++ pl, nx + 1⟩) :
  LvC (partL Tryz.f21 5) T ⟨(36, bv false) :: Fsl, [(.loc 5, .cells [bv false])], lvA n p s d1 d2 fs ++ pl, nx⟩ := by
 refine run_of [500108] [107, 108] (H := hLv) (live := live21) (by kernel_rfl) ?_; refine oo f3 ?_; refine oo h1 ?_; refine ob h2 ?_; exact oe e
def FO (n : Nat) (k : Int) (_a b : Nat) : Sl := [(111, iv k), (110, iv (Int.ofNat n)), (109, .win (.out 0) 1 0 n), (16, .win (.out b) 1 0 n)]
theorem lv_35 {fs oc : List AVal} {pl : Heap} {q nx : Nat} (f3 : aLen (env Prims.fast) 91 [.win (.out 0) 1 0 n] none = some ⟨iv (Int.ofNat n), .keep⟩)
  (e : LvT T ⟨FO n 0 2 (q + 3), [], lvBo n p s d1 d2 (q + 3) oc fs ++ pl, nx⟩) :
  LvC (seqL (partL Tryz.f21 6)) T ⟨[(16, .win (.out (q + 3)) 1 0 n), (3, .ptr (.out 2) 0)], [], lvBo n p s d1 d2 (q + 3) oc fs ++ pl, nx⟩ := by
 refine run_of [] [110] (H := hLv) (live := live21) (by kernel_rfl) ?_; refine oo f3 ?_; exact oe e
theorem lv_12x {hp : Heap} {a b nx : Nat} {kk : Int} (h : ltF kk (Int.ofNat n) = false)
  (e : T (.exit 12) ((⟨(112, bv false) :: FO n kk a b, [], hp, nx⟩ : FState).toA Tryz.f21.ntmps)) :
  LvC (roundOf Tryz.f21 2) T ⟨FO n kk a b, [], hp, nx⟩ := by
 refine run_of [112] [] (H := hLv) (live := live21) (by kernel_rfl) ?_; refine ob h ?_; exact oe e
theorem lv_12 {N : Nat} {fs oc oc2 : List AVal} {E : List (Go.Value × Dat)} {kk : Int} {o : Nat} {d : Dat} (h : ltF kk (Int.ofNat n) = true)
  (f1 : aIndexAddr (env Prims.fast) 91 [.win (.out 0) 1 0 n, iv kk] = some ⟨.ptr (.out 0) o, .keep⟩) (f2 : aLoad (env Prims.fast) false 92 [.ptr (.out 0) o] (some (.cells fs)) = some ⟨.map (.out 4), .keep⟩)
  (hK : KC 57 [.map (.out 4)] (lvBo n p s d1 d2 3 oc fs ++ [(.out 4, .map E)]) (N + 5) (XQ ⟨.fn (.func 91) [] [.ptr (.out (N + 5)) 0], (.out (N + 5), .cells [.map (.out 4)]) :: (.out 4, .map E) :: lvBo n p s d1 d2 3 oc fs, N + 5 + 1⟩))
  (hS : KC 56 [.fn (.func 91) [] [.ptr (.out (N + 5)) 0]] ((.out (N + 5), .cells [.map (.out 4)]) :: (.out 4, .map E) :: lvBo n p s d1 d2 3 oc fs) (N + 5 + 1) (XQ ⟨.dat d, (.out (N + 5), .cells [.map (.out 4)]) :: (.out 4, .map E) :: lvBo n p s d1 d2 3 oc fs, N + 5 + 1⟩))
  (f3 : aIndexAddr (env Prims.fast) 55 [.win (.out 3) 1 0 n, iv kk] = some ⟨.ptr (.out 3) o, .keep⟩) (f4 : aStore (env Prims.fast) 22 [.ptr (.out 3) o, .dat d] (some (.cells oc)) = some ⟨.undef, .set (.cells oc2)⟩) (h2 : noLocO (.cells oc2) = true)
  (e : LvT T ⟨FO n (wrapF .i64 (kk + 1)) 2 3, [], (.out (N + 5), .cells [.map (.out 4)]) :: (.out 4, .map E) :: lvBo n p s d1 d2 3 oc2 fs, N + 5 + 1⟩) :
  LvC (roundOf Tryz.f21 2) T ⟨FO n kk 2 3, [], lvBo n p s d1 d2 3 oc fs ++ [(.out 4, .map E)], N + 5⟩ := by
 refine run_of [112, 600121] [114, 115, 121, 100121] (H := hLv) (live := live21) (by kernel_rfl) ?_; refine ob h ?_; refine oo f1 ?_; refine oo f2 ?_; refine oh hK ?_; refine oh hS ?_; refine oo f3 ?_; refine oo f4 ?_; refine ob h2 ?_; exact oe e
theorem lv_40 {hp : Heap} {a b nx : Nat} {kk : Int} (e : LvT T ⟨[(2, .win (.out b) 1 0 n)], [], hp, nx⟩) :
  LvC (partL Tryz.f21 7) T ⟨(112, bv false) :: FO n kk a b, [], hp, nx⟩ := by
 refine run_of [] [] (H := hLv) (live := live21) (by kernel_rfl) ?_; exact oe e
end
theorem c_KeysI {E : List (Go.Value × Dat)} : KC 57 [.map (.out 0)] [(.out 0, .map E)] 1 (XQ ⟨.fn (.func 91) [] [.ptr (.out 1) 0], [(.out 1, .cells [.map (.out 0)]), (.out 0, .map E)], 2⟩) := by
 refine co [] [] (x := .of Tryz.f57 ord57 live57) ?_; exact fi
section
variable (n : Nat) (su : Nat -> List Nat) (us : Nat -> List Int) (df : Nat -> Option Int)
def LFix (es : List (List Int)) : Prop := LOk n su us df es /\ ∀ i, i < n -> ∀ s, s ∈ es.getD i [] ↔ Just su us df es i s
def LClo (X : Nat -> Int -> Prop) : Prop := ∀ i, i < n -> ∀ s, (s ∈ us i ∨ ∃ j ∈ su i, X j s /\ df i ≠ some s) -> X i s
def Lst (i : Nat) (s : Int) : Prop := i < n /\ ∀ X, LClo n su us df X -> X i s
open Classical in
/-- The sets, sorted. -/
noncomputable def liveS : List (List Int) := if h : ∃ es, LFix n su us df es then (Classical.choose h).map sortI else []
variable {n su us df}
theorem fix_mem {es : List (List Int)} (h : LFix n su us df es) {i : Nat} (hi : i < n) (s : Int) : s ∈ es.getD i [] ↔ Lst n su us df i s := by
 constructor
 ·intro hs
  exact ⟨hi, fun X hX => h.1.least X hX i hi s hs⟩
 rintro ⟨_, hX⟩
 refine hX (fun i s => s ∈ es.getD i []) ?_
 intro i hi s hs
 refine (h.2 i hi s).2 ?_
 rcases hs with h1 | ⟨j, h1, h2, h3⟩
 ·exact .inl h1
 exact .inr ⟨j, h1, h2, h3⟩
theorem perm_sortI {a b : List Int} (h : a.Perm b) : sortI a = sortI b := Go.mergeSort_of_perm_i h
theorem fix_unique {es es' : List (List Int)} (h : LFix n su us df es) (h' : LFix n su us df es') : es.map sortI = es'.map sortI := by
 apply List.ext_getElem (by rw [List.length_map, List.length_map, h.1.len, h'.1.len])
 intro i h1 h2
 have hi : i < n := by rw [List.length_map, h.1.len] at h1; exact h1
 have e1 : i < es.length := by rw [h.1.len]; exact hi
 have e2 : i < es'.length := by rw [h'.1.len]; exact hi
 rw [List.getElem_map, List.getElem_map]
 have k1 : es.getD i [] = es[i] := by rw [List.getD_eq_getElem?_getD, List.getElem?_eq_getElem e1]; rfl
 have k2 : es'.getD i [] = es'[i] := by rw [List.getD_eq_getElem?_getD, List.getElem?_eq_getElem e2]; rfl
 rw [← k1, ← k2]
 refine perm_sortI ((List.perm_ext_iff_of_nodup (h.1.nd i) (h'.1.nd i)).2 fun s => ?_)
 rw [fix_mem h hi, fix_mem h' hi]
theorem liveS_of {es : List (List Int)} (h : LFix n su us df es) : liveS n su us df = es.map sortI := by
 have hh : ∃ es, LFix n su us df es := ⟨es, h⟩
 unfold liveS
 rw [dif_pos hh]
 exact fix_unique (Classical.choose_spec hh) h
theorem pick_list (P : Int -> Prop) : ∀ u : List Int, ∃ l : List Int, l.Nodup /\ ∀ s, s ∈ l ↔ s ∈ u /\ P s
 | [] => ⟨[], List.nodup_nil, by simp⟩
 | a :: u => by
  obtain ⟨l, h1, h2⟩ := pick_list P u
  by_cases ha : P a
  ·refine ⟨addK l a, (grow_addK l a).2.1 h1, fun s => ?_⟩
   rw [addK_mem, h2]
   simp only [List.mem_cons]
   constructor
   ·rintro (⟨h, k⟩ | rfl)
    ·exact ⟨.inr h, k⟩
    exact ⟨.inl rfl, ha⟩
   rintro ⟨rfl | h, k⟩
   ·exact .inr rfl
   exact .inl ⟨h, k⟩
  refine ⟨l, h1, fun s => ?_⟩
  rw [h2]
  simp only [List.mem_cons]
  constructor
  ·rintro ⟨h, k⟩; exact ⟨.inr h, k⟩
  rintro ⟨rfl | h, k⟩
  ·exact absurd k ha
  exact ⟨h, k⟩
theorem lst_clo (hsu : ∀ i, i < n -> ∀ j ∈ su i, j < n) : LClo n su us df (Lst n su us df) := by
 intro i hi s hs
 refine ⟨hi, fun X hX => hX i hi s ?_⟩
 rcases hs with h | ⟨j, h1, h2, h3⟩
 ·exact .inl h
 exact .inr ⟨j, h1, h2.2 X hX, h3⟩
theorem lst_just (hsu : ∀ i, i < n -> ∀ j ∈ su i, j < n) {i : Nat} {s : Int} (h : Lst n su us df i s) : s ∈ us i ∨ ∃ j ∈ su i, Lst n su us df j s /\ df i ≠ some s := by
 refine h.2 (fun i s => s ∈ us i ∨ ∃ j ∈ su i, Lst n su us df j s /\ df i ≠ some s) ?_
 intro i hi s hs
 rcases hs with h | ⟨j, h1, h2, h3⟩
 ·exact .inl h
 exact .inr ⟨j, h1, lst_clo hsu j (hsu i hi j h1) s h2, h3⟩
theorem fix_ex (hsu : ∀ i, i < n -> ∀ j ∈ su i, j < n) : ∃ es, LFix n su us df es := by
 have hp : ∀ i, ∃ l : List Int, l.Nodup /\ ∀ s, s ∈ l ↔ s ∈ univ n us /\ Lst n su us df i s := fun i => pick_list (Lst n su us df i) (univ n us)
 let f := fun i => Classical.choose (hp i)
 have hf1 : ∀ i, (f i).Nodup := fun i => (Classical.choose_spec (hp i)).1
 have hf2 : ∀ i s, s ∈ f i ↔ s ∈ univ n us /\ Lst n su us df i s := fun i => (Classical.choose_spec (hp i)).2
 have hU : ∀ i s, Lst n su us df i s -> s ∈ univ n us := by
  intro i s h
  refine h.2 (fun _ s => s ∈ univ n us) ?_
  intro i hi s hs
  rcases hs with h | ⟨j, h1, h2, h3⟩
  ·exact List.mem_flatMap.2 ⟨i, List.mem_range.2 hi, h⟩
  exact h2
 have hg : ∀ i, ((List.range n).map f).getD i [] = if i < n then f i else [] := by
  intro i
  rw [List.getD_eq_getElem?_getD, List.getElem?_map]
  by_cases hi : i < n
  ·rw [List.getElem?_range hi, if_pos hi]; rfl
  rw [List.getElem?_eq_none (by simpa using hi), if_neg hi]; rfl
 have hm : ∀ i, i < n -> ∀ s, s ∈ ((List.range n).map f).getD i [] ↔ Lst n su us df i s := by
  intro i hi s
  rw [hg, if_pos hi, hf2]
  exact ⟨fun h => h.2, fun h => ⟨hU i s h, h⟩⟩
 have hJ : ∀ i, i < n -> ∀ s, Lst n su us df i s ↔ Just su us df ((List.range n).map f) i s := by
  intro i hi s
  constructor
  ·intro h
   rcases lst_just hsu h with h | ⟨j, h1, h2, h3⟩
   ·exact .inl h
   exact .inr ⟨j, h1, (hm j (hsu i hi j h1) s).2 h2, h3⟩
  rintro (h | ⟨j, h1, h2, h3⟩)
  ·exact lst_clo hsu i hi s (.inl h)
  exact lst_clo hsu i hi s (.inr ⟨j, h1, (hm j (hsu i hi j h1) s).1 h2, h3⟩)
 refine ⟨(List.range n).map f, ⟨by simp, fun i => ?_, fun i s hs => ?_, fun i hi s hs => (hJ i hi s).1 ((hm i hi s).1 hs), fun X hX i hi s hs => ((hm i hi s).1 hs).2 X hX⟩, fun i hi s => ?_⟩
 ·rw [hg]; split
  ·exact hf1 i
  exact List.nodup_nil
 ·rw [hg] at hs
  split at hs
  ·exact ((hf2 i s).1 hs).1
  simp at hs
 rw [hm i hi, hJ i hi]
/-- The data-flow equation. -/
theorem liveS_eq (hsu : ∀ i, i < n -> ∀ j ∈ su i, j < n) : (liveS n su us df).length = n /\ ∀ i, i < n -> ∀ s, s ∈ (liveS n su us df).getD i [] ↔ s ∈ us i ∨ ∃ j ∈ su i, s ∈ (liveS n su us df).getD j [] /\ df i ≠ some s := by
 obtain ⟨es, h⟩ := fix_ex (n := n) (us := us) (df := df) hsu
 rw [liveS_of h]
 have hg : ∀ i, (es.map sortI).getD i [] = sortI (es.getD i []) := by
  intro i
  rw [List.getD_eq_getElem?_getD, List.getD_eq_getElem?_getD, List.getElem?_map]
  cases es[i]? with
  | none => simp [sortI]
  | some m => rfl
 refine ⟨by rw [List.length_map, h.1.len], fun i hi s => ?_⟩
 rw [hg, (sortI_perm _).mem_iff, h.2 i hi s]
 unfold Just
 refine or_congr Iff.rfl ⟨?_, ?_⟩
 ·rintro ⟨j, h1, h2, h3⟩
  exact ⟨j, h1, by rw [hg, (sortI_perm _).mem_iff]; exact h2, h3⟩
 rintro ⟨j, h1, h2, h3⟩
 exact ⟨j, h1, by rw [hg, (sortI_perm _).mem_iff] at h2; exact h2, h3⟩
end
theorem frzW {g : FuncId} {args : List AVal} {sz len : Nat} {es : List Dat} (hc : KC g args [] 0 (fun v h _ => ∃ k cs, v = .win (.out k) sz 0 len /\ aget (.out k) h = some (.cells cs) /\ (∀ i d, es[i]? = some d -> d.cells.length = sz /\ ∀ j c, d.cells[j]? = some c -> ∃ a, cs[i * sz + j]? = some a /\ cellDat a = some c))) (hes : es.length = len) (hle : len <= lim) :
  KC g args [] 0 (XQ ⟨.dat (.slice es), [], 0⟩) := by
 intro w R N cargs bsA bsH bsF ha hp hnd hnx hg hF
 refine (hc w R N cargs bsA bsH bsF ha hp hnd hnx hg hF).mono ?_
 rintro e w' ⟨v', cv, h1, next', R', N', bsV, bsH', rfl, ⟨k, cs, rfl, hget, hcell⟩, hv1, hh', hnd', hnx', hk, hN⟩
 have hnd3 : bsH'.Nodup := (List.nodup_append.1 (List.nodup_append.1 hnd').2.1).1
 obtain ⟨b, R2, bsH2, m1, m2, m3, m4, m5, m6, m7⟩ := win_dat hv1 hh' hget hnd3 hes hle hcell
 have hbF : b ∉ bsF := by
  intro hb
  exact (List.nodup_append.1 (List.nodup_append.1 hnd').2.1).2.2 b m1 b hb rfl
 refine ⟨_, cv, _, _, R2, N, [], [], rfl, ⟨rfl, rfl, rfl⟩, ?_, rfl, ?_, hnx, hk.trans (m7 bsF hbF), fun _ _ h => h⟩
 ·simp only [RepV] at m4 ⊢; exact m4
 simpa using (List.nodup_append.1 (List.nodup_append.1 hnd').2.1).2.1
/-- A piece beside objects that it does not look at. -/
theorem beside {c : Code} {Q : Exit -> AState -> Prop} {s0 : AState} (hc : KD c Q s0) (full rest : Heap) (hp : full.Perm (s0.heap ++ rest)) :
  KD c (fun e s => ∃ s1, Q e s1 /\ s = ⟨s1.tmps, s1.locs, s1.heap ++ rest, s1.next⟩) ⟨s0.tmps, s0.locs, full, s0.next⟩ := by
 intro w R N act bsT bsL bsH bsF hr D hd
 obtain ⟨bsP, k1, k2⟩ := hr.heap.perm hp
 obtain ⟨b1, bR, rfl, h1, h2⟩ := RepObjs.append k1
 have hnd : (bsT ++ (bsL ++ (b1 ++ (bR ++ bsF)))).Nodup := by
  have := hr.nodup
  simp only [List.nil_append] at this
  have h3 := (List.Perm.append_left bsT (List.Perm.append_left bsL (List.Perm.append_right bsF k2))).nodup_iff.1 this
  simpa using h3
 have hr0 : RelB xglobs w R N act.tmps.toList s0 undef .undef [] bsT bsL b1 (bR ++ bsF) := by
  refine ⟨repV_undef _, hr.tmps, hr.locs, h1, by simpa using hnd, hr.next, hr.glob, ?_⟩
  intro b hb
  rcases List.mem_append.1 hb with h | h
  ·exact h2.lt b h
  exact hr.frame b h
 refine wpR_mono (hc w R N act bsT bsL b1 (bR ++ bsF) hr0 hd) ?_
 rintro e a w' ⟨s1, R', N1, bsT', bsL', bsH', hq, hr1, hd', hk, hN⟩
 refine ⟨_, R', N1, bsT', bsL', bsH' ++ bR, ⟨s1, hq, rfl⟩, ⟨repV_undef _, hr1.tmps, hr1.locs, ?_, by simpa using hr1.nodup, hr1.next, hr1.glob, fun b hb => hr1.frame b (by simp [hb])⟩, hd', hk.sub (by intro b hb; simp [hb]), hN⟩
 refine RepObjs.join hr1.heap ((h2.keep (hk.sub (by intro b hb; simp [hb]))).ext ?_)
 intro m b h
 cases m with
 | loc i => simp [outs] at h
 | out o => exact hN o b h
/-! ### Rows -/
theorem lenw_maps {m : Name} {n : Nat} (h : n < 1000000000) : aLen (env Prims.fast) 91 [.win m 1 0 n] none = some ⟨iv (Int.ofNat n), .keep⟩ := by
 have e : aLen (env Prims.fast) 91 [.win m 1 0 n] none = if Nat.ble n lim = true then some ⟨iv (Int.ofNat n), .keep⟩ else none := by kernel_rfl
 rw [e, if_pos]
 rw [Nat.ble_eq]
 simp only [lim]
 omega
def mNil : AVal := .dat (.flat (.map none))
theorem bld_head {l : List AVal} (h : ∀ a ∈ l, isP a = false) : bldSh l = false := by
 match l, h with
 | [], _ => rfl
 | [_], _ => rfl
 | [a, b], h =>
  have ha := h a (by simp)
  cases b with
  | own es => exact ha
  | dat d => cases d with
   | slice es => exact ha
   | flat v => unfold bldSh; split <;> simp_all
   | agg cs => rfl
  | _ => rfl
 | a :: b :: c :: t, _ => unfold bldSh; split <;> simp_all
theorem mk_maps {n : Nat} (h : n < 1000000) : aMakeSlice (env Prims.fast) 91 [iv (Int.ofNat n), iv (Int.ofNat n)] = some ⟨.undef, .grow (.cells (List.replicate n mNil)) 1 n⟩ := by
 have e : aMakeSlice (env Prims.fast) 91 [iv (Int.ofNat n), iv (Int.ofNat n)] = if (Nat.ble n n && Nat.ble (tiMs.bytes * n) 140737488355328 && Nat.ble n lim && Nat.blt 0 tiMs.size && okCells (acells (ofConst tiMs.zero)) && !bldSh (replL (acells (ofConst tiMs.zero)) n)) = true
    then some ⟨.undef, .grow (.cells (replL (acells (ofConst tiMs.zero)) n)) tiMs.size n⟩ else none := by kernel_rfl
 have ez : acells (ofConst tiMs.zero) = [mNil] := by kernel_rfl
 have eb : tiMs.bytes <= 100 := ble_to (by kernel_rfl)
 have e1 : bldSh (List.replicate n mNil) = false := bld_head (fun a ha => by rw [List.eq_of_mem_replicate ha]; rfl)
 rw [e, ez, replL_one, e1, tiMs_size, if_pos]
 have k1 : Nat.ble n n = true := by rw [Nat.ble_eq]; omega
 have k2 : Nat.ble (tiMs.bytes * n) 140737488355328 = true := by
  rw [Nat.ble_eq]
  calc tiMs.bytes * n <= 100 * 1000000 := Nat.mul_le_mul eb (by omega)
   _ <= 140737488355328 := by decide
 have k3 : Nat.ble n lim = true := by rw [Nat.ble_eq]; simp only [lim]; omega
 rw [k1, k2, k3]
 rfl
noncomputable def tiRs : TI := match Go.Tp.elemOf (env Prims.fast) 55 with | some t => t | none => default
theorem tiRs_eq : Go.Tp.elemOf (env Prims.fast) 55 = some tiRs := by kernel_rfl
theorem tiRs_size : tiRs.size = 1 := by kernel_rfl
theorem mk_rows {n : Nat} (h : n < 1000000) : aMakeSlice (env Prims.fast) 55 [iv (Int.ofNat n), iv (Int.ofNat n)] = some ⟨.undef, .grow (.cells (List.replicate n (.dat nl))) 1 n⟩ := by
 have e : aMakeSlice (env Prims.fast) 55 [iv (Int.ofNat n), iv (Int.ofNat n)] = if (Nat.ble n n && Nat.ble (tiRs.bytes * n) 140737488355328 && Nat.ble n lim && Nat.blt 0 tiRs.size && okCells (acells (ofConst tiRs.zero)) && !bldSh (replL (acells (ofConst tiRs.zero)) n)) = true
    then some ⟨.undef, .grow (.cells (replL (acells (ofConst tiRs.zero)) n)) tiRs.size n⟩ else none := by kernel_rfl
 have ez : acells (ofConst tiRs.zero) = [.dat nl] := by kernel_rfl
 have eb : tiRs.bytes <= 100 := ble_to (by kernel_rfl)
 have e1 : bldSh (List.replicate n (.dat nl)) = false := bld_head (fun a ha => by rw [List.eq_of_mem_replicate ha]; rfl)
 rw [e, ez, replL_one, e1, tiRs_size, if_pos]
 have k1 : Nat.ble n n = true := by rw [Nat.ble_eq]; omega
 have k2 : Nat.ble (tiRs.bytes * n) 140737488355328 = true := by
  rw [Nat.ble_eq]
  calc tiRs.bytes * n <= 100 * 1000000 := Nat.mul_le_mul eb (by omega)
   _ <= 140737488355328 := by decide
 have k3 : Nat.ble n lim = true := by rw [Nat.ble_eq]; simp only [lim]; omega
 rw [k1, k2, k3]
 rfl
theorem ixw_rows {m : Name} {n k : Nat} (h : k < n) : aIndexAddr (env Prims.fast) 55 [.win m 1 0 n, iv (Int.ofNat k)] = some ⟨.ptr m k, .keep⟩ := by
 have := Go.Tp.idx_win (m := m) (off := 0) (s := 1) tiRs_eq tiRs_size.symm h
 rw [Nat.zero_add, Nat.mul_one] at this
 exact this
/-- One cell put into a row. -/
theorem putL_set : ∀ (l : List AVal) (i : Nat) (a : AVal), i < l.length -> putL i [a] l = l.set i a
 | [], i, _, h => absurd h (Nat.not_lt_zero i)
 | x :: r, 0, a, _ => by simp [putL]
 | x :: r, i + 1, a, h => by
  show x :: putL i [a] r = _
  rw [putL_set r i a (Nat.lt_of_succ_lt_succ h)]; rfl
theorem st_map {cs : List AVal} {k : Nat} {x m : Name} (h : k < cs.length) (hp : ∀ a ∈ cs, isP a = false) : aStore (env Prims.fast) 92 [.ptr m k, .map x] (some (.cells cs)) = some ⟨.undef, .set (.cells (cs.set k (.map x)))⟩ := by
 have hs := tiM_size
 have hb : bldSh (putL k [.map x] cs) = false := by
  rw [putL_set _ _ _ h]
  refine bld_head ?_
  intro a ha
  rcases List.mem_or_eq_of_mem_set ha with h1 | rfl
  ·exact hp a h1
  rfl
 rw [← putL_set _ _ _ h]
 simp only [aStore, tiM_eq]
 rw [if_pos]
 ·rfl
 refine ⟨by rw [hs]; rfl, by rw [hs]; exact h, rfl, by rw [hs]; decide, ?_⟩
 show (!bldSh (putL k [.map x] cs) || bldSh cs) = true
 rw [hb]; rfl
noncomputable def tiL : TI := match (env Prims.fast).ty 22 with | some t => t | none => default
theorem tiL_eq : (env Prims.fast).ty 22 = some tiL := by kernel_rfl
theorem tiL_size : tiL.size = 1 := by kernel_rfl
theorem st_rowI {cs : List AVal} {k : Nat} {m : Name} (l : List Int) (h : k < cs.length) (hp : ∀ a ∈ cs, isP a = false) : aStore (env Prims.fast) 22 [.ptr m k, .dat (nlI l)] (some (.cells cs)) = some ⟨.undef, .set (.cells (cs.set k (.dat (nlI l))))⟩ := by
 have hs := tiL_size
 have ha : acells (.dat (nlI l)) = [.dat (nlI l)] := by cases l <;> rfl
 have ho : okCells [.dat (nlI l)] = true := by cases l <;> rfl
 have hq : isP (.dat (nlI l)) = false := by cases l <;> rfl
 have hb : bldSh (putL k [.dat (nlI l)] cs) = false := by
  rw [putL_set _ _ _ h]
  refine bld_head ?_
  intro a ha
  rcases List.mem_or_eq_of_mem_set ha with h1 | rfl
  ·exact hp a h1
  exact hq
 rw [← putL_set _ _ _ h]
 simp only [aStore, tiL_eq, ha]
 rw [if_pos]
 refine ⟨by rw [hs]; rfl, by rw [hs]; exact h, ho, by rw [hs]; decide, ?_⟩
 rw [hb]; rfl
/-! ### The row of sets comes to be -/
def mkRow (k n : Nat) : List AVal := (List.range n).map fun j => if j < k then .map (.out (3 + j)) else mNil
theorem mkRow_get {k n j : Nat} (h : j < n) : (mkRow k n)[j]? = some (if j < k then .map (.out (3 + j)) else mNil) := by
 unfold mkRow
 rw [List.getElem?_map, List.getElem?_range h]; rfl
theorem mkRow_len (k n : Nat) : (mkRow k n).length = n := by simp [mkRow]
theorem mkRow_set {k n : Nat} (h : k < n) : (mkRow k n).set k (.map (.out (3 + k))) = mkRow (k + 1) n := by
 apply List.ext_getElem?
 intro j
 by_cases hj : j < n
 ·rw [List.getElem?_set, mkRow_get hj, mkRow_get hj, mkRow_len]
  by_cases e : k = j
  ·subst e; simp [h]
  rw [if_neg e]
  congr 1
  by_cases h1 : j < k
  ·rw [if_pos h1, if_pos (by omega)]
  rw [if_neg h1, if_neg (by omega)]
 rw [List.getElem?_eq_none (by rw [List.length_set, mkRow_len]; omega), List.getElem?_eq_none (by rw [mkRow_len]; omega)]
theorem mkRow_zero (n : Nat) : mkRow 0 n = List.replicate n mNil := by
 apply List.ext_getElem (by simp [mkRow])
 intro j h1 h2
 simp [mkRow]
theorem mkRow_all (n : Nat) : mkRow n n = lvRow (fun k => 3 + k) n := by
 unfold mkRow lvRow
 apply List.map_congr_left
 intro j hj
 rw [if_pos (List.mem_range.1 hj)]
theorem mkRow_isP (k n : Nat) : ∀ a ∈ mkRow k n, isP a = false := by
 intro a ha
 obtain ⟨j, _, rfl⟩ := List.mem_map.1 ha
 split <;> rfl
theorem mkRow_noLoc (k n : Nat) : noLocO (.cells (mkRow k n)) = true := by
 show noLocL (mkRow k n) = true
 have : ∀ l : List AVal, (∀ a ∈ l, noLoc a = true) -> noLocL l = true := by
  intro l
  induction l with
  | nil => intro _; rfl
  | cons a r ih => intro h; show (noLoc a && noLocL r) = true; rw [h a (by simp), ih (fun b hb => h b (by simp [hb]))]; rfl
 refine this _ ?_
 intro a ha
 obtain ⟨j, _, rfl⟩ := List.mem_map.1 ha
 split <;> rfl
theorem lvM_app : ∀ (es : List (List Int)) (a : Nat) (e : List Int), lvM a (es ++ [e]) = lvM a es ++ [(.out (a + es.length), .map (setM e))]
 | [], _, _ => rfl
 | x :: es, a, e => by
  simp only [List.cons_append, lvM, lvM_app es (a + 1) e, List.length_cons]
  rw [show a + 1 + es.length = a + (es.length + 1) by omega]
theorem lv_make {n : Nat} {p s : Int} {d1 d2 : Dat} (hn : n < 1000000) {Q : Exit -> AState -> Prop} (e : LvT Q ⟨(29, bv false) :: FM n (Int.ofNat n), [], lvA n p s d1 d2 (lvRow (fun k => 3 + k) n) ++ lvM 3 (List.replicate n []), n + 3⟩) :
  LvC (seqR (partL Tryz.f21 3)) Q ⟨FM n 0, [], lvA n p s d1 d2 (List.replicate n mNil), 3⟩ := by
 refine acode_blockP 0 (by kernel_rfl) ?_
 have el : inLoop (inBlk (seqR (partL Tryz.f21 3))) = roundOf Tryz.f21 0 := by kernel_rfl
 refine acode_loopP (α := Nat) (by kernel_rfl) (fun k => (⟨FM n (Int.ofNat k), [], lvA n p s d1 d2 (mkRow k n) ++ lvM 3 (List.replicate k []), k + 3⟩ : FState).toA Tryz.f21.ntmps) (fun k => k <= n) (fun k => n - k) 0 (Nat.zero_le _) (by rw [mkRow_zero]; rfl) ?_
 intro k hk
 rw [el]
 by_cases hlt : k < n
 ·have hw : wrapF .i64 (Int.ofNat k + 1) = Int.ofNat (k + 1) := wrap_of (by omega)
  have hst := st_map (cs := mkRow k n) (k := k) (x := .out (k + 3)) (m := .out 0) (by rw [mkRow_len]; exact hlt) (mkRow_isP k n)
  have hset : (mkRow k n).set k (.map (.out (k + 3))) = mkRow (k + 1) n := by rw [Nat.add_comm k 3]; exact mkRow_set hlt
  rw [hset] at hst
  have h := lv_mk (p := p) (s := s) (d1 := d1) (d2 := d2) (T := fun e q => e = .normal /\ q = (⟨FM n (Int.ofNat (k + 1)), [], (.out (k + 3), .map []) :: lvA n p s d1 d2 (mkRow (k + 1) n), k + 3 + 1⟩ : FState).toA Tryz.f21.ntmps) (m := k) (ltF_yes hlt) (ixw_maps hlt) hst (mkRow_noLoc _ _) (by rw [hw]; exact ⟨rfl, rfl⟩)
  refine ACode.lessQ (beside h (lvA n p s d1 d2 (mkRow k n) ++ lvM 3 (List.replicate k [])) (lvM 3 (List.replicate k [])) (List.Perm.refl _)) ?_
  rintro e' q ⟨s1, ⟨rfl, rfl⟩, rfl⟩
  refine ⟨lvA n p s d1 d2 (mkRow (k + 1) n) ++ lvM 3 (List.replicate (k + 1) []), [], ?_, ?_⟩
  ·rw [List.append_nil, List.replicate_succ', lvM_app, List.length_replicate]
   show (((.out (k + 3), .map []) :: lvA n p s d1 d2 (mkRow (k + 1) n)) ++ lvM 3 (List.replicate k [])).Perm (lvA n p s d1 d2 (mkRow (k + 1) n) ++ (lvM 3 (List.replicate k []) ++ [(.out (3 + k), .map (setM []))]))
   rw [Nat.add_comm 3 k, ← List.append_assoc]
   exact List.perm_append_comm (l₁ := [(Name.out (k + 3), AObj.map [])])
  exact ⟨k + 1, hlt, by omega, rfl⟩
 have : k = n := by omega
 subst this
 refine lv_mkx (ltF_no hlt) ?_
 unfold seqQ
 dsimp only
 rw [if_pos rfl, mkRow_all]
 exact e
end Go.Proofs.YtmpmgmmcaghacaaGreatDoor

namespace Go.Proofs
open Go.Shelf
def Tryz.keysI_ren : Go.Shelf.Ren := ⟨fun | 7 => 57 | 10 => 91 | n => n, fun | 23 => 92 | 26 => 3 | 3 => 4 | 28 => 98 | 0 => 0 | 27 => 97 | 33 => 130 | 4 => 4 | n => n, fun | n => n⟩
theorem Tryz.keysI : Go.Proofs.SlLaysZI.n7 Tryz.prog Tryz.keysI_ren := {
 mixed := by kernel_rfl
 f7 := ⟨Tryz.f57.name, by decide, Tryz.func57.trans (congrArg some (by kernel_rfl))⟩
 f10 := ⟨Tryz.f91.name, by decide, Tryz.func91.trans (congrArg some (by kernel_rfl))⟩
 t0 := Tryz.underlying0
 a0 := Tryz.isAgg0
 z0 := Tryz.sizeOf0
 v0 := Tryz.zeroValue0
 t4 := Tryz.underlying4
 a4 := Tryz.isAgg4
 z4 := Tryz.sizeOf4
 v4 := Tryz.zeroValue4
 t23 := Tryz.underlying92
 a23 := Tryz.isAgg92
 z23 := Tryz.sizeOf92
 v23 := Tryz.zeroValue92
 t26 := Tryz.underlying3
 a26 := Tryz.isAgg3
 z26 := Tryz.sizeOf3
 v26 := Tryz.zeroValue3
 t27 := Tryz.underlying97
 a27 := Tryz.isAgg97
 z27 := Tryz.sizeOf97
 v27 := Tryz.zeroValue97
 t28 := Tryz.underlying98
 a28 := Tryz.isAgg98
 z28 := Tryz.sizeOf98
 v28 := Tryz.zeroValue98
 t33 := Tryz.underlying130
 a33 := Tryz.isAgg130
 z33 := Tryz.sizeOf130
 v33 := Tryz.zeroValue130 }
def Tryz.sortedI_ren : Go.Shelf.Ren := ⟨fun | 6 => 56 | 8 => 90 | 9 => 59 | 11 => 125 | 13 => 93 | 12 => 92 | 23 => 135 | 24 => 136 | 14 => 126 | 15 => 127 | 16 => 128 | 17 => 129 | 18 => 130 | 19 => 131 | 20 => 132 | 21 => 133 | 22 => 134 | 25 => 167 | 26 => 168 | 27 => 169 | 28 => 170 | 29 => 171 | 30 => 172 | 31 => 191 | n => n, fun | 26 => 3 | 28 => 98 | 24 => 22 | 0 => 0 | 3 => 3 | 37 => 134 | 48 => 178 | 50 => 162 | 4 => 4 | 40 => 171 | 39 => 170 | 45 => 57 | 5 => 5 | 9 => 9 | 51 => 195 | 55 => 199 | 57 => 211 | 58 => 212 | 33 => 130 | n => n, fun | n => n⟩
theorem Tryz.sortedI : Go.Proofs.SlLaysZI.n6 Tryz.prog Tryz.sortedI_ren := {
 mixed := by kernel_rfl
 f6 := ⟨Tryz.f56.name, by decide, Tryz.func56.trans (congrArg some (by kernel_rfl))⟩
 f8 := ⟨Tryz.f90.name, by decide, Tryz.func90.trans (congrArg some (by kernel_rfl))⟩
 f11 := ⟨Tryz.f125.name, by decide, Tryz.func125.trans (congrArg some (by kernel_rfl))⟩
 t0 := Tryz.underlying0
 a0 := Tryz.isAgg0
 z0 := Tryz.sizeOf0
 v0 := Tryz.zeroValue0
 t24 := Tryz.underlying22
 a24 := Tryz.isAgg22
 z24 := Tryz.sizeOf22
 v24 := Tryz.zeroValue22
 t26 := Tryz.underlying3
 a26 := Tryz.isAgg3
 z26 := Tryz.sizeOf3
 v26 := Tryz.zeroValue3
 t28 := Tryz.underlying98
 a28 := Tryz.isAgg98
 z28 := Tryz.sizeOf98
 v28 := Tryz.zeroValue98
 i26 := by kernel_rfl }
end Go.Proofs

namespace Go.Proofs.YtmpmgmmcaghacaaGreatDoor
open Go.Tp
theorem hi_lvM {m : Nat} : ∀ {es : List (List Int)} {a : Nat}, a + es.length <= m -> hiH m (lvM a es) = false
 | [], _, _ => rfl
 | e :: es, a, h => by
  simp only [List.length_cons] at h
  have ih := hi_lvM (m := m) (es := es) (a := a + 1) (by omega)
  show (Nat.ble m a || (false || hiH m (lvM (a + 1) es))) = false
  rw [ih]
  cases e : Nat.ble m a with
  | true => have := ble_to e; omega
  | false => rfl
theorem hiH_app {m : Nat} : ∀ {a b : Heap}, hiH m a = false -> hiH m b = false -> hiH m (a ++ b) = false
 | [], _, _, hb => hb
 |(.loc i, o) :: r, b, ha, hb => by
  simp only [List.cons_append, hiH, Bool.or_eq_false_iff] at ha ⊢
  exact ⟨ha.1, hiH_app ha.2 hb⟩
 |(.out i, o) :: r, b, ha, hb => by
  simp only [List.cons_append, hiH, Bool.or_eq_false_iff] at ha ⊢
  exact ⟨ha.1, ha.2.1, hiH_app ha.2.2 hb⟩
theorem hi_lvA {n m : Nat} {p s : Int} {d1 d2 : Dat} {fs : List AVal} (h3 : 3 <= m) (hf : hiL m fs = false) : hiH m (lvA n p s d1 d2 fs) = false := by
 have hb : ∀ q, q < 3 -> Nat.ble m q = false := by
  intro q hq
  cases e : Nat.ble m q with
  | true => have := ble_to e; omega
  | false => rfl
 simp only [lvA, hiH, hiO, hiL, hiV, hb 2 (by omega), hb 1 (by omega), hb 0 (by omega), hf, Bool.or_false, Bool.false_or]
 rfl
theorem fitR {es : List Dat} : Fit (FR es) [] := fit_nil (fun ρ _ h => by
 have e : rnL ρ (tmL [(39, fn39 es), (5, .ptr (.out 3) 0), (3, .ptr (.out 2) 0), (1, .ptr (.out 1) 0)]) = tmL [(39, fn39 es), (5, .ptr (.out (ρ 3)) 0), (3, .ptr (.out (ρ 2)) 0), (1, .ptr (.out (ρ 1)) 0)] := by kernel_rfl
 rw [h] at e
 exact e) (by kernel_rfl)
def FSa (a _b : Nat) : Sl := [(5, .ptr (.loc 5) 0), (3, .ptr (.out a) 0), (1, .ptr (.out 1) 0)]
theorem fitS5 {ch : Bool} : Fit FSa [(.loc 5, .cells [bv ch])] := ⟨fun ρ _ h => by
 have e : rnL ρ (tmL [(5, .ptr (.loc 5) 0), (3, .ptr (.out 2) 0), (1, .ptr (.out 1) 0)]) = tmL [(5, .ptr (.loc 5) 0), (3, .ptr (.out (ρ 2)) 0), (1, .ptr (.out (ρ 1)) 0)] := by kernel_rfl
 rw [h] at e
 exact e, by kernel_rfl, fun _ => rfl, fun _ => rfl⟩
theorem fitO {n : Nat} {k : Int} : Fit (FO n k) [] := fit_nil (fun ρ h0 _ => by
 have e : rnL ρ (tmL [(111, iv k), (110, iv (Int.ofNat n)), (109, .win (.out 0) 1 0 n), (16, .win (.out 3) 1 0 n)]) = tmL [(111, iv k), (110, iv (Int.ofNat n)), (109, .win (.out (ρ 0)) 1 0 n), (16, .win (.out (ρ 3)) 1 0 n)] := by kernel_rfl
 rw [h0] at e
 exact e) (by kernel_rfl)
section
variable {ins : List Ins} {p s : Int} {d2 : Dat}
abbrev LvF (ins : List Ins) (es : List (List Int)) : Prop := LFix ins.length (suL ins) (usL ins) (dfL ins) es
/-- The state of the sweep. -/
noncomputable def stS (ins : List Ins) (p s : Int) (d2 : Dat) (x : Bool × List (List Int)) : AState := (⟨Fsl, [(.loc 5, .cells [bv x.1])], lvA ins.length p s (.slice (encI ins)) d2 (lvRow (fun k => 3 + k) ins.length) ++ lvM 3 x.2, ins.length + 3⟩ : FState).toA Tryz.f21.ntmps
theorem lv_sweep1 (g2 : SlD d2) (hI : LvIns ins) {es : List (List Int)} {ch : Bool} (hok : LvS ins es) :
  MCode Tryz.prog xglobs (roundOf Tryz.f21 1) (fun e q => match e with
   | .normal => ch = true /\ ∃ es' ch', LPass ins.length (suL ins) (usL ins) (dfL ins) es es' 0 ch' /\ q = stS ins p s d2 (ch', es')
   | .exit i => i = 2 /\ ch = false /\ q = (⟨(36, bv false) :: Fsl, [(.loc 5, .cells [bv false])], lvA ins.length p s (.slice (encI ins)) d2 (lvRow (fun k => 3 + k) ins.length) ++ lvM 3 es, ins.length + 3⟩ : FState).toA Tryz.f21.ntmps
   | _ => False) (stS ins p s d2 (ch, es)) := by
 have hn : 0 < ins.length := List.length_pos_iff.2 hI.pos
 refine mcode_low (Q := fun e q => match e with
   | .normal => ch = true /\ ∃ es' ch', LPass ins.length (suL ins) (usL ins) (dfL ins) es es' 0 ch' /\ q = (⟨Fsl, [(.loc 5, .cells [bv ch'])], lvA ins.length p s (.slice (encI ins)) d2 (lvRow (fun k => 3 + k) ins.length) ++ lvM 3 es', 4 + ins.length⟩ : FState).toA Tryz.f21.ntmps
   | .exit i => i = 2 /\ ch = false /\ q = (⟨(36, bv false) :: Fsl, [(.loc 5, .cells [bv false])], lvA ins.length p s (.slice (encI ins)) d2 (lvRow (fun k => 3 + k) ins.length) ++ lvM 3 es, ins.length + 3⟩ : FState).toA Tryz.f21.ntmps
   | _ => False) (mcode_less (Q := fun e q => match e with
   | .normal => ch = true /\ ∃ es' ch', LPass ins.length (suL ins) (usL ins) (dfL ins) es es' 0 ch' /\ q = (⟨Fsl, [(.loc 5, .cells [bv ch'])], lvH ins.length p s (.slice (encI ins)) d2 ch' es', 4 + ins.length⟩ : FState).toA Tryz.f21.ntmps
   | .exit i => i = 2 /\ ch = false /\ q = (⟨(36, bv false) :: Fsl, [(.loc 5, .cells [bv false])], lvA ins.length p s (.slice (encI ins)) d2 (lvRow (fun k => 3 + k) ins.length) ++ lvM 3 es, ins.length + 3⟩ : FState).toA Tryz.f21.ntmps
   | _ => False) ?_ ?_) ?_
 ·refine mcode_seqP (by kernel_rfl) (mcode_of_acode (acode_seqP (by kernel_rfl) (lv_r10 ?_)))
  have e36 : condIs 36 (seqR (seqL (roundOf Tryz.f21 1))) = true := by kernel_rfl
  dsimp only
  cases ch with
  | false =>
   refine acode_condP (t := 36) e36 (b := false) (by kernel_rfl) ?_
   have e1 : condF (seqR (seqL (roundOf Tryz.f21 1))) = .exit 2 := by kernel_rfl
   simp only [Bool.false_eq_true, if_false]
   rw [e1]
   refine acode_here wpR_exit ?_
   refine ⟨?_, ?_, ?_⟩ <;> first | trivial | rfl
  | true =>
   refine acode_condP (t := 36) e36 (b := true) (by kernel_rfl) ?_
   have e1 : condT (seqR (seqL (roundOf Tryz.f21 1))) = .skip := by kernel_rfl
   simp only [if_true]
   rw [e1]
   refine acode_here wpR_skip ?_
   dsimp only
   refine mcode_seqP (by kernel_rfl) (mcode_blockP 3 (by kernel_rfl) (mcode_seqA (by kernel_rfl) (lv_r11 ?_)))
   refine mcode_seqA (by kernel_rfl) (lv_r12 c_Backward ?_)
   dsimp only
   refine mcode_blockP 4 (by kernel_rfl) ?_
   have er : inBlk (seqR (seqR (inBlk (seqL (seqR (roundOf Tryz.f21 1)))))) = .rangeFunc (.tmp 39) #[40, 41] (rfAsn Tryz.f21) (rfBody Tryz.f21) := by kernel_rfl
   rw [er, Nat.add_comm ins.length 3, show 3 + ins.length + 1 = 4 + ins.length by omega]
   refine lv_pass g2 hI hok (L := []) ?_
   intro es' ch' hP
   dsimp only
   obtain ⟨m, hm⟩ : ∃ m, es'[0]? = some m := ⟨_, List.getElem?_eq_getElem (by rw [hP.ok.len]; exact hn)⟩
   refine mcode_of_acode ?_
   refine view1 (F := FR (encI ins)) (L := []) hP.ok.len hm fitR (lv_r32 ?_)
   refine ⟨FSa, [(.loc 5, .cells [bv ch'])], ch', m, fitS5, rfl, ?_⟩
   rw [set_same hm]
   exact ⟨trivial, es', ch', hP, rfl⟩
 ·intro e q hq
  cases e with
  | normal =>
   obtain ⟨h1, es', ch', hP, rfl⟩ := hq
   refine ⟨lvA ins.length p s (.slice (encI ins)) d2 (lvRow (fun k => 3 + k) ins.length) ++ lvM 3 es', [(.out (3 + ins.length), .cells [bv ch'])], ?_, h1, es', ch', hP, rfl⟩
   show (((Name.out (3 + ins.length), AObj.cells [bv ch']) :: lvA ins.length p s (.slice (encI ins)) d2 (lvRow (fun k => 3 + k) ins.length)) ++ lvM 3 es').Perm _
   exact List.perm_append_comm (l₁ := [(Name.out (3 + ins.length), AObj.cells [bv ch'])])
  | exit i =>
   obtain ⟨rfl, h1, rfl⟩ := hq
   exact ⟨_, [], by rw [List.append_nil]; exact List.Perm.refl _, rfl, h1, rfl⟩
  | _ => exact hq.elim
 ·intro e q hq
  have hrow : hiL (ins.length + 3) (lvRow (fun k => 3 + k) ins.length) = false := hiL_row (fun k hk => by omega)
  have hheap : ∀ es' : List (List Int), es'.length = ins.length -> hiH (ins.length + 3) (lvA ins.length p s (.slice (encI ins)) d2 (lvRow (fun k => 3 + k) ins.length) ++ lvM 3 es') = false := fun es' he => hiH_app (hi_lvA (by omega) hrow) (hi_lvM (by omega))
  cases e with
  | normal =>
   obtain ⟨h1, es', ch', hP, rfl⟩ := hq
   have k1 : hiL 3 (tmL Fsl) = false := by kernel_rfl
   exact ⟨hiL_mono (by show 3 <= ins.length + 3; omega) k1, rfl, hheap es' hP.ok.len, h1, es', ch', hP, rfl⟩
  | exit i =>
   obtain ⟨rfl, h1, rfl⟩ := hq
   have k1 : hiL 3 (tmL ((36, bv false) :: Fsl)) = false := by kernel_rfl
   exact ⟨hiL_mono (by show 3 <= ins.length + 3; omega) k1, rfl, hheap es hok.len, rfl, h1, rfl⟩
  | _ => exact hq.elim
theorem lv_sweep (g2 : SlD d2) (hI : LvIns ins) {Q : Exit -> AState -> Prop} (hQ : ∀ es, LvF ins es -> Q .normal ((⟨(36, bv false) :: Fsl, [(.loc 5, .cells [bv false])], lvA ins.length p s (.slice (encI ins)) d2 (lvRow (fun k => 3 + k) ins.length) ++ lvM 3 es, ins.length + 3⟩ : FState).toA Tryz.f21.ntmps)) :
  MCode Tryz.prog xglobs (seqR (partL Tryz.f21 4)) Q (stS ins p s d2 (true, List.replicate ins.length [])) := by
 refine mcode_blockP 2 (by kernel_rfl) ?_
 have el : inLoop (inBlk (seqR (partL Tryz.f21 4))) = roundOf Tryz.f21 1 := by kernel_rfl
 have hkeep : ∀ x, (stS ins p s d2 x).keep [1, 3, 5] [5] = stS ins p s d2 x := fun x => by
  obtain ⟨ch, es⟩ := x
  show ((⟨Fsl, [(.loc 5, .cells [bv ch])], lvA ins.length p s (.slice (encI ins)) d2 (lvRow (fun k => 3 + k) ins.length) ++ lvM 3 es, ins.length + 3⟩ : FState).toA Tryz.f21.ntmps).keep [1, 3, 5] [5] = _
  kernel_rfl
 refine mcode_loopP (α := Bool × List (List Int)) (by kernel_rfl) [1, 3, 5] [5] (stS ins p s d2) (fun x => LvS ins x.2 /\ (x.1 = false -> LvF ins x.2)) (fun x => match x.1 with | true => ins.length * (univ ins.length (usL ins)).length - sumL x.2 + 1 | false => 0) (true, List.replicate ins.length []) ⟨lok_start, fun h => by simp at h⟩ (hkeep _) ?_
 rintro ⟨ch, es⟩ ⟨hok, hf⟩
 rw [el]
 refine mcode_mono (lv_sweep1 g2 hI hok) ?_
 intro e q hq
 cases e with
 | normal =>
  obtain ⟨rfl, es', ch', hP, rfl⟩ := hq
  refine ⟨(ch', es'), ⟨hP.ok, ?_⟩, ?_, hkeep _⟩
  ·intro h
   have h : ch' = false := h
   subst h
   exact hP.fix
  cases ch' with
  | false => show 0 < _ + 1; omega
  | true =>
   have h1 := hP.more rfl
   have h2 := hP.ok.bound
   show ins.length * (univ ins.length (usL ins)).length - sumL es' + 1 < ins.length * (univ ins.length (usL ins)).length - sumL es + 1
   omega
 | exit i =>
  obtain ⟨rfl, rfl, rfl⟩ := hq
  unfold seqQ
  dsimp only
  rw [if_pos rfl]
  exact hQ es (hf rfl)
 | _ => exact hq.elim
/-! ### The sorted sets -/
def ocR (es : List (List Int)) (k n : Nat) : List AVal := (List.range n).map fun j => if j < k then .dat (nlI (sortI (es.getD j []))) else .dat nl
theorem ocR_get {es : List (List Int)} {k n j : Nat} (h : j < n) : (ocR es k n)[j]? = some (if j < k then .dat (nlI (sortI (es.getD j []))) else .dat nl) := by
 unfold ocR
 rw [List.getElem?_map, List.getElem?_range h]; rfl
theorem ocR_len (es : List (List Int)) (k n : Nat) : (ocR es k n).length = n := by simp [ocR]
theorem ocR_dat (es : List (List Int)) (k n : Nat) : DatL (ocR es k n) := by
 intro a ha
 obtain ⟨j, _, rfl⟩ := List.mem_map.1 ha
 split
 ·exact ⟨_, rfl⟩
 exact ⟨_, rfl⟩
theorem nlI_isP (l : List Int) : isP (.dat (nlI l)) = false := by cases l <;> rfl
theorem ocR_isP (es : List (List Int)) (k n : Nat) : ∀ a ∈ ocR es k n, isP a = false := by
 intro a ha
 obtain ⟨j, _, rfl⟩ := List.mem_map.1 ha
 split
 ·exact nlI_isP _
 rfl
theorem DatL.noLoc {l : List AVal} (h : DatL l) : noLocO (.cells l) = true := by
 show noLocL l = true
 induction l with
 | nil => rfl
 | cons a r ih =>
  obtain ⟨d, rfl⟩ := h a List.mem_cons_self
  show (true && noLocL r) = true
  rw [ih (fun b hb => h b (List.mem_cons_of_mem _ hb))]; rfl
theorem ocR_set {es : List (List Int)} {k n : Nat} (h : k < n) : (ocR es k n).set k (.dat (nlI (sortI (es.getD k [])))) = ocR es (k + 1) n := by
 apply List.ext_getElem?
 intro j
 by_cases hj : j < n
 ·rw [List.getElem?_set, ocR_get hj, ocR_get hj, ocR_len]
  by_cases e : k = j
  ·subst e; simp [h]
  rw [if_neg e]
  congr 1
  by_cases h1 : j < k
  ·rw [if_pos h1, if_pos (by omega)]
  rw [if_neg h1, if_neg (by omega)]
 rw [List.getElem?_eq_none (by rw [List.length_set, ocR_len]; omega), List.getElem?_eq_none (by rw [ocR_len]; omega)]
theorem ocR_zero (es : List (List Int)) (n : Nat) : ocR es 0 n = List.replicate n (.dat nl) := by
 apply List.ext_getElem (by simp [ocR])
 intro j h1 h2
 simp [ocR]
theorem sortsI9 (m : Nat) : AnyZI.SortsIn Tryz.prog Tryz.sortedI_ren Fence.wide m :=
 ⟨fun blk off cap ss W hH hblk hsz => callsIn_wide.2 (AnyM.slices_Sort_int Tryz.sortI blk off cap ss W hH hblk hsz),
  fun p cap W => callsIn_wide.2 (AnyM.slices_Sort_int_none Tryz.sortI p cap W)⟩
theorem c_SortedI {heap : Heap} {next k m : Nat} {tl : List AVal} {ks : List Int} (hbox : aget (.out k) heap = some (.cells (.map (.out m) :: tl))) (hmap : aget (.out m) heap = some (.map (setM ks))) (hlen : ks.length <= 4294967296) (hnd0 : ks.Nodup) (hin : ∀ x ∈ ks, in64 x) :
  KC 56 [.fn (.func 91) [] [.ptr (.out k) 0]] heap next (XQ ⟨.dat (nlI (sortI ks)), heap, next⟩) :=
 c_sortedK (ρ := Tryz.sortedI_ren) (ρ' := Tryz.keysI_ren) Tryz.sortedI { Tryz.keysI with } (sortsI9 4) (enters_of Tryz.func59 (by kernel_rfl) rfl) (enters_of Tryz.func91 (by kernel_rfl) rfl) Tryz.underlying3 hbox hmap hlen hnd0 hin
theorem lv_sorted {n : Nat} {d1 : Dat} (hn : n < 1000000) {es : List (List Int)} (hes : es.length = n) (hnd : ∀ i, (es.getD i []).Nodup) (h64 : ∀ i x, x ∈ es.getD i [] -> in64 x) (hlen : ∀ i, (es.getD i []).length <= 4294967296) {Q : Exit -> AState -> Prop}
  (e : Q .normal ((⟨(112, bv false) :: FO n (Int.ofNat n) 2 (3 + n), [], lvHo n p s d1 d2 (ocR es n n) es, 4 + n⟩ : FState).toA Tryz.f21.ntmps)) :
  LvC (seqR (partL Tryz.f21 6)) Q ⟨FO n 0 2 (3 + n), [], lvHo n p s d1 d2 (List.replicate n (.dat nl)) es, 4 + n⟩ := by
 refine acode_blockP 12 (by kernel_rfl) ?_
 have el : inLoop (inBlk (seqR (partL Tryz.f21 6))) = roundOf Tryz.f21 2 := by kernel_rfl
 refine acode_loopP (α := Nat) (by kernel_rfl) (fun k => (⟨FO n (Int.ofNat k) 2 (3 + n), [], lvHo n p s d1 d2 (ocR es k n) es, 4 + n⟩ : FState).toA Tryz.f21.ntmps) (fun k => k <= n) (fun k => n - k) 0 (Nat.zero_le _) (by rw [ocR_zero]; rfl) ?_
 intro k hk
 rw [el]
 by_cases hlt : k < n
 ·obtain ⟨m, hm⟩ : ∃ m, es[k]? = some m := ⟨_, List.getElem?_eq_getElem (by rw [hes]; exact hlt)⟩
  have hmD : es.getD k [] = m := by rw [List.getD_eq_getElem?_getD, hm]; rfl
  have hw : wrapF .i64 (Int.ofNat k + 1) = Int.ofNat (k + 1) := wrap_of (by omega)
  refine view3 hes hm fitO (ocR_dat _ _ _) ?_
  have hset := ocR_set (es := es) hlt
  rw [hmD] at hset
  have hst := st_rowI (cs := ocR es k n) (k := k) (m := .out 3) (sortI m) (by rw [ocR_len]; exact hlt) (ocR_isP _ _ _)
  rw [hset] at hst
  have hKF := ACalls.frame (c_KeysI (E := setM m)) (fun _ => 4) (heap := lvBo n p s d1 d2 3 (ocR es k n) (lvRow (nm1 k) n) ++ [(.out 4, .map (setM m))]) (rest := lvBo n p s d1 d2 3 (ocR es k n) (lvRow (nm1 k) n)) (next := n + 5) (List.perm_append_comm) rfl rfl rfl rfl
  have hK : KC 57 [.map (.out 4)] (lvBo n p s d1 d2 3 (ocR es k n) (lvRow (nm1 k) n) ++ [(.out 4, .map (setM m))]) (n + 5) (XQ ⟨.fn (.func 91) [] [.ptr (.out (n + 5)) 0], (.out (n + 5), .cells [.map (.out 4)]) :: (.out 4, .map (setM m)) :: lvBo n p s d1 d2 3 (ocR es k n) (lvRow (nm1 k) n), n + 5 + 1⟩) := by
   refine hKF.mono ?_
   rintro v' h' m' ⟨v0, h1, n1, ⟨rfl, rfl, rfl⟩, rfl, rfl, rfl⟩
   exact ⟨rfl, rfl, rfl⟩
  have hS := c_SortedI (heap := (.out (n + 5), .cells [.map (.out 4)]) :: (.out 4, .map (setM m)) :: lvBo n p s d1 d2 3 (ocR es k n) (lvRow (nm1 k) n)) (next := n + 5 + 1) (k := n + 5) (m := 4) (tl := []) (ks := m) (by simp [aget]) (by
   simp only [aget]
   rw [if_neg (by simp)]
   simp) (by have := hlen k; rw [hmD] at this; exact this) (by have := hnd k; rw [hmD] at this; exact this) (fun x hx => h64 k x (by rw [hmD]; exact hx))
  have h := lv_12 (p := p) (s := s) (d1 := d1) (d2 := d2) (T := fun e q => e = .normal /\ q = (⟨FO n (Int.ofNat (k + 1)) 2 3, [], (.out (n + 5), .cells [.map (.out 4)]) :: (.out 4, .map (setM m)) :: lvBo n p s d1 d2 3 (ocR es (k + 1) n) (lvRow (nm1 k) n), n + 5 + 1⟩ : FState).toA Tryz.f21.ntmps) (N := n) (ltF_yes hlt) (ixw_maps hlt) (ld_row (by rw [row_get hlt, nm1_i])) hK hS (ixw_rows hlt) hst (ocR_dat _ _ _).noLoc (by rw [hw]; exact ⟨rfl, rfl⟩)
  rw [Nat.add_comm 5 n]
  refine ACode.low (Q := fun e q => e = .normal /\ q = (⟨FO n (Int.ofNat (k + 1)) 2 3, [], lH3 n p s d1 d2 k (ocR es (k + 1) n) m, n + 5 + 1⟩ : FState).toA Tryz.f21.ntmps) (ACode.lessQ h ?_) ?_
  ·rintro e' q ⟨rfl, rfl⟩
   refine ⟨lH3 n p s d1 d2 k (ocR es (k + 1) n) m, [(.out (n + 5), .cells [.map (.out 4)])], ?_, rfl, rfl⟩
   show ([(Name.out (n + 5), AObj.cells [.map (.out 4)])] ++ ([(Name.out 4, AObj.map (setM m))] ++ lvBo n p s d1 d2 3 (ocR es (k + 1) n) (lvRow (nm1 k) n))).Perm _
   refine List.perm_append_comm.trans (List.Perm.append_right _ ?_)
   exact List.perm_append_comm
  rintro e' q ⟨rfl, rfl⟩
  have k1 : hiL 4 (tmL (FO n (Int.ofNat (k + 1)) 2 3)) = false := fitO.lo
  refine ⟨hiL_mono (by show 4 <= n + 5; omega) k1, rfl, ?_, FO n (Int.ofNat (k + 1)), [], ocR es (k + 1) n, fitO, ocR_dat _ _ _, rfl, k + 1, hlt, by omega, rfl⟩
  show hiH (n + 5) (lvBo n p s d1 d2 3 (ocR es (k + 1) n) (lvRow (nm1 k) n) ++ [(.out 4, .map (setM m))]) = false
  have hb : ∀ q, q < 5 -> Nat.ble (n + 5) q = false := by
   intro q hq
   cases e : Nat.ble (n + 5) q with
   | true => have := ble_to e; omega
   | false => rfl
  refine hiH_app ?_ ?_
  ·have hr : hiL (n + 5) (lvRow (nm1 k) n) = false := hiL_row (fun q hq => by unfold nm1; split <;> omega)
   simp only [lvBo, hiH, hiO, hiL, hiV, hb 3 (by omega), hb 2 (by omega), hb 1 (by omega), hb 0 (by omega), (ocR_dat es (k + 1) n).hi, hr, Bool.or_false, Bool.false_or]
   rfl
  show (Nat.ble (n + 5) 4 || (false || false)) = false
  rw [hb 4 (by omega)]; rfl
 have : k = n := by omega
 subst this
 refine lv_12x (ltF_no hlt) ?_
 unfold seqQ
 dsimp only
 rw [if_pos rfl]
 exact e
theorem lv_ret {n b nx : Nat} {hp : Heap} {Q : AVal -> Heap -> Nat -> Prop} (h : Q (.win (.out b) 1 0 n) hp nx) : KD (partD Tryz.f21 8) (bodyQ (env Prims.fast) Tryz.f21.results.toList Q) ((⟨[(2, .win (.out b) 1 0 n)], [], hp, nx⟩ : FState).toA Tryz.f21.ntmps) := by
 have e : partD Tryz.f21 8 = .ret := by kernel_rfl
 rw [e]
 refine acode_here wpR_ret ?_
 have hr : retVals (env Prims.fast) ((⟨[(2, .win (.out b) 1 0 n)], [], hp, nx⟩ : FState).toA Tryz.f21.ntmps) Tryz.f21.results.toList = some [.win (.out b) 1 0 n] := by kernel_rfl
 show aret (env Prims.fast) Tryz.f21.results.toList Q ((⟨[(2, .win (.out b) 1 0 n)], [], hp, nx⟩ : FState).toA Tryz.f21.ntmps)
 unfold aret
 rw [hr]
 dsimp only
 rw [if_pos (by rfl)]
 exact h
/-- What Liveness gives for valid code. -/
noncomputable def liveL (ins : List Ins) : List (List Int) := liveS ins.length (suL ins) (usL ins) (dfL ins)
theorem c_Liveness (g2 : SlD d2) (hI : LvIns ins) (h0 : Calls1 13 [.dat (codeD p s (.slice (encI ins)) d2)] (iv 0)) : Calls1 21 [.dat (codeD p s (.slice (encI ins)) d2)] (.dat (.slice ((liveL ins).map nlI))) := by
 have hn := hI.len
 have hsu := suL_lt (ins := ins)
 have hlen : (liveL ins).length = ins.length := (liveS_eq hsu).1
 refine frzW (sz := 1) (len := ins.length) ?_ (by rw [List.length_map]; exact hlen) (by simp only [lim]; omega)
 refine acalls_of_mcode envF Tryz.func21 (c := bodyOf Tryz.f21) (by kernel_rfl) ?_
 intro _ _
 rw [← enter_slOf _ _ _ _ (by show 1 <= Tryz.f21.ntmps; decide)]
 have g1 : SlD (.slice (encI ins)) := .inr ⟨_, rfl⟩
 have hel : (encI ins).length = ins.length := encI_length ins
 refine mcode_seqA (c := partD Tryz.f21 0) (by kernel_rfl) (lv_p0 g1 g2 ?_)
 refine mcode_seqA (c := partD Tryz.f21 1) (by kernel_rfl) (lv_p1 g1 g2 h0 ?_)
 refine mcode_seqA (c := partD Tryz.f21 2) (by kernel_rfl) (lv_p2 (n := ins.length) (fs0 := List.replicate ins.length mNil) (by rw [hel]; exact mk_maps hn) (by rw [← mkRow_zero]; exact mkRow_noLoc _ _) ?_)
 refine mcode_seqA (c := partD Tryz.f21 3) (by kernel_rfl) (acode_seqP (c := partL Tryz.f21 3) (by kernel_rfl) (lv_p3 (lenw_maps (by omega)) (lv_make hn ?_)))
 refine mcode_seqP (c := partD Tryz.f21 4) (by kernel_rfl) (mcode_seqA (c := partL Tryz.f21 4) (by kernel_rfl) (lv_9 ?_))
 refine lv_sweep g2 hI ?_
 intro es hF
 refine mcode_of_acode ?_
 have hes := hF.1.len
 refine acode_seqP (c := partD Tryz.f21 5) (by kernel_rfl) (lv_34 (n := ins.length) (oc := List.replicate ins.length (.dat nl)) (lenw_maps (by omega)) (mk_rows hn) (by rw [← ocR_zero es]; exact (ocR_dat _ _ _).noLoc) ?_)
 refine acode_seqP (c := partD Tryz.f21 6) (by kernel_rfl) (acode_seqP (c := partL Tryz.f21 6) (by kernel_rfl) (lv_35 (q := ins.length) (lenw_maps (by omega)) ?_))
 rw [Nat.add_comm ins.length 3, show 3 + ins.length + 1 = 4 + ins.length by omega]
 refine lv_sorted hn hes hF.1.nd (fun i x hx => hI.u64 x (hF.1.sub i x hx)) (fun i => by
  have h1 := hF.1.len_le i
  have h2 := hI.ulen
  omega) ?_
 refine acode_seqP (c := partD Tryz.f21 7) (by kernel_rfl) (lv_40 ?_)
 refine lv_ret ?_
 refine ⟨3 + ins.length, ocR es ins.length ins.length, rfl, ?_, ?_⟩
 ·show aget (.out (3 + ins.length)) ((.out (3 + ins.length), _) :: _) = _
  simp [aget]
 intro i d hd
 have hll : liveL ins = es.map sortI := liveS_of hF
 rw [hll, List.map_map, List.getElem?_map] at hd
 obtain ⟨m, hm, rfl⟩ := Option.map_eq_some_iff.1 hd
 have hi : i < ins.length := by rw [← hes]; exact (List.getElem?_eq_some_iff.1 hm).1
 have hmD : es.getD i [] = m := by rw [List.getD_eq_getElem?_getD, hm]; rfl
 have hcl : ∀ l : List Int, (nlI l).cells = [nlI l] := fun l => by cases l <;> rfl
 refine ⟨by show (nlI (sortI m)).cells.length = 1; rw [hcl]; rfl, ?_⟩
 intro j c hc
 have hc : (nlI (sortI m)).cells[j]? = some c := hc
 rw [hcl] at hc
 cases j with
 | succ j => simp at hc
 | zero =>
  simp at hc
  subst hc
  refine ⟨.dat (nlI (sortI m)), ?_, by cases sortI m <;> rfl⟩
  rw [Nat.mul_one, Nat.add_zero, ocR_get hi, if_pos hi, hmD]
end
theorem x_check : Calls1 12 [] (bv true) := X_ok _ _ _ _ _ (by kernel_rfl)
def exI : List Ins := [⟨2, 1, 0, 0, 0, [], false, [], ⟨0, [], 0, []⟩, 0, 0, []⟩, ⟨19, 0, 1, 0, 0, [], false, [], ⟨0, [], 0, []⟩, 0, 0, []⟩]
theorem usC_one (y : Int) : usC [y] = [y] := by
 have e1 : sortI [y] = [y] := by simp [sortI]
 unfold usC
 rw [e1]
 simp [Go.Lib.compactUpTo, List.range, List.range.loop, Go.Lib.keeps]
theorem ex_us0 : usL exI 0 = [0] := by
 show usI _ = _
 unfold usI
 rw [show usP _ = [0] from rfl]
 exact usC_one 0
theorem ex_us1 : usL exI 1 = [1] := by
 show usI _ = _
 unfold usI
 rw [show usP _ = [1] from rfl]
 exact usC_one 1
theorem ex_su0 : suL exI 0 = [1] := by decide
theorem ex_su1 : suL exI 1 = [] := by decide
theorem ex_df0 : dfL exI 0 = some 1 := rfl
theorem ex_U : univ exI.length (usL exI) = [0, 1] := by
 show (List.range 2).flatMap (usL exI) = _
 have : List.range 2 = [0, 1] := rfl
 rw [this]
 simp [ex_us0, ex_us1]
theorem ex_fix : LFix exI.length (suL exI) (usL exI) (dfL exI) [[0], [1]] := by
 have hJ0 : ∀ s, Just (suL exI) (usL exI) (dfL exI) [[0], [1]] 0 s ↔ s = 0 := by
  intro s
  unfold Just
  rw [ex_us0, ex_su0, ex_df0]
  simp
  intro h1 h2
  exact absurd h1.symm h2
 have hJ1 : ∀ s, Just (suL exI) (usL exI) (dfL exI) [[0], [1]] 1 s ↔ s = 1 := by
  intro s
  unfold Just
  rw [ex_us1, ex_su1]
  simp
 have hl : exI.length = 2 := rfl
 refine ⟨⟨rfl, ?_, ?_, ?_, ?_⟩, ?_⟩
 ·intro i
  match i with
  | 0 => simp
  | 1 => simp
  | i + 2 => simp
 ·intro i s hs
  rw [ex_U]
  match i, hs with
  | 0, hs => simp at hs; simp [hs]
  | 1, hs => simp at hs; simp [hs]
  | i + 2, hs => simp at hs
 ·intro i hi s hs
  match i, hi, hs with
  | 0, _, hs => exact (hJ0 s).2 (by simpa using hs)
  | 1, _, hs => exact (hJ1 s).2 (by simpa using hs)
  | i + 2, hi, _ => rw [hl] at hi; omega
 ·intro X hX i hi s hs
  match i, hi, hs with
  | 0, _, hs =>
   simp at hs
   subst hs
   exact hX 0 (by decide) 0 (.inl (by rw [ex_us0]; simp))
  | 1, _, hs =>
   simp at hs
   subst hs
   exact hX 1 (by decide) 1 (.inl (by rw [ex_us1]; simp))
  | i + 2, hi, _ => rw [hl] at hi; omega
 intro i hi s
 match i, hi with
 | 0, _ => rw [hJ0]; simp
 | 1, _ => rw [hJ1]; simp
 | i + 2, hi => rw [hl] at hi; omega
theorem ex_live : liveL exI = [[0], [1]] := by
 have h := liveS_of ex_fix
 unfold liveL
 rw [h]
 simp [sortI]
theorem ex_ins : LvIns exI := by
 refine ⟨?_, by simp [exI], by decide, ?_, ?_, ?_, ?_⟩
 ·intro i x hx j hj
  match i, hx with
  | 0, hx =>
   simp [exI] at hx
   subst hx
   have : j ∈ ([1] : List Int) := hj
   simp at this
   subst this
   exact ⟨by decide, by decide⟩
  | 1, hx =>
   simp [exI] at hx
   subst hx
   have : j ∈ ([] : List Int) := hj
   simp at this
  | i + 2, hx => simp [exI] at hx
 ·intro x hx
  simp [exI] at hx
  rcases hx with rfl | rfl <;> simp
 ·intro i hi
  match i, hi with
  | 0, _ => decide
  | 1, _ => decide
  | i + 2, hi => exact absurd hi (by show ¬ i + 2 < 2; omega)
 ·intro x hx
  rw [ex_U] at hx
  simp at hx
  rcases hx with rfl | rfl <;> exact ⟨by decide, by decide⟩
 rw [ex_U]; decide
theorem x_live : Calls1 21 [.dat (codeD 1 2 (.slice (encI exI)) nl)] (.dat (.slice [.slice [iN 0], .slice [iN 1]])) := by
 have h := c_Liveness (ins := exI) (p := 1) (s := 2) (d2 := nl) (.inl rfl) ex_ins (X_ok _ _ _ _ _ (by kernel_rfl))
 rw [ex_live] at h
 exact h
abbrev xD (op dst a b im : Int) : Dat := insD op dst a b im [] nl 0 [] 0 nl 0 0 []
def xLoop : Dat := codeD 0 1 (.slice [xD 12 0 0 0 0]) nl
def xSlow : Dat := codeD 0 1 (.slice [xD 14 0 0 0 0, xD 12 0 0 0 0]) nl
def xOpen : Dat := codeD 0 1 (.slice [xD 18 0 0 0 0]) nl
theorem x_d1 : Calls1 22 [.dat (xD 2 4 0 0 0)] (.tup [iv 4, bv true]) := X_ok _ _ _ _ _ (by kernel_rfl)
theorem x_d2 : Calls1 22 [.dat (xD 14 0 0 0 0)] (.tup [iv 0, bv false]) := X_ok _ _ _ _ _ (by kernel_rfl)
theorem x_v1 : Calls1 13 [.dat xLoop] (iv 2) := X_ok _ _ _ _ _ (by kernel_rfl)
theorem x_v2 : Calls1 13 [.dat xSlow] (iv 0) := X_ok _ _ _ _ _ (by kernel_rfl)
theorem x_v3 : Calls1 13 [.dat xOpen] (iv 2) := X_ok _ _ _ _ _ (by kernel_rfl)
theorem x_v4 : Calls1 13 [.dat (codeD 0 1 (.slice [xD 19 0 0 0 0]) (.slice [.slice [.agg [i64 2, sb [], i64 0, i64 0, sb [], i64 0, nl, bl false, nl, sb [], i64 0, sb [], i64 0, nl, i64 0, i64 0, i64 1, .slice [xD 12 0 0 0 0], nl, sb []]]]))] (iv 2) := X_ok _ _ _ _ _ (by kernel_rfl)
theorem x_v5 : Calls1 13 [.dat (codeD 0 0 nl nl)] (iv 2) := X_ok _ _ _ _ _ (by kernel_rfl)
theorem x_s0 : Calls1 23 [.dat (.slice [iN 0]), .dat (.slice [iN 0])] (bv true) := X_ok _ _ _ _ _ (by kernel_rfl)
theorem x_s1 : Calls1 23 [.dat (.slice [iN 1]), .dat (.slice [iN 1])] (bv true) := X_ok _ _ _ _ _ (by kernel_rfl)
theorem x_s2 : Calls1 23 [.dat (.slice [iN 2]), .dat (.slice [iN 2])] (bv true) := X_ok _ _ _ _ _ (by kernel_rfl)
def slI : List Ins := [⟨14, 0, 0, 0, 0, [], false, [], ⟨0, [], 0, []⟩, 0, 0, []⟩, ⟨12, 0, 0, 0, 0, [], false, [], ⟨0, [], 0, []⟩, 0, 0, []⟩]
theorem x_nx : Calls1 40 [.dat xSlow, iv 1] (.dat (.slice [iN 0])) := c_next (p := 0) (sl := 1) (ins := slI) (d2 := nl) (i := 1) (x := ⟨12, 0, 0, 0, 0, [], false, [], ⟨0, [], 0, []⟩, 0, 0, []⟩) (.inl rfl) rfl (by decide)
theorem x_n1 : Calls1 16 [.dat xSlow, iv 1] (.dat (.slice [iN 0])) := by
 have h := x_nx
 refine co [] [] (x := .of Tryz.f16 ord16 live16) ?_; refine on h ?_; exact fi
theorem x_u : Calls1 24 [.dat (xD 3 0 2 1 5)] (.dat (.slice [iN 2])) := by
 have h := c_Uses ⟨3, 0, 2, 1, 5, [], false, [], ⟨0, [], 0, []⟩, 0, 0, []⟩ (by decide)
 unfold usI at h
 rw [show usP _ = [2] from rfl, usC_one] at h
 exact h
theorem x_n2 : Calls1 16 [.dat xSlow, iv 2] (.dat nl) := X_ok _ _ _ _ _ (by kernel_rfl)
theorem law_ok : Calls1 6 [] (bv true) := by
 have h1 := x_check
 have h2 := x_live
 have h3 := x_d1
 have h4 := x_d2
 have h5 := x_v1
 have h6 := x_v2
 have h7 := x_v3
 have h8 := x_v5
 have h9 := x_s0
 have h10 := x_s1
 have h11 := x_s2
 have h12 := x_n1
 have h13 := x_n2
 have h14 := x_u
 have h15 := x_v4
 refine co [] [] (x := .of Tryz.f6 ord6 live6) ?_; refine on h2 ?_; refine on h3 ?_; refine on h4 ?_; refine on h1 ?_; refine on h5 ?_; refine on h6 ?_; refine on h7 ?_; refine on h15 ?_; refine on h8 ?_; refine on h9 ?_; refine on h10 ?_; refine on h14 ?_; refine on h11 ?_; refine on h12 ?_; refine on h9 ?_; refine on h13 ?_; exact fi
end Go.Proofs.YtmpmgmmcaghacaaGreatDoor

namespace Go.Proofs.YtmpmgmmcaghacaaGreatDoor
open Go.ChangeShapes Go.WideShapes Go.ChangeAt Go.RowKit Go.Tp
theorem own : ownKnob Tryz.prog.godebug = none := by kernel_rfl
theorem greserved : Tryz.prog.globalNamed "telpher/typeterm.reserved" = some 8 := by kernel_rfl
theorem gprimitives : Tryz.prog.globalNamed "telpher/ir.primitives" = some 4 := by kernel_rfl
theorem gpow10 : Tryz.prog.globalNamed "internal/strconv.uint64pow10" = some 6 := by kernel_rfl
theorem globs_ok {W : World} (h : laidMetH Tryz.prog Rows.irExamplesRow.laid W) : ∀ g cs, xglobs g = some cs -> GlobAt W noOwn g cs := by
 have h' : laidMet Tryz.prog Rows.irExamplesRow.laid W := h
 obtain ⟨ps, ⟨_, _, _, _, _, _, _, _, _, _, ⟨_, _, _, _, _, _, _, _, _, _, ⟨g2, t2, cs2, fu2, p2, q2, a2, b2, c2, d2, ⟨g3, t3, cs3, fu3, p3, q3, a3, b3, c3, d3, ⟨g4, t4, cs4, fu4, p4, q4, a4, b4, c4, d4, _, _⟩, _⟩, _⟩, _⟩, _⟩, _⟩ := h'
 intro g cs hg
 unfold xglobs at hg
 split at hg
 ·obtain rfl := Option.some.inj hg
  exact glob_strs (l := primN) gprimitives (by kernel_rfl) Tryz.underlying70 Tryz.underlying9 (by kernel_rfl) (by decide) ⟨g4, t4, cs4, fu4, p4, a4, b4, c4, d4⟩
 ·obtain rfl := Option.some.inj hg
  exact glob_strs (l := resv) greserved (by kernel_rfl) Tryz.underlying70 Tryz.underlying9 (by kernel_rfl) (by decide) ⟨g3, t3, cs3, fu3, p3, a3, b3, c3, d3⟩
 ·obtain rfl := Option.some.inj hg
  exact glob_tab gpow10 (by kernel_rfl) Tryz.underlying206 Tryz.underlying162 (by kernel_rfl) (by kernel_rfl) (by kernel_rfl) ⟨g2, t2, cs2, fu2, p2, a2, b2, c2, d2⟩
 simp at hg
set_option maxRecDepth 100000 in
theorem contract (H : Type) (enc : TypeId × Value -> H) (W : World) (base : Nat) (args : Array Value) (ds gs : List (DataW H)) (before : List MemPlace)
  (hW : DataW.Whole enc Tryz.prog Tryz.f6.params.toList Rows.irExamplesSpec.vars false W args.toList ds gs before) (hL : laidMetH Tryz.prog Rows.irExamplesRow.laid W) :
  Calls Tryz.prog 6 args W fun e W' => ∃ v, e = .returned v /\ Rows.irExamplesSpec.post enc Tryz.prog Tryz.f6 false true false false W args v W' := by
 have hW' := hW
 obtain ⟨p, q, hA0, hV, rfl, hfz, hnd⟩ := hW
 have hA : DataW.TrodAll enc Tryz.prog W 0 (fun _ => true) true Tryz.f6.params.toList args.toList ds p := hA0
 rw [Tryz.params6] at hA
 obtain ⟨rfl, rfl, rfl⟩ := trodAll_none hA
 obtain ⟨rfl, rfl⟩ := trodVars_none hV
 refine (calls_of_acallsV W (args := []) repVs_nil law_ok rfl (globs_ok hL)).mono ?_
 rintro e W' ⟨rfl, hkp, hB⟩
 refine ⟨_, rfl, ?_⟩
 simp only [List.append_nil] at hW'
 refine ⟨_, _, _, [], [], [], hW', ?_, ?_, rfl, World.keptBut_mono (fun p hp => hp.elim) hkp, fun h => by cases h⟩
 ·exact trodAll_cons_mk (shut_bool Tryz.underlying4 _) trodAll_mk0
 exact trodAll_mk0
def tab32 : List Int := [0, 1, 28, 2, 29, 14, 24, 3, 30, 22, 20, 15, 25, 17, 4, 8, 31, 27, 13, 23, 21, 19, 16, 7, 26, 12, 18, 6, 11, 5, 10, 9]
def tab64 : List Int := [0, 1, 56, 2, 57, 49, 28, 3, 61, 58, 42, 50, 38, 29, 17, 4, 62, 47, 59, 36, 45, 43, 51, 22, 53, 39, 33, 30, 24, 18, 12, 5, 63, 55, 48, 27, 60, 41, 37, 16, 46, 35, 44, 21, 52, 32, 23, 11, 54, 26, 40, 15, 34, 20, 31, 10, 25, 14, 19, 9, 13, 8, 7, 6]
def pow10s : Nat -> Int -> List Int
 | 0, _ => []
 | n + 1, k => k :: pow10s n (k * 10)
/-- A world for the witness. -/
noncomputable def laidWorld (os : Os) : World :=
 let N := (World.settled Tryz.prog os).heap.size
 let strs (l : List (List UInt8)) : Array Value := (l.map fun b => Value.string ⟨⟨b⟩⟩).toArray
 let w0 := World.holding Tryz.prog os ⟨#[.cells (strs resv) 9, .cells (strs primN) 9], #[], []⟩
 let put (h : Array Obj) (g : Nat) (cs : Array Value) : Array Obj := h.modify g fun
  | .cells _ t frozen => .cells cs t frozen
  | o => o
 let ints (k : IntKind) (l : List Int) : Array Value := (l.map fun i => Value.int k i).toArray
 let h1 := put w0.heap 8 #[.slice (some ⟨N, 0, none⟩) 5 5]
 let h2 := put h1 4 #[.slice (some ⟨N + 1, 0, none⟩) 8 8]
 let h3 := put h2 6 (ints .u64 (pow10s 20 1))
 let h4 := put h3 9 (ints .u8 tab32)
 let h5 := put h4 10 (ints .u8 tab64)
 {w0 with heap := h5 }
theorem laid_met (os : Os) (args : Array Value) : laidMet Tryz.prog Rows.irExamplesRow.laid ((laidWorld os).forCall (fun _ _ => 0) ⟨#[], args, []⟩).memory :=
 laidMet_of_run' 16 (by kernel_rfl) (by kernel_rfl)
theorem reads (os : Os) {H : Type} (enc : TypeId × Value -> H) : ∃ places, DataW.whole enc Tryz.prog ((laidWorld os).forCall (fun _ _ => 0) ⟨#[], #[], []⟩).memory Tryz.f6.params.toList Rows.irExamplesSpec.vars false (#[] : Array Value).toList 8 = some ([], [], places) :=
 ⟨[], by kernel_rfl⟩
set_option maxRecDepth 100000 in
theorem lifted (os : Os) (started : os.Started) (H : Type) (enc : TypeId × Value -> H) (F : Stop.Interp) :
  ReturnsInHanded {} Tryz.checked os 6 .any ((OpenSpec.ofChange Rows.irExamplesSpec).preRow enc Tryz.prog Tryz.f6 Rows.irExamplesRow.domain false Rows.irExamplesRow.laid) (((OpenSpec.ofChange Rows.irExamplesSpec).at F).post enc Tryz.prog Tryz.f6 false true false false) := by
 obtain ⟨places, hx⟩ := reads os enc
 refine returnsInHanded_of_row (C := Tryz.checked) (s := OpenSpec.ofChange Rows.irExamplesSpec) own started (by kernel_rfl) Tryz.func6
  (witness_row_atRef (enc := enc) (C := Tryz.checked) false (laidWorld os) #[] rfl (by kernel_rfl) (by kernel_rfl) (by kernel_rfl)
   (OpenSpec.preRow_of_cond 8 hx (by kernel_rfl) (fun k hk => by cases hk) (by kernel_rfl) (laid_met os _))) ?_
 intro W base args ds gs before hval hW _ _ _ hL _ _
 exact contract H enc W base args ds gs before hW hL
end Go.Proofs.YtmpmgmmcaghacaaGreatDoor

namespace Go.Proofs.YtmpmgmmcaghacaaGreatDoor
open Go.ChangeShapes Go.WideShapes Go.ChangeAt Go.RowKit Go.Tp
set_option maxHeartbeats 4000000 in
set_option maxRecDepth 100000 in
theorem said : Rows.IrExamplesSaid :=
 OpenClaim.holds_of_cond 6 Tryz.f6 rfl rfl rfl rfl rfl rfl rfl ⟨rfl, rfl, rfl, rfl, rfl⟩ rfl rfl rfl rfl rfl (by as_aux_lemma => kernel_rfl) Tryz.func6 (by as_aux_lemma => kernel_rfl)
  (of_decide_eq_true (by as_aux_lemma => kernel_rfl)) (by unfold Func.isWrapper; first | (rw [if_pos (by decide +kernel)]; kernel_rfl) | (rw [if_neg (by decide +kernel)]; exact ⟨rfl, rfl⟩))
  (fun os started H enc _ F => by rw [OpenClaim.pre_eq_preRow]; exact lifted os started H enc F)
set_option maxRecDepth 100000 in
theorem plain (f : FuncId) (fn : Func) (hf : Tryz.pinned.checked.prog.funcNamed "telpher/tellaw13.IrExamples" = some f) (hfn : Tryz.pinned.checked.prog.funcs[f]? = some fn) :
  false = Tryz.pinned.checked.prog.looks [] /\ ∀ (j : Nat) t, fn.params[j]? = some t -> Tryz.pinned.checked.prog.wantsStandIn t = false := by
 obtain rfl : f = 6 := Option.some.inj ((show Tryz.prog.funcNamed "telpher/tellaw13.IrExamples" = some 6 by kernel_rfl).symm.trans hf) |>.symm
 obtain rfl : fn = Tryz.f6 := (Option.some.inj (Tryz.func6.symm.trans hfn)).symm
 refine ⟨by kernel_rfl, fun j t ht => ?_⟩
 rw [Tryz.params6] at ht
 simp at ht
/-- The card. -/
theorem irExamples_card : Rows.IrExamplesCardSaid :=
 Claim7.holds_tied_plain_at .later [] _ _ _ _ said (fun _ h => by cases h) (by kernel_rfl) (fun _ h => by cases h) irExamples_row_tie rfl ⟨rfl, rfl⟩ (by kernel_rfl) rfl plain (by kernel_rfl)
end Go.Proofs.YtmpmgmmcaghacaaGreatDoor
#print axioms Go.Proofs.YtmpmgmmcaghacaaGreatDoor.irExamples_card
