/- Part 3 of what the last text proves. -/
import Derived.Scope
import Derived.Test.YtmpmgmmcaghacaaGreatDoorQ02
set_option linter.unusedVariables false
set_option linter.unusedSimpArgs false
set_option maxRecDepth 100000
set_option maxHeartbeats 4000000
namespace Go.Tp
def eqB : List UInt8 -> List UInt8 -> Bool
 | [], [] => true
 | a :: x, b :: y => (match Nat.beq a.toNat b.toNat with | true => eqB x y | false => false)
 | _, _ => false
def ltB : List UInt8 -> List UInt8 -> Bool
 | _, [] => false
 | [], _ :: _ => true
 | a :: x, b :: y => (match Nat.blt a.toNat b.toNat with
  | true => true
  | false => (match Nat.beq a.toNat b.toNat with | true => ltB x y | false => false))
theorem beq_u8 (a b : UInt8) : Nat.beq a.toNat b.toNat = (a == b) := by
 rw [Bool.eq_iff_iff, Nat.beq_eq, beq_iff_eq]
 exact ⟨UInt8.toNat_inj.1, fun h => by rw [h]⟩
theorem blt_u8 (a b : UInt8) : Nat.blt a.toNat b.toNat = decide (a < b) := by
 rw [Bool.eq_iff_iff, Nat.blt_eq, decide_eq_true_eq]
 exact UInt8.lt_iff_toNat_lt.symm
theorem eqB_eq : ∀ x y, eqB x y = (x == y)
 | [], [] => rfl
 | [], _ :: _ => rfl
 | _ :: _, [] => rfl
 | a :: x, b :: y => by
  simp only [eqB, beq_u8, eqB_eq x y]
  cases h : a == b <;> simp_all
theorem ltB_eq : ∀ x y, ltB x y = Op.bytesLess x y
 | [], [] => rfl
 | [], _ :: _ => rfl
 | _ :: _, [] => rfl
 | a :: x, b :: y => by
  simp only [ltB, blt_u8, beq_u8, ltB_eq x y, Op.bytesLess]
  cases decide (a < b) <;> cases h : a == b <;> simp_all
theorem toList_data (x : ByteArray) : x.toList = x.data.toList := ByteArray.toList_eq x
def wrapF (k : IntKind) (n : Int) : Int :=
 match k with
 | .i64 => (match n with
  | .ofNat m => (match Nat.blt m 9223372036854775808 with | true => .ofNat m | false => k.wrap n)
  | .negSucc m => (match Nat.blt m 9223372036854775808 with | true => .negSucc m | false => k.wrap n))
 | .u8 => (match n with
  | .ofNat m => (match Nat.blt m 256 with | true => .ofNat m | false => k.wrap n)
  | .negSucc _ => k.wrap n)
 | .u64 => (match n with
  | .ofNat m => (match Nat.blt m 18446744073709551616 with | true => .ofNat m | false => k.wrap n)
  | .negSucc _ => k.wrap n)
 | _ => k.wrap n
theorem ble_mk {a b : Nat} (h : a <= b) : Nat.ble a b = true := by rw [Nat.ble_eq]; exact h
theorem ble_to {a b : Nat} (h : Nat.ble a b = true) : a <= b := by rwa [Nat.ble_eq] at h
theorem blt_to {a b : Nat} (h : Nat.blt a b = true) : a < b := by rwa [Nat.blt_eq] at h
theorem wrapF_eq (k : IntKind) (n : Int) : wrapF k n = k.wrap n := by
 unfold wrapF
 split
 ·split
  ·split
   ·rename_i m h
    have h := blt_to h
    simp [IntKind.wrap, IntKind.signed, IntKind.bits]
    omega
   rfl
  rename_i m
  split
  ·rename_i h
   have h := blt_to h
   have e : (Int.negSucc m : Int) = -(m : Int) - 1 := by rw [Int.negSucc_eq]; omega
   exact (wrap_i64 (by rw [e]; omega) (by rw [e]; omega)).symm
  rfl
 ·split
  ·split
   ·rename_i m h
    have h := blt_to h
    simp [IntKind.wrap, IntKind.signed, IntKind.bits]
    omega
   rfl
  rfl
 ·split
  ·split
   ·rename_i m h
    have h := blt_to h
    simp [IntKind.wrap, IntKind.signed, IntKind.bits]
    omega
   rfl
  rfl
 rfl
def ltF (a b : Int) : Bool :=
 match a, b with
 | .ofNat x, .ofNat y => Nat.blt x y
 | .negSucc x, .negSucc y => Nat.blt y x
 | .negSucc _, .ofNat _ => true
 | .ofNat _, .negSucc _ => false
theorem ltF_eq (a b : Int) : ltF a b = decide (a < b) := by
 cases a <;> cases b <;> simp only [ltF] <;> rw [Bool.eq_iff_iff] <;> simp [Nat.blt_eq] <;> omega
def eqF (a b : Int) : Bool :=
 match a, b with
 | .ofNat x, .ofNat y => Nat.beq x y
 | .negSucc x, .negSucc y => Nat.beq x y
 | .negSucc _, .ofNat _ => false
 | .ofNat _, .negSucc _ => false
theorem eqF_eq (a b : Int) : eqF a b = (a == b) := by
 cases a <;> cases b <;> simp only [eqF] <;> rw [Bool.eq_iff_iff] <;> simp <;> omega
def sameF : TypeDesc -> Value -> Value -> Option Bool
 | .string, .string a, .string b => some (eqB a.data.toList b.data.toList)
 | td, a, b => Instr.sameNow td a b
theorem sameF_eq (td : TypeDesc) (a b : Value) : sameF td a b = Instr.sameNow td a b := by
 unfold sameF
 split
 ·rename_i x y
  simp only [Instr.sameNow, eqB_eq, Option.some.injEq]
  obtain ⟨⟨a⟩⟩ := x
  obtain ⟨⟨b⟩⟩ := y
  have e : ((⟨⟨a⟩⟩ : ByteArray) == ⟨⟨b⟩⟩) = ((Array.mk a) == (Array.mk b)) := rfl
  rw [e]
  simp
 rfl
def findF (td : TypeDesc) (k : Value) : List (Value × Dat) -> Nat -> Option (Option (Nat × Dat))
 | [], _ => some none
 |(x, d) :: es, i =>
  match sameF td k x with
  | some true => some (some (i, d))
  | some false => findF td k es (i + 1)
  | none => none
theorem findF_eq (td : TypeDesc) (k : Value) : ∀ es i, findF td k es i = findKey td k es i
 | [], _ => rfl
 |(x, d) :: es, i => by
  simp only [findF, findKey, sameF_eq]
  cases h : Instr.sameNow td k x with
  | none => rfl
  | some b => cases b <;> simp [findF_eq td k es]
/-- All elements have as many cells. -/
def sizedB (size : Nat) : List Dat -> Bool
 | [] => true
 | d :: r => (match Nat.beq d.cells.length size with | true => sizedB size r | false => false)
theorem sizedB_iff {size : Nat} : ∀ {l : List Dat}, sizedB size l = true ↔ ∀ d ∈ l, d.cells.length = size
 | [] => by simp [sizedB]
 | d :: r => by
  simp only [sizedB]
  split
  ·rename_i h; rw [Nat.beq_eq] at h; rw [sizedB_iff]; simp [h]
  rename_i h
  have : ¬ d.cells.length = size := fun e => by rw [← Nat.beq_eq] at e; rw [e] at h; simp at h
  simp [this]
def getF {α : Type} : List α -> Nat -> Option α
 | [], _ => none
 | a :: _, 0 => some a
 | _ :: r, n + 1 => getF r n
theorem getF_eq {α : Type} : ∀ (l : List α) (n : Nat), getF l n = l[n]?
 | [], _ => by simp [getF]
 | _ :: _, 0 => by simp [getF]
 | _ :: r, n + 1 => by simp [getF, getF_eq r n]
def Prims.fast : Prims where
 wrap := wrapF
 add k a b := wrapF k (a + b)
 dif k a b := wrapF k (a - b)
 mul k a b := wrapF k (a * b)
 lt := ltF
 eq := eqF
 slt x y := ltB x.data.toList y.data.toList
 seq x y := eqB x.data.toList y.data.toList
 cat x y := (match Nat.ble (x.size + y.size) 9223372036854775807 with | true => some ⟨⟨x.data.toList ++ y.data.toList⟩⟩ | false => none)
 elt es i := (match i with | .ofNat n => getF es n | .negSucc _ => none)
 byte s i := (match i with | .ofNat n => getF s.data.toList n | .negSucc _ => none)
 sub size es lo hi := (match sizedB size es, Nat.blt 0 size with
   | true, true => (match boundOf hi es.length, boundOf lo 0 with
    | some h, some l => (match Nat.ble l h, Nat.ble h es.length with | true, true => some ((es.take h).drop l) | _, _ => none)
    | _, _ => none)
   | _, _ => none)
 ssub := Prims.std.ssub
 app size bytes es ds := (match size with
   | 0 => none
   | s + 1 => (match sizedB (s + 1) ds, sizedB (s + 1) es, Nat.blt 0 bytes, Nat.ble ((es.length + ds.length) * bytes) 140737488355328, Nat.ble (es.length + ds.length) lim with
    | true, true, true, true, true => some (es ++ ds)
    | _, _, _, _, _ => none))
 key td k es := findF td k es 0
 len := List.length
 slen := ByteArray.size
 rem := Int.tmod
 quo := Int.tdiv
 mx x y := (match ltF x y with | true => y | false => x)
theorem fast_std : Prims.fast = Prims.std := by
 unfold Prims.fast Prims.std
 congr 1
 ·funext k n; exact wrapF_eq k n
 ·funext k a b; exact wrapF_eq k _
 ·funext k a b; exact wrapF_eq k _
 ·funext k a b; exact wrapF_eq k _
 ·funext a b; exact ltF_eq a b
 ·funext a b; exact eqF_eq a b
 ·funext x y; rw [ltB_eq, toList_data, toList_data]
 ·funext x y; rw [eqB_eq, toList_data, toList_data]
 ·funext x y
  have hm : IntKind.i64.max = 9223372036854775807 := by decide
  have hc : (⟨⟨x.data.toList ++ y.data.toList⟩⟩ : ByteArray) = x ++ y := by
   have e : x ++ y = ⟨x.data ++ y.data⟩ := by
    cases x; cases y; simp [ByteArray.ext_iff]
   rw [e]
   cases x; cases y; simp
  rw [hc, hm]
  split
  ·rename_i h; rw [Nat.ble_eq] at h; rw [if_neg (by omega)]
  rename_i h
  have : ¬ x.size + y.size <= 9223372036854775807 := fun e => by rw [← Nat.ble_eq] at e; rw [e] at h; simp at h
  rw [if_pos (by omega)]
 ·funext es i
  cases i with
  | ofNat n => simp [getF_eq]
  | negSucc n => rfl
 ·funext s i
  cases i with
  | ofNat n =>
   simp only [getF_eq]
   rw [if_pos (show (0 : Int) <= Int.ofNat n from Int.natCast_nonneg n)]
   by_cases h : n < s.size
   ·rw [show (Int.ofNat n).toNat = n from rfl, getElem?_pos s n h]
    have h2 : n < s.data.toList.length := by simpa using h
    rw [List.getElem?_eq_getElem h2]
    simp [ByteArray.getElem_eq_getElem_data]
   rw [show (Int.ofNat n).toNat = n from rfl, getElem?_neg s n h, List.getElem?_eq_none (by simpa using h)]
  | negSucc n => rfl
 ·funext size es lo hi
  by_cases h1 : ∀ d ∈ es, d.cells.length = size
  ·rw [sizedB_iff.2 h1]
   by_cases h2 : 0 < size
   ·rw [if_pos ⟨h1, h2⟩, show Nat.blt 0 size = true from by rw [Nat.blt_eq]; exact h2]
    dsimp only
    cases boundOf hi es.length with
    | none => rfl
    | some h =>
     cases boundOf lo 0 with
     | none => rfl
     | some l =>
      dsimp only
      by_cases h3 : l <= h <;> by_cases h4 : h <= es.length
      ·rw [if_pos ⟨h3, h4⟩, ble_mk h3, ble_mk h4]
      ·rw [if_neg (fun h => h4 h.2), ble_mk h3, show Nat.ble h es.length = false from by rw [Bool.eq_false_iff]; intro e; exact h4 (ble_to e)]
      ·rw [if_neg (fun h => h3 h.1), show Nat.ble l h = false from by rw [Bool.eq_false_iff]; intro e; exact h3 (ble_to e)]
      rw [if_neg (fun h => h3 h.1), show Nat.ble l h = false from by rw [Bool.eq_false_iff]; intro e; exact h3 (ble_to e)]
   rw [if_neg (fun h => h2 h.2), show Nat.blt 0 size = false from by rw [Bool.eq_false_iff]; intro e; exact h2 (by rwa [Nat.blt_eq] at e)]
  rw [if_neg (fun h => h1 h.1), show sizedB size es = false from by rw [Bool.eq_false_iff]; intro e; exact h1 (sizedB_iff.1 e)]
 ·funext size bytes es ds
  cases size with
  | zero => rfl
  | succ s =>
   dsimp only
   by_cases hc : (∀ d ∈ ds, d.cells.length = s + 1) /\ (∀ d ∈ es, d.cells.length = s + 1) /\ 0 < bytes /\ (es.length + ds.length) * bytes <= 140737488355328 /\ es.length + ds.length <= lim
   ·rw [sizedB_iff.2 hc.1, sizedB_iff.2 hc.2.1, show Nat.blt 0 bytes = true from by rw [Nat.blt_eq]; exact hc.2.2.1, ble_mk hc.2.2.2.1, ble_mk hc.2.2.2.2]
    exact (if_pos hc).symm
   rw [if_neg hc]
   split
   ·rename_i a1 a2 a3 a4 a5
    rw [Nat.blt_eq] at a3
    exact absurd ⟨sizedB_iff.1 a1, sizedB_iff.1 a2, a3, ble_to a4, ble_to a5⟩ hc
   rfl
 ·funext td k es; exact findF_eq td k es 0
 funext x y
 rw [ltF_eq]
 by_cases h : x < y <;> simp [h]
end Go.Tp

namespace Go.Tp
abbrev Sl := List (Nat × AVal)
structure FState where
 sl : Sl
 locs : Heap
 heap : Heap
 next : Nat
/-- The value of a slot: the newest. -/
noncomputable def getS (l : Sl) (t : Nat) : AVal :=
 @List.rec (Nat × AVal) (fun _ => AVal) .undef (fun p _ ih => @Bool.rec (fun _ => AVal) ih p.2 (Nat.beq p.1 t)) l
theorem getS_nil (t : Nat) : getS [] t = .undef := rfl
theorem getS_cons (d : Nat) (v : AVal) (r : Sl) (t : Nat) : getS ((d, v) :: r) t = if d = t then v else getS r t := by
 have e : getS ((d, v) :: r) t = @Bool.rec (fun _ => AVal) (getS r t) v (Nat.beq d t) := rfl
 rw [e]
 by_cases h : d = t
 ·have : Nat.beq d t = true := by rw [Nat.beq_eq]; exact h
  rw [this, if_pos h]
 have : Nat.beq d t = false := by rw [Bool.eq_false_iff]; intro hc; rw [Nat.beq_eq] at hc; exact h hc
 rw [this, if_neg h]
noncomputable def mkS : Nat -> Nat -> Sl -> List AVal
 | 0, _, _ => []
 | n + 1, k, l => getS l k :: mkS n (k + 1) l
theorem mkS_length : ∀ (n k : Nat) (l : Sl), (mkS n k l).length = n
 | 0, _, _ => rfl
 | n + 1, k, l => by simp [mkS, mkS_length n]
theorem mkS_get : ∀ (n k : Nat) (l : Sl) (t : Nat), (mkS n k l)[t]? = if t < n then some (getS l (k + t)) else none
 | 0, _, _, _ => by simp [mkS]
 | n + 1, k, l, 0 => by simp [mkS]
 | n + 1, k, l, t + 1 => by
  simp only [mkS, List.getElem?_cons_succ, mkS_get n (k + 1) l t]
  rw [show k + 1 + t = k + (t + 1) by omega]
  by_cases h : t < n
  ·rw [if_pos h, if_pos (by omega)]
  rw [if_neg h, if_neg (by omega)]
theorem mkS_set (n : Nat) (l : Sl) (d : Nat) (v : AVal) : (mkS n 0 l).set d v = mkS n 0 ((d, v) :: l) := by
 apply List.ext_getElem?
 intro i
 rw [List.getElem?_set, mkS_length, mkS_get, mkS_get, Nat.zero_add, getS_cons]
 by_cases h : d = i
 ·subst h; simp
 rw [if_neg h, if_neg h]
noncomputable def mapS (f : AVal -> AVal) (l : Sl) : Sl := @List.rec (Nat × AVal) (fun _ => Sl) [] (fun p _ ih => (p.1, f p.2) :: ih) l
theorem mapS_get {f : AVal -> AVal} (hf : f .undef = .undef) (t : Nat) : ∀ l : Sl, getS (mapS f l) t = f (getS l t)
 | [] => by rw [show mapS f [] = [] from rfl, getS_nil, hf]
 |(d, v) :: r => by
  have e : mapS f ((d, v) :: r) = (d, f v) :: mapS f r := rfl
  rw [e, getS_cons, getS_cons]
  split
  ·rfl
  exact mapS_get hf t r
theorem mkS_map {f : AVal -> AVal} (hf : f .undef = .undef) : ∀ (n k : Nat) (l : Sl), (mkS n k l).map f = mkS n k (mapS f l)
 | 0, _, _ => rfl
 | n + 1, k, l => by simp only [mkS, List.map_cons, mapS_get hf, mkS_map hf n]
def purgeV (n : Name) (a : AVal) : AVal := if mentions n a = true then .undef else a
theorem purgeL_map (n : Name) : ∀ l, purgeL n l = l.map (purgeV n)
 | [] => rfl
 | a :: r => by rw [purgeL, purgeL_map n r]; rfl
theorem frzL_map (n : Name) (ds : List Dat) : ∀ l, frzL n ds l = l.map (frz n ds)
 | [] => by simp [frzL]
 | a :: r => by simp [frzL, frzL_map n ds r]
theorem renL_map (n m : Name) : ∀ l, renL n m l = l.map (ren n m)
 | [] => by simp [renL]
 | a :: r => by simp [renL, renL_map n m r]
noncomputable def FState.toA (n : Nat) (f : FState) : AState := ⟨mkS n 0 f.sl, f.locs, f.heap, f.next⟩
section
variable (E : TEnv) (G : Globs) (H : Hints) (n : Nat)
noncomputable def fget (f : FState) (t : Nat) : AVal := @Bool.rec (fun _ => AVal) .undef (getS f.sl t) (Nat.blt t n)
theorem fget_eq (f : FState) (t : Nat) : getT (f.toA n).tmps t = fget n f t := by
 unfold getT fget FState.toA
 rw [mkS_get]
 by_cases h : t < n
 ·have : Nat.blt t n = true := by rw [Nat.blt_eq]; exact h
  rw [if_pos h, this, Nat.zero_add]
 have : Nat.blt t n = false := by rw [Bool.eq_false_iff]; intro hc; rw [Nat.blt_eq] at hc; exact h hc
 rw [if_neg h, this]
def fput (f : FState) (dst : Option Tmp) (v : AVal) : FState :=
 match f, dst with
 | ⟨sl, locs, heap, next⟩, some d => ⟨(d, v) :: sl, locs, heap, next⟩
 | f, none => f
theorem fput_eq (f : FState) (dst : Option Tmp) (v : AVal) : (fput f dst v).toA n = (f.toA n).put dst v := by
 cases dst with
 | none => rfl
 | some d => simp only [fput, FState.toA, AState.put, mkS_set]
noncomputable def feval (f : FState) : Operand -> AVal
 | .tmp t => fget n f t
 | .const v => ofConst v
 | .global g => match G g with | some cs => .ref cs | none => .undef
 | .func g => .fn (.func g) [] []
theorem feval_eq (f : FState) (x : Operand) : aeval G (f.toA n) x = feval G n f x := by
 cases x with
 | tmp t => exact fget_eq n f t
 | const v => rfl
 | global g => rfl
 | func g => rfl
def isMv (mv : Option Nat) (k : Nat) : Bool := match mv with | none => false | some j => Nat.beq j k
theorem isMv_eq (mv : Option Nat) (k : Nat) : (isMv mv k = true) ↔ mv = some k := by
 cases mv with
 | none => simp [isMv]
 | some j => simp [isMv]
noncomputable def fargs (f : FState) (mv : Option Nat) : Nat -> List Operand -> List AVal
 | _, [] => []
 | k, x :: r => (match isMv mv k with | true => feval G n f x | false => unOwn (feval G n f x)) :: fargs f mv (k + 1) r
theorem fargs_eq (f : FState) (mv : Option Nat) : ∀ (xs : List Operand) (k : Nat), evalArgs G (f.toA n) mv k xs = fargs G n f mv k xs
 | [], _ => rfl
 | x :: r, k => by
  simp only [evalArgs, fargs, feval_eq, fargs_eq f mv r (k + 1)]
  by_cases h : mv = some k
  ·rw [if_pos h, (isMv_eq mv k).2 h]
  have : isMv mv k = false := by rw [Bool.eq_false_iff]; intro hc; exact h ((isMv_eq mv k).1 hc)
  rw [if_neg h, this]
noncomputable def fdrop (f : FState) (mv : Option Nat) (xs : List Operand) : FState :=
 match mv with
 | none => f
 | some k => match xs[k]? with
  | some (.tmp t) => fput f (some t) (unOwn (fget n f t))
  | _ => f
theorem fdrop_eq (f : FState) (mv : Option Nat) (xs : List Operand) : (fdrop n f mv xs).toA n = dropOwn (f.toA n) mv xs := by
 unfold fdrop dropOwn
 cases mv with
 | none => rfl
 | some k =>
  dsimp only
  cases h : xs[k]? with
  | none => rfl
  | some x =>
   cases x with
   | tmp t => rw [fput_eq]; simp only [AState.put, fget_eq]
   | _ => rfl
def nameB : Name -> Name -> Bool
 | .loc i, .loc j => Nat.beq i j
 | .out i, .out j => Nat.beq i j
 | _, _ => false
theorem nameB_iff (a b : Name) : nameB a b = true ↔ a = b := by
 cases a <;> cases b <;> simp [nameB]
def agetF (k : Name) : Heap -> Option AObj
 | [] => none
 |(m, o) :: r => match nameB m k with | true => some o | false => agetF k r
theorem agetF_eq (k : Name) : ∀ l, agetF k l = aget k l
 | [] => rfl
 |(m, o) :: r => by
  simp only [agetF, aget, agetF_eq k r]
  by_cases h : m = k
  ·rw [if_pos h, (nameB_iff m k).2 h]
  have : nameB m k = false := by rw [Bool.eq_false_iff]; intro hc; exact h ((nameB_iff m k).1 hc)
  rw [if_neg h, this]
def asetF (k : Name) (o' : AObj) : Heap -> Heap
 | [] => []
 |(m, o) :: r => match nameB m k with | true => (m, o') :: r | false => (m, o) :: asetF k o' r
def adelF (k : Name) : Heap -> Heap
 | [] => []
 |(m, o) :: r => match nameB m k with | true => adelF k r | false => (m, o) :: adelF k r
theorem asetF_eq (k : Name) (o' : AObj) : ∀ l, asetF k o' l = aset k o' l
 | [] => rfl
 |(m, o) :: r => by
  simp only [asetF, aset, asetF_eq k o' r]
  by_cases h : m = k
  ·rw [if_pos h, (nameB_iff m k).2 h]
  have : nameB m k = false := by rw [Bool.eq_false_iff]; intro hc; exact h ((nameB_iff m k).1 hc)
  rw [if_neg h, this]
theorem adelF_eq (k : Name) : ∀ l, adelF k l = adel k l
 | [] => rfl
 |(m, o) :: r => by
  simp only [adelF, adel, adelF_eq k r]
  by_cases h : m = k
  ·rw [if_pos h, (nameB_iff m k).2 h]
  have : nameB m k = false := by rw [Bool.eq_false_iff]; intro hc; exact h ((nameB_iff m k).1 hc)
  rw [if_neg h, this]
def fobj (f : FState) (k : Name) : Option AObj :=
 match k with
 | .loc i => agetF (.loc i) f.locs
 | .out o => agetF (.out o) f.heap
theorem fobj_eq (f : FState) (k : Name) : (f.toA n).obj k = fobj f k := by
 cases k <;> simp [AState.obj, fobj, FState.toA, agetF_eq]
def flooked (f : FState) (o : Op) (vals : List AVal) : Option AObj := match looks o vals with | some k => fobj f k | none => none
theorem flooked_eq (f : FState) (o : Op) (vals : List AVal) : lookedAt (f.toA n) o vals = flooked f o vals := by
 unfold lookedAt flooked
 cases looks o vals with
 | none => rfl
 | some k => exact fobj_eq n f k
def fsetObj (f : FState) (k : Name) (o : AObj) : Option FState :=
 match f, k with
 | ⟨sl, locs, heap, next⟩, .loc i => some ⟨sl, asetF (.loc i) o locs, heap, next⟩
 | ⟨sl, locs, heap, next⟩, .out i => if noLocO o = true then some ⟨sl, locs, asetF (.out i) o heap, next⟩ else none
theorem fsetObj_eq (f : FState) (k : Name) (o : AObj) : (f.toA n).setObj k o = (fsetObj f k o).map (·.toA n) := by
 obtain ⟨sl, locs, heap, next⟩ := f
 cases k with
 | loc i => simp [AState.setObj, fsetObj, FState.toA, asetF_eq]
 | out i =>
  simp only [AState.setObj, fsetObj, FState.toA, asetF_eq]
  split <;> simp [FState.toA]
noncomputable def fnew (f : FState) (d : Nat) (o : AObj) : FState :=
 match f with
 | ⟨sl, locs, heap, next⟩ => ⟨(d, newVal d o) :: mapS (purgeV (.loc d)) sl, (.loc d, o) :: purgeO (.loc d) locs, heap, next⟩
theorem fnew_eq (f : FState) (d : Nat) (o : AObj) : (fnew f d o).toA n = newObj (f.toA n) d o := by
 obtain ⟨sl, locs, heap, next⟩ := f
 simp only [fnew, newObj, FState.toA, purgeL_map]
 rw [mkS_map (f := purgeV (.loc d)) (by simp [purgeV, mentions]), mkS_set]
noncomputable def fnewRow (f : FState) (d : Nat) (o : AObj) (sz len : Nat) : FState :=
 match f with
 | ⟨sl, locs, heap, next⟩ => ⟨(d, .win (.loc d) sz 0 len) :: mapS (purgeV (.loc d)) sl, (.loc d, o) :: purgeO (.loc d) locs, heap, next⟩
theorem fnewRow_eq (f : FState) (d : Nat) (o : AObj) (sz len : Nat) : (fnewRow f d o sz len).toA n = newRowS (f.toA n) d o sz len := by
 obtain ⟨sl, locs, heap, next⟩ := f
 simp only [fnewRow, newRowS, FState.toA, purgeL_map]
 rw [mkS_map (f := purgeV (.loc d)) (by simp [purgeV, mentions]), mkS_set]
noncomputable def fstepOut (o : Oper) (k : Option Name) (f : FState) (out : Out) : Option FState :=
 match out with
 | ⟨val, eff⟩ => match eff with
  | .keep => some (fput f o.dst val)
  | .set ob' => (match k with
   | some k => (match fsetObj f k ob' with | some f => some (fput f o.dst val) | none => none)
   | none => none)
  | .new ob' => (match o.dst with
   | some d => if freshFor d ob' = true then some (fnew f d ob') else none
   | none => none)
  | .row ob' sz len => (match o.dst with
   | some d => if freshFor d ob' = true then some (fnewRow f d ob' sz len) else none
   | none => none)
  | .fresh ob' => (match f with
   | ⟨sl, locs, heap, next⟩ => if noLocO ob' = true then some (fput ⟨sl, locs, (.out next, ob') :: heap, next + 1⟩ o.dst (outVal next ob')) else none)
  | .grow ob' sz len => (match f with
   | ⟨sl, locs, heap, next⟩ => match k with
    | some (.loc j) => if noLocO ob' = true then some (fput ⟨sl, adelF (.loc j) locs, (.out next, ob') :: heap, next + 1⟩ o.dst (.win (.out next) sz 0 len)) else none
    | some (.out j) => if noLocO ob' = true then some (fput ⟨sl, locs, (.out next, ob') :: adelF (.out j) heap, next + 1⟩ o.dst (.win (.out next) sz 0 len)) else none
    | none => if noLocO ob' = true then some (fput ⟨sl, locs, (.out next, ob') :: heap, next + 1⟩ o.dst (.win (.out next) sz 0 len)) else none)
theorem fstepOut_eq (o : Oper) (k : Option Name) (f : FState) (out : Out) : astepOut o k (f.toA n) out = (fstepOut o k f out).map (·.toA n) := by
 obtain ⟨val, eff⟩ := out
 unfold astepOut fstepOut
 cases eff with
 | keep => simp [fput_eq]
 | set ob' =>
  cases k with
  | none => rfl
  | some k =>
   dsimp only
   rw [fsetObj_eq]
   cases fsetObj f k ob' with
   | none => rfl
   | some f' => simp [fput_eq]
 | new ob' =>
  dsimp only
  cases o.dst with
  | none => rfl
  | some d => dsimp only; split <;> simp [fnew_eq]
 | row ob' sz len =>
  dsimp only
  cases o.dst with
  | none => rfl
  | some d => dsimp only; split <;> simp [fnewRow_eq]
 | fresh ob' =>
  obtain ⟨sl, locs, heap, next⟩ := f
  dsimp only
  split
  ·simp only [Option.map_some, fput_eq]; rfl
  rfl
 | grow ob' sz len =>
  obtain ⟨sl, locs, heap, next⟩ := f
  dsimp only
  cases k with
  | none =>
   dsimp only
   split
   ·simp only [Option.map_some, fput_eq, adelF_eq]; rfl
   rfl
  | some k =>
   cases k with
   | loc j =>
    dsimp only
    split
    ·simp only [Option.map_some, fput_eq, adelF_eq]; rfl
    rfl
   | out j =>
    dsimp only
    split
    ·simp only [Option.map_some, fput_eq, adelF_eq]; rfl
    rfl
noncomputable def fstep1 (o : Oper) (mv : Option Nat) (xs : List Operand) (take : Bool) (f : FState) (vals : List AVal) : Option FState :=
 match aop E take o.op vals (flooked f o.op vals) with
 | none => none
 | some out => fstepOut o (looks o.op vals) (fdrop n f mv xs) out
noncomputable def fstep (q take : Bool) (o : Oper) (f : FState) : Option FState :=
 fstep1 E n o (mvQ q o.op) (opsL o.op) take f (fargs G n f (mvQ q o.op) 0 (opsL o.op))
theorem fstep_eq (q take : Bool) (o : Oper) (f : FState) : astep E G q take o (f.toA n) = (fstep E G n q take o f).map (·.toA n) := by
 unfold astep fstep fstep1
 rw [fargs_eq, flooked_eq]
 split
 ·rename_i h; rw [h]; rfl
 rename_i out h
 rw [h]
 dsimp only
 rw [← fdrop_eq, fstepOut_eq]
/-! Calls -/
noncomputable def ftake : FState -> List Operand -> List AVal × FState
 | f, [] => ([], f)
 | f, x :: r =>
  match ftake (fdrop n f (some 0) [x]) r with
  |(vs, f') => (feval G n f x :: vs, f')
theorem ftake_eq : ∀ (xs : List Operand) (f : FState), takeArgs G (f.toA n) xs = ((ftake G n f xs).1, (ftake G n f xs).2.toA n)
 | [], f => rfl
 | x :: r, f => by
  simp only [takeArgs, ftake, ← fdrop_eq, ftake_eq r, feval_eq]
noncomputable def fprep1 (fz : Bool) (k : Name) (f : FState) (args : List AVal) : Option (FState × List AVal) :=
 match f with
 | ⟨sl, locs, heap, next⟩ => match k, agetF k locs with
  | .loc _, some (.cells cs) =>
   match frzCells fz k args cs with
   | some ds => some (⟨mapS (frz k ds) sl, mapO (frzL k ds) (adel k locs), heap, next⟩, frzL k ds args)
   | none => if noLocL (renL k (.out next) cs) = true then
    some (⟨mapS (ren k (.out next)) sl, mapO (renL k (.out next)) (adel k locs), (.out next, .cells (renL k (.out next) cs)) :: heap, next + 1⟩, renL k (.out next) args)
   else none
  | .loc _, some (.map es) =>
   some (⟨mapS (ren k (.out next)) sl, mapO (renL k (.out next)) (adel k locs), (.out next, .map es) :: heap, next + 1⟩, renL k (.out next) args)
  | _, _ => none
theorem fprep1_eq (fz : Bool) (k : Name) (f : FState) (args : List AVal) : prep1 fz k (f.toA n) args = (fprep1 fz k f args).map (fun x => (x.1.toA n, x.2)) := by
 obtain ⟨sl, locs, heap, next⟩ := f
 unfold prep1 fprep1
 simp only [FState.toA, agetF_eq]
 cases k with
 | out i => rfl
 | loc i =>
  cases aget (.loc i) locs with
  | none => rfl
  | some ob =>
   cases ob with
   | cells cs =>
    dsimp only
    cases frzCells fz (.loc i) args cs with
    | some ds => simp only [frzL_map, Option.map_some, FState.toA]; rw [mkS_map (by simp [frz])]
    | none =>
     dsimp only
     by_cases hno : noLocL (renL (.loc i) (.out next) cs) = true
     ·refine (if_pos hno).trans ?_
      rw [if_pos hno]
      simp only [renL_map, Option.map_some, FState.toA]; rw [mkS_map (by simp [ren])]
     refine (if_neg hno).trans ?_
     rw [if_neg hno]; rfl
   | map es => simp only [renL_map, Option.map_some, FState.toA]; rw [mkS_map (by simp [ren])]
noncomputable def fprep (fz : Bool) : List Name -> FState -> List AVal -> FState × List AVal
 | [], f, args => (f, args)
 | k :: ks, f, args =>
  match fprep1 fz k f args with
  | some (f', args') => fprep fz ks f' args'
  | none => fprep fz ks f args
theorem fprep_eq (fz : Bool) : ∀ (ks : List Name) (f : FState) (args : List AVal), prep fz ks (f.toA n) args = ((fprep fz ks f args).1.toA n, (fprep fz ks f args).2)
 | [], _, _ => rfl
 | k :: ks, f, args => by
  simp only [prep, fprep, fprep1_eq]
  cases fprep1 fz k f args with
  | none => exact fprep_eq fz ks f args
  | some x => exact fprep_eq fz ks x.1 x.2
/-- What a call's arguments lead to. -/
def fneeded (f : FState) (args : List AVal) : List Name :=
 match addNew (namesL args) [] with
 | [] => []
 | l => twice (closeN f.locs f.locs.length l)
theorem fneeded_eq (f : FState) (args : List AVal) : needed (f.toA n) args = fneeded f args := rfl
noncomputable def fcallee (c : Call) (f : FState) : Option (FuncId × List AVal × FState) :=
 match c.callee with
 | .value x => (match feval G n f x with
  | .fn (.func g) first captured =>
   if E.fn g = true then
    match (match H.moves g with | true => ftake G n f c.args.toList | false => (fargs G n f none 0 c.args.toList, f)) with
    |(vs, f1) => (match fprep (!H.caps g) (fneeded f1 (first ++ vs ++ captured)) f1 (first ++ vs ++ captured) with
     |(f2, args) => if noLocL args = true then some (g, args, f2) else none)
   else none
  | _ => none)
 | _ => none
theorem fcallee_eq (c : Call) (f : FState) : acallee E G H c (f.toA n) = (fcallee E G H n c f).map (fun x => (x.1, x.2.1, x.2.2.toA n)) := by
 unfold acallee fcallee
 cases c.callee with
 | builtin b => rfl
 | invoke a b => rfl
 | value x =>
  dsimp only
  rw [feval_eq]
  cases feval G n f x with
  | fn fo first captured =>
   cases fo with
   | func g =>
    dsimp only
    by_cases hfn : E.fn g = true
    ·rw [if_pos hfn, if_pos hfn]
     have e : (if H.moves g = true then takeArgs G (f.toA n) c.args.toList else (evalArgs G (f.toA n) none 0 c.args.toList, f.toA n)) =
       ((match H.moves g with | true => ftake G n f c.args.toList | false => (fargs G n f none 0 c.args.toList, f)).1, (match H.moves g with | true => ftake G n f c.args.toList | false => (fargs G n f none 0 c.args.toList, f)).2.toA n) := by
      cases hm : H.moves g with
      | true => rw [if_pos rfl, ftake_eq]
      | false => rw [if_neg (by simp), fargs_eq]
     rw [e]
     generalize (match H.moves g with | true => ftake G n f c.args.toList | false => (fargs G n f none 0 c.args.toList, f)) = pr
     obtain ⟨vs, f1⟩ := pr
     dsimp only
     rw [fneeded_eq, fprep_eq]
     generalize fprep (!H.caps g) (fneeded f1 (first ++ vs ++ captured)) f1 (first ++ vs ++ captured) = pr
     obtain ⟨f2, args⟩ := pr
     dsimp only
     by_cases hno : noLocL args = true
     ·rw [if_pos hno, if_pos hno]; rfl
     rw [if_neg hno, if_neg hno]; rfl
    rw [if_neg hfn, if_neg hfn]; rfl
   | _ => rfl
  | _ => rfl
noncomputable def fcalleeD (c : Call) (f : FState) : Option (FuncId × List AVal × FState) :=
 match c.callee with
 | .value x => (match feval G n f x with
  | .fn (.func g) first captured =>
   if E.fn g = true then
    match (match H.moves g with | true => ftake G n f c.args.toList | false => (fargs G n f none 0 c.args.toList, f)) with
    |(vs, f1) => if noLocL (first ++ vs ++ captured) = true then some (g, first ++ vs ++ captured, f1) else none
   else none
  | _ => none)
 | _ => none
theorem fcalleeD_eq (c : Call) (f : FState) : acalleeD E G H c (f.toA n) = (fcalleeD E G H n c f).map (fun x => (x.1, x.2.1, x.2.2.toA n)) := by
 unfold acalleeD fcalleeD
 cases c.callee with
 | builtin b => rfl
 | invoke a b => rfl
 | value x =>
  dsimp only
  rw [feval_eq]
  cases feval G n f x with
  | fn fo first captured =>
   cases fo with
   | func g =>
    dsimp only
    by_cases hfn : E.fn g = true
    ·rw [if_pos hfn, if_pos hfn]
     have e : (if H.moves g = true then takeArgs G (f.toA n) c.args.toList else (evalArgs G (f.toA n) none 0 c.args.toList, f.toA n)) =
       ((match H.moves g with | true => ftake G n f c.args.toList | false => (fargs G n f none 0 c.args.toList, f)).1, (match H.moves g with | true => ftake G n f c.args.toList | false => (fargs G n f none 0 c.args.toList, f)).2.toA n) := by
      cases hm : H.moves g with
      | true => rw [if_pos rfl, ftake_eq]
      | false => rw [if_neg (by simp), fargs_eq]
     rw [e]
     generalize (match H.moves g with | true => ftake G n f c.args.toList | false => (fargs G n f none 0 c.args.toList, f)) = pr
     obtain ⟨vs, f1⟩ := pr
     dsimp only
     by_cases hno : noLocL (first ++ vs ++ captured) = true
     ·rw [if_pos hno, if_pos hno]; rfl
     rw [if_neg hno, if_neg hno]; rfl
    rw [if_neg hfn, if_neg hfn]; rfl
   | _ => rfl
  | _ => rfl
noncomputable def fwanted (ops : List Oper) (f : FState) (g : Option (Nat × Bool)) : Option Bool :=
 match g with
 | none => some true
 | some (j, want) => (match ops[j]? with
  | some o => (match o.dst with
   | some t => (match fget n f t with
    | .dat (.flat (.bool b)) => some (b == want)
    | .tup [] => some false
    | _ => none)
   | none => none)
  | none => none)
theorem fwanted_eq (ops : List Oper) (f : FState) (g : Option (Nat × Bool)) : wantedA ops (f.toA n) g = fwanted n ops f g := by
 unfold wantedA fwanted
 cases g with
 | none => rfl
 | some p =>
  obtain ⟨j, want⟩ := p
  dsimp only
  cases ops[j]? with
  | none => rfl
  | some o =>
   dsimp only
   cases o.dst with
   | none => rfl
   | some t => dsimp only; rw [fget_eq]; rfl
noncomputable def fstepQ (fh : Bool) (all : List Oper) (o : Oper) (f : FState) : Option AVal :=
 match fwanted n all f o.guard with
 | none => none
 | some b =>
  if b = true then
   if isAlloc o.op = true then (match aop E false o.op [] none with | some _ => some .undef | none => none)
   else (match isCall o.op with
    | some _ => none
    | none =>
     if (quietKind o.op && lookPure fh (looks o.op (fargs G n f none 0 (opsL o.op)))) = true then
      (match aop E false o.op (fargs G n f none 0 (opsL o.op)) (flooked f o.op (fargs G n f none 0 (opsL o.op))) with
       | some out => (match out.eff with | .keep => some out.val | _ => none)
       | none => none)
     else none)
  else some (.tup [])
theorem fstepQ_eq (fh : Bool) (all : List Oper) (o : Oper) (f : FState) : stepQ E G fh all o (f.toA n) = fstepQ E G n fh all o f := by
 unfold stepQ fstepQ
 rw [fwanted_eq, fargs_eq, flooked_eq]
 rfl
def fputO (f : FState) (k : Name) (o : AObj) : FState :=
 match f, k with
 | ⟨sl, locs, heap, next⟩, .loc i => ⟨sl, asetF (.loc i) o locs, heap, next⟩
 | ⟨sl, locs, heap, next⟩, .out i => ⟨sl, locs, asetF (.out i) o heap, next⟩
theorem fputO_eq (f : FState) (k : Name) (o : AObj) : (fputO f k o).toA n = (f.toA n).putO k o := by
 obtain ⟨sl, locs, heap, next⟩ := f
 cases k <;> simp [fputO, FState.toA, AState.putO, asetF_eq]
noncomputable def fshowTk (fh : Bool) (all : List Oper) : List Nat -> FState -> Option FState
 | [], f => some f
 | i :: r, f =>
  match all[i]? with
  | some o => (match o.op, o.dst, o.guard with
   | .load _ (.tmp u), some t, none => (match fget n f u with
    | .ptr k off => if okN fh k = true then (match fobj f k with
     | some (.cells cs) => (match cs[off]? with
      | some (.own es) => (match fget n f t with
       | .dat (.slice _) => fshowTk fh all r (fputO (fput f (some t) (.own es)) k (.cells (putL off [.dat (.slice es)] cs)))
       | _ => none)
      | _ => none)
     | _ => none) else none
    | _ => none)
   | _, _, _ => none)
  | none => none
theorem fshowTk_some (fh : Bool) (all : List Oper) : ∀ (tk : List Nat) (f f' : FState), fshowTk n fh all tk f = some f' -> showTk fh all tk (f.toA n) = some (f'.toA n)
 | [], f, f', h => by simp [fshowTk] at h; subst h; rfl
 | i :: r, f, f', h => by
  simp only [fshowTk] at h
  split at h
  ·rename_i o ho
   split at h
   ·rename_i T u t hop hd hg
    split at h
    ·rename_i k off hu
     split at h
     ·rename_i hok
      split at h
      ·rename_i cs hob
       split at h
       ·rename_i es hes
        split at h
        ·rename_i es2 ht
         have ih := fshowTk_some fh all r _ _ h
         rw [fputO_eq, fput_eq] at ih
         simp only [showTk, ho, hop, hd, hg]
         rw [fget_eq, hu]
         dsimp only
         rw [if_pos hok, fobj_eq, hob]
         dsimp only
         rw [hes]
         dsimp only
         rw [fget_eq, ht]
         exact ih
        simp at h
       simp at h
      simp at h
     simp at h
    simp at h
   simp at h
  simp at h
noncomputable def menS (m : Name) (l : Sl) : Bool := @List.rec (Nat × AVal) (fun _ => Bool) false (fun p _ ih => mentions m p.2 || ih) l
theorem menS_get {m : Name} (t : Nat) : ∀ {l : Sl}, menS m l = false -> mentions m (getS l t) = false
 | [], _ => by rw [getS_nil]; simp [mentions]
 |(d, v) :: r, h => by
  have e : menS m ((d, v) :: r) = (mentions m v || menS m r) := rfl
  rw [e, Bool.or_eq_false_iff] at h
  rw [getS_cons]
  split
  ·exact h.1
  exact menS_get t h.2
theorem menS_mk {m : Name} {l : Sl} (h : menS m l = false) : ∀ n k : Nat, mentionsL m (mkS n k l) = false
 | 0, _ => by simp [mkS, mentionsL]
 | n + 1, k => by simp only [mkS, mentionsL, menS_get k h, menS_mk h n (k + 1), Bool.or_self]
noncomputable def fshowMk (all : List Oper) (mk : Option Nat) (f : FState) : Option FState :=
 match mk with
 | none => some f
 | some i => (match all[i]? with
  | some o => (match o.op, o.dst, o.guard with
   | .alloc t, some d, none => (match E.ty t with
    | some ti => if okCells (acells (ofConst ti.zero)) = true /\ mentionsL (.loc d) (acells (ofConst ti.zero)) = false /\ d < n /\ menS (.loc d) f.sl = false then some (fnew f d (.cells (acells (ofConst ti.zero)))) else none
    | none => none)
   | _, _, _ => none)
  | none => none)
theorem fshowMk_some (all : List Oper) (mk : Option Nat) (f f' : FState) (h : fshowMk E n all mk f = some f') : showMk E all mk (f.toA n) = some (f'.toA n) := by
 unfold fshowMk at h
 unfold showMk
 have hl : (f.toA n).tmps.length = n := mkS_length n 0 f.sl
 cases mk with
 | none => simp at h; subst h; rfl
 | some i =>
  dsimp only at h ⊢
  cases hi : all[i]? with
  | none => rw [hi] at h; simp at h
  | some o =>
   rw [hi] at h
   dsimp only at h ⊢
   split at h
   ·rename_i t d hop hd hg
    rw [hop, hd, hg]
    dsimp only
    cases hty : E.ty t with
    | none => rw [hty] at h; simp at h
    | some ti =>
     rw [hty] at h
     dsimp only at h ⊢
     rw [hl]
     split at h
     ·rename_i hc
      rw [if_pos ⟨hc.1, hc.2.1, hc.2.2.1, menS_mk hc.2.2.2 n 0⟩]
      simp at h
      subst h
      rw [fnew_eq]
     simp at h
   simp at h
end
end Go.Tp

namespace Go.Tp
def cellDat : AVal -> Option Dat
 | .dat (.flat v) => some (.flat v)
 | .dat (.slice es) => some (.slice es)
 | .own es => some (.slice es)
 | _ => none
def cellDats : Nat -> List AVal -> Option (List Dat)
 | 0, _ => some []
 | n + 1, a :: r => (match cellDat a with | some d => (match cellDats n r with | some l => some (d :: l) | none => none) | none => none)
 | _ + 1, [] => none
def rowFrzC (n len : Nat) (ob : Option AObj) : Option (Nat × List Dat) :=
 match ob with
 | some (.cells cs) => (match Nat.ble len 4294967296 with
  | true => (match cellDats len cs with | some (e :: es) => some (n, e :: es) | _ => none)
  | false => none)
 | _ => none
/-- The row that a value looks at (from its first element on; elements of one cell). -/
def rowOf (a : AVal) : Option (Nat × Nat) :=
 match a with
 | .win (.out n) 1 0 len => some (n, len)
 | _ => none
/-- .. as data. -/
def rowFrzV (a : AVal) (heap : List (Name × AObj)) : Option (Nat × List Dat) :=
 match rowOf a with
 | some x => rowFrzC x.1 x.2 (aget (.out x.1) heap)
 | none => none
def rowFrz (t : Nat) (s : AState) : Option AState :=
 match rowFrzV (getT s.tmps t) s.heap with
 | some (n, es) => some { s with tmps := s.tmps.set t (.dat (.slice es)), heap := adel (.out n) s.heap }
 | none => none
/-- What a state describes, the other describes too, with what may be written drawn in and names added. -/
def Ghost (G : Globs) (s s2 : AState) : Prop :=
 ∀ (w : World) (R : Own) (N : Name -> Option Nat) (tmps : List Value) (bsT bsL bsH bsF : List Nat), RelB G w R N tmps s undef .undef [] bsT bsL bsH bsF ->
  ∃ R' N' bsT' bsL' bsH', RelB G w R' N' tmps s2 undef .undef [] bsT' bsL' bsH' bsF /\ Keep w R w R' bsF /\ (∀ o b, N (.out o) = some b -> N' (.out o) = some b)
theorem Ghost.refl (G : Globs) (s : AState) : Ghost G s s := fun _ R N _ bsT bsL bsH _ h => ⟨R, N, bsT, bsL, bsH, h, keep_refl _, fun _ _ h => h⟩
theorem Ghost.trans {G : Globs} {s s2 s3 : AState} (h : Ghost G s s2) (k : Ghost G s2 s3) : Ghost G s s3 := fun w R N tmps bsT bsL bsH bsF hr => by
 obtain ⟨R1, N1, t1, l1, h1, q1, q2, q3⟩ := h w R N tmps bsT bsL bsH bsF hr
 obtain ⟨R2, N2, t2, l2, h2, p1, p2, p3⟩ := k w R1 N1 tmps t1 l1 h1 bsF q1
 exact ⟨R2, N2, t2, l2, h2, p1, q2.trans p2, fun o b ho => p3 o b (q3 o b ho)⟩
theorem cellDats_spec : ∀ {n : Nat} {cs : List AVal} {es : List Dat}, cellDats n cs = some es -> es.length = n /\ ∀ (i : Nat) (d : Dat), es[i]? = some d -> ∃ a, cs[i]? = some a /\ cellDat a = some d
 | 0, _, es, h => by simp [cellDats] at h; subst h; simp
 | n + 1, [], es, h => by simp [cellDats] at h
 | n + 1, a :: r, es, h => by
  unfold cellDats at h
  split at h
  ·rename_i d hd
   split at h
   ·rename_i l hl
    simp at h
    subst h
    obtain ⟨h1, h2⟩ := cellDats_spec hl
    refine ⟨by simp [h1], fun i d' hi => ?_⟩
    cases i with
    | zero => simp at hi; subst hi; exact ⟨a, rfl, hd⟩
    | succ i => simpa using h2 i d' (by simpa using hi)
   simp at h
  simp at h
theorem cellDat_rep {w : World} {R : Own} {N : Name -> Option Nat} {a : AVal} {d : Dat} (h : cellDat a = some d) {v : Value} {bs : List Nat} (hr : RepV w R N a v bs) : RepC w R v d /\ d.cells.length = 1 := by
 unfold cellDat at h
 split at h
 ·simp at h; subst h; exact ⟨(repV_dat_inv hr).2, rfl⟩
 ·simp at h; subst h; exact ⟨(repV_dat_inv hr).2, rfl⟩
 ·simp at h; subst h; exact ⟨(repV_own_inv hr).rep, rfl⟩
 simp at h
theorem ghost_frz {G : Globs} {t : Nat} {s s2 : AState} (h : rowFrz t s = some s2) : Ghost G s s2 := by
 unfold rowFrz at h
 split at h
 rotate_left
 ·simp at h
 rename_i n es hv
 simp only [Option.some.injEq] at h
 subst h
 unfold rowFrzV at hv
 split at hv
 rotate_left
 ·simp at hv
 rename_i x hx
 obtain ⟨m, len⟩ := x
 have hwin : getT s.tmps t = .win (.out m) 1 0 len := by
  unfold rowOf at hx
  split at hx
  ·rename_i n' len' h'
   simp only [Option.some.injEq, Prod.mk.injEq] at hx
   obtain ⟨rfl, rfl⟩ := hx
   exact h'
  simp at hx
 dsimp only at hv
 unfold rowFrzC at hv
 split at hv
 rotate_left
 ·simp at hv
 rename_i cs hob
 split at hv
 rotate_left
 ·simp at hv
 rename_i hlen
 have hlen := Nat.le_of_ble_eq_true hlen
 split at hv
 rotate_left
 ·simp at hv
 rename_i e0 es0 hcd
 simp only [Option.some.injEq, Prod.mk.injEq] at hv
 obtain ⟨rfl, rfl⟩ := hv
 obtain ⟨hel, hcs⟩ := cellDats_spec hcd
 intro w R N tmps bsT bsL bsH bsF hr
 have htg := getT_some hwin (by simp)
 obtain ⟨v, bs0, g1, g2, _⟩ := repVs_get hr.tmps htg
 simp only [RepV] at g2
 obtain ⟨_, b, cap, hb, rfl, hcap, _, hblt, hrow⟩ := g2
 obtain ⟨pre, b', b1, post, e1, hb', hobj, _, bs', hdel, hsub⟩ := RepObjs.split_del hr.heap hob
 have : b' = b := by simp only [outs] at hb'; rw [hb] at hb'; simpa using hb'.symm
 subst this
 obtain ⟨vs, elem, sp, hblk, hrv, hRv, _⟩ := hobj
 obtain ⟨R', hR'⟩ : ∃ R' : Own, R' = fun c off => c ≠ b' /\ R c off := ⟨_, rfl⟩
 have hstep : Step w R w R' := ⟨rfl, rfl, rfl, Nat.le_refl _, fun c _ hno => ⟨rfl, fun off h => by subst hR'; exact hno off h.2⟩, fun c off _ hno => ⟨fun h => by subst hR'; exact hno h.2, rfl⟩, fun _ _ => rfl⟩
 have hk : ∀ bs, b' ∉ bs -> Keep w R w R' bs := fun bs hbs => ⟨hstep, fun c hc _ => ⟨rfl, fun off h => by subst hR'; exact ⟨fun e => hbs (e ▸ hc), h⟩⟩⟩
 have hnd := hr.nodup
 simp only [List.nil_append] at hnd
 subst e1
 have hp : (bsT ++ (bsL ++ ((pre ++ (b' :: b1) ++ post) ++ bsF))).Perm (b' :: (b1 ++ (bsT ++ (bsL ++ ((pre ++ post) ++ bsF))))) := by
  rw [List.perm_iff_count]; intro q; simp only [List.count_append, List.count_cons]; omega
 have hnd2 := List.nodup_cons.1 (hp.nodup_iff.1 hnd)
 have hno := hnd2.1
 simp only [List.mem_append, not_or] at hno
 obtain ⟨_, n1, n2, ⟨n3, n3'⟩, n4⟩ := hno
 have n5 : b' ∉ bs' := fun hm => by
  rcases List.mem_append.1 (hsub.subset hm) with h | h
  ·exact n3 h
  exact n3' h
 have hrep : RepC w R' (.slice (some ⟨b', 0, none⟩) len cap) (.slice (e0 :: es0)) := by
  have hl : (e0 :: es0).length = len := hel
  rw [← hl]
  have hcell : ∀ i, i < (e0 :: es0).length -> ∃ a x bx, cs[i]? = some a /\ cellDat a = some (e0 :: es0)[i]! /\ vs[i]? = some x /\ RepV w R (outs N) a x bx := by
   intro i hi
   obtain ⟨a, ha, hd⟩ := hcs i _ (List.getElem?_eq_getElem hi)
   obtain ⟨x, bx, q1, q2, _⟩ := repVs_get hrv (get_pad ha)
   exact ⟨a, x, bx, ha, by rw [hd, getElem!_pos _ i hi], by rw [← Array.getElem?_toList]; exact q1, q2⟩
  refine .slice b' 0 cap 1 _ (fun i _ => vs[i]?.getD default) (by omega) ?_ (by rw [hl]; exact hcap) (by rw [hl]; simp only [lim]; omega) ?_ ?_
  ·intro e he
   obtain ⟨i, hi, rfl⟩ := List.getElem_of_mem he
   obtain ⟨a, x, bx, _, hd, _, hx⟩ := hcell i hi
   rw [getElem!_pos _ i hi] at hd
   exact (cellDat_rep hd hx).2
  ·intro i j hi hj
   obtain ⟨a, x, bx, _, hd, hvx, hx⟩ := hcell i hi
   have : j = 0 := by omega
   subst this
   refine ⟨?_, fun h => by subst hR'; exact h.1 rfl⟩
   rw [cell_of_row w b' _ vs elem (0, 0) hblk]
   simp [hvx]
  ·intro i j e c he hc
   have hi : i < (e0 :: es0).length := (List.getElem?_eq_some_iff.1 he).1
   obtain ⟨a, x, bx, _, hd, hvx, hx⟩ := hcell i hi
   have hee : (e0 :: es0)[i]! = e := by
    rw [getElem!_pos _ i hi]
    rw [List.getElem?_eq_getElem hi] at he
    simpa using he
   rw [hee] at hd
   obtain ⟨k1, k2⟩ := cellDat_rep hd hx
   have hc' : c = e := by
    unfold cellDat at hd
    split at hd
    all_goals first
     |(simp at hd; subst hd; cases j with
      | zero => simpa [Dat.cells] using hc.symm
      | succ j => simp [Dat.cells] at hc)
     |simp at hd
   subst hc'
   rw [hvx]
   exact k1.step hstep
 obtain ⟨bsT2, p1, p2⟩ := put_tmps (a := .dat (.slice (e0 :: es0))) (v := .slice (some ⟨b', 0, none⟩) len cap) (b := []) (X := bsL ++ (bs' ++ bsF)) t (hr.tmps.keep (hk bsT n1)) (repV_dat (d := .slice (e0 :: es0)) hrep) (by
  have h2 := (List.nodup_append.1 hnd2.2).2.1
  rw [List.nil_append]
  refine List.Nodup.sublist ?_ h2
  exact List.Sublist.append (.refl _) (List.Sublist.append (.refl _) (List.Sublist.append hsub (.refl _))))
 have hsame : tmps.set t (.slice (some ⟨b', 0, none⟩) len cap) = tmps := by
  apply List.ext_getElem?
  intro j
  rw [List.getElem?_set]
  split
  ·rename_i hj; subst hj; split
   ·exact g1.symm
   rename_i hl; rw [List.getElem?_eq_none (by omega)]
  rfl
 rw [hsame] at p1
 exact ⟨R', N, bsT2, bsL, bs', ⟨repV_undef _, p1, hr.locs.keep (hk bsL n2), hdel.keep (hk bs' n5), by simpa using p2, hr.next, fun g cs hg => (hr.glob g cs hg).step hstep, hr.frame⟩, hk bsF n4, fun _ _ h => h⟩
theorem ghost_prep {G : Globs} (ns : List Name) (s : AState) : Ghost G s (prep false ns s []).1 := by
 intro w R N tmps bsT bsL bsH bsF hr
 have hr0 : RelB G w R N tmps s (.tuple ([] : List Value).toArray) (.tup []) [] bsT bsL bsH bsF := ⟨by simp [RepV, RepVs], hr.tmps, hr.locs, hr.heap, hr.nodup, hr.next, hr.glob, hr.frame⟩
 have he : prep false ns s [] = ((prep false ns s []).1, (prep false ns s []).2) := rfl
 obtain ⟨R', N', bsV', bsT', bsL', bsH', h1, h2, h3, _⟩ := prep_sound he hr0
 refine ⟨R', N', bsT', bsL', bsH', ⟨repV_undef _, h1.tmps, h1.locs, h1.heap, ?_, h1.next, h1.glob, h1.frame⟩, h2, h3⟩
 have := h1.nodup
 simpa using (List.nodup_append.1 this).2.1
end Go.Tp

namespace Go.Tp
/-! ### Slots that are not read any more -/
noncomputable def pruneS (l : Sl) : Nat -> Sl :=
 @List.rec (Nat × AVal) (fun _ => Nat -> Sl) (fun _ => []) (fun p _ ih m => @Bool.rec (fun _ => Sl) (p :: ih (Nat.xor m (Nat.pow 2 p.1))) (ih m) (Nat.beq (Nat.land 1 (Nat.shiftRight m p.1)) 0)) l
theorem bitB (m d : Nat) : Nat.beq (Nat.land 1 (Nat.shiftRight m d)) 0 = !(m.testBit d) := by
 have e : m.testBit d = (Nat.land 1 (Nat.shiftRight m d) != 0) := rfl
 rw [e]
 generalize Nat.land 1 (Nat.shiftRight m d) = x
 by_cases h : x = 0
 ·subst h; rfl
 have h1 : Nat.beq x 0 = false := by rw [Bool.eq_false_iff]; intro hc; rw [Nat.beq_eq] at hc; exact h hc
 have h2 : (x != 0) = true := by simpa using h
 rw [h1, h2]; rfl
theorem pruneS_cons (d : Nat) (v : AVal) (r : Sl) (m : Nat) : pruneS ((d, v) :: r) m = if m.testBit d = true then (d, v) :: pruneS r (m ^^^ 2 ^ d) else pruneS r m := by
 have e : pruneS ((d, v) :: r) m = @Bool.rec (fun _ => Sl) ((d, v) :: pruneS r (m ^^^ 2 ^ d)) (pruneS r m) (Nat.beq (Nat.land 1 (Nat.shiftRight m d)) 0) := rfl
 rw [e, bitB]
 cases m.testBit d <;> simp
theorem pruneS_off : ∀ (l : Sl) (m t : Nat), m.testBit t = false -> getS (pruneS l m) t = .undef
 | [], _, _, _ => rfl
 |(d, v) :: r, m, t, h => by
  rw [pruneS_cons]
  split
  ·rename_i hd
   have hne : d ≠ t := fun e => by rw [e, h] at hd; simp at hd
   rw [getS_cons, if_neg hne]
   apply pruneS_off
   rw [Nat.testBit_xor, h, Nat.testBit_two_pow_of_ne hne]; rfl
  exact pruneS_off r m t h
theorem pruneS_get : ∀ (l : Sl) (m t : Nat), getS (pruneS l m) t = getS l t ∨ getS (pruneS l m) t = .undef
 | [], _, _ => .inl rfl
 |(d, v) :: r, m, t => by
  rw [pruneS_cons, getS_cons]
  split
  ·rw [getS_cons]
   split
   ·exact .inl rfl
   exact pruneS_get r _ t
  rename_i hd
  split
  ·rename_i he
   subst he
   exact .inr (pruneS_off r m d (by simpa using hd))
  exact pruneS_get r m t
theorem mask_rep {w : World} {R : Own} {N : Name -> Option Nat} : ∀ {as as' : List AVal} {vs : List Value} {bs : List Nat}, as'.length = as.length -> (∀ i : Nat, as'[i]? = as[i]? ∨ as'[i]? = some .undef) -> RepVs w R N as vs bs -> ∃ bs', RepVs w R N as' vs bs' /\ bs'.Sublist bs
 | [], [], _, bs, _, _, h => ⟨bs, h, .refl _⟩
 | [], _ :: _, _, _, hl, _, _ => by simp at hl
 | _ :: _, [], _, _, hl, _, _ => by simp at hl
 | a :: as, a' :: as', vs, bs, hl, hi, h => by
  obtain ⟨v, vs', b1, b2, rfl, rfl, h1, h2⟩ := repVs_cons_inv h
  obtain ⟨bs', k1, k2⟩ := mask_rep (as := as) (as' := as') (by simpa using hl) (fun i => by simpa using hi (i + 1)) h2
  rcases hi 0 with h0 | h0
  ·simp at h0
   subst h0
   exact ⟨b1 ++ bs', repVs_cons h1 k1, List.Sublist.append (.refl _) k2⟩
  simp at h0
  subst h0
  exact ⟨[] ++ bs', repVs_cons (repV_undef _) k1, List.Sublist.append (List.nil_sublist _) k2⟩
def fprune (f : FState) (m : Sl -> Sl) : FState := match f with | ⟨sl, locs, heap, next⟩ => ⟨m sl, locs, heap, next⟩
theorem RelB.prune {G : Globs} {w : World} {R : Own} {N : Name -> Option Nat} {tmps : List Value} {n : Nat} {f : FState} {bsT bsL bsH bsF : List Nat} (h : RelB G w R N tmps (f.toA n) undef .undef [] bsT bsL bsH bsF) (m : Nat) :
  ∃ bsT', RelB G w R N tmps ((fprune f (fun l => pruneS l m)).toA n) undef .undef [] bsT' bsL bsH bsF := by
 obtain ⟨sl, locs, heap, next⟩ := f
 obtain ⟨bsT', k1, k2⟩ := mask_rep (as' := mkS n 0 (pruneS sl m)) (by simp [FState.toA, mkS_length]) (fun i => by
  simp only [FState.toA, mkS_get]
  split
  ·rcases pruneS_get sl m (0 + i) with h | h
   ·exact .inl (by rw [h])
   exact .inr (by rw [h])
  exact .inl rfl) h.tmps
 exact ⟨bsT', repV_undef _, k1, h.locs, h.heap, List.Nodup.sublist (List.Sublist.append (.refl _) (List.Sublist.append k2 (.refl _))) h.nodup, h.next, h.glob, h.frame⟩
/-! ### What a call leaves and nobody names -/
mutual
/-- Names a new object. -/
def newV (k : Nat) : AVal -> Bool
 | .ptr (.out o) _ => Nat.ble k o
 | .ptr (.loc _) _ => true
 | .map (.out o) => Nat.ble k o
 | .map (.loc _) => true
 | .win (.out o) _ _ _ => Nat.ble k o
 | .win (.loc _) _ _ _ => true
 | .fn _ a b => newL k a || newL k b
 | .agg cs => newL k cs
 | .tup cs => newL k cs
 | _ => false
def newL (k : Nat) : List AVal -> Bool
 | [] => false
 | a :: r => newV k a || newL k r
end
def oldName (k : Nat) : Name -> Bool
 | .out o => Nat.blt o k
 | .loc _ => false
def oldObjs (k : Nat) : Heap -> Heap
 | [] => []
 |(m, o) :: r => match oldName k m with | true => (m, o) :: oldObjs k r | false => oldObjs k r
def newO (k : Nat) : AObj -> Bool
 | .cells cs => newL k cs
 | .map _ => false
def newHeap (k : Nat) : Heap -> Bool
 | [] => false
 |(_, o) :: r => newO k o || newHeap k r
mutual
def outsV : AVal -> List Nat
 | .ptr (.out o) _ => [o]
 | .map (.out o) => [o]
 | .win (.out o) _ _ _ => [o]
 | .fn _ a b => outsL a ++ outsL b
 | .agg cs => outsL cs
 | .tup cs => outsL cs
 | _ => []
def outsL : List AVal -> List Nat
 | [] => []
 | a :: r => outsV a ++ outsL r
end
def memN (o : Nat) : List Nat -> Bool
 | [] => false
 | x :: r => match Nat.beq x o with | true => true | false => memN o r
def addN : List Nat -> List Nat -> List Nat
 | [], l => l
 | n :: ns, l => match memN n l with | true => addN ns l | false => addN ns (n :: l)
def liveNames (k : Nat) (l : List Nat) : Heap -> List Nat
 | [] => l
 |(.out o, .cells cs) :: r => (match Nat.blt o k || memN o l with | true => liveNames k (addN (outsL cs) l) r | false => liveNames k l r)
 | _ :: r => liveNames k l r
def closeL (k : Nat) (h : Heap) : Nat -> List Nat -> List Nat
 | 0, l => l
 | n + 1, l => closeL k h n (liveNames k l h)
def keepObjs (k : Nat) (l : List Nat) : Heap -> Heap
 | [] => []
 |(.out o, x) :: r => (match Nat.blt o k || memN o l with | true => (.out o, x) :: keepObjs k l r | false => keepObjs k l r)
 | _ :: r => keepObjs k l r
def gcR (k : Nat) (r : XRes) : XRes :=
 match r with
 | ⟨val, heap, next⟩ => match newV k val || newHeap k (oldObjs k heap) with
  | false => ⟨val, oldObjs k heap, k⟩
  | true => ⟨val, keepObjs k (closeL k heap 3 (outsV val)) heap, next⟩
section
variable {w : World} {R : Own} {M M2 : Name -> Option Nat}
theorem oldObjs_rep (k : Nat) : ∀ {os : Heap} {bs : List Nat}, RepObjs w R M os bs -> ∃ bs', RepObjs w R M (oldObjs k os) bs' /\ bs'.Sublist bs
 | [], bs, h => ⟨bs, h, .refl _⟩
 |(m, o) :: os, _, ⟨b, b1, b2, e, hn, ho, hr⟩ => by
  subst e
  obtain ⟨bs', k1, k2⟩ := oldObjs_rep k hr
  simp only [oldObjs]
  split
  ·exact ⟨b :: (b1 ++ bs'), ⟨b, b1, bs', rfl, hn, ho, k1⟩, (List.Sublist.append (.refl _) k2).cons_cons _⟩
  exact ⟨bs', k1, k2.trans ((List.sublist_append_right b1 b2).cons _)⟩
theorem keepObjs_rep (k : Nat) (l : List Nat) : ∀ {os : Heap} {bs : List Nat}, RepObjs w R M os bs -> ∃ bs', RepObjs w R M (keepObjs k l os) bs' /\ bs'.Sublist bs
 | [], bs, h => ⟨bs, h, .refl _⟩
 |(.out m, o) :: os, _, ⟨b, b1, b2, e, hn, ho, hr⟩ => by
  subst e
  obtain ⟨bs', k1, k2⟩ := keepObjs_rep k l hr
  simp only [keepObjs]
  split
  ·exact ⟨b :: (b1 ++ bs'), ⟨b, b1, bs', rfl, hn, ho, k1⟩, (List.Sublist.append (.refl _) k2).cons_cons _⟩
  exact ⟨bs', k1, k2.trans ((List.sublist_append_right b1 b2).cons _)⟩
 |(.loc m, o) :: os, _, ⟨b, b1, b2, e, hn, ho, hr⟩ => by
  subst e
  obtain ⟨bs', k1, k2⟩ := keepObjs_rep k l hr
  exact ⟨bs', k1, k2.trans ((List.sublist_append_right b1 b2).cons _)⟩
variable (hM : ∀ m b, (∃ o, m = .out o) -> M m = some b -> M2 m = some b)
mutual
theorem RepV.low {k : Nat} (hM : ∀ o b, o < k -> M (.out o) = some b -> M2 (.out o) = some b) : ∀ {a : AVal} {v : Value} {bs : List Nat}, newV k a = false -> RepV w R M a v bs -> RepV w R M2 a v bs
 | .dat _, _, _, _, h => by simp only [RepV] at h ⊢; exact h
 | .own _, _, _, _, h => by simp only [RepV] at h ⊢; exact h
 | .ref _, _, _, _, h => by simp only [RepV] at h ⊢; exact h
 | .ptr (.loc _) _, _, _, hn, _ => by simp [newV] at hn
 | .ptr (.out o) _, _, _, hn, h => by
  simp only [newV] at hn
  simp only [RepV] at h ⊢
  obtain ⟨h1, b, hb, e⟩ := h
  exact ⟨h1, b, hM o b (by rcases Nat.lt_or_ge o k with h | h; exact h; rw [ble_mk h] at hn; simp at hn) hb, e⟩
 | .map (.loc _), _, _, hn, _ => by simp [newV] at hn
 | .win (.loc _) _ _ _, _, _, hn, _ => by simp [newV] at hn
 | .win (.out o) _ _ _, _, _, hn, h => by
  simp only [newV] at hn
  simp only [RepV] at h ⊢
  obtain ⟨h1, b, cap, hb, e⟩ := h
  exact ⟨h1, b, cap, hM o b (by rcases Nat.lt_or_ge o k with h | h; exact h; rw [ble_mk h] at hn; simp at hn) hb, e⟩
 | .map (.out o), _, _, hn, h => by
  simp only [newV] at hn
  simp only [RepV] at h ⊢
  obtain ⟨h1, b, hb, e⟩ := h
  exact ⟨h1, b, hM o b (by rcases Nat.lt_or_ge o k with h | h; exact h; rw [ble_mk h] at hn; simp at hn) hb, e⟩
 | .fn _ first captured, _, _, hn, h => by
  simp only [newV, Bool.or_eq_false_iff] at hn
  simp only [RepV] at h ⊢
  obtain ⟨h1, vs', us', e, h2, h3⟩ := h
  exact ⟨h1, vs', us', e, RepVs.low hM (as := first) hn.1 h2, RepVs.low hM (as := captured) hn.2 h3⟩
 | .agg cs, _, _, hn, h => by
  simp only [newV] at hn
  simp only [RepV] at h ⊢
  obtain ⟨vs', e, h2⟩ := h
  exact ⟨vs', e, RepVs.low hM (as := cs) hn h2⟩
 | .tup cs, _, _, hn, h => by
  simp only [newV] at hn
  simp only [RepV] at h ⊢
  obtain ⟨vs', e, h2⟩ := h
  exact ⟨vs', e, RepVs.low hM (as := cs) hn h2⟩
 | .undef, _, _, _, h => by simp only [RepV] at h ⊢; exact h
theorem RepVs.low {k : Nat} (hM : ∀ o b, o < k -> M (.out o) = some b -> M2 (.out o) = some b) : ∀ {as : List AVal} {vs : List Value} {bs : List Nat}, newL k as = false -> RepVs w R M as vs bs -> RepVs w R M2 as vs bs
 | [], _, _, _, h => by simp only [RepVs] at h ⊢; exact h
 | a :: as, _, _, hn, h => by
  simp only [newL, Bool.or_eq_false_iff] at hn
  simp only [RepVs] at h ⊢
  obtain ⟨v', vs', b1', b2', e1, e2, h1, h2⟩ := h
  exact ⟨v', vs', b1', b2', e1, e2, RepV.low hM (a := a) hn.1 h1, RepVs.low hM (as := as) hn.2 h2⟩
end
theorem newL_append (k : Nat) : ∀ (l m : List AVal), newL k (l ++ m) = (newL k l || newL k m)
 | [], m => by simp [newL]
 | a :: l, m => by simp [newL, newL_append k l m, Bool.or_assoc]
theorem newL_pad (k : Nat) (cs : List AVal) (j : Nat) : newL k (cs ++ List.replicate j .undef) = newL k cs := by
 rw [newL_append]
 have : newL k (List.replicate j .undef) = false := by
  induction j with
  | zero => rfl
  | succ j ih => simp [List.replicate_succ, newL, newV, ih]
 rw [this, Bool.or_false]
theorem RepObjs.low {k : Nat} (hM : ∀ o b, o < k -> M (.out o) = some b -> M2 (.out o) = some b) : ∀ {os : Heap} {bs : List Nat}, (∀ p ∈ os, oldName k p.1 = true) -> newHeap k os = false -> RepObjs w R M os bs -> RepObjs w R M2 os bs
 | [], _, _, _, h => h
 |(m, o) :: os, _, hs, hn, ⟨b, b1, b2, e, hb, ho, hr⟩ => by
  simp only [newHeap, Bool.or_eq_false_iff] at hn
  have hm := hs (m, o) (by simp)
  refine ⟨b, b1, b2, e, ?_, ?_, RepObjs.low hM (fun p hp => hs p (by simp [hp])) hn.2 hr⟩
  ·cases m with
   | loc i => simp [oldName] at hm
   | out i => exact hM i b (blt_to (by simpa [oldName] using hm)) hb
  cases o with
  | cells cs =>
   obtain ⟨vs, el, sp, hblk, hrr, hR⟩ := ho
   exact ⟨vs, el, sp, hblk, hrr.low hM (by rw [newL_pad]; simpa [newO] using hn.1), hR⟩
  | map es => exact ho
theorem oldObjs_old (k : Nat) : ∀ os : Heap, ∀ p ∈ oldObjs k os, oldName k p.1 = true
 | [], p, h => by simp [oldObjs] at h
 |(m, o) :: os, p, h => by
  simp only [oldObjs] at h
  split at h
  ·rename_i hm
   rcases List.mem_cons.1 h with rfl | h
   ·exact hm
   exact oldObjs_old k os p h
  exact oldObjs_old k os p h
end
theorem ACalls.gc {P : Program} {G : Globs} {f : FuncId} {args : List AVal} {heap : Heap} {next : Nat} {r : XRes} (h : ACalls P G f args heap next (XQ r)) : ACalls P G f args heap next (XQ (gcR next r)) := by
 intro w R N cargs bsA bsH bsF ha hh hnd hnx hg hF
 refine (h w R N cargs bsA bsH bsF ha hh hnd hnx hg hF).mono ?_
 rintro e w' ⟨v', cv, heap', next', R', N', bsV, bsH', rfl, ⟨rfl, rfl, rfl⟩, hv', hh', hnd', hnx', hk, hN⟩
 obtain ⟨val, heap', next'⟩ := r
 dsimp only at hv' hh' hnx' ⊢
 unfold gcR
 dsimp only
 split
 ·rename_i hnew
  simp only [Bool.or_eq_false_iff] at hnew
  obtain ⟨bs', k1, k2⟩ := oldObjs_rep next hh'
  let N2 : Name -> Option Nat := fun m => match m with | .loc i => N' (.loc i) | .out o => if o < next then N' (.out o) else none
  have hM : ∀ o b, o < next -> outs N' (.out o) = some b -> outs N2 (.out o) = some b := by
   intro o b ho hb
   simp only [outs] at hb ⊢
   simp only [N2]
   rw [if_pos ho]; exact hb
  refine ⟨val, cv, oldObjs next heap', next, R', N2, bsV, bs', rfl, ⟨rfl, rfl, rfl⟩, hv'.low hM hnew.1, k1.low hM (oldObjs_old next heap') hnew.2, ?_, ?_, hk, ?_⟩
  ·exact List.Nodup.sublist (List.Sublist.append (.refl _) (List.Sublist.append k2 (.refl _))) hnd'
  ·intro o b hb
   simp only [N2] at hb
   split at hb
   ·assumption
   simp at hb
  intro o b hb
  simp only [N2]
  rw [if_pos (hnx o b hb)]
  exact hN o b hb
 obtain ⟨bs', k1, k2⟩ := keepObjs_rep next (closeL next heap' 3 (outsV val)) hh'
 exact ⟨val, cv, _, next', R', N', bsV, bs', rfl, ⟨rfl, rfl, rfl⟩, hv', k1, List.Nodup.sublist (List.Sublist.append (.refl _) (List.Sublist.append k2 (.refl _))) hnd', hnx', hk, hN⟩
/-! ### Code -/
section
variable (X : XCalls) (E : TEnv) (G : Globs) (H : Hints) (n : Nat)
def fback (f : FState) (r : XRes) (dst : Option Tmp) : FState :=
 match f, r with
 | ⟨sl, locs, _, _⟩, ⟨v, heap, next⟩ => fput ⟨sl, locs, heap, next⟩ dst v
theorem fback_eq (f : FState) (r : XRes) (dst : Option Tmp) : (fback f r dst).toA n = ({ f.toA n with heap := r.heap, next := r.next } : AState).put dst r.val := by
 obtain ⟨sl, locs, heap, next⟩ := f
 obtain ⟨v, h, k⟩ := r
 simp only [fback, fput_eq]; rfl
noncomputable def fone (all : List Oper) (o : Oper) (f : FState) : Option FState :=
 match fwanted n all f o.guard with
 | none => none
 | some b => match b with
  | true =>
   (match isCall o.op with
    | some c => (match fcallee E G H n c f with
     | some (g, args, f2) => (match X g args f2.heap f2.next with
      | some r => some (fback f2 r o.dst)
      | none => none)
     | none => none)
    | none => fstep E G n (readOnly H.moves all o) (takeR H all o) o f)
  | false => some (fput f o.dst (.tup []))
theorem fone_some {all : List Oper} {o : Oper} {f f' : FState} (h : fone X E G H n all o f = some f') : xone X E G H all o (f.toA n) = some (f'.toA n) := by
 unfold fone at h
 unfold xone
 rw [fwanted_eq]
 cases hw : fwanted n all f o.guard with
 | none => rw [hw] at h; simp at h
 | some b =>
  rw [hw] at h
  cases b with
  | false => simp at h; subst h; simp [fput_eq]
  | true =>
   dsimp only at h ⊢
   rw [if_pos rfl]
   cases hc : isCall o.op with
   | none =>
    rw [hc] at h
    dsimp only at h ⊢
    rw [fstep_eq, h]; rfl
   | some c =>
    rw [hc] at h
    dsimp only at h ⊢
    rw [fcallee_eq]
    cases hcal : fcallee E G H n c f with
    | none => rw [hcal] at h; simp at h
    | some x =>
     obtain ⟨g, args, f2⟩ := x
     rw [hcal] at h
     dsimp only [Option.map_some] at h ⊢
     have e1 : (f2.toA n).heap = f2.heap := rfl
     have e2 : (f2.toA n).next = f2.next := rfl
     rw [e1, e2]
     cases hr : X g args f2.heap f2.next with
     | none => rw [hr] at h; simp at h
     | some r =>
      rw [hr] at h
      simp at h
      subst h
      simp [fback_eq]
noncomputable def fops (all : List Oper) (ops : List Oper) : FState -> Option FState :=
 @List.rec Oper (fun _ => FState -> Option FState) (fun f => some f) (fun o _ ih f => match fone X E G H n all o f with | some f' => ih f' | none => none) ops
theorem fops_some {all : List Oper} : ∀ {ops : List Oper} {f f' : FState}, fops X E G H n all ops f = some f' -> xops X E G H all ops (f.toA n) = some (f'.toA n)
 | [], f, f', h => by
  have e : fops X E G H n all [] f = some f := rfl
  rw [e] at h; simp at h; subst h; rfl
 | o :: rest, f, f', h => by
  have e : fops X E G H n all (o :: rest) f = (match fone X E G H n all o f with | some f' => fops X E G H n all rest f' | none => none) := rfl
  rw [e] at h
  simp only [xops]
  cases ho : fone X E G H n all o f with
  | none => rw [ho] at h; simp at h
  | some f1 =>
   rw [ho] at h
   rw [fone_some X E G H n ho]
   exact fops_some h
noncomputable def ftkNil (tk : List Nat) (t : Tmp) (f : FState) : List Nat := match isNilV (fget n f t) with | true => [] | false => tk
theorem ftkNil_eq (tk : List Nat) (t : Tmp) (f : FState) : tkNil tk t (f.toA n) = ftkNil n tk t f := by
 unfold tkNil ftkNil
 rw [fget_eq]
 cases isNilV (fget n f t) <;> rfl
noncomputable def fopL (fh : Bool) (tk : List Nat) (all : List Oper) (o : Oper) (f : FState) : Option FState :=
 match fwanted n all f o.guard with
 | none => none
 | some b => match b with
  | true =>
   (match isCall o.op with
    | some c => (match fcalleeD E G H n c f with
     | some (g, args, f2) => (match isPure H o with
      | true => (match X g args [] f2.next with
       | some ⟨v, [], k⟩ => some (fback f2 ⟨v, f2.heap, k⟩ o.dst)
       | _ => none)
      | false => (match X g args f2.heap f2.next with
       | some r => (match !isRead H o || staysB f2.heap r.heap with
        | true => some (fback f2 r o.dst)
        | false => none)
       | none => none))
     | none => none)
    | none => (match appSlot o.op with
     | some t => (match fshowTk n fh all (tkFor all t (ftkNil n tk t f)) f with
      | some f1 => fstep E G n false false o f1
      | none => none)
     | none => (match isStore o.op with
      | true => fstep E G n (readOnly H.moves all o) (takeR H all o) o f
      | false => none)))
  | false => some (fput f o.dst (.tup []))
theorem fopL_some {fh : Bool} {tk : List Nat} {all : List Oper} {o : Oper} {f f' : FState} (h : fopL X E G H n fh tk all o f = some f') : xopL X E G H fh tk all o (f.toA n) = some (f'.toA n) := by
 unfold fopL at h
 unfold xopL
 rw [fwanted_eq]
 cases hw : fwanted n all f o.guard with
 | none => rw [hw] at h; simp at h
 | some b =>
  rw [hw] at h
  cases b with
  | false => simp at h; subst h; simp [fput_eq]
  | true =>
   dsimp only at h ⊢
   rw [if_pos rfl]
   cases hc : isCall o.op with
   | none =>
    rw [hc] at h
    dsimp only at h ⊢
    cases ht : appSlot o.op with
    | none =>
     rw [ht] at h
     dsimp only at h ⊢
     cases hst : isStore o.op with
     | false => rw [hst] at h; simp at h
     | true =>
      rw [hst] at h
      dsimp only at h ⊢
      rw [fstep_eq, h]; rfl
    | some t =>
     rw [ht] at h
     dsimp only at h ⊢
     rw [ftkNil_eq]
     cases hs : fshowTk n fh all (tkFor all t (ftkNil n tk t f)) f with
     | none => rw [hs] at h; simp at h
     | some f1 =>
      rw [hs] at h
      rw [fshowTk_some n fh all _ _ _ hs]
      dsimp only at h ⊢
      rw [fstep_eq, h]; rfl
   | some c =>
    rw [hc] at h
    dsimp only at h ⊢
    rw [fcalleeD_eq]
    cases hcal : fcalleeD E G H n c f with
    | none => rw [hcal] at h; simp at h
    | some x =>
     obtain ⟨g, args, f2⟩ := x
     rw [hcal] at h
     dsimp only [Option.map_some] at h ⊢
     have e1 : (f2.toA n).heap = f2.heap := rfl
     have e2 : (f2.toA n).next = f2.next := rfl
     rw [e1, e2]
     cases hpu : isPure H o with
     | true =>
      rw [hpu] at h
      dsimp only at h ⊢
      split at h
      ·rename_i v k hr
       simp at h
       subst h
       simp [fback_eq, hr]
      simp at h
     | false =>
      rw [hpu] at h
      dsimp only at h ⊢
      cases hr : X g args f2.heap f2.next with
      | none => rw [hr] at h; simp at h
      | some r =>
       rw [hr] at h
       dsimp only at h ⊢
       cases hst : (!isRead H o || staysB f2.heap r.heap) with
       | false => rw [hst] at h; simp at h
       | true =>
        rw [hst] at h
        simp at h
        subst h
        simp [fback_eq]
noncomputable def ford (tk : List Nat) (fh : Bool) (fq : Nat -> Bool) (all : List Oper) (l : List (Nat × Bool)) : FState -> Option FState :=
 @List.rec (Nat × Bool) (fun _ => FState -> Option FState) (fun f => some f) (fun p _ ih f =>
  match all[p.1]? with
  | none => none
  | some o => match p.2 with
   | true => (match fopL X E G H n fh tk all o f with | some f' => ih f' | none => none)
   | false => (match fstepQ E G n (fh || fq p.1) all o f with
    | some a => ih (fput f o.dst a)
    | none => none)) l
theorem ford_cons {tk : List Nat} {fh : Bool} {fq : Nat -> Bool} {all : List Oper} {i : Nat} {lone : Bool} {rest : List (Nat × Bool)} {f : FState} : ford X E G H n tk fh fq all ((i, lone) :: rest) f = (match all[i]? with
   | none => none
   | some o => match lone with
    | true => (match fopL X E G H n fh tk all o f with | some f' => ford X E G H n tk fh fq all rest f' | none => none)
    | false => (match fstepQ E G n (fh || fq i) all o f with
     | some a => ford X E G H n tk fh fq all rest (fput f o.dst a)
     | none => none)) := rfl
theorem ford_some {tk : List Nat} {fh : Bool} {fq : Nat -> Bool} {all : List Oper} : ∀ {l : List (Nat × Bool)} {f f' : FState}, ford X E G H n tk fh fq all l f = some f' -> xord X E G H tk fh fq all l (f.toA n) = some (f'.toA n)
 | [], f, f', h => by
  have e : ford X E G H n tk fh fq all [] f = some f := rfl
  rw [e] at h; simp at h; subst h; rfl
 |(i, lone) :: rest, f, f', h => by
  rw [ford_cons] at h
  simp only [xord]
  cases hi : all[i]? with
  | none => rw [hi] at h; simp at h
  | some o =>
   rw [hi] at h
   cases lone
   ·dsimp only at h ⊢
    rw [if_neg (by simp), fstepQ_eq]
    cases ho : fstepQ E G n (fh || fq i) all o f with
    | none => rw [ho] at h; simp at h
    | some a =>
     rw [ho] at h
     dsimp only at h ⊢
     rw [← fput_eq]
     exact ford_some h
   dsimp only at h ⊢
   rw [if_pos rfl]
   cases ho : fopL X E G H n fh tk all o f with
   | none => rw [ho] at h; simp at h
   | some f1 =>
    rw [ho] at h
    rw [fopL_some X E G H n ho]
    exact ford_some h
noncomputable def fexplC (all : List Oper) : Nat -> Array Bool -> FState -> Option FState
 | 0, _, f => some f
 | m + 1, listed, f => match Region.ready .any all.toArray listed with
  | [] => some f
  | i :: _ => (match all[i]? with
   | some o => (match fone X E G H n all o f with | some f1 => fexplC all m (setL listed i) f1 | none => none)
   | none => none)
noncomputable def fexplA (all : List Oper) (k : Nat) (s0 : AState) : Nat -> Array Bool -> FState -> Bool
 | 0, listed, f => (Region.ready .any all.toArray listed).isEmpty && renB k s0 (f.toA n)
 | m + 1, listed, f => match Region.ready .any all.toArray listed with
  | [] => renB k s0 (f.toA n)
  | i :: l => (i :: l).all fun i => match all[i]? with
   | some o => (match fone X E G H n all o f with | some f1 => fexplA all k s0 m (setL listed i) f1 | none => false)
   | none => false
theorem fexplC_some {all : List Oper} : ∀ (m : Nat) (listed : Array Bool) (f f' : FState), fexplC X E G H n all m listed f = some f' -> xexplC X E G H all m listed (f.toA n) = some (f'.toA n)
 | 0, listed, f, f', h => by simp only [fexplC, Option.some.injEq] at h; subst h; rfl
 | m + 1, listed, f, f', h => by
  simp only [fexplC] at h
  simp only [xexplC]
  split at h
  ·rename_i he
   rw [he]
   simp only [Option.some.injEq] at h
   subst h
   rfl
  rename_i i l he
  rw [he]
  dsimp only
  split at h
  ·rename_i o ho
   rw [ho]
   dsimp only
   split at h
   ·rename_i f1 hf1
    rw [fone_some X E G H n hf1]
    exact fexplC_some m _ f1 f' h
   simp at h
  simp at h
theorem fexplA_some {all : List Oper} {k : Nat} {s0 : AState} : ∀ (m : Nat) (listed : Array Bool) (f : FState), fexplA X E G H n all k s0 m listed f = true -> xexplA X E G H all k s0 m listed (f.toA n) = true
 | 0, listed, f, h => h
 | m + 1, listed, f, h => by
  simp only [fexplA] at h
  simp only [xexplA]
  split at h
  ·rename_i he
   rw [he]
   exact h
  rename_i i l he
  rw [he]
  dsimp only
  refine List.all_eq_true.2 fun j hj => ?_
  have h1 := List.all_eq_true.1 h j hj
  split at h1
  ·rename_i o ho
   rw [ho]
   dsimp only
   split at h1
   ·rename_i f1 hf1
    rw [fone_some X E G H n hf1]
    exact fexplA_some m _ f1 h1
   simp at h1
  simp at h1
noncomputable def floneC (h : RHint) (all : List Oper) : Nat -> Array Bool -> FState -> Option FState
 | 0, _, f => some f
 | m + 1, listed, f => match Region.ready .any all.toArray listed with
  | [] => none
  | i :: _ => (match all[i]? with
   | some o => (match fopL X E G H n (quietHeap H all h.pre) h.tk all o f with | some f1 => floneC h all m (setL listed i) f1 | none => none)
   | none => none)
noncomputable def floneA (h : RHint) (all : List Oper) (p : Array Bool) (s0 : AState) : Nat -> Array Bool -> FState -> Bool
 | 0, listed, f => eqBs listed.toList p.toList && sameS s0 (f.toA n)
 | m + 1, listed, f => !eqBs listed.toList p.toList && !(Region.ready .any all.toArray listed).isEmpty && (Region.ready .any all.toArray listed).all fun i => h.pre.contains (i, true) && (match all[i]? with
   | some o => (match fopL X E G H n (quietHeap H all h.pre) h.tk all o f with | some f1 => floneA h all p s0 m (setL listed i) f1 | none => false)
   | none => false)
noncomputable def fdrawL (all : List Oper) (h : RHint) (f : FState) : Option FState :=
 match ford X E G H n h.tk (quietHeap H all h.pre) (quietAt H all h.pre) all (quietPre h.pre) f with
 | some f1 => (match floneC X E G H n h all (h.pre.length - (quietPre h.pre).length) (preAll (quietPre h.pre) (Array.replicate all.length false)) f1 with
  | some f0 => (match floneA X E G H n h all (preAll h.pre (Array.replicate all.length false)) (f0.toA n) (h.pre.length - (quietPre h.pre).length) (preAll (quietPre h.pre) (Array.replicate all.length false)) f1 with
   | true => (match fshowMk E n all h.nw f0 with
    | some f2 => fops X E G H n all (pickOps all h.tail) f2
    | none => none)
   | false => none)
  | none => none)
 | none => none
theorem floneC_some {h : RHint} {all : List Oper} : ∀ (m : Nat) (listed : Array Bool) (f f' : FState), floneC X E G H n h all m listed f = some f' -> xloneC X E G H h all m listed (f.toA n) = some (f'.toA n)
 | 0, listed, f, f', hh => by simp only [floneC, Option.some.injEq] at hh; subst hh; rfl
 | m + 1, listed, f, f', hh => by
  simp only [floneC] at hh
  simp only [xloneC]
  split at hh
  ·simp at hh
  rename_i i l he
  rw [he]
  dsimp only
  split at hh
  ·rename_i o ho
   rw [ho]
   dsimp only
   split at hh
   ·rename_i f1 hf1
    rw [fopL_some X E G H n hf1]
    exact floneC_some m _ f1 f' hh
   simp at hh
  simp at hh
theorem floneA_some {h : RHint} {all : List Oper} {p : Array Bool} {s0 : AState} : ∀ (m : Nat) (listed : Array Bool) (f : FState), floneA X E G H n h all p s0 m listed f = true -> xloneA X E G H h all p s0 m listed (f.toA n) = true
 | 0, listed, f, hh => hh
 | m + 1, listed, f, hh => by
  simp only [floneA, Bool.and_eq_true] at hh
  simp only [xloneA, Bool.and_eq_true]
  refine ⟨hh.1, List.all_eq_true.2 fun j hj => ?_⟩
  have h1 := List.all_eq_true.1 hh.2 j hj
  simp only [Bool.and_eq_true] at h1 ⊢
  refine ⟨h1.1, ?_⟩
  have h2 := h1.2
  split at h2
  ·rename_i o ho
   rw [ho]
   dsimp only
   split at h2
   ·rename_i f1 hf1
    rw [fopL_some X E G H n hf1]
    exact floneA_some m _ f1 h2
   simp at h2
  simp at h2
theorem fdrawL_some {all : List Oper} {h : RHint} {f f' : FState} (hh : fdrawL X E G H n all h f = some f') : xdrawL X E G H all h (f.toA n) = some (f'.toA n) := by
 unfold fdrawL at hh
 unfold xdrawL
 split at hh
 ·rename_i f1 h1
  rw [ford_some X E G H n h1]
  dsimp only
  split at hh
  ·rename_i f0 h0
   rw [floneC_some X E G H n _ _ _ _ h0]
   dsimp only
   split at hh
   ·rename_i h2
    rw [floneA_some X E G H n _ _ _ h2]
    dsimp only
    split at hh
    ·rename_i f2 h3
     rw [fshowMk_some E n all h.nw f0 f2 h3]
     exact fops_some X E G H n hh
    simp at hh
   simp at hh
  simp at hh
 simp at hh
noncomputable def fdraw (all : List Oper) (h : RHint) (f : FState) : Option FState :=
 match explMark h with
 | true => (match fexplC X E G H n all all.length (Array.replicate all.length false) f with
  | some f0 => (match fexplA X E G H n all f.next (f0.toA n) all.length (Array.replicate all.length false) f with | true => some f0 | false => none)
  | none => none)
 | false =>
 match loneMark h with
 | true => fdrawL X E G H n all (unmark h) f
 | false =>
 match ford X E G H n h.tk (quietHeap H all h.pre) (quietAt H all h.pre) all h.pre f with
 | some f1 => (match fshowMk E n all h.nw f1 with
  | some f2 => fops X E G H n all (pickOps all h.tail) f2
  | none => none)
 | none => none
theorem fdraw_some {all : List Oper} {h : RHint} {f f' : FState} (hh : fdraw X E G H n all h f = some f') : xdraw X E G H all h (f.toA n) = some (f'.toA n) := by
 unfold fdraw at hh
 unfold xdraw
 cases hx : explMark h with
 | true =>
  rw [hx] at hh
  dsimp only at hh
  rw [if_pos rfl]
  split at hh
  ·rename_i f0 h0
   rw [fexplC_some X E G H n _ _ _ _ h0]
   dsimp only
   split at hh
   ·rename_i h2
    simp only [Option.some.injEq] at hh
    subst hh
    have := fexplA_some X E G H n _ _ _ h2
    have e : (f.toA n).next = f.next := rfl
    rw [e, this]
   simp at hh
  simp at hh
 | false =>
 rw [hx] at hh
 rw [if_neg (by simp)]
 dsimp only at hh
 cases hlm : loneMark h with
 | true =>
  rw [hlm] at hh
  rw [if_pos rfl]
  exact fdrawL_some X E G H n hh
 | false =>
 rw [hlm] at hh
 rw [if_neg (by simp)]
 dsimp only at hh
 cases h1 : ford X E G H n h.tk (quietHeap H all h.pre) (quietAt H all h.pre) all h.pre f with
 | none => rw [h1] at hh; simp at hh
 | some f1 =>
  rw [h1] at hh
  rw [ford_some X E G H n h1]
  dsimp only at hh ⊢
  cases h2 : fshowMk E n all h.nw f1 with
  | none => rw [h2] at hh; simp at hh
  | some f2 =>
   rw [h2] at hh
   rw [fshowMk_some E n all h.nw f1 f2 h2]
   exact fops_some X E G H n hh
noncomputable def floop (body : FState -> Option (Exit × FState)) (fuel : Nat) : FState -> Option (Exit × FState) :=
 @Nat.rec (fun _ => FState -> Option (Exit × FState)) (fun _ => none) (fun _ ih f => match body f with
  | some (.normal, f') => ih f'
  | r => r) fuel
/-! Steps that the program does not take, behind a region: the live slots' number holds, from bit 4096 on, the slots whose rows become data, from bit 5120 on the slots whose variables become objects. -/
def bitSlots : Nat -> Nat -> Nat -> List Nat
 | 0, _, _ => []
 | m + 1, k, g => match Nat.beq g 0 with
  | true => []
  | false => (match Nat.beq (Nat.land g 1) 1 with | true => k :: bitSlots m (k + 1) (Nat.shiftRight g 1) | false => bitSlots m (k + 1) (Nat.shiftRight g 1))
def rowFrzVF (a : AVal) (heap : Heap) : Option (Nat × List Dat) :=
 match rowOf a with
 | some x => rowFrzC x.1 x.2 (agetF (.out x.1) heap)
 | none => none
theorem rowFrzVF_eq (a : AVal) (heap : Heap) : rowFrzVF a heap = rowFrzV a heap := by
 unfold rowFrzVF rowFrzV
 cases rowOf a with
 | none => rfl
 | some x => simp only [agetF_eq]
noncomputable def ffrz (n t : Nat) (f : FState) : Option FState :=
 match rowFrzVF (fget n f t) f.heap with
 | some (m, es) => (match fput f (some t) (.dat (.slice es)) with
  | ⟨sl, locs, heap, next⟩ => some ⟨sl, locs, adelF (.out m) heap, next⟩)
 | none => none
noncomputable def ffrzs (n : Nat) : List Nat -> FState -> Option FState
 | [], f => some f
 | t :: r, f => (match ffrz n t f with | some f' => ffrzs n r f' | none => none)
noncomputable def fpreps (n : Nat) : List Nat -> FState -> FState
 | [], f => f
 | t :: r, f => fpreps n r (fprep false (fneeded f [fget n f t]) f []).1
noncomputable def fghost (n mask : Nat) (f : FState) : Option FState :=
 match Nat.beq (Nat.shiftRight mask 4096) 0 with
 | true => some f
 | false => ffrzs n (bitSlots 1000 0 (Nat.land (Nat.shiftRight mask 4096) (2 ^ 1024 - 1))) (fpreps n (bitSlots 1000 0 (Nat.shiftRight mask 5120)) f)
theorem ffrz_ghost {n t : Nat} {f f' : FState} (h : ffrz n t f = some f') : Ghost G (f.toA n) (f'.toA n) := by
 unfold ffrz at h
 rw [rowFrzVF_eq] at h
 split at h
 ·rename_i m es hv
  have e : rowFrz t (f.toA n) = some (f'.toA n) := by
   unfold rowFrz
   rw [fget_eq]
   have e2 : (f.toA n).heap = f.heap := rfl
   rw [e2, hv]
   have hp := fput_eq (n := n) f (some t) (.dat (.slice es))
   generalize fput f (some t) (.dat (.slice es)) = g at h hp
   obtain ⟨sl, locs, heap, next⟩ := g
   simp only [Option.some.injEq] at h
   subst h
   simp only [FState.toA, AState.put, adelF_eq] at hp ⊢
   have q1 := congrArg AState.tmps hp
   have q2 := congrArg AState.locs hp
   have q3 := congrArg AState.heap hp
   have q4 := congrArg AState.next hp
   simp only at q1 q2 q3 q4
   rw [q1, q2, q3, q4]
  exact ghost_frz e
 simp at h
theorem ffrzs_ghost {n : Nat} : ∀ (l : List Nat) {f f' : FState}, ffrzs n l f = some f' -> Ghost G (f.toA n) (f'.toA n)
 | [], f, f', h => by simp [ffrzs] at h; subst h; exact .refl _ _
 | t :: r, f, f', h => by
  simp only [ffrzs] at h
  split at h
  ·rename_i f1 h1
   exact (ffrz_ghost G h1).trans (ffrzs_ghost r h)
  simp at h
theorem fpreps_ghost {n : Nat} : ∀ (l : List Nat) (f : FState), Ghost G (f.toA n) ((fpreps n l f).toA n)
 | [], f => .refl _ _
 | t :: r, f => by
  simp only [fpreps]
  refine Ghost.trans ?_ (fpreps_ghost r _)
  have h := ghost_prep (G := G) (fneeded f [fget n f t]) (f.toA n)
  rw [fprep_eq] at h
  exact h
theorem fghost_ghost {n mask : Nat} {f f' : FState} (h : fghost n mask f = some f') : Ghost G (f.toA n) (f'.toA n) := by
 unfold fghost at h
 split at h
 ·simp at h; subst h; exact .refl _ _
 exact (fpreps_ghost G _ _).trans (ffrzs_ghost G _ h)
noncomputable def fcode (live : Nat -> Nat) (fuel : Nat) (c : Code) : FState -> Option (Exit × FState) :=
 Code.rec (motive := fun _ => FState -> Option (Exit × FState))
  (skip := fun f => some (.normal, f))
  (region := fun id ops draw f =>
   (match (match draw with | true => fdraw X E G H n ops.toList (H.ord id) f | false => fops X E G (H.at id) n ops.toList ops.toList f) with
    | some f' => (match fghost n (live id) (fprune f' (fun l => pruneS l (live id))) with | some f2 => some (.normal, f2) | none => none)
    | none => none))
  (seq := fun _ _ ix iy f => (match ix f with
   | some (.normal, f') => iy f'
   | r => r))
  (cond := fun c _ _ ix iy f => (match feval G n f c with
   | .dat (.flat (.bool b)) => (match b with | true => ix f | false => iy f)
   | _ => none))
  (block := fun id _ ic f => (match ic f with
   | some (.exit i, f') => (match Nat.beq i id with | true => some (.normal, f') | false => some (.exit i, f'))
   | r => r))
  (loop := fun _ ic f => floop ic fuel f)
  (rangeFunc := fun _ _ _ _ _ _ _ => none)
  (exit := fun id f => some (.exit id, f))
  (scope := fun _ ic f => (match ic f with
   | some (.goto _, _) => none
   | r => r))
  (label := fun _ f => some (.normal, f))
  (goto := fun _ _ => none)
  (ret := fun f => some (.ret, f))
  (refuse := fun _ _ => none) c
theorem fcode_scope {live : Nat -> Nat} {fuel : Nat} {c : Code} {f : FState} : fcode X E G H n live fuel (.scope c) f = (match fcode X E G H n live fuel c f with
   | some (.goto _, _) => none
   | r => r) := rfl
theorem fcode_seq {live : Nat -> Nat} {fuel : Nat} {x y : Code} {f : FState} : fcode X E G H n live fuel (.seq x y) f = (match fcode X E G H n live fuel x f with
   | some (.normal, f') => fcode X E G H n live fuel y f'
   | r => r) := rfl
theorem fcode_block {live : Nat -> Nat} {fuel : Nat} {id : Nat} {c : Code} {f : FState} : fcode X E G H n live fuel (.block id c) f = (match fcode X E G H n live fuel c f with
   | some (.exit i, f') => (match Nat.beq i id with | true => some (.normal, f') | false => some (.exit i, f'))
   | r => r) := rfl
theorem fcode_cond {live : Nat -> Nat} {fuel : Nat} {c : Operand} {x y : Code} {f : FState} : fcode X E G H n live fuel (.cond c x y) f = (match feval G n f c with
   | .dat (.flat (.bool b)) => (match b with | true => fcode X E G H n live fuel x f | false => fcode X E G H n live fuel y f)
   | _ => none) := rfl
theorem fcode_region {live : Nat -> Nat} {fuel : Nat} {id : Nat} {ops : Array Oper} {draw : Bool} {f : FState} : fcode X E G H n live fuel (.region id ops draw) f =
   (match (match draw with | true => fdraw X E G H n ops.toList (H.ord id) f | false => fops X E G (H.at id) n ops.toList ops.toList f) with
    | some f' => (match fghost n (live id) (fprune f' (fun l => pruneS l (live id))) with | some f2 => some (.normal, f2) | none => none)
    | none => none) := rfl
theorem floop_sound {P : Program} {c : Code} {body : FState -> Option (Exit × FState)} (hb : ∀ f e f', body f = some (e, f') -> ∀ Q : Exit -> AState -> Prop, Q e (f'.toA n) -> ACode P G c Q (f.toA n)) {k : Nat} {f f' : FState} {e : Exit}
  (h : floop body k f = some (e, f')) {Q : Exit -> AState -> Prop} (hQ : Q e (f'.toA n)) : ACode P G (.loop c) Q (f.toA n) := by
 intro w R N act bsT bsL bsH bsF hr D hd
 refine wpR_loop_ghost (I := fun k a w' => ∃ f1 R' N' bsT' bsL' bsH', floop body k f1 = some (e, f') /\ RelB G w' R' N' a.tmps.toList (f1.toA n) undef .undef [] bsT' bsL' bsH' bsF /\ a.defers = D /\ Keep w R w' R' bsF /\ (∀ o b, N (.out o) = some b -> N' (.out o) = some b)) (n0 := k) ?_ ?_
 ·exact ⟨f, R, N, bsT, bsL, bsH, h, hr, hd, keep_refl _, fun _ _ h => h⟩
 rintro k a w' ⟨f1, R', N', bsT', bsL', bsH', hx, hr', hd', hk, hN⟩
 cases k with
 | zero => exact absurd hx (by intro hx; cases hx)
 | succ k =>
  have hx : (match body f1 with
   | some (.normal, f') => floop body k f'
   | r => r) = some (e, f') := hx
  have key : ∀ e1 f2, body f1 = some (e1, f2) -> (e1 = .normal -> floop body k f2 = some (e, f')) -> (e1 ≠ .normal -> e1 = e /\ f2 = f') -> c.wpR P (Exit.then (fun a' w' => ∃ n', n' < k + 1 /\ ∃ f1 R' N' bsT' bsL' bsH', floop body n' f1 = some (e, f') /\ RelB G w' R' N' a'.tmps.toList (f1.toA n) undef .undef [] bsT' bsL' bsH' bsF /\ a'.defers = D /\ Keep w R w' R' bsF /\ (∀ o b, N (.out o) = some b -> N' (.out o) = some b)) (CPost G D Q w R N bsF)) a w' := by
   intro e1 f2 hbody h1 h2
   refine wpR_mono (hb f1 e1 f2 hbody (fun e' s'' => e' = e1 /\ s'' = f2.toA n) ⟨rfl, rfl⟩ w' R' N' a bsT' bsL' bsH' bsF hr' hd') ?_
   rintro e3 a3 w3 ⟨s3, R3, N3, bsT3, bsL3, bsH3, ⟨rfl, rfl⟩, hr3, hd3, hk3, hN3⟩
   by_cases he : e3 = .normal
   ·subst he
    exact ⟨k, Nat.lt_succ_self k, f2, R3, N3, bsT3, bsL3, bsH3, h1 rfl, hr3, hd3, hk.trans hk3, fun o b h => hN3 o b (hN o b h)⟩
   obtain ⟨rfl, rfl⟩ := h2 he
   have : CPost G D Q w R N bsF e3 a3 w3 := ⟨_, R3, N3, bsT3, bsL3, bsH3, hQ, hr3, hd3, hk.trans hk3, fun o b h => hN3 o b (hN o b h)⟩
   cases e3 with
   | normal => exact (he rfl).elim
   | _ => exact this
  cases hbd : body f1 with
  | none => rw [hbd] at hx; simp at hx
  | some r =>
   obtain ⟨e1, f2⟩ := r
   rw [hbd] at hx
   cases e1 with
   | normal => exact key _ _ hbd (fun _ => hx) (fun h => (h rfl).elim)
   | _ => simp at hx; exact key _ _ hbd (fun h => by simp at h) (fun _ => hx)
theorem acode_ghost {P : Program} {c : Code} {s s2 : AState} {Q : Exit -> AState -> Prop} (h : ACode P G c (fun e s' => e = .normal /\ s' = s2) s) {s3 : AState} (hg : Ghost G s2 s3) (hQ : Q .normal s3) : ACode P G c Q s := by
 intro w R N act bsT bsL bsH bsF hr D hd
 refine wpR_mono (h w R N act bsT bsL bsH bsF hr hd) ?_
 rintro e a w' ⟨s', R', N', bsT', bsL', bsH', ⟨rfl, rfl⟩, hr', hd', hk, hN⟩
 obtain ⟨R2, N2, t2, l2, h2, hr2, hk2, hN2⟩ := hg _ _ _ _ _ _ _ _ hr'
 exact ⟨s3, R2, N2, t2, l2, h2, hQ, hr2, hd', hk.trans hk2, fun o b ho => hN2 o b (hN o b ho)⟩
theorem acode_norm {P : Program} {c : Code} {s s2 : AState} {Q : Exit -> AState -> Prop} (h : ACode P G c (fun e s' => e = .normal /\ s' = s2) s) {s3 : AState}
  (hw : ∀ (w : World) (R : Own) (N : Name -> Option Nat) (tmps : List Value) (bsT bsL bsH bsF : List Nat), RelB G w R N tmps s2 undef .undef [] bsT bsL bsH bsF -> ∃ bsT', RelB G w R N tmps s3 undef .undef [] bsT' bsL bsH bsF) (hQ : Q .normal s3) : ACode P G c Q s := by
 intro w R N act bsT bsL bsH bsF hr D hd
 refine wpR_mono (h w R N act bsT bsL bsH bsF hr hd) ?_
 rintro e a w' ⟨s', R', N', bsT', bsL', bsH', ⟨rfl, rfl⟩, hr', hd', hk, hN⟩
 obtain ⟨bsT2, hr2⟩ := hw _ _ _ _ _ _ _ _ hr'
 exact ⟨s3, R', N', bsT2, bsL', bsH', hQ, hr2, hd', hk, hN⟩
theorem fcode_sound {P : Program} (hE : E.Ok P) (hX : XOk P G X) (live : Nat -> Nat) (fuel : Nat) : ∀ (c : Code) (f f' : FState) (e : Exit), chkAll H c = true -> fcode X E G H n live fuel c f = some (e, f') -> ∀ Q : Exit -> AState -> Prop, Q e (f'.toA n) -> ACode P G c Q (f.toA n)
 | .skip, f, f', e, _, h, Q, hQ => by
  have h : some (Exit.normal, f) = some (e, f') := h
  simp at h; obtain ⟨rfl, rfl⟩ := h; exact acode_here wpR_skip hQ
 | .region id ops draw, f, f', e, hc, h, Q, hQ => by
  rw [fcode_region] at h
  cases draw
  ·dsimp only at h
   cases h1 : fops X E G (H.at id) n ops.toList ops.toList f with
   | none => rw [h1] at h; simp at h
   | some f1 =>
    rw [h1] at h
    dsimp only at h
    cases h2 : fghost n (live id) (fprune f1 (fun l => pruneS l (live id))) with
    | none => rw [h2] at h; simp at h
    | some f2 =>
    rw [h2] at h
    simp at h
    obtain ⟨rfl, rfl⟩ := h
    refine acode_ghost G (acode_norm G (acode_region hE (xops_sound hX (fops_some X E G (H.at id) n h1) ⟨rfl, rfl⟩)) ?_ ⟨rfl, rfl⟩) (fghost_ghost G h2) hQ
    intro w R N tmps bsT bsL bsH bsF hr
    exact hr.prune _
  dsimp only at h
  cases h1 : fdraw X E G H n ops.toList (H.ord id) f with
  | none => rw [h1] at h; simp at h
  | some f1 =>
   rw [h1] at h
   dsimp only at h
   cases h2 : fghost n (live id) (fprune f1 (fun l => pruneS l (live id))) with
   | none => rw [h2] at h; simp at h
   | some f2 =>
   rw [h2] at h
   simp at h
   obtain ⟨rfl, rfl⟩ := h
   refine acode_ghost G (acode_norm G (acode_draw hE hE.mixed (by simpa [chkAll] using hc) (xdraw_sound hX (fdraw_some X E G H n h1) ⟨rfl, rfl⟩)) ?_ ⟨rfl, rfl⟩) (fghost_ghost G h2) hQ
   intro w R N tmps bsT bsL bsH bsF hr
   exact hr.prune _
 | .seq x y, f, f', e, hc, h, Q, hQ => by
  simp only [chkAll, Bool.and_eq_true] at hc
  rw [fcode_seq] at h
  refine acode_seq ?_
  cases hx : fcode X E G H n live fuel x f with
  | none => rw [hx] at h; simp at h
  | some r =>
   obtain ⟨e1, f1⟩ := r
   rw [hx] at h
   refine fcode_sound hE hX live fuel x f f1 e1 hc.1 hx _ ?_
   cases e1 with
   | normal => exact fcode_sound hE hX live fuel y f1 f' e hc.2 h Q hQ
   | _ => simp at h; obtain ⟨rfl, rfl⟩ := h; exact hQ
 | .cond c x y, f, f', e, hc, h, Q, hQ => by
  simp only [chkAll, Bool.and_eq_true] at hc
  intro w R N act bsT bsL bsH bsF hr D hd
  rw [fcode_cond] at h
  split at h
  ·rename_i b hb
   obtain ⟨bs, he⟩ := eval_raw hr.tmps hr.glob c
   rw [feval_eq, hb] at he
   obtain ⟨_, he, _⟩ := repV_flat_inv he
   refine wpR_cond he ?_
   cases b
   ·exact fcode_sound hE hX live fuel y f f' e hc.2 h Q hQ w R N act bsT bsL bsH bsF hr hd
   exact fcode_sound hE hX live fuel x f f' e hc.1 h Q hQ w R N act bsT bsL bsH bsF hr hd
  simp at h
 | .block id c, f, f', e, hc, h, Q, hQ => by
  simp only [chkAll] at hc
  rw [fcode_block] at h
  cases hx : fcode X E G H n live fuel c f with
  | none => rw [hx] at h; simp at h
  | some r =>
   obtain ⟨e1, f1⟩ := r
   rw [hx] at h
   intro w R N act bsT bsL bsH bsF hr D hd
   apply wpR_block
   refine wpR_mono (fcode_sound hE hX live fuel c f f1 e1 hc hx (fun e' s'' => e' = e1 /\ s'' = f1.toA n) ⟨rfl, rfl⟩ w R N act bsT bsL bsH bsF hr hd) ?_
   rintro e2 a w' ⟨s2, R', N', bsT', bsL', bsH', ⟨rfl, rfl⟩, rest⟩
   cases e2 with
   | exit i =>
    simp only [Exit.inBlock]
    dsimp only at h
    by_cases hi : i = id
    ·have hb : Nat.beq i id = true := by rw [Nat.beq_eq]; exact hi
     rw [if_pos hi]
     rw [hb] at h
     simp at h; obtain ⟨rfl, rfl⟩ := h
     exact ⟨_, R', N', bsT', bsL', bsH', hQ, rest⟩
    have hb : Nat.beq i id = false := by rw [Bool.eq_false_iff]; intro hc; rw [Nat.beq_eq] at hc; exact hi hc
    rw [if_neg hi]
    rw [hb] at h
    simp at h; obtain ⟨rfl, rfl⟩ := h
    exact ⟨_, R', N', bsT', bsL', bsH', hQ, rest⟩
   | _ => simp at h; obtain ⟨rfl, rfl⟩ := h; exact ⟨_, R', N', bsT', bsL', bsH', hQ, rest⟩
 | .exit id, f, f', e, _, h, Q, hQ => by
  have h : some (Exit.exit id, f) = some (e, f') := h
  simp at h; obtain ⟨rfl, rfl⟩ := h; exact acode_here wpR_exit hQ
 | .ret, f, f', e, _, h, Q, hQ => by
  have h : some (Exit.ret, f) = some (e, f') := h
  simp at h; obtain ⟨rfl, rfl⟩ := h; exact acode_here wpR_ret hQ
 | .loop c, f, f', e, hc, h, Q, hQ => by
  simp only [chkAll] at hc
  exact floop_sound G n (fun f e f' hb Q hQ => fcode_sound hE hX live fuel c f f' e hc hb Q hQ) h hQ
 | .rangeFunc _ _ _ _, _, _, _, _, h, _, _ => by cases h
 | .scope c, f, f', e, hc, h, Q, hQ => by
  simp only [chkAll] at hc
  rw [fcode_scope] at h
  cases hx : fcode X E G H n live fuel c f with
  | none => rw [hx] at h; simp at h
  | some r =>
   obtain ⟨e1, f1⟩ := r
   rw [hx] at h
   intro w R N act bsT bsL bsH bsF hr D hd
   apply wpR_scope_straight
   refine wpR_mono (fcode_sound hE hX live fuel c f f1 e1 hc hx (fun e' s'' => e' = e1 /\ s'' = f1.toA n) ⟨rfl, rfl⟩ w R N act bsT bsL bsH bsF hr hd) ?_
   rintro e2 a w' ⟨s2, R', N', bsT', bsL', bsH', ⟨rfl, rfl⟩, rest⟩
   cases e2 with
   | goto l => simp at h
   | _ => simp at h; obtain ⟨rfl, rfl⟩ := h; exact ⟨_, R', N', bsT', bsL', bsH', hQ, rest⟩
 | .label _, f, f', e, _, h, Q, hQ => by
  have h : some (Exit.normal, f) = some (e, f') := h
  simp at h; obtain ⟨rfl, rfl⟩ := h; exact acode_here wpR_label hQ
 | .goto _, _, _, _, _, h, _, _ => by cases h
 | .refuse _, _, _, _, _, h, _, _ => by cases h
/-! ### Results -/
noncomputable def fcellVal (f : FState) (a : Tmp) (t : TypeId) : Option AVal :=
 match fget n f a with
 | .ptr k off => (match fobj f k, E.ty t with
  | some (.cells cs), some i => loadCells i off cs
  | _, _ => none)
 | _ => none
theorem fcellVal_eq (f : FState) (a : Tmp) (t : TypeId) : cellVal E (f.toA n) a t = fcellVal E n f a t := by
 unfold cellVal fcellVal
 rw [fget_eq]
 cases fget n f a with
 | ptr k off => dsimp only; rw [fobj_eq]; rfl
 | _ => rfl
noncomputable def fretVals : FState -> List ResultVar -> Option (List AVal)
 | _, [] => some []
 | f, .tmp t :: r => (match fretVals (fdrop n f (some 0) [.tmp t]) r with | some vs => some (fget n f t :: vs) | none => none)
 | f, .cell a t :: r => (match fcellVal E n f a t, fretVals f r with | some v, some vs => some (v :: vs) | _, _ => none)
theorem fretVals_eq : ∀ (rs : List ResultVar) (f : FState), retVals E (f.toA n) rs = fretVals E n f rs
 | [], _ => rfl
 | .tmp t :: r, f => by
  simp only [retVals, fretVals, ← fdrop_eq, fretVals_eq r, fget_eq]
  cases fretVals E n (fdrop n f (some 0) [.tmp t]) r <;> rfl
 | .cell a t :: r, f => by
  simp only [retVals, fretVals, fcellVal_eq, fretVals_eq r]
  cases fcellVal E n f a t <;> cases fretVals E n f r <;> rfl
noncomputable def fexp : List Name -> FState -> List AVal -> FState × List AVal
 | [], f, args => (f, args)
 | k :: ks, f, args =>
  (match (mentionsL k args || locsMention k f.locs) with
   | true => (match fprep1 true k f args with
   | some (f', args') => fexp ks f' args'
   | none => fexp ks f args)
   | false => fexp ks f args)
theorem fexp_eq : ∀ (ks : List Name) (f : FState) (args : List AVal), expAll ks (f.toA n) args = ((fexp ks f args).1.toA n, (fexp ks f args).2)
 | [], _, _ => rfl
 | k :: ks, f, args => by
  simp only [expAll, fexp, fprep1_eq]
  have e : (f.toA n).locs = f.locs := rfl
  rw [e]
  cases (mentionsL k args || locsMention k f.locs) with
  | false => rw [if_neg (by simp)]; exact fexp_eq ks f args
  | true =>
   rw [if_pos rfl]
   cases fprep1 true k f args with
   | none => exact fexp_eq ks f args
   | some x => exact fexp_eq ks x.1 x.2
noncomputable def fret (rs : List ResultVar) (f : FState) : Option XRes :=
 match fretVals E n f rs with
 | none => none
 | some vs =>
  match noLocL (tidyL vs) with
  | true => some ⟨pack (tidyL vs), f.heap, f.next⟩
  | false => match fexp (repeatL f.locs.length (locNames f.locs)) f (tidyL vs) with
   |(f', vs') => if noLocL vs' = true then some ⟨pack vs', f'.heap, f'.next⟩ else none
theorem fret_eq (rs : List ResultVar) (f : FState) : xret E rs (f.toA n) = fret E n rs f := by
 unfold xret fret
 rw [fretVals_eq]
 cases fretVals E n f rs with
 | none => rfl
 | some vs =>
  dsimp only
  cases noLocL (tidyL vs) with
  | true => rw [if_pos rfl]; rfl
  | false =>
   rw [if_neg (by simp)]
   dsimp only
   have e : (f.toA n).locs = f.locs := rfl
   rw [e, fexp_eq]
   generalize fexp (repeatL f.locs.length (locNames f.locs)) f (tidyL vs) = pr
   obtain ⟨f', vs'⟩ := pr
   rfl
def slOf : Nat -> List AVal -> Sl
 | _, [] => []
 | k, a :: r => (k, a) :: slOf (k + 1) r
theorem slOf_get : ∀ (as : List AVal) (k t : Nat), getS (slOf k as) t = if k <= t then getT as (t - k) else .undef
 | [], k, t => by
  rw [slOf, getS_nil]
  split <;> simp [getT]
 | a :: r, k, t => by
  rw [slOf, getS_cons, slOf_get r (k + 1) t]
  by_cases h : k = t
  ·subst h; simp [getT]
  rw [if_neg h]
  by_cases h2 : k <= t
  ·rw [if_pos (by omega), if_pos h2]
   unfold getT
   rw [show t - k = (t - (k + 1)) + 1 by omega]
   simp
  rw [if_neg (by omega), if_neg h2]
end
section
variable (E : TEnv) (G : Globs) (moves caps : FuncId -> Bool) (F : FuncId -> Option XFn) (M : XCalls) (fuel : Nat)
/-- A call, run; M: calls that are known. -/
noncomputable def fcall : Nat -> XCalls
 | 0 => fun _ _ _ _ => none
 | k + 1 => fun g args heap next =>
  match F g with
  | none => none
  | some x => match Nat.ble args.length x.ntmps with
   | false => none
   | true => (match fcode (fun g args heap next => match M g args heap next with | some r => some r | none => fcall k g args heap next) E G ⟨moves, x.ord, caps, rowsOf caps g⟩ x.ntmps x.live fuel x.code ⟨slOf 0 args, [], heap, next⟩ with
    | some (.ret, f) => (match fret E x.ntmps x.results f with | some r => some (gcR next r) | none => none)
    | some (.normal, f) => (match fret E x.ntmps x.results f with | some r => some (gcR next r) | none => none)
    | _ => none)
variable {E G moves caps F M}
theorem fcall_sound {P : Program} (hE : E.Ok P) (hF : FOk P moves caps F) (hM : XOk P G M) : ∀ k, XOk P G (fcall E G moves caps F M fuel k)
 | 0 => by intro f args heap next r h; cases h
 | k + 1 => by
  intro g args heap next r h
  simp only [fcall] at h
  split at h
  ·simp at h
  rename_i x hx
  obtain ⟨fn, h1, h2, h3, h4, h5⟩ := hF g x hx
  have ih := fcall_sound hE hF hM k
  have hX : XOk P G (fun g args heap next => match M g args heap next with | some r => some r | none => fcall E G moves caps F M fuel k g args heap next) := by
   intro g args heap next r h
   dsimp only at h
   split at h
   ·rename_i r' hr'
    simp at h
    subst h
    exact hM _ _ _ _ _ hr'
   exact ih _ _ _ _ _ h
  split at h
  ·simp at h
  rename_i hlen
  have hlen := ble_to hlen
  have hent : (⟨slOf 0 args, [], heap, next⟩ : FState).toA x.ntmps = enter x.ntmps args heap next := by
   simp only [FState.toA, enter]
   congr 1
   apply List.ext_getElem?
   intro i
   rw [mkS_get, Nat.zero_add, slOf_get, if_pos (Nat.zero_le _), Nat.sub_zero, List.getElem?_append]
   split
   ·split
    ·rename_i hi; unfold getT; rw [List.getElem?_eq_getElem hi]
    rename_i hi1 hi
    rw [List.getElem?_replicate, if_pos (by omega)]
    unfold getT
    rw [List.getElem?_eq_none (by omega)]
   rename_i hi
   rw [if_neg (by omega), List.getElem?_replicate, if_neg (by omega)]
  have key : ∀ e f, fcode (fun g args heap next => match M g args heap next with | some r => some r | none => fcall E G moves caps F M fuel k g args heap next) E G ⟨moves, x.ord, caps, rowsOf caps g⟩ x.ntmps x.live fuel x.code ⟨slOf 0 args, [], heap, next⟩ = some (e, f) -> e = .ret ∨ e = .normal ->
    (match fret E x.ntmps x.results f with | some r => some (gcR next r) | none => none) = some r -> ACalls P G g args heap next (XQ r) := by
   intro e f hx he hr
   cases hf : fret E x.ntmps x.results f with
   | none => rw [hf] at hr; simp at hr
   | some r0 =>
    rw [hf] at hr
    simp at hr
    subst hr
    apply ACalls.gc
    refine acalls_of_acode hE h1 h2 ?_
    intro _ _
    rw [h3, h4, ← hent]
    refine fcode_sound _ E G ⟨moves, x.ord, caps, rowsOf caps g⟩ x.ntmps hE hX x.live fuel x.code _ _ _ (by rw [chkAll_rows]; exact h5) hx _ ?_
    have := xret_sound (E := E) (rs := x.results) (s := f.toA x.ntmps) (r := r0) (by rw [fret_eq]; exact hf)
    rcases he with rfl | rfl <;> exact this
  split at h
  ·rename_i f hf; exact key _ _ hf (.inl rfl) h
  ·rename_i f hf; exact key _ _ hf (.inr rfl) h
  simp at h
end
end Go.Tp

namespace Go.Tp
variable {P : Program} {G : Globs}
end Go.Tp

namespace Go.Tp
mutual
/-- Values that name no object. -/
def nmF : AVal -> Bool
 | .dat _ => true
 | .own _ => true
 | .ref _ => true
 | .undef => true
 | .agg cs => nmFL cs
 | .tup cs => nmFL cs
 | .fn _ x y => nmFL x && nmFL y
 | .ptr _ _ => false
 | .map _ => false
 | .win _ _ _ _ => false
def nmFL : List AVal -> Bool
 | [] => true
 | a :: r => nmF a && nmFL r
end
section
variable {w : World} {R : Own} {N N' : Name -> Option Nat}
mutual
theorem RepV.nm : ∀ {a : AVal} {v : Value} {bs : List Nat}, RepV w R N a v bs -> nmF a = true -> RepV w R N' a v bs
 | .dat _, _, _, h, _ => by simp only [RepV] at h ⊢; exact h
 | .own _, _, _, h, _ => by simp only [RepV] at h ⊢; exact h
 | .ref _, _, _, h, _ => by simp only [RepV] at h ⊢; exact h
 | .ptr _ _, _, _, _, hn => by simp [nmF] at hn
 | .map _, _, _, _, hn => by simp [nmF] at hn
 | .win _ _ _ _, _, _, _, hn => by simp [nmF] at hn
 | .fn _ x y, _, _, h, hn => by
  simp only [nmF, Bool.and_eq_true] at hn
  simp only [RepV] at h ⊢
  obtain ⟨h1, vs, us, e, h2, h3⟩ := h
  exact ⟨h1, vs, us, e, RepVs.nm (l := x) h2 hn.1, RepVs.nm (l := y) h3 hn.2⟩
 | .agg cs, _, _, h, hn => by
  simp only [nmF] at hn
  simp only [RepV] at h ⊢
  obtain ⟨vs, e, h⟩ := h
  exact ⟨vs, e, RepVs.nm (l := cs) h hn⟩
 | .tup cs, _, _, h, hn => by
  simp only [nmF] at hn
  simp only [RepV] at h ⊢
  obtain ⟨vs, e, h⟩ := h
  exact ⟨vs, e, RepVs.nm (l := cs) h hn⟩
 | .undef, _, _, h, _ => by simp only [RepV] at h ⊢; exact h
theorem RepVs.nm : ∀ {l : List AVal} {vs : List Value} {bs : List Nat}, RepVs w R N l vs bs -> nmFL l = true -> RepVs w R N' l vs bs
 | [], _, _, h, _ => by simp only [RepVs] at h ⊢; exact h
 | a :: l, _, _, h, hn => by
  simp only [nmFL, Bool.and_eq_true] at hn
  simp only [RepVs] at h ⊢
  obtain ⟨v, vs', b1, b2, e1, e2, h1, h2⟩ := h
  exact ⟨v, vs', b1, b2, e1, e2, RepV.nm (a := a) h1 hn.1, RepVs.nm (l := l) h2 hn.2⟩
end
end
/-- A call that looks at no object, and its value. -/
structure PMemo where
 fn : FuncId
 args : List AVal
 val : AVal
def PMemo.ok (m : PMemo) : Bool := nmFL m.args && nmF m.val
variable {P : Program} {G : Globs}
end Go.Tp
