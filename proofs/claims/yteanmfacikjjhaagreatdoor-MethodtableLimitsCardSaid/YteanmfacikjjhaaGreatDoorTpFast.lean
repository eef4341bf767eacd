/- The generic layer: the same reckoning, quick in the kernel. -/
import Derived.Test.YteanmfacikjjhaaGreatDoorTpExec
namespace Go.Tp

def eqB : List UInt8 → List UInt8 → Bool
  | [], [] => true
  | a :: x, b :: y => (match Nat.beq a.toNat b.toNat with | true => eqB x y | false => false)
  | _, _ => false

def ltB : List UInt8 → List UInt8 → Bool
  | _, [] => false
  | [], _ :: _ => true
  | a :: x, b :: y => (match Nat.blt a.toNat b.toNat with
    | true => true
    | false => (match Nat.beq a.toNat b.toNat with | true => ltB x y | false => false))

theorem beq_u8 (a b : UInt8) : Nat.beq a.toNat b.toNat = (a == b) := by
  rw [Bool.eq_iff_iff, Nat.beq_eq, beq_iff_eq]
  exact ⟨UInt8.toNat_inj.1, fun h => by rw [h]⟩
theorem blt_u8 (a b : UInt8) : Nat.blt a.toNat b.toNat = decide (a < b) := by
  rw [Bool.eq_iff_iff, Nat.blt_eq, decide_eq_true_eq]
  exact UInt8.lt_iff_toNat_lt.symm

theorem eqB_eq : ∀ x y, eqB x y = (x == y)
  | [], [] => rfl
  | [], _ :: _ => rfl
  | _ :: _, [] => rfl
  | a :: x, b :: y => by
    simp only [eqB, beq_u8, eqB_eq x y]
    cases h : a == b <;> simp_all
theorem ltB_eq : ∀ x y, ltB x y = Op.bytesLess x y
  | [], [] => rfl
  | [], _ :: _ => rfl
  | _ :: _, [] => rfl
  | a :: x, b :: y => by
    simp only [ltB, blt_u8, beq_u8, ltB_eq x y, Op.bytesLess]
    cases decide (a < b) <;> cases h : a == b <;> simp_all

theorem toList_data (x : ByteArray) : x.toList = x.data.toList := ByteArray.toList_eq x

def wrapF (k : IntKind) (n : Int) : Int :=
  match k with
  | .i64 => (match n with
    | .ofNat m => (match Nat.blt m 9223372036854775808 with | true => .ofNat m | false => k.wrap n)
    | .negSucc m => (match Nat.blt m 9223372036854775808 with | true => .negSucc m | false => k.wrap n))
  | .u8 => (match n with
    | .ofNat m => (match Nat.blt m 256 with | true => .ofNat m | false => k.wrap n)
    | .negSucc _ => k.wrap n)
  | .u64 => (match n with
    | .ofNat m => (match Nat.blt m 18446744073709551616 with | true => .ofNat m | false => k.wrap n)
    | .negSucc _ => k.wrap n)
  | _ => k.wrap n

theorem ble_mk {a b : Nat} (h : a ≤ b) : Nat.ble a b = true := by rw [Nat.ble_eq]; exact h
theorem ble_to {a b : Nat} (h : Nat.ble a b = true) : a ≤ b := by rwa [Nat.ble_eq] at h
theorem blt_to {a b : Nat} (h : Nat.blt a b = true) : a < b := by rwa [Nat.blt_eq] at h

theorem wrapF_eq (k : IntKind) (n : Int) : wrapF k n = k.wrap n := by
  unfold wrapF
  split
  · split
    · split
      · rename_i m h
        have h := blt_to h
        simp [IntKind.wrap, IntKind.signed, IntKind.bits]
        omega
      · rfl
    · rename_i m
      split
      · rename_i h
        have h := blt_to h
        have e : (Int.negSucc m : Int) = -(m : Int) - 1 := by rw [Int.negSucc_eq]; omega
        exact (wrap_i64 (by rw [e]; omega) (by rw [e]; omega)).symm
      · rfl
  · split
    · split
      · rename_i m h
        have h := blt_to h
        simp [IntKind.wrap, IntKind.signed, IntKind.bits]
        omega
      · rfl
    · rfl
  · split
    · split
      · rename_i m h
        have h := blt_to h
        simp [IntKind.wrap, IntKind.signed, IntKind.bits]
        omega
      · rfl
    · rfl
  · rfl

def ltF (a b : Int) : Bool :=
  match a, b with
  | .ofNat x, .ofNat y => Nat.blt x y
  | .negSucc x, .negSucc y => Nat.blt y x
  | .negSucc _, .ofNat _ => true
  | .ofNat _, .negSucc _ => false
theorem ltF_eq (a b : Int) : ltF a b = decide (a < b) := by
  cases a <;> cases b <;> simp only [ltF] <;> rw [Bool.eq_iff_iff] <;> simp [Nat.blt_eq] <;> omega
def eqF (a b : Int) : Bool :=
  match a, b with
  | .ofNat x, .ofNat y => Nat.beq x y
  | .negSucc x, .negSucc y => Nat.beq x y
  | .negSucc _, .ofNat _ => false
  | .ofNat _, .negSucc _ => false
theorem eqF_eq (a b : Int) : eqF a b = (a == b) := by
  cases a <;> cases b <;> simp only [eqF] <;> rw [Bool.eq_iff_iff] <;> simp <;> omega

def sameF : TypeDesc → Value → Value → Option Bool
  | .string, .string a, .string b => some (eqB a.data.toList b.data.toList)
  | td, a, b => Instr.sameNow td a b
theorem sameF_eq (td : TypeDesc) (a b : Value) : sameF td a b = Instr.sameNow td a b := by
  unfold sameF
  split
  · rename_i x y
    simp only [Instr.sameNow, eqB_eq, Option.some.injEq]
    obtain ⟨⟨a⟩⟩ := x
    obtain ⟨⟨b⟩⟩ := y
    have e : ((⟨⟨a⟩⟩ : ByteArray) == ⟨⟨b⟩⟩) = ((Array.mk a) == (Array.mk b)) := rfl
    rw [e]
    simp
  · rfl
def findF (td : TypeDesc) (k : Value) : List (Value × Dat) → Nat → Option (Option (Nat × Dat))
  | [], _ => some none
  | (x, d) :: es, i =>
    match sameF td k x with
    | some true => some (some (i, d))
    | some false => findF td k es (i + 1)
    | none => none
theorem findF_eq (td : TypeDesc) (k : Value) : ∀ es i, findF td k es i = findKey td k es i
  | [], _ => rfl
  | (x, d) :: es, i => by
    simp only [findF, findKey, sameF_eq]
    cases h : Instr.sameNow td k x with
    | none => rfl
    | some b => cases b <;> simp [findF_eq td k es]

/-- All elements have as many cells. -/
def sizedB (size : Nat) : List Dat → Bool
  | [] => true
  | d :: r => (match Nat.beq d.cells.length size with | true => sizedB size r | false => false)
theorem sizedB_iff {size : Nat} : ∀ {l : List Dat}, sizedB size l = true ↔ ∀ d ∈ l, d.cells.length = size
  | [] => by simp [sizedB]
  | d :: r => by
    simp only [sizedB]
    split
    · rename_i h; rw [Nat.beq_eq] at h; rw [sizedB_iff]; simp [h]
    · rename_i h
      have : ¬ d.cells.length = size := fun e => by rw [← Nat.beq_eq] at e; rw [e] at h; simp at h
      simp [this]

def getF {α : Type} : List α → Nat → Option α
  | [], _ => none
  | a :: _, 0 => some a
  | _ :: r, n + 1 => getF r n
theorem getF_eq {α : Type} : ∀ (l : List α) (n : Nat), getF l n = l[n]?
  | [], _ => by simp [getF]
  | _ :: _, 0 => by simp [getF]
  | _ :: r, n + 1 => by simp [getF, getF_eq r n]

def Prims.fast : Prims where
  wrap := wrapF
  add k a b := wrapF k (a + b)
  dif k a b := wrapF k (a - b)
  mul k a b := wrapF k (a * b)
  lt := ltF
  eq := eqF
  slt x y := ltB x.data.toList y.data.toList
  seq x y := eqB x.data.toList y.data.toList
  cat x y := (match Nat.ble (x.size + y.size) 9223372036854775807 with | true => some ⟨⟨x.data.toList ++ y.data.toList⟩⟩ | false => none)
  elt es i := (match i with | .ofNat n => getF es n | .negSucc _ => none)
  byte s i := (match i with | .ofNat n => getF s.data.toList n | .negSucc _ => none)
  sub size es lo hi := (match sizedB size es, Nat.blt 0 size with
      | true, true => (match boundOf hi es.length, boundOf lo 0 with
        | some h, some l => (match Nat.ble l h, Nat.ble h es.length with | true, true => some ((es.take h).drop l) | _, _ => none)
        | _, _ => none)
      | _, _ => none)
  ssub := Prims.std.ssub
  app size bytes es ds := (match size with
      | 0 => none
      | s + 1 => (match sizedB (s + 1) ds, sizedB (s + 1) es, Nat.blt 0 bytes, Nat.ble ((es.length + ds.length) * bytes) 140737488355328, Nat.ble (es.length + ds.length) lim with
        | true, true, true, true, true => some (es ++ ds)
        | _, _, _, _, _ => none))
  key td k es := findF td k es 0
  len := List.length
  slen := ByteArray.size
  rem := Int.tmod
  quo := Int.tdiv
  mx x y := (match ltF x y with | true => y | false => x)

theorem fast_std : Prims.fast = Prims.std := by
  unfold Prims.fast Prims.std
  congr 1
  · funext k n; exact wrapF_eq k n
  · funext k a b; exact wrapF_eq k _
  · funext k a b; exact wrapF_eq k _
  · funext k a b; exact wrapF_eq k _
  · funext a b; exact ltF_eq a b
  · funext a b; exact eqF_eq a b
  · funext x y; rw [ltB_eq, toList_data, toList_data]
  · funext x y; rw [eqB_eq, toList_data, toList_data]
  · funext x y
    have hm : IntKind.i64.max = 9223372036854775807 := by decide
    have hc : (⟨⟨x.data.toList ++ y.data.toList⟩⟩ : ByteArray) = x ++ y := by
      have e : x ++ y = ⟨x.data ++ y.data⟩ := by
        cases x; cases y; simp [ByteArray.ext_iff]
      rw [e]
      cases x; cases y; simp
    rw [hc, hm]
    split
    · rename_i h; rw [Nat.ble_eq] at h; rw [if_neg (by omega)]
    · rename_i h
      have : ¬ x.size + y.size ≤ 9223372036854775807 := fun e => by rw [← Nat.ble_eq] at e; rw [e] at h; simp at h
      rw [if_pos (by omega)]
  · funext es i
    cases i with
    | ofNat n => simp [getF_eq]
    | negSucc n => rfl
  · funext s i
    cases i with
    | ofNat n =>
      simp only [getF_eq]
      rw [if_pos (show (0 : Int) ≤ Int.ofNat n from Int.natCast_nonneg n)]
      by_cases h : n < s.size
      · rw [show (Int.ofNat n).toNat = n from rfl, getElem?_pos s n h]
        have h2 : n < s.data.toList.length := by simpa using h
        rw [List.getElem?_eq_getElem h2]
        simp [ByteArray.getElem_eq_getElem_data]
      · rw [show (Int.ofNat n).toNat = n from rfl, getElem?_neg s n h, List.getElem?_eq_none (by simpa using h)]
    | negSucc n => rfl
  · funext size es lo hi
    by_cases h1 : ∀ d ∈ es, d.cells.length = size
    · rw [sizedB_iff.2 h1]
      by_cases h2 : 0 < size
      · rw [if_pos ⟨h1, h2⟩, show Nat.blt 0 size = true from by rw [Nat.blt_eq]; exact h2]
        dsimp only
        cases boundOf hi es.length with
        | none => rfl
        | some h =>
          cases boundOf lo 0 with
          | none => rfl
          | some l =>
            dsimp only
            by_cases h3 : l ≤ h <;> by_cases h4 : h ≤ es.length
            · rw [if_pos ⟨h3, h4⟩, ble_mk h3, ble_mk h4]
            · rw [if_neg (fun h => h4 h.2), ble_mk h3, show Nat.ble h es.length = false from by rw [Bool.eq_false_iff]; intro e; exact h4 (ble_to e)]
            · rw [if_neg (fun h => h3 h.1), show Nat.ble l h = false from by rw [Bool.eq_false_iff]; intro e; exact h3 (ble_to e)]
            · rw [if_neg (fun h => h3 h.1), show Nat.ble l h = false from by rw [Bool.eq_false_iff]; intro e; exact h3 (ble_to e)]
      · rw [if_neg (fun h => h2 h.2), show Nat.blt 0 size = false from by rw [Bool.eq_false_iff]; intro e; exact h2 (by rwa [Nat.blt_eq] at e)]
    · rw [if_neg (fun h => h1 h.1), show sizedB size es = false from by rw [Bool.eq_false_iff]; intro e; exact h1 (sizedB_iff.1 e)]
  · funext size bytes es ds
    cases size with
    | zero => rfl
    | succ s =>
      dsimp only
      by_cases hc : (∀ d ∈ ds, d.cells.length = s + 1) ∧ (∀ d ∈ es, d.cells.length = s + 1) ∧ 0 < bytes ∧ (es.length + ds.length) * bytes ≤ 140737488355328 ∧ es.length + ds.length ≤ lim
      · rw [sizedB_iff.2 hc.1, sizedB_iff.2 hc.2.1, show Nat.blt 0 bytes = true from by rw [Nat.blt_eq]; exact hc.2.2.1, ble_mk hc.2.2.2.1, ble_mk hc.2.2.2.2]
        exact (if_pos hc).symm
      · rw [if_neg hc]
        split
        · rename_i a1 a2 a3 a4 a5
          rw [Nat.blt_eq] at a3
          exact absurd ⟨sizedB_iff.1 a1, sizedB_iff.1 a2, a3, ble_to a4, ble_to a5⟩ hc
        · rfl
  · funext td k es; exact findF_eq td k es 0
  · funext x y
    rw [ltF_eq]
    by_cases h : x < y <;> simp [h]
end Go.Tp
