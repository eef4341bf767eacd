/- The generic layer: operations that leave the world as it is. -/
import Derived.Test.YteanmfacikjjhaaGreatDoorTpSound1
import Derived.Laws.Closers25b
import Derived.Laws.Sem
namespace Go.Tp

section
variable {P : Program} {E : TEnv} {w : World} {R : Own} {N : Name → Option Nat}

theorem TEnv.Ok.desc_bool (hE : E.Ok P) {t : TypeId} (h : E.desc t = some .bool) : P.underlying t = some .bool := by
  unfold TEnv.desc at h
  split at h
  · rename_i i hi; have := (hE.ty t i hi).2; simp at h; rw [h] at this; exact this
  · simp at h
theorem TEnv.Ok.desc_int (hE : E.Ok P) {t : TypeId} {k : IntKind} (h : E.desc t = some (.int k)) : P.underlying t = some (.int k) := by
  unfold TEnv.desc at h
  split at h
  · rename_i i hi; have := (hE.ty t i hi).2; simp at h; rw [h] at this; exact this
  · simp at h
theorem TEnv.Ok.desc_string (hE : E.Ok P) {t : TypeId} (h : E.desc t = some .string) : P.underlying t = some .string := by
  unfold TEnv.desc at h
  split at h
  · rename_i i hi; have := (hE.ty t i hi).2; simp at h; rw [h] at this; exact this
  · simp at h
theorem TEnv.Ok.desc_pointer (hE : E.Ok P) {t : TypeId} (h : E.desc t = some .pointer) : ∃ e, P.underlying t = some (.pointer e) := by
  unfold TEnv.desc at h
  split at h
  · rename_i i hi; have := (hE.ty t i hi).2; simp at h; rw [h] at this; exact this
  · simp at h
theorem TEnv.Ok.desc_slice (hE : E.Ok P) {t e : TypeId} (h : E.desc t = some (.slice e)) : P.underlying t = some (.slice e) := by
  unfold TEnv.desc at h
  split at h
  · rename_i i hi; have := (hE.ty t i hi).2; simp at h; rw [h] at this; exact this
  · simp at h
theorem TEnv.Ok.desc_map (hE : E.Ok P) {t k e : TypeId} (h : E.desc t = some (.map k e)) : P.underlying t = some (.map k e) := by
  unfold TEnv.desc at h
  split at h
  · rename_i i hi; have := (hE.ty t i hi).2; simp at h; rw [h] at this; exact this
  · simp at h
theorem TEnv.Ok.desc_struct (hE : E.Ok P) {t : TypeId} {fs : List (Nat × TypeId)} (h : E.desc t = some (.struct fs)) :
    ∃ fields : Array Field, P.underlying t = some (.struct fields) ∧ fields.toList.map (fun f => (f.offset, f.type)) = fs ∧
      ∃ places, fields.toList.mapM (fun f => (P.info? f.type).map fun i => (f.offset, i.size)) = some places := by
  unfold TEnv.desc at h
  split at h
  · rename_i i hi; have := (hE.ty t i hi).2; simp at h; rw [h] at this; exact this
  · simp at h

theorem TEnv.Ok.desc_array (hE : E.Ok P) {t e : TypeId} {n : Nat} (h : E.desc t = some (.array n e)) : P.underlying t = some (.array n e) := by
  unfold TEnv.desc at h
  split at h
  · rename_i i hi; have := (hE.ty t i hi).2; simp at h; rw [h] at this; exact this
  · simp at h

theorem run_und {t : TypeId} {d : TypeDesc} (h : P.underlying t = some d) : (underlying t).run P w = .ok d w := by
  simp [underlying, h]

theorem run_info {t : TypeId} {i : TypeInfo} (h : P.info? t = some i) : (typeInfo t).run P w = .ok i w := by
  simp [typeInfo, h]

theorem TEnv.Ok.run_size (hE : E.Ok P) {t : TypeId} {i : TI} (h : E.ty t = some i) : (sizeOf t).run P w = .ok i.size w := by
  obtain ⟨⟨j, h1, h2, _⟩, _⟩ := hE.ty t i h
  simp [sizeOf, run_info h1, h2]

theorem TEnv.Ok.run_zero (hE : E.Ok P) {t : TypeId} {i : TI} (h : E.ty t = some i) : (zeroValue t).run P w = .ok i.zero w := by
  obtain ⟨⟨j, h1, _, _, h4, _⟩, _⟩ := hE.ty t i h
  simp [zeroValue, run_info h1, h4]

theorem TEnv.Ok.run_isAgg (hE : E.Ok P) {t : TypeId} {i : TI} (h : E.ty t = some i) : (isAgg t).run P w = .ok i.isAgg w := by
  have hk := (hE.ty t i h).2
  unfold isAgg TI.isAgg
  cases hd : i.desc with
  | bool => rw [hd] at hk; simp [run_und hk]
  | int k => rw [hd] at hk; simp [run_und hk]
  | string => rw [hd] at hk; simp [run_und hk]
  | pointer => rw [hd] at hk; obtain ⟨e, hk⟩ := hk; simp [run_und hk]
  | slice e => rw [hd] at hk; simp [run_und hk]
  | map k e => rw [hd] at hk; simp [run_und hk]
  | func => rw [hd] at hk; obtain ⟨a, b, c, hk⟩ := hk; simp [run_und hk]
  | struct fs => rw [hd] at hk; obtain ⟨fields, hk, _⟩ := hk; simp [run_und hk]
  | array n e => rw [hd] at hk; simp [run_und hk]

/-! #### Scalars -/

theorem isFlat_int {k : IntKind} {a : Int} : isFlat (.int k a) = true ↔ k.min ≤ a ∧ a ≤ k.max := by simp [isFlat]
theorem isFlat_wrap (k : IntKind) (n : Int) : isFlat (.int k (k.wrap n)) = true := isFlat_int.2 (wrap_within k n)
theorem kind_zero (k : IntKind) : k.min ≤ 0 ∧ 0 ≤ k.max := by cases k <;> simp [IntKind.min, IntKind.max, IntKind.bits, IntKind.signed]
theorem tmod_within {k : IntKind} {a b : Int} (h : isFlat (.int k a) = true) : isFlat (.int k (a.tmod b)) = true := by
  rw [isFlat_int] at h ⊢
  have hz := kind_zero k
  rcases Int.le_total 0 a with ha | ha
  · have h1 := Int.tmod_nonneg b ha
    have h2 : a.tmod b ≤ a := by
      have h3 := Int.natAbs_tmod a b
      have h4 := Nat.mod_le a.natAbs b.natAbs
      omega
    omega
  · have h1 : a.tmod b ≤ 0 := by
      have := Int.tmod_nonneg b (show 0 ≤ -a by omega)
      rw [Int.neg_tmod] at this
      omega
    have h2 : a ≤ a.tmod b := by
      have h3 := Int.natAbs_tmod a b
      have h4 := Nat.mod_le a.natAbs b.natAbs
      omega
    omega
theorem fdiv_within {k : IntKind} {a : Int} (m : Nat) (h : isFlat (.int k a) = true) : isFlat (.int k (a.fdiv (2 ^ m))) = true := by
  rw [isFlat_int] at h ⊢
  have hz := kind_zero k
  have hp : (0 : Int) < 2 ^ m := Int.pow_pos (by decide)
  have e : a.fdiv (2 ^ m) = a / 2 ^ m := Int.fdiv_eq_ediv_of_nonneg a (Int.le_of_lt hp)
  rw [e]
  rcases Int.le_total 0 a with ha | ha
  · have h1 := Int.ediv_nonneg ha (Int.le_of_lt hp)
    have h2 := Int.ediv_le_self (2 ^ m) ha
    omega
  · have h1 : a / 2 ^ m ≤ 0 := by
      have := Int.ediv_le_ediv hp ha
      simpa using this
    have h2 : a ≤ a / 2 ^ m := by
      apply Int.le_ediv_of_mul_le hp
      have : a * 2 ^ m ≤ a * 1 := Int.mul_le_mul_of_nonpos_left ha (by omega)
      omega
    omega

theorem intBin_run {op : BinOp} {k : IntKind} {a b : Int} {v : Value} (h : intBin Prims.std op k a b = some v) (ha : isFlat (.int k a) = true) (h1 : op ≠ .shl) (h2 : op ≠ .shr) (t : TypeId) :
    (binOp op t (.int k a) (.int k b)).run P w = .ok v w ∧ isFlat v = true := by
  cases op <;> simp only [intBin, Prims.std, beq_iff_eq, Option.some.injEq, reduceCtorEq, Option.ite_none_left_eq_some] at h <;> first
    | (subst h; exact ⟨by simp [binOp, Op.intArith, Op.intCmp], isFlat_wrap _ _⟩)
    | (subst h; simp [binOp, Op.intArith, Op.intCmp, isFlat]; done)
    | (subst h; refine ⟨?_, rfl⟩; simp [binOp, Op.intCmp]; done)
    | (subst h; refine ⟨?_, rfl⟩; simp [binOp, Op.intCmp]; rfl)
    | (subst h; refine ⟨?_, rfl⟩; simp [binOp, Op.intCmp]; rw [Bool.eq_iff_iff]; simp)
    | (obtain ⟨h0, rfl⟩ := h; exact ⟨by simp [binOp, Op.intDiv, h0], isFlat_wrap _ _⟩)
    | (obtain ⟨h0, rfl⟩ := h; exact ⟨by simp [binOp, Op.intDiv, h0], tmod_within ha⟩)
    | (exact absurd rfl h1)
    | (exact absurd rfl h2)

theorem strBin_run {op : BinOp} {a b : ByteArray} {v : Value} (h : strBin Prims.std op a b = some v) (t : TypeId) :
    (binOp op t (.string a) (.string b)).run P w = .ok v w ∧ isFlat v = true := by
  cases op <;> simp [strBin, Prims.std] at h <;> first
    | (subst h; simp [binOp, Op.stringOp, isFlat])
    | (split at h
       · rename_i hz
         simp at hz h
         obtain ⟨h0, rfl⟩ := hz
         subst h
         simp [binOp, Op.stringOp, isFlat]
         omega
       · simp at h)

theorem run_eqIn_bool (d : Nat) {t : TypeId} (h : P.underlying t = some .bool) (a b : Bool) : (Op.equalIn (d + 1) t (.bool a) (.bool b)).run P w = .ok (a == b) w := by
  simp [Op.equalIn, run_und h]
theorem run_eqIn_nil (d : Nat) {t e : TypeId} (h : P.underlying t = some (.pointer e)) (a : Option Addr) : (Op.equalIn (d + 1) t (.pointer a) (.pointer none)).run P w = .ok a.isNone w := by
  cases a <;> simp [Op.equalIn, run_und h]
theorem run_eqIn_nilmap (d : Nat) {t k e : TypeId} (h : P.underlying t = some (.map k e)) (a : Option Nat) : (Op.equalIn (d + 1) t (.map a) (.map none)).run P w = .ok a.isNone w := by
  cases a <;> simp [Op.equalIn, run_und h]

theorem run_eqIn_nilslice (d : Nat) {t e : TypeId} (h : P.underlying t = some (.slice e)) (a : Option Addr) (l c : Nat) : (Op.equalIn (d + 1) t (.slice a l c) (.slice none 0 0)).run P w = .ok a.isNone w := by
  cases a <;> simp [Op.equalIn, run_und h]

theorem run_eql_slice {t e : TypeId} (h : P.underlying t = some (.slice e)) (a : Option Addr) (l c : Nat) :
    (binOp .eql t (.slice a l c) (.slice none 0 0)).run P w = .ok (.bool a.isNone) w ∧ (binOp .neq t (.slice a l c) (.slice none 0 0)).run P w = .ok (.bool !a.isNone) w := by
  have h' : (Op.equal t (.slice a l c) (.slice none 0 0)).run P w = .ok a.isNone w := run_eqIn_nilslice 9999 h a l c
  constructor <;> simp only [binOp, Sem.run_bind, h'] <;> rfl

theorem run_eql_bool {t : TypeId} (h : P.underlying t = some .bool) (a b : Bool) :
    (binOp .eql t (.bool a) (.bool b)).run P w = .ok (.bool (a == b)) w ∧ (binOp .neq t (.bool a) (.bool b)).run P w = .ok (.bool !(a == b)) w := by
  have h' : (Op.equal t (.bool a) (.bool b)).run P w = .ok (a == b) w := run_eqIn_bool 9999 h a b
  constructor <;> simp only [binOp, Sem.run_bind, h'] <;> rfl
theorem run_eql_ptr {t e : TypeId} (h : P.underlying t = some (.pointer e)) (a : Option Addr) :
    (binOp .eql t (.pointer a) (.pointer none)).run P w = .ok (.bool a.isNone) w ∧ (binOp .neq t (.pointer a) (.pointer none)).run P w = .ok (.bool !a.isNone) w := by
  have h' : (Op.equal t (.pointer a) (.pointer none)).run P w = .ok a.isNone w := run_eqIn_nil 9999 h a
  constructor <;> simp only [binOp, Sem.run_bind, h'] <;> rfl
theorem run_eql_map {t k e : TypeId} (h : P.underlying t = some (.map k e)) (a : Option Nat) :
    (binOp .eql t (.map a) (.map none)).run P w = .ok (.bool a.isNone) w ∧ (binOp .neq t (.map a) (.map none)).run P w = .ok (.bool !a.isNone) w := by
  have h' : (Op.equal t (.map a) (.map none)).run P w = .ok a.isNone w := run_eqIn_nilmap 9999 h a
  constructor <;> simp only [binOp, Sem.run_bind, h'] <;> rfl

theorem flatBin_run (hE : E.Ok P) {op : BinOp} {t : TypeId} {x y v : Value} (h : flatBin E.pr op (E.desc t) x y = some v) (hx : isFlat x = true) (X Y : Operand) :
    ((do eqGuard op t X Y x y; binOp op t x y) : Sem Value).run P w = .ok v w ∧ isFlat v = true := by
  rw [hE.std] at h
  unfold flatBin at h
  split at h
  · rename_i k a k' b
    split at h
    · simp at h
    · rename_i hb
      simp [Prims.std] at h hb
      subst h
      exact ⟨by simp [eqGuard, binOp, Op.shift]; intro hc; omega, isFlat_wrap _ _⟩
  · rename_i k a k' b
    split at h
    · simp at h
    · rename_i hb
      simp [Prims.std] at h hb
      subst h
      exact ⟨by simp [eqGuard, binOp, Op.shift]; intro hc; omega, fdiv_within _ hx⟩
  · rename_i k a k' b hs1 hs2
    split at h
    · rename_i hk
      subst hk
      obtain ⟨h1, h2⟩ := intBin_run (P := P) (w := w) h hx hs1 hs2 t
      refine ⟨?_, h2⟩
      simp only [Sem.run_bind]
      have : (eqGuard op t X Y (.int k a) (.int k b)).run P w = .ok () w := by
        unfold eqGuard; cases op <;> simp
      rw [this]
      simpa using h1
    · simp at h
  · rename_i a b
    obtain ⟨h1, h2⟩ := strBin_run (P := P) (w := w) h t
    refine ⟨?_, h2⟩
    simp only [Sem.run_bind]
    have : (eqGuard op t X Y (.string a) (.string b)).run P w = .ok () w := by
      unfold eqGuard; cases op <;> simp
    rw [this]
    simpa using h1
  · split at h
    · rename_i hd
      simp at h
      subst h
      have hb := fun a b => (run_eql_bool (w := w) (hE.desc_bool hd) a b).1
      exact ⟨by simp [eqGuard, hb], rfl⟩
    · simp at h
  · split at h
    · rename_i hd
      simp at h
      subst h
      have hb := fun a b => (run_eql_bool (w := w) (hE.desc_bool hd) a b).2
      exact ⟨by simp [eqGuard, hb], rfl⟩
    · simp at h
  · split at h
    · rename_i hd
      obtain ⟨e, he⟩ := hE.desc_pointer hd
      simp at h
      subst h
      have hb := fun a => (run_eql_ptr (w := w) he a).1
      exact ⟨by simp [eqGuard, hb], rfl⟩
    · simp at h
  · split at h
    · rename_i hd
      obtain ⟨e, he⟩ := hE.desc_pointer hd
      simp at h
      subst h
      have hb := fun a => (run_eql_ptr (w := w) he a).2
      exact ⟨by simp [eqGuard, hb], rfl⟩
    · simp at h
  · simp at h
end
end Go.Tp
