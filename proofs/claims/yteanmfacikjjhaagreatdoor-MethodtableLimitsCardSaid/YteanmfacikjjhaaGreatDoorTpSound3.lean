/- The generic layer: addresses, fields, loads of immutable cells, indexes, slices of data. -/
import Derived.Test.YteanmfacikjjhaaGreatDoorTpSound2
import Derived.Laws.Cells
namespace Go.Tp

section
variable {P : Program} {E : TEnv} {w : World} {R : Own} {N : Name → Option Nat}

theorem add_plain (b off n : Nat) : (Addr.add ⟨b, off, none⟩ n) = ⟨b, off + n, none⟩ := by
  unfold Addr.add
  split
  · rename_i h; subst h; rfl
  · rfl

theorem fieldOf_ok (hE : E.Ok P) {st : TypeId} {f off : Nat} {i : TI} (h : fieldOf E st f = some (off, i)) :
    ∃ (fields : Array Field) (fld : Field), P.underlying st = some (.struct fields) ∧ fields[f]? = some fld ∧ fld.offset = off ∧ E.ty fld.type = some i := by
  unfold fieldOf at h
  split at h
  · rename_i fs hd
    obtain ⟨fields, hu, hm, _⟩ := hE.desc_struct hd
    split at h
    · rename_i off' ft hf
      split at h
      · rename_i j hj
        simp at h
        obtain ⟨rfl, rfl⟩ := h
        rw [← hm, List.getElem?_map] at hf
        cases hg : fields.toList[f]? with
        | none => simp [hg] at hf
        | some fld =>
          simp [hg] at hf
          exact ⟨fields, fld, hu, by simpa using hg, hf.1, by rw [hf.2]; exact hj⟩
      · simp at h
    · simp at h
  · simp at h

theorem repAt_drop : ∀ {cs : List Dat} {b off : Nat} (k : Nat), RepAt w R b off cs → RepAt w R b (off + k) (cs.drop k)
  | cs, b, off, 0, h => by simpa using h
  | [], _, _, k + 1, _ => by simp [RepAt]
  | c :: cs, b, off, k + 1, h => by
    have := repAt_drop k h.2
    simpa [Nat.add_assoc, Nat.add_comm 1 k] using this

theorem run_fieldAt (hE : E.Ok P) {st : TypeId} {f off : Nat} {i : TI} (h : fieldOf E st f = some (off, i)) (h0 : i.size ≠ 0) (b o : Nat) :
    (Instr.fieldAt st (.pointer (some ⟨b, o, none⟩)) f).run P w = .ok (.pointer (some ⟨b, o + off, none⟩)) w := by
  obtain ⟨fields, fld, h1, h2, h3, h4⟩ := fieldOf_ok hE h
  simp [Instr.fieldAt, run_und h1, h2, Instr.sureAddr, fieldPlace, hE.run_size h4, h0, add_plain, h3]

theorem sound_fieldAddr (hE : E.Ok P) {st : TypeId} {f : Nat} {a : AVal} {x : Value} {out : Out} (h : aFieldAddr E st f [a] = some out) (hr : RepV w R N a x []) :
    out.eff = .keep ∧ ∃ cv, (Instr.fieldAt st x f).run P w = .ok cv w ∧ RepV w R N out.val cv [] := by
  cases a with
  | ref cs =>
    simp only [RepV] at hr
    obtain ⟨_, b, o, rfl, hat⟩ := hr
    simp only [aFieldAddr] at h
    split at h
    · rename_i off i hf
      split at h
      · simp at h
      · rename_i h0
        simp at h
        subst h
        exact ⟨rfl, _, run_fieldAt hE hf h0 b o, by simp only [RepV]; exact ⟨trivial, b, _, rfl, repAt_drop off hat⟩⟩
    · simp at h
  | ptr n o =>
    simp only [RepV] at hr
    obtain ⟨_, b, hb, rfl⟩ := hr
    simp only [aFieldAddr] at h
    split at h
    · rename_i off i hf
      split at h
      · simp at h
      · rename_i h0
        simp at h
        subst h
        exact ⟨rfl, _, run_fieldAt hE hf h0 b o, by simp only [RepV]; exact ⟨trivial, b, hb, rfl⟩⟩
    · simp at h
  | _ => simp [aFieldAddr] at h

/-! #### Cells in rows -/

theorem repCs_drop : ∀ {vs : List Value} {cs : List Dat} (k : Nat), RepCs w R vs cs → RepCs w R (vs.drop k) (cs.drop k)
  | vs, cs, 0, h => by simpa using h
  | [], [], _ + 1, _ => trivial
  | _ :: vs, _ :: cs, k + 1, h => by simpa using repCs_drop k h.2
  | [], _ :: _, _, h => h.elim
  | _ :: _, [], _, h => h.elim

theorem repCs_take : ∀ {vs : List Value} {cs : List Dat} (k : Nat), RepCs w R vs cs → RepCs w R (vs.take k) (cs.take k)
  | vs, cs, 0, _ => by simp [RepCs]
  | [], [], _ + 1, _ => trivial
  | _ :: vs, _ :: cs, k + 1, h => by simpa [RepCs] using ⟨h.1, repCs_take k h.2⟩
  | [], _ :: _, _, h => h.elim
  | _ :: _, [], _, h => h.elim

theorem repAt_get : ∀ {cs : List Dat} {b off : Nat} {j : Nat} {c : Dat}, RepAt w R b off cs → cs[j]? = some c → ∃ v, w.cell? ⟨b, off + j, none⟩ = some v ∧ ¬ R b (off + j) ∧ RepC w R v c
  | [], _, _, _, _, _, h => by simp at h
  | c :: cs, b, off, 0, c', h, hj => by simp at hj; subst hj; simpa using h.1
  | c :: cs, b, off, j + 1, c', h, hj => by
    simp at hj
    have := repAt_get h.2 hj
    simpa [Nat.add_assoc, Nat.add_comm 1 j] using this

/-- The values of immutable cells. -/
theorem repAt_vals : ∀ {cs : List Dat} {b off : Nat}, RepAt w R b off cs → ∃ vs : List Value, RepCs w R vs cs ∧ ∀ (j : Nat) (v : Value), vs[j]? = some v → w.cell? ⟨b, off + j, none⟩ = some v
  | [], _, _, _ => ⟨[], trivial, by simp⟩
  | c :: cs, b, off, h => by
    obtain ⟨v, hc, _, hr⟩ := h.1
    obtain ⟨vs, h1, h2⟩ := repAt_vals h.2
    refine ⟨v :: vs, ⟨hr, h1⟩, fun j u hj => ?_⟩
    cases j with
    | zero => simp at hj; subst hj; simpa using hc
    | succ j => simp at hj; have := h2 j u hj; simpa [Nat.add_assoc, Nat.add_comm 1 j] using this

/-- Cells that lie in a row, loaded as a variable of the type. -/
theorem run_loadVar (hE : E.Ok P) {t : TypeId} {i : TI} (ht : E.ty t = some i) {b off : Nat} {vs : List Value}
    (hc : ∀ (j : Nat) (v : Value), vs[j]? = some v → w.cell? ⟨b, off + j, none⟩ = some v) (hn : i.size ≤ vs.length) (h1 : i.isAgg = false → 0 < vs.length) :
    (loadVar t ⟨b, off, none⟩).run P w = .ok (if i.isAgg then .agg (vs.take i.size).toArray else vs.headD undef) w := by
  unfold loadVar
  simp only [Sem.run_bind, hE.run_isAgg ht, Result.andThen_ok]
  cases ha : i.isAgg with
  | true =>
    simp only [if_true, Sem.run_bind, hE.run_size ht, Result.andThen_ok]
    have := run_loadCells_list (P := P) (w := w) ⟨b, off, none⟩ (vs.take i.size) (fun j v hj => by
      rw [add_plain]
      refine hc j v ?_
      rw [List.getElem?_take] at hj
      split at hj
      · exact hj
      · simp at hj)
    rw [show (vs.take i.size).length = i.size by simp; omega] at this
    rw [this]
    simp
  | false =>
    have h0 := h1 ha
    cases vs with
    | nil => simp at h0
    | cons v vs =>
      have := hc 0 v (by simp)
      simp at this
      simp [this]

theorem loadDats_rep (hE : E.Ok P) {t : TypeId} {i : TI} (ht : E.ty t = some i) {cs : List Dat} {v : AVal} (h : loadDats i cs = some v) {b off : Nat} (hat : RepAt w R b off cs) :
    ∃ cv, (loadVar t ⟨b, off, none⟩).run P w = .ok cv w ∧ RepV w R N v cv [] := by
  obtain ⟨vs, h1, h2⟩ := repAt_vals hat
  have hl := repCs_length h1
  unfold loadDats at h
  split at h
  · rename_i ha
    dsimp only at h
    split at h
    · rename_i hlen
      simp at h
      subst h
      simp at hlen
      refine ⟨_, run_loadVar hE ht h2 (by omega) (by simp [ha]), ?_⟩
      rw [if_pos ha]
      exact repV_dat ⟨vs.take i.size, rfl, repCs_take _ h1⟩
    · simp at h
  · rename_i ha
    have ha' : i.isAgg = false := by simpa using ha
    cases vs with
    | nil =>
      cases cs with
      | nil => simp at h
      | cons c cs => simp at hl
    | cons u us =>
      cases cs with
      | nil => simp at hl
      | cons c cs =>
        have hsz : i.size ≤ (u :: us).length ∨ True := .inr trivial
        have hrun : (loadVar t ⟨b, off, none⟩).run P w = .ok u w := by
          unfold loadVar
          have h0 := h2 0 u (by simp)
          simp at h0
          simp [hE.run_isAgg ht, ha', h0]
        refine ⟨u, hrun, ?_⟩
        obtain ⟨hu, _⟩ := h1
        cases c with
        | flat x => simp at h; subst h; exact repV_dat (d := .flat x) hu
        | slice es => simp at h; subst h; exact repV_dat (d := .slice es) hu
        | agg ds => simp at h

end
end Go.Tp
