/- The generic layer: fields of values, loads from objects, slices, struct literals, lengths, look-ups. -/
import Derived.Test.YteanmfacikjjhaaGreatDoorTpSound4
namespace Go.Tp

section
variable {P : Program} {E : TEnv} {w : World} {R : Own} {N : Name → Option Nat}

theorem takeL_eq : ∀ (k : Nat) (l : List AVal), takeL k l = l.take k
  | 0, _ => by simp [takeL]
  | _ + 1, [] => by simp [takeL]
  | k + 1, _ :: l => by simp [takeL, takeL_eq k l]
theorem dropL_eq : ∀ (k : Nat) (l : List AVal), dropL k l = l.drop k
  | 0, _ => by simp [dropL]
  | _ + 1, [] => by simp [dropL]
  | k + 1, _ :: l => by simp [dropL, dropL_eq k l]

theorem repVs_drop : ∀ {as : List AVal} {vs : List Value} {bs : List Nat} (k : Nat), RepVs w R N as vs bs → ∃ bs', RepVs w R N (as.drop k) (vs.drop k) bs'
  | as, vs, bs, 0, h => ⟨bs, by simpa using h⟩
  | [], _, _, k + 1, h => by obtain ⟨rfl, _⟩ := repVs_nil_inv h; exact ⟨[], by simpa using repVs_nil⟩
  | a :: as, vs, bs, k + 1, h => by
    obtain ⟨v, vs', b1, b2, rfl, rfl, h1, h2⟩ := repVs_cons_inv h
    simpa using repVs_drop k h2

theorem repVs_take : ∀ {as : List AVal} {vs : List Value} {bs : List Nat} (k : Nat), RepVs w R N as vs bs → ∃ bs', RepVs w R N (as.take k) (vs.take k) bs'
  | as, vs, bs, 0, h => ⟨[], by simpa using repVs_nil⟩
  | [], _, _, k + 1, h => by obtain ⟨rfl, _⟩ := repVs_nil_inv h; exact ⟨[], by simpa using repVs_nil⟩
  | a :: as, vs, bs, k + 1, h => by
    obtain ⟨v, vs', b1, b2, rfl, rfl, h1, h2⟩ := repVs_cons_inv h
    obtain ⟨b', h3⟩ := repVs_take k h2
    exact ⟨b1 ++ b', by simpa using repVs_cons h1 h3⟩

/-- What a load out of a row of cells gives. -/
theorem loadCells_val {i : TI} {off : Nat} {cs : List AVal} {v : AVal} (h : loadCells i off cs = some v) {vs : List Value} {bs : List Nat} (hr : RepVs w R N cs vs bs) :
    ∃ cv, RepV w R N v cv [] ∧ (i.isAgg = true → cv = .agg ((vs.drop off).take i.size).toArray ∧ off + i.size ≤ vs.length ∨ i.size = 0 ∧ cv = .agg #[] ∧ i.isAgg = true) ∧ (i.isAgg = false → vs[off]? = some cv) := by
  unfold loadCells at h
  split at h
  · rename_i ha
    dsimp only at h
    split at h
    · rename_i hl
      simp at h
      subst h
      rw [takeL_eq, dropL_eq] at hl ⊢
      obtain ⟨b1, h1⟩ := repVs_drop off hr
      obtain ⟨b2, h2⟩ := repVs_take i.size h1
      refine ⟨.agg ((vs.drop off).take i.size).toArray, mkAgg_rep (unOwnL_rep h2), fun _ => ?_, fun hh => by rw [ha] at hh; cases hh⟩
      by_cases h0 : i.size = 0
      · exact .inr ⟨h0, by simp [h0], ha⟩
      · refine .inl ⟨rfl, ?_⟩
        have := hr.length
        simp at hl
        omega
    · simp at h
  · rename_i ha
    have ha' : i.isAgg = false := by simpa using ha
    split at h
    · rename_i es hes
      simp at h
      subst h
      obtain ⟨u, b', e1, e2, _⟩ := repVs_get hr hes
      exact ⟨u, repV_dat (d := .slice es) (repV_own_inv e2).rep, (fun hh => by rw [ha'] at hh; cases hh), fun _ => e1⟩
    · simp at h
    · simp at h
    · simp at h
    · rename_i a hne1 hne2 hne3 hne4 hes
      simp at h
      subst h
      obtain ⟨u, b', e1, e2, _⟩ := repVs_get hr hes
      refine ⟨u, ?_, (fun hh => by rw [ha'] at hh; cases hh), fun _ => e1⟩
      obtain rfl := repV_simple e2 (fun es he => hne1 es (by rw [he])) (fun cs he => hne3 cs (by rw [he])) (fun cs he => hne4 cs (by rw [he]))
      exact e2
    · simp at h

theorem get_pad {cs ps : List AVal} {off : Nat} {a : AVal} (h : cs[off]? = some a) : (cs ++ ps)[off]? = some a := by
  rw [List.getElem?_append_left (List.getElem?_eq_some_iff.1 h).1]; exact h

/-- A load does not look behind the cells that are known. -/
theorem loadCells_pad {i : TI} {off : Nat} {cs ps : List AVal} {v : AVal} (h : loadCells i off cs = some v) : loadCells i off (cs ++ ps) = some v := by
  unfold loadCells at h ⊢
  split at h
  · rename_i ha
    rw [if_pos ha]
    dsimp only at h ⊢
    rw [takeL_eq, dropL_eq] at h ⊢
    split at h
    · rename_i hl
      have e : ((cs ++ ps).drop off).take i.size = (cs.drop off).take i.size := by
        rw [List.length_take, List.length_drop] at hl
        by_cases h0 : i.size = 0
        · simp [h0]
        · rw [List.drop_append_of_le_length (by omega), List.take_append_of_le_length (by rw [List.length_drop]; omega)]
      rw [e, if_pos hl]
      exact h
    · simp at h
  · rename_i ha
    rw [if_neg ha]
    have hne : ∃ a, cs[off]? = some a := by
      cases hc : cs[off]? with
      | none => rw [hc] at h; simp at h
      | some a => exact ⟨a, rfl⟩
    obtain ⟨a, hc⟩ := hne
    rw [get_pad hc]
    rw [hc] at h
    exact h

theorem run_part (hE : E.Ok P) {t : TypeId} {i : TI} (ht : E.ty t = some i) (vs : List Value) (off : Nat) (cv : Value)
    (h1 : i.isAgg = true → cv = .agg ((vs.drop off).take i.size).toArray) (h2 : i.isAgg = false → vs[off]? = some cv) :
    (part t vs.toArray off).run P w = .ok cv w := by
  unfold part
  simp only [Sem.run_bind, hE.run_isAgg ht, Result.andThen_ok]
  cases ha : i.isAgg with
  | true =>
    simp [hE.run_size ht, h1 ha]
  | false =>
    have := h2 ha
    simp [this]

theorem sound_field (hE : E.Ok P) {st : TypeId} {f : Nat} {a : AVal} {x : Value} {out : Out} (h : aField E st f [a] = some out) (ha : RepV w R N a x []) :
    out.eff = .keep ∧ ∃ cv, (Instr.field st x f).run P w = .ok cv w ∧ RepV w R N out.val cv [] := by
  cases a with
  | dat d =>
    cases d with
    | agg cs =>
      simp only [aField] at h
      split at h
      · rename_i off i hf
        obtain ⟨fields, fld, h1, h2, h3, h4⟩ := fieldOf_ok hE hf
        obtain ⟨_, vs, rfl, hr⟩ := repV_dat_inv ha
        cases hl : loadDats i (cs.drop off) with
        | none => simp [hl, ofA] at h
        | some v =>
          simp [hl, ofA] at h
          subst h
          refine ⟨rfl, ?_⟩
          have hd := repCs_drop off hr
          have hlen := repCs_length hd
          unfold loadDats at hl
          split at hl
          · rename_i hag
            dsimp only at hl
            split at hl
            · simp at hl
              subst hl
              refine ⟨.agg ((vs.drop off).take i.size).toArray, ?_, repV_dat ⟨_, rfl, repCs_take _ hd⟩⟩
              have := run_part (w := w) hE h4 vs off (.agg ((vs.drop off).take i.size).toArray) (fun _ => rfl) (fun hh => by rw [hag] at hh; cases hh)
              simp [Instr.field, run_und h1, h2, asAgg, h3, this]
            · simp at hl
          · rename_i hag
            have hag' : i.isAgg = false := by simpa using hag
            generalize hcs : cs.drop off = ds at hl hd hlen
            cases hvs : vs.drop off with
            | nil =>
              rw [hvs] at hlen hd
              cases ds with
              | nil => simp at hl
              | cons c ds => simp at hlen
            | cons u us =>
              rw [hvs] at hlen hd
              cases ds with
              | nil => simp at hlen
              | cons c ds =>
                have hget : vs[off]? = some u := by
                  have := List.getElem?_drop (xs := vs) (i := off) (j := 0)
                  rw [hvs] at this
                  simpa using this.symm
                have hrun := run_part (w := w) hE h4 vs off u (fun hh => by rw [hag'] at hh; cases hh) (fun _ => hget)
                have hrun' : (Instr.field st (.agg vs.toArray) f).run P w = .ok u w := by
                  simp [Instr.field, run_und h1, h2, asAgg, h3, hrun]
                refine ⟨u, hrun', ?_⟩
                cases c with
                | flat x => simp at hl; subst hl; exact repV_dat (d := .flat x) hd.1
                | slice es => simp at hl; subst hl; exact repV_dat (d := .slice es) hd.1
                | agg ds => simp at hl
      · simp at h
    | _ => simp [aField] at h
  | agg cs =>
    simp only [aField] at h
    split at h
    · rename_i off i hf
      obtain ⟨fields, fld, h1, h2, h3, h4⟩ := fieldOf_ok hE hf
      obtain ⟨vs, rfl, hr⟩ := repV_agg_inv ha
      cases hl : loadCells i off cs with
      | none => simp [hl, ofA] at h
      | some v =>
        simp [hl, ofA] at h
        subst h
        obtain ⟨cv, e1, e2, e3⟩ := loadCells_val hl hr
        refine ⟨rfl, cv, ?_, e1⟩
        have := run_part (w := w) hE h4 vs off cv (fun hh => by
          rcases e2 hh with ⟨e, _⟩ | ⟨e0, e, _⟩
          · exact e
          · simp [e0, e]) e3
        simp [Instr.field, run_und h1, h2, asAgg, h3, this]
    · simp at h
  | _ => simp [aField] at h

/-- A load from an object of cells. -/
theorem run_load_obj (hE : E.Ok P) {t : TypeId} {i : TI} (ht : E.ty t = some i) {b off : Nat} {vs : Array Value} {elem : TypeId} {fz : Nat × Nat} (hb : w.heap[b]? = some (.cells vs elem fz))
    {cs : List AVal} {bs : List Nat} (hr : RepVs w R N cs vs.toList bs) {v : AVal} (h : loadCells i off cs = some v) :
    ∃ cv, (Instr.loadAt t (.pointer (some ⟨b, off, none⟩))).run P w = .ok cv w ∧ RepV w R N v cv [] := by
  obtain ⟨cv, e1, e2, e3⟩ := loadCells_val h hr
  refine ⟨cv, ?_, e1⟩
  have hcell : ∀ (j : Nat) (u : Value), (vs.toList.drop off)[j]? = some u → w.cell? ⟨b, off + j, none⟩ = some u := by
    intro j u hj
    rw [List.getElem?_drop] at hj
    rw [cell_of_row w b (off + j) vs elem fz hb]
    simpa using hj
  have : (Instr.loadAt t (.pointer (some ⟨b, off, none⟩))).run P w = (loadVar t ⟨b, off, none⟩).run P w := by
    simp [Instr.loadAt, Instr.sureAddr]
  rw [this]
  cases ha : i.isAgg with
  | true =>
    rcases e2 ha with ⟨e, hle⟩ | ⟨e0, e, _⟩
    · have := run_loadVar (w := w) hE ht hcell (by simp at hle ⊢; omega) (by simp [ha])
      rw [this, ha, e]
      rfl
    · have := run_loadVar (w := w) hE ht hcell (by simp [e0]) (by simp [ha])
      rw [this, ha, e, e0]
      simp
  | false =>
    have hg := e3 ha
    have h0 := hcell 0 cv (by rw [List.getElem?_drop]; simpa using hg)
    simp at h0
    simp [loadVar, hE.run_isAgg ht, ha, h0]
end
end Go.Tp
