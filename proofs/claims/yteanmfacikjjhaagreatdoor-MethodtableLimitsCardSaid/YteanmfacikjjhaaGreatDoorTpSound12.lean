/- The generic layer: each operation, in one form. -/
import Derived.Test.YteanmfacikjjhaaGreatDoorTpSound11
namespace Go.Tp

section
variable {P : Program} {E : TEnv} {w : World} {R : Own} {N : Name → Option Nat}

theorem repVs_one {vals : List AVal} {x : Value} {bs : List Nat} (h : RepVs w R N vals [x] bs) : ∃ a, vals = [a] ∧ RepV w R N a x bs := by
  cases vals with
  | nil => simp [RepVs] at h
  | cons a vals =>
    obtain ⟨v, vs', b1, b2, e1, rfl, h1, h2⟩ := repVs_cons_inv h
    simp at e1
    obtain ⟨rfl, rfl⟩ := e1
    cases vals with
    | nil => obtain ⟨_, rfl⟩ := repVs_nil_inv h2; exact ⟨a, rfl, by simpa using h1⟩
    | cons _ _ => simp [RepVs] at h2

theorem repVs_two {vals : List AVal} {x y : Value} {bs : List Nat} (h : RepVs w R N vals [x, y] bs) : ∃ a b b1 b2, vals = [a, b] ∧ bs = b1 ++ b2 ∧ RepV w R N a x b1 ∧ RepV w R N b y b2 := by
  cases vals with
  | nil => simp [RepVs] at h
  | cons a vals =>
    obtain ⟨v, vs', b1, b2, e1, rfl, h1, h2⟩ := repVs_cons_inv h
    simp at e1
    obtain ⟨rfl, rfl⟩ := e1
    obtain ⟨b, rfl, h3⟩ := repVs_one h2
    exact ⟨a, b, b1, b2, rfl, rfl, h1, h3⟩

theorem repVs_three {vals : List AVal} {x y z : Value} {bs : List Nat} (h : RepVs w R N vals [x, y, z] bs) :
    ∃ a b c b1 b2 b3, vals = [a, b, c] ∧ bs = b1 ++ (b2 ++ b3) ∧ RepV w R N a x b1 ∧ RepV w R N b y b2 ∧ RepV w R N c z b3 := by
  cases vals with
  | nil => simp [RepVs] at h
  | cons a vals =>
    obtain ⟨v, vs', b1, b2, e1, rfl, h1, h2⟩ := repVs_cons_inv h
    simp at e1
    obtain ⟨rfl, rfl⟩ := e1
    obtain ⟨b, c, c1, c2, rfl, rfl, h3, h4⟩ := repVs_two h2
    exact ⟨a, b, c, b1, c1, c2, rfl, rfl, h1, h3, h4⟩

theorem app_nil {a b : List Nat} (h : a ++ b = []) : a = [] ∧ b = [] := List.append_eq_nil_iff.1 h

/-- What an operation finds: the object that it looks at. -/
def Looked (w : World) (R : Own) (N : Name → Option Nat) (o : Op) (vals : List AVal) (ob : Option AObj) (nm : Option (Nat × List Nat)) : Prop :=
  match looks o vals with
  | none => ob = none ∧ nm = none
  | some n => (ob = none ∧ nm = none) ∨ ∃ b b1 obj, ob = some obj ∧ nm = some (b, b1) ∧ N n = some b ∧ RepObj w R N obj b b1

abbrev Ran (P : Program) (w : World) (ρ : Operand → Value) (o : Oper) (cv : Value) (w' : World) : Prop :=
  (execOp ρ o).run P w = .ok (.value cv) w' ∨ ((execOp ρ o).run P w = .ok .skip w' ∧ cv = undef)

theorem looked_apz {args : Array Operand} {tys : Array TypeId} {a x : AVal} {ob : Option AObj} {nm : Option (Nat × List Nat)} (h : Looked w R N (.call ⟨.builtin .append, args, tys⟩) [a, x] ob nm) :
    Looked w R N (.call ⟨.builtin .append, args, tys⟩) [ownz a, nz x] ob nm := by
  have e : looks (.call ⟨.builtin .append, args, tys⟩) [a, x] = looks (.call ⟨.builtin .append, args, tys⟩) [ownz a, nz x] := by
    unfold ownz
    split
    · rfl
    · cases a <;> rfl
  unfold Looked at h ⊢
  rw [← e]
  exact h

theorem looked_none {o : Op} {vals : List AVal} {ob : Option AObj} {nm : Option (Nat × List Nat)} (h : Looked w R N o vals ob nm) (hl : looks o vals = none) : ob = none ∧ nm = none := by
  unfold Looked at h; rw [hl] at h; exact h

theorem looked_some {o : Op} {vals : List AVal} {ob : Option AObj} {nm : Option (Nat × List Nat)} {n : Name} {obj : AObj} (h : Looked w R N o vals ob nm) (hl : looks o vals = some n) (ho : ob = some obj) :
    ∃ b b1, nm = some (b, b1) ∧ N n = some b ∧ RepObj w R N obj b b1 := by
  unfold Looked at h
  rw [hl] at h
  rcases h with ⟨h, _⟩ | ⟨b, b1, obj', h1, h2, h3, h4⟩
  · rw [ho] at h; simp at h
  · rw [ho] at h1; simp at h1; subst h1; exact ⟨b, b1, h2, h3, h4⟩

theorem aop_sound (hE : E.Ok P) {take : Bool} {o : Oper} {ρ : Operand → Value} {vals : List AVal} {ob : Option AObj} {nm : Option (Nat × List Nat)} {out : Out} (h : aop E take o.op vals ob = some out)
    {bsM rest : List Nat} (hv : RepVs w R N vals ((opsL o.op).map ρ) bsM) (hmv : movedOp o.op = none → bsM = []) (hlk : Looked w R N o.op vals ob nm) (hnd : (bsM ++ (nmL nm ++ rest)).Nodup)
    (hc : ∀ v, ρ (.const v) = v) :
    ∃ cv w' R', Ran P w ρ o cv w' ∧ OutOk w R N ob nm bsM rest out cv w' R' := by
  obtain ⟨dst, op, type, pos, after, guard⟩ := o
  have hndM : bsM.Nodup := (List.nodup_append.1 hnd).1
  cases op with
  | move x =>
    obtain ⟨a, rfl, ha⟩ := repVs_one hv
    simp only [aop, aMove, Option.some.injEq] at h
    subst h
    obtain ⟨rfl, rfl⟩ := looked_none hlk rfl
    exact ⟨ρ x, w, R, .inl rfl, .pure rfl ha (.self hndM) (by simp)⟩
  | assign x =>
    obtain ⟨a, rfl, ha⟩ := repVs_one hv
    simp only [aop, aMove, Option.some.injEq] at h
    subst h
    obtain ⟨rfl, rfl⟩ := looked_none hlk rfl
    exact ⟨ρ x, w, R, .inl rfl, .pure rfl ha (.self hndM) (by simp)⟩
  | pick c x y =>
    obtain rfl := hmv rfl
    obtain ⟨a, b, d, b1, b2, b3, rfl, e, ha, hb, hd⟩ := repVs_three hv
    obtain ⟨rfl, e'⟩ := app_nil e.symm
    obtain ⟨rfl, rfl⟩ := app_nil e'
    obtain ⟨rfl, rfl⟩ := looked_none hlk rfl
    simp only [aop, aPick] at h
    split at h
    · rename_i cb a' b' heq
      simp at heq
      obtain ⟨rfl, rfl, rfl⟩ := heq
      simp at h
      subst h
      obtain ⟨_, e, _⟩ := repV_flat_inv ha
      refine ⟨if cb then ρ x else ρ y, w, R, .inl ?_, .pure (bsV := []) rfl ?_ .nil (by simp)⟩
      · simp [execOp, e, asBool]
      · cases cb
        · simpa using hd
        · simpa using hb
    · simp at h
  | binOp bo t x y ty =>
    obtain rfl := hmv rfl
    obtain ⟨a, b, b1, b2, rfl, e, ha, hb⟩ := repVs_two hv
    obtain ⟨rfl, rfl⟩ := app_nil e.symm
    obtain ⟨rfl, rfl⟩ := looked_none hlk rfl
    simp only [aop] at h
    split at h
    · rename_i hy
      unfold isNilSlice at hy
      split at hy
      · obtain ⟨he, cv, h1, h2⟩ := sound_nilSlice (w := w) hE h ha x (.const (.slice none 0 0))
        rw [← hc (.slice none 0 0)] at h1
        exact ⟨cv, w, R, .inl (value_run h1), .pure he h2 .nil (by simp)⟩
      · simp at hy
    · obtain ⟨he, cv, h1, h2⟩ := sound_bin (w := w) hE h ha hb x y
      exact ⟨cv, w, R, .inl (value_run h1), .pure he h2 .nil (by simp)⟩
  | unOp uo t x =>
    obtain rfl := hmv rfl
    obtain ⟨a, rfl, ha⟩ := repVs_one hv
    obtain ⟨rfl, rfl⟩ := looked_none hlk rfl
    obtain ⟨he, cv, h1, h2⟩ := sound_un (P := P) (w := w) hE h ha
    exact ⟨cv, w, R, .inl (value_run h1), .pure he h2 .nil (by simp)⟩
  | convert s d x =>
    obtain rfl := hmv rfl
    obtain ⟨a, rfl, ha⟩ := repVs_one hv
    obtain ⟨rfl, rfl⟩ := looked_none hlk rfl
    obtain ⟨he, cv, h1, h2⟩ := sound_convert (w := w) hE h (repV_nz ha)
    exact ⟨cv, w, R, .inl (value_run h1), .pure he h2 .nil (by simp)⟩
  | nilCheck x =>
    obtain rfl := hmv rfl
    obtain ⟨a, rfl, ha⟩ := repVs_one hv
    obtain ⟨rfl, rfl⟩ := looked_none hlk rfl
    simp only [aop, aNil] at h
    split at h
    · rename_i n off heq
      simp at heq
      subst heq
      simp at h
      subst h
      have ha' := ha
      simp only [RepV] at ha'
      obtain ⟨_, b, _, e⟩ := ha'
      refine ⟨ρ x, w, R, .inl ?_, .pure rfl ha .nil (by simp)⟩
      simp [execOp, e]
    · rename_i cs heq
      simp at heq
      subst heq
      simp at h
      subst h
      have ha' := ha
      simp only [RepV] at ha'
      obtain ⟨_, b, of, e, _⟩ := ha'
      refine ⟨ρ x, w, R, .inl ?_, .pure rfl ha .nil (by simp)⟩
      simp [execOp, e]
    · simp at h
  | fieldAddr st x f =>
    obtain rfl := hmv rfl
    obtain ⟨a, rfl, ha⟩ := repVs_one hv
    obtain ⟨rfl, rfl⟩ := looked_none hlk rfl
    obtain ⟨he, cv, h1, h2⟩ := sound_fieldAddr (w := w) hE h ha
    exact ⟨cv, w, R, .inl (value_run h1), .pure he h2 .nil (by simp)⟩
  | field st x f =>
    obtain rfl := hmv rfl
    obtain ⟨a, rfl, ha⟩ := repVs_one hv
    obtain ⟨rfl, rfl⟩ := looked_none hlk rfl
    obtain ⟨he, cv, h1, h2⟩ := sound_field (w := w) hE h ha
    exact ⟨cv, w, R, .inl (value_run h1), .pure he h2 .nil (by simp)⟩
  | indexAddr t x y =>
    obtain rfl := hmv rfl
    obtain ⟨a, b, b1, b2, rfl, e, ha, hb⟩ := repVs_two hv
    obtain ⟨rfl, rfl⟩ := app_nil e.symm
    obtain ⟨rfl, rfl⟩ := looked_none hlk rfl
    obtain ⟨he, cv, h1, h2⟩ := sound_indexAddr (w := w) hE h (repV_nz ha) (repV_nz hb)
    exact ⟨cv, w, R, .inl (value_run h1), .pure he h2 .nil (by simp)⟩
  | index t x y =>
    obtain rfl := hmv rfl
    obtain ⟨a, b, b1, b2, rfl, e, ha, hb⟩ := repVs_two hv
    obtain ⟨rfl, rfl⟩ := app_nil e.symm
    obtain ⟨rfl, rfl⟩ := looked_none hlk rfl
    obtain ⟨he, cv, h1, h2⟩ := sound_index (w := w) hE h ha hb
    exact ⟨cv, w, R, .inl (value_run h1), .pure he h2 .nil (by simp)⟩
  | slice t x lo hi mx =>
    obtain rfl := hmv rfl
    simp only [opsL, List.map_cons] at hv
    cases vals with
    | nil => simp [RepVs] at hv
    | cons a vals =>
      obtain ⟨v, vs', b1, b2, e1, e2, h1, h2⟩ := repVs_cons_inv hv
      simp at e1
      obtain ⟨rfl, e1⟩ := e1
      obtain ⟨rfl, rfl⟩ := app_nil e2.symm
      obtain ⟨rfl, rfl⟩ := looked_none hlk rfl
      rw [← e1] at h2
      obtain ⟨he, rfl, cv, k1, k2⟩ := sound_slice (ρ := ρ) (w := w) hE h (repV_nz h1) (repVs_nz (by simpa using h2))
      exact ⟨cv, w, R, .inl (value_run k1), .pure he k2 .nil (by simp)⟩
  | build t ps =>
    obtain rfl := hmv rfl
    obtain ⟨rfl, rfl⟩ := looked_none hlk rfl
    obtain ⟨he, cv, h1, h2⟩ := sound_build (w := w) hE h hv
    exact ⟨cv, w, R, .inl (value_run h1), .pure he h2 .nil (by simp)⟩
  | buildSlice t len ps =>
    obtain rfl := hmv rfl
    obtain ⟨rfl, rfl⟩ := looked_none hlk rfl
    simp only [aop] at h
    split at h
    · obtain ⟨o', s, w', R', rfl, h1, h2, h3, h4, h5, h6⟩ := sound_buildRow (w := w) hE h hv rest
      refine ⟨_, w', R', .inl (value_run h1), h2, ?_⟩
      dsimp only
      cases Nat.beq len 1 with
      | true => exact ⟨rfl, [], h3, ⟨by simp, by simp⟩, h5, len, rfl, Nat.le_refl _, h4, h6⟩
      | false => exact ⟨w.heap.size, [], len, h3, ⟨by simp, by simp⟩, rfl, Nat.le_refl _, h4, h5, h6⟩
    · obtain ⟨he, cv, w', R', h1, h2, h3⟩ := sound_buildSlice (w := w) hE h hv rest
      refine ⟨cv, w', R', .inl (value_run h1), h2, ?_⟩
      rw [he]
      exact ⟨_, h3, ⟨by simp, by simp⟩, by simp⟩
  | makeFunc f first captured =>
    obtain rfl := hmv rfl
    obtain ⟨rfl, rfl⟩ := looked_none hlk rfl
    simp only [opsL, List.map_append] at hv
    have hlen : first.size = (first.toList.map ρ).length := by simp
    simp only [aop, hlen] at h
    obtain ⟨he, cv, h1, h2⟩ := sound_makeFunc (P := P) (w := w) h hv
    refine ⟨cv, w, R, .inl ?_, .pure he h2 .nil (by simp)⟩
    have e1 : (first.toList.map ρ).toArray = first.map ρ := by rw [← Array.toList_map]
    have e2 : (captured.toList.map ρ).toArray = captured.map ρ := by rw [← Array.toList_map]
    rw [e1, e2] at h1
    exact value_run h1
  | extract x i =>
    obtain ⟨a, rfl, ha⟩ := repVs_one hv
    obtain ⟨rfl, rfl⟩ := looked_none hlk rfl
    obtain ⟨he, cv, b', h1, h2, h3⟩ := sound_extract (P := P) (w := w) h ha
    exact ⟨cv, w, R, .inl (value_run h1), .pure he h2 ⟨h3.nodup hndM, fun b hb => .inl (h3.subset hb)⟩ (by simp)⟩
  | load t x =>
    obtain rfl := hmv rfl
    obtain ⟨a, rfl, ha⟩ := repVs_one hv
    simp only [aop, aLoad] at h
    split at h
    · rename_i cs heq
      simp at heq
      subst heq
      obtain ⟨rfl, rfl⟩ := looked_none hlk rfl
      split at h
      · rename_i i hty
        cases hl : loadDats i cs with
        | none => simp [hl, ofA] at h
        | some v =>
          simp [hl, ofA] at h
          subst h
          simp only [RepV] at ha
          obtain ⟨_, b, off, e, hat⟩ := ha
          obtain ⟨cv, h1, h2⟩ := loadDats_rep (N := N) hE hty hl hat
          refine ⟨cv, w, R, .inl ?_, .pure rfl h2 .nil (by simp)⟩
          have : (Instr.loadAt t (ρ x)).run P w = .ok cv w := by rw [e]; simp [Instr.loadAt, Instr.sureAddr, h1]
          exact value_run this
      · simp at h
    · rename_i n off heq
      simp at heq
      subst heq
      simp only [RepV] at ha
      obtain ⟨_, b, hb, e⟩ := ha
      split at h
      · rename_i i cs hty
        obtain ⟨b', b1, rfl, hb', hobj⟩ := looked_some hlk rfl rfl
        rw [hb] at hb'
        simp at hb'
        subst hb'
        have hobj' := hobj
        obtain ⟨vs, elem, sp, hblk, hr, hR⟩ := hobj'
        have plain : ∀ v, loadCells i off cs = some v → out = ⟨v, .keep⟩ → ∃ cv w' R', Ran P w ρ ⟨dst, .load t x, type, pos, after, guard⟩ cv w' ∧ OutOk w R N (some (.cells cs)) (some (b, b1)) [] rest out cv w' R' := by
          intro v hl ho
          subst ho
          obtain ⟨cv, h1, h2⟩ := run_load_obj (N := N) hE hty hblk hr (loadCells_pad hl)
          rw [← e] at h1
          refine ⟨cv, w, R, .inl (value_run h1), .pure rfl h2 .nil ?_⟩
          intro b2 c1 o hnm ho
          simp at hnm
          obtain ⟨rfl, rfl⟩ := hnm
          simp at ho
          subst ho
          exact hobj
        split at h
        · rename_i htk
          split at h
          · rename_i es hes
            simp at h
            subst h
            obtain ⟨pre, bt, post, cv, f1, f2, f3, f4⟩ := RepVs.split hr (get_pad hes)
            have hag : i.isAgg = false := by simp at htk; exact htk.2
            have hcell : w.cell? ⟨b, off, none⟩ = some cv := by
              rw [cell_of_row w b off vs elem (0, 0) hblk]; simpa using f2
            have h1 : (Instr.loadAt t (ρ x)).run P w = .ok cv w := by
              rw [e]; simp [Instr.loadAt, Instr.sureAddr, loadVar, hE.run_isAgg hty, hag, hcell]
            refine ⟨cv, w, R, .inl (value_run h1), keep_refl _, ?_⟩
            refine ⟨b, b1, pre ++ [] ++ post, bt, rfl, ?_, f3, ?_⟩
            · have hset := f4 w R (.dat (.slice es)) cv [] (keep_refl _) (repV_dat (d := .slice es) (repV_own_inv f3).rep)
              have e1 : vs.toList.set off cv = vs.toList := by
                apply List.ext_getElem?
                intro j
                rw [List.getElem?_set]
                split
                · rename_i hj; subst hj; split
                  · exact f2.symm
                  · rename_i hl; rw [List.getElem?_eq_none (by omega)]
                · rfl
              have e2 : putL off [AVal.dat (.slice es)] cs = cs.set off (.dat (.slice es)) := by
                apply List.ext_getElem?
                intro j
                rw [putL_get, List.getElem?_set]
                by_cases hj : off = j
                · subst hj
                  by_cases hl : off < cs.length
                  · rw [if_pos ⟨Nat.le_refl _, by simp, hl⟩, if_pos rfl, if_pos hl]; simp
                  · rw [if_neg (by omega), if_pos rfl, if_neg hl]; exact List.getElem?_eq_none (by omega)
                · rw [if_neg (by simp; omega), if_neg hj]
              rw [e1] at hset
              rw [List.set_append_left (h := (List.getElem?_eq_some_iff.1 hes).1)] at hset
              exact ⟨vs, elem, sp, hblk, by rw [e2]; exact hset, hR.1, fun hb => hR.2 (bldSh_taken hes hb)⟩
            · have hb1 : b1.Nodup := by
                have := (List.nodup_append.1 hnd).2.1
                have := (List.nodup_append.1 this).1
                simp [nmL] at this
                exact this.2
              subst f1
              constructor
              · have hp : (bt ++ (pre ++ [] ++ post)).Perm (pre ++ bt ++ post) := by
                  simp only [List.append_nil, ← List.append_assoc]
                  exact List.Perm.append_right _ List.perm_append_comm
                exact hp.nodup_iff.2 hb1
              · intro c hc
                left
                simp at hc ⊢
                rcases hc with h | h | h <;> simp [h]
          · cases hl : loadCells i off cs with
            | none => simp [hl, ofA] at h
            | some v => simp [hl, ofA] at h; exact plain v hl h.symm
        · cases hl : loadCells i off cs with
          | none => simp [hl, ofA] at h
          | some v => simp [hl, ofA] at h; exact plain v hl h.symm
      · simp at h
    · simp at h
  | store t x y =>
    obtain ⟨a, v, b1, b2, rfl, rfl, ha, hb⟩ := repVs_two hv
    have hcase : ∃ n off, a = .ptr n off := by
      cases a <;> simp [aop, aStore] at h
      exact ⟨_, _, rfl⟩
    obtain ⟨n, off, rfl⟩ := hcase
    have hcs : ∃ cs, ob = some (.cells cs) := by
      simp only [aop, aStore] at h
      split at h
      · exact ⟨_, rfl⟩
      · simp at h
    obtain ⟨cs, hob⟩ := hcs
    obtain ⟨b, c1, rfl, hN, hobj⟩ := looked_some hlk rfl hob
    simp only [RepV] at ha
    obtain ⟨rfl, b', hb', e⟩ := ha
    rw [hN] at hb'
    simp at hb'
    subst hb'
    subst hob
    simp only [List.nil_append, nmL] at hnd
    have nd := hnd
    simp only [List.cons_append] at nd
    have hbV : b ∉ b2 := fun hc => (List.nodup_append.1 nd).2.2 b hc b (by simp) rfl
    have nd2 := (List.nodup_append.1 nd).2.1
    have hbc : b ∉ c1 ++ rest := (List.nodup_cons.1 nd2).1
    obtain ⟨hval, cs', heff, w', pre, mid, post, h1, h2, h3, h4⟩ := sound_store (w := w) (n := n) hE h hobj hb rest (by simp at hbc; exact hbc.2) (by simp at hbc; exact hbc.1) hbV
    rw [← e] at h1
    refine ⟨undef, w', R, .inr ⟨skip_run h1, rfl⟩, h2, ?_⟩
    rw [heff]
    refine ⟨b, c1, pre ++ b2 ++ post, [], rfl, h4, by rw [hval]; exact repV_undef _, ?_⟩
    subst h3
    constructor
    · have nd3 : (b2 ++ (pre ++ mid ++ post)).Nodup := by
        have h5 := (List.nodup_append.1 nd)
        refine List.nodup_append.2 ⟨h5.1, ?_, ?_⟩
        · exact (List.nodup_append.1 (List.nodup_cons.1 nd2).2).1
        · intro p hp q hq; exact h5.2.2 p hp q (by simp at hq ⊢; rcases hq with h | h | h <;> simp [h])
      have hsub : (b2 ++ (pre ++ post)).Nodup := by
        refine List.Nodup.sublist ?_ nd3
        refine List.Sublist.append (.refl _) ?_
        rw [List.append_assoc]
        exact List.Sublist.append (.refl _) (List.sublist_append_right _ _)
      have hp : ([] ++ (pre ++ b2 ++ post)).Perm (b2 ++ (pre ++ post)) := by
        simp only [List.nil_append]
        rw [← List.append_assoc]
        exact List.Perm.append_right _ List.perm_append_comm
      exact hp.nodup_iff.2 hsub
    · intro c hc
      left
      simp at hc ⊢
      rcases hc with h | h | h <;> simp [h]
  | alloc t =>
    obtain ⟨rfl, rfl⟩ := looked_none hlk rfl
    simp only [opsL, List.map_nil] at hv
    cases vals with
    | cons _ _ => simp [RepVs] at hv
    | nil =>
      obtain ⟨_, rfl⟩ := repVs_nil_inv hv
      simp only [aop, aAlloc] at h
      split at h
      · rename_i i hty
        split at h
        · rename_i hok
          simp at h
          subst h
          have hz := acells_rep (ofConst_rep (w := w) (R := R) (N := N) i.zero) hok.1
          obtain ⟨k1, k2⟩ := new_cells hz t (fun hb => by have := hok.2; rw [hb] at this; exact Nat.eq_of_beq_eq_true (by simpa using this)) rest
          refine ⟨.pointer (some ⟨w.heap.size, 0, none⟩), _, _, .inl ?_, k1, rfl, _, k2, ⟨List.nodup_nil, by simp⟩, by simp, rfl⟩
          have : (Instr.alloc t true (.tuple #[])).run P w = .ok (.pointer (some ⟨w.heap.size, 0, none⟩)) (w.alloc (.cells i.zero.cells t)) := by
            simp [Instr.alloc, hE.run_zero hty, newVar, newRow]
          exact value_run this
        · simp at h
      · simp at h
  | box t x =>
    obtain ⟨a, rfl, ha⟩ := repVs_one hv
    obtain ⟨rfl, rfl⟩ := looked_none hlk rfl
    simp only [aop, aBox] at h
    split at h
    · rename_i hok
      simp at h
      subst h
      have hc := acells_rep ha hok.1
      obtain ⟨k1, k2⟩ := new_cells hc t (fun hb => by have := hok.2; rw [hb] at this; simp at this) rest
      refine ⟨.pointer (some ⟨w.heap.size, 0, none⟩), _, _, .inl ?_, k1, rfl, _, k2, ⟨hndM, fun _ h => h⟩, by simp, rfl⟩
      have : (Instr.box t (ρ x)).run P w = .ok (.pointer (some ⟨w.heap.size, 0, none⟩)) (w.alloc (.cells (ρ x).cells t)) := by
        simp [Instr.box, newVar, newRow]
      exact value_run this
    · simp at h
  | makeMap t r =>
    obtain ⟨rfl, rfl⟩ := looked_none hlk rfl
    simp only [opsL, List.map_nil] at hv
    cases vals with
    | cons _ _ => simp [RepVs] at hv
    | nil =>
      obtain ⟨_, rfl⟩ := repVs_nil_inv hv
      simp only [aop, aMakeMap, aFreshMap] at h
      cases r with
      | some _ => split at h <;> simp at h
      | none =>
        have hrun : (Instr.makeMap t none).run P w = .ok (.map (some w.heap.size)) (w.alloc (.map #[] 0)) := by
          simp [Instr.makeMap]
        obtain ⟨k1, k2⟩ := new_map (w := w) (R := R) (N := N) rest
        split at h
        · simp at h
          subst h
          exact ⟨.map (some w.heap.size), _, _, .inl (value_run hrun), k1, rfl, _, k2, ⟨List.nodup_nil, by simp⟩, by simp, rfl⟩
        · simp at h
          subst h
          exact ⟨.map (some w.heap.size), _, _, .inl (value_run hrun), k1, rfl, _, k2, ⟨List.nodup_nil, by simp⟩, by simp, rfl⟩
  | lookup t x y ok =>
    obtain rfl := hmv rfl
    obtain ⟨a, b, b1, b2, rfl, e, ha, hb⟩ := repVs_two hv
    obtain ⟨rfl, rfl⟩ := app_nil e.symm
    have hob : ∀ n es, a = .map n → ob = some (.map es) → ∃ bl ents clock, ρ x = .map (some bl) ∧ w.heap[bl]? = some (.map ents clock) ∧ RepMap w R es ents.toList := by
      intro n es hn ho
      subst hn
      obtain ⟨bl, c1, _, hN, hobj⟩ := looked_some hlk rfl ho
      simp only [RepV] at ha
      obtain ⟨_, b', hb', e⟩ := ha
      rw [hN] at hb'
      simp at hb'
      subst hb'
      obtain ⟨_, _, ents, clock, hblk, hr, _⟩ := hobj
      exact ⟨bl, ents, clock, e, hblk, hr⟩
    obtain ⟨he, cv, h1, h2⟩ := sound_lookup (w := w) hE h hb ha hob
    refine ⟨cv, w, R, .inl (value_run h1), .pure he h2 .nil ?_⟩
    intro bl c1 obj hnm ho
    unfold Looked at hlk
    split at hlk
    · rw [hlk.2] at hnm; simp at hnm
    · rcases hlk with ⟨_, h⟩ | ⟨b', c', obj', k1, k2, k3, k4⟩
      · rw [h] at hnm; simp at hnm
      · rw [k2] at hnm; simp at hnm; obtain ⟨rfl, rfl⟩ := hnm
        rw [k1] at ho; simp at ho; subst ho; exact k4
  | mapUpdate t x y z =>
    obtain rfl := hmv rfl
    obtain ⟨a, b, d, b1, b2, b3, rfl, e, ha, hb, hd⟩ := repVs_three hv
    obtain ⟨rfl, e'⟩ := app_nil e.symm
    obtain ⟨rfl, rfl⟩ := app_nil e'
    have hcase : ∃ n, a = .map n := by
      simp only [aop, aMapUpdate] at h
      split at h
      · rename_i n k v heq; simp at heq; exact ⟨n, heq.1⟩
      · simp at h
    obtain ⟨n, rfl⟩ := hcase
    have hes : ∃ es, ob = some (.map es) := by
      simp only [aop, aMapUpdate] at h
      split at h
      · split at h
        · exact ⟨_, rfl⟩
        · simp at h
      · simp at h
    obtain ⟨es, hob⟩ := hes
    obtain ⟨bl, c1, rfl, hN, hobj⟩ := looked_some hlk rfl hob
    simp only [RepV] at ha
    obtain ⟨_, b', hb', e⟩ := ha
    rw [hN] at hb'
    simp at hb'
    subst hb'
    subst hob
    have hc1 : c1 = [] := hobj.1
    subst hc1
    have hbr : bl ∉ rest := by simp [nmL] at hnd; exact hnd.1
    obtain ⟨hval, es', heff, w', h1, h2, h3⟩ := sound_mapUpdate (w := w) (n := n) hE h hobj hb hd rest hbr
    rw [← e] at h1
    refine ⟨undef, w', R, .inr ⟨skip_run h1, rfl⟩, h2, ?_⟩
    rw [heff]
    exact ⟨bl, [], [], [], rfl, h3, by rw [hval]; exact repV_undef _, by simp, by simp⟩
  | makeSlice t x y =>
    obtain rfl := hmv rfl
    obtain ⟨a, b, b1, b2, rfl, e, ha, hb⟩ := repVs_two hv
    obtain ⟨rfl, rfl⟩ := app_nil e.symm
    obtain ⟨rfl, rfl⟩ := looked_none hlk rfl
    obtain ⟨o', len, cv, w', R', cap, s, rfl, h1, h2, h3, rfl, h5, h6, h7, h8⟩ := sound_makeSlice (w := w) hE h ha hb rest
    exact ⟨_, w', R', .inl (value_run h1), h2, w.heap.size, [], cap, h3, ⟨by simp, by simp⟩, rfl, h5, h6, h7, h8⟩
  | insert t x y z =>
    obtain rfl := hmv rfl
    obtain ⟨a, b, d, b1, b2, b3, rfl, e, ha, hb, hd⟩ := repVs_three hv
    obtain ⟨rfl, e'⟩ := app_nil e.symm
    obtain ⟨rfl, rfl⟩ := app_nil e'
    have hcase : ∃ n, a = .map n := by
      simp only [aop, aMapUpdate] at h
      split at h
      · rename_i n k v heq; simp at heq; exact ⟨n, heq.1⟩
      · simp at h
    obtain ⟨n, rfl⟩ := hcase
    have hes : ∃ es, ob = some (.map es) := by
      simp only [aop, aMapUpdate] at h
      split at h
      · split at h
        · exact ⟨_, rfl⟩
        · simp at h
      · simp at h
    obtain ⟨es, hob⟩ := hes
    obtain ⟨bl, c1, rfl, hN, hobj⟩ := looked_some hlk rfl hob
    simp only [RepV] at ha
    obtain ⟨_, b', hb', e⟩ := ha
    rw [hN] at hb'
    simp at hb'
    subst hb'
    subst hob
    have hc1 : c1 = [] := hobj.1
    subst hc1
    have hbr : bl ∉ rest := by simp [nmL] at hnd; exact hnd.1
    obtain ⟨hval, es', heff, w', h1, h2, h3⟩ := sound_mapUpdate (w := w) (n := n) hE h hobj hb hd rest hbr
    rw [← e] at h1
    refine ⟨undef, w', R, .inr ⟨skip_run h1, rfl⟩, h2, ?_⟩
    rw [heff]
    exact ⟨bl, [], [], [], rfl, h3, by rw [hval]; exact repV_undef _, by simp, by simp⟩
  | call c =>
    obtain ⟨callee, args, argTypes⟩ := c
    cases callee with
    | value _ => simp [aop] at h
    | invoke _ _ => simp [aop] at h
    | builtin b =>
      simp only [aop, aBuiltin] at h
      obtain ⟨cbs, hex⟩ : ∃ cs : Array Bool, (execOp ρ ⟨dst, .call ⟨.builtin b, args, argTypes⟩, type, pos, after, guard⟩).run P w = (builtin b argTypes type cs (args.map ρ)).run P w := ⟨_, rfl⟩
      have hargs : args.map ρ = ((args.toList).map ρ).toArray := by rw [← Array.toList_map]
      split at h
      · simp at h
      · rename_i t ts hts
        have hat : argTypes[0]? = some t := by
          have : argTypes.toList[0]? = some t := by rw [hts]; simp
          simpa using this
        cases b with
        | len =>
          dsimp only at h
          obtain rfl := hmv rfl
          have hsh : ∃ a x, vals = [a] ∧ args.toList.map ρ = [x] ∧ RepV w R N a x [] := by
            have hl := hv.length
            simp only [opsL] at hv hl
            cases vals with
            | nil => simp [aLen, nzL] at h
            | cons a vals =>
              cases vals with
              | cons _ _ => simp [aLen, nzL] at h
              | nil =>
                cases hm : args.toList.map ρ with
                | nil => rw [hm] at hl; simp at hl
                | cons x xs =>
                  rw [hm] at hl hv
                  simp at hl
                  subst hl
                  obtain ⟨a', e, ha⟩ := repVs_one hv
                  simp at e
                  subst e
                  exact ⟨a, x, rfl, rfl, ha⟩
          obtain ⟨a, x, rfl, hx, ha⟩ := hsh
          rw [hx] at hargs
          cases hlo : looks (.call ⟨.builtin .len, args, argTypes⟩) [a] with
          | none =>
            obtain ⟨rfl, rfl⟩ := looked_none hlk hlo
            obtain ⟨he, cv, h1, h2⟩ := sound_len_pure (ty := type) (w := w) hE hat h (repV_nz ha)
            refine ⟨cv, w, R, .inl ?_, .pure he h2 .nil (by simp)⟩
            rw [hex, hargs]
            simp [builtin, h1]
          | some n =>
            have han : a = .map n := by cases a <;> simp [looks] at hlo; subst hlo; rfl
            subst han
            have hes : ∃ es, ob = some (.map es) := by
              simp only [nzL, nz, aLen] at h
              split at h
              · exact ⟨_, rfl⟩
              · simp at h
            obtain ⟨es, hob⟩ := hes
            obtain ⟨bl, c1, rfl, hN, hobj⟩ := looked_some hlk hlo hob
            simp only [RepV] at ha
            obtain ⟨_, b', hb', e⟩ := ha
            rw [hN] at hb'
            simp at hb'
            subst hb'
            subst hob
            have hobj' := hobj
            obtain ⟨hc1, _, ents, clock, hblk, hr, _⟩ := hobj'
            subst hc1
            obtain ⟨he, cv, h1, h2⟩ := sound_len_map (N := N) (ty := type) (w := w) hE hat h hblk hr
            refine ⟨cv, w, R, .inl ?_, .pure he h2 .nil ?_⟩
            · rw [hex, hargs, e]
              simp [builtin, h1]
            · intro b2 c2 o hnm ho
              simp at hnm ho
              obtain ⟨rfl, rfl⟩ := hnm
              subst ho
              exact hobj
        | append =>
          dsimp only at h
          split at h
          · rename_i t1 t2 hts2
            split at h
            · rename_i ht2
              subst ht2
              have hts3 : argTypes = #[t2, t2] := by
                apply Array.toList_inj.1
                have h12 := hts.symm.trans hts2
                simp only [List.cons.injEq] at h12
                rw [hts2, ← h12.1]
              simp only [opsL] at hv
              have hsh : ∃ a x, vals = [a, x] := by
                match vals, h with
                | [], h => simp [apz, aAppend] at h
                | [_], h => simp [apz, aAppend] at h
                | [a, x], _ => exact ⟨a, x, rfl⟩
                | _ :: _ :: _ :: _, h => simp [apz, aAppend] at h
              obtain ⟨a, x, rfl⟩ := hsh
              have hl := hv.length
              cases hm : args.toList.map ρ with
              | nil => rw [hm] at hl; simp at hl
              | cons y ys =>
                cases ys with
                | nil => rw [hm] at hl; simp at hl
                | cons z zs =>
                  rw [hm] at hl hv hargs
                  simp at hl
                  subst hl
                  obtain ⟨a', x', c1, c2, e0, rfl, ha, hx⟩ := repVs_two hv
                  simp at e0
                  obtain ⟨rfl, rfl⟩ := e0
                  have hlk := looked_apz hlk
                  replace ha := repV_ownz ha
                  replace hx := repV_nz hx
                  simp only [apz] at h
                  clear hv
                  generalize ownz a = a at *
                  generalize nz x = x at *
                  have hran : ∀ {cv w'}, (Builtin.append_ #[t2, t2] type #[y, z]).run P w = .ok cv w' → Ran P w ρ ⟨dst, .call ⟨.builtin .append, args, argTypes⟩, type, pos, after, guard⟩ cv w' := by
                    intro cv w' h1
                    refine .inl ?_
                    rw [hex, hargs, hts3]
                    simp [builtin, h1]
                  unfold aAppend at h
                  split at h
                  · rename_i es x2 heq
                    simp at heq
                    obtain ⟨rfl, rfl⟩ := heq
                    obtain ⟨rfl, rfl⟩ := looked_none hlk rfl
                    split at h
                    · rename_i i hel
                      split at h
                      · rename_i hc
                        simp only [Bool.and_eq_true, List.isEmpty_iff] at hc
                        obtain ⟨⟨_, rfl⟩, hmo⟩ := hc
                        have hc2 : c2 = [] := by
                          unfold isMore at hmo
                          split at hmo
                          · exact (repV_dat_inv hx).1
                          · simp at hmo
                        subst hc2
                        have hb : ∃ base, y = .slice base 0 0 ∧ (base = none ∨ ∃ b, base = some ⟨b, 0, none⟩) := by
                          rcases repOwn_inv (repV_own_inv ha) with ⟨rfl, _, _⟩ | ⟨b, cap, s, vs, t', rfl, _, _, _, _, _, he, _⟩
                          · exact ⟨_, rfl, .inl rfl⟩
                          · have := he rfl
                            subst this
                            exact ⟨_, rfl, .inr ⟨b, rfl⟩⟩
                        obtain ⟨base, rfl, hbase⟩ := hb
                        obtain ⟨o', len, cv, w', R', cap, rfl, h1, h2, h3, rfl, h5, h6, h7, h8⟩ := sound_grow_new (ty := type) (w := w) hE hel h hmo hx hbase rest
                        exact ⟨_, w', R', hran h1, h2, w.heap.size, [], cap, h3, ⟨by simp, by simp⟩, rfl, h5, h6, h7, h8⟩
                      · split at h
                        · rename_i r hap
                          split at h
                          rotate_left
                          · simp at h
                          rename_i hbo
                          simp at h
                          subst h
                          have hc2 : c2 = [] := by
                            obtain ⟨ds, rfl, _⟩ := appendTo_spec (by rw [hE.std] at hap; exact hap)
                            exact (repV_dat_inv hx).1
                          subst hc2
                          simp only [List.append_nil, nmL, List.nil_append] at hnd
                          obtain ⟨cv, w', R', bsV, h1, h2, h3, h4, h5⟩ := sound_append (ty := type) (w := w) hE hel hap hbo ha hx rest (fun b hb hr => (List.nodup_append.1 hnd).2.2 b hb b hr rfl)
                          exact ⟨cv, w', R', hran h1, h2, bsV, h3, ⟨h4, by simpa using h5⟩, by simp, .inl rfl⟩
                        · simp at h
                    · simp at h
                  · rename_i n s off len x2 heq
                    simp at heq
                    obtain ⟨rfl, rfl⟩ := heq
                    split at h
                    · rename_i i cs hel hob'
                      split at h
                      · rename_i hc
                        simp only [Bool.and_eq_true, Nat.beq_eq] at hc
                        obtain ⟨⟨_, rfl⟩, rfl⟩ := hc
                        obtain ⟨bl, b1, rfl, hN, hobj⟩ := looked_some (n := n) (obj := .cells cs) hlk rfl (by first | rfl | assumption)
                        simp only [RepV] at ha
                        obtain ⟨rfl, b', cap, hb', rfl, hcap, hs0, _, hsz⟩ := ha
                        rw [hN] at hb'
                        simp at hb'
                        subst hb'
                        have hc2 : c2 = [] := by
                          obtain ⟨ds, rfl, _⟩ := growRow_spec hE h
                          exact (repV_dat_inv hx).1
                        subst hc2
                        have hnd' : ((bl :: b1) ++ rest).Nodup := by simpa [nmL] using hnd
                        have hd := List.nodup_append.1 hnd'
                        obtain ⟨o', len', cv, w', R', b', b1', cap', rfl, h1, h2, h3, hf, rfl, h5, h6, h7, h8⟩ := sound_grow_row (ty := type) (w := w) hE hel h hx hobj hcap (by simpa using hsz) hd.1 rest (fun hh => hd.2.2 bl (by simp) bl hh rfl)
                        exact ⟨_, w', R', hran h1, h2, b', b1', cap', h3, by simpa [nmL] using hf, rfl, h5, h6, h7, h8⟩
                      · simp at h
                    · simp at h
                  · simp at h
            · have hts3 : argTypes = #[t, t2] := by
                apply Array.toList_inj.1
                have h12 := hts.symm.trans hts2
                simp only [List.cons.injEq] at h12
                rw [hts2, ← h12.1]
              simp only [opsL] at hv
              have hsh : ∃ a x, vals = [a, x] := by
                match vals, h with
                | [], h => simp [apz, aAppendStr] at h
                | [_], h => simp [apz, aAppendStr] at h
                | [a, x], _ => exact ⟨a, x, rfl⟩
                | _ :: _ :: _ :: _, h => simp [apz, aAppendStr] at h
              obtain ⟨a, x, rfl⟩ := hsh
              simp only [apz] at h
              obtain ⟨es, s, ha0, hx0⟩ : ∃ es s, ownz a = .own es ∧ nz x = .dat (.flat (.string s)) := by
                unfold aAppendStr at h
                split at h
                · rename_i heq
                  simp at heq
                  exact ⟨_, _, heq.1, heq.2⟩
                · simp at h
              rw [ha0, hx0] at h
              have hl := hv.length
              cases hm : args.toList.map ρ with
              | nil => rw [hm] at hl; simp at hl
              | cons y ys =>
                cases ys with
                | nil => rw [hm] at hl; simp at hl
                | cons z zs =>
                  rw [hm] at hl hv hargs
                  simp at hl
                  subst hl
                  obtain ⟨a', x', c1, c2, e0, rfl, ha, hx⟩ := repVs_two hv
                  simp at e0
                  obtain ⟨rfl, rfl⟩ := e0
                  have hlk := looked_apz hlk
                  replace ha := repV_ownz ha
                  replace hx := repV_nz hx
                  rw [ha0] at ha hlk
                  rw [hx0] at hx hlk
                  obtain ⟨rfl, rfl⟩ := looked_none hlk rfl
                  have hc2 : c2 = [] := (repV_dat_inv hx).1
                  subst hc2
                  simp only [List.append_nil, nmL, List.nil_append] at hnd
                  obtain ⟨cv, w', R', bsV, h1, h2, h3, h6, h4, h5⟩ := sound_append_str (ty := type) (w := w) hE h ha hx rest (fun b hb hr => (List.nodup_append.1 hnd).2.2 b hb b hr rfl)
                  refine ⟨cv, w', R', .inl ?_, h2, ?_⟩
                  · rw [hex, hargs, hts3]
                    simp [builtin, h1]
                  · rw [h6]
                    exact ⟨bsV, h3, ⟨h4, by simpa using h5⟩, by simp, .inl rfl⟩
          · simp at h
        | max =>
          dsimp only at h
          obtain rfl := hmv rfl
          obtain ⟨rfl, rfl⟩ := looked_none hlk rfl
          simp only [opsL] at hv
          have hsh : ∃ a x, vals = [a, x] := by
            unfold aMax at h
            split at h
            · exact ⟨_, _, rfl⟩
            · simp at h
          obtain ⟨a, x, rfl⟩ := hsh
          have hl := hv.length
          cases hm : args.toList.map ρ with
          | nil => rw [hm] at hl; simp at hl
          | cons y ys =>
            cases ys with
            | nil => rw [hm] at hl; simp at hl
            | cons z zs =>
              rw [hm] at hl hv
              simp at hl
              subst hl
              obtain ⟨a', x', c1, c2, e0, e, ha, hx⟩ := repVs_two hv
              simp at e0
              obtain ⟨rfl, rfl⟩ := e0
              obtain ⟨rfl, rfl⟩ := app_nil e.symm
              obtain ⟨he, cv, h1, h2⟩ := sound_max (P := P) (w := w) hE h ha hx argTypes type
              rw [hm] at hargs
              refine ⟨cv, w, R, .inl ?_, .pure he h2 .nil (by simp)⟩
              rw [hex, hargs]
              simp [builtin, h1]
        | min =>
          dsimp only at h
          obtain rfl := hmv rfl
          obtain ⟨rfl, rfl⟩ := looked_none hlk rfl
          simp only [opsL] at hv
          have hsh : ∃ a x, vals = [a, x] := by
            unfold aMin at h
            split at h
            · exact ⟨_, _, rfl⟩
            · simp at h
          obtain ⟨a, x, rfl⟩ := hsh
          have hl := hv.length
          cases hm : args.toList.map ρ with
          | nil => rw [hm] at hl; simp at hl
          | cons y ys =>
            cases ys with
            | nil => rw [hm] at hl; simp at hl
            | cons z zs =>
              rw [hm] at hl hv
              simp at hl
              subst hl
              obtain ⟨a', x', c1, c2, e0, e, ha, hx⟩ := repVs_two hv
              simp at e0
              obtain ⟨rfl, rfl⟩ := e0
              obtain ⟨rfl, rfl⟩ := app_nil e.symm
              obtain ⟨he, cv, h1, h2⟩ := sound_min (P := P) (w := w) hE h ha hx argTypes type
              rw [hm] at hargs
              refine ⟨cv, w, R, .inl ?_, .pure he h2 .nil (by simp)⟩
              rw [hex, hargs]
              simp [builtin, h1]
        | delete =>
          dsimp only at h
          obtain rfl := hmv rfl
          simp only [opsL] at hv
          have hsh : ∃ n x, vals = [.map n, x] := by
            unfold aDelete at h
            split at h
            · exact ⟨_, _, rfl⟩
            · simp at h
          obtain ⟨n, x, rfl⟩ := hsh
          have hl := hv.length
          cases hm : args.toList.map ρ with
          | nil => rw [hm] at hl; simp at hl
          | cons y ys =>
            cases ys with
            | nil => rw [hm] at hl; simp at hl
            | cons z zs =>
              rw [hm] at hl hv
              simp at hl
              subst hl
              obtain ⟨a', x', c1, c2, e0, e, ha, hx⟩ := repVs_two hv
              simp at e0
              obtain ⟨rfl, rfl⟩ := e0
              obtain ⟨rfl, rfl⟩ := app_nil e.symm
              have hes : ∃ es, ob = some (.map es) := by
                unfold aDelete at h
                split at h
                · split at h
                  · exact ⟨_, rfl⟩
                  · simp at h
                · simp at h
              obtain ⟨es, hob⟩ := hes
              obtain ⟨bl, d1, rfl, hN, hobj⟩ := looked_some hlk rfl hob
              simp only [RepV] at ha
              obtain ⟨_, b', hb', e⟩ := ha
              rw [hN] at hb'
              simp at hb'
              subst hb'
              subst hob
              have hc1 : d1 = [] := hobj.1
              subst hc1
              have hbr : bl ∉ rest := by simp [nmL] at hnd; exact hnd.1
              obtain ⟨cv, w', h1, h2, h3, h4⟩ := sound_delete (ty := type) (w := w) (n := n) hE hat h hobj hx rest hbr
              rw [hm, e] at hargs
              refine ⟨cv, w', R, .inl ?_, h2, ?_⟩
              · rw [hex, hargs]
                simp [builtin, h1]
              · obtain ⟨es', he, ho⟩ := h4
                rw [he]
                exact ⟨bl, [], [], [], rfl, ho, h3, by simp, by simp⟩
        | _ => simp at h
  | _ => simp [aop] at h
end
end Go.Tp
