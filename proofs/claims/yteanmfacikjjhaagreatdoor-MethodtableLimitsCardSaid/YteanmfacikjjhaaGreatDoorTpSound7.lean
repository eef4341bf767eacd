/- The generic layer: struct literals, lengths, look-ups. -/
import Derived.Test.YteanmfacikjjhaaGreatDoorTpSound6
namespace Go.Tp

section
variable {P : Program} {E : TEnv} {w : World} {R : Own} {N : Name → Option Nat}

theorem mapM_get {α β : Type} (f : α → Option β) : ∀ {l : List α} {r : List β}, l.mapM f = some r → ∀ k : Nat, r[k]? = (l[k]?).bind f
  | [], r, h, k => by simp at h; subst h; simp
  | a :: l, r, h, k => by
    simp only [List.mapM_cons, Option.bind_eq_bind, Option.pure_def] at h
    cases ha : f a with
    | none => simp [ha] at h
    | some b =>
      cases hl : l.mapM f with
      | none => simp [ha, hl] at h
      | some rs =>
        simp [ha, hl] at h
        subst h
        cases k with
        | zero => simp [ha]
        | succ k => simpa using mapM_get f hl k

theorem sound_build (hE : E.Ok P) {t : TypeId} {ps : Array (Nat × Operand)} {ρ : Operand → Value} {vals : List AVal} {out : Out} (h : aBuild E t ps.toList vals = some out)
    (hr : RepVs w R N vals ((ps.toList.map (·.2)).map ρ) []) :
    out.eff = .keep ∧ ∃ cv, (Instr.build t (ps.map fun (i, x) => (i, ρ x))).run P w = .ok cv w ∧ RepV w R N out.val cv [] := by
  unfold aBuild at h
  split at h
  · rename_i i hi
    split at h
    · rename_i fs hd
      split at h
      · rename_i hok
        split at h
        · rename_i cs hf
          simp at h
          subst h
          obtain ⟨⟨it, h1, h2, h3, h4, _⟩, hk⟩ := hE.ty t i hi
          rw [hd] at hk
          obtain ⟨fields, hu, hm, places, hpl⟩ := hk
          have hz := acells_rep (ofConst_rep (w := w) (R := R) (N := N) i.zero) hok.1
          have hlen := hr.length
          simp at hlen
          have hfst : (parts ps.toList vals).map (·.1) = ((ps.map fun (i, x) => (i, ρ x)).toList).map (·.1) := by
            unfold parts
            rw [List.map_fst_zip (by simp; omega)]
            simp
          have hsnd : (parts ps.toList vals).map (·.2) = vals := by
            unfold parts
            rw [List.map_snd_zip (by simp; omega)]
          obtain ⟨us, f1, f2⟩ := fillL_run (cplace := (places.toArray[·]?)) (fun k x hx => by
            unfold placeOf at hx
            split at hx
            · rename_i off j hfo
              simp at hx
              subst hx
              obtain ⟨fields', fld, g1, g2, g3, g4⟩ := fieldOf_ok hE hfo
              rw [hu] at g1
              simp at g1
              subst g1
              obtain ⟨⟨jt, k1, k2, _⟩, _⟩ := hE.ty _ _ g4
              have := mapM_get _ hpl k
              have g2' : fields.toList[k]? = some fld := by simpa using g2
              rw [g2'] at this
              simp [k1, k2, g3] at this
              simpa using this
            · simp at hx) _ ((ps.map fun (i, x) => (i, ρ x)).toList) _ i.zero.cells cs hfst (by
              rw [hsnd]
              have : (List.map (fun x => x.2) (ps.map fun (i, x) => (i, ρ x)).toList) = (ps.toList.map (·.2)).map ρ := by simp
              rw [this]; exact hr) hz hf
          refine ⟨rfl, .agg us, run_build w t _ us ?_, ?_⟩
          · unfold Program.built
            simp only [h1, hu, h4, hpl]
            exact f1
          · have := mkAgg_rep f2
            simpa using this
        · simp at h
      · simp at h
    · rename_i ne e hd
      split at h
      · rename_i ie hie
        split at h
        · rename_i hok
          split at h
          · rename_i cs hf
            simp at h
            subst h
            obtain ⟨⟨it, h1, h2, h3, h4, _⟩, hk⟩ := hE.ty t i hi
            rw [hd] at hk
            obtain ⟨⟨je, k1, k2, _⟩, _⟩ := hE.ty e ie hie
            have hz := acells_rep (ofConst_rep (w := w) (R := R) (N := N) i.zero) hok.1
            have hlen := hr.length
            simp at hlen
            have hfst : (parts ps.toList vals).map (·.1) = ((ps.map fun (i, x) => (i, ρ x)).toList).map (·.1) := by
              unfold parts
              rw [List.map_fst_zip (by simp; omega)]
              simp
            have hsnd : (parts ps.toList vals).map (·.2) = vals := by
              unfold parts
              rw [List.map_snd_zip (by simp; omega)]
            obtain ⟨us, f1, f2⟩ := fillL_run (cplace := fun i => some (i * je.size, je.size)) (fun k x hx => by rw [k2]; exact hx) _ ((ps.map fun (i, x) => (i, ρ x)).toList) _ i.zero.cells cs hfst (by
                rw [hsnd]
                have : (List.map (fun x => x.2) (ps.map fun (i, x) => (i, ρ x)).toList) = (ps.toList.map (·.2)).map ρ := by simp
                rw [this]; exact hr) hz hf
            refine ⟨rfl, .agg us, run_build w t _ us ?_, ?_⟩
            · unfold Program.built
              simp only [h1, hk, h4, k1]
              exact f1
            · have := mkAgg_rep f2
              simpa using this
          · simp at h
        · simp at h
      · simp at h
    · simp at h
  · simp at h

/-- The bound on a slice's length. -/
theorem repC_bound {v : Value} {es : List Dat} (h : RepC w R v (.slice es)) : es.length ≤ lim := by
  cases h with
  | nil => simp
  | slice => assumption

theorem isFlat_len {n : Nat} (h : n ≤ lim) : isFlat (.int .i64 n) = true := isFlat_int.2 (by simp [IntKind.min, IntKind.max, IntKind.bits, IntKind.signed]; unfold lim at h; omega)

theorem sound_len_pure (hE : E.Ok P) {t ty : TypeId} {ats : Array TypeId} (hat : ats[0]? = some t) {a : AVal} {x : Value} {out : Out} (h : aLen E t [a] none = some out) (ha : RepV w R N a x []) :
    out.eff = .keep ∧ ∃ cv, (Builtin.len_ ats ty #[x]).run P w = .ok cv w ∧ RepV w R N out.val cv [] := by
  unfold aLen at h
  split at h
  · rename_i es heq
    simp at heq
    subst heq
    obtain ⟨_, hr⟩ := repV_slice_inv ha
    split at h
    · rename_i e hd
      simp [hE.std, Prims.std] at h
      subst h
      have hu := hE.desc_slice hd
      refine ⟨rfl, .int .i64 es.length, ?_, repV_flat (isFlat_len (repC_bound hr))⟩
      cases hr with
      | nil => simp [Builtin.len_, hat, run_und hu, goInt]
      | slice => simp [Builtin.len_, hat, run_und hu, goInt]
    · simp at h
  · rename_i s heq
    simp at heq
    subst heq
    obtain ⟨_, rfl, hfl⟩ := repV_flat_inv ha
    split at h
    · rename_i hd
      simp [hE.std, Prims.std] at h
      subst h
      exact ⟨rfl, .int .i64 s.size, by simp [Builtin.len_, hat, run_und (hE.desc_string hd), goInt], repV_flat (isFlat_int.2 (by simp [isFlat] at hfl; simp [IntKind.min, IntKind.max, IntKind.bits, IntKind.signed]; omega))⟩
    · simp at h
  · rename_i n s off len heq
    simp at heq
    subst heq
    simp only [RepV] at ha
    obtain ⟨_, bl, cap, hN, rfl, hcap, hs0, hlt, hsz⟩ := ha
    split at h
    · rename_i e hd
      split at h
      · rename_i hl
        simp at h
        subst h
        have hl : len ≤ lim := by rwa [Nat.ble_eq] at hl
        exact ⟨rfl, .int .i64 len, by simp [Builtin.len_, hat, run_und (hE.desc_slice hd), goInt], repV_flat (isFlat_len hl)⟩
      · simp at h
    · simp at h
  · rename_i heq
    simp at heq
    subst heq
    obtain ⟨_, rfl, _⟩ := repV_flat_inv ha
    split at h
    · rename_i k e hd
      simp at h
      subst h
      exact ⟨rfl, .int .i64 0, by simp [Builtin.len_, hat, run_und (hE.desc_map hd), goInt], repV_flat rfl⟩
    · simp at h
  · split at h <;> simp_all
  · simp at h

theorem repMap_length : ∀ {es : List (Value × Dat)} {ents : List MapEntry}, RepMap w R es ents → ents.length = es.length
  | [], _, h => by simp [RepMap] at h; simp [h]
  | (_, _) :: es, _, ⟨e, es', h1, _, _, h4⟩ => by simp [h1, repMap_length h4]

theorem sound_len_map (hE : E.Ok P) {t ty : TypeId} {ats : Array TypeId} (hat : ats[0]? = some t) {n : Name} {es : List (Value × Dat)} {out : Out} (h : aLen E t [.map n] (some (.map es)) = some out)
    {b clock : Nat} {ents : Array MapEntry} (hb : w.heap[b]? = some (.map ents clock)) (hr : RepMap w R es ents.toList) :
    out.eff = .keep ∧ ∃ cv, (Builtin.len_ ats ty #[.map (some b)]).run P w = .ok cv w ∧ RepV w R N out.val cv [] := by
  simp only [aLen] at h
  split at h
  · rename_i k e es' hd heq
    simp at heq
    subst heq
    split at h
    · rename_i hlim
      simp at h
      subst h
      have := repMap_length hr
      refine ⟨rfl, .int .i64 es.length, ?_, repV_flat (isFlat_len hlim)⟩
      simp at this
      simp [Builtin.len_, hat, run_und (hE.desc_map hd), goInt, getObj, Sem.run, hb, this]
    · simp at h
  · simp at h

theorem key_ok (hE : E.Ok P) {kt : TypeId} {td : TypeDesc} (h : E.key kt = some td) : P.underlying kt = some td ∧ (td = .string ∨ (∃ k, td = .int k) ∨ td = .bool) := by
  unfold TEnv.key at h
  split at h
  · rename_i i hi
    have hk := (hE.ty kt i hi).2
    cases hd : i.desc <;> rw [hd] at h hk <;> simp [keyDesc] at h <;> subst h <;> simp_all
  · simp at h

theorem findKey_now (td : TypeDesc) (k : Value) : ∀ {es : List (Value × Dat)} {ents : List MapEntry} {i : Nat} {r : Option (Nat × Dat)}, RepMap w R es ents → findKey td k es i = some r →
    (match r with
     | some (j, d) => ∃ e, ents[j - i]? = some e ∧ i ≤ j ∧ Instr.findNow td k ents i = some (some (j, e.val)) ∧ RepD w R e.val d ∧ Instr.sameNow td k e.key = some true ∧ es[j - i]? = some (e.key, d)
     | none => Instr.findNow td k ents i = some none)
  | [], ents, i, r, h, hf => by
    simp [RepMap] at h
    subst h
    simp [findKey] at hf
    subst hf
    rfl
  | (x, d) :: es, ents, i, r, ⟨e, es', h1, h2, h3, h4⟩, hf => by
    subst h1
    subst h2
    simp only [findKey] at hf
    split at hf
    · rename_i hs
      simp at hf
      subst hf
      exact ⟨e, by simp, Nat.le_refl _, by simp [Instr.findNow, hs], h3, hs, by simp⟩
    · rename_i hs
      have ih := findKey_now td k h4 hf
      cases r with
      | none => simpa [Instr.findNow, hs] using ih
      | some q =>
        obtain ⟨j, d'⟩ := q
        obtain ⟨e', f1, f2, f3, f4, f5, f6⟩ := ih
        refine ⟨e', ?_, by omega, by simpa [Instr.findNow, hs] using f3, f4, f5, ?_⟩
        · rw [show j - i = (j - (i + 1)) + 1 by omega]; simpa using f1
        · rw [show j - i = (j - (i + 1)) + 1 by omega]; simpa using f6
    · simp at hf

theorem run_checkKey' (n : Nat) {kt : TypeId} {td : TypeDesc} (hu : P.underlying kt = some td) (hk : td = .string ∨ (∃ k, td = .int k) ∨ td = .bool) (b : Bool) (x : Value) :
    (Instr.checkKey b (n + 1) kt x).run P w = .ok () w := by
  rcases hk with rfl | ⟨k, rfl⟩ | rfl <;> cases x <;> simp [Instr.checkKey, run_und hu]

theorem run_checkKey {kt : TypeId} {td : TypeDesc} (hu : P.underlying kt = some td) (hk : td = .string ∨ (∃ k, td = .int k) ∨ td = .bool) (b : Bool) (x : Value) :
    (Instr.checkKey b 10000 kt x).run P w = .ok () w := run_checkKey' 9999 hu hk b x

theorem key_std (hE : E.Ok P) {td : TypeDesc} {k : Value} {es : List (Value × Dat)} {r : Option (Nat × Dat)} (h : E.pr.key td k es = some r) : findKey td k es 0 = some r := by
  rw [hE.std] at h; exact h

theorem run_findKey {kt : TypeId} {td : TypeDesc} (hu : P.underlying kt = some td) {k : Value} {ents : List MapEntry} {r : Option (Nat × Value)} (h : Instr.findNow td k ents 0 = some r) :
    (Instr.findKey kt k ents).run P w = .ok r w := by
  simp [Instr.findKey, run_und hu, h]

theorem run_lookup (hE : E.Ok P) {t kt et : TypeId} {td : TypeDesc} {ei : TI} (hmu : P.underlying t = some (.map kt et)) (hei : E.ty et = some ei) (hku : P.underlying kt = some td) (hkk : td = .string ∨ (∃ k, td = .int k) ∨ td = .bool)
    {mx k : Value} {ents : Array MapEntry} (hm : (mx = .map none ∧ ents = #[]) ∨ ∃ b clock, mx = .map (some b) ∧ w.heap[b]? = some (.map ents clock)) {r : Option (Nat × Value)} (hf : Instr.findNow td k ents.toList 0 = some r) (ok : Bool) :
    (Instr.lookup t mx k ok).run P w = .ok (match r with | some (_, v) => (if ok then .tuple #[v, .bool true] else v) | none => (if ok then .tuple #[ei.zero, .bool false] else ei.zero)) w := by
  have hfk := run_findKey (w := w) hku hf
  rcases hm with ⟨rfl, rfl⟩ | ⟨b, clock, rfl, hb⟩
  · cases r with
    | none => simp at hfk; simp [Instr.lookup, run_und hmu, run_checkKey hku hkk, hfk, hE.run_zero hei]
    | some q => simp at hfk; simp [Instr.lookup, run_und hmu, run_checkKey hku hkk, hfk]
  · cases r with
    | none => simp [Instr.lookup, run_und hmu, run_checkKey hku hkk, hfk, hE.run_zero hei, getObj, Sem.run, hb]
    | some q => simp [Instr.lookup, run_und hmu, run_checkKey hku hkk, hfk, getObj, Sem.run, hb]

theorem sound_lookup (hE : E.Ok P) {t : TypeId} {ok : Bool} {m : AVal} {kv : AVal} {ob : Option AObj} {out : Out} (h : aLookup E t ok [m, kv] ob = some out) {mx kx : Value}
    (hkr : RepV w R N kv kx []) (hm : RepV w R N m mx [])
    (hob : ∀ n es, m = .map n → ob = some (.map es) → ∃ b ents clock, mx = .map (some b) ∧ w.heap[b]? = some (.map ents clock) ∧ RepMap w R es ents.toList) :
    out.eff = .keep ∧ ∃ cv, (Instr.lookup t mx kx ok).run P w = .ok cv w ∧ RepV w R N out.val cv [] := by
  unfold aLookup at h
  split at h
  · rename_i m' k heq
    simp at heq
    obtain ⟨rfl, rfl⟩ := heq
    obtain ⟨_, rfl, hkf⟩ := repV_flat_inv hkr
    split at h
    · rename_i kt et hd
      split at h
      · rename_i td ei es hkd hei hes
        obtain ⟨hku, hkk⟩ := key_ok hE hkd
        have hmu := hE.desc_map hd
        have hents : ∃ ents : Array MapEntry, ((mx = .map none ∧ ents = #[]) ∨ ∃ b clock, mx = .map (some b) ∧ w.heap[b]? = some (.map ents clock)) ∧ RepMap w R es ents.toList := by
          unfold mapEntries at hes
          split at hes
          · simp at hes
            subst hes
            obtain ⟨_, rfl, _⟩ := repV_flat_inv hm
            exact ⟨#[], .inl ⟨rfl, rfl⟩, rfl⟩
          · rename_i n
            split at hes
            · rename_i es'
              simp at hes
              subst hes
              obtain ⟨b, ents, clock, rfl, hb, hr⟩ := hob n es' rfl rfl
              exact ⟨ents, .inr ⟨b, clock, rfl, hb⟩, hr⟩
            · simp at hes
          · simp at hes
        obtain ⟨ents, he, hrm⟩ := hents
        split at h
        · rename_i j d hf
          simp at h
          subst h
          obtain ⟨e, _, _, f3, f4, _, _⟩ := findKey_now td _ hrm (key_std hE hf)
          refine ⟨rfl, _, run_lookup hE hmu hei hku hkk he f3 ok, ?_⟩
          cases ok with
          | true =>
            simp only [found, if_true, RepV]
            exact ⟨[e.val, .bool true], rfl, repVs_cons (b1 := []) (repV_dat f4) (repVs_cons (b1 := []) (b2 := []) (repV_flat rfl) repVs_nil)⟩
          | false => simpa [found] using repV_dat (N := N) f4
        · rename_i hf
          split at h
          · rename_i z hz
            simp at h
            subst h
            have f3 := findKey_now td _ hrm (key_std hE hf)
            have hzr := asDat_rep (ofConst_rep (w := w) (R := R) (N := N) ei.zero) hz
            refine ⟨rfl, _, run_lookup hE hmu hei hku hkk he f3 ok, ?_⟩
            cases ok with
            | true =>
              simp only [found, if_true, RepV]
              exact ⟨[ei.zero, .bool false], rfl, repVs_cons (b1 := []) (repV_dat hzr) (repVs_cons (b1 := []) (b2 := []) (repV_flat rfl) repVs_nil)⟩
            | false => simpa [found] using repV_dat (N := N) hzr
          · simp at h
        · simp at h
      · simp at h
    · simp at h
  · simp at h
end
end Go.Tp
