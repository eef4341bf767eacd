/- The generic layer: the other operations that leave the world as it is. -/
import Derived.Test.YteanmfacikjjhaaGreatDoorTpSound3
import Derived.Laws.BytesString
namespace Go.Tp

section
variable {P : Program} {E : TEnv} {w : World} {R : Own} {N : Name → Option Nat}

theorem sound_bin (hE : E.Ok P) {op : BinOp} {t : TypeId} {a b : AVal} {x y : Value} {out : Out} (h : aBin E op t [a, b] = some out)
    (ha : RepV w R N a x []) (hb : RepV w R N b y []) (X Y : Operand) :
    out.eff = .keep ∧ ∃ cv, ((do eqGuard op t X Y x y; binOp op t x y) : Sem Value).run P w = .ok cv w ∧ RepV w R N out.val cv [] := by
  unfold aBin at h
  split at h
  · rename_i u v heq
    simp at heq
    obtain ⟨rfl, rfl⟩ := heq
    obtain ⟨_, rfl, hx⟩ := repV_flat_inv ha
    obtain ⟨_, rfl, _⟩ := repV_flat_inv hb
    cases hf : flatBin E.pr op (E.desc t) x y with
    | none => simp [hf, ofV] at h
    | some r =>
      simp [hf, ofV] at h
      subst h
      obtain ⟨h1, h2⟩ := flatBin_run (w := w) hE hf hx X Y
      exact ⟨rfl, r, h1, repV_flat h2⟩
  · rename_i u v _ heq
    simp at heq
    obtain ⟨rfl, rfl⟩ := heq
    cases hf : nilBin op (E.desc t) a b with
    | none => simp [hf, ofV] at h
    | some r =>
      simp [hf, ofV] at h
      subst h
      unfold nilBin at hf
      split at hf
      · have hd : E.desc t = some .pointer := by assumption
        obtain ⟨e, he⟩ := hE.desc_pointer hd
        obtain ⟨_, rfl, _⟩ := repV_flat_inv hb
        simp only [RepV] at ha
        obtain ⟨_, bl, _, rfl⟩ := ha
        have hb := fun a => run_eql_ptr (w := w) he a
        cases op <;> simp at hf <;> subst hf <;> refine ⟨rfl, _, ?_, repV_flat rfl⟩ <;> simp [eqGuard, hb]
      · have hd : E.desc t = some .pointer := by assumption
        obtain ⟨e, he⟩ := hE.desc_pointer hd
        obtain ⟨_, rfl, _⟩ := repV_flat_inv hb
        simp only [RepV] at ha
        obtain ⟨_, bl, o, rfl, _⟩ := ha
        have hb := fun a => run_eql_ptr (w := w) he a
        cases op <;> simp at hf <;> subst hf <;> refine ⟨rfl, _, ?_, repV_flat rfl⟩ <;> simp [eqGuard, hb]
      · obtain ⟨k, e, hd⟩ : ∃ k e, E.desc t = some (.map k e) := ⟨_, _, by assumption⟩
        have he := hE.desc_map hd
        obtain ⟨_, rfl, _⟩ := repV_flat_inv hb
        simp only [RepV] at ha
        obtain ⟨_, bl, _, rfl⟩ := ha
        have hb := fun a => run_eql_map (w := w) he a
        cases op <;> simp at hf <;> subst hf <;> refine ⟨rfl, _, ?_, repV_flat rfl⟩ <;> simp [eqGuard, hb]
      · simp at hf
  · simp at h

theorem sound_nilSlice (hE : E.Ok P) {op : BinOp} {t : TypeId} {a b : AVal} {x : Value} {out : Out} (h : aNilSlice E op t [a, b] = some out)
    (ha : RepV w R N a x []) (X Y : Operand) :
    out.eff = .keep ∧ ∃ cv, ((do eqGuard op t X Y x (.slice none 0 0); binOp op t x (.slice none 0 0)) : Sem Value).run P w = .ok cv w ∧ RepV w R N out.val cv [] := by
  simp only [aNilSlice] at h
  split at h
  · obtain ⟨e, hd⟩ : ∃ e, E.desc t = some (.slice e) := ⟨_, by assumption⟩
    have he := hE.desc_slice hd
    have key : ∀ ad l c, x = .slice (some ad) l c → notNil op = some out →
        out.eff = .keep ∧ ∃ cv, ((do eqGuard op t X Y x (.slice none 0 0); binOp op t x (.slice none 0 0)) : Sem Value).run P w = .ok cv w ∧ RepV w R N out.val cv [] := by
      intro ad l c hx h
      subst hx
      have hb := fun a => run_eql_slice (w := w) he a l c
      cases op <;> simp [notNil] at h <;> subst h <;> refine ⟨rfl, _, ?_, repV_flat rfl⟩ <;> simp [eqGuard, hb]
    split at h
    · simp only [RepV] at ha
      obtain ⟨_, bl, cap, _, rfl, _⟩ := ha
      exact key _ _ _ rfl h
    · simp only [RepV] at ha
      obtain ⟨_, ha⟩ := ha
      cases ha with
      | slice b off cap s es vs hs hlen hcap hb hcell hrep => exact key _ _ _ rfl h
    · obtain ⟨_, rfl, _⟩ := repV_flat_inv ha
      have hb := run_eql_slice (w := w) he none 0 0
      cases op <;> simp [yesNil] at h <;> subst h <;> refine ⟨rfl, _, ?_, repV_flat rfl⟩ <;> simp [eqGuard, hb]
    · simp at h
  · simp at h

theorem sound_un (hE : E.Ok P) {op : UnOp} {a : AVal} {x : Value} {out : Out} (h : aUn E op [a] = some out) (ha : RepV w R N a x []) :
    out.eff = .keep ∧ ∃ cv, (Op.unary op x).run P w = .ok cv w ∧ RepV w R N out.val cv [] := by
  unfold aUn at h
  split at h
  · rename_i b heq
    simp at heq
    subst heq
    obtain ⟨_, rfl, _⟩ := repV_flat_inv ha
    cases op <;> simp at h
    subst h
    exact ⟨rfl, _, by simp [Op.unary], repV_flat rfl⟩
  · rename_i k n heq
    simp at heq
    subst heq
    obtain ⟨_, rfl, _⟩ := repV_flat_inv ha
    cases op <;> simp [hE.std, Prims.std] at h
    subst h
    refine ⟨rfl, .int k (k.wrap (0 - n)), by simp [Op.unary, Op.intArith], ?_⟩
    simpa using repV_flat (N := N) (R := R) (w := w) (v := .int k (k.wrap (0 - n))) (isFlat_wrap _ _)
  · simp at h

theorem repCs_of_get : ∀ {vs : List Value} {cs : List Dat}, vs.length = cs.length → (∀ (j : Nat) v c, vs[j]? = some v → cs[j]? = some c → RepC w R v c) → RepCs w R vs cs
  | [], [], _, _ => trivial
  | v :: vs, c :: cs, hl, h => ⟨h 0 v c (by simp) (by simp), repCs_of_get (by simpa using hl) (fun j v c h1 h2 => h (j + 1) v c (by simpa using h1) (by simpa using h2))⟩
  | [], _ :: _, hl, _ => by simp at hl
  | _ :: _, [], hl, _ => by simp at hl

theorem byteInts_cells : ∀ {es : List Dat} {ns : List Int} {cells : List Value}, byteInts es = some ns → RepCs w R cells es → cells = ns.map (Value.int .u8) ∧ ns.length = es.length
  | [], ns, cells, h, hr => by
    simp [byteInts] at h
    subst h
    cases cells with
    | nil => exact ⟨rfl, rfl⟩
    | cons => exact hr.elim
  | d :: es, ns, cells, h, hr => by
    unfold byteInts at h
    split at h
    · simp at *
    · rename_i n r heq
      simp at heq
      obtain ⟨rfl, rfl⟩ := heq
      split at h
      · rename_i ms hms
        simp at h
        subst h
        cases cells with
        | nil => exact hr.elim
        | cons c cells =>
          obtain ⟨h1, h2⟩ := hr
          obtain ⟨e1, e2⟩ := byteInts_cells hms h2
          cases h1 with
          | flat _ => exact ⟨by rw [e1]; rfl, by simp [e2]⟩
      · simp at h
    · simp at h

theorem byteInts_flat : ∀ {es : List Dat} {ns : List Int}, byteInts es = some ns → es.flatMap Dat.cells = es ∧ ∀ d ∈ es, d.cells.length = 1
  | [], _, _ => ⟨rfl, by simp⟩
  | d :: es, ns, h => by
    unfold byteInts at h
    split at h
    · simp at *
    · rename_i n r heq
      simp at heq
      obtain ⟨rfl, rfl⟩ := heq
      split at h
      · rename_i ms hms
        obtain ⟨e1, e2⟩ := byteInts_flat hms
        refine ⟨by simp [List.flatMap_cons, e1, Dat.cells], ?_⟩
        intro x hx
        rcases List.mem_cons.1 hx with rfl | hx
        · rfl
        · exact e2 x hx
      · simp at h
    · simp at h

theorem byteInts_length : ∀ {es : List Dat} {ns : List Int}, byteInts es = some ns → ns.length = es.length
  | [], ns, h => by simp [byteInts] at h; subst h; rfl
  | d :: es, ns, h => by
    unfold byteInts at h
    split at h
    · simp at *
    · rename_i n r heq
      simp at heq
      obtain ⟨rfl, rfl⟩ := heq
      split at h
      · rename_i ms hms
        simp at h
        subst h
        simp [byteInts_length hms]
      · simp at h
    · simp at h

theorem pushInts_size (ns : List Int) : (pushInts ns).size = ns.length := by
  unfold pushInts
  have : ∀ (ns : List Int) (b : ByteArray), (ns.foldl (fun r n => r.push (UInt8.ofNat n.toNat)) b).size = b.size + ns.length := by
    intro ns
    induction ns with
    | nil => intro b; rfl
    | cons n ns ih => intro b; simp only [List.foldl_cons, ih, List.length_cons]; simp [ByteArray.size_push]; omega
  simpa using this ns ByteArray.empty

theorem run_bytes_string {v : Value} {es : List Dat} {ns : List Int} (h : RepC w R v (.slice es)) (hb : byteInts es = some ns) :
    (Conv.bytesToString v).run P w = .ok (.string (pushInts ns)) w ∧ isFlat (.string (pushInts ns)) = true := by
  have hlen : ns.length ≤ lim := by
    obtain ⟨_, e2⟩ := byteInts_flat hb
    have : ns.length = es.length := byteInts_length hb
    rw [this]
    cases h with
    | nil => simp
    | slice => assumption
  refine ⟨?_, by simp only [isFlat, pushInts_size, decide_eq_true_eq]; unfold lim at hlen; omega⟩
  obtain ⟨e1, e2⟩ := byteInts_flat hb
  cases h with
  | nil a cap =>
    simp [byteInts] at hb
    subst hb
    cases a with
    | none => simp [Conv.bytesToString, pushInts]
    | some a =>
      rw [run_bytesToString w a 0 cap [] (by simpa using run_loadCells_list (P := P) (w := w) a [] (by intro j v hj; simp at hj))]
      rfl
  | slice b off cap s es vs hs hl hcap hb' hcell hrep =>
    by_cases hne : es = []
    · subst hne
      simp [byteInts] at hb
      subst hb
      rw [List.length_nil, run_bytesToString w _ 0 cap [] (by simpa using run_loadCells_list (P := P) (w := w) _ [] (by intro j v hj; simp at hj))]
      rfl
    · have hs1 : s = 1 := by
        cases es with
        | nil => exact absurd rfl hne
        | cons d es => rw [← hl d (by simp), e2 d (by simp)]
      subst hs1
      have hcs : RepCs w R ((List.range es.length).map fun i => vs i 0) es := by
        apply repCs_of_get
        · simp
        · intro i v d hv hd
          rw [List.getElem?_map] at hv
          cases hi : (List.range es.length)[i]? with
          | none => rw [hi] at hv; simp at hv
          | some i' =>
          rw [hi] at hv
          obtain ⟨hi1, hi2⟩ := List.getElem?_eq_some_iff.1 hi
          simp at hi2 hv
          subst hi2
          subst hv
          have hd1 : d.cells[0]? = some d := by
            have hm := e2 d (List.mem_of_getElem? hd)
            have : ∀ (es : List Dat) ns, byteInts es = some ns → ∀ d ∈ es, d.cells = [d] := by
              intro es
              induction es with
              | nil => intro _ _ d hd; simp at hd
              | cons a es ih =>
                intro ns hb d hd
                unfold byteInts at hb
                split at hb
                · simp at *
                · rename_i n r heq
                  simp at heq
                  obtain ⟨rfl, rfl⟩ := heq
                  split at hb
                  · rename_i ms hms
                    rcases List.mem_cons.1 hd with rfl | hd
                    · rfl
                    · exact ih ms hms d hd
                  · simp at hb
                · simp at hb
            rw [this es ns hb d (List.mem_of_getElem? hd)]; rfl
          exact hrep i 0 d d hd hd1
      obtain ⟨e3, e4⟩ := byteInts_cells hb hcs
      have hload := run_loadCells_list (P := P) (w := w) ⟨b, off, none⟩ (ns.map (Value.int .u8)) (by
        intro j v hj
        rw [← e3, List.getElem?_map] at hj
        cases hi : (List.range es.length)[j]? with
        | none => rw [hi] at hj; simp at hj
        | some i' =>
        rw [hi] at hj
        obtain ⟨hi1, hi2⟩ := List.getElem?_eq_some_iff.1 hi
        simp at hi2 hj hi1
        subst hi2
        subst hj
        have := (hcell j 0 hi1 (by omega)).1
        simp only [Nat.mul_one, Nat.add_zero] at this
        have e : (Addr.add ⟨b, off, none⟩ j) = ⟨b, off + j, none⟩ := by
          simp only [Addr.add]
          split
          · rename_i h0; subst h0; rfl
          · rfl
        rw [e]; exact this)
      rw [run_bytesToString w _ es.length cap ns (by simpa [e4] using hload)]
      rfl

theorem sound_convert (hE : E.Ok P) {s d : TypeId} {a : AVal} {x : Value} {out : Out} (h : aConvert E s d [a] = some out) (ha : RepV w R N a x []) :
    out.eff = .keep ∧ ∃ cv, (convert s d x).run P w = .ok cv w ∧ RepV w R N out.val cv [] := by
  unfold aConvert at h
  split at h
  · rename_i k n heq
    simp at heq
    subst heq
    obtain ⟨_, rfl, _⟩ := repV_flat_inv ha
    split at h
    · rename_i k1 k2 h1 h2
      simp [hE.std, Prims.std] at h
      subst h
      exact ⟨rfl, _, by simp [convert, run_und (hE.desc_int h1), run_und (hE.desc_int h2), Conv.intToInt], repV_flat (isFlat_wrap _ _)⟩
    · simp at h
  · rename_i y heq
    simp at heq
    subst heq
    obtain ⟨_, rfl, hy⟩ := repV_flat_inv ha
    split at h
    · rename_i h1 h2
      simp at h
      subst h
      exact ⟨rfl, _, by simp [convert, run_und (hE.desc_string h1), run_und (hE.desc_string h2)], repV_flat hy⟩
    · simp at h
  · rename_i es heq
    simp at heq
    subst heq
    obtain ⟨_, hr⟩ := repV_slice_inv ha
    split at h
    · rename_i e h1 h2
      split at h
      · rename_i ns h3 h4
        simp at h
        subst h
        obtain ⟨k1, k2⟩ := run_bytes_string (P := P) hr h4
        refine ⟨rfl, _, ?_, repV_flat k2⟩
        have hx : ∃ a l c, x = .slice a l c := by cases hr with
          | nil a c => exact ⟨a, 0, c, rfl⟩
          | slice b off cap => exact ⟨_, _, _, rfl⟩
        obtain ⟨a, l, c, rfl⟩ := hx
        rw [run_convert_bytes_string w s d e a l c (hE.desc_slice h1) (hE.desc_int h3) (hE.desc_string h2)]
        exact k1
      · simp at h
    · simp at h
  · simp at h

theorem elemOf_ok (hE : E.Ok P) {t : TypeId} {i : TI} (h : elemOf E t = some i) : ∃ e, P.underlying t = some (.slice e) ∧ E.ty e = some i := by
  unfold elemOf at h
  split at h
  · rename_i e hd; exact ⟨e, hE.desc_slice hd, h⟩
  · simp at h

/-- The element of a slice that reads as data. -/
theorem repC_elem {v : Value} {es : List Dat} (h : RepC w R v (.slice es)) {i : Nat} {d : Dat} (hi : es[i]? = some d) :
    ∃ b off cap, v = .slice (some ⟨b, off, none⟩) es.length cap ∧ RepAt w R b (off + i * d.cells.length) d.cells := by
  cases h with
  | nil => simp at hi
  | slice b off cap s es vs hs hlen hcap hb hcell hrep =>
    have hd := hlen d (List.mem_of_getElem? hi)
    have hil : i < es.length := by
      rcases Nat.lt_or_ge i es.length with h' | h'
      · exact h'
      · rw [List.getElem?_eq_none h'] at hi; simp at hi
    refine ⟨b, off, cap, rfl, ?_⟩
    have key : ∀ (k : Nat) (cs : List Dat), d.cells.drop k = cs → RepAt w R b (off + i * d.cells.length + k) cs := by
      intro k cs
      induction cs generalizing k with
      | nil => intro _; trivial
      | cons c cs ih =>
        intro hk
        have hj : d.cells[k]? = some c := by
          have := List.getElem?_drop (xs := d.cells) (i := k) (j := 0)
          rw [hk] at this
          simpa using this.symm
        have hkl : k < s := by
          rw [← hd]
          rcases Nat.lt_or_ge k d.cells.length with h' | h'
          · exact h'
          · rw [List.getElem?_eq_none h'] at hj; simp at hj
        obtain ⟨h1, h2⟩ := hcell i k hil hkl
        rw [hd]
        refine ⟨⟨vs i k, h1, h2, hrep i k d c hi hj⟩, ?_⟩
        have := ih (k + 1) (by rw [← List.drop_drop, hk]; rfl)
        rw [hd] at this
        simpa [Nat.add_assoc] using this
    simpa using key 0 d.cells (by simp)

theorem sound_indexAddr (hE : E.Ok P) {t : TypeId} {a b : AVal} {x y : Value} {out : Out} (h : aIndexAddr E t [a, b] = some out) (ha : RepV w R N a x []) (hb : RepV w R N b y []) :
    out.eff = .keep ∧ ∃ cv, (Instr.indexAt t x y).run P w = .ok cv w ∧ RepV w R N out.val cv [] := by
  unfold aIndexAddr at h
  split at h
  · rename_i es k i heq
    simp at heq
    obtain ⟨rfl, rfl⟩ := heq
    obtain ⟨_, rfl, _⟩ := repV_flat_inv hb
    obtain ⟨_, hr⟩ := repV_slice_inv ha
    split at h
    · rename_i ti hel
      obtain ⟨e, hu, ht⟩ := elemOf_ok hE hel
      split at h
      · rename_i d hd0
        have hd1 : 0 ≤ i ∧ es[i.toNat]? = some d := by
          rw [hE.std] at hd0
          simp only [Prims.std] at hd0
          split at hd0
          · exact ⟨by assumption, hd0⟩
          · simp at hd0
        obtain ⟨h0, hd⟩ := hd1
        · split at h
          · rename_i hsz
            simp at h
            subst h
            obtain ⟨bl, off, cap, rfl, hat⟩ := repC_elem hr hd
            have hlt : i.toNat < es.length := by
              rcases Nat.lt_or_ge i.toNat es.length with h' | h'
              · exact h'
              · rw [List.getElem?_eq_none h'] at hd; simp at hd
            have hlt' : i < (es.length : Int) := by omega
            refine ⟨rfl, .pointer (some ⟨bl, off + i.toNat * ti.size, none⟩), ?_, ?_⟩
            · simp [Instr.indexAt, asIntOf, run_und hu, h0, hlt', hE.run_size ht, add_plain]
            · simp only [RepV]; exact ⟨trivial, bl, _, rfl, by rw [← hsz.1]; exact hat⟩
          · simp at h
      · simp at h
    · simp at h
  · rename_i n s off len k i heq
    simp at heq
    obtain ⟨rfl, rfl⟩ := heq
    obtain ⟨_, rfl, _⟩ := repV_flat_inv hb
    simp only [RepV] at ha
    obtain ⟨_, bl, cap, hN, rfl, hcap, hs0, hlt, hsz⟩ := ha
    split at h
    · rename_i ti hel
      obtain ⟨e, hu, ht⟩ := elemOf_ok hE hel
      split at h
      · rename_i j _
        split at h
        · rename_i hc
          simp only [Bool.and_eq_true, Nat.blt_eq, Nat.beq_eq] at hc
          obtain ⟨hj, rfl⟩ := hc
          simp at h
          subst h
          refine ⟨rfl, .pointer (some ⟨bl, off + j * ti.size, none⟩), ?_, ?_⟩
          · have h0 : (0 : Int) ≤ (j : Int) := Int.natCast_nonneg j
            have hlt' : (j : Int) < (len : Int) := by omega
            simp [Instr.indexAt, asIntOf, run_und hu, h0, hlt', hE.run_size ht, add_plain]
            omega
          · simp only [RepV]; exact ⟨trivial, bl, hN, rfl⟩
        · simp at h
      · simp at h
    · simp at h
  · rename_i n off k i heq
    simp at heq
    obtain ⟨rfl, rfl⟩ := heq
    obtain ⟨_, rfl, _⟩ := repV_flat_inv hb
    simp only [RepV] at ha
    obtain ⟨_, bl, hN, rfl⟩ := ha
    split at h
    · rename_i len e hd
      have hu := hE.desc_array hd
      split at h
      · rename_i ti j ht _
        split at h
        · rename_i hj
          rw [Nat.blt_eq] at hj
          simp at h
          subst h
          refine ⟨rfl, .pointer (some ⟨bl, off + j * ti.size, none⟩), ?_, ?_⟩
          · have h0 : (0 : Int) ≤ (j : Int) := Int.natCast_nonneg j
            have hlt' : (j : Int) < (len : Int) := by omega
            simp [Instr.indexAt, asIntOf, run_und hu, h0, hlt', hE.run_size ht, add_plain, Instr.sureAddr]
            intro hx; omega
          · simp only [RepV]; exact ⟨trivial, bl, hN, rfl⟩
        · simp at h
      · simp at h
    · simp at h
  · simp at h

theorem sound_index (hE : E.Ok P) {t : TypeId} {a b : AVal} {x y : Value} {out : Out} (h : aIndex E t [a, b] = some out) (ha : RepV w R N a x []) (hb : RepV w R N b y []) :
    out.eff = .keep ∧ ∃ cv, (Instr.index t x y).run P w = .ok cv w ∧ RepV w R N out.val cv [] := by
  unfold aIndex at h
  split at h
  · rename_i s k i heq
    simp at heq
    obtain ⟨rfl, rfl⟩ := heq
    obtain ⟨_, rfl, _⟩ := repV_flat_inv hb
    obtain ⟨_, rfl, _⟩ := repV_flat_inv ha
    split at h
    · rename_i hd
      split at h
      · rename_i by_ hby0
        have hby1 : 0 ≤ i ∧ s[i.toNat]? = some by_ := by
          rw [hE.std] at hby0
          simp only [Prims.std] at hby0
          split at hby0
          · exact ⟨by assumption, hby0⟩
          · simp at hby0
        obtain ⟨h0, hby⟩ := hby1
        · simp at h
          subst h
          exact ⟨rfl, _, by simp [Instr.index, asIntOf, run_und (hE.desc_string hd), h0, hby], repV_flat (isFlat_int.2 (by have := by_.toNat_lt; simp [IntKind.min, IntKind.max, IntKind.bits, IntKind.signed]; omega))⟩
      · simp at h
    · simp at h
  · simp at h

theorem repVs_get : ∀ {as : List AVal} {vs : List Value} {bs : List Nat} {i : Nat} {a : AVal}, RepVs w R N as vs bs → as[i]? = some a →
    ∃ v b', vs[i]? = some v ∧ RepV w R N a v b' ∧ b'.Sublist bs
  | [], _, _, _, _, _, h => by simp at h
  | x :: as, vs, bs, 0, a, h, hi => by
    obtain ⟨v, vs', b1, b2, rfl, rfl, h1, h2⟩ := repVs_cons_inv h
    simp at hi; subst hi
    exact ⟨v, b1, by simp, h1, List.sublist_append_left ..⟩
  | x :: as, vs, bs, i + 1, a, h, hi => by
    obtain ⟨v, vs', b1, b2, rfl, rfl, h1, h2⟩ := repVs_cons_inv h
    simp at hi
    obtain ⟨u, b', e1, e2, e3⟩ := repVs_get h2 hi
    exact ⟨u, b', by simpa using e1, e2, e3.trans (List.sublist_append_right ..)⟩

theorem sound_extract {i : Nat} {a : AVal} {x : Value} {bs : List Nat} {out : Out} (h : aExtract i [a] = some out) (ha : RepV w R N a x bs) :
    out.eff = .keep ∧ ∃ cv b', (Instr.extract x i).run P w = .ok cv w ∧ RepV w R N out.val cv b' ∧ b'.Sublist bs := by
  unfold aExtract at h
  split at h
  · rename_i vs heq
    simp at heq
    subst heq
    simp only [RepV] at ha
    obtain ⟨us, rfl, hr⟩ := ha
    split at h
    · rename_i v hv
      simp at h
      subst h
      obtain ⟨u, b', e1, e2, e3⟩ := repVs_get hr hv
      exact ⟨rfl, u, b', by simp [Instr.extract, e1], e2, e3⟩
    · simp at h
  · simp at h

theorem repVs_takeL : ∀ {as : List AVal} {vs : List Value} (k : Nat), RepVs w R N as vs [] → RepVs w R N (takeL k as) (vs.take k) [] ∧ RepVs w R N (dropL k as) (vs.drop k) []
  | as, vs, 0, h => by simpa [takeL, dropL] using ⟨repVs_nil, h⟩
  | [], _, k + 1, h => by obtain ⟨rfl, _⟩ := repVs_nil_inv h; simpa [takeL, dropL] using repVs_nil
  | a :: as, vs, k + 1, h => by
    obtain ⟨v, vs', b1, b2, rfl, hb, h1, h2⟩ := repVs_cons_inv h
    obtain ⟨rfl, rfl⟩ := List.append_eq_nil_iff.1 hb.symm
    obtain ⟨e1, e2⟩ := repVs_takeL k h2
    exact ⟨by simpa [takeL] using repVs_cons h1 e1, by simpa [dropL] using e2⟩

theorem sound_makeFunc {f : Fn} {vals : List AVal} {xs ys : List Value} {out : Out} (h : aMakeFunc f xs.length vals = some out) (hr : RepVs w R N vals (xs ++ ys) []) :
    out.eff = .keep ∧ ∃ cv, (Instr.makeFunc f xs.toArray ys.toArray).run P w = .ok cv w ∧ RepV w R N out.val cv [] := by
  simp [aMakeFunc] at h
  subst h
  obtain ⟨h1, h2⟩ := repVs_takeL xs.length hr
  simp at h1 h2
  refine ⟨rfl, _, rfl, ?_⟩
  simp only [RepV]
  exact ⟨trivial, xs, ys, rfl, h1, h2⟩

theorem sound_max (hE : E.Ok P) {a b : AVal} {x y : Value} {out : Out} (h : aMax E [a, b] = some out) (ha : RepV w R N a x []) (hb : RepV w R N b y []) (ats : Array TypeId) (ty : TypeId) :
    out.eff = .keep ∧ ∃ cv, (Builtin.max_ ats ty #[x, y]).run P w = .ok cv w ∧ RepV w R N out.val cv [] := by
  unfold aMax at h
  split at h
  · rename_i k m k' n heq
    simp at heq
    obtain ⟨rfl, rfl⟩ := heq
    obtain ⟨_, rfl, hy⟩ := repV_flat_inv hb
    obtain ⟨_, rfl, hx⟩ := repV_flat_inv ha
    split at h
    · rename_i hk
      simp [hE.std, Prims.std] at h
      subst h
      subst hk
      exact ⟨rfl, _, by simp [Builtin.max_, Builtin.max2], repV_flat (by split <;> assumption)⟩
    · simp at h
  · simp at h

theorem sound_min (hE : E.Ok P) {a b : AVal} {x y : Value} {out : Out} (h : aMin E [a, b] = some out) (ha : RepV w R N a x []) (hb : RepV w R N b y []) (ats : Array TypeId) (ty : TypeId) :
    out.eff = .keep ∧ ∃ cv, (Builtin.min_ ats ty #[x, y]).run P w = .ok cv w ∧ RepV w R N out.val cv [] := by
  unfold aMin at h
  split at h
  · rename_i k m k' n heq
    simp at heq
    obtain ⟨rfl, rfl⟩ := heq
    obtain ⟨_, rfl, hy⟩ := repV_flat_inv hb
    obtain ⟨_, rfl, hx⟩ := repV_flat_inv ha
    split at h
    · rename_i hk
      simp [hE.std, Prims.std] at h
      subst h
      subst hk
      exact ⟨rfl, _, by simp [Builtin.min_, Builtin.min2], repV_flat (by split <;> assumption)⟩
    · simp at h
  · simp at h
end
end Go.Tp
