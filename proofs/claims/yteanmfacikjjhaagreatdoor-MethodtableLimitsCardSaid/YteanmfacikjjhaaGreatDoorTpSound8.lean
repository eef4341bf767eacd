/- The generic layer: slice literals and append. -/
import Derived.Test.YteanmfacikjjhaaGreatDoorTpSound7
import Derived.Great.BuildSlice
import Derived.Laws.AppendOwn
import Derived.Deep.AppendSrc
namespace Go.Tp

section
variable {P : Program} {E : TEnv} {w : World} {R : Own} {N : Name → Option Nat}

/-! #### Rows of cells -/

theorem repCs_append : ∀ {vs us : List Value} {cs ds : List Dat}, RepCs w R vs cs → RepCs w R us ds → RepCs w R (vs ++ us) (cs ++ ds)
  | [], _, [], _, _, h => h
  | _ :: _, _, _ :: _, _, h, k => ⟨h.1, repCs_append h.2 k⟩
  | [], _, _ :: _, _, h, _ => h.elim
  | _ :: _, _, [], _, h, _ => h.elim

theorem repCs_get : ∀ {vs : List Value} {cs : List Dat} {j : Nat} {c : Dat}, RepCs w R vs cs → cs[j]? = some c → ∃ v, vs[j]? = some v ∧ RepC w R v c
  | [], [], _, _, _, h => by simp at h
  | v :: _, c :: _, 0, _, h, hj => by simp at hj; subst hj; exact ⟨v, by simp, h.1⟩
  | _ :: _, _ :: _, j + 1, _, h, hj => by simp at hj; simpa using repCs_get h.2 hj
  | [], _ :: _, _, _, h, _ => h.elim
  | _ :: _, [], _, _, h, _ => h.elim

theorem flat_range {α : Type} {s : Nat} (hs : 0 < s) (f : Nat → List α) (hf : ∀ i, (f i).length = s) : ∀ (n i0 k : Nat),
    ((List.range' i0 n).flatMap f)[k]? = if k < n * s then (f (i0 + k / s))[k % s]? else none
  | 0, i0, k => by simp
  | n + 1, i0, k => by
    simp only [List.range'_succ, List.flatMap_cons]
    by_cases hk : k < s
    · rw [List.getElem?_append_left (by rw [hf]; exact hk), Nat.div_eq_of_lt hk, Nat.mod_eq_of_lt hk, if_pos (by rw [Nat.add_mul, Nat.one_mul]; omega), Nat.add_zero]
    · have ih := flat_range hs f hf n (i0 + 1) (k - s)
      rw [List.getElem?_append_right (by rw [hf]; omega), hf, ih]
      have hd : k / s = (k - s) / s + 1 := by rw [← Nat.add_div_right _ hs, Nat.sub_add_cancel (by omega)]
      have hm : k % s = (k - s) % s := by rw [← Nat.add_mod_right (k - s) s, Nat.sub_add_cancel (by omega)]
      rw [hd, hm, show i0 + 1 + (k - s) / s = i0 + ((k - s) / s + 1) by omega]
      by_cases h2 : k - s < n * s
      · rw [if_pos h2, if_pos (by rw [Nat.add_mul, Nat.one_mul]; omega)]
      · rw [if_neg h2, if_neg (by rw [Nat.add_mul, Nat.one_mul]; omega)]

theorem flat_length {s : Nat} : ∀ {es : List Dat}, (∀ d ∈ es, d.cells.length = s) → (es.flatMap Dat.cells).length = es.length * s
  | [], _ => by simp
  | e :: es, h => by
    have := flat_length (es := es) (fun d hd => h d (List.mem_cons_of_mem _ hd))
    simp only [List.flatMap_cons, List.length_append, this, h e List.mem_cons_self, List.length_cons, Nat.add_mul, Nat.one_mul]
    omega

theorem flat_get {s : Nat} (hs : 0 < s) : ∀ {es : List Dat}, (∀ d ∈ es, d.cells.length = s) → ∀ i j e, es[i]? = some e → j < s → (es.flatMap Dat.cells)[i * s + j]? = e.cells[j]?
  | [], _, i, j, e, h, _ => by simp at h
  | d :: es, h, 0, j, e, he, hj => by
    simp at he
    subst he
    simp only [List.flatMap_cons, Nat.zero_mul, Nat.zero_add]
    rw [List.getElem?_append_left (by rw [h d List.mem_cons_self]; exact hj)]
  | d :: es, h, i + 1, j, e, he, hj => by
    simp at he
    have := flat_get hs (es := es) (fun d hd => h d (List.mem_cons_of_mem _ hd)) i j e he hj
    simp only [List.flatMap_cons]
    rw [List.getElem?_append_right (by rw [h d List.mem_cons_self, Nat.add_mul]; omega), h d List.mem_cons_self, ← this]
    congr 1
    rw [Nat.add_mul]
    omega

/-- The cells of a slice that reads as data, one behind the other. -/
theorem repC_flat {v : Value} {es : List Dat} (h : RepC w R v (.slice es)) (hne : es ≠ []) {s : Nat} (hs : ∀ d ∈ es, d.cells.length = s) :
    ∃ b off cap cells, v = .slice (some ⟨b, off, none⟩) es.length cap ∧ es.length ≤ cap ∧ RepCs w R cells (es.flatMap Dat.cells) ∧ ∀ (j : Nat) u, cells[j]? = some u → w.cell? ⟨b, off + j, none⟩ = some u ∧ ¬ R b (off + j) := by
  cases h with
  | nil => exact absurd rfl hne
  | slice b off cap s' es vs hs0 hlen hcap hb hcell hrep =>
    obtain rfl : s' = s := by
      cases es with
      | nil => exact absurd rfl hne
      | cons e es => rw [← hlen e (by simp), hs e (by simp)]
    have hfl : ∀ i, ((List.range s').map (vs i)).length = s' := by simp
    refine ⟨b, off, cap, (List.range' 0 es.length).flatMap (fun i => (List.range s').map (vs i)), rfl, hcap, ?_, ?_⟩
    · apply repCs_of_get
      · rw [flat_length hlen]
        clear hcell hrep hb hcap hs hne
        induction es.length with
        | zero => simp
        | succ n ih => rw [List.range'_concat, List.flatMap_append, List.length_append, ih]; simp [Nat.add_mul]
      · intro k v c hv hc
        rw [flat_range hs0 _ hfl] at hv
        split at hv
        · rename_i hk
          have hi : k / s' < es.length := (Nat.div_lt_iff_lt_mul hs0).2 hk
          have hj : k % s' < s' := Nat.mod_lt _ hs0
          simp [hj] at hv
          subst hv
          have he : es[k / s']? = some es[k / s'] := by simp [hi]
          have := flat_get hs0 hlen (k / s') (k % s') _ he hj
          rw [Nat.div_add_mod' k s'] at this
          rw [this] at hc
          exact hrep _ _ _ _ he hc
        · simp at hv
    · intro k u hu
      rw [flat_range hs0 _ hfl] at hu
      split at hu
      · rename_i hk
        have hi : k / s' < es.length := (Nat.div_lt_iff_lt_mul hs0).2 hk
        have hj : k % s' < s' := Nat.mod_lt _ hs0
        simp [hj] at hu
        subst hu
        have := hcell (k / s') (k % s') hi hj
        rw [Nat.add_assoc, Nat.div_add_mod' k s'] at this
        exact this
      · simp at hu

/-- A row whose first cells read as the elements' cells. -/
theorem repC_row {b cap s : Nat} {arr : Array Value} {t : TypeId} {fz : Nat × Nat} (hb : w.heap[b]? = some (.cells arr t fz)) {es : List Dat} (hs0 : 0 < s) (hs : ∀ d ∈ es, d.cells.length = s)
    {cells : List Value} (hr : RepCs w R cells (es.flatMap Dat.cells)) (hpre : ∀ (j : Nat) u, cells[j]? = some u → arr[j]? = some u) (hR : ∀ j, j < es.length * s → ¬ R b j) (hcap : es.length ≤ cap) (hlim : es.length ≤ lim) :
    RepC w R (.slice (some ⟨b, 0, none⟩) es.length cap) (.slice es) := by
  have hl := repCs_length hr
  rw [flat_length hs] at hl
  refine .slice b 0 cap s es (fun i j => (cells[i * s + j]?).getD undef) hs0 hs hcap hlim (fun i j hi hj => ?_) (fun i j e c he hc => ?_)
  · have hlt : i * s + j < es.length * s := by
      have : (i + 1) * s ≤ es.length * s := Nat.mul_le_mul_right _ hi
      rw [Nat.add_mul, Nat.one_mul] at this
      omega
    rw [Nat.zero_add]
    refine ⟨?_, hR _ hlt⟩
    rw [cell_of_row w b (i * s + j) arr t fz hb]
    have : (i * s + j) < cells.length := by omega
    have hg : cells[i * s + j]? = some cells[i * s + j] := by simp [this]
    rw [hpre _ _ hg, hg]
    rfl
  · have hj : j < s := by
      rw [← hs e (List.mem_of_getElem? he)]
      rcases Nat.lt_or_ge j e.cells.length with h' | h'
      · exact h'
      · rw [List.getElem?_eq_none h'] at hc; simp at hc
    have := flat_get hs0 hs i j e he hj
    rw [hc] at this
    obtain ⟨v, hv, hrv⟩ := repCs_get hr this
    simpa [hv] using hrv

/-! #### New blocks -/

theorem step_alloc (o : Obj) {R' : Own} (h : ∀ b off, b < w.heap.size → (R' b off ↔ R b off)) : Step w R (w.alloc o) R' where
  os := rfl
  tape := rfl
  output := rfl
  size := by simp
  block b hb hR := ⟨heap_alloc_old w o b hb, fun off h' => hR off ((h b off hb).1 h')⟩
  cell b off hb hR := ⟨fun h' => hR ((h b off hb).1 h'), World.cell?_of_block (a := ⟨b, off, none⟩) (heap_alloc_old w o b hb)⟩
  sizes b hb := rowSize_same (heap_alloc_old w o b hb)

theorem keep_alloc (o : Obj) {R' : Own} (h : ∀ b off, b < w.heap.size → (R' b off ↔ R b off)) (bs : List Nat) : Keep w R (w.alloc o) R' bs :=
  ⟨step_alloc o h, fun b _ hb => ⟨heap_alloc_old w o b hb, fun off hr => (h b off hb).2 hr⟩⟩

/-- The writable cells, a new block with none of its own. -/
def Own.cut (R : Own) (n : Nat) : Own := fun b off => b ≠ n ∧ R b off

/-- .. or those behind its last cell alone. -/
def Own.cutG (R : Own) (n k : Nat) : Own := fun b off => (b ≠ n ∧ R b off) ∨ (b = n ∧ k ≤ off)

theorem Own.cutG_iff {R : Own} {n k b off : Nat} (hb : b < n) : (R.cutG n k b off ↔ R b off) := ⟨fun h => by rcases h with h | h; exact h.2; exact absurd h.1 (by omega), fun h => .inl ⟨by omega, h⟩⟩

theorem Own.cut_iff {R : Own} {n b off : Nat} (hb : b < n) : (R.cut n b off ↔ R b off) := ⟨fun h => h.2, fun h => ⟨by omega, h⟩⟩

theorem byteOk_spec (hE : E.Ok P) {t e : TypeId} (hu : P.underlying t = some (.slice e)) {es : List Dat} (h : byteOk E t es = true) (hb : isBytes es = true) : e = byteId := by
  unfold byteOk at h
  rw [hb] at h
  dsimp only at h
  split at h
  · rename_i e' hd
    have := hE.desc_slice hd
    rw [hu] at this
    simp at this
    rw [this]
    exact Nat.eq_of_beq_eq_true h
  · simp at h

def isS : AVal → Bool
  | .own _ => true
  | .dat (.slice _) => true
  | .dat (.flat (.slice none 0 0)) => true
  | _ => false

theorem bldSh_iff {cs : List AVal} : bldSh cs = true ↔ ∃ p q, cs = [p, q] ∧ isP p = true ∧ isS q = true := by
  constructor
  · intro h
    unfold bldSh at h
    split at h
    · exact ⟨_, _, rfl, h, rfl⟩
    · exact ⟨_, _, rfl, h, rfl⟩
    · exact ⟨_, _, rfl, h, rfl⟩
    · simp at h
  · rintro ⟨p, q, rfl, h, hq⟩
    unfold isS at hq
    split at hq
    · exact h
    · exact h
    · exact h
    · simp at hq

theorem isBytes_left {es ds : List Dat} (h : isBytes (es ++ ds) = true) (hne : es ≠ []) : isBytes es = true := by
  cases es with
  | nil => exact absurd rfl hne
  | cons d es =>
    simp only [List.cons_append] at h
    unfold isBytes at h ⊢
    split at h
    · rename_i heq; simp at heq; obtain ⟨rfl, _⟩ := heq; rfl
    · simp at h

theorem own_new {b cap s : Nat} {w' : World} {R' : Own} {arr : Array Value} {t : TypeId} (hb : w'.heap[b]? = some (.cells arr t (0, 0))) {es : List Dat} (hs0 : 0 < s) (hs : ∀ d ∈ es, d.cells.length = s)
    {cells : List Value} (hr : RepCs w' R' cells (es.flatMap Dat.cells)) (hpre : ∀ (j : Nat) u, cells[j]? = some u → arr[j]? = some u) (hR : ∀ j, j < es.length * s → ¬ R' b j)
    (hR' : ∀ j, es.length * s ≤ j → j < cap * s ∨ arr.size ≤ j → R' b j) (hcap : es.length ≤ cap) (he : es = [] → cap = 0) (hin : cap * s ≤ arr.size) (hlim : es.length ≤ lim) (hty : isBytes es = true → t = byteId) :
    RepV w' R' N (.own es) (.slice (some ⟨b, 0, none⟩) es.length cap) [b] := by
  simp only [RepV]
  exact .row b cap s es arr t hb hs0 hs hcap he hin (repC_row hb hs0 hs hr hpre hR hcap hlim) (fun x h1 h2 => hR' x h1 h2) hty

theorem sliceParts_vals {size : Nat} : ∀ {k : Nat} {ps : List Nat} {vals : List AVal} {vs : List Value} {ds : List Dat}, ps.length = vals.length → RepVs w R N vals vs [] → sliceParts size k (ps.zip vals) = some ds →
    ps = List.range' k vs.length ∧ RepCs w R (vs.flatMap fun v => v.cells.toList) (ds.flatMap Dat.cells) ∧ (∀ d ∈ ds, d.cells.length = size) ∧ (∀ v ∈ vs, v.cells.size = size) ∧ ds.length = vs.length
  | k, [], vals, vs, ds, hl, hr, h => by
    have : vals = [] := List.eq_nil_of_length_eq_zero (by simpa using hl.symm)
    subst this
    obtain ⟨rfl, _⟩ := repVs_nil_inv hr
    simp [sliceParts] at h
    subst h
    exact ⟨rfl, trivial, by simp, by simp, rfl⟩
  | k, p :: ps, [], vs, ds, hl, hr, h => by simp at hl
  | k, p :: ps, a :: vals, vs, ds, hl, hr, h => by
    obtain ⟨v, vs', b1, b2, rfl, e2, h1, h2⟩ := repVs_cons_inv hr
    obtain ⟨rfl, rfl⟩ := List.append_eq_nil_iff.1 e2.symm
    simp only [List.zip_cons_cons, sliceParts] at h
    split at h
    · rename_i hp
      subst hp
      split at h
      · rename_i d hd
        split at h
        · rename_i hsz
          split at h
          · rename_i ds' hds
            simp at h
            subst h
            obtain ⟨f1, f2, f3, f4, f5⟩ := sliceParts_vals (by simpa using hl) h2 hds
            have hrd := asDat_rep h1 hd
            have hcs := repD_cells hrd
            refine ⟨by simp [f1, List.range'_succ], ?_, ?_, ?_, by simp [f5]⟩
            · simpa using repCs_append hcs f2
            · intro x hx; rcases List.mem_cons.1 hx with rfl | hx
              · exact hsz
              · exact f3 x hx
            · intro x hx; rcases List.mem_cons.1 hx with rfl | hx
              · have := repCs_length hcs; simp at this; omega
              · exact f4 x hx
          · simp at h
        · simp at h
      · simp at h
    · simp at h

theorem sound_buildSlice (hE : E.Ok P) {t : TypeId} {len : Nat} {ps : Array (Nat × Operand)} {ρ : Operand → Value} {vals : List AVal} {out : Out} (h : aBuildSlice E t len ps.toList vals = some out)
    (hr : RepVs w R N vals ((ps.toList.map (·.2)).map ρ) []) (bs : List Nat) :
    out.eff = .keep ∧ ∃ cv w' R', (Instr.buildSlice t len (ps.map fun (i, x) => (i, ρ x))).run P w = .ok cv w' ∧ Keep w R w' R' bs ∧ RepV w' R' N out.val cv [w.heap.size] := by
  unfold aBuildSlice at h
  split at h
  · rename_i i hel
    obtain ⟨e, hu, hty⟩ := elemOf_ok hE hel
    split at h
    · rename_i hc
      obtain ⟨hs0, hsm, hvl⟩ := hc
      split at h
      · rename_i ds hds
        split at h
        · rename_i hdl0
          obtain ⟨hdl, hbo⟩ := hdl0
          simp at h
          subst h
          refine ⟨rfl, ?_⟩
          obtain ⟨⟨ie, k1, k2, k3, k4, k5⟩, _⟩ := hE.ty e i hty
          have hlen := hr.length
          unfold parts at hds
          obtain ⟨f1, f2, f3, f4, f5⟩ := sliceParts_vals (by rw [List.length_map]; exact hvl.symm) hr hds
          generalize hvs : (ps.toList.map (·.2)).map ρ = vs at *
          have hst : ∀ b off, b < w.heap.size → (R.cut w.heap.size b off ↔ R b off) := fun b off hb => Own.cut_iff hb
          have hcps : (ps.map fun (i, x) => (i, ρ x)).toList = (vs.zipIdx 0).map fun x => (x.2, x.1) := by
            apply List.ext_getElem?
            intro k
            have g1 : (ps.toList.map (·.1))[k]? = (List.range' 0 vs.length)[k]? := by rw [f1]
            have g2 : ((ps.toList.map (·.2)).map ρ)[k]? = vs[k]? := by rw [hvs]
            simp only [Array.toList_map, List.getElem?_map, List.getElem?_zipIdx] at g1 g2 ⊢
            cases hk : ps.toList[k]? with
            | none =>
              rw [hk] at g2
              simp at g2
              have : vs[k]? = none := by simpa using g2
              simp [this]
            | some q =>
              rw [hk] at g1 g2
              simp at g1 g2
              have hkl : k < vs.length := by
                rcases Nat.lt_or_ge k vs.length with h' | h'
                · exact h'
                · rw [List.getElem?_eq_none h'] at g2; simp at g2
              rw [List.getElem?_range' hkl] at g1
              simp at g1
              rw [← g2]
              simp [g1]
          by_cases h0 : len = 0
          · subst h0
            have hv0 : vs = [] := List.eq_nil_of_length_eq_zero (by omega)
            have hd0 : ds = [] := List.eq_nil_of_length_eq_zero hdl
            subst hv0
            subst hd0
            refine ⟨.slice (some ⟨w.heap.size, 0, none⟩) 0 0, w.alloc (.cells #[] e), R.cutG w.heap.size 0, ?_, keep_alloc _ (fun b off hb => Own.cutG_iff hb) bs, ?_⟩
            · have hp : ps = #[] := by simpa using hvs
              subst hp
              have hr0 : Array.range 0 = #[] := by apply Array.eq_empty_of_size_eq_zero; simp
              simp [Instr.buildSlice, run_und hu, hE.run_size hty, Instr.fill, newRow, hr0]
            · exact own_new (es := []) (cells := []) (s := i.size) (heap_alloc_new w _) hs0 (by simp) trivial (by simp) (by simp) (fun j _ _ => .inr ⟨rfl, Nat.zero_le _⟩) (by simp) (by simp) (by simp) (by simp) (by simp [isBytes])
          · have hzs : ∃ z, ie.zero = some z := ⟨_, k4⟩
            have hfill := Great.fill_whole (s := i.size) hs0 vs ((Array.range (len * ie.size)).map (i.zero.cells[· % i.zero.cells.size]!)) f4 (by rw [k2]; simp; rw [← f5, hdl])
            have hrun := run_buildSlice w t e len (ps.map fun (i, x) => (i, ρ x)) _ ie i.zero hu k1 k4 (by rw [k2]; omega) (by rw [k2]; exact Nat.mul_ne_zero h0 (by omega)) (by rw [hcps, k2]; rw [k2] at hfill; exact hfill)
            have hcl := repCs_length f2
            rw [flat_length f3] at hcl
            have hstG : ∀ b off, b < w.heap.size → (R.cutG w.heap.size (ds.length * i.size) b off ↔ R b off) := fun b off hb => Own.cutG_iff hb
            refine ⟨_, _, R.cutG w.heap.size (ds.length * i.size), hrun, keep_alloc _ hstG bs, ?_⟩
            rw [← hdl]
            have hstep : Step w R (w.alloc (.cells (vs.flatMap fun v => v.cells.toList).toArray e)) (R.cutG w.heap.size (ds.length * i.size)) := step_alloc _ hstG
            refine own_new (s := i.size) (heap_alloc_new w _) hs0 f3 (f2.step hstep) (by simp) (fun j hj h' => by rcases h' with h' | h'; exact h'.1 rfl; omega) (fun j h1 h2 => .inr ⟨rfl, h1⟩) (Nat.le_refl _) (fun hh => by rw [hh]; rfl) (by simp [hcl]) ?_ (byteOk_spec hE hu hbo)
            unfold lim
            have : len * 1 ≤ len * i.size := Nat.mul_le_mul_left _ hs0
            omega
        · simp at h
      · simp at h
    · simp at h
  · simp at h

theorem sound_buildRow (hE : E.Ok P) {t : TypeId} {len : Nat} {ps : Array (Nat × Operand)} {ρ : Operand → Value} {vals : List AVal} {out : Out} (h : aBuildRow E t len ps.toList vals = some out)
    (hr : RepVs w R N vals ((ps.toList.map (·.2)).map ρ) []) (bs : List Nat) :
    ∃ o' s w' R', out = ⟨.undef, match Nat.beq len 1 with | true => .row o' s len | false => .grow o' s len⟩ ∧ (Instr.buildSlice t len (ps.map fun (i, x) => (i, ρ x))).run P w = .ok (.slice (some ⟨w.heap.size, 0, none⟩) len len) w' ∧ Keep w R w' R' bs ∧ RepObj w' R' N o' w.heap.size [] ∧
      0 < s ∧ w.heap.size < w'.heap.size ∧ len * s = rowSize w' w.heap.size := by
  unfold aBuildRow at h
  split at h
  · rename_i i hel
    obtain ⟨e, hu, hty⟩ := elemOf_ok hE hel
    split at h
    · rename_i hc
      obtain ⟨hs0, h0', hsm, hvl⟩ := hc
      split at h
      · rename_i ds hds
        split at h
        · rename_i hdl0
          obtain ⟨hdl, hbl⟩ := hdl0
          simp at h
          subst h
          obtain ⟨⟨ie, k1, k2, k3, k4, k5⟩, _⟩ := hE.ty e i hty
          have hlen := hr.length
          unfold parts at hds
          obtain ⟨f1, f2, f3, f4, f5⟩ := sliceParts_vals (by rw [List.length_map]; exact hvl.symm) hr hds
          generalize hvs : (ps.toList.map (·.2)).map ρ = vs at *
          have hcps : (ps.map fun (i, x) => (i, ρ x)).toList = (vs.zipIdx 0).map fun x => (x.2, x.1) := by
            apply List.ext_getElem?
            intro k
            have g1 : (ps.toList.map (·.1))[k]? = (List.range' 0 vs.length)[k]? := by rw [f1]
            have g2 : ((ps.toList.map (·.2)).map ρ)[k]? = vs[k]? := by rw [hvs]
            simp only [Array.toList_map, List.getElem?_map, List.getElem?_zipIdx] at g1 g2 ⊢
            cases hk : ps.toList[k]? with
            | none =>
              rw [hk] at g2
              simp at g2
              have : vs[k]? = none := by simpa using g2
              simp [this]
            | some q =>
              rw [hk] at g1 g2
              simp at g1 g2
              have hkl : k < vs.length := by
                rcases Nat.lt_or_ge k vs.length with h' | h'
                · exact h'
                · rw [List.getElem?_eq_none h'] at g2; simp at g2
              rw [List.getElem?_range' hkl] at g1
              simp at g1
              rw [← g2]
              simp [g1]
          have h0 : len ≠ 0 := by omega
          have hfill := Great.fill_whole (s := i.size) hs0 vs ((Array.range (len * ie.size)).map (i.zero.cells[· % i.zero.cells.size]!)) f4 (by rw [k2]; simp; rw [← f5, hdl])
          have hrun := run_buildSlice w t e len (ps.map fun (i, x) => (i, ρ x)) _ ie i.zero hu k1 k4 (by rw [k2]; omega) (by rw [k2]; exact Nat.mul_ne_zero h0 (by omega)) (by rw [hcps, k2]; rw [k2] at hfill; exact hfill)
          let R' : Own := fun b off => b = w.heap.size ∨ R b off
          have hst : ∀ b off, b < w.heap.size → (R' b off ↔ R b off) := fun b off hb => ⟨fun h => by rcases h with h | h; exact absurd h (by omega); exact h, fun h => .inr h⟩
          have hk := fun bs => keep_alloc (w := w) (R := R) (.cells (vs.flatMap fun v => v.cells.toList).toArray e) hst bs
          have hh : (w.alloc (.cells (vs.flatMap fun v => v.cells.toList).toArray e)).heap[w.heap.size]? = some (.cells (vs.flatMap fun v => v.cells.toList).toArray e (0, 0)) := heap_alloc_new w _
          have hcl := repCs_length f2
          rw [flat_length f3] at hcl
          refine ⟨_, _, _, R', rfl, hrun, hk bs, ⟨_, e, 0, hh, ?_, fun j _ => .inl rfl, fun hb => by rw [hbl] at hb; simp at hb⟩, hs0, lt_of_heap hh, ?_⟩
          · have := (repVs_dats (N := N) f2).keep (hk [])
            simpa using this
          · rw [rowSize_of hh]; simp only [List.size_toArray]; rw [hcl, hdl]
        · simp at h
      · simp at h
    · simp at h
  · simp at h

/-! #### Append -/

theorem run_storeRow (g off : Nat) (e : TypeId) (news : List Value) (cur : Array Value) (hg : w.heap[g]? = some (.cells cur e (0, 0))) (hfit : off + news.length ≤ cur.size) (h1 : ∀ u ∈ news, u.oneCell' = true) :
    (storeCells ⟨g, off, none⟩ news).run P w = .ok () (w.setRow g (cur.toList.take off ++ news ++ cur.toList.drop (off + news.length)).toArray) := by
  have hst := run_storeCells_at P g off e news 0 cur w hg (by simpa using hfit) h1
  simpa using hst

theorem step_setRow {g : Nat} {cur : Array Value} {t : TypeId} (hg : w.heap[g]? = some (.cells cur t (0, 0))) (arr : Array Value) (hsz : arr.size = cur.size) {R' : Own}
    (hR : ∀ b off, R' b off → R b off) (hR2 : ∀ b off, b ≠ g → (R b off → R' b off)) (hc : ∀ off, ¬ R g off → arr[off]? = cur[off]?) (hown : ∃ off, R g off) (bs : List Nat) (hb : g ∉ bs) :
    Keep w R (w.setRow g arr) R' bs where
  step :=
    { os := rfl
      tape := rfl
      output := rfl
      size := by simp
      block := fun b hb hnR => by
        have hne : b ≠ g := fun e => by obtain ⟨o, ho⟩ := hown; exact hnR o (e ▸ ho)
        exact ⟨setRow_other w g b _ hne, fun off h' => hnR off (hR _ _ h')⟩
      cell := fun b off hb hnR => by
        refine ⟨fun h' => hnR (hR _ _ h'), ?_⟩
        by_cases hne : b = g
        · subst hne
          rw [cell_of_row _ b off arr t (0, 0) (setRow_heap w b cur _ t _ hg), cell_of_row w b off cur t (0, 0) hg]
          exact hc off hnR
        · exact World.cell?_of_block (a := ⟨b, off, none⟩) (setRow_other w g b _ hne)
      sizes := fun b _ => by
        by_cases hne : b = g
        · subst hne
          rw [rowSize_of (setRow_heap w b cur _ t _ hg), rowSize_of hg, hsz]
        · exact rowSize_same (setRow_other w g b _ hne) }
  same := fun b hbs _ => by
    have hne : b ≠ g := fun e => hb (e ▸ hbs)
    exact ⟨setRow_other w g b _ hne, fun off h' => hR2 b off hne h'⟩

theorem keep_drew_alloc (o : Obj) {R' : Own} (h : ∀ b off, b < w.heap.size → (R' b off ↔ R b off)) (bs : List Nat) : Keep w R (w.drew.alloc o) R' bs := by
  have k := keep_alloc (w := w.drew) (R := R) o h bs
  exact ⟨⟨k.step.os, k.step.tape, k.step.output, k.step.size, k.step.block, k.step.cell, k.step.sizes⟩, k.same⟩

theorem run_append_none (t ty e : TypeId) (i : TypeInfo) (ht : P.underlying t = some (.slice e)) (hi : P.info? e = some i) (base a : Option Addr) (n cap c : Nat) (h : n ≤ cap) :
    (Builtin.append_ #[t, t] ty #[.slice base n cap, .slice a 0 c]).run P w = .ok (.slice base n cap) w := by
  cases base <;> cases a <;> simp [Builtin.append_, run_und ht, sizeOf, typeInfo, hi, Builtin.lenOf, h, Builtin.firstCells, Go.loadCells, loadCellsFrom, storeCells]

theorem run_append_room' (t ty e e' : TypeId) (i : TypeInfo) (ht : P.underlying t = some (.slice e)) (hi : P.info? e = some i)
    (g sLen sCap : Nat) (cur : Array Value) (hg : w.heap[g]? = some (.cells cur e' (0, 0)))
    (a : Addr) (m c : Nat) (news : List Value) (hl : news.length = m * i.size) (hnews : ∀ j u, news[j]? = some u → w.cell? (a.add j) = some u) (h1 : ∀ u ∈ news, u.oneCell' = true)
    (hroom : sLen + m ≤ sCap) (hfit : sLen * i.size + news.length ≤ cur.size) :
    (Builtin.append_ #[t, t] ty #[.slice (some ⟨g, 0, none⟩) sLen sCap, .slice (some a) m c]).run P w =
      .ok (.slice (some ⟨g, 0, none⟩) (sLen + m) sCap) (w.setRow g (cur.toList.take (sLen * i.size) ++ news ++ cur.toList.drop (sLen * i.size + news.length)).toArray) := by
  have hf := run_firstCells_some (P := P) w i.size m a m c news hl hnews
  have hst := run_storeCells_at P g (sLen * i.size) e' news 0 cur w hg (by simpa using hfit) h1
  simp only [Nat.add_zero] at hst
  simp [Builtin.append_, run_und ht, sizeOf, typeInfo, hi, Builtin.lenOf, hroom, hf, Addr.add_lit, hst]

theorem repCs_one : ∀ {vs : List Value} {cs : List Dat}, RepCs w R vs cs → ∀ v ∈ vs, v.oneCell' = true
  | [], [], _, v, hv => by simp at hv
  | u :: vs, c :: cs, h, v, hv => by
    rcases List.mem_cons.1 hv with rfl | hv
    · exact (repC_cells h.1).2
    · exact repCs_one h.2 v hv
  | [], _ :: _, h, _, _ => h.elim
  | _ :: _, [], h, _, _ => h.elim

theorem repOwn_inv {v : Value} {es : List Dat} {bs : List Nat} (h : RepOwn w R v es bs) : (v = .slice none 0 0 ∧ es = [] ∧ bs = []) ∨
    ∃ b cap s vs t, v = .slice (some ⟨b, 0, none⟩) es.length cap ∧ bs = [b] ∧ w.heap[b]? = some (.cells vs t (0, 0)) ∧ 0 < s ∧ (∀ e ∈ es, e.cells.length = s) ∧ es.length ≤ cap ∧ (es = [] → cap = 0) ∧ cap * s ≤ vs.size ∧
      RepC w R (.slice (some ⟨b, 0, none⟩) es.length cap) (.slice es) ∧ (∀ x, es.length * s ≤ x → x < cap * s ∨ vs.size ≤ x → R b x) ∧ (isBytes es = true → t = byteId) := by
  cases h with
  | nil => exact .inl ⟨rfl, rfl, rfl⟩
  | row b cap s es vs t h1 h2 h3 h4 h5 h6 h7 h8 h9 => exact .inr ⟨b, cap, s, vs, t, rfl, rfl, h1, h2, h3, h4, h5, h6, h7, h8, h9⟩

theorem appendTo_spec {i : TI} {es r : List Dat} {x : AVal} (h : appendTo Prims.std i es x = some r) :
    ∃ ds, x = .dat (.slice ds) ∧ 0 < i.size ∧ (∀ d ∈ ds, d.cells.length = i.size) ∧ (∀ d ∈ es, d.cells.length = i.size) ∧ 0 < i.bytes ∧ (es.length + ds.length) * i.bytes ≤ 140737488355328 ∧ es.length + ds.length ≤ lim ∧ r = es ++ ds := by
  unfold appendTo at h
  split at h
  · rename_i ds
    simp only [Prims.std] at h
    split at h
    · simp at h
    · rename_i hn
      split at h
      · rename_i hc
        simp at h
        exact ⟨_, rfl, by rcases Nat.eq_zero_or_pos i.size with h0 | h0; exact absurd h0 hn; exact h0, hc.1, hc.2.1, hc.2.2.1, hc.2.2.2.1, hc.2.2.2.2, h.symm⟩
      · simp at h
  · simp at h

/-- The new array of an append that grows. -/
theorem own_grown {e : TypeId} {s : Nat} (hs0 : 0 < s) {es : List Dat} (hs : ∀ d ∈ es, d.cells.length = s) {cells : List Value} (hr : RepCs w R cells (es.flatMap Dat.cells)) (hne : es ≠ []) (hlim : es.length ≤ lim)
    (cap : Nat) (hcap : es.length ≤ cap) (rest : Array Value) (hrest : rest.size = (cap - es.length) * s) (hty : isBytes es = true → e = byteId) (bs : List Nat) :
    ∃ R', Keep w R (w.drew.alloc (.cells (cells.toArray ++ rest) e)) R' bs ∧ RepV (w.drew.alloc (.cells (cells.toArray ++ rest) e)) R' N (.own es) (.slice (some ⟨w.heap.size, 0, none⟩) es.length cap) [w.heap.size] := by
  have hl := repCs_length hr
  rw [flat_length hs] at hl
  let R' : Own := fun b off => (b ≠ w.heap.size ∧ R b off) ∨ (b = w.heap.size ∧ es.length * s ≤ off)
  have hst : ∀ b off, b < w.heap.size → (R' b off ↔ R b off) := fun b off hb =>
    ⟨fun h => by rcases h with h | h; exact h.2; exact absurd h.1 (by omega), fun h => .inl ⟨by omega, h⟩⟩
  have hk := keep_drew_alloc (w := w) (R := R) (.cells (cells.toArray ++ rest) e) hst bs
  refine ⟨R', hk, own_new (s := s) (heap_alloc_new w.drew _) hs0 hs (hr.step hk.step) (fun j u hj => ?_) (fun j hj h' => ?_) (fun j h1 _ => .inr ⟨rfl, h1⟩) hcap (fun h' => absurd h' hne) ?_ hlim hty⟩
  · have hjl : j < cells.length := by
      rcases Nat.lt_or_ge j cells.length with h' | h'
      · exact h'
      · rw [List.getElem?_eq_none h'] at hj; simp at hj
    rw [Array.getElem?_append_left (by simpa using hjl)]
    simpa using hj
  · rcases h' with h' | h'
    · exact h'.1 rfl
    · omega
  · simp only [Array.size_append, List.size_toArray, hrest, hl]
    rw [← Nat.add_mul]
    exact Nat.mul_le_mul_right _ (by omega)

theorem run_append_none_src (t t2 ty e : TypeId) (i : TypeInfo) (ht : P.underlying t = some (.slice e)) (hi : P.info? e = some i) (base : Option Addr) (n cap : Nat) (h : n ≤ cap) {u : Value} (hs : Src P i.size t2 u 0 [] w) :
    (Builtin.append_ #[t, t2] ty #[.slice base n cap, u]).run P w = .ok (.slice base n cap) w := by
  have hc := hs.cells
  rcases hs.kind with ⟨e', hk⟩ | hk <;> cases base <;> simp [Builtin.append_, run_und ht, run_und hk, sizeOf, typeInfo, hi, hs.len, h, hc, storeCells]

theorem run_append_room_src' (t t2 ty e e' : TypeId) (i : TypeInfo) (ht : P.underlying t = some (.slice e)) (hi : P.info? e = some i)
    (g sLen sCap : Nat) (cur : Array Value) (hg : w.heap[g]? = some (.cells cur e' (0, 0)))
    {u : Value} (m : Nat) (news : List Value) (hs : Src P i.size t2 u m news w)
    (hroom : sLen + m ≤ sCap) (hfit : sLen * i.size + news.length ≤ cur.size) :
    (Builtin.append_ #[t, t2] ty #[.slice (some ⟨g, 0, none⟩) sLen sCap, u]).run P w =
      .ok (.slice (some ⟨g, 0, none⟩) (sLen + m) sCap) (w.setRow g (cur.toList.take (sLen * i.size) ++ news ++ cur.toList.drop (sLen * i.size + news.length)).toArray) := by
  have hst := run_storeCells_at P g (sLen * i.size) e' news 0 cur w hg (by simpa using hfit) hs.one
  simp only [Nat.add_zero] at hst
  rcases hs.kind with ⟨e2, hk⟩ | hk <;> simp [Builtin.append_, run_und ht, run_und hk, sizeOf, typeInfo, hi, hs.len, hroom, hs.cells, Addr.add_lit, hst]

/-- An append of what may stand behind, whatever it is. -/
theorem sound_append_src (hE : E.Ok P) {t t2 ty : TypeId} {i : TI} {es ds : List Dat} {v u : Value} {news : List Value} {bsM : List Nat} (hel : elemOf E t = some i) (hs0 : 0 < i.size) (hds : ∀ d ∈ ds, d.cells.length = i.size) (hes : ∀ d ∈ es, d.cells.length = i.size)
    (hbytes : (es.length + ds.length) * i.bytes ≤ 140737488355328) (hlim : es.length + ds.length ≤ lim) (ha : RepV w R N (.own es) v bsM) (hnr : RepCs w R news (ds.flatMap Dat.cells)) (hsrc : Src P i.size t2 u ds.length news w) (hbo : byteOk E t (es ++ ds) = true)
    (bs : List Nat) (hd : ∀ b ∈ bsM, b ∉ bs) :
    ∃ cv w' R' bsV, (Builtin.append_ #[t, t2] ty #[v, u]).run P w = .ok cv w' ∧ Keep w R w' R' bs ∧ RepV w' R' N (.own (es ++ ds)) cv bsV ∧ bsV.Nodup ∧ (∀ b ∈ bsV, b ∈ bsM ∨ w.heap.size ≤ b) := by
  obtain ⟨e, hu, hty⟩ := elemOf_ok hE hel
  obtain ⟨⟨ie, k1, k2, k3, k4, k5⟩, _⟩ := hE.ty e i hty
  have hsrc' : Src P ie.size t2 u ds.length news w := by rw [k2]; exact hsrc
  have hown := repV_own_inv ha
  have hnl := repCs_length hnr
  rw [flat_length hds] at hnl
  by_cases hne : ds = []
  · subst hne
    have hn0 : news = [] := by cases news with | nil => rfl | cons _ _ => simp at hnl
    subst hn0
    have hv0 : ∃ base cap, v = .slice base es.length cap ∧ es.length ≤ cap := by
      cases hown with
      | nil => exact ⟨_, _, rfl, Nat.le_refl _⟩
      | row b cap => exact ⟨_, _, rfl, by assumption⟩
    obtain ⟨base, cap, rfl, hcap⟩ := hv0
    refine ⟨_, w, R, bsM, run_append_none_src t t2 ty e ie hu k1 base _ cap hcap hsrc', keep_refl _, by simpa using ha, ?_, fun b hb => .inl hb⟩
    rcases repOwn_inv hown with ⟨_, _, rfl⟩ | ⟨b, _, _, _, _, _, rfl, _⟩ <;> simp
  · have hdl : 0 < ds.length := by cases ds with | nil => exact absurd rfl hne | cons _ _ => simp
    have h63 : es.length + ds.length ≤ 9223372036854775807 := by unfold lim at hlim; omega
    have hfl : ∀ d ∈ es ++ ds, d.cells.length = i.size := fun d hd => by rcases List.mem_append.1 hd with h' | h'; exact hes d h'; exact hds d h'
    have hzc : ∀ (z : Array Value) (n : Nat), (Builtin.zeroCells z n).size = n * z.size := fun z n => size_zeroCells z n
    rcases repOwn_inv hown with ⟨rfl, rfl, rfl⟩ | ⟨b, cap, s, vs, t', rfl, rfl, hblk, hs0', hs, hcap, he, hin, hrep, hsp, hty'⟩
    · have hrun := run_append_grow_src (P := P) w t t2 ty e ie i.zero hu k1 k4 none 0 0 [] (by simp [Builtin.firstCells]) u ds.length news hsrc' (by omega) (by simp at h63 ⊢; omega) (growslice_fits (by omega) (by rw [k3]; simpa using hbytes))
      have hge := grownCap_ge w ds.length 0 e
      obtain ⟨R', g1, g2⟩ := own_grown (N := N) (e := e) hs0 hds hnr hne (by simpa using hlim) (grownCap w ds.length 0 e) hge (Builtin.zeroCells i.zero.cells (grownCap w ds.length 0 e - ds.length)) (by rw [hzc, k5]) (byteOk_spec hE hu (by simpa using hbo)) bs
      refine ⟨_, _, R', [w.heap.size], hrun, ?_, ?_, by simp, by simp⟩
      · simpa using g1
      · simpa using g2
    · by_cases hes0 : es = []
      · subst hes0
        have hc0 := he rfl
        subst hc0
        have hrun := run_append_grow_src (P := P) w t t2 ty e ie i.zero hu k1 k4 (some ⟨b, 0, none⟩) 0 0 [] (by simp [Builtin.firstCells, Go.loadCells, loadCellsFrom]) u ds.length news hsrc' (by omega) (by simp at h63 ⊢; omega) (growslice_fits (by omega) (by rw [k3]; simpa using hbytes))
        have hge := grownCap_ge w ds.length 0 e
        obtain ⟨R', g1, g2⟩ := own_grown (N := N) (e := e) hs0 hds hnr hne (by simpa using hlim) (grownCap w ds.length 0 e) hge (Builtin.zeroCells i.zero.cells (grownCap w ds.length 0 e - ds.length)) (by rw [hzc, k5]) (byteOk_spec hE hu (by simpa using hbo)) bs
        refine ⟨_, _, R', [w.heap.size], hrun, ?_, ?_, by simp, by simp⟩
        · simpa using g1
        · simpa using g2
      · obtain rfl : s = i.size := by
          cases es with
          | nil => exact absurd rfl hes0
          | cons d es => rw [← hs d (by simp), hes d (by simp)]
        obtain ⟨b', off', cap', olds, hv', _, hor, hoc⟩ := repC_flat hrep hes0 hes
        simp at hv'
        obtain ⟨⟨rfl, rfl⟩, rfl⟩ := hv'
        have hol := repCs_length hor
        rw [flat_length hes] at hol
        by_cases hroom : es.length + ds.length ≤ cap
        · -- within the capacity
          have hmul : (es.length + ds.length) * i.size ≤ cap * i.size := Nat.mul_le_mul_right _ hroom
          have hmul' : (es.length + ds.length) * i.size = es.length * i.size + ds.length * i.size := Nat.add_mul ..
          have hdpos : 0 < ds.length * i.size := Nat.mul_pos hdl hs0
          have hrun := run_append_room_src' (P := P) (w := w) t t2 ty e t' ie hu k1 b es.length cap vs hblk ds.length news hsrc' hroom (by rw [k2, hnl]; omega)
          rw [k2] at hrun
          generalize harr : (vs.toList.take (es.length * i.size) ++ news ++ vs.toList.drop (es.length * i.size + news.length)).toArray = arr at hrun
          let R' : Own := fun c x => R c x ∧ ¬ (c = b ∧ es.length * i.size ≤ x ∧ x < (es.length + ds.length) * i.size)
          have hget : ∀ k : Nat, arr[k]? = if k < es.length * i.size then vs[k]? else if k < es.length * i.size + news.length then news[k - es.length * i.size]? else vs[k]? := by
            intro k
            rw [← harr]
            simp only [List.getElem?_toArray]
            have hlt : (vs.toList.take (es.length * i.size)).length = es.length * i.size := by simp; omega
            by_cases q1 : k < es.length * i.size
            · rw [if_pos q1, List.append_assoc, List.getElem?_append_left (by omega), List.getElem?_take_of_lt q1]; simp
            · rw [if_neg q1]
              by_cases q2 : k < es.length * i.size + news.length
              · rw [if_pos q2, List.getElem?_append_left (by simp; omega), List.getElem?_append_right (by omega), hlt]
              · rw [if_neg q2, List.getElem?_append_right (by simp; omega), List.getElem?_drop]
                simp only [List.length_append, hlt, Array.getElem?_toList]
                congr 1
                omega
          have hkeep := step_setRow (R := R) (R' := R') hblk arr (by rw [← harr]; simp; omega) (fun c x h => h.1) (fun c x hc h => ⟨h, fun h' => hc h'.1⟩) (fun off hnR => by
            rw [hget]
            by_cases q1 : off < es.length * i.size
            · rw [if_pos q1]
            · rw [if_neg q1]
              by_cases q2 : off < es.length * i.size + news.length
              · exact absurd (hsp off (by omega) (.inl (by omega))) hnR
              · rw [if_neg q2]) ⟨es.length * i.size, hsp _ (Nat.le_refl _) (.inl (by omega))⟩ bs (hd b (by simp))
          have hasz : arr.size = vs.size := by rw [← harr]; simp; omega
          have hblk' : (w.setRow b arr).heap[b]? = some (.cells arr t' (0, 0)) := setRow_heap w b vs _ t' _ hblk
          have hcs : RepCs w R (olds ++ news) ((es ++ ds).flatMap Dat.cells) := by rw [List.flatMap_append]; exact repCs_append hor hnr
          refine ⟨_, _, R', [b], hrun, hkeep, ?_, by simp, fun c hc => .inl hc⟩
          rw [show es.length + ds.length = (es ++ ds).length by simp]
          refine own_new (s := i.size) hblk' hs0 hfl (hcs.step hkeep.step) (fun j z hj => ?_) (fun j hj h' => h'.2 ⟨rfl, ?_, ?_⟩) (fun j h1 h2 => ⟨hsp j (by simp at h1; omega) (by rw [← hasz]; exact h2), fun h' => by simp at h1; omega⟩) (by simpa using hroom) (fun h' => by simp at h'; exact absurd h'.1 hes0) ?_ (by simpa using hlim) (fun hb => hty' (isBytes_left hb hes0))
          · rw [hget]
            by_cases q1 : j < es.length * i.size
            · rw [if_pos q1]
              rw [List.getElem?_append_left (by omega)] at hj
              have := (hoc j z hj).1
              rw [cell_of_row w b (0 + j) vs t' (0, 0) hblk] at this
              simpa using this
            · rw [if_neg q1]
              rw [List.getElem?_append_right (by omega), hol] at hj
              have hjl : j - es.length * i.size < news.length := by
                rcases Nat.lt_or_ge (j - es.length * i.size) news.length with h' | h'
                · exact h'
                · rw [List.getElem?_eq_none h'] at hj; simp at hj
              rw [if_pos (by omega)]
              exact hj
          · have hnR := h'.1
            rcases Nat.lt_or_ge j (es.length * i.size) with q | q
            · exfalso
              have hz : olds[j]? = some olds[j] := by simp
              exact (hoc j _ hz).2 (by simpa using hnR)
            · exact q
          · simpa using hj
          · have : arr.size = vs.size := by
              rw [← harr]; simp; omega
            rw [this]; exact hin
        · have holds : ∀ (j : Nat) z, olds[j]? = some z → w.cell? ((⟨b, 0, none⟩ : Addr).add j) = some z := fun j z hj => by rw [add_plain]; exact (hoc j z hj).1
          have hrun := run_append_grow_src (P := P) w t t2 ty e ie i.zero hu k1 k4 (some ⟨b, 0, none⟩) es.length cap olds (run_firstCells_some w.drew ie.size es.length ⟨b, 0, none⟩ es.length cap olds (by rw [k2]; exact hol) (by simpa using holds)) u ds.length news hsrc' (by omega) (by simp at h63 ⊢; omega) (growslice_fits (by omega) (by rw [k3]; exact hbytes))
          have hge := grownCap_ge w (es.length + ds.length) cap e
          have hcs : RepCs w R (olds ++ news) ((es ++ ds).flatMap Dat.cells) := by rw [List.flatMap_append]; exact repCs_append hor hnr
          obtain ⟨R', g1, g2⟩ := own_grown (N := N) (e := e) hs0 hfl hcs (by simp [hne]) (by simpa using hlim) (grownCap w (es.length + ds.length) cap e) (by simpa using hge) (Builtin.zeroCells i.zero.cells (grownCap w (es.length + ds.length) cap e - (es.length + ds.length))) (by rw [hzc, k5]; simp) (byteOk_spec hE hu hbo) bs
          refine ⟨_, _, R', [w.heap.size], hrun, ?_, ?_, by simp, by simp⟩
          · simpa using g1
          · simpa using g2
theorem sound_append (hE : E.Ok P) {t ty : TypeId} {i : TI} {es r : List Dat} {x : AVal} {v u : Value} {bsM : List Nat} (hel : elemOf E t = some i) (hap : appendTo E.pr i es x = some r) (hbo : byteOk E t r = true) (ha : RepV w R N (.own es) v bsM) (hx : RepV w R N x u [])
    (bs : List Nat) (hd : ∀ b ∈ bsM, b ∉ bs) :
    ∃ cv w' R' bsV, (Builtin.append_ #[t, t] ty #[v, u]).run P w = .ok cv w' ∧ Keep w R w' R' bs ∧ RepV w' R' N (.own r) cv bsV ∧ bsV.Nodup ∧ (∀ b ∈ bsV, b ∈ bsM ∨ w.heap.size ≤ b) := by
  obtain ⟨e, hu, _⟩ := elemOf_ok hE hel
  obtain ⟨ds, rfl, hs0, hds, hes, hby, hbytes, hlim, rfl⟩ := appendTo_spec (by rw [hE.std] at hap; exact hap)
  obtain ⟨_, hxr⟩ := repV_slice_inv hx
  by_cases hne : ds = []
  · subst hne
    have hu0 : ∃ a' c, u = .slice a' 0 c := by cases hxr with | nil a c => exact ⟨a, c, rfl⟩ | slice b off cap s es vs => exact ⟨_, _, rfl⟩
    obtain ⟨a', c, rfl⟩ := hu0
    refine sound_append_src (news := []) hE hel hs0 hds hes hbytes hlim ha (by simp [RepCs]) ?_ hbo bs hd
    cases a' with
    | none => exact Src.ofNil w hu c
    | some a' => exact Src.ofSlice w hu a' 0 c [] (by simp) (by simp) (by simp)
  · obtain ⟨b2, off2, cap2, news, rfl, _, hnr, hnc⟩ := repC_flat hxr hne hds
    have hnl := repCs_length hnr
    rw [flat_length hds] at hnl
    have hnews : ∀ (j : Nat) u, news[j]? = some u → w.cell? ((⟨b2, off2, none⟩ : Addr).add j) = some u := fun j u hj => by rw [add_plain]; exact (hnc j u hj).1
    exact sound_append_src hE hel hs0 hds hes hbytes hlim ha hnr (Src.ofSlice w hu ⟨b2, off2, none⟩ ds.length cap2 news hnl hnews (repCs_one hnr)) hbo bs hd

/-! #### The bytes of a string behind a row of bytes -/
theorem repCs_bytes : ∀ l : List UInt8, RepCs w R (l.map fun b => Value.int .u8 b.toNat) ((byteDs l).flatMap Dat.cells)
  | [] => by simp [RepCs, byteDs]
  | b :: r => by
    simp only [byteDs, List.map_cons, List.flatMap_cons]
    refine ⟨.flat ?_, repCs_bytes r⟩
    have := b.toNat_lt
    simp only [isFlat, Bool.and_eq_true, decide_eq_true_eq]
    have h1 : IntKind.u8.min = 0 := by decide
    have h2 : IntKind.u8.max = 255 := by decide
    rw [h1, h2]
    omega

theorem byteDs_length : ∀ l : List UInt8, (byteDs l).length = l.length
  | [] => rfl
  | b :: r => by simp [byteDs, byteDs_length r]

theorem sound_append_str (hE : E.Ok P) {t t2 ty : TypeId} {es : List Dat} {s : ByteArray} {v u : Value} {out : Out} {bsM : List Nat} (h : aAppendStr E t t2 [.own es, .dat (.flat (.string s))] = some out) (ha : RepV w R N (.own es) v bsM) (hx : RepV w R N (.dat (.flat (.string s))) u [])
    (bs : List Nat) (hd : ∀ b ∈ bsM, b ∉ bs) :
    ∃ cv w' R' bsV, (Builtin.append_ #[t, t2] ty #[v, u]).run P w = .ok cv w' ∧ Keep w R w' R' bs ∧ RepV w' R' N out.val cv bsV ∧ out.eff = .keep ∧ bsV.Nodup ∧ (∀ b ∈ bsV, b ∈ bsM ∨ w.heap.size ≤ b) := by
  unfold aAppendStr at h
  simp only at h
  split at h
  · rename_i i hd2 hel
    split at h
    · rename_i hsz
      have hsz1 : i.size = 1 := by simpa using hsz
      split at h
      · rename_i r hap
        split at h
        rotate_left
        · simp at h
        rename_i hbo
        simp at h
        subst h
        obtain ⟨ds, hds0, hs0, hds, hes, hby, hbytes, hlim, rfl⟩ := appendTo_spec (by rw [hE.std] at hap; exact hap)
        simp at hds0
        subst hds0
        obtain ⟨_, rfl, _⟩ := repV_flat_inv hx
        have hlen : (byteDs s.data.toList).length = s.size := by rw [byteDs_length, Array.length_toList]; rfl
        have hsrc : Src P i.size t2 (.string s) (byteDs s.data.toList).length (s.data.toList.map fun b => Value.int .u8 b.toNat) w := by
          rw [hsz1, hlen]; exact Src.ofString w (hE.desc_string hd2) s
        obtain ⟨cv, w', R', bsV, h1, h2, h3, h4, h5⟩ := sound_append_src (ty := ty) hE hel hs0 hds hes hbytes hlim ha (repCs_bytes _) hsrc hbo bs hd
        exact ⟨cv, w', R', bsV, h1, h2, h3, rfl, h4, h5⟩
      · simp at h
    · simp at h
  · simp at h
end
end Go.Tp
