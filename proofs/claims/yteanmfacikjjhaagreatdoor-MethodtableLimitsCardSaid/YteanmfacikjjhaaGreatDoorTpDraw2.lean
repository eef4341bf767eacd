/- The generic layer: regions that draw their order: soundness. -/
import Derived.Test.YteanmfacikjjhaaGreatDoorTpDraw1b
namespace Go.Tp

section
variable {P : Program} {E : TEnv} {G : Globs} {H : Hints} {D : List Deferred}

/-- The value of an operation that goes ahead. -/
theorem aq_sound (hE : E.Ok P) {o : Oper} {s : AState} {out : Out} (hop : aop E false o.op (evalArgs G s none 0 (opsL o.op)) (lookedAt s o.op (evalArgs G s none 0 (opsL o.op))) = some out) (hk : out.eff = .keep)
    {w : World} {R : Own} {N : Name → Option Nat} {act : Act} {bsT bsL bsH bsF : List Nat} (hr : RelB G w R N act.tmps.toList s undef .undef [] bsT bsL bsH bsF) :
    ∃ cv w' R' bsV, Ran P w act.eval o cv w' ∧ RepV w' R' N out.val cv bsV ∧ From w [] bsV ∧ Keep w R w' R' (bsT ++ (bsL ++ (bsH ++ bsF))) := by
  have ha := args_copy hr.tmps hr.glob none 0 (opsL o.op) (by simp)
  generalize hvals : evalArgs G s none 0 (opsL o.op) = vals at hop ha
  have hnd : (bsT ++ (bsL ++ (bsH ++ bsF))).Nodup := by simpa using hr.nodup
  cases hlo : lookedAt s o.op vals with
  | none =>
    rw [hlo] at hop
    have hlk : Looked w R N o.op vals none none := by
      unfold Looked
      split
      · exact ⟨rfl, rfl⟩
      · exact .inl ⟨rfl, rfl⟩
    obtain ⟨cv, w', R', hran, hkeep, hout⟩ := aop_sound (rest := bsT ++ (bsL ++ (bsH ++ bsF))) hE hop ha (fun _ => rfl) hlk (by simpa [nmL] using hnd) (fun _ => rfl)
    rw [hk] at hout
    obtain ⟨bsV, hv, hf, _, _⟩ := hout
    exact ⟨cv, w', R', bsV, hran, hv, hf, hkeep⟩
  | some obj =>
    rw [hlo] at hop
    have hlk : ∃ b b1, Looked w R N o.op vals (some obj) (some (b, b1)) ∧ (b :: b1).Nodup := by
      unfold lookedAt at hlo
      split at hlo
      · rename_i n hn
        cases n with
        | loc i =>
          simp only [AState.obj] at hlo
          obtain ⟨pre, b, b1, post, e1, e2, e3, _⟩ := RepObjs.split hr.locs hlo
          refine ⟨b, b1, ?_, ?_⟩
          · unfold Looked; rw [hn]; exact .inr ⟨b, b1, obj, rfl, rfl, e2, e3⟩
          · subst e1
            refine List.Nodup.sublist ?_ hnd
            refine List.Sublist.trans ?_ (List.sublist_append_right _ _)
            refine List.Sublist.trans ?_ (List.sublist_append_left _ _)
            exact (List.sublist_append_right _ _).trans (List.sublist_append_left _ _)
        | out k =>
          simp only [AState.obj] at hlo
          obtain ⟨pre, b, b1, post, e1, e2, e3, _⟩ := RepObjs.split hr.heap hlo
          have hno : noLocO obj = true := by
            cases obj with
            | cells cs => obtain ⟨vs, e, sp, hb, hrr, hR⟩ := e3; have := hrr.noLoc_of_outs; rw [noLocL_pad] at this; exact this
            | map es => rfl
          refine ⟨b, b1, ?_, ?_⟩
          · unfold Looked; rw [hn]; exact .inr ⟨b, b1, obj, rfl, rfl, by simpa [outs] using e2, e3.reN hno (fun _ => rfl)⟩
          · subst e1
            refine List.Nodup.sublist ?_ hnd
            refine List.Sublist.trans ?_ (List.sublist_append_right _ _)
            refine List.Sublist.trans ?_ (List.sublist_append_right _ _)
            refine List.Sublist.trans ?_ (List.sublist_append_left _ _)
            exact (List.sublist_append_right _ _).trans (List.sublist_append_left _ _)
      · simp at hlo
    obtain ⟨b, b1, hlk, hnd1⟩ := hlk
    obtain ⟨cv, w', R', hran, hkeep, hout⟩ := aop_sound (rest := []) hE hop ha (fun _ => rfl) hlk (by simpa [nmL] using hnd1) (fun _ => rfl)
    rw [hk] at hout
    obtain ⟨bsV, hv, hf, _, hsame⟩ := hout
    rcases hsame with h | ⟨rfl, rfl⟩
    · simp at h
    · exact ⟨cv, w', R', bsV, hran, hv, hf, keep_refl _⟩

/-- The state behind a value that goes ahead. -/
theorem rel_put {s : AState} {w w' : World} {R R' : Own} {N : Name → Option Nat} {act : Act} {bsT bsL bsH bsF bsV : List Nat} (bsY : List Nat) {a : AVal} {cv : Value} (dst : Option Tmp) (hr : RelB G w R N act.tmps.toList s undef .undef [] bsT bsL bsH bsF)
    (hv : RepV w' R' N a cv bsV) (hf : From w [] (bsV ++ bsY)) (hy : ∀ b ∈ bsY, b < w'.heap.size) (hk : Keep w R w' R' (bsT ++ (bsL ++ (bsH ++ bsF)))) :
    ∃ bsT', RelB G w' R' N (act.put dst cv).tmps.toList (s.put dst a) undef .undef [] bsT' bsL bsH (bsY ++ bsF) := by
  have hlt : ∀ b ∈ bsT ++ (bsL ++ (bsH ++ bsF)), b < w.heap.size := fun b hb => by
    simp at hb
    rcases hb with h | h | h | h
    · exact hr.tmps.lt b h
    · exact hr.locs.lt b h
    · exact hr.heap.lt b h
    · exact hr.frame b h
  have hnd0 : ((bsV ++ bsY) ++ (bsT ++ (bsL ++ (bsH ++ bsF)))).Nodup := from_nodup (bsM := []) (by simpa using hr.nodup) hlt hf
  have hnd : (bsV ++ (bsT ++ (bsL ++ (bsH ++ (bsY ++ bsF))))).Nodup := by
    have hp : (bsV ++ (bsT ++ (bsL ++ (bsH ++ (bsY ++ bsF))))).Perm ((bsV ++ bsY) ++ (bsT ++ (bsL ++ (bsH ++ bsF)))) := by
      rw [List.perm_iff_count]; intro q; simp only [List.count_append]; omega
    exact hp.nodup_iff.2 hnd0
  obtain ⟨bsT', hp1, hp2⟩ := put_state dst (hr.tmps.keep (hk.sub (by intro b hb; simp [hb]))) hv hnd
  obtain ⟨q1, q2, q3⟩ := put_locs s dst a
  exact ⟨bsT', repV_undef _, by rw [(put_act act dst cv).1]; exact hp1, by rw [q1]; exact hr.locs.keep (hk.sub (by intro b hb; simp [hb])), by rw [q2]; exact hr.heap.keep (hk.sub (by intro b hb; simp [hb])), by simpa using hp2, by rw [q3]; exact hr.next,
    fun g cs hg => (hr.glob g cs hg).step hk.step, fun b hb => by
      rcases List.mem_append.1 hb with h | h
      · exact hy b h
      · exact Nat.lt_of_lt_of_le (hr.frame b h) hk.step.size⟩

/-- The state in the midst of such a region. -/
structure PRel (E : TEnv) (G : Globs) (H : Hints) (ops : Array Oper) (h : RHint) (listed : Array Bool) (w : World) (R : Own) (N : Name → Option Nat) (act : Act) (s : AState) (bsT bsL bsH bsX bsF : List Nat) : Prop where
  rel : RelB G w R N act.tmps.toList s undef .undef [] bsT bsL bsH (bsX ++ bsF)
  nwf : ∀ i o t d ti, h.nw = some i → listed[i]? = some true → ops[i]? = some o → o.op = .alloc t → o.dst = some d → o.guard = none → E.ty t = some ti → d < act.tmps.size →
    ∃ b, b ∈ bsX ∧ act.tmps[d]? = some (.pointer (some ⟨b, 0, none⟩)) ∧ RepObj w R N (.cells (acells (ofConst ti.zero))) b []
  tkf : ∀ i o T u t n off ob, i ∈ h.tk → listed[i]? = some true → ops[i]? = some o → o.op = .load T (.tmp u) → o.dst = some t → o.guard = none → getT s.tmps u = .ptr n off → okN (quietHeap H ops.toList h.pre) n = true → s.obj n = some ob → t < act.tmps.size →
    ∃ b v, N n = some b ∧ act.tmps[t]? = some v ∧ (w.cell? ⟨b, off, none⟩ = some v ∨ ∃ vs, v = .agg vs)

theorem chkSlots_own {ops : Array Oper} {h : RHint} (hc : chkSlots ops h = true) {i : Nat} (hi : i ∈ h.nw.toList ++ h.tk) {o : Oper} (ho : ops[i]? = some o) {T : TypeId} {u : Tmp} (hop : o.op = .load T (.tmp u)) : o.dst ≠ some u := by
  unfold chkSlots at hc
  have h1 := List.all_eq_true.1 hc i hi
  rw [ho] at h1
  simp only [Bool.and_eq_true] at h1
  have h2 := h1.2.1
  rw [hop] at h2
  simpa using h2

theorem act_put_get {act : Act} {dst : Option Tmp} {v : Value} {t : Nat} (h : dst ≠ some t) : (act.put dst v).tmps[t]? = act.tmps[t]? := by
  cases dst with
  | none => rfl
  | some d =>
    have hne : d ≠ t := fun e => h (by rw [e])
    simp [Act.put, Array.getElem?_setIfInBounds_ne hne]

theorem act_put_size {act : Act} {dst : Option Tmp} {v : Value} : (act.put dst v).tmps.size = act.tmps.size := by
  cases dst <;> simp [Act.put]

theorem setL_get {listed : Array Bool} {i j : Nat} (h : (setL listed i)[j]? = some true) (hne : j ≠ i) : listed[j]? = some true := by
  unfold setL at h
  rwa [Array.getElem?_setIfInBounds_ne (Ne.symm hne)] at h

theorem cell_same {w w' : World} {b off : Nat} (h : w'.heap[b]? = w.heap[b]?) : w'.cell? ⟨b, off, none⟩ = w.cell? ⟨b, off, none⟩ := by
  simp [World.cell?, h]

/-- What is known of those that were listed before stays. -/
theorem PRel.carry {ops : Array Oper} {h : RHint} {listed : Array Bool} {w w' : World} {R R' : Own} {N N' : Name → Option Nat} {act : Act} {s s' : AState} {bsT bsL bsH bsX bsF : List Nat} (bsY : List Nat) {o : Oper} {cv : Value}
    (hp : PRel E G H ops h listed w R N act s bsT bsL bsH bsX bsF)
    (hc : chkSlots ops h = true) (hcl : Closed ops listed) {i : Nat} {l : Bool} (hi : ops[i]? = some o) (hun : listed[i]? = some false) (hm : (i, l) ∈ h.pre) (hk : Keep w R w' R' bsX) (hkL : ∀ n ob b, okN (quietHeap H ops.toList h.pre) n = true → s.obj n = some ob → N n = some b → w'.heap[b]? = w.heap[b]?) (hN : ∀ m c, N m = some c → N' m = some c) (hlocs : ∀ n ob, okN (quietHeap H ops.toList h.pre) n = true → s'.obj n = some ob → ∃ y, s.obj n = some y)
    (hT : ∀ t n off, okN (quietHeap H ops.toList h.pre) n = true → o.dst ≠ some t → getT s'.tmps t = .ptr n off → getT s.tmps t = .ptr n off) :
    (∀ j q t d ti, j ≠ i → h.nw = some j → (setL listed i)[j]? = some true → ops[j]? = some q → q.op = .alloc t → q.dst = some d → q.guard = none → E.ty t = some ti → d < (act.put o.dst cv).tmps.size →
      ∃ b, b ∈ bsY ++ bsX ∧ (act.put o.dst cv).tmps[d]? = some (.pointer (some ⟨b, 0, none⟩)) ∧ RepObj w' R' N' (.cells (acells (ofConst ti.zero))) b []) ∧
    (∀ j q T u t n off ob, j ≠ i → j ∈ h.tk → (setL listed i)[j]? = some true → ops[j]? = some q → q.op = .load T (.tmp u) → q.dst = some t → q.guard = none → getT s'.tmps u = .ptr n off → okN (quietHeap H ops.toList h.pre) n = true → s'.obj n = some ob →
      t < (act.put o.dst cv).tmps.size → ∃ b v, N' n = some b ∧ (act.put o.dst cv).tmps[t]? = some v ∧ (w'.cell? ⟨b, off, none⟩ = some v ∨ ∃ vs, v = .agg vs)) := by
  constructor
  · intro j q t d ti hji hnw hl hq hop hd hg hty hlt
    obtain ⟨⟨d', hd', hne, _⟩, _⟩ := chkSlots_spec hc (i := j) (by simp [hnw]) hq hm (Ne.symm hji) hi
    rw [hd] at hd'
    simp at hd'
    subst hd'
    rw [act_put_size] at hlt
    obtain ⟨b, h1, h2, h3⟩ := hp.nwf j q t d ti hnw (setL_get hl hji) hq hop hd hg hty hlt
    refine ⟨b, by simp [h1], by rw [act_put_get hne]; exact h2, ?_⟩
    exact (h3.keep (hk.sub (by intro c hc; simp at hc; subst hc; simp [h1]))).ext hN
  · intro j q T u t n off ob hji htk hl hq hop hd hg hu hok hob hlt
    obtain ⟨⟨d', hd', hne, _⟩, h4⟩ := chkSlots_spec hc (i := j) (by simp [htk]) hq hm (Ne.symm hji) hi
    rw [hd] at hd'
    simp at hd'
    subst hd'
    have hu1 : o.dst ≠ some u := by
      rcases h4 T u hop with hu1 | ⟨e, he, hb, hon⟩
      · exact hu1
      · exfalso
        have := hcl j q (setL_get hl hji) hq e he hb
        rw [hon, Array.getD_eq_getD_getElem?, hun] at this
        simp at this
    have hu2 := hT u n off hok hu1 hu
    rw [act_put_size] at hlt
    obtain ⟨y, hob⟩ := hlocs _ _ hok hob
    obtain ⟨b, v, h1, h2, h3⟩ := hp.tkf j q T u t n off y htk (setL_get hl hji) hq hop hd hg hu2 hok hob hlt
    refine ⟨b, v, hN _ _ h1, by rw [act_put_get hne]; exact h2, ?_⟩
    rcases h3 with h3 | h3
    · left
      rw [cell_same (hkL _ _ b hok hob h1)]
      exact h3
    · exact .inr h3

theorem locs_same {w w' : World} {R R' : Own} {N : Name → Option Nat} {os : List (Name × AObj)} {bsL bs : List Nat} (hl : RepObjs w R N os bsL) (hk : Keep w R w' R' bs) (hs : ∀ b ∈ bsL, b ∈ bs) : ∀ n ob b, aget n os = some ob → N n = some b → w'.heap[b]? = w.heap[b]? := by
  intro n ob b hob hb
  obtain ⟨pre, b', b1, post, e1, e2, _, _⟩ := RepObjs.split hl hob
  rw [hb] at e2
  simp at e2
  subst e2
  exact (hk.same b (hs b (by rw [e1]; simp)) (hl.lt b (by rw [e1]; simp))).1

theorem obj_same {w w' : World} {R R' : Own} {N : Name → Option Nat} {s : AState} {bsL bsH bs : List Nat} (hl : RepObjs w R N s.locs bsL) (hh : RepObjs w R (outs N) s.heap bsH) (hk : Keep w R w' R' bs) (hs : ∀ b ∈ bsL, b ∈ bs) (hs2 : ∀ b ∈ bsH, b ∈ bs) : ∀ n ob b, s.obj n = some ob → N n = some b → w'.heap[b]? = w.heap[b]? := by
  intro n ob b hob hb
  cases n with
  | loc i => exact locs_same hl hk hs _ _ _ hob hb
  | out k => exact locs_same hh hk hs2 _ _ _ hob hb

/-- The object that a name means. -/
theorem obj_split {w : World} {R : Own} {N : Name → Option Nat} {s : AState} {bsL bsH : List Nat} (hl : RepObjs w R N s.locs bsL) (hh : RepObjs w R (outs N) s.heap bsH) {n : Name} {ob : AObj} (h : s.obj n = some ob) :
    ∃ b b1, N n = some b ∧ RepObj w R N ob b b1 ∧ (b ∈ bsL ∨ b ∈ bsH) := by
  cases n with
  | loc i =>
    obtain ⟨pre, b, b1, post, e1, e2, e3, _⟩ := RepObjs.split hl h
    exact ⟨b, b1, e2, e3, .inl (by rw [e1]; simp)⟩
  | out k =>
    obtain ⟨pre, b, b1, post, e1, e2, e3, _⟩ := RepObjs.split hh h
    have hno : noLocO ob = true := by
      cases ob with
      | cells cs => obtain ⟨vs, e, sp, hb, hrr, hR⟩ := e3; have := hrr.noLoc_of_outs; rw [noLocL_pad] at this; exact this
      | map es => rfl
    exact ⟨b, b1, by simpa [outs] using e2, e3.reN hno (fun _ => rfl), .inr (by rw [e1]; simp)⟩

theorem unOwn_ptr {a b : AVal} {n : Name} {off : Nat} (h : unOwn a = unOwn b) (ha : a = .ptr n off) : b = .ptr n off := by
  subst ha
  cases b with
  | agg cs =>
    rcases mkAgg_cases (unOwnL cs) with ⟨ds, h'⟩ | h' <;> simp [unOwn, h'] at h
  | _ => simp [unOwn] at h <;> simp [h]

/-- What a load reads is the cell. -/
theorem load_cell (hE : E.Ok P) {T : TypeId} {ti : TI} (hty : E.ty T = some ti) {w : World} {R : Own} {N : Name → Option Nat} {b off : Nat} {b1 : List Nat} {cs : List AVal} (hob : RepObj w R N (.cells cs) b b1) {v : AVal} (hv : loadCells ti off cs = some v)
    {ρ : Operand → Value} {o : Oper} {x : Operand} (ho : o.op = .load T x) (hx : ρ x = .pointer (some ⟨b, off, none⟩)) {cv : Value} {w' : World} (hran : Ran P w ρ o cv w') : w.cell? ⟨b, off, none⟩ = some cv ∨ ∃ vs, cv = .agg vs := by
  obtain ⟨vs, elem, sp, hblk, hr, _⟩ := hob
  replace hv := loadCells_pad (ps := List.replicate sp .undef) hv
  generalize cs ++ List.replicate sp .undef = cs at hr hv
  obtain ⟨cv0, e1, e2, e3⟩ := loadCells_val hv hr
  obtain ⟨cv1, g1, g2⟩ := run_load_obj (N := N) (P := P) hE hty hblk hr hv
  have hrun : (execOp ρ o).run P w = .ok (.value cv1) w := by
    obtain ⟨dst, op, type, pos, after, guard⟩ := o
    simp only at ho
    subst ho
    rw [← hx] at g1
    exact value_run g1
  have hcv : cv = cv1 := by
    rcases hran with h | ⟨h, _⟩
    · rw [hrun] at h; simp at h; exact h.1.symm
    · rw [hrun] at h; simp at h
  subst hcv
  cases ha : ti.isAgg with
  | true =>
    right
    unfold loadCells at hv
    rw [ha] at hv
    simp only [if_true] at hv
    split at hv
    · simp at hv
      subst hv
      rcases mkAgg_cases (unOwnL (takeL ti.size (dropL off cs))) with ⟨ds, h⟩ | h
      · rw [h] at g2
        obtain ⟨us, e, _⟩ := (repV_dat_inv g2).2
        exact ⟨_, e⟩
      · rw [h] at g2
        simp only [RepV] at g2
        obtain ⟨us, e, _⟩ := g2
        exact ⟨_, e⟩
    · simp at hv
  | false =>
    left
    have hg := e3 ha
    have hc : w.cell? ⟨b, off, none⟩ = some cv0 := by rw [cell_of_row w b off vs elem (0, 0) hblk]; simpa using hg
    have : (Instr.loadAt T (.pointer (some ⟨b, off, none⟩))).run P w = .ok cv0 w := by
      simp [Instr.loadAt, Instr.sureAddr, loadVar, hE.run_isAgg hty, ha, hc]
    rw [this] at g1
    simp at g1
    rw [hc, g1]

/-- One operation that goes ahead, whenever it comes up. -/
theorem q_step (hE : E.Ok P) {ops : Array Oper} {h : RHint} (hc : chkSlots ops h = true) {fh : Bool} {listed : Array Bool} {w : World} {R : Own} {N : Name → Option Nat} {act : Act} {s : AState} {bsT bsL bsH bsX bsF : List Nat}
    (hp : PRel E G H ops h listed w R N act s bsT bsL bsH bsX bsF) (hcl : Closed ops listed) (hd : act.defers = D) {i : Nat} {o : Oper} (hi : ops[i]? = some o) (hun : listed[i]? = some false) (hm : (i, false) ∈ h.pre) {a : AVal} (hq : stepQ E G fh ops.toList o s = some a)
    {Qx : Exit → Act → World → Prop} {K : Act → World → Prop}
    (hK : ∀ cv w' R' bsT' bsX', PRel E G H ops h (setL listed i) w' R' N (act.put o.dst cv) (s.put o.dst a) bsT' bsL bsH bsX' bsF → Keep w R w' R' bsF → K (act.put o.dst cv) w') : wpOp P ops Qx i K act w := by
  have hlocs0 : (s.put o.dst a).locs = s.locs := (put_locs s o.dst a).1
  have hobj0 : ∀ n, (s.put o.dst a).obj n = s.obj n := fun n => put_obj
  have hlocs : ∀ n ob, okN (quietHeap H ops.toList h.pre) n = true → (s.put o.dst a).obj n = some ob → ∃ y, s.obj n = some y := fun n ob _ h => ⟨ob, by rw [← hobj0]; exact h⟩
  have hT : ∀ t n off, okN (quietHeap H ops.toList h.pre) n = true → o.dst ≠ some t → getT (s.put o.dst a).tmps t = .ptr n off → getT s.tmps t = .ptr n off := fun t n off _ ht h => by rw [getT_put_ne ht] at h; exact h
  unfold wpOp
  simp only [hi]
  unfold stepQ at hq
  split at hq
  · simp at hq
  rename_i b hw
  rw [wanted_sound hp.rel.tmps hw]
  split at hq
  · rename_i hb
    subst hb
    simp only [if_true]
    left
    split at hq
    · -- a new variable
      rename_i hal
      split at hq
      · rename_i out hop
        simp at hq
        subst hq
        have hop' : ∃ t, o.op = .alloc t := by
          unfold isAlloc at hal
          split at hal
          · exact ⟨_, by assumption⟩
          · simp at hal
        obtain ⟨t, hot⟩ := hop'
        have hops : opsL o.op = [] := by rw [hot]; rfl
        have hnd : ([] ++ (nmL none ++ (bsT ++ (bsL ++ (bsH ++ (bsX ++ bsF)))))).Nodup := by simpa [nmL] using hp.rel.nodup
        obtain ⟨cv, w', R', hran, hkeep, hout⟩ := aop_sound (ρ := act.eval) (w := w) (R := R) (N := N) (vals := []) (ob := none) (nm := none) (bsM := []) (rest := bsT ++ (bsL ++ (bsH ++ (bsX ++ bsF)))) hE hop (by rw [hops]; exact repVs_nil) (fun _ => rfl)
          (by unfold Looked; rw [hot]; exact ⟨rfl, rfl⟩) hnd (fun _ => rfl)
        have hnew : ∃ ti, E.ty t = some ti ∧ out.eff = .new (.cells (acells (ofConst ti.zero))) := by
          rw [hot] at hop
          simp only [aop, aAlloc] at hop
          split at hop
          · rename_i ti hti
            split at hop
            · simp at hop; exact ⟨ti, hti, by rw [← hop]⟩
            · simp at hop
          · simp at hop
        obtain ⟨ti, hti, heff⟩ := hnew
        rw [heff] at hout
        obtain ⟨_, b1', hobj, hb1, hsz, hcv⟩ := hout
        have hb1' : b1' = [] := List.eq_nil_iff_forall_not_mem.2 fun x hx => by have := hb1.2 x hx; simp at this
        subst hb1'
        simp only at hcv
        refine ran_wp hran ?_
        obtain ⟨bsT', hr1⟩ := rel_put (a := .undef) (cv := cv) (bsV := []) [w.heap.size] o.dst hp.rel (repV_undef _) ⟨by simp, fun b hb => .inr (by simp at hb; omega)⟩ (by intro b hb; simp at hb; subst hb; exact hsz) hkeep
        have hr2 : RelB G w' R' N (act.put o.dst cv).tmps.toList (s.put o.dst .undef) undef .undef [] bsT' bsL bsH (([w.heap.size] ++ bsX) ++ bsF) := by
          simpa using hr1
        obtain ⟨c1, c2⟩ := hp.carry (cv := cv) [w.heap.size] hc hcl hi hun hm (hkeep.sub (by intro x hx; simp [hx])) (fun n ob b _ => obj_same hp.rel.locs hp.rel.heap hkeep (by intro x hx; simp [hx]) (by intro x hx; simp [hx]) n ob b) (fun _ _ h => h) hlocs hT
        refine hK cv w' R' bsT' ([w.heap.size] ++ bsX) ⟨hr2, ?_, ?_⟩ (hkeep.sub (by intro x hx; simp [hx]))
        · intro j q t' d ti' hnw hl hqo hop2 hdd hg hty hlt2
          by_cases hji : j = i
          · subst hji
            rw [hi] at hqo
            simp at hqo
            subst hqo
            rw [hot] at hop2
            simp at hop2
            subst hop2
            rw [hti] at hty
            simp at hty
            subst hty
            refine ⟨w.heap.size, by simp, ?_, hobj⟩
            rw [act_put_size] at hlt2
            rw [hdd, hcv]
            simp [Act.put, hlt2]
          · exact c1 j q t' d ti' hji hnw hl hqo hop2 hdd hg hty hlt2
        · intro j q T u t' n off ob htk hl hqo hop2 hdd hg hu hok hob hlt2
          by_cases hji : j = i
          · subst hji
            rw [hi] at hqo
            simp at hqo
            subst hqo
            rw [hot] at hop2
            simp at hop2
          · exact c2 j q T u t' n off ob hji htk hl hqo hop2 hdd hg hu hok hob hlt2
      · simp at hq
    · -- a value
      rename_i hal
      split at hq
      · simp at hq
      · split at hq
        · split at hq
          · rename_i out hop
            split at hq
            · rename_i heff
              simp at hq
              subst hq
              obtain ⟨cv, w', R', bsV, hran, hv, hf, hkeep⟩ := aq_sound hE hop heff hp.rel
              refine ran_wp hran ?_
              obtain ⟨bsT', hr2⟩ := rel_put [] o.dst hp.rel hv (by simpa using hf) (by simp) hkeep
              rw [List.nil_append] at hr2
              obtain ⟨c1, c2⟩ := hp.carry (cv := cv) [] hc hcl hi hun hm (hkeep.sub (by intro x hx; simp [hx])) (fun n ob b _ => obj_same hp.rel.locs hp.rel.heap hkeep (by intro x hx; simp [hx]) (by intro x hx; simp [hx]) n ob b) (fun _ _ h => h) hlocs hT
              refine hK cv w' R' bsT' bsX ⟨hr2, ?_, ?_⟩ (hkeep.sub (by intro x hx; simp [hx]))
              · intro j q t' d ti' hnw hl hqo hop2 hdd hg hty hlt2
                by_cases hji : j = i
                · subst hji
                  rw [hi] at hqo
                  simp at hqo
                  subst hqo
                  rw [hop2] at hal
                  simp [isAlloc] at hal
                · simpa using c1 j q t' d ti' hji hnw hl hqo hop2 hdd hg hty hlt2
              · intro j q T u t' n off ob htk hl hqo hop2 hdd hg hu hok hob hlt2
                by_cases hji : j = i
                · subst hji
                  rw [hi] at hqo
                  simp at hqo
                  subst hqo
                  have hut : o.dst ≠ some u := chkSlots_own hc (by simp [htk]) hi hop2
                  rw [getT_put_ne hut] at hu
                  rw [hobj0] at hob
                  have hvals : evalArgs G s none 0 (opsL o.op) = [.ptr n off] := by
                    rw [hop2]
                    simp [opsL, evalArgs, aeval, hu, unOwn]
                  rw [hvals] at hop
                  have hlo : lookedAt s o.op [.ptr n off] = some ob := by
                    unfold lookedAt
                    rw [hop2]
                    simp [looks, hob]
                  rw [hlo, hop2] at hop
                  simp only [aop, aLoad] at hop
                  split at hop
                  · rename_i ti cs hty hcs
                    simp at hcs
                    subst hcs
                    simp only [Bool.false_and, Bool.false_eq_true, if_false] at hop
                    cases hld : loadCells ti off cs with
                    | none => rw [hld] at hop; simp [ofA] at hop
                    | some v =>
                      obtain ⟨b', b1, e2, e3, e1⟩ := obj_split hp.rel.locs hp.rel.heap hob
                      have hget : s.tmps[u]? = some (.ptr n off) := by
                        unfold getT at hu
                        cases hs : s.tmps[u]? with
                        | none => rw [hs] at hu; simp at hu
                        | some v => rw [hs] at hu; simp at hu; rw [hu]
                      obtain ⟨u1, bs', g1, g2, _⟩ := repVs_get hp.rel.tmps hget
                      simp only [RepV] at g2
                      obtain ⟨_, b2, hb2, rfl⟩ := g2
                      rw [e2] at hb2
                      simp at hb2
                      subst hb2
                      have hρ : act.eval (.tmp u) = .pointer (some ⟨b', off, none⟩) := by
                        simp at g1
                        simp [Act.eval, g1]
                      have hcell := load_cell hE hty e3 hld hop2 hρ hran
                      refine ⟨b', cv, e2, ?_, ?_⟩
                      · rw [act_put_size] at hlt2
                        rw [hdd]
                        simp [Act.put, hlt2]
                      · rcases hcell with hcell | hcell
                        · left
                          have hsame := obj_same hp.rel.locs hp.rel.heap hkeep (by intro x hx; simp [hx]) (by intro x hx; simp [hx]) _ _ _ hob e2
                          rw [cell_same hsame]
                          exact hcell
                        · exact .inr hcell
                  · simp at hop
                · exact c2 j q T u t' n off ob hji htk hl hqo hop2 hdd hg hu hok hob hlt2
            · simp at hq
          · simp at hq
        · simp at hq
  · -- not wanted
    rename_i hb
    simp at hq
    subst hq
    rw [if_neg hb]
    obtain ⟨bsT', hr2⟩ := unwanted_rel hp.rel o.dst
    obtain ⟨c1, c2⟩ := hp.carry (cv := undef) [] hc hcl hi hun hm (keep_refl _) (fun _ _ _ _ _ _ => rfl) (fun _ _ h => h) hlocs hT
    have hng : o.guard ≠ none := by
      intro hg
      unfold wantedA at hw
      rw [hg] at hw
      simp at hw
      exact hb hw
    refine hK undef w R bsT' bsX ⟨hr2, ?_, ?_⟩ (keep_refl _)
    · intro j q t' d ti' hnw hl hqo hop2 hdd hg hty hlt2
      by_cases hji : j = i
      · subst hji
        rw [hi] at hqo
        simp at hqo
        subst hqo
        exact absurd hg hng
      · simpa using c1 j q t' d ti' hji hnw hl hqo hop2 hdd hg hty hlt2
    · intro j q T u t' n off ob htk hl hqo hop2 hdd hg hu hok hob hlt2
      by_cases hji : j = i
      · subst hji
        rw [hi] at hqo
        simp at hqo
        subst hqo
        exact absurd hg hng
      · exact c2 j q T u t' n off ob hji htk hl hqo hop2 hdd hg hu hok hob hlt2
end
end Go.Tp
