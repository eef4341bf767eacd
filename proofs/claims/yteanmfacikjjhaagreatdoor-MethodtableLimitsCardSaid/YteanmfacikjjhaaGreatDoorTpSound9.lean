/- The generic layer: objects: stores, new objects, maps. -/
import Derived.Test.YteanmfacikjjhaaGreatDoorTpSound8
namespace Go.Tp

section
variable {P : Program} {E : TEnv} {w : World} {R : Own} {N : Name → Option Nat}

theorem putL_length {α : Type} : ∀ (off : Nat) (ns l : List α), (putL off ns l).length = l.length
  | off, [], l => by cases off <;> cases l <;> rfl
  | off, n :: ns, [] => by cases off <;> rfl
  | 0, n :: ns, a :: l => by simp [putL, putL_length 0 ns l]
  | off + 1, n :: ns, a :: l => by simp [putL, putL_length off (n :: ns) l]

theorem splice_putL (off : Nat) (ns l : List Value) (h : off + ns.length ≤ l.length) : l.take off ++ ns ++ l.drop (off + ns.length) = putL off ns l := by
  apply List.ext_getElem?
  intro k
  rw [putL_get]
  have hl : (l.take off).length = off := by simp; omega
  by_cases q1 : k < off
  · rw [if_neg (by omega), List.append_assoc, List.getElem?_append_left (by omega), List.getElem?_take_of_lt q1]
  · by_cases q2 : k < off + ns.length
    · rw [if_pos (by omega), List.getElem?_append_left (by simp; omega), List.getElem?_append_right (by omega), hl]
    · rw [if_neg (by omega), List.getElem?_append_right (by simp; omega), List.getElem?_drop]
      simp only [List.length_append, hl]
      congr 1
      omega

theorem putL_pad {off : Nat} {ns cs ps : List AVal} (h : off + ns.length ≤ cs.length) : putL off ns (cs ++ ps) = putL off ns cs ++ ps := by
  apply List.ext_getElem?
  intro j
  rw [putL_get, List.getElem?_append, List.getElem?_append, putL_get, putL_length]
  simp only [List.length_append]
  by_cases q : off ≤ j ∧ j < off + ns.length ∧ j < cs.length
  · rw [if_pos ⟨q.1, q.2.1, by omega⟩, if_pos (by omega), if_pos q]
  · rw [if_neg (by omega)]
    split
    · rfl
    · rfl

theorem bldSh_taken {off : Nat} {es es' : List Dat} {cs : List AVal} (hes : cs[off]? = some (.own es')) (h : bldSh (putL off [.dat (.slice es)] cs) = true) : bldSh cs = true := by
  obtain ⟨p, q, e, hp, hq⟩ := bldSh_iff.1 h
  have hl := congrArg List.length e
  rw [putL_length] at hl
  match cs, off, hl with
  | [a, b], 0, _ =>
    simp [putL] at e
    rw [← e.1] at hp
    simp [isP] at hp
  | [a, b], 1, _ =>
    simp [putL] at e hes
    subst hes
    exact bldSh_iff.2 ⟨a, _, rfl, by rw [e.1]; exact hp, rfl⟩
  | [a, b], off + 2, _ => simp at hes

theorem sound_store (hE : E.Ok P) {t : TypeId} {n : Name} {off b : Nat} {v : AVal} {x : Value} {cs : List AVal} {out : Out} (h : aStore E t [.ptr n off, v] (some (.cells cs)) = some out)
    {b1 bsV : List Nat} (hob : RepObj w R N (.cells cs) b b1) (hv : RepV w R N v x bsV) (bs : List Nat) (hb : b ∉ bs) (hb1 : b ∉ b1) (hbV : b ∉ bsV) :
    out.val = .undef ∧ ∃ cs', out.eff = .set (.cells cs') ∧ ∃ w' pre mid post, (Instr.storeAt t (.pointer (some ⟨b, off, none⟩)) x).run P w = .ok () w' ∧ Keep w R w' R bs ∧ b1 = pre ++ mid ++ post ∧ RepObj w' R N (.cells cs') b (pre ++ bsV ++ post) := by
  simp only [aStore] at h
  split at h
  · rename_i i cs0 hty heq
    simp at heq
    subst heq
    split at h
    · rename_i hc
      obtain ⟨hlen, hfit, hok, hpos, hbld⟩ := hc
      simp at h
      subst h
      refine ⟨rfl, _, rfl, ?_⟩
      obtain ⟨vs, elem, sp, hblk, hr, hR, hsh⟩ := hob
      have hcells := acells_rep hv hok
      have hcl := hcells.length
      have hvl := hr.length
      simp only [List.length_append, List.length_replicate] at hvl
      have hone := okCells_one hcells hok
      have hfit' : off + x.cells.toList.length ≤ vs.size := by simp at hvl hcl ⊢; omega
      have hrun := run_storeRow (P := P) (w := w) b off elem x.cells.toList vs hblk hfit' hone
      rw [splice_putL off x.cells.toList vs.toList (by simpa using hfit')] at hrun
      have hsz : (putL off x.cells.toList vs.toList).toArray.size = vs.size := by simp [putL_length]
      have hvpos : 0 < vs.size := by simp at hvl hcl; omega
      have hkeepB : ∀ bs : List Nat, b ∉ bs → Keep w R (w.setRow b (putL off x.cells.toList vs.toList).toArray) R bs := fun bs hb =>
        step_setRow hblk _ hsz (fun _ _ h => h) (fun _ _ _ h => h) (fun o hnR => by
          have : ¬ o < vs.size := fun hlt => hnR (hR o hlt)
          rw [Array.getElem?_eq_none (by omega), Array.getElem?_eq_none (by omega)]) ⟨0, hR 0 hvpos⟩ bs hb
      obtain ⟨pre, mid, post, e, hput⟩ := repVs_putL off (ns := acells v) (us := x.cells.toList) hr (by simp; omega) hcl
      refine ⟨_, pre, mid, post, ?_, hkeepB bs hb, e, ?_⟩
      · have : x.cells.size = i.size := by simp at hcl; omega
        simp [Instr.storeAt, Instr.sureAddr, storeVar, hE.run_size hty, this, hrun]
      · refine ⟨(putL off x.cells.toList vs.toList).toArray, elem, sp, setRow_heap w b vs _ elem _ hblk, ?_, fun j hj => hR j (by omega), fun hb => hsh (by rw [hb] at hbld; simpa using hbld)⟩
        have hk1 := hkeepB (pre ++ post) (by intro h'; exact hb1 (by rw [e]; simp at h' ⊢; rcases h' with h' | h' <;> simp [h']))
        have hk2 := hkeepB bsV hbV
        rw [← putL_pad (by omega)]
        simpa using hput bsV _ _ hk1 (hcells.keep hk2)
    · simp at h
  · simp at h

/-- The writable cells, a new block among them. -/
def Own.more (R : Own) (n : Nat) : Own := fun b off => b = n ∨ R b off

theorem Own.more_iff {R : Own} {n b off : Nat} (hb : b < n) : (R.more n b off ↔ R b off) := ⟨fun h => by rcases h with h | h; omega; exact h, fun h => .inr h⟩

/-- A new object of cells. -/
theorem new_cells {cs : List AVal} {vs : Array Value} {bsV : List Nat} (hr : RepVs w R N cs vs.toList bsV) (elem : TypeId) (hsh : bldSh cs = true → elem = bldId) (bs : List Nat) :
    Keep w R (w.alloc (.cells vs elem)) (R.more w.heap.size) bs ∧ RepObj (w.alloc (.cells vs elem)) (R.more w.heap.size) N (.cells cs) w.heap.size bsV := by
  have hk := fun bs => keep_alloc (w := w) (R := R) (.cells vs elem) (R' := R.more w.heap.size) (fun b off hb => Own.more_iff hb) bs
  exact ⟨hk bs, vs, elem, 0, heap_alloc_new w _, by simpa using hr.keep (hk bsV), fun j _ => .inl rfl, fun h => ⟨hsh h, rfl⟩⟩

theorem borns_empty : Borns #[] 0 := ⟨by simp, by simp⟩

theorem borns_push {ents : Array MapEntry} {clock : Nat} (h : Borns ents clock) {k v : Value} : Borns (ents.push { key := k, val := v, born := clock }) (clock + 1) := by
  obtain ⟨h1, h2⟩ := h
  constructor
  · intro x hx
    simp at hx
    rcases hx with hx | rfl
    · have := h1 x (by simpa using hx); omega
    · simp
  · simp only [Array.toList_push, List.map_append, List.map_cons, List.map_nil, List.nodup_append]
    refine ⟨h2, by simp, ?_⟩
    intro a ha b hb e
    simp only [List.mem_map] at ha
    obtain ⟨x, hx, rfl⟩ := ha
    simp at hb
    subst hb
    have := h1 x hx
    omega

theorem map_modify_born (f : MapEntry → MapEntry) (hf : ∀ e, (f e).born = e.born) : ∀ (l : List MapEntry) (i : Nat), (l.modify i f).map (·.born) = l.map (·.born)
  | [], i => by cases i <;> simp
  | e :: l, 0 => by simp [hf]
  | e :: l, i + 1 => by simpa using map_modify_born f hf l i

theorem borns_modify {ents : Array MapEntry} {clock : Nat} (h : Borns ents clock) (i : Nat) (f : MapEntry → MapEntry) (hf : ∀ e, (f e).born = e.born) : Borns (ents.modify i f) clock := by
  obtain ⟨h1, h2⟩ := h
  have hm := map_modify_born f hf ents.toList i
  refine ⟨?_, by simpa [hm] using h2⟩
  intro x hx
  have hx' : x.born ∈ (ents.toList.modify i f).map (·.born) := List.mem_map.2 ⟨x, by simpa using hx, rfl⟩
  rw [hm] at hx'
  obtain ⟨y, hy, e⟩ := List.mem_map.1 hx'
  have := h1 y hy
  omega

theorem borns_erase {ents : Array MapEntry} {clock : Nat} (h : Borns ents clock) (i : Nat) : Borns (ents.eraseIdxIfInBounds i) clock := by
  obtain ⟨h1, h2⟩ := h
  have hs : (ents.eraseIdxIfInBounds i).toList.Sublist ents.toList := by
    simp only [Array.toList_eraseIdxIfInBounds]
    exact List.eraseIdx_sublist ents.toList i
  exact ⟨fun x hx => h1 x (hs.subset hx), h2.sublist (hs.map _)⟩

theorem new_map (bs : List Nat) :
    Keep w R (w.alloc (.map #[] 0)) (R.more w.heap.size) bs ∧ RepObj (w.alloc (.map #[] 0)) (R.more w.heap.size) N (.map []) w.heap.size [] := by
  have hk := fun bs => keep_alloc (w := w) (R := R) (.map #[] 0) (R' := R.more w.heap.size) (fun b off hb => Own.more_iff hb) bs
  exact ⟨hk bs, rfl, .inl rfl, #[], 0, heap_alloc_new w _, rfl, borns_empty⟩

/-- A map's block set anew. -/
theorem keep_setMap {b clock clock' : Nat} {ents ents' : Array MapEntry} (hb : w.heap[b]? = some (.map ents clock)) (hR : R b 0) (bs : List Nat) (hbs : b ∉ bs) :
    Keep w R { w with heap := w.heap.setIfInBounds b (.map ents' clock') } R bs := by
  have hother : ∀ c, c ≠ b → (w.heap.setIfInBounds b (.map ents' clock'))[c]? = w.heap[c]? := fun c hc => by simp [Array.getElem?_setIfInBounds_ne (Ne.symm hc)]
  refine ⟨⟨rfl, rfl, rfl, by simp, fun c hc hnR => ⟨hother c (fun e => hnR 0 (e ▸ hR)), hnR⟩, fun c off hc hnR => ⟨hnR, ?_⟩, fun c hc => ?_⟩, fun c hc _ => ⟨hother c (fun e => hbs (e ▸ hc)), fun _ h => h⟩⟩
  · by_cases hcb : c = b
    · subst hcb
      have h2 : (w.heap.setIfInBounds c (.map ents' clock'))[c]? = some (.map ents' clock') := by simp [lt_of_heap hb]
      simp only [World.cell?, hb, h2]
    · exact World.cell?_of_block (a := ⟨c, off, none⟩) (hother c hcb)
  · by_cases hcb : c = b
    · subst hcb
      have h2 : (w.heap.setIfInBounds c (.map ents' clock'))[c]? = some (.map ents' clock') := by simp [lt_of_heap hb]
      simp only [rowSize, hb, h2]
    · exact rowSize_same (hother c hcb)

theorem bytes_beq' (a b : ByteArray) : (a == b) = true ↔ a = b := by
  constructor
  · intro h
    obtain ⟨a⟩ := a
    obtain ⟨b⟩ := b
    have : (a == b) = true := h
    rw [eq_of_beq this]
  · rintro rfl
    obtain ⟨a⟩ := a
    show (a == a) = true
    simp

theorem same_key {td : TypeDesc} (hk : td = .string ∨ (∃ k, td = .int k) ∨ td = .bool) {x y : Value} (h : Instr.sameNow td x y = some true) : x = y ∧ ∀ n, Instr.sameBits n y x = true := by
  rcases hk with rfl | ⟨k, rfl⟩ | rfl
  · cases x <;> cases y <;> simp [Instr.sameNow] at h
    have h' := (bytes_beq' _ _).1 h
    subst h'
    exact ⟨rfl, fun n => by cases n <;> simpa [Instr.sameBits] using h⟩
  · cases x <;> cases y <;> simp [Instr.sameNow] at h
    obtain ⟨rfl, rfl⟩ := h
    exact ⟨rfl, fun n => by cases n <;> simp [Instr.sameBits]⟩
  · cases x <;> cases y <;> simp [Instr.sameNow] at h
    subst h
    exact ⟨rfl, fun n => by cases n <;> simp [Instr.sameBits]⟩

theorem repMap_set : ∀ {es : List (Value × Dat)} {ents : List MapEntry} {i : Nat} {e : MapEntry} {d : Dat} {f : MapEntry → MapEntry}, RepMap w R es ents → ents[i]? = some e → (f e).key = e.key → RepD w R (f e).val d →
    RepMap w R (setAt i d es) (ents.modify i f)
  | [], _, i, e, d, f, h, he, _, _ => by simp [RepMap] at h; subst h; simp at he
  | (k, x) :: es, _, 0, e, d, f, ⟨e0, es', h1, h2, h3, h4⟩, he, hk, hd => by
    subst h1
    simp at he
    subst he
    exact ⟨f e0, es', by simp, by rw [hk]; exact h2, hd, h4⟩
  | (k, x) :: es, _, i + 1, e, d, f, ⟨e0, es', h1, h2, h3, h4⟩, he, hk, hd => by
    subst h1
    simp at he
    exact ⟨e0, es'.modify i f, by simp, h2, h3, repMap_set h4 he hk hd⟩

theorem repMap_del : ∀ {es : List (Value × Dat)} {ents : List MapEntry} {i : Nat}, RepMap w R es ents → RepMap w R (delAt i es) (ents.eraseIdx i)
  | [], _, i, h => by simp [RepMap] at h; subst h; simp [delAt, RepMap]
  | (k, x) :: es, _, 0, ⟨e0, es', h1, h2, h3, h4⟩ => by subst h1; simpa [delAt] using h4
  | (k, x) :: es, _, i + 1, ⟨e0, es', h1, h2, h3, h4⟩ => by subst h1; exact ⟨e0, es'.eraseIdx i, by simp, h2, h3, repMap_del h4⟩

theorem repMap_push : ∀ {es : List (Value × Dat)} {ents : List MapEntry} {e : MapEntry} {k : Value} {d : Dat}, RepMap w R es ents → e.key = k → RepD w R e.val d → RepMap w R (es ++ [(k, d)]) (ents ++ [e])
  | [], _, e, k, d, h, hk, hd => by simp [RepMap] at h; subst h; exact ⟨e, [], by simp, hk, hd, rfl⟩
  | (x, y) :: es, _, e, k, d, ⟨e0, es', h1, h2, h3, h4⟩, hk, hd => by subst h1; exact ⟨e0, es' ++ [e], by simp, h2, h3, repMap_push h4 hk hd⟩

theorem sound_mapUpdate (hE : E.Ok P) {t : TypeId} {n : Name} {b : Nat} {kv v : AVal} {kx x : Value} {es : List (Value × Dat)} {out : Out} (h : aMapUpdate E t [.map n, kv, v] (some (.map es)) = some out)
    (hob : RepObj w R N (.map es) b []) (hk : RepV w R N kv kx []) {bsV : List Nat} (hv : RepV w R N v x bsV) (bs : List Nat) (hb : b ∉ bs) :
    out.val = .undef ∧ ∃ es', out.eff = .set (.map es') ∧ ∃ w', (Instr.mapUpdate t (.map (some b)) kx x).run P w = .ok () w' ∧ Keep w R w' R bs ∧ RepObj w' R N (.map es') b [] := by
  unfold aMapUpdate at h
  split at h
  · rename_i n' k v' heq
    simp at heq
    obtain ⟨rfl, rfl, rfl⟩ := heq
    obtain ⟨_, rfl, _⟩ := repV_flat_inv hk
    split at h
    · rename_i kt et es0 hd heq2
      simp at heq2
      subst heq2
      split at h
      · rename_i td d hkd hdat
        obtain ⟨hku, hkk⟩ := key_ok hE hkd
        have hmu := hE.desc_map hd
        obtain ⟨_, hR, ents, clock, hblk, hrm, hbo⟩ := hob
        have hdr := asDat_rep hv hdat
        have hset : ∀ o, (setObj b o).run P w = .ok () { w with heap := w.heap.setIfInBounds b o } := fun o => by simp [setObj, Sem.run, hblk]
        have hget : (getObj b).run P w = .ok (.map ents clock) w := by simp [getObj, Sem.run, hblk]
        split at h
        · rename_i i d0 hf
          simp at h
          subst h
          refine ⟨rfl, _, rfl, ?_⟩
          obtain ⟨e, f1, f2, f3, f4, f5, f6⟩ := findKey_now td _ hrm (key_std hE hf)
          simp at f1
          obtain ⟨hsame, hbits⟩ := same_key hkk f5
          refine ⟨{ w with heap := w.heap.setIfInBounds b (.map (ents.modify i fun e => { e with key := kx, val := x }) clock) }, ?_, keep_setMap hblk hR bs hb, ?_⟩
          · simp [Instr.mapUpdate, run_und hmu, hget, run_checkKey hku hkk, run_findKey hku f3, Instr.keyThatStays, f1, hbits, hset]
          · have hk' := keep_setMap (R := R) (ents' := ents.modify i fun e => { e with key := kx, val := x }) (clock' := clock) hblk hR [] (by simp)
            refine ⟨rfl, hR, ents.modify i (fun e => { e with key := kx, val := x }), clock, by simp [lt_of_heap hblk], ?_, borns_modify hbo i _ fun _ => rfl⟩
            have := repMap_set (f := fun e => { e with key := kx, val := x }) hrm (by simpa using f1) (by simpa using hsame) hdr
            simpa using this.step hk'.step
        · rename_i hf
          simp at h
          subst h
          refine ⟨rfl, _, rfl, ?_⟩
          have f3 := findKey_now td _ hrm (key_std hE hf)
          refine ⟨{ w with heap := w.heap.setIfInBounds b (.map (ents.push { key := kx, val := x, born := clock }) (clock + 1)) }, ?_, keep_setMap hblk hR bs hb, ?_⟩
          · simp [Instr.mapUpdate, run_und hmu, hget, run_checkKey hku hkk, run_findKey hku f3, hset]
          · have hk' := keep_setMap (R := R) (ents' := ents.push { key := kx, val := x, born := clock }) (clock' := clock + 1) hblk hR [] (by simp)
            refine ⟨rfl, hR, ents.push { key := kx, val := x, born := clock }, clock + 1, by simp [lt_of_heap hblk], ?_, borns_push hbo⟩
            have := repMap_push (e := { key := kx, val := x, born := clock }) hrm rfl hdr
            simpa using this.step hk'.step
        · simp at h
      · simp at h
    · simp at h
  · simp at h

theorem sound_delete (hE : E.Ok P) {t ty : TypeId} {ats : Array TypeId} (hat : ats[0]? = some t) {n : Name} {b : Nat} {kv : AVal} {kx : Value} {es : List (Value × Dat)} {out : Out} (h : aDelete E t [.map n, kv] (some (.map es)) = some out)
    (hob : RepObj w R N (.map es) b []) (hk : RepV w R N kv kx []) (bs : List Nat) (hb : b ∉ bs) :
    ∃ cv w', (Builtin.delete_ ats ty #[.map (some b), kx]).run P w = .ok cv w' ∧ Keep w R w' R bs ∧ RepV w' R N out.val cv [] ∧
      ∃ es', out.eff = .set (.map es') ∧ RepObj w' R N (.map es') b [] := by
  unfold aDelete at h
  split at h
  · rename_i n' k heq
    simp at heq
    obtain ⟨rfl, rfl⟩ := heq
    obtain ⟨_, rfl, _⟩ := repV_flat_inv hk
    split at h
    · rename_i kt et es0 hd heq2
      simp at heq2
      subst heq2
      split at h
      · rename_i td hkd
        obtain ⟨hku, hkk⟩ := key_ok hE hkd
        have hmu := hE.desc_map hd
        obtain ⟨_, hR, ents, clock, hblk, hrm, hbo⟩ := hob
        have hset : ∀ o, (setObj b o).run P w = .ok () { w with heap := w.heap.setIfInBounds b o } := fun o => by simp [setObj, Sem.run, hblk]
        have hget : (getObj b).run P w = .ok (.map ents clock) w := by simp [getObj, Sem.run, hblk]
        have htup : ∀ w', RepV w' R N (.tup []) (.tuple #[]) [] := fun w' => by simp only [RepV]; exact ⟨[], rfl, repVs_nil⟩
        split at h
        · rename_i i d0 hf
          simp at h
          subst h
          obtain ⟨e, f1, f2, f3, f4, f5, f6⟩ := findKey_now td _ hrm (key_std hE hf)
          refine ⟨.tuple #[], { w with heap := w.heap.setIfInBounds b (.map (ents.eraseIdxIfInBounds i) clock) }, ?_, keep_setMap hblk hR bs hb, htup _, ⟨_, rfl, rfl, hR, ents.eraseIdxIfInBounds i, clock, by simp [lt_of_heap hblk], ?_, borns_erase hbo i⟩⟩
          · simp [Builtin.delete_, hat, run_und hmu, hget, run_checkKey hku hkk, run_findKey hku f3, hset]
          · have hk' := keep_setMap (R := R) (ents' := ents.eraseIdxIfInBounds i) (clock' := clock) hblk hR [] (by simp)
            have := (repMap_del (i := i) hrm).step hk'.step
            simpa using this
        · rename_i hf
          simp at h
          subst h
          have f3 := findKey_now td _ hrm (key_std hE hf)
          refine ⟨.tuple #[], { w with heap := w.heap.setIfInBounds b (.map ents clock) }, ?_, keep_setMap hblk hR bs hb, htup _, ⟨_, rfl, rfl, hR, ents, clock, by simp [lt_of_heap hblk], ?_, hbo⟩⟩
          · simp [Builtin.delete_, hat, run_und hmu, hget, run_checkKey hku hkk, run_findKey hku f3, hset]
          · exact hrm.step (keep_setMap (R := R) (ents' := ents) (clock' := clock) hblk hR [] (by simp)).step
        · simp at h
      · simp at h
    · simp at h
  · simp at h
end
end Go.Tp
