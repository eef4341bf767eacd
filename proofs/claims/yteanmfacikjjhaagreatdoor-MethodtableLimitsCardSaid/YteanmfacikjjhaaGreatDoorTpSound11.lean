/- The generic layer: operands, and what each operation does, in one form. -/
import Derived.Laws.MakeOwn
import Derived.Test.YteanmfacikjjhaaGreatDoorTpSound10
namespace Go.Tp

section
variable {P : Program} {E : TEnv} {G : Globs} {w : World} {R : Own} {N : Name → Option Nat}

theorem eval_raw {s : AState} {act : Act} {bsT : List Nat} (ht : RepVs w R N s.tmps act.tmps.toList bsT) (hg : ∀ g cs, G g = some cs → RepAt w R g 0 cs) (x : Operand) :
    ∃ bs, RepV w R N (aeval G s x) (act.eval x) bs := by
  cases x with
  | tmp t =>
    simp only [aeval, getT, Act.eval]
    cases h : s.tmps[t]? with
    | none => exact ⟨[], repV_undef _⟩
    | some a =>
      obtain ⟨v, b', e1, e2, _⟩ := repVs_get ht h
      have : act.tmps.getD t undef = v := by simp at e1; simp [e1]
      exact ⟨b', by rw [this]; exact e2⟩
  | const v => exact ⟨[], ofConst_rep v⟩
  | global g =>
    simp only [aeval, Act.eval]
    cases h : G g with
    | none => exact ⟨[], repV_undef _⟩
    | some cs => exact ⟨[], by simp only [RepV]; exact ⟨trivial, g, 0, rfl, hg g cs h⟩⟩
  | func f => exact ⟨[], by simp only [aeval, Act.eval, RepV]; exact ⟨trivial, [], [], rfl, repVs_nil, repVs_nil⟩⟩

theorem eval_copy {s : AState} {act : Act} {bsT : List Nat} (ht : RepVs w R N s.tmps act.tmps.toList bsT) (hg : ∀ g cs, G g = some cs → RepAt w R g 0 cs) (x : Operand) :
    RepV w R N (unOwn (aeval G s x)) (act.eval x) [] := by
  obtain ⟨bs, h⟩ := eval_raw ht hg x
  exact unOwn_rep h

theorem args_copy {s : AState} {act : Act} {bsT : List Nat} (ht : RepVs w R N s.tmps act.tmps.toList bsT) (hg : ∀ g cs, G g = some cs → RepAt w R g 0 cs) (mv : Option Nat) : ∀ (k : Nat) (xs : List Operand),
    (∀ j, mv = some j → j < k ∨ k + xs.length ≤ j) → RepVs w R N (evalArgs G s mv k xs) (xs.map act.eval) []
  | _, [], _ => by simpa [evalArgs] using repVs_nil
  | k, x :: xs, h => by
    have hne : mv ≠ some k := fun e => by rcases h k e with h | h <;> simp at h <;> omega
    simp only [evalArgs, if_neg hne, List.map_cons]
    exact repVs_cons (b1 := []) (b2 := []) (eval_copy ht hg x) (args_copy ht hg mv (k + 1) xs (fun j hj => by have := h j hj; simp only [List.length_cons] at this; omega))

/-- The operands' values, the moved one with what it owns; the slot that it came from owns nothing. -/
theorem args_take {s : AState} {act : Act} {bsT : List Nat} (ht : RepVs w R N s.tmps act.tmps.toList bsT) (hg : ∀ g cs, G g = some cs → RepAt w R g 0 cs) (mv : Option Nat) (xs : List Operand) (rest : List Nat) (hnd : (bsT ++ rest).Nodup) :
    ∃ bsM bsT', RepVs w R N (evalArgs G s mv 0 xs) (xs.map act.eval) bsM ∧ RepVs w R N (dropOwn s mv xs).tmps act.tmps.toList bsT' ∧ (bsM ++ (bsT' ++ rest)).Nodup ∧ (mv = none → bsM = []) := by
  cases mv with
  | none => exact ⟨[], bsT, args_copy ht hg none 0 xs (by simp), by simpa [dropOwn] using ht, by simpa using hnd, fun _ => rfl⟩
  | some k =>
    -- the part with operand k
    have key : ∀ (xs : List Operand) (j : Nat), j ≤ k → ∀ bk, (∀ x, xs[k - j]? = some x → RepV w R N (aeval G s x) (act.eval x) bk) → (xs.length ≤ k - j → bk = []) → RepVs w R N (evalArgs G s (some k) j xs) (xs.map act.eval) bk := by
      intro xs
      induction xs with
      | nil => intro j _ bk _ h0; rw [h0 (by simp)]; simpa [evalArgs] using repVs_nil
      | cons x xs ih =>
        intro j hj bk hx h0
        by_cases hjk : k = j
        · subst hjk
          simp only [evalArgs, if_true, List.map_cons]
          have h1 := hx x (by simp)
          have h2 := args_copy ht hg (some k) (k + 1) xs (fun j hj => by simp at hj; omega)
          simpa using repVs_cons h1 h2
        · have hne : (some k : Option Nat) ≠ some j := by simpa using hjk
          simp only [evalArgs, if_neg hne, List.map_cons]
          have e : k - j = (k - (j + 1)) + 1 := by omega
          exact repVs_cons (b1 := []) (eval_copy ht hg x) (ih (j + 1) (by omega) bk (fun y hy => hx y (by rw [e]; simpa using hy)) (fun hl => h0 (by simp; omega)))
    cases hk : xs[k]? with
    | none =>
      have hl : xs.length ≤ k := by simpa using hk
      exact ⟨[], bsT, key xs 0 (by omega) [] (fun x hx => by rw [Nat.sub_zero, hk] at hx; simp at hx) (fun _ => rfl), by simpa [dropOwn, hk] using ht, by simpa using hnd, by simp⟩
    | some x =>
      have hnl : ¬ xs.length ≤ k - 0 := fun hl => by rw [List.getElem?_eq_none (by simpa using hl)] at hk; simp at hk
      cases x with
      | tmp t =>
        cases hg2 : s.tmps[t]? with
        | none =>
          have hu : getT s.tmps t = .undef := by simp [getT, hg2]
          refine ⟨[], bsT, key xs 0 (by omega) [] (fun y hy => ?_) (fun hl => absurd hl hnl), ?_, by simpa using hnd, by simp⟩
          · rw [Nat.sub_zero, hk] at hy
            simp at hy
            subst hy
            simp only [aeval, hu]
            exact repV_undef _
          · have : s.tmps.set t (unOwn (getT s.tmps t)) = s.tmps := List.set_eq_of_length_le (by simpa using hg2)
            simp only [dropOwn, hk, this]
            exact ht
        | some a =>
          obtain ⟨pre, bt, post, v, e1, e2, e3, e4⟩ := RepVs.split ht hg2
          have hgt : getT s.tmps t = a := by simp [getT, hg2]
          have hev : act.eval (.tmp t) = v := by simp at e2; simp [Act.eval, e2]
          refine ⟨bt, pre ++ [] ++ post, key xs 0 (by omega) bt (fun y hy => ?_) (fun hl => absurd hl hnl), ?_, ?_, by simp⟩
          · rw [Nat.sub_zero, hk] at hy
            simp at hy
            subst hy
            rw [hev]
            simp only [aeval, hgt]
            exact e3
          · have := e4 w R (unOwn a) v [] (keep_refl _) (unOwn_rep e3)
            have hset : act.tmps.toList.set t v = act.tmps.toList := by
              apply List.ext_getElem?
              intro j
              rw [List.getElem?_set]
              split
              · rename_i htj; subst htj; split
                · exact e2.symm
                · rename_i hl; rw [List.getElem?_eq_none (by omega)]
              · rfl
            rw [hset] at this
            simp only [dropOwn, hk, hgt]
            exact this
          · subst e1
            have hp : (bt ++ ((pre ++ [] ++ post) ++ rest)).Perm ((pre ++ bt ++ post) ++ rest) := by
              simp only [List.append_nil, ← List.append_assoc]
              refine List.Perm.append_right _ (List.Perm.append_right _ ?_)
              exact List.perm_append_comm
            exact hp.nodup_iff.2 hnd
      | const v => exact ⟨[], bsT, key xs 0 (by omega) [] (fun y hy => by rw [Nat.sub_zero, hk] at hy; simp at hy; subst hy; exact ofConst_rep v) (fun hl => absurd hl hnl), by simpa [dropOwn, hk] using ht, by simpa using hnd, by simp⟩
      | global g =>
        refine ⟨[], bsT, key xs 0 (by omega) [] (fun y hy => ?_) (fun hl => absurd hl hnl), by simpa [dropOwn, hk] using ht, by simpa using hnd, by simp⟩
        rw [Nat.sub_zero, hk] at hy
        simp at hy
        subst hy
        simp only [aeval, Act.eval]
        cases h : G g with
        | none => exact repV_undef _
        | some cs => simp only [RepV]; exact ⟨trivial, g, 0, rfl, hg g cs h⟩
      | func f =>
        refine ⟨[], bsT, key xs 0 (by omega) [] (fun y hy => ?_) (fun hl => absurd hl hnl), by simpa [dropOwn, hk] using ht, by simpa using hnd, by simp⟩
        rw [Nat.sub_zero, hk] at hy
        simp at hy
        subst hy
        simp only [aeval, Act.eval, RepV]
        exact ⟨trivial, [], [], rfl, repVs_nil, repVs_nil⟩

/-! #### What an operation does -/

/-- Blocks of the moved operand, of the looked-at object, or new ones. -/
def From (w : World) (bs : List Nat) (xs : List Nat) : Prop := xs.Nodup ∧ ∀ b ∈ xs, b ∈ bs ∨ w.heap.size ≤ b

/-- The blocks of the looked-at object. -/
def nmL : Option (Nat × List Nat) → List Nat
  | none => []
  | some (b, b1) => b :: b1

/-- The outcome of an operation, in one form. 'nm': the block of the object that it looks at, and what that object owns. -/
def OutOk (w : World) (R : Own) (N : Name → Option Nat) (ob : Option AObj) (nm : Option (Nat × List Nat)) (bsM rest : List Nat) (out : Out) (cv : Value) (w' : World) (R' : Own) : Prop :=
  Keep w R w' R' rest ∧
  match out.eff with
  | .keep => ∃ bsV, RepV w' R' N out.val cv bsV ∧ From w bsM bsV ∧ (∀ b b1 o, nm = some (b, b1) → ob = some o → RepObj w' R' N o b b1) ∧ (nm = none ∨ (w' = w ∧ R' = R))
  | .set o' => ∃ b b1 b1' bsV, nm = some (b, b1) ∧ RepObj w' R' N o' b b1' ∧ RepV w' R' N out.val cv bsV ∧ From w (bsM ++ b1) (bsV ++ b1')
  | .grow o' sz len => ∃ b' b1' cap, RepObj w' R' N o' b' b1' ∧ From w (bsM ++ nmL nm) (b' :: b1') ∧ cv = .slice (some ⟨b', 0, none⟩) len cap ∧ len ≤ cap ∧ 0 < sz ∧ b' < w'.heap.size ∧ cap * sz = rowSize w' b'
  | .fresh o' => nm = none ∧ ∃ b1', RepObj w' R' N o' w.heap.size b1' ∧ (b1'.Nodup ∧ ∀ b ∈ b1', b ∈ bsM) ∧ w.heap.size < w'.heap.size ∧ cv = (match o' with | .cells _ => .pointer (some ⟨w.heap.size, 0, none⟩) | .map _ => .map (some w.heap.size))
  | .row o' sz len => nm = none ∧ ∃ b1', RepObj w' R' N o' w.heap.size b1' ∧ (b1'.Nodup ∧ ∀ b ∈ b1', b ∈ bsM) ∧ w.heap.size < w'.heap.size ∧ ∃ cap, cv = .slice (some ⟨w.heap.size, 0, none⟩) len cap ∧ len ≤ cap ∧ 0 < sz ∧ cap * sz = rowSize w' w.heap.size
  | .new o' => nm = none ∧ ∃ b1', RepObj w' R' N o' w.heap.size b1' ∧ (b1'.Nodup ∧ ∀ b ∈ b1', b ∈ bsM) ∧ w.heap.size < w'.heap.size ∧ cv = (match o' with | .cells _ => .pointer (some ⟨w.heap.size, 0, none⟩) | .map _ => .map (some w.heap.size))

theorem From.nil {bs : List Nat} : From w bs [] := ⟨List.nodup_nil, by simp⟩
theorem From.self {bs : List Nat} (h : bs.Nodup) : From w bs bs := ⟨h, fun _ hb => .inl hb⟩

/-- An operation that changes nothing and looks at nothing. -/
theorem OutOk.pure {out : Out} {cv : Value} {ob : Option AObj} {nm : Option (Nat × List Nat)} {bsM rest bsV : List Nat} (he : out.eff = .keep) (hv : RepV w R N out.val cv bsV) (hf : From w bsM bsV)
    (hob : ∀ b b1 o, nm = some (b, b1) → ob = some o → RepObj w R N o b b1) : OutOk w R N ob nm bsM rest out cv w R := by
  refine ⟨keep_refl _, ?_⟩
  rw [he]
  exact ⟨bsV, hv, hf, hob, .inr ⟨rfl, rfl⟩⟩

/-! #### Rows that grow -/
theorem growRow_spec (hE : E.Ok P) {i : TI} {len : Nat} {cs : List AVal} {x : AVal} {out : Out} (h : growRow E i len cs x = some out) :
    ∃ ds, x = .dat (.slice ds) ∧ 0 < i.size ∧ (∀ d ∈ ds, d.cells.length = i.size) ∧ (len + ds.length) * i.bytes ≤ 140737488355328 ∧ len + ds.length ≤ lim ∧ len * i.size ≤ cs.length ∧ bldSh (cs.take (len * i.size) ++ (ds.flatMap Dat.cells).map .dat) = false ∧
      out = ⟨.undef, .grow (.cells (cs.take (len * i.size) ++ (ds.flatMap Dat.cells).map .dat)) i.size (len + ds.length)⟩ := by
  unfold growRow at h
  split at h
  · rename_i r hap
    obtain ⟨ds, rfl, hs0, hds, _, _, _, _, rfl⟩ := appendTo_spec (by rw [hE.std] at hap; exact hap)
    split at h
    · rename_i hc
      simp only [Bool.and_eq_true, Nat.ble_eq, List.nil_append] at hc
      simp only [List.nil_append, Option.some.injEq] at h
      exact ⟨r, rfl, hs0, hds, hc.1.1.1, hc.1.1.2, hc.1.2, by have := hc.2; rw [takeL_eq] at this; simpa using this, by rw [← h, takeL_eq]⟩
    · simp at h
  · simp at h

theorem repVs_undefs : ∀ (us : List Value), RepVs w R N (List.replicate us.length .undef) us []
  | [] => by simpa using repVs_nil
  | u :: us => by
    rw [List.length_cons, List.replicate_succ]
    exact repVs_cons (repV_undef u) (repVs_undefs us)

/-- The new row of an append that grows. -/
theorem row_grown (e : TypeId) {s n cap : Nat} {cs : List AVal} {cells : List Value} {b1 : List Nat} (hr : RepVs w R N cs cells b1) (hl : cells.length = n * s) (hcap : n ≤ cap) (rest : Array Value) (hrest : rest.size = (cap - n) * s) (hsh : bldSh cs = false) (bs : List Nat) :
    ∃ R', Keep w R (w.drew.alloc (.cells (cells.toArray ++ rest) e)) R' bs ∧ RepObj (w.drew.alloc (.cells (cells.toArray ++ rest) e)) R' N (.cells cs) w.heap.size b1 ∧
      w.heap.size < (w.drew.alloc (.cells (cells.toArray ++ rest) e)).heap.size ∧ cap * s = rowSize (w.drew.alloc (.cells (cells.toArray ++ rest) e)) w.heap.size := by
  let R' : Own := fun b off => b = w.heap.size ∨ R b off
  have hst : ∀ b off, b < w.heap.size → (R' b off ↔ R b off) := fun b off hb => ⟨fun h => by rcases h with h | h; exact absurd h (by omega); exact h, fun h => .inr h⟩
  have hk := fun bs => keep_drew_alloc (w := w) (R := R) (.cells (cells.toArray ++ rest) e) hst bs
  have hh : (w.drew.alloc (.cells (cells.toArray ++ rest) e)).heap[w.heap.size]? = some (.cells (cells.toArray ++ rest) e (0, 0)) := heap_alloc_new w.drew _
  have hsz : cap * s = (cells.toArray ++ rest).size := by
    simp only [Array.size_append, List.size_toArray, hrest, hl]
    rw [← Nat.add_mul]
    congr 1
    omega
  refine ⟨R', hk bs, ⟨_, e, rest.size, hh, ?_, fun j _ => .inl rfl, fun hb => by rw [hsh] at hb; simp at hb⟩, lt_of_heap hh, by rw [rowSize_of hh]; exact hsz⟩
  have := repVs_append (hr.keep (hk b1)) (repVs_undefs (w := w.drew.alloc (.cells (cells.toArray ++ rest) e)) (R := R') (N := N) rest.toList)
  simpa using this

theorem sound_grow_new (hE : E.Ok P) {t ty : TypeId} {i : TI} {x : AVal} {u : Value} {base : Option Addr} {out : Out} (hel : elemOf E t = some i) (h : growRow E i 0 [] x = some out) (hm : isMore x = true) (hx : RepV w R N x u [])
    (hbase : base = none ∨ ∃ b, base = some ⟨b, 0, none⟩) (bs : List Nat) :
    ∃ o' len cv w' R' cap, out = ⟨.undef, .grow o' i.size len⟩ ∧ (Builtin.append_ #[t, t] ty #[.slice base 0 0, u]).run P w = .ok cv w' ∧ Keep w R w' R' bs ∧ RepObj w' R' N o' w.heap.size [] ∧
      cv = .slice (some ⟨w.heap.size, 0, none⟩) len cap ∧ len ≤ cap ∧ 0 < i.size ∧ w.heap.size < w'.heap.size ∧ cap * i.size = rowSize w' w.heap.size := by
  obtain ⟨e, hu, hty⟩ := elemOf_ok hE hel
  obtain ⟨⟨ie, k1, k2, k3, k4, k5⟩, _⟩ := hE.ty e i hty
  obtain ⟨ds, rfl, hs0, hds, hbytes, hlim, _, hbl, rfl⟩ := growRow_spec hE h
  obtain ⟨_, hxr⟩ := repV_slice_inv hx
  have hne : ds ≠ [] := by intro e; subst e; simp [isMore] at hm
  obtain ⟨b2, off2, cap2, news, rfl, _, hnr, hnc⟩ := repC_flat hxr hne hds
  have hnl := repCs_length hnr
  rw [flat_length hds] at hnl
  have hnews : ∀ (j : Nat) u, news[j]? = some u → w.cell? ((⟨b2, off2, none⟩ : Addr).add j) = some u := fun j u hj => by rw [add_plain]; exact (hnc j u hj).1
  have hdl : 0 < ds.length := by cases ds with | nil => exact absurd rfl hne | cons _ _ => simp
  simp only [Nat.zero_add] at hbytes hlim
  have h63 : ds.length ≤ 9223372036854775807 := by unfold lim at hlim; omega
  have hzc : ∀ (z : Array Value) (n : Nat), (Builtin.zeroCells z n).size = n * z.size := fun z n => size_zeroCells z n
  have hge := grownCap_ge w ds.length 0 e
  obtain ⟨R', g1, g2, g3, g4⟩ := row_grown (N := N) (s := i.size) (n := ds.length) e (repVs_dats (N := N) hnr) hnl hge (Builtin.zeroCells i.zero.cells (grownCap w ds.length 0 e - ds.length)) (by rw [hzc, k5]) (by simpa using hbl) bs
  refine ⟨_, _, _, _, R', grownCap w ds.length 0 e, rfl, ?_, g1, by simpa using g2, by rw [Nat.zero_add], by simpa using hge, hs0, g3, g4⟩
  rcases hbase with rfl | ⟨b, rfl⟩
  · exact run_append_nil (P := P) w t ty e ie i.zero hu k1 k4 ⟨b2, off2, none⟩ ds.length cap2 news (by rw [k2]; exact hnl) hnews hdl (by omega) (by rw [k3]; omega)
  · have hrun := run_append_grow (P := P) w t ty e ie i.zero hu k1 k4 ⟨b, 0, none⟩ 0 0 [] (by simp) (by simp) ⟨b2, off2, none⟩ ds.length cap2 news (by rw [k2]; exact hnl) hnews (by omega) (by omega) (growslice_fits (by omega) (by rw [k3]; simpa using hbytes))
    simpa using hrun

theorem sound_grow_row (hE : E.Ok P) {t ty : TypeId} {i : TI} {len b cap : Nat} {b1 : List Nat} {cs : List AVal} {x : AVal} {u : Value} {out : Out} (hel : elemOf E t = some i) (h : growRow E i len cs x = some out) (hx : RepV w R N x u [])
    (hobj : RepObj w R N (.cells cs) b b1) (hcap : len ≤ cap) (hrow : cap * i.size = rowSize w b) (hnd : (b :: b1).Nodup) (bs : List Nat) (hb : b ∉ bs) :
    ∃ o' len' cv w' R' b' b1' cap', out = ⟨.undef, .grow o' i.size len'⟩ ∧ (Builtin.append_ #[t, t] ty #[.slice (some ⟨b, 0, none⟩) len cap, u]).run P w = .ok cv w' ∧ Keep w R w' R' bs ∧ RepObj w' R' N o' b' b1' ∧
      From w (b :: b1) (b' :: b1') ∧ cv = .slice (some ⟨b', 0, none⟩) len' cap' ∧ len' ≤ cap' ∧ 0 < i.size ∧ b' < w'.heap.size ∧ cap' * i.size = rowSize w' b' := by
  obtain ⟨e, hu, hty⟩ := elemOf_ok hE hel
  obtain ⟨⟨ie, k1, k2, k3, k4, k5⟩, _⟩ := hE.ty e i hty
  obtain ⟨ds, rfl, hs0, hds, hbytes, hlim, hcl, hbl, rfl⟩ := growRow_spec hE h
  obtain ⟨_, hxr⟩ := repV_slice_inv hx
  obtain ⟨vs, el, sp, hblk, hr, hR, _⟩ := hobj
  have hsz := rowSize_of hblk
  rw [hsz] at hrow
  have hmul : len * i.size ≤ cap * i.size := Nat.mul_le_mul_right _ hcap
  have hsplit : cs ++ List.replicate sp AVal.undef = cs.take (len * i.size) ++ (cs.drop (len * i.size) ++ List.replicate sp AVal.undef) := by rw [← List.append_assoc, List.take_append_drop]
  rw [hsplit] at hr
  obtain ⟨olds, others, c1, c2, hvs, rfl, hr1, hr2⟩ := repVs_split hr
  have hol : olds.length = len * i.size := by rw [hr1.length, List.length_take]; omega
  have hnd1 := List.nodup_cons.1 hnd
  have hbc : b ∉ c1 := fun hh => hnd1.1 (by simp [hh])
  have hnc1 : c1.Nodup := (List.nodup_append.1 hnd1.2).1
  have hfrom1 : From w (b :: (c1 ++ c2)) (b :: c1) := ⟨List.nodup_cons.2 ⟨hbc, hnc1⟩, fun c hc => .inl (by simp at hc ⊢; rcases hc with h | h <;> simp [h])⟩
  have holt : olds = vs.toList.take (len * i.size) := by rw [hvs, ← hol]; simp
  by_cases hne : ds = []
  · subst hne
    have hu0 : ∃ a' c, u = .slice a' 0 c := by cases hxr with | nil a c => exact ⟨a, c, rfl⟩ | slice b off cap s es vs => exact ⟨_, _, rfl⟩
    obtain ⟨a', c, rfl⟩ := hu0
    refine ⟨_, _, _, w, R, b, c1, cap, rfl, run_append_none t ty e ie hu k1 (some ⟨b, 0, none⟩) a' len cap c hcap, keep_refl _, ⟨vs, el, others.length, hblk, ?_, hR, fun hb => by rw [hbl] at hb; simp at hb⟩, hfrom1, by simp, by simpa using hcap, hs0, lt_of_heap hblk, by rw [hsz]; exact hrow⟩
    rw [hvs]
    simpa using repVs_append hr1 (repVs_undefs (w := w) (R := R) (N := N) others)
  · obtain ⟨b2, off2, cap2, news, rfl, _, hnr, hnc⟩ := repC_flat hxr hne hds
    have hnl := repCs_length hnr
    rw [flat_length hds] at hnl
    have hnews : ∀ (j : Nat) u, news[j]? = some u → w.cell? ((⟨b2, off2, none⟩ : Addr).add j) = some u := fun j u hj => by rw [add_plain]; exact (hnc j u hj).1
    have hdl : 0 < ds.length := by cases ds with | nil => exact absurd rfl hne | cons _ _ => simp
    have h63 : len + ds.length ≤ 9223372036854775807 := by unfold lim at hlim; omega
    have hzc : ∀ (z : Array Value) (n : Nat), (Builtin.zeroCells z n).size = n * z.size := fun z n => size_zeroCells z n
    have hmul' : (len + ds.length) * i.size = len * i.size + ds.length * i.size := Nat.add_mul ..
    have hdpos : 0 < ds.length * i.size := Nat.mul_pos hdl hs0
    by_cases hroom : len + ds.length ≤ cap
    · have hmulr : (len + ds.length) * i.size ≤ cap * i.size := Nat.mul_le_mul_right _ hroom
      have hrun := run_append_room' (P := P) (w := w) t ty e el ie hu k1 b len cap vs hblk ⟨b2, off2, none⟩ ds.length cap2 news (by rw [k2]; exact hnl) hnews (repCs_one hnr) hroom (by rw [k2, hnl]; omega)
      rw [k2, ← holt] at hrun
      have hlen : (olds ++ news ++ vs.toList.drop (len * i.size + news.length)).length = vs.size := by simp [hol]; omega
      have hkeep := fun bs hb => step_setRow (R := R) (R' := R) hblk (olds ++ news ++ vs.toList.drop (len * i.size + news.length)).toArray (by simpa using hlen) (fun c x h => h) (fun c x _ h => h) (fun off hnR => by
        have h1 : vs.size ≤ off := by
          rcases Nat.lt_or_ge off vs.size with h' | h'
          · exact absurd (hR off h') hnR
          · exact h'
        rw [Array.getElem?_eq_none h1, Array.getElem?_eq_none (by simp only [List.size_toArray]; omega)]) ⟨0, hR 0 (by omega)⟩ bs hb
      have hblk' := setRow_heap w b vs (olds ++ news ++ vs.toList.drop (len * i.size + news.length)).toArray el (0, 0) hblk
      refine ⟨_, _, _, _, R, b, c1, cap, rfl, hrun, hkeep bs hb, ⟨_, el, (vs.toList.drop (len * i.size + news.length)).length, hblk', ?_, fun j hj => hR j (by simp only [List.size_toArray] at hj; omega), fun hb => by rw [hbl] at hb; simp at hb⟩, hfrom1, rfl, hroom, hs0, lt_of_heap hblk', ?_⟩
      · have q1 := hr1.keep (hkeep c1 hbc)
        have q2 := (repVs_dats (N := N) hnr).keep (hkeep [] (by simp))
        have q3 := repVs_append (repVs_append q1 q2) (repVs_undefs (w := w.setRow b (olds ++ news ++ vs.toList.drop (len * i.size + news.length)).toArray) (R := R) (N := N) (vs.toList.drop (len * i.size + news.length)))
        simpa only [List.append_nil] using q3
      · rw [rowSize_of hblk']; simp only [List.size_toArray]; omega
    · have holds : ∀ (j : Nat) z, olds[j]? = some z → w.cell? ((⟨b, 0, none⟩ : Addr).add j) = some z := fun j z hj => by
        rw [add_plain, cell_of_row w b (0 + j) vs el (0, 0) hblk, Nat.zero_add]
        have hj' : vs.toList[j]? = some z := by
          rw [hvs, List.getElem?_append_left]
          · exact hj
          · rcases Nat.lt_or_ge j olds.length with h' | h'
            · exact h'
            · rw [List.getElem?_eq_none h'] at hj; simp at hj
        simpa using hj'
      have hrun := run_append_grow (P := P) w t ty e ie i.zero hu k1 k4 ⟨b, 0, none⟩ len cap olds (by rw [k2]; exact hol) holds ⟨b2, off2, none⟩ ds.length cap2 news (by rw [k2]; exact hnl) hnews (by omega) (by omega) (growslice_fits (by omega) (by rw [k3]; exact hbytes))
      have hge := grownCap_ge w (len + ds.length) cap e
      have hrr := repVs_append hr1 (repVs_dats (N := N) hnr)
      obtain ⟨R', g1, g2, g3, g4⟩ := row_grown (N := N) (s := i.size) (n := len + ds.length) e hrr (by rw [List.length_append, hol, hnl]; omega) hge (Builtin.zeroCells i.zero.cells (grownCap w (len + ds.length) cap e - (len + ds.length))) (by rw [hzc, k5]) hbl bs
      refine ⟨_, _, _, _, R', w.heap.size, c1, grownCap w (len + ds.length) cap e, rfl, ?_, g1, by simpa using g2, ⟨?_, ?_⟩, rfl, hge, hs0, g3, g4⟩
      · simpa using hrun
      · refine List.nodup_cons.2 ⟨fun hh => ?_, hnc1⟩
        have := hr1.lt _ hh
        omega
      · intro c hc
        rcases List.mem_cons.1 hc with rfl | hc
        · exact .inr (Nat.le_refl _)
        · exact .inl (by simp [hc])

theorem made_cons (z : Array Value) (c : Nat) (hz : 0 < z.size) : (madeCells z ((c + 1) * z.size)).toList = z.toList ++ (madeCells z (c * z.size)).toList := by
  apply List.ext_getElem?
  intro k
  have hget : ∀ n k : Nat, (madeCells z n).toList[k]? = if k < n then some (z[k % z.size]!) else none := by
    intro n k
    simp only [madeCells, Array.toList_map, List.getElem?_map, Array.toList_range]
    by_cases h : k < n
    · rw [if_pos h, List.getElem?_range h]; rfl
    · rw [if_neg h, List.getElem?_eq_none (by simpa using h)]; rfl
  rw [hget, List.getElem?_append, hget, Nat.add_mul, Nat.one_mul]
  simp only [Array.length_toList]
  by_cases h : k < z.size
  · rw [if_pos h, if_pos (by omega), Nat.mod_eq_of_lt h]
    simp [h]
  · rw [if_neg h]
    by_cases h2 : k < c * z.size + z.size
    · rw [if_pos h2, if_pos (by omega)]
      congr 2
      exact (Nat.mod_eq_sub_mod (by omega))
    · rw [if_neg h2, if_neg (by omega)]

theorem repVs_made {zs : List AVal} {z : Array Value} (hz : 0 < z.size) (h : RepVs w R N zs z.toList []) : ∀ c : Nat, RepVs w R N (replL zs c) (madeCells z (c * z.size)).toList []
  | 0 => by
    have : (madeCells z (0 * z.size)).toList = [] := by simp [madeCells]
    rw [this]; exact repVs_nil
  | c + 1 => by
    rw [made_cons z c hz]
    exact repVs_append h (repVs_made hz h c)

theorem sound_makeSlice (hE : E.Ok P) {t : TypeId} {a b : AVal} {x y : Value} {out : Out} (h : aMakeSlice E t [a, b] = some out) (ha : RepV w R N a x []) (hb : RepV w R N b y []) (bs : List Nat) :
    ∃ o' len cv w' R' cap s, out = ⟨.undef, .grow o' s len⟩ ∧ (Instr.makeSlice t x y).run P w = .ok cv w' ∧ Keep w R w' R' bs ∧ RepObj w' R' N o' w.heap.size [] ∧
      cv = .slice (some ⟨w.heap.size, 0, none⟩) len cap ∧ len ≤ cap ∧ 0 < s ∧ w.heap.size < w'.heap.size ∧ cap * s = rowSize w' w.heap.size := by
  unfold aMakeSlice at h
  split at h
  · rename_i k1 l k2 c heq
    simp at heq
    obtain ⟨rfl, rfl⟩ := heq
    obtain ⟨_, rfl, _⟩ := repV_flat_inv ha
    obtain ⟨_, rfl, _⟩ := repV_flat_inv hb
    split at h
    · rename_i i l c hel _ _
      split at h
      · rename_i hc
        simp only [Bool.and_eq_true, Nat.ble_eq, Nat.blt_eq] at hc
        obtain ⟨⟨⟨⟨⟨h1, h2⟩, h3⟩, h4⟩, h5⟩, h6⟩ := hc
        simp at h
        subst h
        obtain ⟨e, hu, hty⟩ := elemOf_ok hE hel
        obtain ⟨⟨ie, k1, k2, k3, k4, k5⟩, _⟩ := hE.ty e i hty
        have hb' : (ie.bytes : Int) * (c : Int) ≤ 281474976710656 := by
          have h : ((ie.bytes * c : Nat) : Int) ≤ 281474976710656 := by rw [k3]; omega
          rwa [Int.natCast_mul] at h
        have hrun := fun q1 q2 => run_make (P := P) w t e ie i.zero hu k1 k4 q1 q2 (l : Int) (c : Int) (by omega) (by omega) hb' (by unfold lim at h3; omega)
        simp only [Int.toNat_natCast] at hrun
        let R' : Own := fun b off => b = w.heap.size ∨ R b off
        have hst : ∀ b off, b < w.heap.size → (R' b off ↔ R b off) := fun b off hb => ⟨fun h => by rcases h with h | h; exact absurd h (by omega); exact h, fun h => .inr h⟩
        have hk := fun bs => keep_alloc (w := w) (R := R) (.cells (madeCells i.zero.cells (c * ie.size)) e) hst bs
        have hh : (w.alloc (.cells (madeCells i.zero.cells (c * ie.size)) e)).heap[w.heap.size]? = some (.cells (madeCells i.zero.cells (c * ie.size)) e (0, 0)) := heap_alloc_new w _
        have hz := (acells_rep (ofConst_rep (w := w) (R := R) (N := N) i.zero) h5).keep (hk [])
        refine ⟨_, l, _, _, R', c, i.size, rfl, hrun _ _, hk bs, ⟨_, e, 0, hh, ?_, fun j _ => .inl rfl, fun hb => by rw [hb] at h6; simp at h6⟩, rfl, h1, h4, lt_of_heap hh, ?_⟩
        · have hsz : c * ie.size = c * i.zero.cells.size := by rw [k2, k5]
          have := repVs_made (by rw [k5]; exact h4) hz c
          rw [← hsz] at this
          simpa using this
        · rw [rowSize_of hh, size_madeCells, k2]
      · simp at h
    · simp at h
  · simp at h

theorem value_run {s : Sem Value} {cv : Value} {w' : World} (h : s.run P w = .ok cv w') : (do pure (Next.value (← s)) : Sem Next).run P w = .ok (.value cv) w' := by
  simp [h]
theorem skip_run {s : Sem Unit} {w' : World} (h : s.run P w = .ok () w') : (do s; pure Next.skip : Sem Next).run P w = .ok .skip w' := by
  simp [h]
end
end Go.Tp
