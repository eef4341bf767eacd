/- Part 1 of what the last text proves. -/
import Derived.Laws.MakeOwn
import Derived.Orders
import Derived.OrdersIn
import Derived.RangeFuncIn
import Derived.Scope
import Derived.Test.YtmpmgmmcaghacaaGreatDoorQ00
set_option linter.unusedVariables false
set_option linter.unusedSimpArgs false
set_option maxRecDepth 100000
set_option maxHeartbeats 4000000
namespace Go.Tp
section
variable {P : Program} {E : TEnv} {G : Globs} {w : World} {R : Own} {N : Name -> Option Nat}
theorem eval_raw {s : AState} {act : Act} {bsT : List Nat} (ht : RepVs w R N s.tmps act.tmps.toList bsT) (hg : ∀ g cs, G g = some cs -> GlobAt w R g cs) (x : Operand) :
  ∃ bs, RepV w R N (aeval G s x) (act.eval x) bs := by
 cases x with
 | tmp t =>
  simp only [aeval, getT, Act.eval]
  cases h : s.tmps[t]? with
  | none => exact ⟨[], repV_undef _⟩
  | some a =>
   obtain ⟨v, b', e1, e2, _⟩ := repVs_get ht h
   have : act.tmps.getD t undef = v := by simp at e1; simp [e1]
   exact ⟨b', by rw [this]; exact e2⟩
 | const v => exact ⟨[], ofConst_rep v⟩
 | global g =>
  simp only [aeval, Act.eval]
  cases h : G g with
  | none => exact ⟨[], repV_undef _⟩
  | some cs => exact ⟨[], by simp only [RepV]; exact ⟨trivial, g, 0, rfl, (hg g cs h).1⟩⟩
 | func f => exact ⟨[], by simp only [aeval, Act.eval, RepV]; exact ⟨trivial, [], [], rfl, repVs_nil, repVs_nil⟩⟩
theorem eval_copy {s : AState} {act : Act} {bsT : List Nat} (ht : RepVs w R N s.tmps act.tmps.toList bsT) (hg : ∀ g cs, G g = some cs -> GlobAt w R g cs) (x : Operand) :
  RepV w R N (unOwn (aeval G s x)) (act.eval x) [] := by
 obtain ⟨bs, h⟩ := eval_raw ht hg x
 exact unOwn_rep h
theorem args_copy {s : AState} {act : Act} {bsT : List Nat} (ht : RepVs w R N s.tmps act.tmps.toList bsT) (hg : ∀ g cs, G g = some cs -> GlobAt w R g cs) (mv : Option Nat) : ∀ (k : Nat) (xs : List Operand),
  (∀ j, mv = some j -> j < k ∨ k + xs.length <= j) -> RepVs w R N (evalArgs G s mv k xs) (xs.map act.eval) []
 | _, [], _ => by simpa [evalArgs] using repVs_nil
 | k, x :: xs, h => by
  have hne : mv ≠ some k := fun e => by rcases h k e with h | h <;> simp at h <;> omega
  simp only [evalArgs, if_neg hne, List.map_cons]
  exact repVs_cons (b1 := []) (b2 := []) (eval_copy ht hg x) (args_copy ht hg mv (k + 1) xs (fun j hj => by have := h j hj; simp only [List.length_cons] at this; omega))
/-- The operands' values, the moved one with what it owns; the slot that it came from owns nothing. -/
theorem args_take {s : AState} {act : Act} {bsT : List Nat} (ht : RepVs w R N s.tmps act.tmps.toList bsT) (hg : ∀ g cs, G g = some cs -> GlobAt w R g cs) (mv : Option Nat) (xs : List Operand) (rest : List Nat) (hnd : (bsT ++ rest).Nodup) :
  ∃ bsM bsT', RepVs w R N (evalArgs G s mv 0 xs) (xs.map act.eval) bsM /\ RepVs w R N (dropOwn s mv xs).tmps act.tmps.toList bsT' /\ (bsM ++ (bsT' ++ rest)).Nodup /\ (mv = none -> bsM = []) := by
 cases mv with
 | none => exact ⟨[], bsT, args_copy ht hg none 0 xs (by simp), by simpa [dropOwn] using ht, by simpa using hnd, fun _ => rfl⟩
 | some k =>
  -- the part with operand k
  have key : ∀ (xs : List Operand) (j : Nat), j <= k -> ∀ bk, (∀ x, xs[k - j]? = some x -> RepV w R N (aeval G s x) (act.eval x) bk) -> (xs.length <= k - j -> bk = []) -> RepVs w R N (evalArgs G s (some k) j xs) (xs.map act.eval) bk := by
   intro xs
   induction xs with
   | nil => intro j _ bk _ h0; rw [h0 (by simp)]; simpa [evalArgs] using repVs_nil
   | cons x xs ih =>
    intro j hj bk hx h0
    by_cases hjk : k = j
    ·subst hjk
     simp only [evalArgs, if_true, List.map_cons]
     have h1 := hx x (by simp)
     have h2 := args_copy ht hg (some k) (k + 1) xs (fun j hj => by simp at hj; omega)
     simpa using repVs_cons h1 h2
    have hne : (some k : Option Nat) ≠ some j := by simpa using hjk
    simp only [evalArgs, if_neg hne, List.map_cons]
    have e : k - j = (k - (j + 1)) + 1 := by omega
    exact repVs_cons (b1 := []) (eval_copy ht hg x) (ih (j + 1) (by omega) bk (fun y hy => hx y (by rw [e]; simpa using hy)) (fun hl => h0 (by simp; omega)))
  cases hk : xs[k]? with
  | none =>
   have hl : xs.length <= k := by simpa using hk
   exact ⟨[], bsT, key xs 0 (by omega) [] (fun x hx => by rw [Nat.sub_zero, hk] at hx; simp at hx) (fun _ => rfl), by simpa [dropOwn, hk] using ht, by simpa using hnd, by simp⟩
  | some x =>
   have hnl : ¬ xs.length <= k - 0 := fun hl => by rw [List.getElem?_eq_none (by simpa using hl)] at hk; simp at hk
   cases x with
   | tmp t =>
    cases hg2 : s.tmps[t]? with
    | none =>
     have hu : getT s.tmps t = .undef := by simp [getT, hg2]
     refine ⟨[], bsT, key xs 0 (by omega) [] (fun y hy => ?_) (fun hl => absurd hl hnl), ?_, by simpa using hnd, by simp⟩
     ·rw [Nat.sub_zero, hk] at hy
      simp at hy
      subst hy
      simp only [aeval, hu]
      exact repV_undef _
     have : s.tmps.set t (unOwn (getT s.tmps t)) = s.tmps := List.set_eq_of_length_le (by simpa using hg2)
     simp only [dropOwn, hk, this]
     exact ht
    | some a =>
     obtain ⟨pre, bt, post, v, e1, e2, e3, e4⟩ := RepVs.split ht hg2
     have hgt : getT s.tmps t = a := by simp [getT, hg2]
     have hev : act.eval (.tmp t) = v := by simp at e2; simp [Act.eval, e2]
     refine ⟨bt, pre ++ [] ++ post, key xs 0 (by omega) bt (fun y hy => ?_) (fun hl => absurd hl hnl), ?_, ?_, by simp⟩
     ·rw [Nat.sub_zero, hk] at hy
      simp at hy
      subst hy
      rw [hev]
      simp only [aeval, hgt]
      exact e3
     ·have := e4 w R (unOwn a) v [] (keep_refl _) (unOwn_rep e3)
      have hset : act.tmps.toList.set t v = act.tmps.toList := by
       apply List.ext_getElem?
       intro j
       rw [List.getElem?_set]
       split
       ·rename_i htj; subst htj; split
        ·exact e2.symm
        rename_i hl; rw [List.getElem?_eq_none (by omega)]
       rfl
      rw [hset] at this
      simp only [dropOwn, hk, hgt]
      exact this
     subst e1
     have hp : (bt ++ ((pre ++ [] ++ post) ++ rest)).Perm ((pre ++ bt ++ post) ++ rest) := by
      simp only [List.append_nil, ← List.append_assoc]
      refine List.Perm.append_right _ (List.Perm.append_right _ ?_)
      exact List.perm_append_comm
     exact hp.nodup_iff.2 hnd
   | const v => exact ⟨[], bsT, key xs 0 (by omega) [] (fun y hy => by rw [Nat.sub_zero, hk] at hy; simp at hy; subst hy; exact ofConst_rep v) (fun hl => absurd hl hnl), by simpa [dropOwn, hk] using ht, by simpa using hnd, by simp⟩
   | global g =>
    refine ⟨[], bsT, key xs 0 (by omega) [] (fun y hy => ?_) (fun hl => absurd hl hnl), by simpa [dropOwn, hk] using ht, by simpa using hnd, by simp⟩
    rw [Nat.sub_zero, hk] at hy
    simp at hy
    subst hy
    simp only [aeval, Act.eval]
    cases h : G g with
    | none => exact repV_undef _
    | some cs => simp only [RepV]; exact ⟨trivial, g, 0, rfl, (hg g cs h).1⟩
   | func f =>
    refine ⟨[], bsT, key xs 0 (by omega) [] (fun y hy => ?_) (fun hl => absurd hl hnl), by simpa [dropOwn, hk] using ht, by simpa using hnd, by simp⟩
    rw [Nat.sub_zero, hk] at hy
    simp at hy
    subst hy
    simp only [aeval, Act.eval, RepV]
    exact ⟨trivial, [], [], rfl, repVs_nil, repVs_nil⟩
/-! #### What an operation does -/
/-- Blocks of the moved operand, of the looked-at object, or new ones. -/
def From (w : World) (bs : List Nat) (xs : List Nat) : Prop := xs.Nodup /\ ∀ b ∈ xs, b ∈ bs ∨ w.heap.size <= b
/-- The blocks of the looked-at object. -/
def nmL : Option (Nat × List Nat) -> List Nat
 | none => []
 | some (b, b1) => b :: b1
/-- The outcome of an operation, in one form. 'nm': the block of the object that it looks at, and what that object owns. -/
def OutOk (w : World) (R : Own) (N : Name -> Option Nat) (ob : Option AObj) (nm : Option (Nat × List Nat)) (bsM rest : List Nat) (out : Out) (cv : Value) (w' : World) (R' : Own) : Prop :=
 Keep w R w' R' rest ∧
 match out.eff with
 | .keep => ∃ bsV, RepV w' R' N out.val cv bsV /\ From w bsM bsV /\ (∀ b b1 o, nm = some (b, b1) -> ob = some o -> RepObj w' R' N o b b1) /\ (nm = none ∨ (w' = w /\ R' = R))
 | .set o' => ∃ b b1 b1' bsV, nm = some (b, b1) /\ RepObj w' R' N o' b b1' /\ RepV w' R' N out.val cv bsV /\ From w (bsM ++ b1) (bsV ++ b1')
 | .grow o' sz len => ∃ b' b1' cap, RepObj w' R' N o' b' b1' /\ From w (bsM ++ nmL nm) (b' :: b1') /\ cv = .slice (some ⟨b', 0, none⟩) len cap /\ len <= cap /\ (0 < sz /\ cap <= capMax) /\ b' < w'.heap.size /\ cap * sz = rowSize w' b'
 | .fresh o' => nm = none /\ ∃ b1', RepObj w' R' N o' w.heap.size b1' /\ (b1'.Nodup /\ ∀ b ∈ b1', b ∈ bsM) /\ w.heap.size < w'.heap.size /\ cv = (match o' with | .cells _ => .pointer (some ⟨w.heap.size, 0, none⟩) | .map _ => .map (some w.heap.size))
 | .row o' sz len => nm = none /\ ∃ b1', RepObj w' R' N o' w.heap.size b1' /\ (b1'.Nodup /\ ∀ b ∈ b1', b ∈ bsM) /\ w.heap.size < w'.heap.size /\ ∃ cap, cv = .slice (some ⟨w.heap.size, 0, none⟩) len cap /\ len <= cap /\ (0 < sz /\ cap <= capMax) /\ cap * sz = rowSize w' w.heap.size
 | .new o' => nm = none /\ ∃ b1', RepObj w' R' N o' w.heap.size b1' /\ (b1'.Nodup /\ ∀ b ∈ b1', b ∈ bsM) /\ w.heap.size < w'.heap.size /\ cv = (match o' with | .cells _ => .pointer (some ⟨w.heap.size, 0, none⟩) | .map _ => .map (some w.heap.size))
theorem From.nil {bs : List Nat} : From w bs [] := ⟨List.nodup_nil, by simp⟩
theorem From.self {bs : List Nat} (h : bs.Nodup) : From w bs bs := ⟨h, fun _ hb => .inl hb⟩
/-- An operation that changes nothing and looks at nothing. -/
theorem OutOk.pure {out : Out} {cv : Value} {ob : Option AObj} {nm : Option (Nat × List Nat)} {bsM rest bsV : List Nat} (he : out.eff = .keep) (hv : RepV w R N out.val cv bsV) (hf : From w bsM bsV)
  (hob : ∀ b b1 o, nm = some (b, b1) -> ob = some o -> RepObj w R N o b b1) : OutOk w R N ob nm bsM rest out cv w R := by
 refine ⟨keep_refl _, ?_⟩
 rw [he]
 exact ⟨bsV, hv, hf, hob, .inr ⟨rfl, rfl⟩⟩
/-! #### Rows that grow -/
theorem growRow_spec (hE : E.Ok P) {i : TI} {len : Nat} {cs : List AVal} {x : AVal} {out : Out} (h : growRow E i len cs x = some out) :
  ∃ ds, x = .dat (.slice ds) /\ 0 < i.size /\ (∀ d ∈ ds, d.cells.length = i.size) /\ (len + ds.length) * i.bytes <= 140737488355328 /\ len + ds.length <= lim /\ len * i.size <= cs.length /\ bldSh (cs.take (len * i.size) ++ (ds.flatMap Dat.cells).map .dat) = false ∧
   out = ⟨.undef, .grow (.cells (cs.take (len * i.size) ++ (ds.flatMap Dat.cells).map .dat)) i.size (len + ds.length)⟩ := by
 unfold growRow at h
 split at h
 ·rename_i r hap
  obtain ⟨ds, rfl, hs0, hds, _, _, _, _, rfl⟩ := appendTo_spec (by rw [hE.std] at hap; exact hap)
  split at h
  ·rename_i hc
   simp only [Bool.and_eq_true, Nat.ble_eq, List.nil_append] at hc
   simp only [List.nil_append, Option.some.injEq] at h
   exact ⟨r, rfl, hs0, hds, hc.1.1.1, hc.1.1.2, hc.1.2, by have := hc.2; rw [takeL_eq] at this; simpa using this, by rw [← h, takeL_eq]⟩
  simp at h
 simp at h
theorem repVs_undefs : ∀ (us : List Value), RepVs w R N (List.replicate us.length .undef) us []
 | [] => by simpa using repVs_nil
 | u :: us => by
  rw [List.length_cons, List.replicate_succ]
  exact repVs_cons (repV_undef u) (repVs_undefs us)
/-- The new row of an append that grows. -/
theorem row_grown (e : TypeId) {s n cap : Nat} {cs : List AVal} {cells : List Value} {b1 : List Nat} (hr : RepVs w R N cs cells b1) (hl : cells.length = n * s) (hcap : n <= cap) (rest : Array Value) (hrest : rest.size = (cap - n) * s) (hsh : bldSh cs = false) (bs : List Nat) :
  ∃ R', Keep w R (w.drew.alloc (.cells (cells.toArray ++ rest) e)) R' bs /\ RepObj (w.drew.alloc (.cells (cells.toArray ++ rest) e)) R' N (.cells cs) w.heap.size b1 ∧
   w.heap.size < (w.drew.alloc (.cells (cells.toArray ++ rest) e)).heap.size /\ cap * s = rowSize (w.drew.alloc (.cells (cells.toArray ++ rest) e)) w.heap.size := by
 let R' : Own := fun b off => b = w.heap.size ∨ R b off
 have hst : ∀ b off, b < w.heap.size -> (R' b off ↔ R b off) := fun b off hb => ⟨fun h => by rcases h with h | h; exact absurd h (by omega); exact h, fun h => .inr h⟩
 have hk := fun bs => keep_drew_alloc (w := w) (R := R) (.cells (cells.toArray ++ rest) e) hst bs
 have hh : (w.drew.alloc (.cells (cells.toArray ++ rest) e)).heap[w.heap.size]? = some (.cells (cells.toArray ++ rest) e (0, 0)) := heap_alloc_new w.drew _
 have hsz : cap * s = (cells.toArray ++ rest).size := by
  simp only [Array.size_append, List.size_toArray, hrest, hl]
  rw [← Nat.add_mul]
  congr 1
  omega
 refine ⟨R', hk bs, ⟨_, e, rest.size, hh, ?_, fun j _ => .inl rfl, fun hb => by rw [hsh] at hb; simp at hb⟩, lt_of_heap hh, by rw [rowSize_of hh]; exact hsz⟩
 have := repVs_append (hr.keep (hk b1)) (repVs_undefs (w := w.drew.alloc (.cells (cells.toArray ++ rest) e)) (R := R') (N := N) rest.toList)
 simpa using this
theorem sound_grow_new (hE : E.Ok P) {t ty : TypeId} {i : TI} {x : AVal} {u : Value} {base : Option Addr} {out : Out} (hel : elemOf E t = some i) (h : growRow E i 0 [] x = some out) (hm : isMore x = true) (hx : RepV w R N x u [])
  (hbase : base = none ∨ ∃ b, base = some ⟨b, 0, none⟩) (bs : List Nat) :
  ∃ o' len cv w' R' cap, out = ⟨.undef, .grow o' i.size len⟩ /\ (Builtin.append_ #[t, t] ty #[.slice base 0 0, u]).run P w = .ok cv w' /\ Keep w R w' R' bs /\ RepObj w' R' N o' w.heap.size [] ∧
   cv = .slice (some ⟨w.heap.size, 0, none⟩) len cap /\ len <= cap /\ (0 < i.size /\ cap <= capMax) /\ w.heap.size < w'.heap.size /\ cap * i.size = rowSize w' w.heap.size := by
 obtain ⟨e, hu, hty⟩ := elemOf_ok hE hel
 obtain ⟨⟨ie, k1, k2, k3, k4, k5⟩, _⟩ := hE.ty e i hty
 obtain ⟨ds, rfl, hs0, hds, hbytes, hlim, _, hbl, rfl⟩ := growRow_spec hE h
 obtain ⟨_, hxr⟩ := repV_slice_inv hx
 have hne : ds ≠ [] := by intro e; subst e; simp [isMore] at hm
 obtain ⟨b2, off2, cap2, news, rfl, _, hnr, hnc⟩ := repC_flat hxr hne hds
 have hnl := repCs_length hnr
 rw [flat_length hds] at hnl
 have hnews : ∀ (j : Nat) u, news[j]? = some u -> w.cell? ((⟨b2, off2, none⟩ : Addr).add j) = some u := fun j u hj => by rw [add_plain]; exact (hnc j u hj).1
 have hdl : 0 < ds.length := by cases ds with | nil => exact absurd rfl hne | cons _ _ => simp
 simp only [Nat.zero_add] at hbytes hlim
 have h63 : ds.length <= 9223372036854775807 := by unfold lim at hlim; omega
 have hzc : ∀ (z : Array Value) (n : Nat), (Builtin.zeroCells z n).size = n * z.size := fun z n => size_zeroCells z n
 have hge := grownCap_ge w ds.length 0 e
 obtain ⟨R', g1, g2, g3, g4⟩ := row_grown (N := N) (s := i.size) (n := ds.length) e (repVs_dats (N := N) hnr) hnl hge (Builtin.zeroCells i.zero.cells (grownCap w ds.length 0 e - ds.length)) (by rw [hzc, k5]) (by simpa using hbl) bs
 refine ⟨_, _, _, _, R', grownCap w ds.length 0 e, rfl, ?_, g1, by simpa using g2, by rw [Nat.zero_add], by simpa using hge, ⟨hs0, Nat.le_trans (grownCap_le_maxLen w ds.length 0 e h63) (by decide)⟩, g3, g4⟩
 rcases hbase with rfl | ⟨b, rfl⟩
 ·exact run_append_nil (P := P) w t ty e ie i.zero hu k1 k4 ⟨b2, off2, none⟩ ds.length cap2 news (by rw [k2]; exact hnl) hnews hdl (by omega) (by rw [k3]; omega)
 have hrun := run_append_grow (P := P) w t ty e ie i.zero hu k1 k4 ⟨b, 0, none⟩ 0 0 [] (by simp) (by simp) ⟨b2, off2, none⟩ ds.length cap2 news (by rw [k2]; exact hnl) hnews (by omega) (by omega) (growslice_fits (by omega) (by rw [k3]; simpa using hbytes))
 simpa using hrun
theorem sound_grow_row (hE : E.Ok P) {t ty : TypeId} {i : TI} {len b cap : Nat} {b1 : List Nat} {cs : List AVal} {x : AVal} {u : Value} {out : Out} (hel : elemOf E t = some i) (h : growRow E i len cs x = some out) (hx : RepV w R N x u [])
  (hobj : RepObj w R N (.cells cs) b b1) (hcap : len <= cap) (hcm : cap <= capMax) (hrow : cap * i.size = rowSize w b) (hnd : (b :: b1).Nodup) (bs : List Nat) (hb : b ∉ bs) :
  ∃ o' len' cv w' R' b' b1' cap', out = ⟨.undef, .grow o' i.size len'⟩ /\ (Builtin.append_ #[t, t] ty #[.slice (some ⟨b, 0, none⟩) len cap, u]).run P w = .ok cv w' /\ Keep w R w' R' bs /\ RepObj w' R' N o' b' b1' ∧
   From w (b :: b1) (b' :: b1') /\ cv = .slice (some ⟨b', 0, none⟩) len' cap' /\ len' <= cap' /\ (0 < i.size /\ cap' <= capMax) /\ b' < w'.heap.size /\ cap' * i.size = rowSize w' b' := by
 obtain ⟨e, hu, hty⟩ := elemOf_ok hE hel
 obtain ⟨⟨ie, k1, k2, k3, k4, k5⟩, _⟩ := hE.ty e i hty
 obtain ⟨ds, rfl, hs0, hds, hbytes, hlim, hcl, hbl, rfl⟩ := growRow_spec hE h
 obtain ⟨_, hxr⟩ := repV_slice_inv hx
 obtain ⟨vs, el, sp, hblk, hr, hR, _⟩ := hobj
 have hsz := rowSize_of hblk
 rw [hsz] at hrow
 have hmul : len * i.size <= cap * i.size := Nat.mul_le_mul_right _ hcap
 have hsplit : cs ++ List.replicate sp AVal.undef = cs.take (len * i.size) ++ (cs.drop (len * i.size) ++ List.replicate sp AVal.undef) := by rw [← List.append_assoc, List.take_append_drop]
 rw [hsplit] at hr
 obtain ⟨olds, others, c1, c2, hvs, rfl, hr1, hr2⟩ := repVs_split hr
 have hol : olds.length = len * i.size := by rw [hr1.length, List.length_take]; omega
 have hnd1 := List.nodup_cons.1 hnd
 have hbc : b ∉ c1 := fun hh => hnd1.1 (by simp [hh])
 have hnc1 : c1.Nodup := (List.nodup_append.1 hnd1.2).1
 have hfrom1 : From w (b :: (c1 ++ c2)) (b :: c1) := ⟨List.nodup_cons.2 ⟨hbc, hnc1⟩, fun c hc => .inl (by simp at hc ⊢; rcases hc with h | h <;> simp [h])⟩
 have holt : olds = vs.toList.take (len * i.size) := by rw [hvs, ← hol]; simp
 by_cases hne : ds = []
 ·subst hne
  have hu0 : ∃ a' c, u = .slice a' 0 c := by cases hxr with | nil a c => exact ⟨a, c, rfl⟩ | slice b off cap s es vs => exact ⟨_, _, rfl⟩
  obtain ⟨a', c, rfl⟩ := hu0
  refine ⟨_, _, _, w, R, b, c1, cap, rfl, run_append_none t ty e ie hu k1 (some ⟨b, 0, none⟩) a' len cap c hcap, keep_refl _, ⟨vs, el, others.length, hblk, ?_, hR, fun hb => by rw [hbl] at hb; simp at hb⟩, hfrom1, by simp, by simpa using hcap, ⟨hs0, hcm⟩, lt_of_heap hblk, by rw [hsz]; exact hrow⟩
  rw [hvs]
  simpa using repVs_append hr1 (repVs_undefs (w := w) (R := R) (N := N) others)
 obtain ⟨b2, off2, cap2, news, rfl, _, hnr, hnc⟩ := repC_flat hxr hne hds
 have hnl := repCs_length hnr
 rw [flat_length hds] at hnl
 have hnews : ∀ (j : Nat) u, news[j]? = some u -> w.cell? ((⟨b2, off2, none⟩ : Addr).add j) = some u := fun j u hj => by rw [add_plain]; exact (hnc j u hj).1
 have hdl : 0 < ds.length := by cases ds with | nil => exact absurd rfl hne | cons _ _ => simp
 have h63 : len + ds.length <= 9223372036854775807 := by unfold lim at hlim; omega
 have hzc : ∀ (z : Array Value) (n : Nat), (Builtin.zeroCells z n).size = n * z.size := fun z n => size_zeroCells z n
 have hmul' : (len + ds.length) * i.size = len * i.size + ds.length * i.size := Nat.add_mul ..
 have hdpos : 0 < ds.length * i.size := Nat.mul_pos hdl hs0
 by_cases hroom : len + ds.length <= cap
 ·have hmulr : (len + ds.length) * i.size <= cap * i.size := Nat.mul_le_mul_right _ hroom
  have hrun := run_append_room' (P := P) (w := w) t ty e el ie hu k1 b len cap vs hblk ⟨b2, off2, none⟩ ds.length cap2 news (by rw [k2]; exact hnl) hnews (repCs_one hnr) hroom (by rw [k2, hnl]; omega)
  rw [k2, ← holt] at hrun
  have hlen : (olds ++ news ++ vs.toList.drop (len * i.size + news.length)).length = vs.size := by simp [hol]; omega
  have hkeep := fun bs hb => step_setRow (R := R) (R' := R) hblk (olds ++ news ++ vs.toList.drop (len * i.size + news.length)).toArray (by simpa using hlen) (fun c x h => h) (fun c x _ h => h) (fun off hnR => by
   have h1 : vs.size <= off := by
    rcases Nat.lt_or_ge off vs.size with h' | h'
    ·exact absurd (hR off h') hnR
    exact h'
   rw [Array.getElem?_eq_none h1, Array.getElem?_eq_none (by simp only [List.size_toArray]; omega)]) ⟨0, hR 0 (by omega)⟩ bs hb
  have hblk' := setRow_heap w b vs (olds ++ news ++ vs.toList.drop (len * i.size + news.length)).toArray el (0, 0) hblk
  refine ⟨_, _, _, _, R, b, c1, cap, rfl, hrun, hkeep bs hb, ⟨_, el, (vs.toList.drop (len * i.size + news.length)).length, hblk', ?_, fun j hj => hR j (by simp only [List.size_toArray] at hj; omega), fun hb => by rw [hbl] at hb; simp at hb⟩, hfrom1, rfl, hroom, ⟨hs0, hcm⟩, lt_of_heap hblk', ?_⟩
  ·have q1 := hr1.keep (hkeep c1 hbc)
   have q2 := (repVs_dats (N := N) hnr).keep (hkeep [] (by simp))
   have q3 := repVs_append (repVs_append q1 q2) (repVs_undefs (w := w.setRow b (olds ++ news ++ vs.toList.drop (len * i.size + news.length)).toArray) (R := R) (N := N) (vs.toList.drop (len * i.size + news.length)))
   simpa only [List.append_nil] using q3
  rw [rowSize_of hblk']; simp only [List.size_toArray]; omega
 have holds : ∀ (j : Nat) z, olds[j]? = some z -> w.cell? ((⟨b, 0, none⟩ : Addr).add j) = some z := fun j z hj => by
  rw [add_plain, cell_of_row w b (0 + j) vs el (0, 0) hblk, Nat.zero_add]
  have hj' : vs.toList[j]? = some z := by
   rw [hvs, List.getElem?_append_left]
   ·exact hj
   rcases Nat.lt_or_ge j olds.length with h' | h'
   ·exact h'
   rw [List.getElem?_eq_none h'] at hj; simp at hj
  simpa using hj'
 have hrun := run_append_grow (P := P) w t ty e ie i.zero hu k1 k4 ⟨b, 0, none⟩ len cap olds (by rw [k2]; exact hol) holds ⟨b2, off2, none⟩ ds.length cap2 news (by rw [k2]; exact hnl) hnews (by omega) (by omega) (growslice_fits (by omega) (by rw [k3]; exact hbytes))
 have hge := grownCap_ge w (len + ds.length) cap e
 have hrr := repVs_append hr1 (repVs_dats (N := N) hnr)
 obtain ⟨R', g1, g2, g3, g4⟩ := row_grown (N := N) (s := i.size) (n := len + ds.length) e hrr (by rw [List.length_append, hol, hnl]; omega) hge (Builtin.zeroCells i.zero.cells (grownCap w (len + ds.length) cap e - (len + ds.length))) (by rw [hzc, k5]) hbl bs
 refine ⟨_, _, _, _, R', w.heap.size, c1, grownCap w (len + ds.length) cap e, rfl, ?_, g1, by simpa using g2, ⟨?_, ?_⟩, rfl, hge, ⟨hs0, Nat.le_trans (grownCap_le_maxLen w (len + ds.length) cap e h63) (by decide)⟩, g3, g4⟩
 ·simpa using hrun
 ·refine List.nodup_cons.2 ⟨fun hh => ?_, hnc1⟩
  have := hr1.lt _ hh
  omega
 intro c hc
 rcases List.mem_cons.1 hc with rfl | hc
 ·exact .inr (Nat.le_refl _)
 exact .inl (by simp [hc])
theorem made_cons (z : Array Value) (c : Nat) (hz : 0 < z.size) : (madeCells z ((c + 1) * z.size)).toList = z.toList ++ (madeCells z (c * z.size)).toList := by
 apply List.ext_getElem?
 intro k
 have hget : ∀ n k : Nat, (madeCells z n).toList[k]? = if k < n then some (z[k % z.size]!) else none := by
  intro n k
  simp only [madeCells, Array.toList_map, List.getElem?_map, Array.toList_range]
  by_cases h : k < n
  ·rw [if_pos h, List.getElem?_range h]; rfl
  rw [if_neg h, List.getElem?_eq_none (by simpa using h)]; rfl
 rw [hget, List.getElem?_append, hget, Nat.add_mul, Nat.one_mul]
 simp only [Array.length_toList]
 by_cases h : k < z.size
 ·rw [if_pos h, if_pos (by omega), Nat.mod_eq_of_lt h]
  simp [h]
 rw [if_neg h]
 by_cases h2 : k < c * z.size + z.size
 ·rw [if_pos h2, if_pos (by omega)]
  congr 2
  exact (Nat.mod_eq_sub_mod (by omega))
 rw [if_neg h2, if_neg (by omega)]
theorem repVs_made {zs : List AVal} {z : Array Value} (hz : 0 < z.size) (h : RepVs w R N zs z.toList []) : ∀ c : Nat, RepVs w R N (replL zs c) (madeCells z (c * z.size)).toList []
 | 0 => by
  have : (madeCells z (0 * z.size)).toList = [] := by simp [madeCells]
  rw [this]; exact repVs_nil
 | c + 1 => by
  rw [made_cons z c hz]
  exact repVs_append h (repVs_made hz h c)
theorem sound_makeSlice (hE : E.Ok P) {t : TypeId} {a b : AVal} {x y : Value} {out : Out} (h : aMakeSlice E t [a, b] = some out) (ha : RepV w R N a x []) (hb : RepV w R N b y []) (bs : List Nat) :
  ∃ o' len cv w' R' cap s, out = ⟨.undef, .grow o' s len⟩ /\ (Instr.makeSlice t x y).run P w = .ok cv w' /\ Keep w R w' R' bs /\ RepObj w' R' N o' w.heap.size [] ∧
   cv = .slice (some ⟨w.heap.size, 0, none⟩) len cap /\ len <= cap /\ (0 < s /\ cap <= capMax) /\ w.heap.size < w'.heap.size /\ cap * s = rowSize w' w.heap.size := by
 unfold aMakeSlice at h
 split at h
 ·rename_i k1 l k2 c heq
  simp at heq
  obtain ⟨rfl, rfl⟩ := heq
  obtain ⟨_, rfl, _⟩ := repV_flat_inv ha
  obtain ⟨_, rfl, _⟩ := repV_flat_inv hb
  split at h
  ·rename_i i l c hel _ _
   split at h
   ·rename_i hc
    simp only [Bool.and_eq_true, Nat.ble_eq, Nat.blt_eq] at hc
    obtain ⟨⟨⟨⟨⟨h1, h2⟩, h3⟩, h4⟩, h5⟩, h6⟩ := hc
    simp at h
    subst h
    obtain ⟨e, hu, hty⟩ := elemOf_ok hE hel
    obtain ⟨⟨ie, k1, k2, k3, k4, k5⟩, _⟩ := hE.ty e i hty
    have hb' : (ie.bytes : Int) * (c : Int) <= 281474976710656 := by
     have h : ((ie.bytes * c : Nat) : Int) <= 281474976710656 := by rw [k3]; omega
     rwa [Int.natCast_mul] at h
    have hrun := fun q1 q2 => run_make (P := P) w t e ie i.zero hu k1 k4 q1 q2 (l : Int) (c : Int) (by omega) (by omega) hb' (by unfold lim at h3; omega)
    simp only [Int.toNat_natCast] at hrun
    let R' : Own := fun b off => b = w.heap.size ∨ R b off
    have hst : ∀ b off, b < w.heap.size -> (R' b off ↔ R b off) := fun b off hb => ⟨fun h => by rcases h with h | h; exact absurd h (by omega); exact h, fun h => .inr h⟩
    have hk := fun bs => keep_alloc (w := w) (R := R) (.cells (madeCells i.zero.cells (c * ie.size)) e) hst bs
    have hh : (w.alloc (.cells (madeCells i.zero.cells (c * ie.size)) e)).heap[w.heap.size]? = some (.cells (madeCells i.zero.cells (c * ie.size)) e (0, 0)) := heap_alloc_new w _
    have hz := (acells_rep (ofConst_rep (w := w) (R := R) (N := N) i.zero) h5).keep (hk [])
    refine ⟨_, l, _, _, R', c, i.size, rfl, hrun _ _, hk bs, ⟨_, e, 0, hh, ?_, fun j _ => .inl rfl, fun hb => by rw [hb] at h6; simp at h6⟩, rfl, h1, ⟨h4, by unfold lim at h3; unfold capMax; omega⟩, lt_of_heap hh, ?_⟩
    ·have hsz : c * ie.size = c * i.zero.cells.size := by rw [k2, k5]
     have := repVs_made (by rw [k5]; exact h4) hz c
     rw [← hsz] at this
     simpa using this
    rw [rowSize_of hh, size_madeCells, k2]
   simp at h
  simp at h
 simp at h
theorem value_run {s : Sem Value} {cv : Value} {w' : World} (h : s.run P w = .ok cv w') : (do pure (Next.value (← s)) : Sem Next).run P w = .ok (.value cv) w' := by
 simp [h]
theorem skip_run {s : Sem Unit} {w' : World} (h : s.run P w = .ok () w') : (do s; pure Next.skip : Sem Next).run P w = .ok .skip w' := by
 simp [h]
end
end Go.Tp

namespace Go.Tp
section
variable {P : Program} {E : TEnv} {w : World} {R : Own} {N : Name -> Option Nat}
theorem repVs_one {vals : List AVal} {x : Value} {bs : List Nat} (h : RepVs w R N vals [x] bs) : ∃ a, vals = [a] /\ RepV w R N a x bs := by
 cases vals with
 | nil => simp [RepVs] at h
 | cons a vals =>
  obtain ⟨v, vs', b1, b2, e1, rfl, h1, h2⟩ := repVs_cons_inv h
  simp at e1
  obtain ⟨rfl, rfl⟩ := e1
  cases vals with
  | nil => obtain ⟨_, rfl⟩ := repVs_nil_inv h2; exact ⟨a, rfl, by simpa using h1⟩
  | cons _ _ => simp [RepVs] at h2
theorem repVs_two {vals : List AVal} {x y : Value} {bs : List Nat} (h : RepVs w R N vals [x, y] bs) : ∃ a b b1 b2, vals = [a, b] /\ bs = b1 ++ b2 /\ RepV w R N a x b1 /\ RepV w R N b y b2 := by
 cases vals with
 | nil => simp [RepVs] at h
 | cons a vals =>
  obtain ⟨v, vs', b1, b2, e1, rfl, h1, h2⟩ := repVs_cons_inv h
  simp at e1
  obtain ⟨rfl, rfl⟩ := e1
  obtain ⟨b, rfl, h3⟩ := repVs_one h2
  exact ⟨a, b, b1, b2, rfl, rfl, h1, h3⟩
theorem repVs_three {vals : List AVal} {x y z : Value} {bs : List Nat} (h : RepVs w R N vals [x, y, z] bs) :
  ∃ a b c b1 b2 b3, vals = [a, b, c] /\ bs = b1 ++ (b2 ++ b3) /\ RepV w R N a x b1 /\ RepV w R N b y b2 /\ RepV w R N c z b3 := by
 cases vals with
 | nil => simp [RepVs] at h
 | cons a vals =>
  obtain ⟨v, vs', b1, b2, e1, rfl, h1, h2⟩ := repVs_cons_inv h
  simp at e1
  obtain ⟨rfl, rfl⟩ := e1
  obtain ⟨b, c, c1, c2, rfl, rfl, h3, h4⟩ := repVs_two h2
  exact ⟨a, b, c, b1, c1, c2, rfl, rfl, h1, h3, h4⟩
theorem app_nil {a b : List Nat} (h : a ++ b = []) : a = [] /\ b = [] := List.append_eq_nil_iff.1 h
/-- What an operation finds: the object that it looks at. -/
def Looked (w : World) (R : Own) (N : Name -> Option Nat) (o : Op) (vals : List AVal) (ob : Option AObj) (nm : Option (Nat × List Nat)) : Prop :=
 match looks o vals with
 | none => ob = none /\ nm = none
 | some n => (ob = none /\ nm = none) ∨ ∃ b b1 obj, ob = some obj /\ nm = some (b, b1) /\ N n = some b /\ RepObj w R N obj b b1
abbrev Ran (P : Program) (w : World) (ρ : Operand -> Value) (o : Oper) (cv : Value) (w' : World) : Prop :=
 (execOp ρ o).run P w = .ok (.value cv) w' ∨ ((execOp ρ o).run P w = .ok .skip w' /\ cv = undef)
theorem looked_apz {args : Array Operand} {tys : Array TypeId} {a x : AVal} {ob : Option AObj} {nm : Option (Nat × List Nat)} (h : Looked w R N (.call ⟨.builtin .append, args, tys⟩) [a, x] ob nm) :
  Looked w R N (.call ⟨.builtin .append, args, tys⟩) [ownz a, nz x] ob nm := by
 have e : looks (.call ⟨.builtin .append, args, tys⟩) [a, x] = looks (.call ⟨.builtin .append, args, tys⟩) [ownz a, nz x] := by
  unfold ownz
  split
  ·rfl
  cases a <;> rfl
 unfold Looked at h ⊢
 rw [← e]
 exact h
theorem looked_none {o : Op} {vals : List AVal} {ob : Option AObj} {nm : Option (Nat × List Nat)} (h : Looked w R N o vals ob nm) (hl : looks o vals = none) : ob = none /\ nm = none := by
 unfold Looked at h; rw [hl] at h; exact h
theorem looked_some {o : Op} {vals : List AVal} {ob : Option AObj} {nm : Option (Nat × List Nat)} {n : Name} {obj : AObj} (h : Looked w R N o vals ob nm) (hl : looks o vals = some n) (ho : ob = some obj) :
  ∃ b b1, nm = some (b, b1) /\ N n = some b /\ RepObj w R N obj b b1 := by
 unfold Looked at h
 rw [hl] at h
 rcases h with ⟨h, _⟩ | ⟨b, b1, obj', h1, h2, h3, h4⟩
 ·rw [ho] at h; simp at h
 rw [ho] at h1; simp at h1; subst h1; exact ⟨b, b1, h2, h3, h4⟩
theorem aop_sound (hE : E.Ok P) {take : Bool} {o : Oper} {ρ : Operand -> Value} {vals : List AVal} {ob : Option AObj} {nm : Option (Nat × List Nat)} {out : Out} (h : aop E take o.op vals ob = some out)
  {bsM rest : List Nat} (hv : RepVs w R N vals ((opsL o.op).map ρ) bsM) (hmv : movedOp o.op = none -> bsM = []) (hlk : Looked w R N o.op vals ob nm) (hnd : (bsM ++ (nmL nm ++ rest)).Nodup)
  (hc : ∀ v, ρ (.const v) = v) :
  ∃ cv w' R', Ran P w ρ o cv w' /\ OutOk w R N ob nm bsM rest out cv w' R' := by
 obtain ⟨dst, op, type, pos, after, guard⟩ := o
 have hndM : bsM.Nodup := (List.nodup_append.1 hnd).1
 cases op with
 | move x =>
  obtain ⟨a, rfl, ha⟩ := repVs_one hv
  simp only [aop, aMove, Option.some.injEq] at h
  subst h
  obtain ⟨rfl, rfl⟩ := looked_none hlk rfl
  exact ⟨ρ x, w, R, .inl rfl, .pure rfl ha (.self hndM) (by simp)⟩
 | assign x =>
  obtain ⟨a, rfl, ha⟩ := repVs_one hv
  simp only [aop, aMove, Option.some.injEq] at h
  subst h
  obtain ⟨rfl, rfl⟩ := looked_none hlk rfl
  exact ⟨ρ x, w, R, .inl rfl, .pure rfl ha (.self hndM) (by simp)⟩
 | pick c x y =>
  obtain rfl := hmv rfl
  obtain ⟨a, b, d, b1, b2, b3, rfl, e, ha, hb, hd⟩ := repVs_three hv
  obtain ⟨rfl, e'⟩ := app_nil e.symm
  obtain ⟨rfl, rfl⟩ := app_nil e'
  obtain ⟨rfl, rfl⟩ := looked_none hlk rfl
  simp only [aop, aPick] at h
  split at h
  ·rename_i cb a' b' heq
   simp at heq
   obtain ⟨rfl, rfl, rfl⟩ := heq
   simp at h
   subst h
   obtain ⟨_, e, _⟩ := repV_flat_inv ha
   refine ⟨if cb then ρ x else ρ y, w, R, .inl ?_, .pure (bsV := []) rfl ?_ .nil (by simp)⟩
   ·simp [execOp, e, asBool]
   cases cb
   ·simpa using hd
   simpa using hb
  simp at h
 | binOp bo t x y ty =>
  obtain rfl := hmv rfl
  obtain ⟨a, b, b1, b2, rfl, e, ha, hb⟩ := repVs_two hv
  obtain ⟨rfl, rfl⟩ := app_nil e.symm
  obtain ⟨rfl, rfl⟩ := looked_none hlk rfl
  simp only [aop] at h
  split at h
  ·rename_i hy
   unfold isNilSlice at hy
   split at hy
   ·obtain ⟨he, cv, h1, h2⟩ := sound_nilSlice (w := w) hE h ha x (.const (.slice none 0 0))
    rw [← hc (.slice none 0 0)] at h1
    exact ⟨cv, w, R, .inl (value_run h1), .pure he h2 .nil (by simp)⟩
   simp at hy
  obtain ⟨he, cv, h1, h2⟩ := sound_bin (w := w) hE h ha hb x y
  exact ⟨cv, w, R, .inl (value_run h1), .pure he h2 .nil (by simp)⟩
 | unOp uo t x =>
  obtain rfl := hmv rfl
  obtain ⟨a, rfl, ha⟩ := repVs_one hv
  obtain ⟨rfl, rfl⟩ := looked_none hlk rfl
  obtain ⟨he, cv, h1, h2⟩ := sound_un (P := P) (w := w) hE h ha
  exact ⟨cv, w, R, .inl (value_run h1), .pure he h2 .nil (by simp)⟩
 | convert s d x =>
  obtain rfl := hmv rfl
  obtain ⟨a, rfl, ha⟩ := repVs_one hv
  obtain ⟨rfl, rfl⟩ := looked_none hlk rfl
  obtain ⟨he, cv, h1, h2⟩ := sound_convert (w := w) hE h (repV_nz ha)
  exact ⟨cv, w, R, .inl (value_run h1), .pure he h2 .nil (by simp)⟩
 | nilCheck x =>
  obtain rfl := hmv rfl
  obtain ⟨a, rfl, ha⟩ := repVs_one hv
  obtain ⟨rfl, rfl⟩ := looked_none hlk rfl
  simp only [aop, aNil] at h
  split at h
  ·rename_i n off heq
   simp at heq
   subst heq
   simp at h
   subst h
   have ha' := ha
   simp only [RepV] at ha'
   obtain ⟨_, b, _, e⟩ := ha'
   refine ⟨ρ x, w, R, .inl ?_, .pure rfl ha .nil (by simp)⟩
   simp [execOp, e]
  ·rename_i cs heq
   simp at heq
   subst heq
   simp at h
   subst h
   have ha' := ha
   simp only [RepV] at ha'
   obtain ⟨_, b, of, e, _⟩ := ha'
   refine ⟨ρ x, w, R, .inl ?_, .pure rfl ha .nil (by simp)⟩
   simp [execOp, e]
  simp at h
 | fieldAddr st x f =>
  obtain rfl := hmv rfl
  obtain ⟨a, rfl, ha⟩ := repVs_one hv
  obtain ⟨rfl, rfl⟩ := looked_none hlk rfl
  obtain ⟨he, cv, h1, h2⟩ := sound_fieldAddr (w := w) hE h ha
  exact ⟨cv, w, R, .inl (value_run h1), .pure he h2 .nil (by simp)⟩
 | field st x f =>
  obtain rfl := hmv rfl
  obtain ⟨a, rfl, ha⟩ := repVs_one hv
  obtain ⟨rfl, rfl⟩ := looked_none hlk rfl
  obtain ⟨he, cv, h1, h2⟩ := sound_field (w := w) hE h ha
  exact ⟨cv, w, R, .inl (value_run h1), .pure he h2 .nil (by simp)⟩
 | indexAddr t x y =>
  obtain rfl := hmv rfl
  obtain ⟨a, b, b1, b2, rfl, e, ha, hb⟩ := repVs_two hv
  obtain ⟨rfl, rfl⟩ := app_nil e.symm
  obtain ⟨rfl, rfl⟩ := looked_none hlk rfl
  obtain ⟨he, cv, h1, h2⟩ := sound_indexAddr (w := w) hE h (repV_nz ha) (repV_nz hb)
  exact ⟨cv, w, R, .inl (value_run h1), .pure he h2 .nil (by simp)⟩
 | index t x y =>
  obtain rfl := hmv rfl
  obtain ⟨a, b, b1, b2, rfl, e, ha, hb⟩ := repVs_two hv
  obtain ⟨rfl, rfl⟩ := app_nil e.symm
  obtain ⟨rfl, rfl⟩ := looked_none hlk rfl
  obtain ⟨he, cv, h1, h2⟩ := sound_index (w := w) hE h ha hb
  exact ⟨cv, w, R, .inl (value_run h1), .pure he h2 .nil (by simp)⟩
 | slice t x lo hi mx =>
  obtain rfl := hmv rfl
  simp only [opsL, List.map_cons] at hv
  cases vals with
  | nil => simp [RepVs] at hv
  | cons a vals =>
   obtain ⟨v, vs', b1, b2, e1, e2, h1, h2⟩ := repVs_cons_inv hv
   simp at e1
   obtain ⟨rfl, e1⟩ := e1
   obtain ⟨rfl, rfl⟩ := app_nil e2.symm
   obtain ⟨rfl, rfl⟩ := looked_none hlk rfl
   rw [← e1] at h2
   obtain ⟨he, rfl, cv, k1, k2⟩ := sound_slice (ρ := ρ) (w := w) hE h (repV_nz h1) (repVs_nz (by simpa using h2))
   exact ⟨cv, w, R, .inl (value_run k1), .pure he k2 .nil (by simp)⟩
 | build t ps =>
  obtain rfl := hmv rfl
  obtain ⟨rfl, rfl⟩ := looked_none hlk rfl
  obtain ⟨he, cv, h1, h2⟩ := sound_build (w := w) hE h hv
  exact ⟨cv, w, R, .inl (value_run h1), .pure he h2 .nil (by simp)⟩
 | buildSlice t len ps =>
  obtain rfl := hmv rfl
  obtain ⟨rfl, rfl⟩ := looked_none hlk rfl
  simp only [aop] at h
  split at h
  ·obtain ⟨o', s, w', R', rfl, h1, h2, h3, h4, h5, h6⟩ := sound_buildRow (w := w) hE h hv rest
   refine ⟨_, w', R', .inl (value_run h1), h2, ?_⟩
   dsimp only
   cases Nat.beq len 1 with
   | true => exact ⟨rfl, [], h3, ⟨by simp, by simp⟩, h5, len, rfl, Nat.le_refl _, h4, h6⟩
   | false => exact ⟨w.heap.size, [], len, h3, ⟨by simp, by simp⟩, rfl, Nat.le_refl _, h4, h5, h6⟩
  obtain ⟨he, cv, w', R', h1, h2, h3⟩ := sound_buildSlice (w := w) hE h hv rest
  refine ⟨cv, w', R', .inl (value_run h1), h2, ?_⟩
  rw [he]
  exact ⟨_, h3, ⟨by simp, by simp⟩, by simp⟩
 | makeFunc f first captured =>
  obtain rfl := hmv rfl
  obtain ⟨rfl, rfl⟩ := looked_none hlk rfl
  simp only [opsL, List.map_append] at hv
  have hlen : first.size = (first.toList.map ρ).length := by simp
  simp only [aop, hlen] at h
  obtain ⟨he, cv, h1, h2⟩ := sound_makeFunc (P := P) (w := w) h hv
  refine ⟨cv, w, R, .inl ?_, .pure he h2 .nil (by simp)⟩
  have e1 : (first.toList.map ρ).toArray = first.map ρ := by rw [← Array.toList_map]
  have e2 : (captured.toList.map ρ).toArray = captured.map ρ := by rw [← Array.toList_map]
  rw [e1, e2] at h1
  exact value_run h1
 | extract x i =>
  obtain ⟨a, rfl, ha⟩ := repVs_one hv
  obtain ⟨rfl, rfl⟩ := looked_none hlk rfl
  obtain ⟨he, cv, b', h1, h2, h3⟩ := sound_extract (P := P) (w := w) h ha
  exact ⟨cv, w, R, .inl (value_run h1), .pure he h2 ⟨h3.nodup hndM, fun b hb => .inl (h3.subset hb)⟩ (by simp)⟩
 | load t x =>
  obtain rfl := hmv rfl
  obtain ⟨a, rfl, ha⟩ := repVs_one hv
  simp only [aop, aLoad] at h
  split at h
  ·rename_i cs heq
   simp at heq
   subst heq
   obtain ⟨rfl, rfl⟩ := looked_none hlk rfl
   split at h
   ·rename_i i hty
    cases hl : loadDats i cs with
    | none => simp [hl, ofA] at h
    | some v =>
     simp [hl, ofA] at h
     subst h
     simp only [RepV] at ha
     obtain ⟨_, b, off, e, hat⟩ := ha
     obtain ⟨cv, h1, h2⟩ := loadDats_rep (N := N) hE hty hl hat
     refine ⟨cv, w, R, .inl ?_, .pure rfl h2 .nil (by simp)⟩
     have : (Instr.loadAt t (ρ x)).run P w = .ok cv w := by rw [e]; simp [Instr.loadAt, Instr.sureAddr, h1]
     exact value_run this
   simp at h
  ·rename_i n off heq
   simp at heq
   subst heq
   simp only [RepV] at ha
   obtain ⟨_, b, hb, e⟩ := ha
   split at h
   ·rename_i i cs hty
    obtain ⟨b', b1, rfl, hb', hobj⟩ := looked_some hlk rfl rfl
    rw [hb] at hb'
    simp at hb'
    subst hb'
    have hobj' := hobj
    obtain ⟨vs, elem, sp, hblk, hr, hR⟩ := hobj'
    have plain : ∀ v, loadCells i off cs = some v -> out = ⟨v, .keep⟩ -> ∃ cv w' R', Ran P w ρ ⟨dst, .load t x, type, pos, after, guard⟩ cv w' /\ OutOk w R N (some (.cells cs)) (some (b, b1)) [] rest out cv w' R' := by
     intro v hl ho
     subst ho
     obtain ⟨cv, h1, h2⟩ := run_load_obj (N := N) hE hty hblk hr (loadCells_pad hl)
     rw [← e] at h1
     refine ⟨cv, w, R, .inl (value_run h1), .pure rfl h2 .nil ?_⟩
     intro b2 c1 o hnm ho
     simp at hnm
     obtain ⟨rfl, rfl⟩ := hnm
     simp at ho
     subst ho
     exact hobj
    split at h
    ·rename_i htk
     split at h
     ·rename_i es hes
      simp at h
      subst h
      obtain ⟨pre, bt, post, cv, f1, f2, f3, f4⟩ := RepVs.split hr (get_pad hes)
      have hag : i.isAgg = false := by simp at htk; exact htk.2
      have hcell : w.cell? ⟨b, off, none⟩ = some cv := by
       rw [cell_of_row w b off vs elem (0, 0) hblk]; simpa using f2
      have h1 : (Instr.loadAt t (ρ x)).run P w = .ok cv w := by
       rw [e]; simp [Instr.loadAt, Instr.sureAddr, loadVar, hE.run_isAgg hty, hag, hcell]
      refine ⟨cv, w, R, .inl (value_run h1), keep_refl _, ?_⟩
      refine ⟨b, b1, pre ++ [] ++ post, bt, rfl, ?_, f3, ?_⟩
      ·have hset := f4 w R (.dat (.slice es)) cv [] (keep_refl _) (repV_dat (d := .slice es) (repV_own_inv f3).rep)
       have e1 : vs.toList.set off cv = vs.toList := by
        apply List.ext_getElem?
        intro j
        rw [List.getElem?_set]
        split
        ·rename_i hj; subst hj; split
         ·exact f2.symm
         rename_i hl; rw [List.getElem?_eq_none (by omega)]
        rfl
       have e2 : putL off [AVal.dat (.slice es)] cs = cs.set off (.dat (.slice es)) := by
        apply List.ext_getElem?
        intro j
        rw [putL_get, List.getElem?_set]
        by_cases hj : off = j
        ·subst hj
         by_cases hl : off < cs.length
         ·rw [if_pos ⟨Nat.le_refl _, by simp, hl⟩, if_pos rfl, if_pos hl]; simp
         rw [if_neg (by omega), if_pos rfl, if_neg hl]; exact List.getElem?_eq_none (by omega)
        rw [if_neg (by simp; omega), if_neg hj]
       rw [e1] at hset
       rw [List.set_append_left (h := (List.getElem?_eq_some_iff.1 hes).1)] at hset
       exact ⟨vs, elem, sp, hblk, by rw [e2]; exact hset, hR.1, fun hb => hR.2 (bldSh_taken hes hb)⟩
      have hb1 : b1.Nodup := by
       have := (List.nodup_append.1 hnd).2.1
       have := (List.nodup_append.1 this).1
       simp [nmL] at this
       exact this.2
      subst f1
      constructor
      ·have hp : (bt ++ (pre ++ [] ++ post)).Perm (pre ++ bt ++ post) := by
        simp only [List.append_nil, ← List.append_assoc]
        exact List.Perm.append_right _ List.perm_append_comm
       exact hp.nodup_iff.2 hb1
      intro c hc
      left
      simp at hc ⊢
      rcases hc with h | h | h <;> simp [h]
     cases hl : loadCells i off cs with
     | none => simp [hl, ofA] at h
     | some v => simp [hl, ofA] at h; exact plain v hl h.symm
    cases hl : loadCells i off cs with
    | none => simp [hl, ofA] at h
    | some v => simp [hl, ofA] at h; exact plain v hl h.symm
   simp at h
  simp at h
 | store t x y =>
  obtain ⟨a, v, b1, b2, rfl, rfl, ha, hb⟩ := repVs_two hv
  have hcase : ∃ n off, a = .ptr n off := by
   cases a <;> simp [aop, aStore] at h
   exact ⟨_, _, rfl⟩
  obtain ⟨n, off, rfl⟩ := hcase
  have hcs : ∃ cs, ob = some (.cells cs) := by
   simp only [aop, aStore] at h
   split at h
   ·exact ⟨_, rfl⟩
   simp at h
  obtain ⟨cs, hob⟩ := hcs
  obtain ⟨b, c1, rfl, hN, hobj⟩ := looked_some hlk rfl hob
  simp only [RepV] at ha
  obtain ⟨rfl, b', hb', e⟩ := ha
  rw [hN] at hb'
  simp at hb'
  subst hb'
  subst hob
  simp only [List.nil_append, nmL] at hnd
  have nd := hnd
  simp only [List.cons_append] at nd
  have hbV : b ∉ b2 := fun hc => (List.nodup_append.1 nd).2.2 b hc b (by simp) rfl
  have nd2 := (List.nodup_append.1 nd).2.1
  have hbc : b ∉ c1 ++ rest := (List.nodup_cons.1 nd2).1
  obtain ⟨hval, cs', heff, w', pre, mid, post, h1, h2, h3, h4⟩ := sound_store (w := w) (n := n) hE h hobj hb rest (by simp at hbc; exact hbc.2) (by simp at hbc; exact hbc.1) hbV
  rw [← e] at h1
  refine ⟨undef, w', R, .inr ⟨skip_run h1, rfl⟩, h2, ?_⟩
  rw [heff]
  refine ⟨b, c1, pre ++ b2 ++ post, [], rfl, h4, by rw [hval]; exact repV_undef _, ?_⟩
  subst h3
  constructor
  ·have nd3 : (b2 ++ (pre ++ mid ++ post)).Nodup := by
    have h5 := (List.nodup_append.1 nd)
    refine List.nodup_append.2 ⟨h5.1, ?_, ?_⟩
    ·exact (List.nodup_append.1 (List.nodup_cons.1 nd2).2).1
    intro p hp q hq; exact h5.2.2 p hp q (by simp at hq ⊢; rcases hq with h | h | h <;> simp [h])
   have hsub : (b2 ++ (pre ++ post)).Nodup := by
    refine List.Nodup.sublist ?_ nd3
    refine List.Sublist.append (.refl _) ?_
    rw [List.append_assoc]
    exact List.Sublist.append (.refl _) (List.sublist_append_right _ _)
   have hp : ([] ++ (pre ++ b2 ++ post)).Perm (b2 ++ (pre ++ post)) := by
    simp only [List.nil_append]
    rw [← List.append_assoc]
    exact List.Perm.append_right _ List.perm_append_comm
   exact hp.nodup_iff.2 hsub
  intro c hc
  left
  simp at hc ⊢
  rcases hc with h | h | h <;> simp [h]
 | alloc t =>
  obtain ⟨rfl, rfl⟩ := looked_none hlk rfl
  simp only [opsL, List.map_nil] at hv
  cases vals with
  | cons _ _ => simp [RepVs] at hv
  | nil =>
   obtain ⟨_, rfl⟩ := repVs_nil_inv hv
   simp only [aop, aAlloc] at h
   split at h
   ·rename_i i hty
    split at h
    ·rename_i hok
     simp at h
     subst h
     have hz := acells_rep (ofConst_rep (w := w) (R := R) (N := N) i.zero) hok.1
     obtain ⟨k1, k2⟩ := new_cells hz t (fun hb => by have := hok.2; rw [hb] at this; exact Nat.eq_of_beq_eq_true (by simpa using this)) rest
     refine ⟨.pointer (some ⟨w.heap.size, 0, none⟩), _, _, .inl ?_, k1, rfl, _, k2, ⟨List.nodup_nil, by simp⟩, by simp, rfl⟩
     have : (Instr.alloc t true (.tuple #[])).run P w = .ok (.pointer (some ⟨w.heap.size, 0, none⟩)) (w.alloc (.cells i.zero.cells t)) := by
      simp [Instr.alloc, hE.run_zero hty, newVar, newRow]
     exact value_run this
    simp at h
   simp at h
 | box t x =>
  obtain ⟨a, rfl, ha⟩ := repVs_one hv
  obtain ⟨rfl, rfl⟩ := looked_none hlk rfl
  simp only [aop, aBox] at h
  split at h
  ·rename_i hok
   simp at h
   subst h
   have hc := acells_rep ha hok.1
   obtain ⟨k1, k2⟩ := new_cells hc t (fun hb => by have := hok.2; rw [hb] at this; simp at this) rest
   refine ⟨.pointer (some ⟨w.heap.size, 0, none⟩), _, _, .inl ?_, k1, rfl, _, k2, ⟨hndM, fun _ h => h⟩, by simp, rfl⟩
   have : (Instr.box t (ρ x)).run P w = .ok (.pointer (some ⟨w.heap.size, 0, none⟩)) (w.alloc (.cells (ρ x).cells t)) := by
    simp [Instr.box, newVar, newRow]
   exact value_run this
  simp at h
 | makeMap t r =>
  obtain ⟨rfl, rfl⟩ := looked_none hlk rfl
  simp only [opsL, List.map_nil] at hv
  cases vals with
  | cons _ _ => simp [RepVs] at hv
  | nil =>
   obtain ⟨_, rfl⟩ := repVs_nil_inv hv
   simp only [aop, aMakeMap, aFreshMap] at h
   cases r with
   | some _ => split at h <;> simp at h
   | none =>
    have hrun : (Instr.makeMap t none).run P w = .ok (.map (some w.heap.size)) (w.alloc (.map #[] 0)) := by
     simp [Instr.makeMap]
    obtain ⟨k1, k2⟩ := new_map (w := w) (R := R) (N := N) rest
    split at h
    ·simp at h
     subst h
     exact ⟨.map (some w.heap.size), _, _, .inl (value_run hrun), k1, rfl, _, k2, ⟨List.nodup_nil, by simp⟩, by simp, rfl⟩
    simp at h
    subst h
    exact ⟨.map (some w.heap.size), _, _, .inl (value_run hrun), k1, rfl, _, k2, ⟨List.nodup_nil, by simp⟩, by simp, rfl⟩
 | lookup t x y ok =>
  obtain rfl := hmv rfl
  obtain ⟨a, b, b1, b2, rfl, e, ha, hb⟩ := repVs_two hv
  obtain ⟨rfl, rfl⟩ := app_nil e.symm
  have hob : ∀ n es, a = .map n -> ob = some (.map es) -> ∃ bl ents clock, ρ x = .map (some bl) /\ w.heap[bl]? = some (.map ents clock) /\ RepMap w R es ents.toList := by
   intro n es hn ho
   subst hn
   obtain ⟨bl, c1, _, hN, hobj⟩ := looked_some hlk rfl ho
   simp only [RepV] at ha
   obtain ⟨_, b', hb', e⟩ := ha
   rw [hN] at hb'
   simp at hb'
   subst hb'
   obtain ⟨_, _, ents, clock, hblk, hr, _⟩ := hobj
   exact ⟨bl, ents, clock, e, hblk, hr⟩
  obtain ⟨he, cv, h1, h2⟩ := sound_lookup (w := w) hE h hb ha hob
  refine ⟨cv, w, R, .inl (value_run h1), .pure he h2 .nil ?_⟩
  intro bl c1 obj hnm ho
  unfold Looked at hlk
  split at hlk
  ·rw [hlk.2] at hnm; simp at hnm
  rcases hlk with ⟨_, h⟩ | ⟨b', c', obj', k1, k2, k3, k4⟩
  ·rw [h] at hnm; simp at hnm
  rw [k2] at hnm; simp at hnm; obtain ⟨rfl, rfl⟩ := hnm
  rw [k1] at ho; simp at ho; subst ho; exact k4
 | mapUpdate t x y z =>
  obtain rfl := hmv rfl
  obtain ⟨a, b, d, b1, b2, b3, rfl, e, ha, hb, hd⟩ := repVs_three hv
  obtain ⟨rfl, e'⟩ := app_nil e.symm
  obtain ⟨rfl, rfl⟩ := app_nil e'
  have hcase : ∃ n, a = .map n := by
   simp only [aop, aMapUpdate] at h
   split at h
   ·rename_i n k v heq; simp at heq; exact ⟨n, heq.1⟩
   simp at h
  obtain ⟨n, rfl⟩ := hcase
  have hes : ∃ es, ob = some (.map es) := by
   simp only [aop, aMapUpdate] at h
   split at h
   ·split at h
    ·exact ⟨_, rfl⟩
    simp at h
   simp at h
  obtain ⟨es, hob⟩ := hes
  obtain ⟨bl, c1, rfl, hN, hobj⟩ := looked_some hlk rfl hob
  simp only [RepV] at ha
  obtain ⟨_, b', hb', e⟩ := ha
  rw [hN] at hb'
  simp at hb'
  subst hb'
  subst hob
  have hc1 : c1 = [] := hobj.1
  subst hc1
  have hbr : bl ∉ rest := by simp [nmL] at hnd; exact hnd.1
  obtain ⟨hval, es', heff, w', h1, h2, h3⟩ := sound_mapUpdate (w := w) (n := n) hE h hobj hb hd rest hbr
  rw [← e] at h1
  refine ⟨undef, w', R, .inr ⟨skip_run h1, rfl⟩, h2, ?_⟩
  rw [heff]
  exact ⟨bl, [], [], [], rfl, h3, by rw [hval]; exact repV_undef _, by simp, by simp⟩
 | makeSlice t x y =>
  obtain rfl := hmv rfl
  obtain ⟨a, b, b1, b2, rfl, e, ha, hb⟩ := repVs_two hv
  obtain ⟨rfl, rfl⟩ := app_nil e.symm
  obtain ⟨rfl, rfl⟩ := looked_none hlk rfl
  obtain ⟨o', len, cv, w', R', cap, s, rfl, h1, h2, h3, rfl, h5, h6, h7, h8⟩ := sound_makeSlice (w := w) hE h ha hb rest
  exact ⟨_, w', R', .inl (value_run h1), h2, w.heap.size, [], cap, h3, ⟨by simp, by simp⟩, rfl, h5, h6, h7, h8⟩
 | insert t x y z =>
  obtain rfl := hmv rfl
  obtain ⟨a, b, d, b1, b2, b3, rfl, e, ha, hb, hd⟩ := repVs_three hv
  obtain ⟨rfl, e'⟩ := app_nil e.symm
  obtain ⟨rfl, rfl⟩ := app_nil e'
  have hcase : ∃ n, a = .map n := by
   simp only [aop, aMapUpdate] at h
   split at h
   ·rename_i n k v heq; simp at heq; exact ⟨n, heq.1⟩
   simp at h
  obtain ⟨n, rfl⟩ := hcase
  have hes : ∃ es, ob = some (.map es) := by
   simp only [aop, aMapUpdate] at h
   split at h
   ·split at h
    ·exact ⟨_, rfl⟩
    simp at h
   simp at h
  obtain ⟨es, hob⟩ := hes
  obtain ⟨bl, c1, rfl, hN, hobj⟩ := looked_some hlk rfl hob
  simp only [RepV] at ha
  obtain ⟨_, b', hb', e⟩ := ha
  rw [hN] at hb'
  simp at hb'
  subst hb'
  subst hob
  have hc1 : c1 = [] := hobj.1
  subst hc1
  have hbr : bl ∉ rest := by simp [nmL] at hnd; exact hnd.1
  obtain ⟨hval, es', heff, w', h1, h2, h3⟩ := sound_mapUpdate (w := w) (n := n) hE h hobj hb hd rest hbr
  rw [← e] at h1
  refine ⟨undef, w', R, .inr ⟨skip_run h1, rfl⟩, h2, ?_⟩
  rw [heff]
  exact ⟨bl, [], [], [], rfl, h3, by rw [hval]; exact repV_undef _, by simp, by simp⟩
 | call c =>
  obtain ⟨callee, args, argTypes⟩ := c
  cases callee with
  | value _ => simp [aop] at h
  | invoke _ _ => simp [aop] at h
  | builtin b =>
   simp only [aop, aBuiltin] at h
   obtain ⟨cbs, hex⟩ : ∃ cs : Array Bool, (execOp ρ ⟨dst, .call ⟨.builtin b, args, argTypes⟩, type, pos, after, guard⟩).run P w = (builtin b argTypes type cs (args.map ρ)).run P w := ⟨_, rfl⟩
   have hargs : args.map ρ = ((args.toList).map ρ).toArray := by rw [← Array.toList_map]
   split at h
   ·simp at h
   ·rename_i t ts hts
    have hat : argTypes[0]? = some t := by
     have : argTypes.toList[0]? = some t := by rw [hts]; simp
     simpa using this
    cases b with
    | len =>
     dsimp only at h
     obtain rfl := hmv rfl
     have hsh : ∃ a x, vals = [a] /\ args.toList.map ρ = [x] /\ RepV w R N a x [] := by
      have hl := hv.length
      simp only [opsL] at hv hl
      cases vals with
      | nil => simp [aLen, nzL] at h
      | cons a vals =>
       cases vals with
       | cons _ _ => simp [aLen, nzL] at h
       | nil =>
        cases hm : args.toList.map ρ with
        | nil => rw [hm] at hl; simp at hl
        | cons x xs =>
         rw [hm] at hl hv
         simp at hl
         subst hl
         obtain ⟨a', e, ha⟩ := repVs_one hv
         simp at e
         subst e
         exact ⟨a, x, rfl, rfl, ha⟩
     obtain ⟨a, x, rfl, hx, ha⟩ := hsh
     rw [hx] at hargs
     cases hlo : looks (.call ⟨.builtin .len, args, argTypes⟩) [a] with
     | none =>
      obtain ⟨rfl, rfl⟩ := looked_none hlk hlo
      obtain ⟨he, cv, h1, h2⟩ := sound_len_pure (ty := type) (w := w) hE hat h (repV_nz ha)
      refine ⟨cv, w, R, .inl ?_, .pure he h2 .nil (by simp)⟩
      rw [hex, hargs]
      simp [builtin, h1]
     | some n =>
      have han : a = .map n := by cases a <;> simp [looks] at hlo; subst hlo; rfl
      subst han
      have hes : ∃ es, ob = some (.map es) := by
       simp only [nzL, nz, aLen] at h
       split at h
       ·exact ⟨_, rfl⟩
       simp at h
      obtain ⟨es, hob⟩ := hes
      obtain ⟨bl, c1, rfl, hN, hobj⟩ := looked_some hlk hlo hob
      simp only [RepV] at ha
      obtain ⟨_, b', hb', e⟩ := ha
      rw [hN] at hb'
      simp at hb'
      subst hb'
      subst hob
      have hobj' := hobj
      obtain ⟨hc1, _, ents, clock, hblk, hr, _⟩ := hobj'
      subst hc1
      obtain ⟨he, cv, h1, h2⟩ := sound_len_map (N := N) (ty := type) (w := w) hE hat h hblk hr
      refine ⟨cv, w, R, .inl ?_, .pure he h2 .nil ?_⟩
      ·rw [hex, hargs, e]
       simp [builtin, h1]
      intro b2 c2 o hnm ho
      simp at hnm ho
      obtain ⟨rfl, rfl⟩ := hnm
      subst ho
      exact hobj
    | append =>
     dsimp only at h
     split at h
     ·rename_i t1 t2 hts2
      split at h
      ·rename_i ht2
       subst ht2
       have hts3 : argTypes = #[t2, t2] := by
        apply Array.toList_inj.1
        have h12 := hts.symm.trans hts2
        simp only [List.cons.injEq] at h12
        rw [hts2, ← h12.1]
       simp only [opsL] at hv
       have hsh : ∃ a x, vals = [a, x] := by
        match vals, h with
        | [], h => simp [apz, aAppend] at h
        | [_], h => simp [apz, aAppend] at h
        | [a, x], _ => exact ⟨a, x, rfl⟩
        | _ :: _ :: _ :: _, h => simp [apz, aAppend] at h
       obtain ⟨a, x, rfl⟩ := hsh
       have hl := hv.length
       cases hm : args.toList.map ρ with
       | nil => rw [hm] at hl; simp at hl
       | cons y ys =>
        cases ys with
        | nil => rw [hm] at hl; simp at hl
        | cons z zs =>
         rw [hm] at hl hv hargs
         simp at hl
         subst hl
         obtain ⟨a', x', c1, c2, e0, rfl, ha, hx⟩ := repVs_two hv
         simp at e0
         obtain ⟨rfl, rfl⟩ := e0
         have hlk := looked_apz hlk
         replace ha := repV_ownz ha
         replace hx := repV_nz hx
         simp only [apz] at h
         clear hv
         generalize ownz a = a at *
         generalize nz x = x at *
         have hran : ∀ {cv w'}, (Builtin.append_ #[t2, t2] type #[y, z]).run P w = .ok cv w' -> Ran P w ρ ⟨dst, .call ⟨.builtin .append, args, argTypes⟩, type, pos, after, guard⟩ cv w' := by
          intro cv w' h1
          refine .inl ?_
          rw [hex, hargs, hts3]
          simp [builtin, h1]
         unfold aAppend at h
         split at h
         ·rename_i es x2 heq
          simp at heq
          obtain ⟨rfl, rfl⟩ := heq
          obtain ⟨rfl, rfl⟩ := looked_none hlk rfl
          split at h
          ·rename_i i hel
           split at h
           ·rename_i hc
            simp only [Bool.and_eq_true, List.isEmpty_iff] at hc
            obtain ⟨⟨_, rfl⟩, hmo⟩ := hc
            have hc2 : c2 = [] := by
             unfold isMore at hmo
             split at hmo
             ·exact (repV_dat_inv hx).1
             simp at hmo
            subst hc2
            have hb : ∃ base, y = .slice base 0 0 /\ (base = none ∨ ∃ b, base = some ⟨b, 0, none⟩) := by
             rcases repOwn_inv (repV_own_inv ha) with ⟨rfl, _, _⟩ | ⟨b, cap, s, vs, t', rfl, _, _, _, _, _, he, _⟩
             ·exact ⟨_, rfl, .inl rfl⟩
             have := he rfl
             subst this
             exact ⟨_, rfl, .inr ⟨b, rfl⟩⟩
            obtain ⟨base, rfl, hbase⟩ := hb
            obtain ⟨o', len, cv, w', R', cap, rfl, h1, h2, h3, rfl, h5, h6, h7, h8⟩ := sound_grow_new (ty := type) (w := w) hE hel h hmo hx hbase rest
            exact ⟨_, w', R', hran h1, h2, w.heap.size, [], cap, h3, ⟨by simp, by simp⟩, rfl, h5, h6, h7, h8⟩
           ·split at h
            ·rename_i r hap
             split at h
             rotate_left
             ·simp at h
             rename_i hbo
             simp at h
             subst h
             have hc2 : c2 = [] := by
              obtain ⟨ds, rfl, _⟩ := appendTo_spec (by rw [hE.std] at hap; exact hap)
              exact (repV_dat_inv hx).1
             subst hc2
             simp only [List.append_nil, nmL, List.nil_append] at hnd
             obtain ⟨cv, w', R', bsV, h1, h2, h3, h4, h5⟩ := sound_append (ty := type) (w := w) hE hel hap hbo ha hx rest (fun b hb hr => (List.nodup_append.1 hnd).2.2 b hb b hr rfl)
             exact ⟨cv, w', R', hran h1, h2, bsV, h3, ⟨h4, by simpa using h5⟩, by simp, .inl rfl⟩
            simp at h
          simp at h
         ·rename_i n s off len x2 heq
          simp at heq
          obtain ⟨rfl, rfl⟩ := heq
          split at h
          ·rename_i i cs hel hob'
           split at h
           ·rename_i hc
            simp only [Bool.and_eq_true, Nat.beq_eq] at hc
            obtain ⟨⟨_, rfl⟩, rfl⟩ := hc
            obtain ⟨bl, b1, rfl, hN, hobj⟩ := looked_some (n := n) (obj := .cells cs) hlk rfl (by first | rfl | assumption)
            simp only [RepV] at ha
            obtain ⟨rfl, b', cap, hb', rfl, hcap, hs0, _, hsz⟩ := ha
            rw [hN] at hb'
            simp at hb'
            subst hb'
            have hc2 : c2 = [] := by
             obtain ⟨ds, rfl, _⟩ := growRow_spec hE h
             exact (repV_dat_inv hx).1
            subst hc2
            have hnd' : ((bl :: b1) ++ rest).Nodup := by simpa [nmL] using hnd
            have hd := List.nodup_append.1 hnd'
            obtain ⟨o', len', cv, w', R', b', b1', cap', rfl, h1, h2, h3, hf, rfl, h5, h6, h7, h8⟩ := sound_grow_row (ty := type) (w := w) hE hel h hx hobj hcap hs0.2 (by simpa using hsz) hd.1 rest (fun hh => hd.2.2 bl (by simp) bl hh rfl)
            exact ⟨_, w', R', hran h1, h2, b', b1', cap', h3, by simpa [nmL] using hf, rfl, h5, h6, h7, h8⟩
           simp at h
          simp at h
         simp at h
      have hts3 : argTypes = #[t, t2] := by
       apply Array.toList_inj.1
       have h12 := hts.symm.trans hts2
       simp only [List.cons.injEq] at h12
       rw [hts2, ← h12.1]
      simp only [opsL] at hv
      have hsh : ∃ a x, vals = [a, x] := by
       match vals, h with
       | [], h => simp [apz, aAppendStr] at h
       | [_], h => simp [apz, aAppendStr] at h
       | [a, x], _ => exact ⟨a, x, rfl⟩
       | _ :: _ :: _ :: _, h => simp [apz, aAppendStr] at h
      obtain ⟨a, x, rfl⟩ := hsh
      simp only [apz] at h
      obtain ⟨es, s, ha0, hx0⟩ : ∃ es s, ownz a = .own es /\ nz x = .dat (.flat (.string s)) := by
       unfold aAppendStr at h
       split at h
       ·rename_i heq
        simp at heq
        exact ⟨_, _, heq.1, heq.2⟩
       simp at h
      rw [ha0, hx0] at h
      have hl := hv.length
      cases hm : args.toList.map ρ with
      | nil => rw [hm] at hl; simp at hl
      | cons y ys =>
       cases ys with
       | nil => rw [hm] at hl; simp at hl
       | cons z zs =>
        rw [hm] at hl hv hargs
        simp at hl
        subst hl
        obtain ⟨a', x', c1, c2, e0, rfl, ha, hx⟩ := repVs_two hv
        simp at e0
        obtain ⟨rfl, rfl⟩ := e0
        have hlk := looked_apz hlk
        replace ha := repV_ownz ha
        replace hx := repV_nz hx
        rw [ha0] at ha hlk
        rw [hx0] at hx hlk
        obtain ⟨rfl, rfl⟩ := looked_none hlk rfl
        have hc2 : c2 = [] := (repV_dat_inv hx).1
        subst hc2
        simp only [List.append_nil, nmL, List.nil_append] at hnd
        obtain ⟨cv, w', R', bsV, h1, h2, h3, h6, h4, h5⟩ := sound_append_str (ty := type) (w := w) hE h ha hx rest (fun b hb hr => (List.nodup_append.1 hnd).2.2 b hb b hr rfl)
        refine ⟨cv, w', R', .inl ?_, h2, ?_⟩
        ·rw [hex, hargs, hts3]
         simp [builtin, h1]
        rw [h6]
        exact ⟨bsV, h3, ⟨h4, by simpa using h5⟩, by simp, .inl rfl⟩
     simp at h
    | max =>
     dsimp only at h
     obtain rfl := hmv rfl
     obtain ⟨rfl, rfl⟩ := looked_none hlk rfl
     simp only [opsL] at hv
     have hsh : ∃ a x, vals = [a, x] := by
      unfold aMax at h
      split at h
      ·exact ⟨_, _, rfl⟩
      simp at h
     obtain ⟨a, x, rfl⟩ := hsh
     have hl := hv.length
     cases hm : args.toList.map ρ with
     | nil => rw [hm] at hl; simp at hl
     | cons y ys =>
      cases ys with
      | nil => rw [hm] at hl; simp at hl
      | cons z zs =>
       rw [hm] at hl hv
       simp at hl
       subst hl
       obtain ⟨a', x', c1, c2, e0, e, ha, hx⟩ := repVs_two hv
       simp at e0
       obtain ⟨rfl, rfl⟩ := e0
       obtain ⟨rfl, rfl⟩ := app_nil e.symm
       obtain ⟨he, cv, h1, h2⟩ := sound_max (P := P) (w := w) hE h ha hx argTypes type
       rw [hm] at hargs
       refine ⟨cv, w, R, .inl ?_, .pure he h2 .nil (by simp)⟩
       rw [hex, hargs]
       simp [builtin, h1]
    | min =>
     dsimp only at h
     obtain rfl := hmv rfl
     obtain ⟨rfl, rfl⟩ := looked_none hlk rfl
     simp only [opsL] at hv
     have hsh : ∃ a x, vals = [a, x] := by
      unfold aMin at h
      split at h
      ·exact ⟨_, _, rfl⟩
      simp at h
     obtain ⟨a, x, rfl⟩ := hsh
     have hl := hv.length
     cases hm : args.toList.map ρ with
     | nil => rw [hm] at hl; simp at hl
     | cons y ys =>
      cases ys with
      | nil => rw [hm] at hl; simp at hl
      | cons z zs =>
       rw [hm] at hl hv
       simp at hl
       subst hl
       obtain ⟨a', x', c1, c2, e0, e, ha, hx⟩ := repVs_two hv
       simp at e0
       obtain ⟨rfl, rfl⟩ := e0
       obtain ⟨rfl, rfl⟩ := app_nil e.symm
       obtain ⟨he, cv, h1, h2⟩ := sound_min (P := P) (w := w) hE h ha hx argTypes type
       rw [hm] at hargs
       refine ⟨cv, w, R, .inl ?_, .pure he h2 .nil (by simp)⟩
       rw [hex, hargs]
       simp [builtin, h1]
    | delete =>
     dsimp only at h
     obtain rfl := hmv rfl
     simp only [opsL] at hv
     have hsh : ∃ n x, vals = [.map n, x] := by
      unfold aDelete at h
      split at h
      ·exact ⟨_, _, rfl⟩
      simp at h
     obtain ⟨n, x, rfl⟩ := hsh
     have hl := hv.length
     cases hm : args.toList.map ρ with
     | nil => rw [hm] at hl; simp at hl
     | cons y ys =>
      cases ys with
      | nil => rw [hm] at hl; simp at hl
      | cons z zs =>
       rw [hm] at hl hv
       simp at hl
       subst hl
       obtain ⟨a', x', c1, c2, e0, e, ha, hx⟩ := repVs_two hv
       simp at e0
       obtain ⟨rfl, rfl⟩ := e0
       obtain ⟨rfl, rfl⟩ := app_nil e.symm
       have hes : ∃ es, ob = some (.map es) := by
        unfold aDelete at h
        split at h
        ·split at h
         ·exact ⟨_, rfl⟩
         simp at h
        simp at h
       obtain ⟨es, hob⟩ := hes
       obtain ⟨bl, d1, rfl, hN, hobj⟩ := looked_some hlk rfl hob
       simp only [RepV] at ha
       obtain ⟨_, b', hb', e⟩ := ha
       rw [hN] at hb'
       simp at hb'
       subst hb'
       subst hob
       have hc1 : d1 = [] := hobj.1
       subst hc1
       have hbr : bl ∉ rest := by simp [nmL] at hnd; exact hnd.1
       obtain ⟨cv, w', h1, h2, h3, h4⟩ := sound_delete (ty := type) (w := w) (n := n) hE hat h hobj hx rest hbr
       rw [hm, e] at hargs
       refine ⟨cv, w', R, .inl ?_, h2, ?_⟩
       ·rw [hex, hargs]
        simp [builtin, h1]
       obtain ⟨es', he, ho⟩ := h4
       rw [he]
       exact ⟨bl, [], [], [], rfl, ho, h3, by simp, by simp⟩
    | _ => simp at h
 | _ => simp [aop] at h
end
end Go.Tp

namespace Go.Tp
section
variable {P : Program} {E : TEnv} {G : Globs} {w : World} {R : Own} {N N' : Name -> Option Nat}
/-! #### More names -/
mutual
theorem RepV.ext : ∀ {a : AVal} {v : Value} {bs : List Nat}, RepV w R N a v bs -> (∀ m b, N m = some b -> N' m = some b) -> RepV w R N' a v bs
 | .dat _, _, _, h, _ => by simp only [RepV] at h ⊢; exact h
 | .own _, _, _, h, _ => by simp only [RepV] at h ⊢; exact h
 | .ref _, _, _, h, _ => by simp only [RepV] at h ⊢; exact h
 | .ptr m _, _, _, h, hN => by simp only [RepV] at h ⊢; obtain ⟨h1, b, h2, h3⟩ := h; exact ⟨h1, b, hN m b h2, h3⟩
 | .map m, _, _, h, hN => by simp only [RepV] at h ⊢; obtain ⟨h1, b, h2, h3⟩ := h; exact ⟨h1, b, hN m b h2, h3⟩
 | .win m _ _ _, _, _, h, hN => by simp only [RepV] at h ⊢; obtain ⟨h1, b, cap, h2, h3⟩ := h; exact ⟨h1, b, cap, hN m b h2, h3⟩
 | .fn _ x y, _, _, h, hN => by
  simp only [RepV] at h ⊢
  obtain ⟨h1, vs, us, e, h2, h3⟩ := h
  exact ⟨h1, vs, us, e, RepVs.ext (as := x) h2 hN, RepVs.ext (as := y) h3 hN⟩
 | .agg cs, _, _, h, hN => by simp only [RepV] at h ⊢; obtain ⟨vs, e, h⟩ := h; exact ⟨vs, e, RepVs.ext (as := cs) h hN⟩
 | .tup cs, _, _, h, hN => by simp only [RepV] at h ⊢; obtain ⟨vs, e, h⟩ := h; exact ⟨vs, e, RepVs.ext (as := cs) h hN⟩
 | .undef, _, _, h, _ => by simp only [RepV] at h ⊢; exact h
theorem RepVs.ext : ∀ {as : List AVal} {vs : List Value} {bs : List Nat}, RepVs w R N as vs bs -> (∀ m b, N m = some b -> N' m = some b) -> RepVs w R N' as vs bs
 | [], _, _, h, _ => by simp only [RepVs] at h ⊢; exact h
 | a :: as, _, _, h, hN => by
  simp only [RepVs] at h ⊢
  obtain ⟨v, vs', b1, b2, e1, e2, h1, h2⟩ := h
  exact ⟨v, vs', b1, b2, e1, e2, RepV.ext (a := a) h1 hN, RepVs.ext (as := as) h2 hN⟩
end
theorem RepObj.ext {o : AObj} {b : Nat} {bs : List Nat} (h : RepObj w R N o b bs) (hN : ∀ m b, N m = some b -> N' m = some b) : RepObj w R N' o b bs := by
 cases o with
 | cells cs => obtain ⟨vs, e, sp, hb, hr, hR⟩ := h; exact ⟨vs, e, sp, hb, hr.ext hN, hR⟩
 | map es => exact h
theorem RepObjs.ext : ∀ {os : List (Name × AObj)} {bs : List Nat}, RepObjs w R N os bs -> (∀ m b, N m = some b -> N' m = some b) -> RepObjs w R N' os bs
 | [], _, h, _ => h
 |(_, _) :: _, _, ⟨b, b1, b2, e, hn, h1, h2⟩, hN => ⟨b, b1, b2, e, hN _ _ hn, h1.ext hN, RepObjs.ext h2 hN⟩
/-! #### An object taken out -/
theorem RepObjs.adel_sub : ∀ {os : List (Name × AObj)} {bs : List Nat} (n : Name), RepObjs w R N os bs -> ∃ bs', RepObjs w R N (adel n os) bs' /\ bs'.Sublist bs
 | [], _, _, h => ⟨_, h, .refl _⟩
 |(m, o) :: os, _, n, ⟨b, b1, b2, e, hn, h1, h2⟩ => by
  subst e
  obtain ⟨bs', g1, g2⟩ := RepObjs.adel_sub n h2
  simp only [adel]
  split
  ·exact ⟨bs', g1, g2.trans ((List.sublist_append_right b1 b2).cons _)⟩
  exact ⟨b :: (b1 ++ bs'), ⟨b, b1, bs', rfl, hn, h1, g1⟩, (List.Sublist.append (.refl _) g2).cons_cons _⟩
theorem RepObjs.split_del : ∀ {os : List (Name × AObj)} {bs : List Nat} {n : Name} {o : AObj}, RepObjs w R N os bs -> aget n os = some o ->
  ∃ pre b b1 post, bs = pre ++ (b :: b1) ++ post /\ N n = some b /\ RepObj w R N o b b1 ∧
   (∀ (w' : World) (R' : Own) (o' : AObj) (b1' : List Nat), Keep w R w' R' (pre ++ post) -> RepObj w' R' N o' b b1' -> RepObjs w' R' N (aset n o' os) (pre ++ (b :: b1') ++ post)) ∧
   ∃ bs', RepObjs w R N (adel n os) bs' /\ bs'.Sublist (pre ++ post)
 | [], _, _, _, _, h => by simp [aget] at h
 |(m, x) :: os, bs, n, o, h, hg => by
  obtain ⟨b, b1, b2, e, hN, h1, h2⟩ := h
  simp only [aget] at hg
  simp only [adel]
  split at hg
  ·rename_i hm
   subst hm
   simp at hg
   subst hg
   obtain ⟨bs', g1, g2⟩ := RepObjs.adel_sub m h2
   refine ⟨[], b, b1, b2, by simp [e], hN, h1, fun w' R' o' b1' k hr => ?_, bs', by simpa using g1, by simpa using g2⟩
   simp only [aset, if_true]
   exact ⟨b, b1', b2, by simp, hN, hr, h2.keep (k.sub (by simp))⟩
  rename_i hm
  rw [if_neg hm]
  obtain ⟨pre, c, c1, post, f1, f2, f3, f4, bs', f5, f6⟩ := RepObjs.split_del h2 hg
  refine ⟨b :: (b1 ++ pre), c, c1, post, by simp [e, f1], f2, f3, fun w' R' o' b1' k hr => ?_, b :: (b1 ++ bs'), ⟨b, b1, bs', rfl, hN, h1, f5⟩, ?_⟩
  ·simp only [aset, if_neg hm]
   exact ⟨b, b1, pre ++ (c :: b1') ++ post, by simp, hN, h1.keep (k.sub (by intro y hy; simp at hy ⊢; rcases hy with h | h <;> simp [h])),
    f4 w' R' o' b1' (k.sub (by intro y hy; simp at hy ⊢; rcases hy with h | h <;> simp [h])) hr⟩
  simp only [List.cons_append, List.append_assoc]
  exact (List.Sublist.append (.refl _) f6).cons_cons _
theorem from_nodup {bsM xs rest : List Nat} (h : (bsM ++ rest).Nodup) (hl : ∀ b ∈ rest, b < w.heap.size) (hf : From w bsM xs) : (xs ++ rest).Nodup := by
 refine List.nodup_append.2 ⟨hf.1, (List.nodup_append.1 h).2.1, ?_⟩
 intro a ha b hb hab
 subst hab
 rcases hf.2 a ha with h1 | h1
 ·exact (List.nodup_append.1 h).2.2 a h1 a hb rfl
 have := hl a hb; omega
theorem put_tmps {as : List AVal} {vs : List Value} {bs b X : List Nat} {a : AVal} {v : Value} (d : Nat) (h : RepVs w R N as vs bs) (hv : RepV w R N a v b) (hnd : (b ++ (bs ++ X)).Nodup) :
  ∃ bs', RepVs w R N (as.set d a) (vs.set d v) bs' /\ (bs' ++ X).Nodup := by
 cases hd : as[d]? with
 | none =>
  have hl : as.length <= d := by simpa using hd
  have hl2 := h.length
  rw [List.set_eq_of_length_le hl, List.set_eq_of_length_le (by omega)]
  exact ⟨bs, h, (List.nodup_append.1 hnd).2.1⟩
 | some x =>
  obtain ⟨pre, bt, post, u, e1, e2, e3, e4⟩ := RepVs.split h hd
  refine ⟨pre ++ b ++ post, e4 w R a v b (keep_refl _) hv, ?_⟩
  subst e1
  have hsub : (b ++ (pre ++ post ++ X)).Nodup := by
   refine List.Nodup.sublist ?_ hnd
   refine List.Sublist.append (.refl _) (List.Sublist.append ?_ (.refl _))
   rw [List.append_assoc]
   exact List.Sublist.append (.refl _) (List.sublist_append_right _ _)
  have hp : (pre ++ b ++ post ++ X).Perm (b ++ (pre ++ post ++ X)) := by
   simp only [← List.append_assoc]
   refine List.Perm.append_right _ (List.Perm.append_right _ ?_)
   exact List.perm_append_comm
  exact hp.nodup_iff.2 hsub
theorem put_act (act : Act) (dst : Option Tmp) (v : Value) : (act.put dst v).tmps.toList = (match dst with | some d => act.tmps.toList.set d v | none => act.tmps.toList) /\ (act.put dst v).defers = act.defers := by
 cases dst with
 | none => exact ⟨rfl, rfl⟩
 | some d => exact ⟨by simp [Act.put], rfl⟩
/-- A value put into a slot. -/
theorem put_state {s : AState} {tmps : List Value} {bs b X : List Nat} {a : AVal} {v : Value} (dst : Option Tmp) (h : RepVs w R N s.tmps tmps bs) (hv : RepV w R N a v b) (hnd : (b ++ (bs ++ X)).Nodup) :
  ∃ bs', RepVs w R N (s.put dst a).tmps (match dst with | some d => tmps.set d v | none => tmps) bs' /\ (bs' ++ X).Nodup := by
 cases dst with
 | none => exact ⟨bs, h, (List.nodup_append.1 hnd).2.1⟩
 | some d => exact put_tmps d h hv hnd
theorem put_locs (s : AState) (dst : Option Tmp) (a : AVal) : (s.put dst a).locs = s.locs /\ (s.put dst a).heap = s.heap /\ (s.put dst a).next = s.next := by cases dst <;> exact ⟨rfl, rfl, rfl⟩
theorem drop_locs (s : AState) (mv : Option Nat) (xs : List Operand) : (dropOwn s mv xs).locs = s.locs /\ (dropOwn s mv xs).heap = s.heap /\ (dropOwn s mv xs).next = s.next := by
 unfold dropOwn; split
 ·exact ⟨rfl, rfl, rfl⟩
 split <;> exact ⟨rfl, rfl, rfl⟩
theorem aset_same : ∀ {os : List (Name × AObj)} {n : Name} {o : AObj}, aget n os = some o -> aset n o os = os
 | [], _, _, h => by simp [aget] at h
 |(m, x) :: os, n, o, h => by
  simp only [aget] at h
  simp only [aset]
  split at h
  ·rename_i hm; simp at h; subst h; simp [hm]
  rename_i hm; rw [if_neg hm, aset_same h]
theorem purge_len (n : Name) : ∀ (l : List AVal), (purgeL n l).length = l.length
 | [] => rfl
 | _ :: l => by simp [purgeL, purge_len n l]
/-- A local object of a new name. -/
def setN (N : Name -> Option Nat) (n : Name) (b : Nat) : Name -> Option Nat := fun m => if m = n then some b else N m
theorem repObj_other {n : Name} {b' : Nat} {o : AObj} {b : Nat} {bs : List Nat} (h : RepObj w R N o b bs) (hm : ∀ cs, o = .cells cs -> mentionsL n cs = false) : RepObj w R (setN N n b') o b bs := by
 cases o with
 | cells cs =>
  obtain ⟨vs, e, sp, hb, hr, hR⟩ := h
  exact ⟨vs, e, sp, hb, RepVs.other hr (by rw [mentionsL_pad]; exact hm cs rfl) (fun m hm => by simp [setN, hm]), hR⟩
 | map es => exact h
/-- The result of a step: the new state's relation. -/
structure Stepped (P : Program) (G : Globs) (w : World) (R : Own) (N : Name -> Option Nat) (act : Act) (bsF : List Nat) (o : Oper) (s' : AState) (nx : Nat) (cv : Value) (w' : World) : Prop where
 ran : Ran P w act.eval o cv w'
 rel : ∃ R' N' bsT bsL bsH, RelB G w' R' N' (act.put o.dst cv).tmps.toList s' undef .undef [] bsT bsL bsH bsF /\ Keep w R w' R' bsF /\ (∀ k b, N (.out k) = some b -> N' (.out k) = some b) /\ ∀ i, o.dst ≠ some i -> N' (.loc i) = N (.loc i)
 next : nx <= s'.next
theorem astep_sound (hE : E.Ok P) {q take : Bool} {o : Oper} {s s' : AState} (h : astep E G q take o s = some s') {act : Act} {bsT bsL bsH bsF : List Nat}
  (hr : RelB G w R N act.tmps.toList s undef .undef [] bsT bsL bsH bsF) : ∃ cv w', Stepped P G w R N act bsF o s' s.next cv w' := by
 unfold astep at h
 have hnd0 : (bsT ++ (bsL ++ (bsH ++ bsF))).Nodup := by simpa using hr.nodup
 obtain ⟨bsM, bsT', ha, ht', hnd, hmv⟩ := args_take hr.tmps hr.glob (mvQ q o.op) (opsL o.op) (bsL ++ (bsH ++ bsF)) hnd0
 generalize hvals : evalArgs G s (mvQ q o.op) 0 (opsL o.op) = vals at h ha
 obtain ⟨dl1, dl2, dl3⟩ := drop_locs s (mvQ q o.op) (opsL o.op)
 generalize hs1 : dropOwn s (mvQ q o.op) (opsL o.op) = s1 at h ht' dl1 dl2 dl3
 have hltT := ht'.lt
 have hltL := hr.locs.lt
 have hltH := hr.heap.lt
 have hltF := hr.frame
 have hltX : ∀ b ∈ bsL ++ (bsH ++ bsF), b < w.heap.size := fun b hb => by
  simp at hb
  rcases hb with h | h | h
  ·exact hltL b h
  ·exact hltH b h
  exact hltF b h
 split at h
 ·simp at h
 rename_i out hop
 -- the object that is looked at
 have hlook : ∃ nm rest, Looked w R N o.op vals (lookedAt s o.op vals) nm /\ (bsM ++ (nmL nm ++ rest)).Nodup /\ (∀ b ∈ rest, b < w.heap.size) /\ (∀ b ∈ bsF, b ∈ rest) /\ (∀ b ∈ bsT', b ∈ rest) ∧
   ((nm = none /\ rest = bsT' ++ (bsL ++ (bsH ++ bsF))) ∨
    (∃ i b b1 pre post obj, looks o.op vals = some (.loc i) /\ lookedAt s o.op vals = some obj /\ nm = some (b, b1) /\ bsL = pre ++ (b :: b1) ++ post /\ rest = bsT' ++ ((pre ++ post) ++ (bsH ++ bsF)) /\ N (.loc i) = some b /\ (∃ bs', RepObjs w R N (adel (.loc i) s.locs) bs' /\ bs'.Sublist (pre ++ post)) ∧
     ∀ (w' : World) (R' : Own) (o' : AObj) (b1' : List Nat), Keep w R w' R' (pre ++ post) -> RepObj w' R' N o' b b1' -> RepObjs w' R' N (aset (.loc i) o' s.locs) (pre ++ (b :: b1') ++ post)) ∨
    (∃ k b b1 pre post obj, looks o.op vals = some (.out k) /\ lookedAt s o.op vals = some obj /\ nm = some (b, b1) /\ bsH = pre ++ (b :: b1) ++ post /\ rest = bsT' ++ (bsL ++ ((pre ++ post) ++ bsF)) /\ N (.out k) = some b /\ noLocO obj = true /\ (∃ bs', RepObjs w R (outs N) (adel (.out k) s.heap) bs' /\ bs'.Sublist (pre ++ post)) ∧
     ∀ (w' : World) (R' : Own) (o' : AObj) (b1' : List Nat), Keep w R w' R' (pre ++ post) -> RepObj w' R' (outs N) o' b b1' -> RepObjs w' R' (outs N) (aset (.out k) o' s.heap) (pre ++ (b :: b1') ++ post))) := by
  have plain : lookedAt s o.op vals = none -> ∃ nm rest, Looked w R N o.op vals (lookedAt s o.op vals) nm /\ (bsM ++ (nmL nm ++ rest)).Nodup /\ (∀ b ∈ rest, b < w.heap.size) /\ (∀ b ∈ bsF, b ∈ rest) /\ (∀ b ∈ bsT', b ∈ rest) /\ (nm = none /\ rest = bsT' ++ (bsL ++ (bsH ++ bsF))) := by
   intro hn
   refine ⟨none, bsT' ++ (bsL ++ (bsH ++ bsF)), ?_, by simpa [nmL] using hnd, ?_, ?_, ?_, rfl, rfl⟩
   ·unfold Looked
    split
    ·exact ⟨hn, rfl⟩
    exact .inl ⟨hn, rfl⟩
   ·intro b hb
    rcases List.mem_append.1 hb with h | h
    ·exact hltT b h
    exact hltX b h
   ·intro b hb; simp [hb]
   intro b hb; simp [hb]
  cases hlo : lookedAt s o.op vals with
  | none =>
   obtain ⟨nm, rest, k1, k2, k3, k4, k5, k6⟩ := plain hlo
   rw [hlo] at k1
   exact ⟨nm, rest, k1, k2, k3, k4, k5, .inl k6⟩
  | some obj =>
   have hlo' := hlo
   unfold lookedAt at hlo'
   split at hlo'
   ·rename_i n hn
    cases n with
    | loc i =>
     simp only [AState.obj] at hlo'
     obtain ⟨pre, b, b1, post, e1, e2, e3, e4, e5⟩ := RepObjs.split_del hr.locs hlo'
     refine ⟨some (b, b1), bsT' ++ ((pre ++ post) ++ (bsH ++ bsF)), ?_, ?_, ?_, ?_, ?_, .inr (.inl ⟨i, b, b1, pre, post, obj, hn, rfl, rfl, e1, rfl, e2, e5, e4⟩)⟩
     ·unfold Looked
      rw [hn]
      exact .inr ⟨b, b1, obj, rfl, rfl, e2, e3⟩
     ·subst e1
      have hp : (bsM ++ (nmL (some (b, b1)) ++ (bsT' ++ ((pre ++ post) ++ (bsH ++ bsF))))).Perm (bsM ++ (bsT' ++ ((pre ++ (b :: b1) ++ post) ++ (bsH ++ bsF)))) := by rw [List.perm_iff_count]; intro q; simp only [nmL, List.count_append, List.count_cons]; omega
      exact hp.nodup_iff.2 hnd
     ·intro c hc
      subst e1
      simp at hc
      rcases hc with h | h | h | h | h
      ·exact hltT c h
      ·exact hltL c (by simp [h])
      ·exact hltL c (by simp [h])
      ·exact hltH c h
      exact hltF c h
     ·intro c hc; simp [hc]
     intro c hc; simp [hc]
    | out k =>
     simp only [AState.obj] at hlo'
     obtain ⟨pre, b, b1, post, e1, e2, e3, e4, e5⟩ := RepObjs.split_del hr.heap hlo'
     have hno : noLocO obj = true := by
      cases obj with
      | cells cs => obtain ⟨vs, e, sp, hb, hrr, hR⟩ := e3; have := hrr.noLoc_of_outs; rw [noLocL_pad] at this; exact this
      | map es => rfl
     have e3' : RepObj w R N obj b b1 := e3.reN hno (fun _ => rfl)
     refine ⟨some (b, b1), bsT' ++ (bsL ++ ((pre ++ post) ++ bsF)), ?_, ?_, ?_, ?_, ?_, .inr (.inr ⟨k, b, b1, pre, post, obj, hn, rfl, rfl, e1, rfl, by simpa [outs] using e2, hno, e5, e4⟩)⟩
     ·unfold Looked
      rw [hn]
      exact .inr ⟨b, b1, obj, rfl, rfl, by simpa [outs] using e2, e3'⟩
     ·subst e1
      have hp : (bsM ++ (nmL (some (b, b1)) ++ (bsT' ++ (bsL ++ ((pre ++ post) ++ bsF))))).Perm (bsM ++ (bsT' ++ (bsL ++ ((pre ++ (b :: b1) ++ post) ++ bsF)))) := by rw [List.perm_iff_count]; intro q; simp only [nmL, List.count_append, List.count_cons]; omega
      exact hp.nodup_iff.2 hnd
     ·intro c hc
      subst e1
      simp at hc
      rcases hc with h | h | h | h | h
      ·exact hltT c h
      ·exact hltL c h
      ·exact hltH c (by simp [h])
      ·exact hltH c (by simp [h])
      exact hltF c h
     ·intro c hc; simp [hc]
     intro c hc; simp [hc]
   simp at hlo'
 obtain ⟨nm, rest, hlk, hndr, hlr, hFr, hTr, hwhich⟩ := hlook
 obtain ⟨cv, w', R', hran, hkeep, hout⟩ := aop_sound (rest := rest) hE hop ha (fun h => hmv (by unfold mvQ; split <;> simp [h])) hlk hndr (fun _ => rfl)
 have hglob : ∀ g cs, G g = some cs -> GlobAt w' R' g cs := fun g cs hg => (hr.glob g cs hg).step hkeep.step
 have hkF : Keep w R w' R' bsF := hkeep.sub hFr
 have hframe : ∀ b ∈ bsF, b < w'.heap.size := fun b hb => Nat.lt_of_lt_of_le (hltF b hb) hkeep.step.size
 have ht2 : RepVs w' R' N s1.tmps act.tmps.toList bsT' := ht'.keep (hkeep.sub hTr)
 unfold astepOut at h
 obtain ⟨pa1, pa2⟩ := put_act act o.dst cv
 cases heff : out.eff with
 | keep =>
  rw [heff] at h hout
  simp at h
  subst h
  obtain ⟨bsV, hv, hf, hobj, _⟩ := hout
  -- the objects as they were
  have hobjs : ∃ bsL' bsH', RepObjs w' R' N s.locs bsL' /\ RepObjs w' R' (outs N) s.heap bsH' /\ bsL' = bsL /\ bsH' = bsH := by
   rcases hwhich with ⟨_, e⟩ | ⟨i, b, b1, pre, post, obj, h1, h2, h3, h4, h5, h6, _, h7⟩ | ⟨k, b, b1, pre, post, obj, h1, h2, h3, h4, h5, h6, h6', _, h7⟩
   ·subst e
    exact ⟨bsL, bsH, hr.locs.keep (hkeep.sub (by intro b hb; simp [hb])), hr.heap.keep (hkeep.sub (by intro b hb; simp [hb])), rfl, rfl⟩
   ·subst h5
    have ho := hobj b b1 obj h3 h2
    have hL := h7 w' R' obj b1 (hkeep.sub (by intro b hb; simp at hb ⊢; rcases hb with h | h <;> simp [h])) ho
    unfold lookedAt at h2
    rw [h1] at h2
    simp only [AState.obj] at h2
    rw [aset_same h2] at hL
    exact ⟨_, bsH, hL, hr.heap.keep (hkeep.sub (by intro b hb; simp [hb])), h4.symm, rfl⟩
   subst h5
   have ho := hobj b b1 obj h3 h2
   have hH := h7 w' R' obj b1 (hkeep.sub (by intro b hb; simp at hb ⊢; rcases hb with h | h <;> simp [h])) (ho.reN h6' (fun _ => rfl))
   unfold lookedAt at h2
   rw [h1] at h2
   simp only [AState.obj] at h2
   rw [aset_same h2] at hH
   exact ⟨bsL, _, hr.locs.keep (hkeep.sub (by intro b hb; simp [hb])), hH, rfl, h4.symm⟩
  obtain ⟨bsL', bsH', hL, hH, rfl, rfl⟩ := hobjs
  have hndV : (bsV ++ (bsT' ++ (bsL' ++ (bsH' ++ bsF)))).Nodup := by
   refine from_nodup hnd ?_ hf
   intro b hb
   rcases List.mem_append.1 hb with h | h
   ·exact hltT b h
   exact hltX b h
  obtain ⟨bsT'', hp1, hp2⟩ := put_state o.dst ht2 hv hndV
  obtain ⟨q1, q2, q3⟩ := put_locs s1 o.dst out.val
  refine ⟨cv, w', hran, ⟨R', N, bsT'', bsL', bsH', ⟨repV_undef _, ?_, ?_, ?_, by simpa using hp2, ?_, hglob, hframe⟩, hkF, fun _ _ h => h, fun _ _ => rfl⟩, ?_⟩
  ·rw [pa1]; exact hp1
  ·rw [q1, dl1]; exact hL
  ·rw [q2, dl2]; exact hH
  ·rw [q3, dl3]; exact hr.next
  rw [q3, dl3]; exact Nat.le_refl _
 | set o' =>
  rw [heff] at h hout
  obtain ⟨b, b1, b1', bsV, hnm, hobj, hv, hf⟩ := hout
  rcases hwhich with ⟨e, _⟩ | ⟨i, b0, c1, pre, post, obj, h1, h2, h3, h4, h5, h6, _, h7⟩ | ⟨k, b0, c1, pre, post, obj, h1, h2, h3, h4, h5, h6, h6', _, h7⟩
  ·rw [e] at hnm; simp at hnm
  ·rw [h3] at hnm
   simp at hnm
   obtain ⟨rfl, rfl⟩ := hnm
   rw [h1] at h
   simp only [AState.setObj, Option.some.injEq] at h
   subst h
   subst h5
   subst h3
   have hL := h7 w' R' o' b1' (hkeep.sub (by intro b hb; simp at hb ⊢; rcases hb with h | h <;> simp [h])) hobj
   have hH := hr.heap.keep (hkeep.sub (by intro b hb; simp [hb]))
   -- nodup
   have hnd2 : ((bsV ++ b1') ++ (b0 :: (bsT' ++ ((pre ++ post) ++ (bsH ++ bsF))))).Nodup := by
    refine from_nodup (bsM := bsM ++ c1) ?_ ?_ hf
    ·have hp : ((bsM ++ c1) ++ (b0 :: (bsT' ++ ((pre ++ post) ++ (bsH ++ bsF))))).Perm (bsM ++ (nmL (some (b0, c1)) ++ (bsT' ++ ((pre ++ post) ++ (bsH ++ bsF))))) := by rw [List.perm_iff_count]; intro q; simp only [nmL, List.count_append, List.count_cons]; omega
     exact hp.nodup_iff.2 hndr
    intro c hc
    rcases List.mem_cons.1 hc with rfl | hc
    ·exact hltL c (by rw [h4]; simp)
    exact hlr c hc
   have hnd3 : (bsV ++ (bsT' ++ ((pre ++ (b0 :: b1') ++ post) ++ (bsH ++ bsF)))).Nodup := by
    have hp : (bsV ++ (bsT' ++ ((pre ++ (b0 :: b1') ++ post) ++ (bsH ++ bsF)))).Perm ((bsV ++ b1') ++ (b0 :: (bsT' ++ ((pre ++ post) ++ (bsH ++ bsF))))) := by rw [List.perm_iff_count]; intro q; simp only [List.count_append, List.count_cons]; omega
    exact hp.nodup_iff.2 hnd2
   obtain ⟨bsT'', hp1, hp2⟩ := put_state o.dst ht2 hv hnd3
   have e0 : (({ s1 with locs := aset (.loc i) o' s1.locs } : AState).put o.dst out.val).tmps = (s1.put o.dst out.val).tmps := by cases o.dst <;> rfl
   obtain ⟨q1, q2, q3⟩ := put_locs ({ s1 with locs := aset (.loc i) o' s1.locs } : AState) o.dst out.val
   refine ⟨cv, w', hran, ⟨R', N, bsT'', pre ++ (b0 :: b1') ++ post, bsH, ⟨repV_undef _, ?_, ?_, ?_, by simpa using hp2, ?_, hglob, hframe⟩, hkF, fun _ _ h => h, fun _ _ => rfl⟩, ?_⟩
   ·rw [pa1, e0]; exact hp1
   ·rw [q1]; dsimp only; rw [dl1]; exact hL
   ·rw [q2]; dsimp only; rw [dl2]; exact hH
   ·rw [q3]; dsimp only; rw [dl3]; exact hr.next
   rw [q3]; exact Nat.le_of_eq dl3.symm
  rw [h3] at hnm
  simp at hnm
  obtain ⟨rfl, rfl⟩ := hnm
  rw [h1] at h
  simp only [AState.setObj] at h
  split at h
  ·rename_i s2 hs2
   split at hs2
   ·rename_i hno
    simp only [Option.some.injEq] at h hs2
    subst h
    subst hs2
    subst h5
    subst h3
    have hH := h7 w' R' o' b1' (hkeep.sub (by intro b hb; simp at hb ⊢; rcases hb with h | h <;> simp [h])) (hobj.reN hno (fun _ => rfl))
    have hL := hr.locs.keep (hkeep.sub (by intro b hb; simp [hb]))
    have hnd2 : ((bsV ++ b1') ++ (b0 :: (bsT' ++ (bsL ++ ((pre ++ post) ++ bsF))))).Nodup := by
     refine from_nodup (bsM := bsM ++ c1) ?_ ?_ hf
     ·have hp : ((bsM ++ c1) ++ (b0 :: (bsT' ++ (bsL ++ ((pre ++ post) ++ bsF))))).Perm (bsM ++ (nmL (some (b0, c1)) ++ (bsT' ++ (bsL ++ ((pre ++ post) ++ bsF))))) := by rw [List.perm_iff_count]; intro q; simp only [nmL, List.count_append, List.count_cons]; omega
      exact hp.nodup_iff.2 hndr
     intro c hc
     rcases List.mem_cons.1 hc with rfl | hc
     ·exact hltH c (by rw [h4]; simp)
     exact hlr c hc
    have hnd3 : (bsV ++ (bsT' ++ (bsL ++ ((pre ++ (b0 :: b1') ++ post) ++ bsF)))).Nodup := by
     have hp : (bsV ++ (bsT' ++ (bsL ++ ((pre ++ (b0 :: b1') ++ post) ++ bsF)))).Perm ((bsV ++ b1') ++ (b0 :: (bsT' ++ (bsL ++ ((pre ++ post) ++ bsF))))) := by rw [List.perm_iff_count]; intro q; simp only [List.count_append, List.count_cons]; omega
     exact hp.nodup_iff.2 hnd2
    obtain ⟨bsT'', hp1, hp2⟩ := put_state o.dst ht2 hv hnd3
    have e0 : (({ s1 with heap := aset (.out k) o' s1.heap } : AState).put o.dst out.val).tmps = (s1.put o.dst out.val).tmps := by cases o.dst <;> rfl
    obtain ⟨q1, q2, q3⟩ := put_locs ({ s1 with heap := aset (.out k) o' s1.heap } : AState) o.dst out.val
    refine ⟨cv, w', hran, ⟨R', N, bsT'', bsL, pre ++ (b0 :: b1') ++ post, ⟨repV_undef _, ?_, ?_, ?_, by simpa using hp2, ?_, hglob, hframe⟩, hkF, fun _ _ h => h, fun _ _ => rfl⟩, ?_⟩
    ·rw [pa1, e0]; exact hp1
    ·rw [q1]; dsimp only; rw [dl1]; exact hL
    ·rw [q2]; dsimp only; rw [dl2]; exact hH
    ·rw [q3]; dsimp only; rw [dl3]; exact hr.next
    rw [q3]; exact Nat.le_of_eq dl3.symm
   simp at hs2
  simp at h
 | grow o' sz len =>
  rw [heff] at h hout
  obtain ⟨b', b1', cap, hobj, hf, rfl, hcap, hsz0, hlt', hrow⟩ := hout
  have hN : ∀ m b, N m = some b -> setN N (.out s.next) b' m = some b := fun m b hm => by
   simp only [setN]
   rw [if_neg]
   ·exact hm
   rintro rfl
   have := hr.next _ _ hm
   omega
  have hfin : ∀ (locs' heap' : List (Name × AObj)) (bsL' bsH' : List Nat), noLocO o' = true -> RepObjs w' R' N locs' bsL' -> RepObjs w' R' (outs N) heap' bsH' -> (∀ c ∈ bsL' ++ bsH', c < w.heap.size) -> (bsM ++ (nmL nm ++ (bsT' ++ (bsL' ++ (bsH' ++ bsF))))).Nodup ->
    s' = ({ s1 with locs := locs', heap := (.out s1.next, o') :: heap', next := s1.next + 1 } : AState).put o.dst (.win (.out s1.next) sz 0 len) ->
    ∃ cv w', Stepped P G w R N act bsF o s' s.next cv w' := by
   intro locs' heap' bsL' bsH' hno hL hH hltLH hndx hs'
   have hwin : RepV w' R' (setN N (.out s.next) b') (.win (.out s.next) sz 0 len) (.slice (some ⟨b', 0, none⟩) len cap) [] := by
    simp only [RepV]
    exact ⟨trivial, b', cap, by simp [setN], rfl, hcap, hsz0, hlt', by rw [Nat.zero_add]; exact hrow⟩
   have hob : RepObj w' R' (outs (setN N (.out s.next) b')) o' b' b1' := (hobj.ext hN).reN hno (fun _ => rfl)
   have hH2 : RepObjs w' R' (outs (setN N (.out s.next) b')) heap' bsH' := hH.ext (fun m b hm => by
    cases m with
    | loc i => simp [outs] at hm
    | out k => simp only [outs] at hm ⊢; exact hN _ _ hm)
   -- nodup
   have hnd4 : ((bsM ++ nmL nm) ++ (bsT' ++ (bsL' ++ (bsH' ++ bsF)))).Nodup := by simpa only [List.append_assoc] using hndx
   have hnd5 : ((b' :: b1') ++ (bsT' ++ (bsL' ++ (bsH' ++ bsF)))).Nodup := by
    refine from_nodup (w := w) hnd4 ?_ hf
    intro c hc
    rcases List.mem_append.1 hc with h | h
    ·exact hltT c h
    rcases List.mem_append.1 h with h | h
    ·exact hltLH c (List.mem_append_left _ h)
    rcases List.mem_append.1 h with h | h
    ·exact hltLH c (List.mem_append_right _ h)
    exact hltF c h
   have hnd6 : ([] ++ (bsT' ++ (bsL' ++ ((b' :: (b1' ++ bsH')) ++ bsF)))).Nodup := by
    have hp : ([] ++ (bsT' ++ (bsL' ++ ((b' :: (b1' ++ bsH')) ++ bsF)))).Perm ((b' :: b1') ++ (bsT' ++ (bsL' ++ (bsH' ++ bsF)))) := by rw [List.perm_iff_count]; intro q; simp only [List.count_append, List.count_cons, List.count_nil]; omega
    exact hp.nodup_iff.2 hnd5
   obtain ⟨bsT'', hp1, hp2⟩ := put_state o.dst (ht2.ext hN) hwin hnd6
   subst hs'
   have e0 : (({ s1 with locs := locs', heap := (.out s1.next, o') :: heap', next := s1.next + 1 } : AState).put o.dst (.win (.out s1.next) sz 0 len)).tmps = (s1.put o.dst (.win (.out s.next) sz 0 len)).tmps := by rw [← dl3]; cases o.dst <;> rfl
   obtain ⟨q1, q2, q3⟩ := put_locs ({ s1 with locs := locs', heap := (.out s1.next, o') :: heap', next := s1.next + 1 } : AState) o.dst (.win (.out s1.next) sz 0 len)
   refine ⟨_, w', hran, ⟨R', setN N (.out s.next) b', bsT'', bsL', b' :: (b1' ++ bsH'), ⟨repV_undef _, ?_, ?_, ?_, by simpa using hp2, ?_, hglob, hframe⟩, hkF, fun k b hk => hN _ _ hk, fun i _ => by simp [setN]⟩, ?_⟩
   ·rw [pa1, e0]; exact hp1
   ·rw [q1]; exact hL.ext hN
   ·rw [q2]; dsimp only; rw [dl3]
    exact ⟨b', b1', bsH', rfl, by simp [outs, setN], hob, hH2⟩
   ·rw [q3]; dsimp only; rw [dl3]
    intro k b hk
    simp only [setN] at hk
    split at hk
    ·rename_i he; simp at he; omega
    have := hr.next k b hk; omega
   rw [q3]; dsimp only; rw [dl3]; omega
  simp only [dl2] at h
  rcases hwhich with ⟨hn0, e⟩ | ⟨i, b0, c1, pre, post, obj, h1, h2, h3, h4, h5, h6, ⟨bs', g1, g2⟩, h7⟩ | ⟨k, b0, c1, pre, post, obj, h1, h2, h3, h4, h5, h6, h6', ⟨bs', g1, g2⟩, h7⟩
  ·subst hn0
   subst e
   have kL : Keep w R w' R' bsL := hkeep.sub (by intro b hb; simp [hb])
   have kH : Keep w R w' R' bsH := hkeep.sub (by intro b hb; simp [hb])
   split at h
   ·rename_i k hk
    split at h
    ·rename_i hno
     simp only [Option.some.injEq] at h
     obtain ⟨bs', g1, g2⟩ := RepObjs.adel_sub (.loc k) (hr.locs.keep kL)
     refine hfin (adel (.loc k) s.locs) s.heap bs' bsH hno g1 (hr.heap.keep kH) ?_ ?_ (by rw [← h, dl1])
     ·intro c hc
      rcases List.mem_append.1 hc with h | h
      ·exact hltL c (g2.mem h)
      exact hltH c h
     refine List.Nodup.sublist ?_ hndr
     exact List.Sublist.append (.refl _) (List.Sublist.append (.refl _) (List.Sublist.append (.refl _) (List.Sublist.append g2 (.refl _))))
    simp at h
   ·rename_i k hk
    split at h
    ·rename_i hno
     simp only [Option.some.injEq] at h
     obtain ⟨bs', g1, g2⟩ := RepObjs.adel_sub (.out k) (hr.heap.keep kH)
     refine hfin s.locs (adel (.out k) s.heap) bsL bs' hno (hr.locs.keep kL) g1 ?_ ?_ (by rw [← h, ← dl1])
     ·intro c hc
      rcases List.mem_append.1 hc with h | h
      ·exact hltL c h
      exact hltH c (g2.mem h)
     refine List.Nodup.sublist ?_ hndr
     exact List.Sublist.append (.refl _) (List.Sublist.append (.refl _) (List.Sublist.append (.refl _) (List.Sublist.append (.refl _) (List.Sublist.append g2 (.refl _)))))
    simp at h
   split at h
   ·rename_i hno
    simp only [Option.some.injEq] at h
    refine hfin s.locs s.heap bsL bsH hno (hr.locs.keep kL) (hr.heap.keep kH) ?_ hndr (by rw [← h, ← dl1])
    intro c hc
    rcases List.mem_append.1 hc with h | h
    ·exact hltL c h
    exact hltH c h
   simp at h
  ·rw [h1] at h
   dsimp only at h
   split at h
   ·rename_i hno
    simp only [Option.some.injEq] at h
    subst h5
    subst h3
    have hmem : ∀ c ∈ pre ++ post, c ∈ bsL := fun c hc => by rw [h4]; simp at hc ⊢; rcases hc with h | h <;> simp [h]
    refine hfin (adel (.loc i) s.locs) s.heap bs' bsH hno (g1.keep (hkeep.sub (fun b hb => ?_))) (hr.heap.keep (hkeep.sub (by intro b hb; simp [hb]))) ?_ ?_ (by rw [← h, dl1])
    ·have := g2.mem hb
     simp at this ⊢; rcases this with h | h <;> simp [h]
    ·intro c hc
     rcases List.mem_append.1 hc with h | h
     ·exact hltL c (hmem c (g2.mem h))
     exact hltH c h
    refine List.Nodup.sublist ?_ hndr
    exact List.Sublist.append (.refl _) (List.Sublist.append (.refl _) (List.Sublist.append (.refl _) (List.Sublist.append g2 (.refl _))))
   simp at h
  rw [h1] at h
  dsimp only at h
  split at h
  ·rename_i hno
   simp only [Option.some.injEq] at h
   subst h5
   subst h3
   have hmem : ∀ c ∈ pre ++ post, c ∈ bsH := fun c hc => by rw [h4]; simp at hc ⊢; rcases hc with h | h <;> simp [h]
   refine hfin s.locs (adel (.out k) s.heap) bsL bs' hno (hr.locs.keep (hkeep.sub (by intro b hb; simp [hb]))) (g1.keep (hkeep.sub (fun b hb => ?_))) ?_ ?_ (by rw [← h, ← dl1])
   ·have := g2.mem hb
    simp at this ⊢; rcases this with h | h <;> simp [h]
   ·intro c hc
    rcases List.mem_append.1 hc with h | h
    ·exact hltL c h
    exact hltH c (hmem c (g2.mem h))
   refine List.Nodup.sublist ?_ hndr
   exact List.Sublist.append (.refl _) (List.Sublist.append (.refl _) (List.Sublist.append (.refl _) (List.Sublist.append (.refl _) (List.Sublist.append g2 (.refl _)))))
  simp at h
 | fresh o' =>
  rw [heff] at h hout
  obtain ⟨hnone, b1', hobj, hf, hsz, hcv⟩ := hout
  simp only at h
  split at h
  ·rename_i hno
   simp only [Option.some.injEq] at h
   subst h
   have hall : RepObjs w' R' N s.locs bsL /\ RepObjs w' R' (outs N) s.heap bsH := by
    rcases hwhich with ⟨_, e⟩ | ⟨i, b, b1, pre, post, obj, h1, h2, h3, h4, h5, h6, _, h7⟩ | ⟨k, b, b1, pre, post, obj, h1, h2, h3, h4, h5, h6, h6', _, h7⟩
    ·subst e
     exact ⟨hr.locs.keep (hkeep.sub (by intro b hb; simp [hb])), hr.heap.keep (hkeep.sub (by intro b hb; simp [hb]))⟩
    ·rw [hnone] at h3; simp at h3
    rw [hnone] at h3; simp at h3
   obtain ⟨hL, hH⟩ := hall
   have hN : ∀ m b, N m = some b -> setN N (.out s.next) w.heap.size m = some b := fun m b hm => by
    simp only [setN]
    rw [if_neg]
    ·exact hm
    rintro rfl
    have := hr.next _ _ hm
    omega
   have hpv : RepV w' R' (setN N (.out s.next) w.heap.size) (outVal s.next o') cv [] := by
    subst hcv
    cases o' <;> simp [RepV, setN, outVal]
   have hob : RepObj w' R' (outs (setN N (.out s.next) w.heap.size)) o' w.heap.size b1' := (hobj.ext hN).reN hno (fun _ => rfl)
   have hH2 : RepObjs w' R' (outs (setN N (.out s.next) w.heap.size)) s.heap bsH := hH.ext (fun m b hm => by
    cases m with
    | loc i => simp [outs] at hm
    | out k => simp only [outs] at hm ⊢; exact hN _ _ hm)
   have hnd2 : (b1' ++ (bsT' ++ (bsL ++ (bsH ++ bsF)))).Nodup := by
    refine from_nodup (w := w) hnd ?_ ⟨hf.1, fun b hb => .inl (hf.2 b hb)⟩
    intro b hb
    rcases List.mem_append.1 hb with h | h
    ·exact hltT b h
    exact hltX b h
   have hnew : w.heap.size ∉ b1' ++ (bsT' ++ (bsL ++ (bsH ++ bsF))) := by
    intro hc
    rcases List.mem_append.1 hc with h | h
    ·have := ha.lt _ (hf.2 _ h); omega
    rcases List.mem_append.1 h with h | h
    ·have := hltT _ h; omega
    have := hltX _ h; omega
   have hnd3 : ([] ++ (bsT' ++ (bsL ++ ((w.heap.size :: (b1' ++ bsH)) ++ bsF)))).Nodup := by
    have h1 : (w.heap.size :: (b1' ++ (bsT' ++ (bsL ++ (bsH ++ bsF))))).Nodup := List.nodup_cons.2 ⟨hnew, hnd2⟩
    have hp : ([] ++ (bsT' ++ (bsL ++ ((w.heap.size :: (b1' ++ bsH)) ++ bsF)))).Perm (w.heap.size :: (b1' ++ (bsT' ++ (bsL ++ (bsH ++ bsF))))) := by rw [List.perm_iff_count]; intro q; simp only [List.count_append, List.count_cons, List.count_nil]; omega
    exact hp.nodup_iff.2 h1
   obtain ⟨bsT'', hp1, hp2⟩ := put_state o.dst (ht2.ext hN) hpv hnd3
   have e0 : (({ s1 with heap := (.out s1.next, o') :: s1.heap, next := s1.next + 1 } : AState).put o.dst (outVal s1.next o')).tmps = (s1.put o.dst (outVal s.next o')).tmps := by rw [← dl3]; cases o.dst <;> rfl
   obtain ⟨q1, q2, q3⟩ := put_locs ({ s1 with heap := (.out s1.next, o') :: s1.heap, next := s1.next + 1 } : AState) o.dst (outVal s1.next o')
   refine ⟨cv, w', hran, ⟨R', setN N (.out s.next) w.heap.size, bsT'', bsL, w.heap.size :: (b1' ++ bsH), ⟨repV_undef _, ?_, ?_, ?_, by simpa using hp2, ?_, hglob, hframe⟩, hkF, fun k b hk => hN _ _ hk, fun i _ => by simp [setN]⟩, ?_⟩
   ·rw [pa1, e0]; exact hp1
   ·rw [q1]; dsimp only; rw [dl1]; exact hL.ext hN
   ·rw [q2]; dsimp only; rw [dl2, dl3]
    exact ⟨w.heap.size, b1', bsH, rfl, by simp [outs, setN], hob, hH2⟩
   ·rw [q3]; dsimp only; rw [dl3]
    intro k b hk
    simp only [setN] at hk
    split at hk
    ·rename_i he; simp at he; omega
    have := hr.next k b hk; omega
   rw [q3]; dsimp only; rw [dl3]; omega
  simp at h
 | row o' sz len =>
  rw [heff] at h hout
  obtain ⟨hnone, b1', hobj, hf, hsz, cap, hcv, hcap, hsz0, hrow⟩ := hout
  simp only at h
  split at h
  ·rename_i d hd
   split at h
   ·rename_i hfresh
    simp only [Option.some.injEq] at h
    subst h
    -- nothing is looked at by such an operation: whichever it was, all stays
    have hall : RepObjs w' R' N s.locs bsL /\ RepObjs w' R' (outs N) s.heap bsH := by
     rcases hwhich with ⟨_, e⟩ | ⟨i, b, b1, pre, post, obj, h1, h2, h3, h4, h5, h6, _, h7⟩ | ⟨k, b, b1, pre, post, obj, h1, h2, h3, h4, h5, h6, h6', _, h7⟩
     ·subst e
      exact ⟨hr.locs.keep (hkeep.sub (by intro b hb; simp [hb])), hr.heap.keep (hkeep.sub (by intro b hb; simp [hb]))⟩
     ·rw [hnone] at h3; simp at h3
     rw [hnone] at h3; simp at h3
    obtain ⟨hL, hH⟩ := hall
    have hN : ∀ m, m ≠ Name.loc d -> setN N (.loc d) w.heap.size m = N m := fun m hm => by simp [setN, hm]
    obtain ⟨bsT2, t1, t2⟩ := RepVs.purge hN ht2
    obtain ⟨bsL2, l1, l2⟩ := RepObjs.purge hN hL
    have hob2 : RepObj w' R' (setN N (.loc d) w.heap.size) o' w.heap.size b1' := repObj_other hobj (fun cs hcs => by subst hcs; simpa [freshFor] using hfresh)
    have hH2 : RepObjs w' R' (outs (setN N (.loc d) w.heap.size)) s.heap bsH := hH.outs_eq (fun k => by simp [setN])
    have hpv : RepV w' R' (setN N (.loc d) w.heap.size) (.win (.loc d) sz 0 len) cv [] := by
     subst hcv
     simp only [RepV]
     exact ⟨trivial, w.heap.size, cap, by simp [setN], rfl, hcap, hsz0, hsz, by rw [Nat.zero_add]; exact hrow⟩
    have hnd2 : (b1' ++ (bsT' ++ (bsL ++ (bsH ++ bsF)))).Nodup := by
     refine from_nodup (w := w) hnd ?_ ⟨hf.1, fun b hb => .inl (hf.2 b hb)⟩
     intro b hb
     rcases List.mem_append.1 hb with h | h
     ·exact hltT b h
     exact hltX b h
    have hnew : w.heap.size ∉ b1' ++ (bsT' ++ (bsL ++ (bsH ++ bsF))) := by
     intro hc
     rcases List.mem_append.1 hc with h | h
     ·have := ha.lt _ (hf.2 _ h); omega
     rcases List.mem_append.1 h with h | h
     ·have := hltT _ h; omega
     have := hltX _ h; omega
    have hnd3 : ([] ++ (bsT2 ++ ((w.heap.size :: (b1' ++ bsL2)) ++ (bsH ++ bsF)))).Nodup := by
     have h1 : (w.heap.size :: (b1' ++ (bsT' ++ (bsL ++ (bsH ++ bsF))))).Nodup := List.nodup_cons.2 ⟨hnew, hnd2⟩
     have hp : ([] ++ (bsT2 ++ ((w.heap.size :: (b1' ++ bsL2)) ++ (bsH ++ bsF)))).Perm (w.heap.size :: (b1' ++ (bsT2 ++ (bsL2 ++ (bsH ++ bsF))))) := by rw [List.perm_iff_count]; intro q; simp only [List.count_append, List.count_cons, List.count_nil]; omega
     refine hp.nodup_iff.2 (List.Nodup.sublist ?_ h1)
     exact (List.Sublist.append (.refl _) (List.Sublist.append t2 (List.Sublist.append l2 (.refl _)))).cons_cons _
    obtain ⟨bsT'', hp1, hp2⟩ := put_tmps d t1 hpv hnd3
    rw [hd] at pa1
    refine ⟨cv, w', hran, ⟨R', setN N (.loc d) w.heap.size, bsT'', w.heap.size :: (b1' ++ bsL2), bsH, ⟨repV_undef _, ?_, ?_, ?_, by simpa using hp2, ?_, hglob, hframe⟩, hkF, fun k b hk => by simpa [setN] using hk, fun i hi => by
     have : Name.loc i ≠ Name.loc d := fun e => hi (by rw [hd]; simp at e; rw [e])
     simp [setN, this]⟩, ?_⟩
    ·rw [hd, pa1]; exact hp1
    ·simp only [newRowS]
     rw [dl1]
     exact ⟨w.heap.size, b1', bsL2, rfl, by simp [setN], hob2, l1⟩
    ·simp only [newRowS]; rw [dl2]; exact hH2
    ·intro k b hk
     simp [setN] at hk
     simp only [newRowS]
     rw [dl3]
     exact hr.next k b hk
    ·simp only [newRowS]; exact Nat.le_of_eq dl3.symm
   simp at h
  simp at h
 | new o' =>
  rw [heff] at h hout
  obtain ⟨hnone, b1', hobj, hf, hsz, hcv⟩ := hout
  simp only at h
  split at h
  ·rename_i d hd
   split at h
   ·rename_i hfresh
    simp only [Option.some.injEq] at h
    subst h
    -- nothing is looked at by such an operation: whichever it was, all stays
    have hall : RepObjs w' R' N s.locs bsL /\ RepObjs w' R' (outs N) s.heap bsH := by
     rcases hwhich with ⟨_, e⟩ | ⟨i, b, b1, pre, post, obj, h1, h2, h3, h4, h5, h6, _, h7⟩ | ⟨k, b, b1, pre, post, obj, h1, h2, h3, h4, h5, h6, h6', _, h7⟩
     ·subst e
      exact ⟨hr.locs.keep (hkeep.sub (by intro b hb; simp [hb])), hr.heap.keep (hkeep.sub (by intro b hb; simp [hb]))⟩
     ·rw [hnone] at h3; simp at h3
     rw [hnone] at h3; simp at h3
    obtain ⟨hL, hH⟩ := hall
    have hN : ∀ m, m ≠ Name.loc d -> setN N (.loc d) w.heap.size m = N m := fun m hm => by simp [setN, hm]
    obtain ⟨bsT2, t1, t2⟩ := RepVs.purge hN ht2
    obtain ⟨bsL2, l1, l2⟩ := RepObjs.purge hN hL
    have hob2 : RepObj w' R' (setN N (.loc d) w.heap.size) o' w.heap.size b1' := repObj_other hobj (fun cs hcs => by subst hcs; simpa [freshFor] using hfresh)
    have hH2 : RepObjs w' R' (outs (setN N (.loc d) w.heap.size)) s.heap bsH := hH.outs_eq (fun k => by simp [setN])
    have hpv : RepV w' R' (setN N (.loc d) w.heap.size) (newVal d o') cv [] := by
     subst hcv
     cases o' <;> simp [RepV, setN, newVal]
    have hnd2 : (b1' ++ (bsT' ++ (bsL ++ (bsH ++ bsF)))).Nodup := by
     refine from_nodup (w := w) hnd ?_ ⟨hf.1, fun b hb => .inl (hf.2 b hb)⟩
     intro b hb
     rcases List.mem_append.1 hb with h | h
     ·exact hltT b h
     exact hltX b h
    have hnew : w.heap.size ∉ b1' ++ (bsT' ++ (bsL ++ (bsH ++ bsF))) := by
     intro hc
     rcases List.mem_append.1 hc with h | h
     ·have := ha.lt _ (hf.2 _ h); omega
     rcases List.mem_append.1 h with h | h
     ·have := hltT _ h; omega
     have := hltX _ h; omega
    have hnd3 : ([] ++ (bsT2 ++ ((w.heap.size :: (b1' ++ bsL2)) ++ (bsH ++ bsF)))).Nodup := by
     have h1 : (w.heap.size :: (b1' ++ (bsT' ++ (bsL ++ (bsH ++ bsF))))).Nodup := List.nodup_cons.2 ⟨hnew, hnd2⟩
     have hp : ([] ++ (bsT2 ++ ((w.heap.size :: (b1' ++ bsL2)) ++ (bsH ++ bsF)))).Perm (w.heap.size :: (b1' ++ (bsT2 ++ (bsL2 ++ (bsH ++ bsF))))) := by rw [List.perm_iff_count]; intro q; simp only [List.count_append, List.count_cons, List.count_nil]; omega
     refine hp.nodup_iff.2 (List.Nodup.sublist ?_ h1)
     exact (List.Sublist.append (.refl _) (List.Sublist.append t2 (List.Sublist.append l2 (.refl _)))).cons_cons _
    obtain ⟨bsT'', hp1, hp2⟩ := put_tmps d t1 hpv hnd3
    rw [hd] at pa1
    refine ⟨cv, w', hran, ⟨R', setN N (.loc d) w.heap.size, bsT'', w.heap.size :: (b1' ++ bsL2), bsH, ⟨repV_undef _, ?_, ?_, ?_, by simpa using hp2, ?_, hglob, hframe⟩, hkF, fun k b hk => by simpa [setN] using hk, fun i hi => by
     have : Name.loc i ≠ Name.loc d := fun e => hi (by rw [hd]; simp at e; rw [e])
     simp [setN, this]⟩, ?_⟩
    ·rw [hd, pa1]; exact hp1
    ·simp only [newObj]
     rw [dl1]
     exact ⟨w.heap.size, b1', bsL2, rfl, by simp [setN], hob2, l1⟩
    ·simp only [newObj]; rw [dl2]; exact hH2
    ·intro k b hk
     simp [setN] at hk
     simp only [newObj]
     rw [dl3]
     exact hr.next k b hk
    ·simp only [newObj]; exact Nat.le_of_eq dl3.symm
   simp at h
  simp at h
end
end Go.Tp

namespace Go.Tp
/-! ### Calls -/
/-- What a call of a function comes to, said of abstract values: it returns, and what it returns meets Q. -/
def ACalls (P : Program) (G : Globs) (f : FuncId) (args : List AVal) (heap : List (Name × AObj)) (next : Nat) (Q : AVal -> List (Name × AObj) -> Nat -> Prop) : Prop :=
 ∀ (w : World) (R : Own) (N : Name -> Option Nat) (cargs : List Value) (bsA bsH bsF : List Nat),
  RepVs w R (outs N) args cargs bsA -> RepObjs w R (outs N) heap bsH -> (bsA ++ (bsH ++ bsF)).Nodup -> (∀ o b, N (.out o) = some b -> o < next) ->
  (∀ g cs, G g = some cs -> GlobAt w R g cs) -> (∀ b ∈ bsF, b < w.heap.size) ->
  Calls P f cargs.toArray w fun e w' => ∃ v cv heap' next' R' N' bsV bsH', e = .returned cv /\ Q v heap' next' /\ RepV w' R' (outs N') v cv bsV /\ RepObjs w' R' (outs N') heap' bsH' ∧
   (bsV ++ (bsH' ++ bsF)).Nodup /\ (∀ o b, N' (.out o) = some b -> o < next') /\ Keep w R w' R' bsF /\ (∀ o b, N (.out o) = some b -> N' (.out o) = some b)
theorem ACalls.mono {P : Program} {G : Globs} {f : FuncId} {args : List AVal} {heap : List (Name × AObj)} {next : Nat} {Q Q' : AVal -> List (Name × AObj) -> Nat -> Prop} (h : ACalls P G f args heap next Q)
  (hq : ∀ v h n, Q v h n -> Q' v h n) : ACalls P G f args heap next Q' := by
 intro w R N cargs bsA bsH bsF h1 h2 h3 h4 h5 h6
 refine (h w R N cargs bsA bsH bsF h1 h2 h3 h4 h5 h6).mono ?_
 rintro e w' ⟨v, cv, heap', next', R', N', bsV, bsH', k1, k2, k3⟩
 exact ⟨v, cv, heap', next', R', N', bsV, bsH', k1, hq _ _ _ k2, k3⟩
/-- The operands' values with all that they own, and the state without it. -/
def takeArgs (G : Globs) : AState -> List Operand -> List AVal × AState
 | s, [] => ([], s)
 | s, x :: r =>
  match takeArgs G (dropOwn s (some 0) [x]) r with
  |(vs, s') => (aeval G s x :: vs, s')
/-! #### Local objects that a callee is handed -/
mutual
/-- Pointers to the object n become pointers to immutable cells. -/
def frz (n : Name) (ds : List Dat) : AVal -> AVal
 | .ptr m off => if m = n then .ref (ds.drop off) else .ptr m off
 | .win m s off len => if m = n then .undef else .win m s off len
 | .fn f first captured => .fn f (frzL n ds first) (frzL n ds captured)
 | .agg cs => .agg (frzL n ds cs)
 | .tup cs => .tup (frzL n ds cs)
 | a => a
def frzL (n : Name) (ds : List Dat) : List AVal -> List AVal
 | [] => []
 | a :: r => frz n ds a :: frzL n ds r
end
def mapO (f : List AVal -> List AVal) : List (Name × AObj) -> List (Name × AObj)
 | [] => []
 |(m, .cells cs) :: r => (m, .cells (f cs)) :: mapO f r
 |(m, .map es) :: r => (m, .map es) :: mapO f r
mutual
/-- Another name for the object n. -/
def ren (n m : Name) : AVal -> AVal
 | .ptr k off => if k = n then .ptr m off else .ptr k off
 | .map k => if k = n then .map m else .map k
 | .win k s off len => if k = n then .win m s off len else .win k s off len
 | .fn f first captured => .fn f (renL n m first) (renL n m captured)
 | .agg cs => .agg (renL n m cs)
 | .tup cs => .tup (renL n m cs)
 | a => a
def renL (n m : Name) : List AVal -> List AVal
 | [] => []
 | a :: r => ren n m a :: renL n m r
end
def viaFn (n : Name) : List AVal -> Bool
 | [] => false
 | .fn _ first captured :: r => mentionsL n first || mentionsL n captured || viaFn n r
 | _ :: r => viaFn n r
/-- The cells of a captured variable that holds data. -/
def frzCells (fz : Bool) (n : Name) (args cs : List AVal) : Option (List Dat) := if (fz && viaFn n args) = true then datCells (unOwnL cs) else none
/-- One local object is frozen or handed over. -/
def prep1 (fz : Bool) (n : Name) (s : AState) (args : List AVal) : Option (AState × List AVal) :=
 match n, aget n s.locs with
 | .loc _, some (.cells cs) =>
  match frzCells fz n args cs with
  | some ds => some ({ s with tmps := frzL n ds s.tmps, locs := mapO (frzL n ds) (adel n s.locs) }, frzL n ds args)
  | none => if noLocL (renL n (.out s.next) cs) = true then
   some ({ tmps := renL n (.out s.next) s.tmps, locs := mapO (renL n (.out s.next)) (adel n s.locs), heap := (.out s.next, .cells (renL n (.out s.next) cs)) :: s.heap, next := s.next + 1 }, renL n (.out s.next) args)
  else none
 | .loc _, some (.map es) =>
  some ({ tmps := renL n (.out s.next) s.tmps, locs := mapO (renL n (.out s.next)) (adel n s.locs), heap := (.out s.next, .map es) :: s.heap, next := s.next + 1 }, renL n (.out s.next) args)
 | _, _ => none
def prep (fz : Bool) : List Name -> AState -> List AVal -> AState × List AVal
 | [], s, args => (s, args)
 | n :: ns, s, args =>
  match prep1 fz n s args with
  | some (s', args') => prep fz ns s' args'
  | none => prep fz ns s args
mutual
/-- The frame's own objects that a value names. -/
def namesV : AVal -> List Name
 | .ptr (.loc i) _ => [.loc i]
 | .map (.loc i) => [.loc i]
 | .win (.loc i) _ _ _ => [.loc i]
 | .fn _ first captured => namesL first ++ namesL captured
 | .agg cs => namesL cs
 | .tup cs => namesL cs
 | _ => []
def namesL : List AVal -> List Name
 | [] => []
 | a :: r => namesV a ++ namesL r
end
def addNew : List Name -> List Name -> List Name
 | [], l => l
 | n :: ns, l => if l.contains n then addNew ns l else addNew ns (n :: l)
def objNames (locs : List (Name × AObj)) (n : Name) : List Name :=
 match aget n locs with
 | some (.cells cs) => namesL cs
 | _ => []
def closeN (locs : List (Name × AObj)) : Nat -> List Name -> List Name
 | 0, l => l
 | k + 1, l => closeN locs k (l.foldl (fun a n => addNew (objNames locs n) a) l)
/-- Once more for those that name themselves. -/
def twice (l : List Name) : List Name := l ++ l
/-- What a call's arguments lead to, inner objects first. -/
def needed (s : AState) (args : List AVal) : List Name :=
 match addNew (namesL args) [] with
 | [] => []
 | l => twice (closeN s.locs s.locs.length l)
def locNames : List (Name × AObj) -> List Name
 | [] => []
 |(n, _) :: r => n :: locNames r
/-- A region that draws its order: the operations that may go ahead (false) or come up alone (true), in a chosen order; one that makes a variable; loads that take over what a cell owns; the operations behind all these, in their order. -/
structure RHint where
 pre : List (Nat × Bool)
 nw : Option Nat
 tk : List Nat
 tail : List Nat
 deriving Inhabited
/-- What the evaluation is told: the functions that take over what their arguments own; the orders of the regions that draw. -/
structure Hints where
 moves : FuncId -> Bool
 ord : Nat -> RHint
 /-- functions that are handed captured variables themselves -/
 caps : FuncId -> Bool
 /-- what is appended to nothing becomes a row whose cells are known one by one -/
 rows : Bool
/-- A region that does not draw makes no rows if its hint names a variable. -/
def Hints.at (H : Hints) (id : Nat) : Hints := ⟨H.moves, H.ord, H.caps, match (H.ord id).nw with | none => H.rows | some _ => false⟩
def rowsOf (caps : FuncId -> Bool) (f : FuncId) : Bool := caps (1000000 + f)
def isAppend : Op -> Bool
 | .call { callee := .builtin .append, .. } => true
 | _ => false
/-- The call of a function: its number, its arguments, the state behind the handing over. -/
def acallee (E : TEnv) (G : Globs) (H : Hints) (c : Call) (s : AState) : Option (FuncId × List AVal × AState) :=
 match c.callee with
 | .value f => (match aeval G s f with
  | .fn (.func g) first captured =>
   if E.fn g = true then
    match (if H.moves g = true then takeArgs G s c.args.toList else (evalArgs G s none 0 c.args.toList, s)) with
    |(vs, s1) => (match prep (!H.caps g) (needed s1 (first ++ vs ++ captured)) s1 (first ++ vs ++ captured) with
     |(s2, args) => if noLocL args = true then some (g, args, s2) else none)
   else none
  | _ => none)
 | _ => none
def isCall : Op -> Option Call
 | .call c => (match c.callee with | .builtin _ => none | _ => some c)
 | _ => none
/-! ### Code -/
def isTmp (t : Tmp) : Operand -> Bool
 | .tmp u => Nat.beq u t
 | _ => false
def takesIn (moves : FuncId -> Bool) (ops : List Oper) (d : Option Tmp) : Bool :=
 match d with
 | none => false
 | some t => ops.any fun o => match o.op with
  | .call c => (match c.callee with
   | .builtin .append => (match c.args.toList with | .tmp u :: _ => Nat.beq u t | _ => false)
   | .value (.func g) => moves g && c.args.toList.any (isTmp t)
   | _ => false)
  | _ => false
/-- A slot of the region whose value is read by somebody who takes over what it owns. -/
def wantsIn (moves : FuncId -> Bool) (ops : List Oper) (d : Option Tmp) : Bool :=
 match d with
 | none => false
 | some t => ops.any fun o => match o.op with
  | .call c => (match c.callee with
   | .builtin .append => (match c.args.toList with | .tmp u :: _ => Nat.beq u t | _ => false)
   | .value (.func g) => moves g && c.args.toList.any (isTmp t)
   | _ => false)
  | .move x => isTmp t x
  | .assign x => isTmp t x
  | .box _ x => isTmp t x
  | .extract x _ => isTmp t x
  | .store _ _ x => isTmp t x
  | _ => false
def takeFor (moves : FuncId -> Bool) (ops : List Oper) (o : Oper) : Bool :=
 match o.op with
 | .load _ _ => takesIn moves ops o.dst
 | _ => false
/-- Whether an operation takes over, or makes a row. -/
def appended (ops : List Oper) (d : Option Tmp) : Bool :=
 match d with
 | none => false
 | some d => ops.any fun o => match o.op with
  | .call c => isAppend o.op && (match c.args.toList with | [_, .tmp u] => Nat.beq u d | _ => false)
  | _ => false
def takeR (H : Hints) (ops : List Oper) (o : Oper) : Bool := match o.op with
 | .buildSlice _ _ _ => H.rows && !appended ops o.dst
 | .makeMap _ _ => H.rows
 | _ => (match isAppend o.op with | true => H.rows | false => takeFor H.moves ops o)
/-- A read of a variable that is no taking over. -/
def readOnly (moves : FuncId -> Bool) (ops : List Oper) (o : Oper) : Bool :=
 match o.op with
 | .move _ => !wantsIn moves ops o.dst
 | _ => false
/-- Whether an operation is wanted, its guard read. -/
def wantedA (ops : List Oper) (s : AState) (g : Option (Nat × Bool)) : Option Bool :=
 match g with
 | none => some true
 | some (j, want) => (match ops[j]? with
  | some o => (match o.dst with
   | some t => (match getT s.tmps t with
    | .dat (.flat (.bool b)) => some (b == want)
    | .tup [] => some false
    | _ => none)
   | none => none)
  | none => none)
/-! #### Bounds that every value in a world meets -/
mutual
def bndD : Dat -> Prop
 | .flat v => isFlat v = true
 | .slice es => es.length <= lim /\ bndDs es
 | .agg cs => bndDs cs
def bndDs : List Dat -> Prop
 | [] => True
 | d :: r => bndD d /\ bndDs r
end
mutual
def bndV : AVal -> Prop
 | .dat d => bndD d
 | .own es => es.length <= lim /\ bndDs es
 | .ref cs => bndDs cs
 | .fn _ a b => bndL a /\ bndL b
 | .agg cs => bndL cs
 | .tup cs => bndL cs
 | .ptr _ _ => True
 | .map _ => True
 | .win _ _ _ _ => True
 | .undef => True
def bndL : List AVal -> Prop
 | [] => True
 | a :: r => bndV a /\ bndL r
end
def bndM : List (Value × Dat) -> Prop
 | [] => True
 |(_, d) :: r => bndD d /\ bndM r
def bndO : List (Name × AObj) -> Prop
 | [] => True
 |(_, .cells cs) :: r => bndL cs /\ bndO r
 |(_, .map es) :: r => bndM es /\ bndO r
/-- What is known of calls, and of code that is not run; variables while code is run. -/
abbrev CallsT := FuncId -> List AVal -> List (Name × AObj) -> Nat -> (AVal -> List (Name × AObj) -> Nat -> Prop) -> Prop
abbrev CodeT := Code -> (Exit -> AState -> Prop) -> AState -> Prop
section
variable (A : CallsT) (E : TEnv) (G : Globs) (H : Hints)
/-- One operation. -/
def aone (all : List Oper) (o : Oper) (K : AState -> Prop) (s : AState) : Prop :=
 match wantedA all s o.guard with
 | none => False
 | some b =>
  if b = true then
   (match isCall o.op with
    | some c => (match acallee E G H c s with
     | some (f, args, s2) => A f args s2.heap s2.next (fun v heap n => bndV v -> bndO heap -> K (({ s2 with heap := heap, next := n } : AState).put o.dst v))
     | none => False)
    | none => (match astep E G (readOnly H.moves all o) (takeR H all o) o s with
     | some s' => K s'
     | none => False))
  else K (s.put o.dst (.tup []))
/-- A truth value that is new is asked for at once. -/
def askK (d : Option Tmp) (K : AState -> Prop) (s : AState) : Prop :=
 match d with
 | none => K s
 | some t => (match s.tmps[t]? with
  | some (.dat (.flat (.bool b))) => (match b with
   | true => K { s with tmps := s.tmps.set t (.dat (.flat (.bool true))) }
   | false => K { s with tmps := s.tmps.set t (.dat (.flat (.bool false))) })
  | _ => K s)
theorem set_self {α : Type} : ∀ {l : List α} {t : Nat} {v : α}, l[t]? = some v -> l.set t v = l
 | [], _, _, h => by simp at h
 | _ :: _, 0, _, h => by simp at h; simp [h]
 | _ :: l, t + 1, v, h => by simp at h; simp [set_self h]
theorem askK_eq (d : Option Tmp) (K : AState -> Prop) : askK d K = K := by
 funext s
 unfold askK
 cases d with
 | none => rfl
 | some t =>
  dsimp only
  split
  ·rename_i b h
   have := set_self h
   cases b <;> simp only [this]
  rfl
/-- Operations in the order of the text. -/
def aops (all : List Oper) (Q : AState -> Prop) : List Oper -> AState -> Prop
 | [], s => Q s
 | o :: rest, s => aone A E G H all o (askK o.dst (aops all Q rest)) s
/-! #### Regions that draw their order -/
def lookPure (fh : Bool) : Option Name -> Bool
 | some (.out _) => fh
 | _ => true
/-- Operations that may go ahead. -/
def quietKind : Op -> Bool
 |.move _ | .assign _ | .pick _ _ _ | .binOp _ _ _ _ _ | .unOp _ _ _ | .convert _ _ _ | .nilCheck _ | .fieldAddr _ _ _ | .field _ _ _ | .indexAddr _ _ _ | .index _ _ _ | .slice _ _ _ _ _ | .build _ _
 | .buildSlice _ _ _ | .makeFunc _ _ _ | .extract _ _ | .load _ _ | .lookup _ _ _ _ => true
 | .call c => (match c.callee with | .builtin .len => true | .builtin .max => true | _ => false)
 | _ => false
def isAlloc : Op -> Bool
 | .alloc _ => true
 | _ => false
/-- The value of an operation that goes ahead. -/
def stepQ (fh : Bool) (all : List Oper) (o : Oper) (s : AState) : Option AVal :=
 match wantedA all s o.guard with
 | none => none
 | some b =>
  if b = true then
   if isAlloc o.op = true then (match aop E false o.op [] none with | some _ => some .undef | none => none)
   else (match isCall o.op with
    | some _ => none
    | none =>
     if (quietKind o.op && lookPure fh (looks o.op (evalArgs G s none 0 (opsL o.op)))) = true then
      (match aop E false o.op (evalArgs G s none 0 (opsL o.op)) (lookedAt s o.op (evalArgs G s none 0 (opsL o.op))) with
       | some out => (match out.eff with | .keep => some out.val | _ => none)
       | none => none)
     else none)
  else some (.tup [])
/-- A call that hands over no local object. -/
def acalleeD (c : Call) (s : AState) : Option (FuncId × List AVal × AState) :=
 match c.callee with
 | .value f => (match aeval G s f with
  | .fn (.func g) first captured =>
   if E.fn g = true then
    match (if H.moves g = true then takeArgs G s c.args.toList else (evalArgs G s none 0 c.args.toList, s)) with
    |(vs, s1) => if noLocL (first ++ vs ++ captured) = true then some (g, first ++ vs ++ captured, s1) else none
   else none
  | _ => none)
 | _ => none
/-- Objects that nothing in the region changes: the frame's own, and the others where no call is among the operations. -/
def okN (fh : Bool) : Name -> Bool
 | .loc _ => true
 | .out _ => fh
def AState.putO (s : AState) (n : Name) (o : AObj) : AState :=
 match n with
 | .loc i => { s with locs := aset (.loc i) o s.locs }
 | .out k => { s with heap := aset (.out k) o s.heap }
/-- What a cell owns goes over to the slot that it was loaded into. -/
def showTk (fh : Bool) (all : List Oper) : List Nat -> AState -> Option AState
 | [], s => some s
 | i :: r, s =>
  match all[i]? with
  | some o => (match o.op, o.dst, o.guard with
   | .load _ (.tmp u), some t, none => (match getT s.tmps u with
    | .ptr n off => if okN fh n = true then (match s.obj n with
     | some (.cells cs) => (match cs[off]? with
      | some (.own es) => (match getT s.tmps t with
       | .dat (.slice _) => showTk fh all r (({ s with tmps := s.tmps.set t (.own es) } : AState).putO n (.cells (putL off [.dat (.slice es)] cs)))
       | _ => none)
      | _ => none)
     | _ => none) else none
    | _ => none)
   | _, _, _ => none)
  | none => none
/-- The slot that an append appends to. -/
def appSlot : Op -> Option Tmp
 | .call c => (match c.callee with
  | .builtin .append => (match c.args.toList with | .tmp t :: _ => some t | _ => none)
  | _ => none)
 | _ => none
/-- The loads that are to own what an append appends to. -/
def tkFor (all : List Oper) (t : Tmp) : List Nat -> List Nat
 | [] => []
 | i :: r => match all[i]? with
  | some o => if o.dst = some t then i :: tkFor all t r else tkFor all t r
  | none => tkFor all t r
/-- Nothing is taken over for an append to nil. -/
def tkNil (tk : List Nat) (t : Tmp) (s : AState) : List Nat := if isNilV (getT s.tmps t) = true then [] else tk
theorem tkNil_for {all : List Oper} {t : Tmp} {tk : List Nat} {s : AState} {k : Nat} (h : k ∈ tkFor all t (tkNil tk t s)) : k ∈ tkFor all t tk := by
 unfold tkNil at h
 split at h
 ·simp [tkFor] at h
 exact h
/-- A call of a function that is handed no object. -/
def isPure (o : Oper) : Bool :=
 match o.op with
 | .call c => (match c.callee with | .value (.func g) => H.caps (2000000 + g) | _ => false)
 | _ => false
/-- A call of a function that leaves every object as it is. -/
def isRead (o : Oper) : Bool :=
 match o.op with
 | .call c => (match c.callee with | .value (.func g) => H.caps (3000000 + g) | _ => false)
 | _ => false
/-- All objects of the one heap lie in the other as they are. -/
def Stays (h h' : List (Name × AObj)) : Prop := ∀ n ob, aget n h = some ob -> aget n h' = some ob
/-- A copy from slot to slot. -/
def isCopyO (o : Oper) : Bool :=
 match o.op, o.dst with
 | .move (.tmp _), some _ => true
 | _, _ => false
/-- What may come up alone beside calls and appends: a store; a copy from slot to slot. -/
def isStore : Op -> Bool
 | .store _ _ _ => true
 | .move (.tmp _) => true
 | .build _ _ => true
 | .buildSlice _ _ _ => true
 | _ => false
/-- A call, an append or a store that comes up alone. -/
def opL (fh : Bool) (tk : List Nat) (all : List Oper) (o : Oper) (K : AState -> Prop) (s : AState) : Prop :=
 match wantedA all s o.guard with
 | none => False
 | some b =>
  if b = true then
   (match isCall o.op with
    | some c => (match acalleeD E G H c s with
     | some (f, args, s2) => (match isPure H o with
      | true => A f args [] s2.next (fun v heap n => bndV v -> bndO heap -> heap = [] /\ K (({ s2 with next := n } : AState).put o.dst v))
      | false => A f args s2.heap s2.next (fun v heap n => bndV v -> bndO heap -> (isRead H o = true -> Stays s2.heap heap) /\ K (({ s2 with heap := heap, next := n } : AState).put o.dst v)))
     | none => False)
    | none => (match appSlot o.op with
     | some t => (match showTk fh all (tkFor all t (tkNil tk t s)) s with
      | some s1 => (match astep E G false false o s1 with
       | some s' => K s'
       | none => False)
      | none => False)
     | none => (match isStore o.op with
      | true => (match astep E G (readOnly H.moves all o) (takeR H all o) o s with
       | some s' => K s'
       | none => False)
      | false => (match stepQ E G fh all o s with
       | some a => K (s.put o.dst a)
       | none => False))))
  else K (s.put o.dst (.tup []))
/-- No call goes with the operations that go ahead: the heap stays. -/
def quietHeap (all : List Oper) : List (Nat × Bool) -> Bool
 | [] => true
 |(i, l) :: r => (!l || (match all[i]? with | some o => (isCall o.op).isNone || isPure H o | none => true)) && quietHeap all r
/-- The operation i waits for j, at the most so many steps off. -/
def reach (all : List Oper) : Nat -> Nat -> Nat -> Bool
 | 0, _, _ => false
 | f + 1, i, j => match all[i]? with
  | some o => o.after.toList.any fun e => Region.binds .any e && (Nat.beq e.on j || reach all f e.on j)
  | none => false
/-- Whichever the order, i stands on the same side of each call. -/
def quietAt (all : List Oper) (pre : List (Nat × Bool)) (i : Nat) : Bool :=
 pre.all fun p => !p.2 || (match all[p.1]? with | some o => (isCall o.op).isNone || isPure H o || isRead H o | none => true) || reach all 6 i p.1 || reach all 6 p.1 i
/-- The operations that go ahead or come up alone. -/
def aordP (tk : List Nat) (fh : Bool) (fq : Nat -> Bool) (all : List Oper) (T : AState -> Prop) : List (Nat × Bool) -> AState -> Prop
 | [], s => T s
 |(i, lone) :: r, s =>
  match all[i]? with
  | none => False
  | some o =>
   if lone = true then opL A E G H fh tk all o (askK o.dst (aordP tk fh fq all T r)) s
   else (match stepQ E G (fh || fq i) all o s with
    | some a => askK o.dst (aordP tk fh fq all T r) (s.put o.dst a)
    | none => False)
/-- The new variable comes into sight. -/
def showMk (all : List Oper) (mk : Option Nat) (s : AState) : Option AState :=
 match mk with
 | none => some s
 | some i => (match all[i]? with
  | some o => (match o.op, o.dst, o.guard with
   | .alloc t, some d, none => (match E.ty t with
    | some ti => if okCells (acells (ofConst ti.zero)) = true /\ mentionsL (.loc d) (acells (ofConst ti.zero)) = false /\ d < s.tmps.length /\ mentionsL (.loc d) s.tmps = false then some (newObj s d (.cells (acells (ofConst ti.zero)))) else none
    | none => none)
   | _, _, _ => none)
  | none => none)
def pickOps (all : List Oper) : List Nat -> List Oper
 | [] => []
 | i :: r => match all[i]? with | some o => o :: pickOps all r | none => pickOps all r
def setL (l : Array Bool) (i : Nat) : Array Bool := l.setIfInBounds i true
/-- A state that describes whatever the other describes; the names below k stay. -/
def Renm (k : Nat) (s0 s : AState) : Prop :=
 ∀ (w : World) (R : Own) (N : Name -> Option Nat) (tmps : List Value) (bsT bsL bsH bsF : List Nat), RelB G w R N tmps s undef .undef [] bsT bsL bsH bsF ->
  ∃ N' bsT' bsL' bsH', RelB G w R N' tmps s0 undef .undef [] bsT' bsL' bsH' bsF /\ ∀ o b, o < k -> N (.out o) = some b -> N' (.out o) = some b
/-- A small region in each order that the edges allow. -/
def aexpl (all : List Oper) (Q : AState -> Prop) : Nat -> Array Bool -> AState -> Prop
 | 0, listed, s => Region.ready .any all.toArray listed = [] /\ Q s
 | m + 1, listed, s => (Region.ready .any all.toArray listed = [] /\ Q s) ∨
  (Region.ready .any all.toArray listed ≠ [] /\ ∀ i ∈ Region.ready .any all.toArray listed, ∃ o, all[i]? = some o /\ aone A E G H all o (aexpl all Q m (setL listed i)) s)
def explMark (h : RHint) : Bool := match h.tail with | [k] => Nat.beq k 1000000 | _ => false
def preAll : List (Nat × Bool) -> Array Bool -> Array Bool
 | [], l => l
 |(i, _) :: r, l => preAll r (setL l i)
/-- The part of an order that is quiet. -/
def quietPre : List (Nat × Bool) -> List (Nat × Bool)
 |(i, false) :: r => (i, false) :: quietPre r
 | _ => []
/-- A hint whose lone operations come up in each order that the edges allow. -/
def loneMark (h : RHint) : Bool := match h.tail with | k :: _ => Nat.beq k 2000000 | [] => false
def unmark (h : RHint) : RHint := ⟨h.pre, h.nw, h.tk, h.tail.drop 1⟩
/-- Those that come up alone, in each order. -/
def aloneP (h : RHint) (all : List Oper) (p : Array Bool) (K : AState -> Prop) : Nat -> Array Bool -> AState -> Prop
 | 0, listed, s => listed = p /\ K s
 | m + 1, listed, s => listed ≠ p /\ Region.ready .any all.toArray listed ≠ [] ∧
  ∀ i ∈ Region.ready .any all.toArray listed, (i, true) ∈ h.pre /\ ∃ o, all[i]? = some o /\ opL A E G H (quietHeap H all h.pre) h.tk all o (aloneP h all p K m (setL listed i)) s
def adrawL (all : List Oper) (h : RHint) (Q : AState -> Prop) (s : AState) : Prop :=
 aordP A E G H h.tk (quietHeap H all h.pre) (quietAt H all h.pre) all
  (aloneP A E G H h all (preAll h.pre (Array.replicate all.length false)) (fun s1 => match showMk E all h.nw s1 with
   | some s2 => aops A E G H all Q (pickOps all h.tail) s2
   | none => False) (h.pre.length - (quietPre h.pre).length) (preAll (quietPre h.pre) (Array.replicate all.length false))) (quietPre h.pre) s
/-- A region that draws its order. -/
def adraw (all : List Oper) (h : RHint) (Q : AState -> Prop) (s : AState) : Prop :=
 if explMark h = true then aexpl A E G H all (fun s' => ∃ s0, Q s0 /\ Renm G s.next s0 s') all.length (Array.replicate all.length false) s else
 if loneMark h = true then adrawL A E G H all (unmark h) Q s else
 aordP A E G H h.tk (quietHeap H all h.pre) (quietAt H all h.pre) all (fun s1 => match showMk E all h.nw s1 with
  | some s2 => aops A E G H all Q (pickOps all h.tail) s2
  | none => False) h.pre s
/-! The static part: the order is one of those that the edges allow. -/
def chkPre (ops : Array Oper) : List (Nat × Bool) -> Array Bool -> Bool
 | [], _ => true
 |(i, lone) :: r, l => (if lone = true then Region.ready .any ops l == [i] else (Region.ready .any ops l).contains i && Region.free .any ops l i) && chkPre ops r (setL l i)
/-- One of those that have come up waits for i. -/
def waited (ops : Array Oper) (p : Array Bool) (i : Nat) : Bool :=
 (List.range ops.size).any fun d => d != i && p.getD d false && (match ops[d]? with | some o => o.after.any (fun e => Region.binds .any e && e.on == i) | none => false)
def isApp : Op -> Bool
 | .call { callee := .builtin .append, .. } => true
 | _ => false
/-- An operation that reads a slot and writes one, both out of sight of the other, which writes none, or is an append. -/
def apartP (o p : Oper) : Bool :=
 o.guard.isNone && p.guard.isNone && (p.dst.isNone || isApp p.op) && (isCall p.op).isNone && (match o.op, o.dst with
  | .extract (.tmp x) _, some d => !(opsL p.op).any (isTmp x) && !(opsL p.op).any (isTmp d) && p.dst != some x && p.dst != some d
  | .move (.tmp x), some d => !(opsL p.op).any (isTmp x) && !(opsL p.op).any (isTmp d) && p.dst != some x && p.dst != some d
  | _, _ => false)
/-- .. or a read of a package variable. -/
def apartG (o p : Oper) : Bool :=
 o.guard.isNone && p.guard.isNone && (p.dst.isNone || isApp p.op) && (isCall p.op).isNone && (match o.op, o.dst with
  | .load _ (.global _), some d => !(opsL p.op).any (isTmp d) && p.dst != some d
  | _, _ => false)
/-- Two that may come up in either order. -/
def pairT (ops : Array Oper) (i j : Nat) (l : Array Bool) : Bool :=
 (Region.ready .any ops l == [i, j] || Region.ready .any ops l == [j, i]) && Region.ready .any ops (setL l i) == [j] && Region.ready .any ops (setL l j) == [i] &&
 (match ops[i]?, ops[j]? with | some o, some p => apartP o p | _, _ => false)
def chkTail (ops : Array Oper) : List Nat -> Array Bool -> Bool
 | [], l => Region.ready .any ops l == []
 | [i], l => Region.ready .any ops l == [i] && Region.ready .any ops (setL l i) == []
 | i :: j :: r, l => (Region.ready .any ops l == [i] && chkTail ops (j :: r) (setL l i)) || (pairT ops i j l && chkTail ops r (setL (setL l i) j))
/-- The slot of the new variable. -/
def nwSlot (ops : Array Oper) (nw : Option Nat) : Option Tmp := match nw with | some k => (match ops[k]? with | some q => q.dst | none => none) | none => none
/-- The last of those that go ahead may come up behind the first of the others. -/
def lateOk (ops : Array Oper) (h : RHint) (p : Array Bool) (i : Nat) : Bool :=
 match h.tail with
 | [] => false
 | j :: r => (Region.ready .any ops (p.setIfInBounds i false) == [i, j] || Region.ready .any ops (p.setIfInBounds i false) == [j, i]) && Region.ready .any ops (setL (p.setIfInBounds i false) j) == [i] &&
  Region.ready .any ops p == [j] && chkTail ops r (setL p j) && h.pre.all (fun x => x.1 == i || (waited ops (p.setIfInBounds i false) x.1 || !(Region.ready .any ops ((p.setIfInBounds i false).setIfInBounds x.1 false)).contains j)) &&
  !(h.nw.toList.contains i) && !(h.tk.contains i) &&
  (match ops[i]?, ops[j]? with
   | some o, some q => apartP o q && (opsL o.op).all (fun x => !(o.dst.any fun d => isTmp d x) && !((nwSlot ops h.nw).any fun d => isTmp d x)) && nwSlot ops h.nw != o.dst
   | _, _ => false)
/-- Without one of those that go ahead nothing behind them may come up. -/
def chkLast (ops : Array Oper) (h : RHint) (p : Array Bool) : List (Nat × Bool) -> Bool
 | [] => true
 |(i, lone) :: r => (lone || (waited ops p i || Region.ready .any ops (p.setIfInBounds i false) == [i]) || lateOk ops h p i) && chkLast ops h p r
/-- The slots of the operations whose work is shown later are written by nobody else. -/
def chkSlots (ops : Array Oper) (h : RHint) : Bool :=
 (h.nw.toList ++ h.tk).all fun i => h.pre.contains (i, false) && (match ops[i]? with
  | some o => (match o.op with | .load _ (.tmp u) => o.dst != some u | _ => true) && h.pre.all fun p => p.1 == i || (match ops[p.1]? with
   | some q => (match o.dst with | some d => q.dst != some d && (p.2 || !(q.looksAt ops).contains d) | none => false) && (match o.op with | .load _ (.tmp u) => q.dst != some u || o.after.any (fun e => Region.binds .any e && e.on == p.1) | _ => true)
   | none => false)
  | none => false)
/-- An append waits for the loads by which it owns. -/
def chkApp (ops : Array Oper) (h : RHint) : Bool :=
 h.pre.all fun p => match ops[p.1]? with
  | some o => (match appSlot o.op with
   | some t => (tkFor ops.toList t h.tk).all fun i => o.after.any fun e => Region.binds .any e && e.on == i
   | none => true)
  | none => true
/-- Stores that come up alone: nothing is shown later, and what goes ahead reads no object or stands on one side. -/
def chkStores (ops : Array Oper) (h : RHint) : Bool :=
 h.pre.all fun p => !p.2 || (match ops[p.1]? with
  | some o => !isStore o.op || (h.nw.isNone && h.tk.isEmpty && o.guard.isNone && h.pre.all fun q => q.2 || (match ops[q.1]? with
   | some oi => isCopyO o || (apartP oi o || apartG oi o) || reach ops.toList 12 q.1 p.1 || reach ops.toList 12 p.1 q.1
   | none => true))
  | none => true)
/-- A region that is not run: its hint leads nowhere. -/
def neverR (ops : Array Oper) (h : RHint) : Bool := h.pre.isEmpty && (match h.nw with | some k => (ops[k]?).isNone | none => false)
def chkRL (ops : Array Oper) (h : RHint) : Bool :=
 chkPre ops (quietPre h.pre) (Array.replicate ops.size false) && chkLast ops h (preAll h.pre (Array.replicate ops.size false)) h.pre &&
 chkTail ops h.tail (preAll h.pre (Array.replicate ops.size false)) && chkSlots ops h && chkApp ops h && chkStores ops h && decide (h.pre.length + h.tail.length <= ops.size) && h.pre.all (fun x => decide (x.1 < ops.size))
def chkR (ops : Array Oper) (h : RHint) : Bool :=
 Region.noSelect ops && chkPre ops h.pre (Array.replicate ops.size false) && chkLast ops h (preAll h.pre (Array.replicate ops.size false)) h.pre &&
 chkTail ops h.tail (preAll h.pre (Array.replicate ops.size false)) && chkSlots ops h && chkApp ops h && chkStores ops h && decide (h.pre.length + h.tail.length <= ops.size)
end
/-! ### Code in a frame of any kind: a function's, or a round's of a range over a function -/
/-- No fence but a round's. -/
abbrev rdF (rd : Option Nat) : Fence := { Fence.wide with round := rd }
end Go.Tp
namespace Go
def Code.wpR (P : Program) (c : Code) (Q : Exit -> Act -> World -> Prop) (a : Act) (w : World) : Prop := ∀ rd, c.wpIn (Tp.rdF rd) 1 P Q a w
end Go
namespace Go.Tp
def isDefer : Op -> Bool
 | .defer _ => true
 | _ => false
section
variable {P : Program} {Q : Exit -> Act -> World -> Prop} {a : Act} {w : World}
theorem wp_of_wpR {c : Code} (h : c.wpR P Q a w) : c.wp P Q a w := wpIn_wide.1 (h none)
theorem wpR_mono {c : Code} {Q' : Exit -> Act -> World -> Prop} (h : c.wpR P Q a w) (hq : ∀ e a w, Q e a w -> Q' e a w) : c.wpR P Q' a w := fun rd => wpIn_mono (h rd) hq
theorem wpR_skip (h : Q .normal a w) : Code.skip.wpR P Q a w := fun _ => wpIn_skip h
theorem wpR_label {l : Nat} (h : Q .normal a w) : (Code.label l).wpR P Q a w := fun _ => wpIn_label h
theorem wpR_exit {id : Nat} (h : Q (.exit id) a w) : (Code.exit id).wpR P Q a w := fun _ => wpIn_exit h
theorem wpR_ret (h : Q .ret a w) : Code.ret.wpR P Q a w := fun _ => wpIn_ret h
theorem wpR_seq {x y : Code} (h : x.wpR P (Exit.then (y.wpR P Q) Q) a w) : (Code.seq x y).wpR P Q a w := fun rd =>
 wpIn_seq (wpIn_mono (h rd) (fun e a w he => by cases e <;> first | exact he rd | exact he))
theorem wpR_cond {c : Operand} {x y : Code} {t : Bool} (hc : a.eval c = .bool t) (h : (if t then x else y).wpR P Q a w) : (Code.cond c x y).wpR P Q a w := fun rd => wpIn_cond hc (h rd)
theorem wpR_block {id : Nat} {c : Code} (h : c.wpR P (Exit.inBlock id Q) a w) : (Code.block id c).wpR P Q a w := fun rd => wpIn_block (h rd)
theorem calls_in {rd : Option Nat} {n : Nat} {f : FuncId} {args : Array Value} {R : Ending -> World -> Prop} (h : Calls P f args w R) : CallsIn (rdF rd) n P f args w R := callsIn_wide (n := n).2 h
theorem rows_in {rd : Option Nat} {n : Nat} {row : String} {args : Array Value} {R : Value -> World -> Prop} (h : Rows P row args w R) : RowsIn (rdF rd) n P row args w R := fun c cs _ =>
 let ⟨v, w', r, s⟩ := h c cs; ⟨v, w', r, stepsIn_wide.2 s⟩
theorem oper_in {o : Oper} {K : Act -> World -> Prop} (hd : isDefer o.op = false) (rd : Option Nat) (h : o.wp P a w K Q) : o.wpIn (rdF rd) 1 P a w K Q := by
 refine ⟨fun _ _ => trivial, ?_⟩
 have hs : o.semAt rd a.eval = execOp a.eval o := by
  unfold Oper.semAt
  cases rd with
  | none => rfl
  | some l =>
   cases ho : o.op <;> first | rfl | (rw [ho] at hd; simp [isDefer] at hd)
 show o.uponIn (rdF rd) 1 P a K Q ((o.semAt rd a.eval).run P w)
 rw [hs]
 unfold Oper.wp at h
 generalize (execOp a.eval o).run P w = r at h ⊢
 cases r with
 | ok x w' =>
  cases x <;> simp only [Oper.upon, Oper.uponIn] at h ⊢ <;>
   first
    |exact h
    | exact ⟨fun hx => by simp [Fence.wide] at hx, calls_in h⟩
    | exact ⟨fun hx => by simp [Fence.wide] at hx, rows_in h⟩
    |exact h.elim
 | halt x w' => cases x <;> simp only [Oper.upon, Oper.uponIn] at h ⊢ <;> exact h
theorem wpR_region {id : Nat} {ops : Array Oper} (h : ∀ rd, wpOpsIn (rdF rd) 1 P ops Q (List.range ops.size) a w) : (Code.region id ops false).wpR P Q a w := fun rd => wpIn_region (h rd)
theorem wpR_region_any {id : Nat} {ops : Array Oper} (hm : P.follows .mixedOrders = true) (h : ∀ rd, wpAnyIn (rdF rd) 1 P .any ops Q ops.size (Array.replicate ops.size false) a { w with drawn := w.drawn + 1 }) :
  (Code.region id ops true).wpR P Q a w := fun rd => wpIn_region_any hm (h rd)
theorem wpR_loop_ghost {c : Code} (I : Nat -> Act -> World -> Prop) {n0 : Nat} (h0 : I n0 a w)
  (round : ∀ n a w, I n a w -> c.wpR P (Exit.then (fun a' w' => ∃ n', n' < n /\ I n' a' w') Q) a w) : (Code.loop c).wpR P Q a w := by
 intro rd b k cs hro hb hr
 have key : ∀ n a w, I n a w -> ∃ e a' w', Q e a' w' /\ ArrivesIn (Machine.fenced P (rdF rd)) P (lone (b.atR a (.code c :: .inLoop c :: k)) cs w) b k cs e a' w' := by
  intro n
  induction n using Nat.strongRecOn with
  | _ n ih =>
   intro a w hI
   obtain ⟨e, a1, w1, hq, harr⟩ := round n a w hI rd b (.inLoop c :: k) cs hro hb hr
   cases e with
   | normal =>
    obtain ⟨n', hlt, hI1⟩ := hq
    obtain ⟨e2, a2, w2, hq2, harr2⟩ := ih n' hlt a1 w1 hI1
    exact ⟨e2, a2, w2, hq2, .of_steps (StepsIn.trans harr (.one (fenced_calm hb hr rfl) stepR_inLoop)) harr2⟩
   | exit id => exact ⟨_, a1, w1, hq, .pass (x := .inLoop c) rfl (fun _ _ => .inl (by simp)) harr⟩
   | goto l => exact ⟨_, a1, w1, hq, .pass (x := .inLoop c) rfl (fun _ _ => .inl (by simp)) harr⟩
   | ret => exact ⟨_, a1, w1, hq, .pass (x := .inLoop c) rfl (fun _ _ => .inl (by simp)) harr⟩
   | panic ch => exact ⟨_, a1, w1, hq, .pass (x := .inLoop c) rfl (fun _ _ => .inl (by simp)) harr⟩
   | outgrown => exact ⟨_, a1, w1, hq, .pass (x := .inLoop c) rfl (fun _ _ => .inl (by simp)) harr⟩
 obtain ⟨e, a', w', hq, harr⟩ := key n0 a w h0
 exact ⟨e, a', w', hq, .of_steps (.one (fenced_calm hb hr rfl) stepR_loop) harr⟩
theorem stepR_scope {b : Frame} {k : List Item} {cs : List Frame} {c : Code} : step P (lone (b.atR a (.code (.scope c) :: k)) cs w) = .next (lone (b.atR a (.code c :: .inScope c :: k)) cs w) :=
 step_lone_go (by simp [stepG, stepG.exec, Frame.atR])
theorem stepR_inScope {b : Frame} {k : List Item} {cs : List Frame} {c : Code} : step P (lone (b.atR a (.inScope c :: k)) cs w) = .next (lone (b.atR a k) cs w) :=
 step_lone_go (by simp [stepG, stepG.exec, Frame.atR])
theorem wpR_scope_straight {c : Code} (h : c.wpR P (Exit.noGoto Q) a w) : (Code.scope c).wpR P Q a w := by
 intro rd b k cs hro hb hr
 obtain ⟨e, a1, w1, hq, harr⟩ := h rd b (.inScope c :: k) cs hro hb hr
 have s0 : StepsIn (Machine.fenced P (rdF rd)) P (lone (b.atR a (.code (.scope c) :: k)) cs w) (lone (b.atR a (.code c :: .inScope c :: k)) cs w) := .one (fenced_calm hb hr rfl) stepR_scope
 cases e with
 | normal => exact ⟨.normal, a1, w1, hq, StepsIn.trans s0 (StepsIn.trans harr (.one (fenced_calm hb hr rfl) stepR_inScope))⟩
 | exit id => exact ⟨.exit id, a1, w1, hq, fun k' hk => StepsIn.trans s0 (harr.1 k' (by simp [exitTo, hk])), fun h1 h2 => by
   obtain ⟨k1, hk, hs⟩ := harr.2 h1 (by simpa [exitTo] using h2)
   exact ⟨k1, by simpa [exitTo] using hk, StepsIn.trans s0 hs⟩⟩
 | goto l => exact hq.elim
 | ret => exact ⟨_, a1, w1, hq, .of_steps s0 harr⟩
 | panic ch => exact ⟨_, a1, w1, hq, .of_steps s0 harr⟩
 | outgrown => exact ⟨_, a1, w1, hq, .of_steps s0 harr⟩
end
section
variable (P : Program) (A : CallsT) (C : CodeT) (E : TEnv) (G : Globs) (H : Hints)
/-- Behind a step or a piece of code. -/
def Aft (D : List Deferred) (K : AState -> Prop) (w : World) (R : Own) (N : Name -> Option Nat) (bsF : List Nat) (act' : Act) (w' : World) : Prop :=
 ∃ s' R' N' bsT bsL bsH, K s' /\ RelB G w' R' N' act'.tmps.toList s' undef .undef [] bsT bsL bsH bsF /\ act'.defers = D /\ Keep w R w' R' bsF /\ (∀ o b, N (.out o) = some b -> N' (.out o) = some b)
/-- Behind a piece of code. -/
def CPost (D : List Deferred) (Q : Exit -> AState -> Prop) (w : World) (R : Own) (N : Name -> Option Nat) (bsF : List Nat) : Exit -> Act -> World -> Prop := fun e act' w' =>
 ∃ s' R' N' bsT bsL bsH, Q e s' /\ RelB G w' R' N' act'.tmps.toList s' undef .undef [] bsT bsL bsH bsF /\ act'.defers = D /\ Keep w R w' R' bsF /\ (∀ o b, N (.out o) = some b -> N' (.out o) = some b)
/-- Code on a frame's state, said of worlds. -/
def ACode (c : Code) (Q : Exit -> AState -> Prop) (s : AState) : Prop :=
 ∀ (w : World) (R : Own) (N : Name -> Option Nat) (act : Act) (bsT bsL bsH bsF : List Nat), RelB G w R N act.tmps.toList s undef .undef [] bsT bsL bsH bsF -> ∀ {D : List Deferred}, act.defers = D ->
  c.wpR P (CPost G D Q w R N bsF) act w
/-- Behind the first of two. -/
def seqQ (K : AState -> Prop) (Q : Exit -> AState -> Prop) (e : Exit) (s : AState) : Prop :=
 match e with
 | .normal => K s
 | e => Q e s
/-- Behind a block. -/
def blockQ (id : Nat) (Q : Exit -> AState -> Prop) (e : Exit) (s : AState) : Prop :=
 match e with
 | .exit i => if Nat.beq i id = true then Q .normal s else Q (.exit i) s
 | e => Q e s
/-- All orders that are chosen in a piece of code are allowed. -/
def chkAll : Code -> Bool
 | .region id ops draw => !draw || (explMark (H.ord id) || (if loneMark (H.ord id) = true then chkRL ops (unmark (H.ord id)) else (chkR ops (H.ord id) || neverR ops (H.ord id))))
 | .seq x y => chkAll x && chkAll y
 | .cond _ x y => chkAll x && chkAll y
 | .block _ c => chkAll c
 | .loop c => chkAll c
 | .scope c => chkAll c
 | _ => true
/-- Code on a frame's state, run. Loops stay as they are. -/
def awp : Code -> (Exit -> AState -> Prop) -> AState -> Prop
 | .skip, Q, s => Q .normal s
 | .region id ops draw, Q, s => if draw = true then adraw A E G H ops.toList (H.ord id) (Q .normal) s else aops A E G (H.at id) ops.toList (Q .normal) ops.toList s
 | .seq x y, Q, s => awp x (seqQ (fun s' => awp y Q s') Q) s
 | .cond c x y, Q, s => (match aeval G s c with
  | .dat (.flat (.bool b)) => if b = true then awp x Q s else awp y Q s
  | _ => False)
 | .block id c, Q, s => awp c (blockQ id Q) s
 | .exit id, Q, s => Q (.exit id) s
 | .ret, Q, s => Q .ret s
 | c, Q, s => C c Q s
end
/-! ### Functions -/
/-- A struct that is handed back is a copy. -/
def tidy : AVal -> AVal
 | .agg cs => unOwn (.agg cs)
 | a => a
def tidyL : List AVal -> List AVal
 | [] => []
 | a :: r => tidy a :: tidyL r
/-- The value of a result that lies in memory. -/
def cellVal (E : TEnv) (s : AState) (a : Tmp) (t : TypeId) : Option AVal :=
 match getT s.tmps a with
 | .ptr n off => (match s.obj n, E.ty t with
  | some (.cells cs), some i => loadCells i off cs
  | _, _ => none)
 | _ => none
def retVals (E : TEnv) : AState -> List ResultVar -> Option (List AVal)
 | _, [] => some []
 | s, .tmp t :: r => (match retVals E (dropOwn s (some 0) [.tmp t]) r with | some vs => some (getT s.tmps t :: vs) | none => none)
 | s, .cell a t :: r => (match cellVal E s a t, retVals E s r with | some v, some vs => some (v :: vs) | _, _ => none)
def pack : List AVal -> AVal
 | [v] => v
 | vs => .tup vs
def locsMention (n : Name) : List (Name × AObj) -> Bool
 | [] => false
 |(_, .cells cs) :: r => mentionsL n cs || locsMention n r
 |(_, .map _) :: r => locsMention n r
/-- What is handed back takes along the objects that it names. -/
def expAll : List Name -> AState -> List AVal -> AState × List AVal
 | [], s, args => (s, args)
 | n :: ns, s, args =>
  if (mentionsL n args || locsMention n s.locs) = true then
   match prep1 true n s args with
   | some (s', args') => expAll ns s' args'
   | none => expAll ns s args
  else expAll ns s args
def repeatL : Nat -> List Name -> List Name
 | 0, _ => []
 | k + 1, l => l ++ repeatL k l
/-- The end of a function. -/
def aret (E : TEnv) (rs : List ResultVar) (Q : AVal -> List (Name × AObj) -> Nat -> Prop) (s : AState) : Prop :=
 match retVals E s rs with
 | none => False
 | some vs =>
  if noLocL (tidyL vs) = true then Q (pack (tidyL vs)) s.heap s.next
  else match expAll (repeatL s.locs.length (locNames s.locs)) s (tidyL vs) with
   |(s', vs') => if noLocL vs' = true then Q (pack vs') s'.heap s'.next else False
def bodyQ (E : TEnv) (rs : List ResultVar) (Q : AVal -> List (Name × AObj) -> Nat -> Prop) : Exit -> AState -> Prop
 | .ret, s => aret E rs Q s
 | .normal, s => aret E rs Q s
 | _, _ => False
def enter (ntmps : Nat) (args : List AVal) (heap : List (Name × AObj)) (next : Nat) : AState := ⟨args ++ List.replicate (ntmps - args.length) .undef, [], heap, next⟩
/-! ### Forgetting -/
def keepT (ts : List Nat) : Nat -> List AVal -> List AVal
 | _, [] => []
 | k, a :: r => (if ts.contains k = true then a else .undef) :: keepT ts (k + 1) r
def keepO (ls : List Nat) : List (Name × AObj) -> List (Name × AObj)
 | [] => []
 |(.loc i, o) :: r => if ls.contains i = true then (.loc i, o) :: keepO ls r else keepO ls r
 |(.out _, _) :: r => keepO ls r
/-- The slots ts and the objects ls alone. -/
def AState.keep (s : AState) (ts ls : List Nat) : AState := { s with tmps := keepT ts 0 s.tmps, locs := keepO ls s.locs }
theorem chkAll_rows {m c : FuncId -> Bool} {o : Nat -> RHint} {r r' : Bool} : ∀ x : Code, chkAll ⟨m, o, c, r⟩ x = chkAll ⟨m, o, c, r'⟩ x
 | .region _ _ _ => rfl
 | .seq x y => by simp only [chkAll]; rw [chkAll_rows x, chkAll_rows y]
 | .cond _ x y => by simp only [chkAll]; rw [chkAll_rows x, chkAll_rows y]
 | .block _ x => by simp only [chkAll]; rw [chkAll_rows x]
 | .loop x => by simp only [chkAll]; rw [chkAll_rows x]
 | .scope x => by simp only [chkAll]; rw [chkAll_rows x]
 | .skip | .exit _ | .ret | .label .. | .goto .. | .refuse .. | .rangeFunc .. => rfl
end Go.Tp

namespace Go.Tp
section
variable {P : Program} {E : TEnv} {G : Globs} {w : World} {R : Own} {N N' : Name -> Option Nat}
theorem RepObjs.remove : ∀ {os : List (Name × AObj)} {bs : List Nat} {n : Name} {o : AObj}, RepObjs w R N os bs -> aget n os = some o ->
  ∃ pre b b1 post bs', bs = pre ++ (b :: b1) ++ post /\ N n = some b /\ RepObj w R N o b b1 /\ RepObjs w R N (adel n os) bs' /\ bs'.Sublist (pre ++ post)
 | [], _, _, _, _, h => by simp [aget] at h
 |(m, x) :: os, _, n, o, ⟨b, b1, b2, e, hn, h1, h2⟩, hg => by
  subst e
  simp only [aget] at hg
  simp only [adel]
  split at hg
  ·rename_i hm
   subst hm
   simp at hg
   subst hg
   obtain ⟨bs', g1, g2⟩ := RepObjs.adel_sub m h2
   exact ⟨[], b, b1, b2, bs', by simp, hn, h1, by simpa using g1, by simpa using g2⟩
  rename_i hm
  rw [if_neg hm]
  obtain ⟨pre, c, c1, post, bs', f1, f2, f3, f4, f5⟩ := RepObjs.remove h2 hg
  refine ⟨b :: (b1 ++ pre), c, c1, post, b :: (b1 ++ bs'), by simp [f1], f2, f3, ⟨b, b1, bs', rfl, hn, h1, f4⟩, ?_⟩
  simp only [List.cons_append, List.append_assoc]
  exact (List.Sublist.append (.refl _) f5).cons_cons _
theorem frzL_append (n : Name) (ds : List Dat) : ∀ (l m : List AVal), frzL n ds (l ++ m) = frzL n ds l ++ frzL n ds m
 | [], m => by simp [frzL]
 | a :: l, m => by simp [frzL, frzL_append n ds l m]
theorem frzL_pad (n : Name) (ds : List Dat) (cs : List AVal) (k : Nat) : frzL n ds (cs ++ List.replicate k .undef) = frzL n ds cs ++ List.replicate k .undef := by
 rw [frzL_append]
 congr 1
 induction k with
 | zero => simp [frzL]
 | succ k ih => simp [List.replicate_succ, frzL, frz, ih]
theorem renL_append (n m : Name) : ∀ (l k : List AVal), renL n m (l ++ k) = renL n m l ++ renL n m k
 | [], k => by simp [renL]
 | a :: l, k => by simp [renL, renL_append n m l k]
theorem renL_pad (n m : Name) (cs : List AVal) (k : Nat) : renL n m (cs ++ List.replicate k .undef) = renL n m cs ++ List.replicate k .undef := by
 rw [renL_append]
 congr 1
 induction k with
 | zero => simp [renL]
 | succ k ih => simp [List.replicate_succ, renL, ren, ih]
theorem isP_frz {n : Name} {ds : List Dat} {a : AVal} (h : isP (frz n ds a) = true) : isP a = true := by
 cases a with
 | ptr m off => rfl
 | dat d => simpa [frz] using h
 | win m s off len =>
  simp only [frz] at h
  split at h <;> simp [isP] at h
 | _ => simp [frz, isP] at h
theorem isS_frz {n : Name} {ds : List Dat} {a : AVal} (h : isS (frz n ds a) = true) : isS a = true := by
 cases a with
 | ptr m off => simp only [frz] at h; split at h <;> simp [isS] at h
 | win m s off len => simp only [frz] at h; split at h <;> simp [isS] at h
 | own es' => rfl
 | dat d => simpa [frz] using h
 | _ => simp [frz, isS] at h
theorem bldSh_frz {n : Name} {ds : List Dat} {cs : List AVal} (h : bldSh (frzL n ds cs) = true) : bldSh cs = true := by
 obtain ⟨p, q, e, hp, hq⟩ := bldSh_iff.1 h
 match cs with
 | [] => simp [frzL] at e
 | [a] => simp [frzL] at e
 | [a, b] =>
  simp only [frzL, List.cons.injEq, and_true] at e
  obtain ⟨rfl, rfl⟩ := e
  exact bldSh_iff.2 ⟨a, b, rfl, isP_frz hp, isS_frz hq⟩
 | _ :: _ :: _ :: _ => simp [frzL] at e
theorem isP_ren {n m : Name} {a : AVal} (h : isP (ren n m a) = true) : isP a = true := by
 cases a with
 | ptr k off => rfl
 | dat d => simpa [ren] using h
 | win k s off len => simp only [ren] at h; split at h <;> simp [isP] at h
 | map k => simp only [ren] at h; split at h <;> simp [isP] at h
 | _ => simp [ren, isP] at h
theorem isS_ren {n m : Name} {a : AVal} (h : isS (ren n m a) = true) : isS a = true := by
 cases a with
 | ptr k off => simp only [ren] at h; split at h <;> simp [isS] at h
 | win k s off len => simp only [ren] at h; split at h <;> simp [isS] at h
 | map k => simp only [ren] at h; split at h <;> simp [isS] at h
 | own es' => rfl
 | dat d => simpa [ren] using h
 | _ => simp [ren, isS] at h
theorem bldSh_ren {n m : Name} {cs : List AVal} (h : bldSh (renL n m cs) = true) : bldSh cs = true := by
 obtain ⟨p, q, e, hp, hq⟩ := bldSh_iff.1 h
 match cs with
 | [] => simp [renL] at e
 | [a] => simp [renL] at e
 | [a, b] =>
  simp only [renL, List.cons.injEq, and_true] at e
  obtain ⟨rfl, rfl⟩ := e
  exact bldSh_iff.2 ⟨a, b, rfl, isP_ren hp, isS_ren hq⟩
 | _ :: _ :: _ :: _ => simp [renL] at e
theorem RepObjs.mapO {f : List AVal -> List AVal} (hsh : ∀ cs, bldSh (f cs) = true -> bldSh cs = true) (hpad : ∀ cs k, f (cs ++ List.replicate k .undef) = f cs ++ List.replicate k .undef) (hf : ∀ cs vs bs, RepVs w R N cs vs bs -> RepVs w R N' (f cs) vs bs) (hN : ∀ m b, N m = some b -> N' m = some b) :
  ∀ {os : List (Name × AObj)} {bs : List Nat}, RepObjs w R N os bs -> RepObjs w R N' (Tp.mapO f os) bs
 | [], _, h => h
 |(_, .cells _) :: _, _, ⟨b, b1, b2, e, hn, ⟨vs, el, sp, hb, hr, hR⟩, h2⟩ => ⟨b, b1, b2, e, hN _ _ hn, ⟨vs, el, sp, hb, by rw [← hpad]; exact hf _ _ _ hr, hR.1, fun h => hR.2 (hsh _ h)⟩, RepObjs.mapO hsh hpad hf hN h2⟩
 |(_, .map _) :: _, _, ⟨b, b1, b2, e, hn, h1, h2⟩ => ⟨b, b1, b2, e, hN _ _ hn, h1, RepObjs.mapO hsh hpad hf hN h2⟩
/-! #### Frozen -/
mutual
theorem frz_rep {n : Name} {ds : List Dat} {b : Nat} (hn : N n = some b) (hat : RepAt w R b 0 ds) : ∀ {a : AVal} {v : Value} {bs : List Nat}, RepV w R N a v bs -> RepV w R N (frz n ds a) v bs
 | .dat _, _, _, h => by simp only [frz]; exact h
 | .own _, _, _, h => by simp only [frz]; exact h
 | .ref _, _, _, h => by simp only [frz]; exact h
 | .ptr m off, _, _, h => by
  simp only [frz]
  split
  ·rename_i hm
   subst hm
   simp only [RepV] at h ⊢
   obtain ⟨h1, b', h2, h3⟩ := h
   rw [hn] at h2
   simp at h2
   subst h2
   exact ⟨h1, b, off, h3, by simpa using repAt_drop off hat⟩
  exact h
 | .map _, _, _, h => by simp only [frz]; exact h
 | .win m s off len, _, _, h => by
  simp only [frz]
  split
  ·simp only [RepV] at h ⊢; exact h.1
  exact h
 | .fn _ x y, _, _, h => by
  simp only [RepV, frz] at h ⊢
  obtain ⟨h1, vs, us, e, h2, h3⟩ := h
  exact ⟨h1, vs, us, e, frzL_rep hn hat (as := x) h2, frzL_rep hn hat (as := y) h3⟩
 | .agg cs, _, _, h => by simp only [RepV, frz] at h ⊢; obtain ⟨vs, e, h⟩ := h; exact ⟨vs, e, frzL_rep hn hat (as := cs) h⟩
 | .tup cs, _, _, h => by simp only [RepV, frz] at h ⊢; obtain ⟨vs, e, h⟩ := h; exact ⟨vs, e, frzL_rep hn hat (as := cs) h⟩
 | .undef, _, _, h => by simp only [frz]; exact h
theorem frzL_rep {n : Name} {ds : List Dat} {b : Nat} (hn : N n = some b) (hat : RepAt w R b 0 ds) : ∀ {as : List AVal} {vs : List Value} {bs : List Nat}, RepVs w R N as vs bs -> RepVs w R N (frzL n ds as) vs bs
 | [], _, _, h => by simp only [frzL]; exact h
 | a :: as, _, _, h => by
  simp only [RepVs, frzL] at h ⊢
  obtain ⟨v, vs', b1, b2, e1, e2, h1, h2⟩ := h
  exact ⟨v, vs', b1, b2, e1, e2, frz_rep hn hat (a := a) h1, frzL_rep hn hat (as := as) h2⟩
end
mutual
theorem ren_rep {n m : Name} {b : Nat} (hn : N n = some b) (hm : N m = some b) : ∀ {a : AVal} {v : Value} {bs : List Nat}, RepV w R N a v bs -> RepV w R N (ren n m a) v bs
 | .dat _, _, _, h => by simp only [ren]; exact h
 | .own _, _, _, h => by simp only [ren]; exact h
 | .ref _, _, _, h => by simp only [ren]; exact h
 | .ptr k off, _, _, h => by
  simp only [ren]
  split
  ·rename_i hk
   subst hk
   simp only [RepV] at h ⊢
   obtain ⟨h1, b', h2, h3⟩ := h
   rw [hn] at h2
   simp at h2
   subst h2
   exact ⟨h1, b, hm, h3⟩
  exact h
 | .map k, _, _, h => by
  simp only [ren]
  split
  ·rename_i hk
   subst hk
   simp only [RepV] at h ⊢
   obtain ⟨h1, b', h2, h3⟩ := h
   rw [hn] at h2
   simp at h2
   subst h2
   exact ⟨h1, b, hm, h3⟩
  exact h
 | .win k _ _ _, _, _, h => by
  simp only [ren]
  split
  ·rename_i hk
   subst hk
   simp only [RepV] at h ⊢
   obtain ⟨h1, b', cap, h2, h3⟩ := h
   rw [hn] at h2
   simp at h2
   subst h2
   exact ⟨h1, b, cap, hm, h3⟩
  exact h
 | .fn _ x y, _, _, h => by
  simp only [RepV, ren] at h ⊢
  obtain ⟨h1, vs, us, e, h2, h3⟩ := h
  exact ⟨h1, vs, us, e, renL_rep hn hm (as := x) h2, renL_rep hn hm (as := y) h3⟩
 | .agg cs, _, _, h => by simp only [RepV, ren] at h ⊢; obtain ⟨vs, e, h⟩ := h; exact ⟨vs, e, renL_rep hn hm (as := cs) h⟩
 | .tup cs, _, _, h => by simp only [RepV, ren] at h ⊢; obtain ⟨vs, e, h⟩ := h; exact ⟨vs, e, renL_rep hn hm (as := cs) h⟩
 | .undef, _, _, h => by simp only [ren]; exact h
theorem renL_rep {n m : Name} {b : Nat} (hn : N n = some b) (hm : N m = some b) : ∀ {as : List AVal} {vs : List Value} {bs : List Nat}, RepVs w R N as vs bs -> RepVs w R N (renL n m as) vs bs
 | [], _, _, h => by simp only [renL]; exact h
 | a :: as, _, _, h => by
  simp only [RepVs, renL] at h ⊢
  obtain ⟨v, vs', b1, b2, e1, e2, h1, h2⟩ := h
  exact ⟨v, vs', b1, b2, e1, e2, ren_rep hn hm (a := a) h1, renL_rep hn hm (as := as) h2⟩
end
/-- The cells of an object without ownership, as immutable cells. -/
theorem repAt_of_cells {b : Nat} {vs : Array Value} {el : TypeId} (hb : w.heap[b]? = some (.cells vs el (0, 0))) {R' : Own} (hR : ∀ x, ¬ R' b x) : ∀ {ds : List Dat} {us : List Value} (k : Nat), ∀ (rest : List Value), RepCs w R' us ds -> vs.toList.drop k = us ++ rest -> RepAt w R' b k ds
 | [], _, _, _, _, _ => trivial
 | d :: ds, [], _, _, h, _ => h.elim
 | d :: ds, u :: us, k, rest, h, e => by
  have hk : vs.toList[k]? = some u := by
   have := List.getElem?_drop (xs := vs.toList) (i := k) (j := 0)
   rw [e] at this
   simpa using this.symm
  refine ⟨⟨u, ?_, hR k, h.1⟩, repAt_of_cells hb hR (k + 1) rest h.2 ?_⟩
  ·rw [cell_of_row w b k vs el (0, 0) hb]; simpa using hk
  rw [← List.drop_drop, e]; rfl
theorem prep1_sound {fz : Bool} {n : Name} {s s' : AState} {args args' : List AVal} (h : prep1 fz n s args = some (s', args')) {tmps : List Value} {cargs : List Value} {bsV bsT bsL bsH bsF : List Nat}
  (hr : RelB G w R N tmps s (.tuple cargs.toArray) (.tup args) bsV bsT bsL bsH bsF) :
  ∃ R' N' bsV' bsT' bsL' bsH', RelB G w R' N' tmps s' (.tuple cargs.toArray) (.tup args') bsV' bsT' bsL' bsH' bsF /\ Keep w R w R' bsF /\ (∀ o b, N (.out o) = some b -> N' (.out o) = some b) /\ (∀ i, N' (.loc i) = N (.loc i)) := by
 have hv := hr.val
 simp only [RepV] at hv
 obtain ⟨cs0, ec, hargs⟩ := hv
 simp at ec
 subst ec
 unfold prep1 at h
 split at h
 ·rename_i i cs hg
  obtain ⟨pre, b, b1, post, bsD, e1, hN, hobj, hdel, hsub⟩ := RepObjs.remove hr.locs hg
  have hnd := hr.nodup
  subst e1
  split at h
  ·
   ·rename_i ds hds0
    have hds : datCells (unOwnL cs) = some ds := by
     unfold frzCells at hds0
     split at hds0
     ·exact hds0
     simp at hds0
    simp at h
    obtain ⟨rfl, rfl⟩ := h
    obtain ⟨vs, el, sp, hblk, hrr, hR⟩ := hobj
    obtain ⟨us1, us2, c1, c2, hvs, hb12, hrr1, _⟩ := repVs_split hrr
    let R' : Own := fun c x => R c x /\ c ≠ b
    have hst : Step w R w R' := ⟨rfl, rfl, rfl, Nat.le_refl _, fun c _ hc => ⟨rfl, fun x h' => hc x h'.1⟩, fun c x _ hc => ⟨fun h' => hc h'.1, rfl⟩, fun _ _ => rfl⟩
    have hk : ∀ bs : List Nat, b ∉ bs -> Keep w R w R' bs := fun bs hb => ⟨hst, fun c hc _ => ⟨rfl, fun x hx => ⟨hx, fun e => hb (e ▸ hc)⟩⟩⟩
    have hbn : b ∉ bsV /\ b ∉ bsT /\ b ∉ pre ++ post /\ b ∉ bsH /\ b ∉ bsF := by
     have hc : (bsV ++ (bsT ++ ((pre ++ (b :: b1) ++ post) ++ (bsH ++ bsF)))).Perm (b :: (bsV ++ (bsT ++ (pre ++ post ++ (b1 ++ (bsH ++ bsF)))))) := by
      rw [List.perm_iff_count]; intro q; simp only [List.count_append, List.count_cons]; omega
     have := (List.nodup_cons.1 (hc.nodup_iff.1 hnd)).1
     simp at this ⊢
     simp [this]
    obtain ⟨n1, n2, n3, n4, n5⟩ := hbn
    have hcs := (datCells_rep (unOwnL_rep hrr1) hds).1
    have hat : RepAt w R' b 0 ds := repAt_of_cells hblk (fun x h' => h'.2 rfl) 0 us2 (hcs.step hst) (by simpa using hvs)
    refine ⟨R', N, bsV, bsT, bsD, bsH, ⟨?_, ?_, ?_, ?_, ?_, hr.next, fun g cs hg => (hr.glob g cs hg).step hst, hr.frame⟩, hk bsF n5, fun _ _ h => h, fun _ => rfl⟩
    ·simp only [RepV]; exact ⟨cargs, rfl, frzL_rep hN hat (hargs.keep (hk bsV n1))⟩
    ·exact frzL_rep hN hat (hr.tmps.keep (hk bsT n2))
    ·exact RepObjs.mapO (fun _ => bldSh_frz) (frzL_pad _ _) (fun cs vs bs hr => frzL_rep hN hat hr) (fun _ _ h => h) (hdel.keep (hk bsD (fun hc => n3 (hsub.subset hc))))
    ·exact hr.heap.keep (hk bsH n4)
    refine List.Nodup.sublist ?_ hnd
    refine List.Sublist.append (.refl _) (List.Sublist.append (.refl _) (List.Sublist.append (hsub.trans ?_) (.refl _)))
    rw [List.append_assoc]
    exact List.Sublist.append (.refl _) (List.sublist_append_right _ _)
  -- handed over
  split at h
  ·rename_i hno
   simp at h
   obtain ⟨rfl, rfl⟩ := h
   have hfresh : N (.out s.next) = none := by
    cases hn : N (.out s.next) with
    | none => rfl
    | some c => have := hr.next _ _ hn; omega
   let N' : Name -> Option Nat := setN N (.out s.next) b
   have hext : ∀ m c, N m = some c -> N' m = some c := fun m c hm => by
    simp only [N', setN]; split
    ·rename_i e; rw [e, hfresh] at hm; simp at hm
    exact hm
   have hn1 : N' (.loc i) = some b := hext _ _ hN
   have hn2 : N' (.out s.next) = some b := by simp [N', setN]
   have hrl : ∀ cs vs bs, RepVs w R N cs vs bs -> RepVs w R N' (renL (.loc i) (.out s.next) cs) vs bs := fun cs vs bs h => renL_rep hn1 hn2 (h.ext hext)
   refine ⟨R, N', bsV, bsT, bsD, b :: (b1 ++ bsH), ⟨?_, hrl _ _ _ hr.tmps, RepObjs.mapO (fun _ => bldSh_ren) (renL_pad _ _) hrl hext hdel, ?_, ?_, ?_, hr.glob, hr.frame⟩, keep_refl _, fun o c h => hext _ _ h, fun i => by simp [N', setN]⟩
   ·simp only [RepV]; exact ⟨cargs, rfl, hrl _ _ _ hargs⟩
   ·refine ⟨b, b1, bsH, rfl, by simp [outs, N', setN], ?_, hr.heap.ext (fun m c hm => ?_)⟩
    ·obtain ⟨vs, el, sp, hblk, hrr, hR⟩ := hobj
     have hrr2 := hrl _ _ _ hrr
     rw [renL_pad] at hrr2
     exact ⟨vs, el, sp, hblk, hrr2.reN (by rw [noLocL_pad]; exact hno) (fun _ => rfl), hR.1, fun hb => hR.2 (bldSh_ren hb)⟩
    cases m with
    | loc j => simp [outs] at hm
    | out k => exact hext _ _ hm
   ·have hp : (bsV ++ (bsT ++ ((pre ++ post) ++ ((b :: (b1 ++ bsH)) ++ bsF)))).Perm (bsV ++ (bsT ++ ((pre ++ (b :: b1) ++ post) ++ (bsH ++ bsF)))) := by
     rw [List.perm_iff_count]; intro q; simp only [List.count_append, List.count_cons]; omega
    refine List.Nodup.sublist ?_ (hp.nodup_iff.2 hnd)
    exact List.Sublist.append (.refl _) (List.Sublist.append (.refl _) (List.Sublist.append hsub (.refl _)))
   intro o c hc
   simp only [N', setN] at hc
   split at hc
   ·rename_i e; simp at e; subst e; simp
   have := hr.next o c hc; simp; omega
  simp at h
 ·rename_i i es hg
  obtain ⟨pre, b, b1, post, bsD, e1, hN, hobj, hdel, hsub⟩ := RepObjs.remove hr.locs hg
  have hnd := hr.nodup
  subst e1
  simp at h
  obtain ⟨rfl, rfl⟩ := h
  have hfresh : N (.out s.next) = none := by
   cases hn : N (.out s.next) with
   | none => rfl
   | some c => have := hr.next _ _ hn; omega
  let N' : Name -> Option Nat := setN N (.out s.next) b
  have hext : ∀ m c, N m = some c -> N' m = some c := fun m c hm => by
   simp only [N', setN]; split
   ·rename_i e; rw [e, hfresh] at hm; simp at hm
   exact hm
  have hn1 : N' (.loc i) = some b := hext _ _ hN
  have hn2 : N' (.out s.next) = some b := by simp [N', setN]
  have hrl : ∀ cs vs bs, RepVs w R N cs vs bs -> RepVs w R N' (renL (.loc i) (.out s.next) cs) vs bs := fun cs vs bs h => renL_rep hn1 hn2 (h.ext hext)
  refine ⟨R, N', bsV, bsT, bsD, b :: (b1 ++ bsH), ⟨?_, hrl _ _ _ hr.tmps, RepObjs.mapO (fun _ => bldSh_ren) (renL_pad _ _) hrl hext hdel, ?_, ?_, ?_, hr.glob, hr.frame⟩, keep_refl _, fun o c h => hext _ _ h, fun i => by simp [N', setN]⟩
  ·simp only [RepV]; exact ⟨cargs, rfl, hrl _ _ _ hargs⟩
  ·refine ⟨b, b1, bsH, rfl, by simp [outs, N', setN], hobj, hr.heap.ext (fun m c hm => ?_)⟩
   cases m with
   | loc j => simp [outs] at hm
   | out k => exact hext _ _ hm
  ·have hp : (bsV ++ (bsT ++ ((pre ++ post) ++ ((b :: (b1 ++ bsH)) ++ bsF)))).Perm (bsV ++ (bsT ++ ((pre ++ (b :: b1) ++ post) ++ (bsH ++ bsF)))) := by
    rw [List.perm_iff_count]; intro q; simp only [List.count_append, List.count_cons]; omega
   refine List.Nodup.sublist ?_ (hp.nodup_iff.2 hnd)
   exact List.Sublist.append (.refl _) (List.Sublist.append (.refl _) (List.Sublist.append hsub (.refl _)))
  intro o c hc
  simp only [N', setN] at hc
  split at hc
  ·rename_i e; simp at e; subst e; simp
  have := hr.next o c hc; simp; omega
 simp at h
end
end Go.Tp

namespace Go.Tp
section
variable {P : Program} {E : TEnv} {G : Globs} {H : Hints} {w : World} {R : Own} {N : Name -> Option Nat}
theorem prep_sound {fz : Bool} : ∀ {ns : List Name} {s s' : AState} {args args' : List AVal} {R : Own} {N : Name -> Option Nat}, prep fz ns s args = (s', args') -> ∀ {tmps : List Value} {cargs : List Value} {bsV bsT bsL bsH bsF : List Nat},
  RelB G w R N tmps s (.tuple cargs.toArray) (.tup args) bsV bsT bsL bsH bsF ->
  ∃ R' N' bsV' bsT' bsL' bsH', RelB G w R' N' tmps s' (.tuple cargs.toArray) (.tup args') bsV' bsT' bsL' bsH' bsF /\ Keep w R w R' bsF /\ (∀ o b, N (.out o) = some b -> N' (.out o) = some b) /\ (∀ i, N' (.loc i) = N (.loc i))
 | [], s, s', args, args', R, N, h, tmps, cargs, bsV, bsT, bsL, bsH, bsF, hr => by
  simp [prep] at h
  obtain ⟨rfl, rfl⟩ := h
  exact ⟨R, N, bsV, bsT, bsL, bsH, hr, keep_refl _, fun _ _ h => h, fun _ => rfl⟩
 | n :: ns, s, s', args, args', R, N, h, tmps, cargs, bsV, bsT, bsL, bsH, bsF, hr => by
  simp only [prep] at h
  split at h
  ·rename_i s1 args1 h1
   obtain ⟨R1, N1, v1, t1, l1, g1, hr1, hk1, hN1, hM1⟩ := prep1_sound h1 hr
   obtain ⟨R2, N2, v2, t2, l2, g2, hr2, hk2, hN2, hM2⟩ := prep_sound h hr1
   exact ⟨R2, N2, v2, t2, l2, g2, hr2, ⟨hk1.step.trans hk2.step, fun b hb hlt => ⟨rfl, fun off h => (hk2.same b hb hlt).2 off ((hk1.same b hb hlt).2 off h)⟩⟩, fun o b h => hN2 o b (hN1 o b h), fun i => (hM2 i).trans (hM1 i)⟩
  exact prep_sound h hr
theorem takeArgs_keeps (G : Globs) : ∀ (xs : List Operand) (s : AState), (takeArgs G s xs).2.locs = s.locs /\ (takeArgs G s xs).2.heap = s.heap /\ (takeArgs G s xs).2.next = s.next
 | [], s => ⟨rfl, rfl, rfl⟩
 | x :: r, s => by
  simp only [takeArgs]
  obtain ⟨h1, h2, h3⟩ := takeArgs_keeps G r (dropOwn s (some 0) [x])
  obtain ⟨k1, k2, k3⟩ := drop_locs s (some 0) [x]
  exact ⟨h1.trans k1, h2.trans k2, h3.trans k3⟩
theorem takeArgs_sound {act : Act} (hg : ∀ g cs, G g = some cs -> GlobAt w R g cs) : ∀ (xs : List Operand) {s : AState} {bsT rest : List Nat}, RepVs w R N s.tmps act.tmps.toList bsT -> (bsT ++ rest).Nodup ->
  ∃ bsM bsT', RepVs w R N (takeArgs G s xs).1 (xs.map act.eval) bsM /\ RepVs w R N (takeArgs G s xs).2.tmps act.tmps.toList bsT' /\ (bsM ++ (bsT' ++ rest)).Nodup
 | [], s, bsT, rest, ht, hnd => ⟨[], bsT, by simpa [takeArgs] using repVs_nil, ht, by simpa using hnd⟩
 | x :: r, s, bsT, rest, ht, hnd => by
  obtain ⟨bM, bT, h1, h2, h3, _⟩ := args_take ht hg (some 0) [x] rest hnd
  obtain ⟨b0, e0, hb0⟩ := repVs_one h1
  simp only [evalArgs, if_true, List.cons.injEq, and_true] at e0
  subst e0
  have hnd2 : (bT ++ (bM ++ rest)).Nodup := by
   have hp : (bT ++ (bM ++ rest)).Perm (bM ++ (bT ++ rest)) := List.perm_append_comm_assoc _ _ _
   exact hp.nodup_iff.2 h3
  obtain ⟨bM2, bT2, k1, k2, k3⟩ := takeArgs_sound hg r h2 hnd2
  simp only [takeArgs]
  refine ⟨bM ++ bM2, bT2, repVs_cons hb0 k1, k2, ?_⟩
  have hp : ((bM ++ bM2) ++ (bT2 ++ rest)).Perm (bM2 ++ (bT2 ++ (bM ++ rest))) := by
   rw [List.perm_iff_count]; intro q; simp only [List.count_append]; omega
  exact hp.nodup_iff.2 k3
/-- The state that a call finds, its arguments in hand. -/
theorem acallee_sound (hE : E.Ok P) {c : Call} {s s2 : AState} {f : FuncId} {args : List AVal} (h : acallee E G H c s = some (f, args, s2)) {act : Act} {bsT bsL bsH bsF : List Nat}
  (hr : RelB G w R N act.tmps.toList s undef .undef [] bsT bsL bsH bsF) (o : Oper) (ho : o.op = .call c) :
  ∃ cargs : List Value, (execOp act.eval o).run P w = .ok (.enter f cargs.toArray) w /\ ∃ R' N' bsA bsT' bsL' bsH', RelB G w R' N' act.tmps.toList s2 (.tuple cargs.toArray) (.tup args) bsA bsT' bsL' bsH' bsF ∧
   Keep w R w R' bsF /\ (∀ o b, N (.out o) = some b -> N' (.out o) = some b) /\ noLocL args = true /\ (∀ i, N' (.loc i) = N (.loc i)) := by
 obtain ⟨callee, cargs0, argTypes⟩ := c
 cases callee with
 | builtin _ => simp [acallee] at h
 | invoke _ _ => simp [acallee] at h
 | value fo =>
  simp only [acallee] at h
  obtain ⟨bf, hfv⟩ := eval_raw hr.tmps hr.glob fo
  generalize haf : aeval G s fo = af at h hfv
  split at h
  ·rename_i g first captured
   simp only [RepV] at hfv
   obtain ⟨_, vf, uf, ef, hfirst, hcap⟩ := hfv
   split at h
   ·rename_i hfn
    obtain ⟨fn, hf1, hf2, hf3⟩ := hE.fn g hfn
    -- the operands
    have hnd0 : (bsT ++ (bsL ++ (bsH ++ bsF))).Nodup := by simpa using hr.nodup
    have hops : ∃ (vs : List AVal) (s1 : AState) (bsM bsT' : List Nat), (if H.moves g = true then takeArgs G s cargs0.toList else (evalArgs G s none 0 cargs0.toList, s)) = (vs, s1) ∧
      RepVs w R N vs (cargs0.toList.map act.eval) bsM /\ RepVs w R N s1.tmps act.tmps.toList bsT' /\ (bsM ++ (bsT' ++ (bsL ++ (bsH ++ bsF)))).Nodup /\ s1.locs = s.locs /\ s1.heap = s.heap /\ s1.next = s.next := by
     split
     ·obtain ⟨bsM, bsT', k1, k2, k3⟩ := takeArgs_sound hr.glob cargs0.toList hr.tmps hnd0
      obtain ⟨q1, q2, q3⟩ := takeArgs_keeps G cargs0.toList s
      exact ⟨_, _, bsM, bsT', rfl, k1, k2, k3, q1, q2, q3⟩
     exact ⟨_, _, [], bsT, rfl, args_copy hr.tmps hr.glob none 0 _ (by simp), hr.tmps, by simpa using hnd0, rfl, rfl, rfl⟩
    obtain ⟨vs, s1, bsM, bsT', hpair, hvs, ht1, hnd1, q1, q2, q3⟩ := hops
    rw [hpair] at h
    simp only at h
    generalize hprep : prep (!H.caps g) (needed s1 (first ++ vs ++ captured)) s1 (first ++ vs ++ captured) = pr at h
    obtain ⟨s3, args3⟩ := pr
    ·simp only at h
     split at h
     ·rename_i hno
      simp only [Option.some.injEq, Prod.mk.injEq] at h
      obtain ⟨rfl, rfl, rfl⟩ := h
      have hall : RepVs w R N (first ++ vs ++ captured) (vf ++ cargs0.toList.map act.eval ++ uf) bsM := by
       have := repVs_append (repVs_append hfirst hvs) hcap
       simpa using this
      have hr1 : RelB G w R N act.tmps.toList s1 (.tuple (vf ++ cargs0.toList.map act.eval ++ uf).toArray) (.tup (first ++ vs ++ captured)) bsM bsT' bsL bsH bsF :=
       ⟨by simp only [RepV]; exact ⟨_, rfl, hall⟩, ht1, by rw [q1]; exact hr.locs, by rw [q2]; exact hr.heap, hnd1, by rw [q3]; exact hr.next, hr.glob, hr.frame⟩
      obtain ⟨R2, N2, v2, t2, l2, g2, hr2, hk2, hN2, hM2⟩ := prep_sound hprep hr1
      refine ⟨vf ++ cargs0.toList.map act.eval ++ uf, ?_, R2, N2, v2, t2, l2, g2, hr2, hk2, hN2, hno, hM2⟩
      have hbody : fn.body.isNone = false := by cases hb : fn.body <;> simp_all
      have hb2 : ¬ fn.body = none := by intro hb; simp [hb] at hbody
      have hn2 : ¬ fn.name = "runtime.NumGoroutine" := by simpa using hf3
      simp [execOp, ho, resolve, ef, Deferred.ofValue, invoke, callFunc, hf1, hn2, hb2]
     simp at h
   simp at h
  simp at h
end
end Go.Tp

namespace Go.Tp
section
variable {P : Program} {E : TEnv} {G : Globs} {H : Hints}
/-! ### Copies -/
theorem unOwnL_idem : ∀ (l : List AVal), unOwnL (unOwnL l) = unOwnL l
 | [] => rfl
 | a :: r => by cases a <;> simp [unOwnL, unOwnL_idem r]
theorem mkAgg_cases (cs : List AVal) : (∃ ds, mkAgg cs = .dat (.agg ds)) ∨ mkAgg cs = .agg cs := by
 unfold mkAgg
 split
 ·exact .inl ⟨_, rfl⟩
 exact .inr rfl
theorem unOwn_mkAgg (cs : List AVal) : unOwn (mkAgg (unOwnL cs)) = mkAgg (unOwnL cs) := by
 rcases mkAgg_cases (unOwnL cs) with ⟨ds, h⟩ | h
 ·rw [h]; rfl
 rw [h]
 show mkAgg (unOwnL (unOwnL cs)) = _
 rw [unOwnL_idem, h]
theorem unOwnT_idem : ∀ (l : List AVal), unOwnT (unOwnT l) = unOwnT l
 | [] => rfl
 | a :: r => by
  cases a with
  | agg cs =>
   simp only [unOwnT]
   rcases mkAgg_cases (unOwnL cs) with ⟨ds, h⟩ | h
   ·rw [h]; simp [unOwnT, unOwnT_idem r]
   have := unOwn_mkAgg cs
   rw [h] at this ⊢
   simp only [unOwnT, unOwnT_idem r]
   rw [unOwnL_idem, h]
  | _ => simp [unOwnT, unOwnT_idem r]
theorem unOwn_idem (a : AVal) : unOwn (unOwn a) = unOwn a := by
 cases a with
 | agg cs => exact unOwn_mkAgg cs
 | tup vs => simp [unOwn, unOwnT_idem]
 | _ => rfl
/-! ### Objects, ownership aside -/
def ObjS (x y : Option AObj) : Prop := y = x ∨ ∃ cs cs', x = some (.cells cs) /\ y = some (.cells cs') /\ unOwnL cs' = unOwnL cs
theorem ObjS.refl (x : Option AObj) : ObjS x x := .inl rfl
theorem ObjS.trans {x y z : Option AObj} (h : ObjS x y) (k : ObjS y z) : ObjS x z := by
 rcases h with rfl | ⟨cs, cs', rfl, rfl, h⟩
 ·exact k
 rcases k with rfl | ⟨ds, ds', e1, rfl, k⟩
 ·exact .inr ⟨cs, cs', rfl, rfl, h⟩
 simp at e1; subst e1; exact .inr ⟨cs, ds', rfl, rfl, k.trans h⟩
theorem unOwnL_take : ∀ (n : Nat) (l : List AVal), unOwnL (takeL n l) = takeL n (unOwnL l)
 | 0, l => by simp [takeL, unOwnL]
 | n + 1, [] => by simp [takeL, unOwnL]
 | n + 1, a :: l => by cases a <;> simp [takeL, unOwnL, unOwnL_take n l]
theorem unOwnL_drop : ∀ (n : Nat) (l : List AVal), unOwnL (dropL n l) = dropL n (unOwnL l)
 | 0, l => by simp [dropL]
 | n + 1, [] => by simp [dropL, unOwnL]
 | n + 1, a :: l => by cases a <;> simp [dropL, unOwnL, unOwnL_drop n l]
theorem unOwnL_length : ∀ (l : List AVal), (unOwnL l).length = l.length
 | [] => rfl
 | a :: l => by cases a <;> simp [unOwnL, unOwnL_length l]
theorem unOwnL_get : ∀ (l : List AVal) (k : Nat), (unOwnL l)[k]? = (l[k]?).map (fun a => match a with | .own es => .dat (.slice es) | .agg _ => .undef | .tup _ => .undef | a => a)
 | [], _ => by simp [unOwnL]
 | a :: l, 0 => by cases a <;> simp [unOwnL]
 | a :: l, k + 1 => by cases a <;> simp [unOwnL, unOwnL_get l k]
theorem loadCells_copy (i : TI) (off : Nat) (cs : List AVal) : loadCells i off (unOwnL cs) = loadCells i off cs := by
 unfold loadCells
 split
 ·dsimp only
  rw [← unOwnL_drop, ← unOwnL_take, unOwnL_idem, unOwnL_length]
 rw [unOwnL_get]
 cases h : cs[off]? with
 | none => rfl
 | some a => cases a <;> rfl
theorem loadCells_sim {i : TI} {off : Nat} {cs cs' : List AVal} (h : unOwnL cs' = unOwnL cs) : loadCells i off cs' = loadCells i off cs := by
 rw [← loadCells_copy i off cs', h, loadCells_copy]
theorem aop_sim {op : Op} (hq : quietKind op = true) (vals : List AVal) {x y : Option AObj} (h : ObjS x y) : aop E false op vals y = aop E false op vals x := by
 rcases h with rfl | ⟨cs, cs', rfl, rfl, h⟩
 ·rfl
 cases op <;> simp only [quietKind, Bool.false_eq_true] at hq <;> simp only [aop]
 ·
  rename_i t _
  unfold aLoad
  split
  ·rfl
  ·cases E.ty t with
   | none => rfl
   | some i => simp only [Bool.false_and, Bool.false_eq_true, if_false, loadCells_sim h]
  rfl
 ·
  simp only [aLookup, mapEntries]
 rename_i c
 split at hq <;> simp at hq
 ·rename_i hc
  simp only [hc, aBuiltin]
  split
  ·rfl
  rename_i t _ _
  unfold aLen
  split
  ·rfl
  ·rfl
  ·rfl
  ·rfl
  ·cases E.desc t with
   | none => rfl
   | some d => cases d <;> rfl
  rfl
 rename_i hc
 simp only [hc, aBuiltin]
/-! ### What an operation reads -/
def boolOf : AVal -> Option (Option Bool)
 | .dat (.flat (.bool b)) => some (some b)
 | .tup [] => some none
 | _ => none
theorem boolOf_unOwn (a : AVal) : boolOf (unOwn a) = boolOf a := by
 cases a with
 | agg cs =>
  show boolOf (mkAgg (unOwnL cs)) = none
  rcases mkAgg_cases (unOwnL cs) with ⟨ds, h⟩ | h <;> rw [h] <;> rfl
 | tup cs => cases cs with
  | nil => rfl
  | cons x r => cases x <;> rfl
 | _ => rfl
theorem wantedA_eq (all : List Oper) (s : AState) (g : Option (Nat × Bool)) :
  wantedA all s g = (match g with
   | none => some true
   | some (j, want) => (match all[j]? with
    | some o => (match o.dst with
     | some t => (boolOf (getT s.tmps t)).map (· == some want)
     | none => none)
    | none => none)) := by
 unfold wantedA
 cases g with
 | none => rfl
 | some jw =>
  obtain ⟨j, want⟩ := jw
  dsimp only
  cases all[j]? with
  | none => rfl
  | some o =>
   dsimp only
   cases o.dst with
   | none => rfl
   | some t =>
    dsimp only
    unfold boolOf
    split <;> simp_all
/-- The slots that an operation looks at hold the same, ownership aside. -/
def SimT (o : Oper) (all : List Oper) (s s' : AState) : Prop := ∀ t ∈ o.looksAt all.toArray, unOwn (getT s'.tmps t) = unOwn (getT s.tmps t)
theorem wantedA_sim {o : Oper} {all : List Oper} {s s' : AState} (h : SimT o all s s') : wantedA all s' o.guard = wantedA all s o.guard := by
 rw [wantedA_eq, wantedA_eq]
 cases hg : o.guard with
 | none => rfl
 | some jw =>
  obtain ⟨j, want⟩ := jw
  dsimp only
  cases hj : all[j]? with
  | none => rfl
  | some o' =>
   dsimp only
   cases hd : o'.dst with
   | none => rfl
   | some t =>
    dsimp only
    have : t ∈ o.looksAt all.toArray := by simp [Oper.looksAt, hg, hj, hd]
    have h1 := h t this
    rw [← boolOf_unOwn (getT s'.tmps t), h1, boolOf_unOwn]
theorem opsL_sub {o : Op} {x : Operand} (h : x ∈ opsL o) : x ∈ o.operands := by
 cases o
 case call c => simp [opsL, Op.operands, Call.operands] at h ⊢; exact .inr h
 case slice t x l h' m =>
  simp [opsL, Op.operands] at h ⊢
  rcases h with h | h | h
  ·exact .inl h
  ·exact .inr (.inl h)
  exact .inr (.inr (.inl h))
 all_goals (simp [opsL, Op.operands] at h ⊢ <;> exact h)
theorem aeval_sim {s s' : AState} {x : Operand} (h : ∀ t, x = .tmp t -> unOwn (getT s'.tmps t) = unOwn (getT s.tmps t)) : unOwn (aeval G s' x) = unOwn (aeval G s x) := by
 cases x with
 | tmp t => exact h t rfl
 | const v => rfl
 | global g => rfl
 | func f => rfl
theorem evalArgs_sim {s s' : AState} : ∀ (xs : List Operand) (k : Nat), (∀ t, Operand.tmp t ∈ xs -> unOwn (getT s'.tmps t) = unOwn (getT s.tmps t)) -> evalArgs G s' none k xs = evalArgs G s none k xs
 | [], _, _ => rfl
 | x :: r, k, h => by
  simp only [evalArgs, reduceCtorEq, if_false]
  rw [aeval_sim (fun t ht => h t (by simp [ht])), evalArgs_sim r (k + 1) (fun t ht => h t (by simp [ht]))]
theorem looksAt_opsL {o : Oper} {all : List Oper} {t : Tmp} (h : Operand.tmp t ∈ opsL o.op) : t ∈ o.looksAt all.toArray := by
 have := opsL_sub h
 unfold Oper.looksAt
 refine List.mem_append_left _ (List.mem_filterMap.2 ⟨.tmp t, by simpa using this, rfl⟩)
/-- The objects that stay, ownership aside. -/
def SimO (fh : Bool) (s s' : AState) : Prop := ∀ n, okN fh n = true -> ObjS (s.obj n) (s'.obj n)
theorem SimO.of_eq {fh : Bool} {s s' : AState} (h : s'.locs = s.locs) (hh : fh = true -> s'.heap = s.heap) : SimO fh s s' := fun n hn => by
 cases n with
 | loc i => simp only [AState.obj, h]; exact .refl _
 | out k => simp only [okN] at hn; simp only [AState.obj, hh hn]; exact .refl _
theorem SimO.trans {fh : Bool} {s s' s'' : AState} (h : SimO fh s s') (k : SimO fh s' s'') : SimO fh s s'' := fun n hn => (h n hn).trans (k n hn)
theorem lookedAt_sim {fh : Bool} {s s' : AState} {o : Op} {vals : List AVal} (hl : SimO fh s s') (hp : lookPure fh (looks o vals) = true) : ObjS (lookedAt s o vals) (lookedAt s' o vals) := by
 unfold lookedAt
 cases hn : looks o vals with
 | none => exact .refl _
 | some n =>
  refine hl n ?_
  rw [hn] at hp
  cases n with
  | loc i => rfl
  | out k => simpa [lookPure, okN] using hp
theorem stepQ_sim {fh : Bool} {all : List Oper} {o : Oper} {s s' : AState} (h : SimT o all s s') (hl : SimO fh s s') : stepQ E G fh all o s' = stepQ E G fh all o s := by
 unfold stepQ
 rw [wantedA_sim h, evalArgs_sim (s := s) (s' := s') (opsL o.op) 0 (fun t ht => h t (looksAt_opsL ht))]
 cases wantedA all s o.guard with
 | none => rfl
 | some b =>
  dsimp only
  split
  ·split
   ·rfl
   cases isCall o.op with
   | some _ => rfl
   | none =>
    dsimp only
    split
    ·rename_i hp
     simp only [Bool.and_eq_true] at hp
     rw [aop_sim hp.1 _ (lookedAt_sim hl hp.2)]
    rfl
  rfl
theorem aop_none {op : Op} (hq : quietKind op = true) {vals : List AVal} {n : Name} (hn : looks op vals = some n) : aop E false op vals none = none := by
 unfold looks at hn
 split at hn <;> simp [quietKind] at hq hn
 ·simp [aop, aLoad]
 ·simp only [aop, aLookup]
  split
  ·rename_i heq
   simp only [List.cons.injEq] at heq
   obtain ⟨rfl, _⟩ := heq
   split
   ·simp [mapEntries]
   rfl
  rfl
 have e : ∀ t, aLen E t [.map n] none = none := by
  intro t
  simp only [aLen, nzL, nz]
  cases E.desc t with
  | none => rfl
  | some d => cases d <;> rfl
 subst hn
 simp only [aop, aBuiltin]
 split
 ·rfl
 exact e _
/-- What is read stays. -/
theorem stepQ_more {fh : Bool} {all : List Oper} {o : Oper} {s s' : AState} {a : AVal} (h : SimT o all s s') (hl : ∀ n ob, s.obj n = some ob -> s'.obj n = some ob) (hy : stepQ E G fh all o s = some a) : stepQ E G fh all o s' = some a := by
 unfold stepQ at hy ⊢
 rw [wantedA_sim h, evalArgs_sim (s := s) (s' := s') (opsL o.op) 0 (fun t ht => h t (looksAt_opsL ht))]
 cases hw : wantedA all s o.guard with
 | none => rw [hw] at hy; exact hy
 | some b =>
  rw [hw] at hy
  dsimp only at hy ⊢
  split
  ·rename_i hb
   rw [if_pos hb] at hy
   split
   ·rename_i ha
    rw [if_pos ha] at hy
    exact hy
   rename_i ha
   rw [if_neg ha] at hy
   cases hc : isCall o.op with
   | some _ => rw [hc] at hy; exact hy
   | none =>
    rw [hc] at hy
    dsimp only at hy ⊢
    split
    ·rename_i hp
     rw [if_pos hp] at hy
     simp only [Bool.and_eq_true] at hp
     have e : lookedAt s' o.op (evalArgs G s none 0 (opsL o.op)) = lookedAt s o.op (evalArgs G s none 0 (opsL o.op)) := by
      unfold lookedAt at hy ⊢
      cases hlk : looks o.op (evalArgs G s none 0 (opsL o.op)) with
      | none => rfl
      | some n =>
       rw [hlk] at hy
       dsimp only at hy ⊢
       cases hob : s.obj n with
       | some ob => exact hl n ob hob
       | none => rw [hob, aop_none hp.1 hlk] at hy; simp at hy
     rw [e]
     exact hy
    rename_i hp
    rw [if_neg hp] at hy
    exact hy
  rename_i hb
  rw [if_neg hb] at hy
  exact hy
/-! ### Slots -/
theorem getT_set_ne {l : List AVal} {d t : Nat} {v : AVal} (h : d ≠ t) : getT (l.set d v) t = getT l t := by
 unfold getT; rw [List.getElem?_set_ne h]
theorem getT_put_ne {s : AState} {dst : Option Tmp} {t : Nat} {v : AVal} (h : dst ≠ some t) : getT (s.put dst v).tmps t = getT s.tmps t := by
 cases dst with
 | none => rfl
 | some d => exact getT_set_ne (fun e => h (by rw [e]))
theorem put_comm {s : AState} {d1 d2 : Option Tmp} {v1 v2 : AVal} (h : ∀ d, d1 = some d -> d2 ≠ some d) : (s.put d1 v1).put d2 v2 = (s.put d2 v2).put d1 v1 := by
 cases d1 with
 | none => rfl
 | some a =>
  cases d2 with
  | none => rfl
  | some b =>
   have hne : a ≠ b := fun e => h a rfl (by rw [e])
   simp only [AState.put]
   rw [List.set_comm _ _ hne]
theorem put_heap {s : AState} {dst : Option Tmp} {v : AVal} {h : List (Name × AObj)} {n : Nat} : ({ s.put dst v with heap := h, next := n } : AState) = ({ s with heap := h, next := n } : AState).put dst v := by
 cases dst <;> rfl
theorem simT_put {o : Oper} {all : List Oper} {s : AState} {dst : Option Tmp} {v : AVal} (h : ∀ d, dst = some d -> d ∉ o.looksAt all.toArray) : SimT o all s (s.put dst v) := by
 intro t ht
 rw [getT_put_ne]
 intro e
 exact h t e ht
theorem SimT.trans {o : Oper} {all : List Oper} {s s' s'' : AState} (h : SimT o all s s') (k : SimT o all s' s'') : SimT o all s s'' := fun t ht => (k t ht).trans (h t ht)
/-! ### Calls -/
theorem aeval_put {s : AState} {dst : Option Tmp} {v : AVal} {x : Operand} (h : ∀ d, dst = some d -> x ≠ .tmp d) : aeval G (s.put dst v) x = aeval G s x := by
 cases x with
 | tmp t => exact getT_put_ne (fun e => h t e rfl)
 | _ => rfl
theorem dropOwn_put {s : AState} {dst : Option Tmp} {v : AVal} {x : Operand} (h : ∀ d, dst = some d -> x ≠ .tmp d) : dropOwn (s.put dst v) (some 0) [x] = (dropOwn s (some 0) [x]).put dst v := by
 cases x with
 | tmp t =>
  cases dst with
  | none => rfl
  | some d =>
   have hne : d ≠ t := fun e => h d rfl (by rw [e])
   simp only [dropOwn, List.getElem?_cons_zero, AState.put]
   rw [getT_set_ne hne, List.set_comm _ _ hne]
 | _ => simp [dropOwn]
theorem takeArgs_put {dst : Option Tmp} {v : AVal} : ∀ (xs : List Operand) (s : AState), (∀ d, dst = some d -> Operand.tmp d ∉ xs) -> takeArgs G (s.put dst v) xs = ((takeArgs G s xs).1, (takeArgs G s xs).2.put dst v)
 | [], s, _ => rfl
 | x :: r, s, h => by
  have hx : ∀ d, dst = some d -> x ≠ .tmp d := fun d hd e => h d hd (by simp [e])
  simp only [takeArgs]
  rw [dropOwn_put hx, takeArgs_put r _ (fun d hd hm => h d hd (by simp [hm])), aeval_put hx]
theorem evalArgs_put {dst : Option Tmp} {v : AVal} : ∀ (xs : List Operand) (k : Nat) (s : AState), (∀ d, dst = some d -> Operand.tmp d ∉ xs) -> evalArgs G (s.put dst v) none k xs = evalArgs G s none k xs
 | [], _, _, _ => rfl
 | x :: r, k, s, h => by
  simp only [evalArgs, reduceCtorEq, if_false]
  rw [aeval_put (fun d hd e => h d hd (by simp [e])), evalArgs_put r (k + 1) s (fun d hd hm => h d hd (by simp [hm]))]
theorem acalleeD_put {c : Call} {s : AState} {dst : Option Tmp} {v : AVal} (h : ∀ d, dst = some d -> Operand.tmp d ∉ c.operands) :
  acalleeD E G H c (s.put dst v) = (acalleeD E G H c s).map fun x => (x.1, x.2.1, x.2.2.put dst v) := by
 obtain ⟨callee, args, argTypes⟩ := c
 cases callee with
 | builtin _ => rfl
 | invoke _ _ => rfl
 | value f =>
  have hf : ∀ d, dst = some d -> f ≠ .tmp d := fun d hd e => h d hd (by simp [Call.operands, e])
  have ha : ∀ d, dst = some d -> Operand.tmp d ∉ args.toList := fun d hd hm => h d hd (by simp at hm; simp [Call.operands, hm])
  simp only [acalleeD]
  rw [aeval_put hf]
  split
  ·rename_i g first captured
   split
   ·split
    ·rw [takeArgs_put _ _ ha]
     dsimp only
     split <;> rfl
    rw [evalArgs_put _ _ _ ha]
    dsimp only
    split <;> rfl
   rfl
  rfl
theorem dropOwn_simA {s : AState} {x : Operand} (t : Nat) : unOwn (getT (dropOwn s (some 0) [x]).tmps t) = unOwn (getT s.tmps t) := by
 cases x with
 | tmp u =>
  simp only [dropOwn, List.getElem?_cons_zero]
  by_cases hu : u = t
  ·subst hu
   by_cases hl : u < s.tmps.length
   ·have : getT (s.tmps.set u (unOwn (getT s.tmps u))) u = unOwn (getT s.tmps u) := by
     conv => lhs; unfold getT
     simp only [List.getElem?_set_self hl]
     rfl
    rw [this, unOwn_idem]
   rw [List.set_eq_of_length_le (Nat.le_of_not_lt hl)]
  rw [getT_set_ne hu]
 | _ => simp [dropOwn]
theorem takeArgs_simA : ∀ (xs : List Operand) (s : AState) (t : Nat), unOwn (getT (takeArgs G s xs).2.tmps t) = unOwn (getT s.tmps t)
 | [], _, _ => rfl
 | x :: r, s, t => by
  simp only [takeArgs]
  exact (takeArgs_simA r _ t).trans (dropOwn_simA t)
theorem acalleeD_simA {c : Call} {s s2 : AState} {f : FuncId} {args : List AVal} (h : acalleeD E G H c s = some (f, args, s2)) : (∀ t, unOwn (getT s2.tmps t) = unOwn (getT s.tmps t)) /\ s2.locs = s.locs := by
 unfold acalleeD at h
 split at h
 ·split at h
  ·split at h
   ·dsimp only at h
    split at h
    ·split at h
     ·simp at h
      rw [← h.2.2]
      exact ⟨takeArgs_simA _ _, (takeArgs_keeps G _ s).1⟩
     simp at h
    split at h
    ·simp at h
     rw [← h.2.2]
     exact ⟨fun _ => rfl, rfl⟩
    simp at h
   simp at h
  simp at h
 simp at h
theorem acalleeD_heap {c : Call} {s s2 : AState} {f : FuncId} {args : List AVal} (h : acalleeD E G H c s = some (f, args, s2)) : s2.heap = s.heap := by
 unfold acalleeD at h
 split at h
 ·split at h
  ·split at h
   ·dsimp only at h
    split at h
    ·split at h
     ·simp at h
      rw [← h.2.2]
      exact (takeArgs_keeps G _ s).2.1
     simp at h
    split at h
    ·simp at h
     rw [← h.2.2]
    simp at h
   simp at h
  simp at h
 simp at h
theorem acalleeD_sim {c : Call} {s s2 : AState} {f : FuncId} {args : List AVal} (h : acalleeD E G H c s = some (f, args, s2)) (o : Oper) (all : List Oper) : SimT o all s s2 /\ s2.locs = s.locs :=
 ⟨fun t _ => (acalleeD_simA h).1 t, (acalleeD_simA h).2⟩
/-! ### Appends -/
theorem appSlot_spec {o : Op} {t : Tmp} (h : appSlot o = some t) : ∃ c r, o = .call c /\ c.callee = .builtin .append /\ c.args.toList = .tmp t :: r := by
 unfold appSlot at h
 split at h
 ·rename_i c
  split at h
  ·split at h
   ·simp at h; subst h; exact ⟨c, _, rfl, by assumption, by assumption⟩
   simp at h
  simp at h
 simp at h
theorem looks_apz {args : Array Operand} {tys : Array TypeId} {vals : List AVal} {es : List Dat} {x : AVal} (h : apz vals = [.own es, x]) : looks (.call ⟨.builtin .append, args, tys⟩) vals = none := by
 match vals, h with
 | [a, y], h => cases a <;> first | rfl | (simp [apz, ownz] at h)
 | [], h => simp [apz] at h
 | [_], h => simp [apz] at h
 | _ :: _ :: _ :: _, h => simp [apz] at h
theorem append_keep {o : Op} {t : Tmp} (h : appSlot o = some t) {vals : List AVal} {ob : Option AObj} {out : Out} (ho : aop E false o vals ob = some out) : out.eff = .keep /\ looks o vals = none := by
 obtain ⟨c, r, rfl, hc, _⟩ := appSlot_spec h
 obtain ⟨callee, args, tys⟩ := c
 simp only at hc
 subst hc
 simp only [aop, aBuiltin] at ho
 split at ho
 ·simp at ho
 split at ho
 ·split at ho
  ·unfold aAppend at ho
   split at ho
   ·rename_i heq
    split at ho
    ·simp only [Bool.false_and, Bool.false_eq_true, if_false] at ho
     split at ho
     ·split at ho
      ·simp at ho; exact ⟨by rw [← ho], looks_apz heq⟩
      simp at ho
     simp at ho
    simp at ho
   ·split at ho
    ·simp at ho
    simp at ho
   simp at ho
  unfold aAppendStr at ho
  split at ho
  ·rename_i heq
   split at ho
   ·split at ho
    ·split at ho
     ·split at ho
      ·simp at ho; exact ⟨by rw [← ho], looks_apz heq⟩
      simp at ho
     simp at ho
    simp at ho
   simp at ho
  simp at ho
 simp at ho
theorem moved_append {o : Op} {t : Tmp} (h : appSlot o = some t) : mvQ false o = some 0 /\ ∃ r, opsL o = .tmp t :: r := by
 obtain ⟨c, r, rfl, hc, ha⟩ := appSlot_spec h
 obtain ⟨callee, args, tys⟩ := c
 simp only at hc ha
 subst hc
 exact ⟨rfl, r, by simp [opsL, ha]⟩
theorem evalArgs_put' {dst : Option Tmp} {v : AVal} (mv : Option Nat) : ∀ (xs : List Operand) (k : Nat) (s : AState), (∀ d, dst = some d -> Operand.tmp d ∉ xs) -> evalArgs G (s.put dst v) mv k xs = evalArgs G s mv k xs
 | [], _, _, _ => rfl
 | x :: r, k, s, h => by
  simp only [evalArgs]
  rw [aeval_put (fun d hd e => h d hd (by simp [e])), evalArgs_put' mv r (k + 1) s (fun d hd hm => h d hd (by simp [hm]))]
/-- What an append does. -/
theorem astep_append {o : Oper} {t : Tmp} (h : appSlot o.op = some t) {s s' : AState} (hs : astep E G false false o s = some s') : ∃ v, s' = ({ s with tmps := s.tmps.set t (unOwn (getT s.tmps t)) } : AState).put o.dst v ∧
  ∀ (dst : Option Tmp) (u : AVal), (∀ d, dst = some d -> Operand.tmp d ∉ opsL o.op) -> (∀ d, dst = some d -> o.dst ≠ some d) -> astep E G false false o (s.put dst u) = some (s'.put dst u) := by
 obtain ⟨hm, r, hops⟩ := moved_append h
 unfold astep at hs
 split at hs
 ·simp at hs
 rename_i out hout
 obtain ⟨hk, hl⟩ := append_keep h hout
 unfold astepOut at hs
 rw [hk] at hs
 simp only [Option.some.injEq] at hs
 have hd : dropOwn s (mvQ false o.op) (opsL o.op) = { s with tmps := s.tmps.set t (unOwn (getT s.tmps t)) } := by
  rw [hm, hops]; simp [dropOwn]
 rw [hd] at hs
 refine ⟨out.val, hs.symm, ?_⟩
 intro dst u h1 h2
 have hne : ∀ d, dst = some d -> d ≠ t := fun d hd' e => h1 d hd' (by rw [hops, e]; simp)
 have hd2 : dropOwn (s.put dst u) (mvQ false o.op) (opsL o.op) = ({ s with tmps := s.tmps.set t (unOwn (getT s.tmps t)) } : AState).put dst u := by
  rw [hm, hops]
  simp only [dropOwn, List.getElem?_cons_zero]
  cases dst with
  | none => rfl
  | some d =>
   simp only [AState.put]
   rw [getT_set_ne (hne d rfl), List.set_comm _ _ (hne d rfl)]
 have hlk : ∀ s' : AState, lookedAt s' o.op (evalArgs G s (mvQ false o.op) 0 (opsL o.op)) = none := fun s' => by unfold lookedAt; rw [hl]
 unfold astep
 rw [evalArgs_put' _ _ _ _ h1, hlk, ← hlk s, hout]
 simp only [astepOut, hk, hd2, Option.some.injEq]
 rw [← hs]
 exact put_comm h2
theorem putO_put {s : AState} {dst : Option Tmp} {v : AVal} {n : Name} {o : AObj} : (s.put dst v).putO n o = (s.putO n o).put dst v := by
 cases n <;> cases dst <;> rfl
theorem putO_tmps {s : AState} {n : Name} {o : AObj} : (s.putO n o).tmps = s.tmps := by cases n <;> rfl
theorem putO_next {s : AState} {n : Name} {o : AObj} : (s.putO n o).next = s.next := by cases n <;> rfl
theorem put_obj {s : AState} {dst : Option Tmp} {v : AVal} {n : Name} : (s.put dst v).obj n = s.obj n := by
 cases n <;> cases dst <;> rfl
theorem showTk_spec {fh : Bool} {all : List Oper} {i : Nat} {r : List Nat} {s s' : AState} (h : showTk fh all (i :: r) s = some s') : ∃ o T u t n off cs es es2, all[i]? = some o /\ o.op = .load T (.tmp u) /\ o.dst = some t /\ o.guard = none /\ getT s.tmps u = .ptr n off ∧
  okN fh n = true /\ s.obj n = some (.cells cs) /\ cs[off]? = some (.own es) /\ getT s.tmps t = .dat (.slice es2) ∧
  showTk fh all r (({ s with tmps := s.tmps.set t (.own es) } : AState).putO n (.cells (putL off [.dat (.slice es)] cs))) = some s' := by
 simp only [showTk] at h
 split at h
 ·rename_i o ho
  split at h
  ·rename_i T u t hop hd hg
   split at h
   ·rename_i n off hu
    split at h
    ·rename_i hok
     split at h
     ·rename_i cs hob
      split at h
      ·rename_i es hes
       split at h
       ·rename_i es2 ht
        exact ⟨o, T, u, t, n, off, cs, es, es2, ho, hop, hd, hg, hu, hok, hob, hes, ht, h⟩
       simp at h
      simp at h
     simp at h
    simp at h
   simp at h
  simp at h
 simp at h
theorem showTk_put {fh : Bool} {all : List Oper} {dst : Option Tmp} {v : AVal} : ∀ (tk : List Nat) (s s' : AState), (∀ i ∈ tk, ∀ o, all[i]? = some o -> o.dst ≠ none -> dst ≠ o.dst) -> (∀ i ∈ tk, ∀ o T u, all[i]? = some o -> o.op = .load T (.tmp u) -> dst ≠ some u) ->
  showTk fh all tk s = some s' -> showTk fh all tk (s.put dst v) = some (s'.put dst v)
 | [], s, s', _, _, h => by simp [showTk] at h ⊢; rw [h]
 | i :: r, s, s', h1, h2, h => by
  obtain ⟨o, T, u, t, n, off, cs, es, es2, ho, hop, hd, hg, hu, hok, hob, hes, ht, hrest⟩ := showTk_spec h
  have hdt : dst ≠ some t := by have := h1 i (by simp) o ho (by simp [hd]); rwa [hd] at this
  have hdu := h2 i (by simp) o T u ho hop
  have ih := showTk_put (v := v) r _ _ (fun i hi => h1 i (by simp [hi])) (fun i hi => h2 i (by simp [hi])) hrest
  simp only [showTk, ho, hop, hd, hg]
  rw [getT_put_ne hdu, hu]
  dsimp only
  rw [if_pos hok, put_obj, hob]
  dsimp only
  rw [hes]
  dsimp only
  rw [getT_put_ne hdt, ht]
  dsimp only
  rw [← ih]
  congr 1
  rw [← putO_put]
  congr 1
  cases dst with
  | none => rfl
  | some d =>
   have hne : d ≠ t := fun e => hdt (by rw [e])
   simp only [AState.put]
   rw [List.set_comm _ _ hne]
theorem putL_copy : ∀ (off : Nat) (cs : List AVal) (es : List Dat), cs[off]? = some (.own es) -> unOwnL (putL off [.dat (.slice es)] cs) = unOwnL cs
 | _, [], _, h => by simp at h
 | 0, a :: cs, es, h => by simp at h; subst h; cases cs <;> simp [putL, unOwnL]
 | off + 1, a :: cs, es, h => by
  simp at h
  have := putL_copy off cs es h
  cases a <;> simp [putL, unOwnL, this]
theorem aget_aset_sim : ∀ {os : List (Name × AObj)} {n : Name} {cs cs' : List AVal}, aget n os = some (.cells cs) -> unOwnL cs' = unOwnL cs -> ∀ m, ObjS (aget m os) (aget m (aset n (.cells cs') os))
 | [], _, _, _, h, _, _ => by simp [aget] at h
 |(k, x) :: os, n, cs, cs', h, hu, m => by
  simp only [aget] at h
  simp only [aset]
  split
  ·rename_i hk
   rw [if_pos hk] at h
   simp at h
   subst h
   simp only [aget]
   split
   ·exact .inr ⟨cs, cs', rfl, rfl, hu⟩
   exact .refl _
  rename_i hk
  rw [if_neg hk] at h
  simp only [aget]
  split
  ·exact .refl _
  exact aget_aset_sim h hu m
theorem putO_sim {fh : Bool} {s : AState} {tmps : List AVal} {n : Name} {cs cs' : List AVal} (h : s.obj n = some (.cells cs)) (hu : unOwnL cs' = unOwnL cs) : SimO fh s (({ s with tmps := tmps } : AState).putO n (.cells cs')) := by
 intro m _
 cases n with
 | loc i =>
  cases m with
  | loc j => simp only [AState.obj, AState.putO] at h ⊢; exact aget_aset_sim h hu _
  | out j => simp only [AState.obj, AState.putO]; exact .refl _
 | out i =>
  cases m with
  | loc j => simp only [AState.obj, AState.putO]; exact .refl _
  | out j => simp only [AState.obj, AState.putO] at h ⊢; exact aget_aset_sim h hu _
theorem showTk_sim {fh fh' : Bool} {all : List Oper} : ∀ (tk : List Nat) (s s' : AState), showTk fh all tk s = some s' -> SimO fh' s s' /\ s'.next = s.next /\ ∀ t, (∀ i ∈ tk, ∀ o, all[i]? = some o -> o.dst ≠ some t) -> getT s'.tmps t = getT s.tmps t
 | [], s, s', h => by simp [showTk] at h; subst h; exact ⟨.of_eq rfl (fun _ => rfl), rfl, fun _ _ => rfl⟩
 | i :: r, s, s', h => by
  obtain ⟨o, T, u, t, n, off, cs, es, es2, ho, hop, hd, hg, hu, hok, hob, hes, ht, hrest⟩ := showTk_spec h
  obtain ⟨h1, h3, h4⟩ := showTk_sim r _ _ hrest
  refine ⟨SimO.trans (putO_sim hob (putL_copy off cs es hes)) h1, by rw [h3, putO_next], fun t' ht' => ?_⟩
  rw [h4 t' (fun j hj => ht' j (by simp [hj])), putO_tmps]
  have hne : t ≠ t' := fun e => ht' i (by simp) o ho (by rw [hd, e])
  exact getT_set_ne hne
theorem tkFor_sub {all : List Oper} {t : Tmp} : ∀ {tk : List Nat} {i : Nat}, i ∈ tkFor all t tk -> i ∈ tk /\ ∃ o, all[i]? = some o /\ o.dst = some t
 | [], _, h => by simp [tkFor] at h
 | j :: r, i, h => by
  simp only [tkFor] at h
  split at h
  ·rename_i o ho
   split at h
   ·rename_i hd
    rcases List.mem_cons.1 h with rfl | h
    ·exact ⟨by simp, o, ho, hd⟩
    obtain ⟨h1, h2⟩ := tkFor_sub h; exact ⟨by simp [h1], h2⟩
   obtain ⟨h1, h2⟩ := tkFor_sub h; exact ⟨by simp [h1], h2⟩
  obtain ⟨h1, h2⟩ := tkFor_sub h; exact ⟨by simp [h1], h2⟩
theorem chkSlots_spec {ops : Array Oper} {h : RHint} (hc : chkSlots ops h = true) {i : Nat} (hi : i ∈ h.nw.toList ++ h.tk) {o : Oper} (ho : ops[i]? = some o) : ∀ {j : Nat} {l : Bool} {q : Oper}, (j, l) ∈ h.pre -> j ≠ i -> ops[j]? = some q ->
  (∃ d, o.dst = some d /\ q.dst ≠ some d /\ (l = false -> d ∉ q.looksAt ops)) /\ ∀ T u, o.op = .load T (.tmp u) -> q.dst ≠ some u ∨ ∃ e ∈ o.after, Region.binds .any e = true /\ e.on = j := by
 intro j l q hj hne hq
 unfold chkSlots at hc
 have h1 := List.all_eq_true.1 hc i hi
 rw [ho] at h1
 simp only [Bool.and_eq_true] at h1
 have h2 := List.all_eq_true.1 h1.2.2 (j, l) hj
 simp only [Bool.or_eq_true, beq_iff_eq, hne, false_or, hq, Bool.and_eq_true] at h2
 obtain ⟨h3, h4⟩ := h2
 constructor
 ·cases hd : o.dst with
  | none => rw [hd] at h3; simp at h3
  | some d =>
   rw [hd] at h3
   simp only [Bool.and_eq_true, Bool.or_eq_true] at h3
   refine ⟨d, rfl, by simpa using h3.1, fun hl => ?_⟩
   rcases h3.2 with h5 | h5
   ·rw [hl] at h5; simp at h5
   simpa using h5
 intro T u hop
 rw [hop] at h4
 simp only [Bool.or_eq_true] at h4
 rcases h4 with h4 | h4
 ·exact .inl (by simpa using h4)
 obtain ⟨e, he1, he2⟩ := Array.any_eq_true'.1 h4
 simp only [Bool.and_eq_true, beq_iff_eq] at he2
 exact .inr ⟨e, he1, he2.1, he2.2⟩
theorem isCall_op {o : Op} {c : Call} (h : isCall o = some c) : o = .call c := by
 unfold isCall at h
 split at h
 ·split at h
  ·simp at h
  simp at h; rw [h]
 simp at h
end
end Go.Tp
