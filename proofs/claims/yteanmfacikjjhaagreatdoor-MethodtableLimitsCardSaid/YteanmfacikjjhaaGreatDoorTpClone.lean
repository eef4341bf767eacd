/- The generic layer: maps.Clone, slices.Clone of a row and slices.Delete of a whole row, by the shelf's contracts. -/
import Derived.Test.YteanmfacikjjhaaGreatDoorTpLast
import Derived.Shelf.SlMaps.Clone
import Derived.Shelf.SlicesE.Clone
import Derived.Shelf.SlicesE.Delete
namespace Go.Tp
open Go.Proofs Go.Shelf Go.RowKit Go.Maps

/-- Cells of data. -/
def dCells : List AVal → Bool
  | [] => true
  | .dat (.flat _) :: r => dCells r
  | .dat (.slice _) :: r => dCells r
  | .ref _ :: r => dCells r
  | _ => false

theorem dCells_bs {w : World} {R : Own} {N : Name → Option Nat} : ∀ {l : List AVal} {vs : List Value} {bs : List Nat}, dCells l = true → RepVs w R N l vs bs → bs = [] ∧ okCells l = true
  | [], vs, bs, _, h => ⟨(repVs_nil_inv h).2, rfl⟩
  | a :: l, vs, bs, hd, h => by
    obtain ⟨v, vs', b1, b2, rfl, rfl, h1, h2⟩ := repVs_cons_inv h
    cases a with
    | dat d =>
      cases d with
      | flat u =>
        obtain ⟨rfl, h3⟩ := dCells_bs (l := l) hd h2
        simp only [RepV] at h1
        exact ⟨by simp [h1.1], by simp [okCells, okCell, h3]⟩
      | slice es =>
        obtain ⟨rfl, h3⟩ := dCells_bs (l := l) hd h2
        simp only [RepV] at h1
        exact ⟨by simp [h1.1], by simp [okCells, okCell, h3]⟩
      | agg cs => simp [dCells] at hd
    | ref cs =>
      obtain ⟨rfl, h3⟩ := dCells_bs (l := l) hd h2
      simp only [RepV] at h1
      exact ⟨by simp [h1.1], by simp [okCells, okCell, h3]⟩
    | _ => simp [dCells] at hd

/-! ### What they do -/
def cloneMX (args : List AVal) (heap : Heap) (next : Nat) : Option XRes :=
  match args with
  | [.map (.out m)] => (match agetF (.out m) heap with
    | some (.map es) => some ⟨.map (.out next), (.out next, .map es) :: heap, next + 1⟩
    | _ => none)
  | _ => none

/-- sz: an element's cells; by: its bytes. -/
def cloneSX (sz by_ : Nat) (args : List AVal) (heap : Heap) (next : Nat) : Option XRes :=
  match args with
  | [.dat (.flat (.slice none 0 0))] => some ⟨.dat (.flat (.slice none 0 0)), heap, next⟩
  | [.win (.out m) s off len] => (match agetF (.out m) heap with
    | some (.cells cs) => (match Nat.beq s sz && Nat.ble (off + len * s) cs.length && dCells (takeL (len * s) (dropL off cs)) && (!(bldSh (takeL (len * s) (dropL off cs)))) && Nat.ble (len * by_) 140737488355328 && Nat.ble len 4294967296 with
      | true => some ⟨.win (.out next) sz 0 len, (.out next, .cells (takeL (len * s) (dropL off cs))) :: heap, next + 1⟩
      | false => none)
    | _ => none)
  | _ => none

def delAllX (sz : Nat) (args : List AVal) (heap : Heap) (next : Nat) : Option XRes :=
  match args with
  | [.win (.out m) s 0 len, .dat (.flat (.int .i64 i)), .dat (.flat (.int .i64 j))] => (match agetF (.out m) heap with
    | some (.cells _) => (match Nat.beq s sz && Nat.ble 1 len && decide (i = 0) && decide (j = len) && Nat.ble len 4294967296 with
      | true => some ⟨.dat (.slice []), asetF (.out m) (.cells []) heap, next⟩
      | false => none)
    | _ => none)
  | _ => none

section
variable {P : Program} {ρ : Ren} {G : Globs}

theorem keep_below2 {w w' : World} {R R' : Own} (h : Below w.heap.size w w') (hR : ∀ b off, b < w.heap.size → (R' b off ↔ R b off)) (bs : List Nat) : Keep w R w' R' bs :=
  ⟨⟨h.os, h.tape, h.output, h.size, fun b hb hno => ⟨h.block b hb, fun off hr => hno off ((hR b off hb).1 hr)⟩, fun b off hb hno => ⟨fun hr => hno ((hR b off hb).1 hr), World.cell?_of_block (a := ⟨b, off, none⟩) (h.block b hb)⟩, fun b hb => rowSize_same (h.block b hb)⟩,
    fun b _ hb => ⟨h.block b hb, fun off hr => (hR b off hb).2 hr⟩⟩

theorem setN_ext {N : Name → Option Nat} {next b : Nat} (hnx : ∀ o b, N (.out o) = some b → o < next) : ∀ m c, N m = some c → setN N (.out next) b m = some c := fun m c hm => by
  have hne : m ≠ .out next := by
    rintro rfl
    have := hnx next c hm
    omega
  simp [setN, hne, hm]

theorem outs_ext {N N' : Name → Option Nat} (h : ∀ m c, N m = some c → N' m = some c) : ∀ m c, outs N m = some c → outs N' m = some c := fun m c hm => by
  cases m with
  | loc i => simp [outs] at hm
  | out o => exact h _ _ hm

theorem c_cloneM (L : SlLaysW.n5 P ρ) {args : List AVal} {heap : Heap} {next : Nat} {r : XRes} (h : cloneMX args heap next = some r) : ACalls P G (ρ.f 5) args heap next (XQ r) := by
  unfold cloneMX at h
  split at h
  rotate_left
  · simp at h
  rename_i m
  split at h
  rotate_left
  · simp at h
  rename_i es hm
  simp only [Option.some.injEq] at h
  subst h
  rw [agetF_eq] at hm
  intro w R N cargs bsA bsH bsF hargs hheap hnd hnx hglob hF
  obtain ⟨v0, r1, c0, d1, rfl, rfl, h0, hr1⟩ := repVs_cons_inv hargs
  obtain ⟨rfl, rfl⟩ := repVs_nil_inv hr1
  simp only [RepV] at h0
  obtain ⟨rfl, b, hb, rfl⟩ := h0
  obtain ⟨pre, b', b1, post, rfl, hb', hobj, _⟩ := RepObjs.split hheap hm
  have : b' = b := by rw [hb] at hb'; simpa using hb'.symm
  subst this
  obtain ⟨rfl, hRb, ents, clock, hblk, hrm, hbo⟩ := hobj
  refine (AnyW.maps_Clone L b' ents clock w hblk).mono ?_
  rintro e w' ⟨rfl, rfl⟩
  have hk : ∀ bs, Keep w R (w.alloc (.map ents clock)) (R.more w.heap.size) bs := fun bs => keep_alloc (w := w) (R := R) (.map ents clock) (R' := R.more w.heap.size) (fun b off hb => Own.more_iff hb) bs
  have hext := setN_ext (N := N) (b := w.heap.size) hnx
  have hltH : ∀ q ∈ pre ++ ([b'] ++ post), q < w.heap.size := by
    intro q hq
    exact hheap.lt q (by simpa using hq)
  refine ⟨_, _, _, next + 1, R.more w.heap.size, setN N (.out next) w.heap.size, [], w.heap.size :: ([] ++ (pre ++ b' :: [] ++ post)), rfl, ⟨rfl, rfl, rfl⟩, ?_, ?_, ?_, ?_, hk bsF, fun o b h => hext _ _ h⟩
  · simp only [RepV]
    exact ⟨trivial, w.heap.size, by simp [outs, setN], rfl⟩
  · refine ⟨w.heap.size, [], _, rfl, by simp [outs, setN], ⟨rfl, .inl rfl, ents, clock, heap_alloc_new w _, hrm.step (hk []).step, hbo⟩, (hheap.keep (hk _)).ext (outs_ext hext)⟩
  · have h1 : (pre ++ (b' :: post) ++ bsF).Nodup := by simpa using hnd
    have h2 : w.heap.size ∉ pre ++ (b' :: post) ++ bsF := by
      intro hm
      rcases List.mem_append.1 hm with hm | hm
      · have := hltH _ (by simpa using hm); omega
      · have := hF _ hm; omega
    simpa using List.nodup_cons.2 ⟨h2, h1⟩
  · intro o c ho
    by_cases hne : o = next
    · omega
    · have : N (.out o) = some c := by simpa [setN, hne] using ho
      have := hnx o c this
      omega

theorem c_cloneS (L : SlLaysE0.n41 P ρ) (i0 : TypeInfo) (z : Value) (sz by_ : Nat) (hi : P.info? (ρ.t 23) = some i0) (hz0 : i0.zero = some z) (hz1 : i0.size = sz) (hz2 : i0.bytes = by_) (hzs : z.cells.size = sz) (hsz : 0 < sz)
    (z23 : ∀ w, (Go.sizeOf (ρ.t 23)).run P w = .ok sz w) {args : List AVal} {heap : Heap} {next : Nat} {r : XRes} (h : cloneSX sz by_ args heap next = some r) : ACalls P G (ρ.f 41) args heap next (XQ r) := by
  unfold cloneSX at h
  split at h
  · simp only [Option.some.injEq] at h
    subst h
    intro w R N cargs bsA bsH bsF hargs hheap hnd hnx hglob hF
    obtain ⟨v0, r1, c0, d1, rfl, rfl, h0, hr1⟩ := repVs_cons_inv hargs
    obtain ⟨rfl, rfl⟩ := repVs_nil_inv hr1
    simp only [RepV] at h0
    obtain ⟨rfl, h0⟩ := h0
    have hv : v0 = .slice none 0 0 := by
      have h0 : RepC w R v0 (.flat (.slice none 0 0)) := h0
      cases h0 with | flat _ => rfl
    subst hv
    refine (AnyE.slices_Clone_nil L 0 0 w).mono ?_
    rintro e w' ⟨rfl, rfl⟩
    exact ⟨_, _, _, next, R, N, [], bsH, rfl, ⟨rfl, rfl, rfl⟩, by simp only [RepV]; exact ⟨trivial, h0⟩, hheap, by simpa using hnd, hnx, ⟨Step.refl _ _, fun b _ _ => ⟨rfl, fun _ h => h⟩⟩, fun _ _ h => h⟩
  rotate_left
  · simp at h
  rename_i m s off len
  split at h
  rotate_left
  · simp at h
  rename_i cs hm
  split at h
  rotate_left
  · simp at h
  rename_i hc
  simp only [Bool.and_eq_true, Nat.ble_eq, Bool.not_eq_true', takeL_eq, dropL_eq] at hc
  obtain ⟨⟨⟨⟨⟨hs, hlen⟩, hdat⟩, hsh⟩, hby⟩, hlen2⟩ := hc
  have hs := Nat.eq_of_beq_eq_true hs
  subst hs
  simp only [Option.some.injEq, takeL_eq, dropL_eq] at h
  subst h
  rw [agetF_eq] at hm
  intro w R N cargs bsA bsH bsF hargs hheap hnd hnx hglob hF
  obtain ⟨v0, r1, c0, d1, rfl, rfl, h0, hr1⟩ := repVs_cons_inv hargs
  obtain ⟨rfl, rfl⟩ := repVs_nil_inv hr1
  simp only [RepV] at h0
  obtain ⟨rfl, b, cap, hb, rfl, hcap, _, hblt, hrow⟩ := h0
  have hltH0 := hheap.lt
  obtain ⟨pre, b', b1, post, e0, hb', hobj, _⟩ := RepObjs.split hheap hm
  have : b' = b := by rw [hb] at hb'; simpa using hb'.symm
  subst this
  obtain ⟨vs, elem, sp, hblk, hrv, hRv, _⟩ := hobj
  obtain ⟨us1, us2, q1, q2, hus, _, hr1, _⟩ := repVs_split hrv
  obtain ⟨p1, hp1⟩ := repVs_drop off hr1
  obtain ⟨p2, hp2⟩ := repVs_take (len * s) hp1
  obtain ⟨rfl, hok⟩ := dCells_bs hdat hp2
  have hul : us1.length = cs.length := hr1.length
  have hnl : ((us1.drop off).take (len * s)).length = len * s := by rw [List.length_take, List.length_drop]; omega
  have hnews : ∀ (j : Nat) (u : Value), ((us1.drop off).take (len * s))[j]? = some u → w.cell? ⟨b', off + j, none⟩ = some u := by
    intro j u hj
    have hj1 : j < len * s := by
      rcases Nat.lt_or_ge j (len * s) with h' | h'
      · exact h'
      · rw [List.getElem?_eq_none (by omega)] at hj; simp at hj
    rw [List.getElem?_take_of_lt hj1, List.getElem?_drop] at hj
    have hj2 : vs[off + j]? = some u := by
      rw [← Array.getElem?_toList, hus, List.getElem?_append_left (by omega)]
      exact hj
    simp [World.cell?, hblk, hj2]
  refine (AnyE.slices_Clone L i0 z s by_ hi hz0 hz1 hz2 hzs hsz z23 b' off len cap _ w hnl (by simp only [maxLen]; omega) hby hnews (okCells_one hp2 hok)).mono ?_
  rintro e w' ⟨v', rfl, ⟨_, hown⟩, hnn, hB⟩
  rcases hown with ⟨hv, _⟩ | ⟨g, cap', cur, rfl, hbase, hgb, g1, g2, g3, g4⟩
  · exact (hnn hv).elim
  obtain ⟨R', hR'⟩ : ∃ R' : Own, R' = fun b off => (b < w.heap.size ∧ R b off) ∨ b = g := ⟨_, rfl⟩
  have hk : ∀ bs, Keep w R w' R' bs := fun bs => keep_below2 hB (fun b off hb => by subst hR'; exact ⟨fun h => by rcases h with h | h; exact h.2; omega, fun h => .inl ⟨hb, h⟩⟩) bs
  have hext := setN_ext (N := N) (b := g) hnx
  have hgl : g < w'.heap.size := lt_of_heap hgb
  refine ⟨_, _, _, next + 1, R', setN N (.out next) g, [], g :: ([] ++ bsH), rfl, ⟨rfl, rfl, rfl⟩, ?_, ?_, ?_, ?_, hk bsF, fun o b h => hext _ _ h⟩
  · simp only [RepV]
    refine ⟨trivial, g, cap', by simp [outs, setN], rfl, g1, hsz, hgl, ?_⟩
    rw [Nat.zero_add, rowSize, hgb]
    exact g3.symm
  · refine ⟨g, [], _, rfl, by simp [outs, setN], ?_, (hheap.keep (hk _)).ext (outs_ext hext)⟩
    refine ⟨cur, _, (cap' - len) * s, hgb, ?_, fun j _ => by subst hR'; exact .inr rfl, fun hsh2 => by rw [hsh] at hsh2; simp at hsh2⟩
    have hc2 : cur.toList = ((us1.drop off).take (len * s)) ++ cur.toList.drop (len * s) := by rw [← g4, List.take_append_drop]
    rw [hc2]
    have h1 : RepVs w' R' (outs (setN N (.out next) g)) (List.take (len * s) (List.drop off cs)) ((us1.drop off).take (len * s)) [] := (hp2.keep (hk [])).ext (outs_ext hext)
    have h2 := repVs_undefs (w := w') (R := R') (N := outs (setN N (.out next) g)) (cur.toList.drop (len * s))
    have hl2 : (cur.toList.drop (len * s)).length = (cap' - len) * s := by
      rw [List.length_drop, Array.length_toList, g3, Nat.sub_mul]
    rw [hl2] at h2
    simpa using repVs_append h1 h2
  · have h1 : (bsH ++ bsF).Nodup := by simpa using hnd
    have h2 : g ∉ bsH ++ bsF := by
      intro hm
      rcases List.mem_append.1 hm with hm | hm
      · have := hltH0 _ hm; omega
      · have := hF _ hm; omega
    simpa using List.nodup_cons.2 ⟨h2, h1⟩
  · intro o c ho
    by_cases hne : o = next
    · omega
    · have : N (.out o) = some c := by simpa [setN, hne] using ho
      have := hnx o c this
      omega

/-! ### slices.Delete of all from i on -/
theorem run_clear_row (w : World) (t e ty e' : TypeId) (z : Value) (ht : P.underlying t = some (.slice e)) (hv : ∀ w, (zeroValue e).run P w = .ok z w) (h1 : ∀ v ∈ z.cells.toList, v.oneCell' = true) (hz : 0 < z.cells.size) (g off n c : Nat) (hn : 0 < n)
    (cur : Array Value) (hg : w.heap[g]? = some (.cells cur e' (0, 0))) (hfit : off + n * z.cells.size ≤ cur.size) :
    (Builtin.clear_ #[t] ty #[.slice (some ⟨g, off, none⟩) n c]).run P w = .ok (.tuple #[]) (w.setRow g (cur.toList.take off ++ (Builtin.zeroCells z.cells n).toList ++ cur.toList.drop (off + n * z.cells.size)).toArray) := by
  have hlen : (Builtin.zeroCells z.cells n).toList.length = n * z.cells.size := by simp [Builtin.zeroCells]
  have hone : ∀ u ∈ (Builtin.zeroCells z.cells n).toList, u.oneCell' = true := by
    intro u hu
    simp only [Builtin.zeroCells, Array.toList_map, List.mem_map] at hu
    obtain ⟨i, _, rfl⟩ := hu
    have hlt : i % z.cells.size < z.cells.size := Nat.mod_lt _ hz
    rw [getElem!_pos z.cells _ hlt]
    exact h1 _ (by simp)
  have hst := run_storeRow (P := P) (w := w) g off e' (Builtin.zeroCells z.cells n).toList cur hg (by rw [hlen]; exact hfit) hone
  rw [hlen] at hst
  obtain ⟨m, rfl⟩ : ∃ m, n = m + 1 := ⟨n - 1, by omega⟩
  simp [Builtin.clear_, run_underlying ht, hv, hst]

set_option maxHeartbeats 4000000 in
set_option maxRecDepth 1000000 in
theorem delete_tail (L : SlLaysE0.n45 P ρ) (i0 : TypeInfo) (z : Value) (sz : Nat) (hi0 : P.info? (ρ.t 23) = some i0) (hz1 : i0.size = sz) (hzs : z.cells.size = sz) (hsz : 0 < sz) (hzc : ∀ v ∈ z.cells.toList, v.oneCell' = true)
    (v23 : ∀ w, (zeroValue (ρ.t 23)).run P w = .ok z w) (z23 : ∀ w, (Go.sizeOf (ρ.t 23)).run P w = .ok sz w) (g cap i n : Nat) (cur : Array Value) (e' : TypeId) (w : World) (hg : w.heap[g]? = some (.cells cur e' (0, 0))) (hfit : n * sz ≤ cur.size) (hcap : n ≤ cap) (hm : n ≤ 9223372036854775807) (hin : i < n) :
    Calls P (ρ.f 45) #[.slice (some ⟨g, 0, none⟩) n cap, .int .i64 i, .int .i64 n] w fun e w' => e = .returned (.slice (some ⟨g, 0, none⟩) i cap) ∧ w' = w.drew.setRow g (cur.toList.take (i * sz) ++ (Builtin.zeroCells z.cells (n - i)).toList ++ cur.toList.drop (i * sz + (n - i) * sz)).toArray := by
  have mixed := L.mixed; have t0 := L.t0; have a0 := L.a0; have z0 := L.z0; have v0 := L.v0; have t3 := L.t3; have a3 := L.a3; have z3 := L.z3; have v3 := L.v3; have t4 := L.t4; have a4 := L.a4; have z4 := L.z4; have v4 := L.v4; have t22 := L.t22; have a22 := L.a22; have z22 := L.z22; have v22 := L.v22
  obtain ⟨A, hA⟩ : ∃ A : Addr, (if cap = n then some (⟨g, 0, none⟩ : Addr) else some ⟨g, n * sz, none⟩) = some A := by
    by_cases h : cap = n
    · exact ⟨_, by rw [if_pos h]⟩
    · exact ⟨_, by rw [if_neg h]⟩
  obtain ⟨W1, hW1⟩ : ∃ W1, W1 = w.drew := ⟨_, rfl⟩
  have hg1 : W1.heap[g]? = some (.cells cur e' (0, 0)) := by rw [hW1]; exact hg
  obtain ⟨ZL, hZL⟩ : ∃ ZL, ZL = (Builtin.zeroCells z.cells (n - i)).toList := ⟨_, rfl⟩
  have hcl : ∀ ty, (Builtin.clear_ #[ρ.t 22] ty #[.slice (some ⟨g, i * sz, none⟩) (n - i) (cap - i)]).run P W1 = .ok (.tuple #[]) (W1.setRow g (cur.toList.take (i * sz) ++ ZL ++ cur.toList.drop (i * sz + (n - i) * sz)).toArray) := by
    intro ty
    have k := run_clear_row W1 (ρ.t 22) (ρ.t 23) ty e' z t22 v23 hzc (by omega) g (i * sz) (n - i) (cap - i) (by omega) cur hg1 (by rw [hzs, ← Nat.add_mul]; exact Nat.le_trans (Nat.mul_le_mul_right _ (by omega)) hfit)
    rw [hzs] at k
    rw [hZL]
    exact k
  have hW : Hid (W1 = w.drew) := hW1
  have hic : i ≤ cap := by omega
  have X : Aside (w.heap[g]? = some (.cells cur e' (0, 0))) := hg
  have X2 : Aside (ZL = (Builtin.zeroCells z.cells (n - i)).toList) := hZL
  clear hW1 hg hg1 hZL hzc hzs v23
  obtain ⟨_, _, FG⟩ := L.f45
  go_enter FG, SlBodyN.n45_ntmps ρ
  go_wp2_with fail
  go_region_law_o (refine step_append_room rfl (.tmp 22) (.tmp 25) (ρ.t 22) rfl (ρ.t 23) i0 sz t22 hi0 hz1 g 0 i cap (by simp [Act.eval, Act.put]) A 0 (cap - n) [] (by simp [Act.eval, Act.put]) (by simp) (by simp) (by simp) (by omega) (by simp) ?_; rw [show (w.drew.setCells g (0 + i * sz) []) = W1 from hW.out.symm])
  go_wp2
  go_ret
  refine ⟨by simp, ?_⟩
  rw [hW.out, ← X2.out, List.append_assoc]

theorem c_delAll (L : SlLaysE0.n45 P ρ) (i0 : TypeInfo) (z : Value) (sz : Nat) (hi0 : P.info? (ρ.t 23) = some i0) (hz1 : i0.size = sz) (hzs : z.cells.size = sz) (hsz : 0 < sz) (hzc : ∀ v ∈ z.cells.toList, v.oneCell' = true)
    (v23 : ∀ w, (zeroValue (ρ.t 23)).run P w = .ok z w) (z23 : ∀ w, (Go.sizeOf (ρ.t 23)).run P w = .ok sz w) {args : List AVal} {heap : Heap} {next : Nat} {r : XRes} (h : delAllX sz args heap next = some r) : ACalls P G (ρ.f 45) args heap next (XQ r) := by
  unfold delAllX at h
  split at h
  rotate_left
  · simp at h
  rename_i m s len i j
  split at h
  rotate_left
  · simp at h
  rename_i cs hm
  split at h
  rotate_left
  · simp at h
  rename_i hc
  simp only [Bool.and_eq_true, Nat.ble_eq, decide_eq_true_eq] at hc
  obtain ⟨⟨⟨⟨hs, hlen⟩, hi⟩, hj⟩, hlen2⟩ := hc
  have hs := Nat.eq_of_beq_eq_true hs
  subst hs
  subst hi
  subst hj
  simp only [Option.some.injEq] at h
  subst h
  rw [agetF_eq] at hm
  rw [asetF_eq]
  intro w R N cargs bsA bsH bsF hargs hheap hnd hnx hglob hF
  obtain ⟨v0, r1, c0, d1, rfl, rfl, h0, hr1⟩ := repVs_cons_inv hargs
  obtain ⟨v1, r2, c1, d2, rfl, rfl, h1, hr2⟩ := repVs_cons_inv hr1
  obtain ⟨v2, r3, c2, d3, rfl, rfl, h2, hr3⟩ := repVs_cons_inv hr2
  obtain ⟨rfl, rfl⟩ := repVs_nil_inv hr3
  simp only [RepV] at h0 h1 h2
  obtain ⟨rfl, b, cap, hb, rfl, hcap, _, hblt, hrow⟩ := h0
  obtain ⟨rfl, h1⟩ := h1
  obtain ⟨rfl, h2⟩ := h2
  have e1 : v1 = .int .i64 0 := by
    have h1 : RepC w R v1 (.flat (.int .i64 0)) := h1
    cases h1 with | flat _ => rfl
  have e2 : v2 = .int .i64 len := by
    have h2 : RepC w R v2 (.flat (.int .i64 len)) := h2
    cases h2 with | flat _ => rfl
  subst e1
  subst e2
  obtain ⟨pre, b', b1, post, rfl, hb', hobj, hback⟩ := RepObjs.split hheap hm
  have : b' = b := by rw [hb] at hb'; simpa using hb'.symm
  subst this
  obtain ⟨vs, elem, sp, hblk, hrv, hRv, _⟩ := hobj
  have hvs : cap * s = vs.size := by rw [rowSize, hblk] at hrow; simpa using hrow
  refine (delete_tail L i0 z s hi0 hz1 hzs hsz hzc v23 z23 b' cap 0 len vs elem w hblk (by rw [← hvs]; exact Nat.mul_le_mul_right _ hcap) hcap (by omega) hlen).mono ?_
  rintro e w' ⟨rfl, rfl⟩
  obtain ⟨arr, harr⟩ : ∃ arr, arr = (List.take (0 * s) vs.toList ++ (Builtin.zeroCells z.cells (len - 0)).toList ++ List.drop (0 * s + (len - 0) * s) vs.toList).toArray := ⟨_, rfl⟩
  rw [← harr]
  have hsize : arr.size = vs.size := by
    rw [harr]
    have : len * s ≤ vs.size := by rw [← hvs]; exact Nat.mul_le_mul_right _ hcap
    simp [Builtin.zeroCells, hzs]
    omega
  have hown : ∃ off, R b' off := ⟨0, hRv 0 (by rw [← hvs]; exact Nat.mul_pos (by omega) hsz)⟩
  have hk : ∀ bs, b' ∉ bs → Keep w R (w.drew.setRow b' arr) R bs := fun bs hbs => by
    have k := step_setRow (w := w.drew) (R := R) (g := b') (cur := vs) (t := elem) hblk arr hsize (R' := R) (fun _ _ h => h) (fun _ _ _ h => h) (fun off hno => by
      rw [Array.getElem?_eq_none (by
        rcases Nat.lt_or_ge off vs.size with h' | h'
        · exact (hno (hRv off h')).elim
        · omega), Array.getElem?_eq_none (by
        rcases Nat.lt_or_ge off vs.size with h' | h'
        · exact (hno (hRv off h')).elim
        · omega)]) hown bs hbs
    exact ⟨⟨k.step.os, k.step.tape, k.step.output, k.step.size, k.step.block, k.step.cell, k.step.sizes⟩, k.same⟩
  have hnd2 : (pre ++ (b' :: (b1 ++ post)) ++ bsF).Nodup := by simpa using hnd
  have hnot : b' ∉ pre ++ post ∧ b' ∉ bsF := by
    have hp : (pre ++ (b' :: (b1 ++ post)) ++ bsF).Perm (b' :: (pre ++ post ++ b1 ++ bsF)) := by
      rw [List.perm_iff_count]; intro q; simp only [List.count_append, List.count_cons]; omega
    have := (List.nodup_cons.1 (hp.nodup_iff.1 hnd2)).1
    simp only [List.mem_append, not_or] at this ⊢
    exact ⟨this.1.1, this.2⟩
  have hheap' := hback (w.drew.setRow b' arr) R (.cells []) [] (hk _ hnot.1) (by
    refine ⟨arr, elem, arr.size, setRow_heap w.drew b' vs _ elem _ hblk, ?_, fun j hj => hRv j (by rw [← hsize]; exact hj), fun h => by simp [bldSh] at h⟩
    have := repVs_undefs (w := w.drew.setRow b' arr) (R := R) (N := outs N) arr.toList
    simpa using this)
  refine ⟨_, _, _, next, R, N, [], _, rfl, ⟨rfl, rfl, rfl⟩, repV_dat (RepC.nil _ _), hheap', ?_, hnx, hk bsF hnot.2, fun _ _ h => h⟩
  have hp : (pre ++ (b' :: (b1 ++ post)) ++ bsF).Perm (b1 ++ (pre ++ (b' :: []) ++ post ++ bsF)) := by
    rw [List.perm_iff_count]; intro q; simp only [List.count_append, List.count_cons, List.count_nil]; omega
  exact (List.nodup_append.1 (hp.nodup_iff.1 hnd2)).2.1
end
end Go.Tp
