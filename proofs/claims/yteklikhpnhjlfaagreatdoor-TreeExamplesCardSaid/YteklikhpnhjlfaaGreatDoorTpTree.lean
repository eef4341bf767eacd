/- The generic layer: strings.Repeat; slices.Sorted of slices.Values that hands back a row; slices.Compact of a row of ints. -/
import Derived.Test.YteklikhpnhjlfaaGreatDoorTpSeq
import Derived.Shelf.Strings.Repeat
import Derived.Shelf.SlicesE.Compact
namespace Go.Tp
open Go.Proofs Go.Shelf Go.RowKit Go.Maps Go.Sort Go.Lib

/-! ### strings.Repeat -/
def repeatX (args : List AVal) (heap : Heap) (next : Nat) : Option XRes :=
  match args with
  | [.dat (.flat (.string s)), .dat (.flat (.int .i64 c))] => (match Nat.ble (s.size * c.toNat) 140737488355328 && Nat.ble c.toNat 9223372036854775807 && decide (0 ≤ c) with
    | true => some ⟨.dat (.flat (.string ⟨⟨Go.Lib.repeatL s.data.toList c.toNat⟩⟩)), heap, next⟩
    | false => none)
  | _ => none

section
variable {P : Program} {ρ : Ren} {G : Globs}
theorem c_repeat (L : Lays.n105 P ρ) (X : Builder.Extra P ρ) {args : List AVal} {heap : Heap} {next : Nat} {r : XRes} (h : repeatX args heap next = some r) : ACalls P G (ρ.f 105) args heap next (XQ r) := by
  unfold repeatX at h
  split at h
  rotate_left
  · simp at h
  rename_i s c
  split at h
  rotate_left
  · simp at h
  rename_i hc
  simp only [Bool.and_eq_true, Nat.ble_eq, decide_eq_true_eq] at hc
  obtain ⟨⟨h1, h2⟩, h3⟩ := hc
  simp only [Option.some.injEq] at h
  subst h
  intro w R N cargs bsA bsH bsF hargs hheap hnd hnx hglob hF
  obtain ⟨v0, r1, c0, d1, rfl, rfl, h0, hr1⟩ := repVs_cons_inv hargs
  obtain ⟨v1, r2, c1, d2, rfl, rfl, hv1, hr2⟩ := repVs_cons_inv hr1
  obtain ⟨rfl, rfl⟩ := repVs_nil_inv hr2
  obtain ⟨rfl, rfl, _⟩ := repV_flat_inv h0
  obtain ⟨rfl, rfl, _⟩ := repV_flat_inv hv1
  obtain ⟨k, rfl⟩ : ∃ k : Nat, c = (k : Int) := ⟨c.toNat, by omega⟩
  simp only [Int.toNat_natCast] at h1 h2 ⊢
  refine (Any.strings_Repeat L X s k w h2 h1).mono ?_
  rintro e w' ⟨rfl, hb⟩
  refine ⟨_, _, _, next, _, N, [], bsH, rfl, ⟨rfl, rfl, rfl⟩, ?_, hheap.keep (keep_below hb bsH), by simpa using hnd, hnx, keep_below hb bsF, fun _ _ h => h⟩
  refine repV_flat ?_
  simp only [isFlat, decide_eq_true_eq]
  have e1 : (ByteArray.mk ⟨Go.Lib.repeatL s.data.toList k⟩).size = (Go.Lib.repeatL s.data.toList k).length := rfl
  have e2 : s.data.toList.length = s.size := rfl
  rw [e1, Go.Lib.repeatL_length, e2, Nat.mul_comm]
  omega

/-! ### Rows of ints -/
def intCells : List AVal → Option (List Int)
  | [] => some []
  | .dat (.flat (.int .i64 n)) :: r => (match intCells r with | some l => some (n :: l) | none => none)
  | _ => none
theorem intCells_spec : ∀ {cs : List AVal} {zs : List Int}, intCells cs = some zs → cs = zs.map (fun n => .dat (intDat n))
  | [], zs, h => by simp [intCells] at h; subst h; rfl
  | c :: r, zs, h => by
    unfold intCells at h
    split at h
    · simp at *
    · rename_i n r' heq
      simp at heq
      obtain ⟨rfl, rfl⟩ := heq
      split at h
      · rename_i l hl
        simp at h
        subst h
        rw [intCells_spec hl]
        rfl
      · simp at h
    · simp at h

theorem repVs_ints {w : World} {R : Own} {N : Name → Option Nat} : ∀ (zs : List Int), (∀ n ∈ zs, isFlat (.int .i64 n) = true) → RepVs w R N (zs.map fun n => .dat (intDat n)) (zs.map encZ) []
  | [], _ => repVs_nil
  | n :: zs, h => by
    have h1 : RepV w R N (.dat (intDat n)) (encZ n) [] := repV_flat (h n (by simp))
    simpa using repVs_cons h1 (repVs_ints zs fun m hm => h m (by simp [hm]))

/-- slices.Sorted of slices.Values's iterator: the same, a row handed back. -/
def sortedRX (g : Nat) (args : List AVal) (heap : Heap) (next : Nat) : Option XRes :=
  match args with
  | [.fn (.func g') [] [.ref (.slice (e :: es) :: _)]] => (match Nat.beq g' g with
    | true => (match intsOf (e :: es) with
      | some zs => (match Nat.ble zs.length 4294967296 with
        | true => some ⟨.win (.out next) 1 0 zs.length, (.out next, .cells ((sortZ zs).map fun n => .dat (intDat n))) :: heap, next + 1⟩
        | false => none)
      | none => none)
    | false => none)
  | _ => none

def compactX (args : List AVal) (heap : Heap) (next : Nat) : Option XRes :=
  match args with
  | [.win (.out m) 1 0 len] => (match agetF (.out m) heap with
    | some (.cells cs) => (match Nat.beq len cs.length && Nat.ble 1 len && Nat.ble len 4294967296 with
      | true => (match intCells cs with
        | some zs => some ⟨.dat (.slice ((compactUpTo zs.toArray zs.length).map intDat)), adelF (.out m) heap, next⟩
        | none => none)
      | false => none)
    | _ => none)
  | _ => none

theorem bldSh_ints (zs : List Int) : bldSh (zs.map fun n => .dat (intDat n)) = false := by
  match zs with
  | [] => rfl
  | [_] => rfl
  | [_, _] => rfl
  | _ :: _ :: _ :: _ => rfl

theorem c_sortedR {gv : Nat} (L6 : SlLaysZI.n6 P ρ) (hsort : AnyZI.SortsIn P ρ Fence.wide 4) (e9 : Enters P (ρ.f 9)) (ev : Enters P gv) (hv : ValuesGive P gv)
    {args : List AVal} {heap : Heap} {next : Nat} {r : XRes} (h : sortedRX gv args heap next = some r) : ACalls P G (ρ.f 6) args heap next (XQ r) := by
  unfold sortedRX at h
  split at h
  rotate_left
  · simp at h
  rename_i g' e0 es tl
  split at h
  rotate_left
  · simp at h
  rename_i hg
  have hg := Nat.eq_of_beq_eq_true hg
  subst hg
  split at h
  rotate_left
  · simp at h
  rename_i zs hzs
  split at h
  rotate_left
  · simp at h
  rename_i hlen
  have hlen := Nat.le_of_ble_eq_true hlen
  simp only [Option.some.injEq] at h
  subst h
  intro w R N cargs bsA bsH bsF hargs hheap hnd hnx hglob hF
  obtain ⟨v0, r1, c0, d1, rfl, rfl, h0, hr1⟩ := repVs_cons_inv hargs
  obtain ⟨rfl, rfl⟩ := repVs_nil_inv hr1
  simp only [RepV] at h0
  obtain ⟨rfl, vs, us, rfl, hvs, hus⟩ := h0
  obtain ⟨rfl, _⟩ := repVs_nil_inv hvs
  obtain ⟨u0, ur, f0, f1, rfl, hbs0, hu0, hur⟩ := repVs_cons_inv hus
  obtain ⟨rfl, _⟩ := repVs_nil_inv hur
  simp only [RepV] at hu0
  obtain ⟨_, b', bo, rfl, hat⟩ := hu0
  obtain ⟨⟨x0, hcell, _, hx0'⟩, _⟩ := hat
  have hes := intsOf_spec hzs
  have hel : (e0 :: es).length = zs.length := by rw [hes]; simp
  cases hx0' with
  | slice b off cap s es' vs hs hln hcap hb hcl hrep =>
    have hs1 : s = 1 := by
      rw [hes] at hln
      have h2 := hln (.flat (.int .i64 (zs.headD 0))) (by
        cases zs with
        | nil => simp at hes
        | cons z zr => simp)
      simpa [Dat.cells] using h2.symm
    subst hs1
    have hrj : ∀ j (hj : j < zs.length), vs j 0 = .int .i64 (zs[j]?.getD 0) ∧ isFlat (.int .i64 (zs[j]?.getD 0)) = true := by
      intro j hj
      have he : (e0 :: es)[j]? = some (.flat (.int .i64 (zs[j]?.getD 0))) := by
        rw [hes, List.getElem?_map, List.getElem?_eq_getElem hj]
        simp
      exact repC_flat_eq (hrep j 0 _ (.flat (.int .i64 (zs[j]?.getD 0))) he (by simp [Dat.cells]))
    have hint : ∀ j, j < zs.length → w.cell? ⟨b, off + j, none⟩ = some (.int .i64 (zs[j]?.getD 0)) := by
      intro j hj
      obtain ⟨hc, _⟩ := hcl j 0 (by rw [hel]; exact hj) (by omega)
      rw [(hrj j hj).1] at hc
      simpa using hc
    have hbl : b < w.heap.size := by
      have : 0 < zs.length := by rw [← hel]; simp
      exact lt_of_cell (hint 0 this)
    have hflat : ∀ n ∈ sortZ zs, isFlat (.int .i64 n) = true := by
      intro n hn
      obtain ⟨j, hj, e⟩ := List.getElem_of_mem ((sortZ_perm zs).mem_iff.1 hn)
      have := (hrj j hj).2
      rw [List.getElem?_eq_getElem hj, e] at this
      exact this
    have hseq := hv 2 b' bo w.heap.size b off cap zs w (by omega) hlen (lt_of_cell hcell) (Nat.le_refl _) (by rw [hcell, hel]) hbl hint
    have cS := sortedB L6 Fence.wide trivial trivial trivial trivial rfl 5 (by omega) hsort e9 g' #[.pointer (some ⟨b', bo, none⟩)] trivial ev zs hlen w hseq
    refine (callsIn_wide.1 cS).mono ?_
    rintro e w' ⟨v, rfl, hrow, hnil, hbw⟩
    rw [sortZ_eq] at hrow
    have hsl : (sortZ zs).length = zs.length := (sortZ_perm zs).length_eq
    obtain ⟨hl, hrow⟩ := hrow
    rcases hrow with ⟨_, hz⟩ | ⟨g, cap', cur, rfl, hbase, hgb, q1, q2, q3, q4⟩
    · rw [← hel] at hz; simp at hz
    obtain ⟨R', hR'⟩ : ∃ R' : Own, R' = fun b off => (b < w.heap.size ∧ R b off) ∨ b = g := ⟨_, rfl⟩
    have hk : ∀ bs, Keep w R w' R' bs := fun bs => keep_below2 hbw (fun b off hb => by subst hR'; exact ⟨fun h => by rcases h with h | h; exact h.2; omega, fun h => .inl ⟨hb, h⟩⟩) bs
    have hext := setN_ext (N := N) (b := g) hnx
    have hgl : g < w'.heap.size := lt_of_heap hgb
    refine ⟨_, _, _, next + 1, R', setN N (.out next) g, [], g :: ([] ++ bsH), rfl, ⟨rfl, rfl, rfl⟩, ?_, ?_, ?_, ?_, hk bsF, fun o b h => hext _ _ h⟩
    · simp only [RepV]
      refine ⟨trivial, g, cap', by simp [outs, setN], rfl, q1, by omega, hgl, ?_⟩
      rw [Nat.zero_add, rowSize, hgb]
      exact q3.symm
    · refine ⟨g, [], _, rfl, by simp [outs, setN], ?_, (hheap.keep (hk _)).ext (outs_ext hext)⟩
      refine ⟨cur, _, (cap' - zs.length) * 1, hgb, ?_, fun j _ => by subst hR'; exact .inr rfl, fun hsh => by rw [bldSh_ints] at hsh; simp at hsh⟩
      have hc2 : cur.toList = (sortZ zs).map encZ ++ cur.toList.drop (zs.length * 1) := by rw [← q4, List.take_append_drop]
      rw [hc2]
      have h1 := repVs_ints (w := w') (R := R') (N := outs (setN N (.out next) g)) (sortZ zs) hflat
      have h2 := repVs_undefs (w := w') (R := R') (N := outs (setN N (.out next) g)) (cur.toList.drop (zs.length * 1))
      have hl2 : (cur.toList.drop (zs.length * 1)).length = (cap' - zs.length) * 1 := by
        rw [List.length_drop, Array.length_toList, q3, Nat.sub_mul]
      rw [hl2] at h2
      simpa using repVs_append h1 h2
    · have h1 : (bsH ++ bsF).Nodup := by simpa using hnd
      have h2 : g ∉ bsH ++ bsF := by
        intro hm
        rcases List.mem_append.1 hm with hm | hm
        · have := hheap.lt _ hm; omega
        · have := hF _ hm; omega
      simpa using List.nodup_cons.2 ⟨h2, h1⟩
    · intro o c ho
      by_cases hne : o = next
      · omega
      · have : N (.out o) = some c := by simpa [setN, hne] using ho
        have := hnx o c this
        omega

/-- A row's cells set anew, the block out of what may be written. -/
theorem keep_putRow {w : World} {R R' : Own} {blk : Nat} {vs : Array Value} {elem : TypeId} (hblk : w.heap[blk]? = some (.cells vs elem (0, 0))) (hR : R' = fun c off => c ≠ blk ∧ R c off) (hRv : ∀ j, j < vs.size → R blk j) (h0 : 0 < vs.size) (q : Nat) (d : Array Int) (bs : List Nat) (hb : blk ∉ bs) :
    Keep w R (putRow (Value.int .i64) (Sort.ahead w q) blk 0 d) R' bs := by
  have hother : ∀ c, c ≠ blk → (putRow (Value.int .i64) (Sort.ahead w q) blk 0 d).heap[c]? = w.heap[c]? := fun c hc => by
    simp [putRow, mapBlock, Sort.ahead, Array.getElem?_modify, Ne.symm hc]
  have hself : (putRow (Value.int .i64) (Sort.ahead w q) blk 0 d).heap[blk]? = some (.cells (putCells (Value.int .i64) 0 d vs) elem (0, 0)) := by
    simp [putRow, mapBlock, Sort.ahead, Array.getElem?_modify, hblk, onCells]
  have hsz : (putCells (Value.int .i64) 0 d vs).size = vs.size := by simp [putCells]
  subst hR
  refine ⟨⟨rfl, rfl, rfl, by simp [Sort.ahead], fun c hc hno => ?_, fun c off hc hno => ⟨fun h => hno h.2, ?_⟩, fun c hc => ?_⟩, fun c hc _ => ?_⟩
  · have hne : c ≠ blk := fun e => hno 0 (e ▸ hRv 0 h0)
    exact ⟨hother c hne, fun off h => hno off h.2⟩
  · by_cases hcb : c = blk
    · subst hcb
      have ho : vs.size ≤ off := by
        rcases Nat.lt_or_ge off vs.size with h' | h'
        · exact (hno (hRv off h')).elim
        · exact h'
      rw [cell_of_row _ c off _ elem (0, 0) hself, cell_of_row w c off vs elem (0, 0) hblk, Array.getElem?_eq_none (by omega), Array.getElem?_eq_none ho]
    · exact World.cell?_of_block (a := ⟨c, off, none⟩) (hother c hcb)
  · by_cases hcb : c = blk
    · subst hcb
      rw [rowSize_of hself, rowSize_of hblk, hsz]
    · exact rowSize_same (hother c hcb)
  · have hne : c ≠ blk := fun e => hb (e ▸ hc)
    exact ⟨hother c hne, fun off h => ⟨hne, h⟩⟩

theorem c_compact (L : SlLaysE.n43 P ρ) (v23 : ∀ w, (zeroValue (ρ.t 23)).run P w = .ok (.int .i64 0) w) {args : List AVal} {heap : Heap} {next : Nat} {r : XRes} (h : compactX args heap next = some r) : ACalls P G (ρ.f 43) args heap next (XQ r) := by
  unfold compactX at h
  split at h
  rotate_left
  · simp at h
  rename_i m len
  split at h
  rotate_left
  · simp at h
  rename_i cs hm
  split at h
  rotate_left
  · simp at h
  rename_i hc
  simp only [Bool.and_eq_true, Nat.ble_eq] at hc
  obtain ⟨⟨hl, h1⟩, h2⟩ := hc
  have hl := Nat.eq_of_beq_eq_true hl
  split at h
  rotate_left
  · simp at h
  rename_i zs hzs
  simp only [Option.some.injEq] at h
  subst h
  have hcs := intCells_spec hzs
  have hzl : zs.length = len := by rw [hl, hcs]; simp
  rw [agetF_eq] at hm
  rw [adelF_eq]
  intro w R N cargs bsA bsH bsF hargs hheap hnd hnx hglob hF
  obtain ⟨v0, r1, c0, d1, rfl, rfl, h0, hr1⟩ := repVs_cons_inv hargs
  obtain ⟨rfl, rfl⟩ := repVs_nil_inv hr1
  simp only [RepV] at h0
  obtain ⟨rfl, b, cap, hb, rfl, hcap, _, hblt, hrow⟩ := h0
  obtain ⟨pre, b', b1, post, e1, hb', hobj, _, bs', hdel, hsub⟩ := RepObjs.split_del hheap hm
  have : b' = b := by rw [hb] at hb'; simpa using hb'.symm
  subst this
  subst e1
  obtain ⟨vs, elem, sp, hblk, hrv, hRv, _⟩ := hobj
  have hvs : cap = vs.size := by rw [rowSize, hblk] at hrow; simpa using hrow
  have hval : ∀ j (hj : j < zs.length), vs[j]? = some (.int .i64 zs[j]) ∧ isFlat (.int .i64 zs[j]) = true := by
    intro j hj
    have ha : cs[j]? = some (.dat (intDat zs[j])) := by rw [hcs, List.getElem?_map, List.getElem?_eq_getElem hj]; rfl
    obtain ⟨x, bx, q1, q2, _⟩ := repVs_get hrv (get_pad ha)
    obtain ⟨_, rfl, hf⟩ := repV_flat_inv q2
    exact ⟨by rw [← Array.getElem?_toList]; exact q1, hf⟩
  have hH : Holds (Value.int .i64) w b' 0 zs.toArray := by
    intro j hj
    have hj : j < zs.length := by simpa using hj
    obtain ⟨q1, _⟩ := hval j hj
    rw [Nat.zero_add]
    refine ⟨?_, by simp [World.frozen?, hblk]⟩
    simp [World.cell?, hblk, q1, hj]
  have hsz : zs.toArray.size = len := by simpa using hzl
  rw [← hsz]
  refine (AnyE.slices_Compact L (Value.int .i64) (fun _ => rfl) (EqlAt.intD P (ρ.t 23) .i64) (NeqAt.intD P (ρ.t 23) .i64) 0 v23 b' 0 cap zs.toArray w hH (by rw [hsz]; omega) (by rw [hsz]; exact hcap)).mono ?_
  rintro e w' ⟨rfl, q, rfl⟩
  obtain ⟨out, hout⟩ : ∃ out, out = compactUpTo zs.toArray zs.toArray.size := ⟨_, rfl⟩
  have hout' : compactUpTo zs.toArray zs.length = out := by rw [hout]; simp
  rw [hout', ← hout]
  have hol : out.length ≤ len := by
    rw [hout, ← hsz]
    simp only [compactUpTo, List.length_map]
    exact Nat.le_trans (List.length_filter_le _ _) (by simp)
  have hmem : ∀ n ∈ out, isFlat (.int .i64 n) = true := by
    intro n hn
    rw [hout] at hn
    simp only [compactUpTo, List.mem_map, List.mem_filter, List.mem_range] at hn
    obtain ⟨j, ⟨hj, _⟩, rfl⟩ := hn
    have hj : j < zs.length := by simpa using hj
    have := (hval j hj).2
    simpa [hj] using this
  obtain ⟨d', hd'⟩ : ∃ d', d' = (out ++ List.replicate (zs.toArray.size - out.length) (0 : Int)).toArray := ⟨_, rfl⟩
  rw [← hd']
  have hds : d'.size = zs.toArray.size := by rw [hd']; simp; omega
  obtain ⟨R', hR'⟩ : ∃ R' : Own, R' = fun c off => c ≠ b' ∧ R c off := ⟨_, rfl⟩
  have hk : ∀ bs, b' ∉ bs → Keep w R (putRow (Value.int .i64) (Sort.ahead w q) b' 0 d') R' bs := fun bs hbs => keep_putRow hblk hR' hRv (by omega) q d' bs hbs
  have hp : ([] ++ ((pre ++ (b' :: b1) ++ post) ++ bsF)).Perm (b' :: (b1 ++ ((pre ++ post) ++ bsF))) := by
    rw [List.perm_iff_count]; intro x; simp only [List.count_append, List.count_cons, List.count_nil]; omega
  have hnd2 := List.nodup_cons.1 (hp.nodup_iff.1 (by simpa using hnd))
  have hno := hnd2.1
  simp only [List.mem_append, not_or] at hno
  obtain ⟨_, ⟨n3, n3'⟩, n4⟩ := hno
  have n5 : b' ∉ bs' := fun hm => by
    rcases List.mem_append.1 (hsub.subset hm) with h | h
    · exact n3 h
    · exact n3' h
  refine ⟨_, _, _, next, R', N, [], bs', rfl, ⟨rfl, rfl, rfl⟩, repV_dat (d := .slice (out.map intDat)) ?_, hdel.keep (hk bs' n5), ?_, hnx, hk bsF n4, fun _ _ h => h⟩
  · have hel : (out.map intDat).length = out.length := by simp
    have hH2 := holds_putRow (Value.int .i64) (Sort.ahead w q) b' 0 zs.toArray d' (holds_ahead _ w q b' 0 zs.toArray hH) hds
    have hget : ∀ i (hi : i < out.length), (putRow (Value.int .i64) (Sort.ahead w q) b' 0 d').cell? ⟨b', 0 + i, none⟩ = some (.int .i64 out[i]) := by
      intro i hi
      have hi2 : i < d'.size := by rw [hds, hsz]; omega
      have := (hH2 i hi2).1
      rw [this]
      congr 2
      rw [getElem!_pos d' i hi2]
      subst hd'
      simp [hi]
    rw [← hel]
    show RepC _ _ _ _
    refine .slice b' 0 cap 1 _ (fun i _ => .int .i64 (out[i]?.getD 0)) (by omega) ?_ (by rw [hel]; omega) (by rw [hel]; simp only [lim]; omega) ?_ ?_
    · intro e he
      simp only [List.mem_map] at he
      obtain ⟨y, _, rfl⟩ := he
      rfl
    · intro i j hi hj
      rw [hel] at hi
      have : j = 0 := by omega
      subst this
      refine ⟨?_, fun h => by subst hR'; exact h.1 rfl⟩
      have := hget i hi
      simpa [hi] using this
    · intro i j e c he hc
      have hi : i < out.length := by
        rcases Nat.lt_or_ge i out.length with h' | h'
        · exact h'
        · rw [List.getElem?_eq_none (by simpa using h')] at he; simp at he
      have he' : e = intDat out[i] := by
        rw [List.getElem?_map, List.getElem?_eq_getElem hi] at he
        simpa using he.symm
      subst he'
      have hc' : c = intDat out[i] := by
        cases j with
        | zero => simpa [intDat, Dat.cells] using hc.symm
        | succ j => simp [intDat, Dat.cells] at hc
      subst hc'
      have e2 : out[i]?.getD 0 = out[i] := by rw [List.getElem?_eq_getElem hi]; rfl
      rw [e2]
      exact .flat (hmem _ (List.getElem_mem hi))
  · have h2 := (List.nodup_append.1 hnd2.2).2.1
    rw [List.nil_append]
    exact List.Nodup.sublist (List.Sublist.append hsub (.refl _)) h2
end
end Go.Tp
