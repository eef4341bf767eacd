/- The generic layer: slices.Sorted over an iterator that reads a slice of ints (slices.Values). -/
import Derived.Test.YteklikhpnhjlfaaGreatDoorTpClone
import Derived.Test.YteklikhpnhjlfaaGreatDoorTpBld
import Derived.Shelf.SlIterI.Sorted
import Derived.RangeFuncBox
import Derived.RangeFuncLeaves
namespace Go.Tp
open Go.Proofs Go.Shelf Go.RowKit Go.Maps Go.Sort

variable {P : Program} {ρ : Ren}

/-- An iterator over zs whose rounds leave alone what lay below n₀. -/
abbrev GivesB (F : Fence) (P : Program) (n : Nat) (g : Nat) (lb : Array Value) (zs : List Int) (n₀ : Nat) (w : World) : Prop :=
  SeqStopsK F n P g lb (fun x : Int => #[encZ x]) (Below n₀) (fun ys => ys = zs) (fun _ => True) zs.length w

set_option maxRecDepth 100000 in
set_option maxHeartbeats 2000000 in
theorem appendSeqB (L : SlLaysZI.n11 P ρ) (F : Fence) (h11 : F.fn (ρ.f 11)) (hro : F.round = none) (n : Nat) (hn : 2 ≤ n) (g : Nat) (lb : Array Value) (hFg : F.fn g) (eg : ∀ args w, (callFunc g args).run P w = .ok (.enter g args) w) (zs : List Int) (hz : zs.length ≤ 4294967296) (w : World)
    (hseq : GivesB F P (n - 1) g lb zs w.heap.size w) :
    CallsIn F n P (ρ.f 11) #[.slice none 0 0, .func (.func g) #[] lb] w fun e w' => ∃ v : Value, e = .returned v ∧ w'.ownsRow w.heap.size (ρ.t 26) 1 v zs.length (zs.map encZ) ∧ (v = .slice none 0 0 ↔ zs = []) ∧ Below w.heap.size w w' := by
  have h1 : 1 ≤ n := by omega
  have mixed := L.mixed; have t0 := L.t0; have a0 := L.a0; have z0 := L.z0; have v0 := L.v0; have t24 := L.t24; have a24 := L.a24; have z24 := L.z24; have v24 := L.v24; have t26 := L.t26; have a26 := L.a26; have z26 := L.z26; have v26 := L.v26; have t28 := L.t28; have a28 := L.a28; have z28 := L.z28; have v28 := L.v28
  have hne : ρ.t 24 ≠ ρ.t 26 := fun e => by have h := L.t24; rw [e, L.t26] at h; cases h
  have u0 := run_underlying L.t0; have u24 := run_underlying L.t24; have u26 := run_underlying L.t26; have u28 := run_underlying L.t28
  obtain ⟨i0, hi, hz0, hz1, hz2⟩ := info_parts L.i26
  obtain ⟨_, _, FG⟩ := L.f11
  refine callsIn_of_wp_marks FG rfl h11 ?_ hro
  simp only [SlBodyZ.n11_ntmps ρ, List.size_toArray, List.length_cons, List.length_nil, Nat.reduceAdd, Nat.reduceSub, Array.replicate_succ, Array.replicate_zero, List.push_toArray, List.append_toArray, List.nil_append, List.cons_append]
  gi_wp2
  have bS := Boxed.new w (ρ.t 24) (.slice none 0 0)
  have hB0 : Below w.heap.size w (w.alloc (.cells #[.slice none 0 0] (ρ.t 24))) := (Below.refl _ w).alloc (Nat.le_refl _) _
  refine wpIn_rangeFunc_ownG hro h1 (gf := g) (lb := lb) rfl hFg eg hseq belowK_t (belowK_b (by simp)) hB0 (fun _ => rfl)
    (fun pre W => (∃ v, Boxed W w.heap.size (ρ.t 24) v ∧ W.ownsRow w.heap.size (ρ.t 26) 1 v pre.length (pre.map encZ) ∧ (v = .slice none 0 0 ↔ pre = [])) ∧ Below w.heap.size w W)
    (fun _ _ _ => False)
    (OwnFrom.and (Own.from (holdsRow_own w.heap.size w.heap.size (ρ.t 24) (ρ.t 26) 1 (fun pre : List Int => pre.length) (fun pre => pre.map encZ) (fun pre v => v = .slice none 0 0 ↔ pre = [])) _) (ownFrom_below (Nat.le_refl _) (by simp)))
    (fun _ _ _ _ _ hs _ _ => hs)
    ⟨⟨_, bS, ⟨rfl, .inl ⟨rfl, rfl⟩⟩, by simp⟩, hB0⟩
    (fun x => { tmps := #[.slice none 0 0, .func (.func g) #[] lb, .pointer (some ⟨w.heap.size, 0, none⟩), undef, .slice none 0 0, encZ x, .func (.func g) #[] lb, encZ x, undef, undef, undef, undef, undef], defers := [] }) ?assign ?body ?done ?stop
  case assign =>
    intro l x W K hK
    gi_wp2_with gi_round_op_a
    exact hK
  case body =>
    rintro l pre x W ⟨⟨v, hb, hrow, _⟩, hB⟩ hlen
    have hc := hb.cell
    have hf := hb.frozen
    gi_wp2_with (first
      | (gi_at_builtin; refine wpListIn_append_own _ rfl _ _ (ρ.t 24) rfl w.heap.size (ρ.t 26) i0 (.int .i64 0) 1 8 L.t24 hi hz0 hz1 hz2 rfl (by decide) _ _ _ rfl (hrow.alloc _) ⟨W.heap.size, 0, none⟩ 1 1 [encZ x] rfl rfl (cell_one_new _ _ _) (by simp [Value.oneCell', encZ]) (by simp only [maxLen]; omega) (by omega) (by have := hB.size; simp; omega) ?_; intro v' w3 hown' hg3 hnil3
         obtain ⟨q1, q2, q3, q4, q5⟩ := Boxed.appended hb hne hrow hB.size (Nat.le_refl _) hown' hg3
         obtain ⟨g', cap', rfl⟩ := ownsRow_succ hown'
         have hc3 := q1.cell
         have hf3 := q1.frozen
         go_frame)
      | gi_round_op_a)
    exact ⟨q4.from _, q5, ⟨_, q2, by simpa using q3, by simp⟩, hB.trans q5⟩
  case done =>
    rintro D ys W hD rfl ⟨⟨v, hb, hrow, hnil⟩, hB⟩ hK
    have hc := hb.cell
    have hf := hb.frozen
    gi_wp2
    refine ⟨by simp, .inl ⟨_, _, rfl, run_takeDeferred hK, ?_⟩⟩
    exact ⟨_, results_tmp rfl _ _ _, v, rfl, ownsRow_putObj hrow _ hK rfl, hnil, hB.trans (belowK_b (w := w) (Nat.le_refl _) W D _ _ (by simp at hD; omega) hK rfl rfl)⟩
  case stop =>
    rintro D c pre W _ _ h _
    exact h.elim

set_option maxHeartbeats 1000000 in
theorem collectB (L : SlLaysZI.n8 P ρ) (F : Fence) (h8 : F.fn (ρ.f 8)) (h11 : F.fn (ρ.f 11)) (hro : F.round = none) (n : Nat) (hn : 3 ≤ n) (g : Nat) (lb : Array Value) (hFg : F.fn g) (eg : ∀ args w, (callFunc g args).run P w = .ok (.enter g args) w) (zs : List Int) (hz : zs.length ≤ 4294967296) (w : World)
    (hseq : GivesB F P (n - 1 - 1) g lb zs w.heap.size w) :
    CallsIn F n P (ρ.f 8) #[.func (.func g) #[] lb] w fun e w' => ∃ v : Value, e = .returned v ∧ w'.ownsRow w.heap.size (ρ.t 26) 1 v zs.length (zs.map encZ) ∧ (v = .slice none 0 0 ↔ zs = []) ∧ Below w.heap.size w w' := by
  have h1 : 1 ≤ n := by omega
  have e11 : ∀ args w, (callFunc (ρ.f 11) args).run P w = .ok (.enter (ρ.f 11) args) w := L.f11.enters rfl
  have mixed := L.mixed; have t0 := L.t0; have a0 := L.a0; have z0 := L.z0; have v0 := L.v0; have t24 := L.t24; have a24 := L.a24; have z24 := L.z24; have v24 := L.v24; have t26 := L.t26; have a26 := L.a26; have z26 := L.z26; have v26 := L.v26; have t28 := L.t28; have a28 := L.a28; have z28 := L.z28; have v28 := L.v28
  have u0 := run_underlying L.t0; have u24 := run_underlying L.t24; have u26 := run_underlying L.t26; have u28 := run_underlying L.t28
  obtain ⟨_, _, FG⟩ := L.f8
  refine callsIn_of_wp FG rfl h8 ?_ hro
  simp only [SlBodyZ.n8_ntmps ρ, List.size_toArray, List.length_cons, List.length_nil, Nat.reduceAdd, Nat.reduceSub, Array.replicate_succ, Array.replicate_zero, List.push_toArray, List.append_toArray, List.nil_append, List.cons_append]
  gi_wp2_with (gi_at_fn (ρ.f 11); refine (appendSeqB { L with } F h11 hro (n - 1) (by omega) g lb hFg eg zs hz _ hseq).mono ?_; rintro e w' ⟨v, rfl, hrow, hnil, hb⟩)
  go_ret
  exact ⟨v, rfl, hrow, hnil, hb⟩

set_option maxRecDepth 100000 in
set_option maxHeartbeats 2000000 in
theorem sortedB (L : SlLaysZI.n6 P ρ) (F : Fence) (h6 : F.fn (ρ.f 6)) (h8 : F.fn (ρ.f 8)) (h9 : F.fn (ρ.f 9)) (h11 : F.fn (ρ.f 11)) (hro : F.round = none) (n : Nat) (hn : 4 ≤ n) (hsort : AnyZI.SortsIn P ρ F (n - 1)) (e9 : ∀ args w, (callFunc (ρ.f 9) args).run P w = .ok (.enter (ρ.f 9) args) w) (g : Nat) (lb : Array Value) (hFg : F.fn g) (eg : ∀ args w, (callFunc g args).run P w = .ok (.enter g args) w)
    (zs : List Int) (hz : zs.length ≤ 4294967296) (w : World) (hseq : GivesB F P (n - 1 - 1 - 1) g lb zs w.heap.size w) :
    CallsIn F n P (ρ.f 6) #[.func (.func g) #[] lb] w fun e w' => ∃ v : Value, e = .returned v ∧
      w'.ownsRow w.heap.size (ρ.t 26) 1 v zs.length ((zs.mergeSort (fun x y => decide (x ≤ y))).map encZ) ∧ (v = .slice none 0 0 ↔ zs = []) ∧ Below w.heap.size w w' := by
  have h1 : 1 ≤ n := by omega
  have e8 : ∀ args w, (callFunc (ρ.f 8) args).run P w = .ok (.enter (ρ.f 8) args) w := L.f8.enters rfl
  have mixed := L.mixed; have t0 := L.t0; have a0 := L.a0; have z0 := L.z0; have v0 := L.v0; have t24 := L.t24; have a24 := L.a24; have z24 := L.z24; have v24 := L.v24; have t26 := L.t26; have a26 := L.a26; have z26 := L.z26; have v26 := L.v26; have t28 := L.t28; have a28 := L.a28; have z28 := L.z28; have v28 := L.v28
  have u0 := run_underlying L.t0; have u24 := run_underlying L.t24; have u26 := run_underlying L.t26; have u28 := run_underlying L.t28
  obtain ⟨_, _, FG⟩ := L.f6
  refine callsIn_of_wp FG rfl h6 ?_ hro
  simp only [SlBodyZ.n6_ntmps ρ, List.size_toArray, List.length_cons, List.length_nil, Nat.reduceAdd, Nat.reduceSub, Array.replicate_succ, Array.replicate_zero, List.push_toArray, List.append_toArray, List.nil_append, List.cons_append]
  gi_wp2_with (gi_at_fn (ρ.f 8); refine (collectB { L with } F h8 h11 hro (n - 1) (by omega) g lb hFg eg zs hz _ hseq).mono ?_; rintro e W ⟨v, rfl, hrow, hnil, hb⟩)
  by_cases hzs : zs = []
  · have hv := hnil.2 hzs
    subst hv
    subst hzs
    gi_wp2_with (gi_at_fn (ρ.f 9); refine (hsort.2 none 0 W).mono ?_; rintro e w' ⟨rfl, rfl⟩)
    go_ret
    exact ⟨.slice none 0 0, rfl, by simpa using hrow, by simp, hb⟩
  · have hlen : zs.length ≠ 0 := fun e => hzs (List.eq_nil_of_length_eq_zero e)
    rcases hrow.2 with ⟨_, h0⟩ | ⟨gb, cap, cur, rfl, hbase, hgb, r1, r2, r3, r4⟩
    · exact absurd h0 hlen
    · have hH : Holds encZ W gb 0 zs.toArray := holds_of_block_i hgb (by simpa using r4)
      have hgl : gb < W.heap.size := (Array.getElem?_eq_some_iff.1 hgb).1
      have cS := hsort.1 gb 0 cap zs W hH hgl (by omega)
      gi_wp2_with (gi_at_fn (ρ.f 9); refine cS.mono ?_; rintro e w' ⟨rfl, nn, os, rfl⟩)
      go_ret
      exact ⟨_, rfl, ownsRow_sorted_i (by simp) hbase hgb r1 r2 r3, hnil, hb.grown (grownBy_sorted_i _) hb.size (fun j hj => by cases hj; exact hbase)⟩

/-! ### Sorted lists of ints -/
def insZ (x : Int) : List Int → List Int
  | [] => [x]
  | y :: r => match decide (x ≤ y) with | true => x :: y :: r | false => y :: insZ x r
def sortZ : List Int → List Int
  | [] => []
  | x :: r => insZ x (sortZ r)
theorem insZ_perm (x : Int) : ∀ l, (insZ x l).Perm (x :: l)
  | [] => List.Perm.refl _
  | y :: r => by
    unfold insZ
    split
    · exact List.Perm.refl _
    · exact ((insZ_perm x r).cons y).trans (List.Perm.swap x y r)
theorem sortZ_perm : ∀ l, (sortZ l).Perm l
  | [] => List.Perm.refl _
  | x :: r => (insZ_perm x _).trans ((sortZ_perm r).cons x)
theorem insZ_sorted (x : Int) : ∀ l : List Int, l.Pairwise (fun a b => decide (a ≤ b) = true) → (insZ x l).Pairwise (fun a b => decide (a ≤ b) = true)
  | [], _ => by simp [insZ]
  | y :: r, h => by
    obtain ⟨h1, h2⟩ := List.pairwise_cons.1 h
    unfold insZ
    split
    · rename_i hle
      simp only [decide_eq_true_eq] at hle h1
      refine List.pairwise_cons.2 ⟨?_, h⟩
      intro z hz
      rcases List.mem_cons.1 hz with rfl | hz
      · simpa using hle
      · have := h1 z hz; simp only [decide_eq_true_eq]; omega
    · rename_i hle
      simp only [decide_eq_false_iff_not] at hle
      refine List.pairwise_cons.2 ⟨?_, insZ_sorted x r h2⟩
      intro z hz
      rcases List.mem_cons.1 ((insZ_perm x r).mem_iff.1 hz) with rfl | hz
      · simp only [decide_eq_true_eq]; omega
      · exact h1 z hz
theorem sortZ_sorted : ∀ l, (sortZ l).Pairwise (fun a b => decide (a ≤ b) = true)
  | [] => by simp [sortZ]
  | x :: r => insZ_sorted x _ (sortZ_sorted r)
theorem sortZ_eq (l : List Int) : l.mergeSort (fun x y => decide (x ≤ y)) = sortZ l := by
  have tr : ∀ a b c : Int, decide (a ≤ b) = true → decide (b ≤ c) = true → decide (a ≤ c) = true := fun a b c h1 h2 => by simp only [decide_eq_true_eq] at *; omega
  have to : ∀ a b : Int, (decide (a ≤ b) || decide (b ≤ a)) = true := fun a b => by simp only [Bool.or_eq_true, decide_eq_true_eq]; omega
  refine List.Perm.eq_of_pairwise (le := fun a b => decide (a ≤ b) = true) (fun a b _ _ h1 h2 => ?_) (List.pairwise_mergeSort tr to l) (sortZ_sorted l) ((List.mergeSort_perm l _).trans (sortZ_perm l).symm)
  simp only [decide_eq_true_eq] at h1 h2
  omega

def intsOf : List Dat → Option (List Int)
  | [] => some []
  | .flat (.int .i64 n) :: r => (match intsOf r with | some l => some (n :: l) | none => none)
  | _ => none
theorem intsOf_spec : ∀ {es : List Dat} {zs : List Int}, intsOf es = some zs → es = zs.map (fun n => .flat (.int .i64 n))
  | [], zs, h => by simp [intsOf] at h; subst h; rfl
  | e :: r, zs, h => by
    unfold intsOf at h
    split at h
    · simp at *
    · rename_i n r' heq
      simp at heq
      obtain ⟨rfl, rfl⟩ := heq
      split at h
      · rename_i l hl
        simp at h
        subst h
        simp [intsOf_spec hl]
      · simp at h
    · simp at h

def intDat (n : Int) : Dat := .flat (.int .i64 n)

/-- slices.Sorted of slices.Values's iterator (the function g) over a slice that holds something. -/
def sortedVX (g : Nat) (args : List AVal) (heap : Heap) (next : Nat) : Option XRes :=
  match args with
  | [.fn (.func g') [] [.ref (.slice (e :: es) :: _)]] => (match Nat.beq g' g with
    | true => (match intsOf (e :: es) with
      | some zs => (match Nat.ble zs.length 4294967296 with
        | true => some ⟨.dat (.slice ((sortZ zs).map intDat)), heap, next⟩
        | false => none)
      | none => none)
    | false => none)
  | _ => none

/-- What slices.Values's iterator gives. -/
def ValuesGive (P : Program) (g : Nat) : Prop :=
  ∀ (n Bs bo n₀ b off cap : Nat) (zs : List Int) (w : World), 1 ≤ n → zs.length ≤ 4294967296 → Bs < w.heap.size → n₀ ≤ w.heap.size → w.cell? ⟨Bs, bo, none⟩ = some (.slice (some ⟨b, off, none⟩) zs.length cap) → b < n₀ →
    (∀ j, j < zs.length → w.cell? ⟨b, off + j, none⟩ = some (.int .i64 (zs[j]?.getD 0))) → GivesB Fence.wide P n g #[.pointer (some ⟨Bs, bo, none⟩)] zs n₀ w

theorem repC_flat_eq {w : World} {R : Own} {v u : Value} (h : RepC w R v (.flat u)) : v = u ∧ isFlat u = true := by cases h with | flat h => exact ⟨rfl, h⟩

theorem c_sortedV {G : Globs} {gv : Nat} (L6 : SlLaysZI.n6 P ρ) (hsort : AnyZI.SortsIn P ρ Fence.wide 4) (e9 : Enters P (ρ.f 9)) (ev : Enters P gv) (hv : ValuesGive P gv)
    {args : List AVal} {heap : Heap} {next : Nat} {r : XRes} (h : sortedVX gv args heap next = some r) : ACalls P G (ρ.f 6) args heap next (XQ r) := by
  unfold sortedVX at h
  split at h
  rotate_left
  · simp at h
  rename_i g' e0 es tl
  split at h
  rotate_left
  · simp at h
  rename_i hg
  have hg := Nat.eq_of_beq_eq_true hg
  subst hg
  split at h
  rotate_left
  · simp at h
  rename_i zs hzs
  split at h
  rotate_left
  · simp at h
  rename_i hlen
  have hlen := Nat.le_of_ble_eq_true hlen
  simp only [Option.some.injEq] at h
  subst h
  intro w R N cargs bsA bsH bsF hargs hheap hnd hnx hglob hF
  obtain ⟨v0, r1, c0, d1, rfl, rfl, h0, hr1⟩ := repVs_cons_inv hargs
  obtain ⟨rfl, rfl⟩ := repVs_nil_inv hr1
  simp only [RepV] at h0
  obtain ⟨rfl, vs, us, rfl, hvs, hus⟩ := h0
  obtain ⟨rfl, _⟩ := repVs_nil_inv hvs
  obtain ⟨u0, ur, f0, f1, rfl, hbs0, hu0, hur⟩ := repVs_cons_inv hus
  obtain ⟨rfl, _⟩ := repVs_nil_inv hur
  simp only [RepV] at hu0
  obtain ⟨_, b', bo, rfl, hat⟩ := hu0
  obtain ⟨⟨x0, hcell, _, hx0'⟩, _⟩ := hat
  have hes := intsOf_spec hzs
  have hel : (e0 :: es).length = zs.length := by rw [hes]; simp
  cases hx0' with
  | slice b off cap s es' vs hs hln hcap hb hcl hrep =>
    have hs1 : s = 1 := by
      rw [hes] at hln
      have h2 := hln (.flat (.int .i64 (zs.headD 0))) (by
        cases zs with
        | nil => simp at hes
        | cons z zr => simp)
      simpa [Dat.cells] using h2.symm
    subst hs1
    have hint : ∀ j, j < zs.length → w.cell? ⟨b, off + j, none⟩ = some (.int .i64 (zs[j]?.getD 0)) := by
      intro j hj
      obtain ⟨hc, _⟩ := hcl j 0 (by rw [hel]; exact hj) (by omega)
      have he : (e0 :: es)[j]? = some (.flat (.int .i64 (zs[j]?.getD 0))) := by
        rw [hes, List.getElem?_map, List.getElem?_eq_getElem hj]
        simp
      have hr := hrep j 0 _ (.flat (.int .i64 (zs[j]?.getD 0))) he (by simp [Dat.cells])
      have hv' : vs j 0 = .int .i64 (zs[j]?.getD 0) := (repC_flat_eq hr).1
      rw [hv'] at hc
      simpa using hc
    have hbl : b < w.heap.size := by
      have : 0 < zs.length := by rw [← hel]; simp
      exact lt_of_cell (hint 0 this)
    have hseq := hv 2 b' bo w.heap.size b off cap zs w (by omega) hlen (lt_of_cell hcell) (Nat.le_refl _) (by rw [hcell, hel]) hbl hint
    have cS := sortedB L6 Fence.wide trivial trivial trivial trivial rfl 5 (by omega) hsort e9 g' #[.pointer (some ⟨b', bo, none⟩)] trivial ev zs hlen w hseq
    refine (callsIn_wide.1 cS).mono ?_
    rintro e w' ⟨v, rfl, hrow, hnil, hbw⟩
    rw [sortZ_eq] at hrow
    have hsl : (sortZ zs).length = zs.length := (sortZ_perm zs).length_eq
    have hk := fun bs => keep_below (w := w) (w' := w') (R := R) hbw bs
    refine ⟨_, _, _, next, _, N, [], _, rfl, ⟨rfl, rfl, rfl⟩, repV_dat (w := w') (R := fun b off => b < w.heap.size ∧ R b off) ?_, hheap.keep (hk _), by simpa using hnd, hnx, hk bsF, fun _ _ h => h⟩
    obtain ⟨hl, hrow⟩ := hrow
    rcases hrow with ⟨_, hz⟩ | ⟨g, cap', cur, rfl, hbase, hgb, q1, q2, q3, q4⟩
    · rw [← hel] at hz; simp at hz
    · have hel2 : ((sortZ zs).map intDat).length = zs.length := by simp [hsl]
      rw [← hel2]
      show RepC _ _ _ _
      refine .slice g 0 cap' 1 _ (fun i _ => cur[i]?.getD default) (by omega) ?_ (by rw [hel2]; exact q1) (by rw [hel2]; simp only [lim]; omega) ?_ ?_
      · intro e he
        simp only [List.mem_map] at he
        obtain ⟨y, _, rfl⟩ := he
        rfl
      · intro i j hi hj
        rw [hel2] at hi
        have hci : i < cur.size := by omega
        refine ⟨?_, fun hR => by omega⟩
        have : j = 0 := by omega
        subst this
        simp [World.cell?, hgb, hci]
      · intro i j e c he hc
        have hi : i < (sortZ zs).length := by
          rcases Nat.lt_or_ge i (sortZ zs).length with h' | h'
          · exact h'
          · rw [List.getElem?_eq_none (by simpa using h')] at he; simp at he
        have hcur : cur[i]? = some (encZ (sortZ zs)[i]) := by
          have hti : (cur.toList.take (zs.length * 1))[i]? = some (encZ (sortZ zs)[i]) := by
            rw [q4, List.getElem?_map, List.getElem?_eq_getElem hi]; rfl
          rw [List.getElem?_take_of_lt (by omega)] at hti
          simpa using hti
        have he' : e = intDat (sortZ zs)[i] := by
          rw [List.getElem?_map, List.getElem?_eq_getElem hi] at he
          simpa using he.symm
        subst he'
        have hc' : c = intDat (sortZ zs)[i] := by
          cases j with
          | zero => simpa [intDat, Dat.cells] using hc.symm
          | succ j => simp [intDat, Dat.cells] at hc
        subst hc'
        rw [hcur]
        have hb8 : isFlat (.int .i64 (sortZ zs)[i]) = true := by
          have hm : (sortZ zs)[i] ∈ zs := (sortZ_perm zs).mem_iff.1 (List.getElem_mem hi)
          obtain ⟨j', hj', e⟩ := List.getElem_of_mem hm
          have he3 : (e0 :: es)[j']? = some (.flat (.int .i64 (zs[j']'hj'))) := by
            rw [hes, List.getElem?_map, List.getElem?_eq_getElem hj']; rfl
          have hr := hrep j' 0 _ (.flat (.int .i64 (zs[j']'hj'))) he3 (by simp [Dat.cells])
          rw [e] at hr
          exact (repC_flat_eq hr).2
        exact .flat (w := w') (v := .int .i64 (sortZ zs)[i]) hb8
end Go.Tp
