/- The generic layer: what is known of strings.Builder's methods and of strings.Join, by the shelf's contracts. -/
import Derived.Test.YteanmfacikjjhaaGreatDoorTpFrun2
import Derived.Shelf.Strings.OnBuilder
namespace Go.Tp
open Go.Proofs Go.Shelf Go.RowKit

section
variable {P : Program} {ρ : Ren} {G : Globs}

/-! ### copyCheck -/
def copyX (args : List AVal) (heap : Heap) (next : Nat) : Option XRes :=
  match args with
  | [.ptr (.out k) 0] => (match agetF (.out k) heap with
    | some (.cells [.dat (.flat (.pointer none)), q]) => (match isS q with | true => some ⟨.tup [], asetF (.out k) (.cells [.ptr (.out k) 0, q]) heap, next⟩ | false => none)
    | some (.cells [.ptr (.out m) 0, q]) => (match Nat.beq m k && isS q with | true => some ⟨.tup [], heap, next⟩ | false => none)
    | _ => none)
  | _ => none

/-- A builder's block. -/
theorem bld_block {w : World} {R : Own} {N : Name → Option Nat} {p q : AVal} {b : Nat} {b1 : List Nat} (h : RepObj w R N (.cells [p, q]) b b1) (hp : isP p = true) (hq : isS q = true) :
    ∃ v0 v1 c0 c1, w.heap[b]? = some (.cells #[v0, v1] bldId (0, 0)) ∧ b1 = c0 ++ c1 ∧ RepV w R N p v0 c0 ∧ RepV w R N q v1 c1 ∧ ∀ j, j < 2 → R b j := by
  obtain ⟨vs, elem, sp, hblk, hr, hR, hsh⟩ := h
  obtain ⟨rfl, rfl⟩ := hsh (bldSh_iff.2 ⟨p, _, rfl, hp, hq⟩)
  simp only [List.replicate_zero, List.append_nil] at hr
  obtain ⟨v0, r1, c0, d1, e1, rfl, h0, hr1⟩ := repVs_cons_inv hr
  obtain ⟨v1, r2, c1, d2, rfl, rfl, h1, hr2⟩ := repVs_cons_inv hr1
  obtain ⟨rfl, rfl⟩ := repVs_nil_inv hr2
  have hvs : vs = #[v0, v1] := by apply Array.toList_inj.1; rw [e1]
  subst hvs
  exact ⟨v0, v1, c0, c1, hblk, by simp, h0, h1, fun j hj => hR j (by simpa using hj)⟩

theorem one_ptr {w : World} {R : Own} {N : Name → Option Nat} {k : Nat} {cargs : List Value} {bs : List Nat} (h : RepVs w R (outs N) [.ptr (.out k) 0] cargs bs) :
    ∃ b, N (.out k) = some b ∧ cargs = [.pointer (some ⟨b, 0, none⟩)] ∧ bs = [] := by
  obtain ⟨v, vs', b1, b2, rfl, rfl, h1, h2⟩ := repVs_cons_inv h
  obtain ⟨rfl, rfl⟩ := repVs_nil_inv h2
  simp only [RepV] at h1
  obtain ⟨rfl, b, hb, rfl⟩ := h1
  exact ⟨b, by simpa [outs] using hb, rfl, rfl⟩

theorem c_copy (L : Lays.n240 P ρ) (X : Builder.X72 P ρ) (hT : ρ.t 72 = bldId) {args : List AVal} {heap : Heap} {next : Nat} {r : XRes} (h : copyX args heap next = some r) : ACalls P G (ρ.f 240) args heap next (XQ r) := by
  unfold copyX at h
  split at h
  rotate_left
  · simp at h
  rename_i k
  rw [agetF_eq] at h
  intro w R N cargs bsA bsH bsF hargs hheap hnd hnx hglob hF
  obtain ⟨b, hb, rfl, rfl⟩ := one_ptr hargs
  split at h
  · rename_i q hget
    split at h
    rotate_left
    · simp at h
    rename_i hq
    simp only [Option.some.injEq] at h
    subst h
    obtain ⟨pre, b', b1, post, rfl, hb', hobj, hset⟩ := RepObjs.split hheap hget
    have : b' = b := by simp only [outs] at hb'; rw [hb] at hb'; simpa using hb'.symm
    subst this
    obtain ⟨v0, v1, c0, c1, hblk, rfl, h0, h1, hR⟩ := bld_block hobj rfl hq
    obtain ⟨rfl, rfl, _⟩ := repV_flat_inv h0
    have hcell : w.cell? ⟨b', 0, none⟩ = some (.pointer none) := by simp [World.cell?, hblk]
    have hshape : w.shape? b' = some ((ρ.t 72), 2) := by simp [World.shape?, hblk, hT]
    have hfz : w.frozen? ⟨b', 0, none⟩ = false := by simp [World.frozen?, hblk]
    refine (Any.Builder_copyCheck_fresh L X b' w hcell hshape hfz).mono ?_
    rintro e w' ⟨rfl, rfl⟩
    rw [setCell_eq_setRow w b' 0 _ _ _ _ hblk]
    have hnd2 := hnd
    simp only [List.nil_append] at hnd2
    have hbn : ∀ c ∈ c1 ++ (pre ++ (post ++ bsF)), c ≠ b' := by
      intro c hc e
      subst e
      have hp : ((pre ++ (c :: ([] ++ c1)) ++ post) ++ bsF).Perm (c :: (c1 ++ (pre ++ (post ++ bsF)))) := by
        rw [List.perm_iff_count]; intro q; simp only [List.count_append, List.count_cons, List.count_nil]; omega
      exact (List.nodup_cons.1 (hp.nodup_iff.1 hnd2)).1 hc
    have hk : ∀ bs : List Nat, b' ∉ bs → Keep w R (w.setRow b' ((#[Value.pointer none, v1]).setIfInBounds 0 (.pointer (some ⟨b', 0, none⟩)))) R bs := fun bs hbs =>
      step_setRow hblk _ (by simp) (fun _ _ h => h) (fun _ _ _ h => h) (fun off hnR => by
        have : ¬ off < 2 := fun hlt => hnR (hR off hlt)
        rw [Array.getElem?_eq_none (by simp; omega), Array.getElem?_eq_none (by simp; omega)]) ⟨0, hR 0 (by omega)⟩ bs hbs
    have hobj' : RepObj (w.setRow b' ((#[Value.pointer none, v1]).setIfInBounds 0 (.pointer (some ⟨b', 0, none⟩)))) R (outs N) (.cells [.ptr (.out k) 0, q]) b' ([] ++ c1) := by
      refine ⟨_, bldId, 0, setRow_heap w b' _ _ _ _ hblk, ?_, fun j hj => hR j (by simpa using hj), fun _ => ⟨rfl, rfl⟩⟩
      have q1 : RepV (w.setRow b' ((#[Value.pointer none, v1]).setIfInBounds 0 (.pointer (some ⟨b', 0, none⟩)))) R (outs N) (.ptr (.out k) 0) (.pointer (some ⟨b', 0, none⟩)) [] := by
        simp only [RepV]; exact ⟨trivial, b', by simpa [outs] using hb, rfl⟩
      have q2 : RepV (w.setRow b' ((#[Value.pointer none, v1]).setIfInBounds 0 (.pointer (some ⟨b', 0, none⟩)))) R (outs N) q v1 c1 := by
        exact h1.keep (hk c1 (fun hc => hbn b' (by simp [hc]) rfl))
      simpa using repVs_cons q1 (repVs_cons q2 repVs_nil)
    have hH := hset _ R _ ([] ++ c1) (hk (pre ++ post) (fun hc => hbn b' (by simp at hc ⊢; rcases hc with h | h <;> simp [h]) rfl)) hobj'
    refine ⟨.tup [], .tuple #[], _, next, R, N, [], _, rfl, ⟨rfl, rfl, rfl⟩, by simp [RepV, RepVs], by rw [asetF_eq]; exact hH, by simpa using hnd, hnx, hk bsF (fun hc => hbn b' (by simp [hc]) rfl), fun _ _ h => h⟩
  · rename_i m q hget
    split at h
    · rename_i hm0
      simp only [Bool.and_eq_true] at hm0
      obtain ⟨hm, hq⟩ := hm0
      simp only [Option.some.injEq] at h
      subst h
      have hmk : m = k := Nat.eq_of_beq_eq_true hm
      subst hmk
      obtain ⟨pre, b', b1, post, rfl, hb', hobj, hset⟩ := RepObjs.split hheap hget
      have : b' = b := by simp only [outs] at hb'; rw [hb] at hb'; simpa using hb'.symm
      subst this
      obtain ⟨v0, v1, c0, c1, hblk, rfl, h0, h1, hR⟩ := bld_block hobj rfl hq
      simp only [RepV] at h0
      obtain ⟨rfl, b2, hb2, rfl⟩ := h0
      have : b2 = b' := by simp only [outs] at hb2; rw [hb] at hb2; simpa using hb2.symm
      subst this
      have hcell : w.cell? ⟨b2, 0, none⟩ = some (.pointer (some ⟨b2, 0, none⟩)) := by simp [World.cell?, hblk]
      refine (Any.Builder_copyCheck_used L X b2 w hcell).mono ?_
      rintro e w' ⟨rfl, rfl⟩
      exact ⟨.tup [], .tuple #[], _, next, R, N, [], _, rfl, ⟨rfl, rfl, rfl⟩, by simp [RepV, RepVs], hheap, by simpa using hnd, hnx, keep_refl _, fun _ _ h => h⟩
    · simp at h
  · simp at h

/-! ### String -/
def bytesD : List Dat → Option (List UInt8)
  | [] => some []
  | .flat (.int .u8 (.ofNat n)) :: r => (match bytesD r with | some l => some (UInt8.ofNat n :: l) | none => none)
  | _ => none

def strX (args : List AVal) (heap : Heap) (next : Nat) : Option XRes :=
  match args with
  | [.ptr (.out k) 0] => (match agetF (.out k) heap with
    | some (.cells [p, .own (e :: es)]) => (match isP p, bytesD (e :: es) with
      | true, some l => some ⟨.dat (.flat (.string ⟨⟨l⟩⟩)), asetF (.out k) (.cells [p, .dat (.slice (e :: es))]) heap, next⟩
      | _, _ => none)
    | some (.cells [p, .dat (.flat (.slice none 0 0))]) => (match isP p with
      | true => some ⟨.dat (.flat (.string .empty)), heap, next⟩
      | false => none)
    | _ => none)
  | _ => none

theorem bytesD_spec : ∀ {es : List Dat} {l : List UInt8}, bytesD es = some l → l.length = es.length ∧ ∀ (j : Nat) x, l[j]? = some x → ∃ n : Nat, es[j]? = some (.flat (.int .u8 (.ofNat n))) ∧ x = UInt8.ofNat n
  | [], l, h => by simp [bytesD] at h; subst h; exact ⟨rfl, fun j x hj => by simp at hj⟩
  | d :: r, l, h => by
    unfold bytesD at h
    split at h
    · simp at *
    · rename_i n r' heq
      simp at heq
      obtain ⟨rfl, rfl⟩ := heq
      split at h
      · rename_i l' hl'
        simp at h
        subst h
        obtain ⟨h1, h2⟩ := bytesD_spec hl'
        refine ⟨by simp [h1], fun j x hj => ?_⟩
        cases j with
        | zero => simp at hj; exact ⟨n, rfl, hj.symm⟩
        | succ j => simpa using h2 j x (by simpa using hj)
      · simp at h
    · simp at h

theorem u8_back {n : Nat} (h : isFlat (.int .u8 (Int.ofNat n)) = true) : ((UInt8.ofNat n).toNat : Int) = Int.ofNat n := by
  simp only [isFlat, Bool.and_eq_true, decide_eq_true_eq] at h
  have h2 : IntKind.u8.max = 255 := by decide
  rw [h2] at h
  have : n < 256 := by have := h.2; simp at this; omega
  simp [Nat.mod_eq_of_lt this]

set_option maxHeartbeats 2000000 in
set_option maxRecDepth 100000 in
theorem string_exact (L : Lays.n169 P ρ) (X : Builder.Extra P ρ) (T : TypeId) (b g cap : Nat) (p : Value) (cur : Array Value) (l : List UInt8) (w : World) (h0 : l ≠ []) (hbk : w.heap[b]? = some (.cells #[p, .slice (some ⟨g, 0, none⟩) l.length cap] T (0, 0)))
    (hg : w.heap[g]? = some (.cells cur (ρ.t 5) (0, 0))) (hcap : l.length ≤ cap) (hlc : l.length ≤ cur.size) (hmax : l.length ≤ maxLen) (hby : ∀ (j : Nat) x, l[j]? = some x → w.cell? ⟨g, j, none⟩ = some (.int .u8 x.toNat)) :
    Calls P (ρ.f 169) #[.pointer (some ⟨b, 0, none⟩)] w fun e w' => e = .returned (.string ⟨l.toArray⟩) ∧ w' = w.drew.freeze ⟨g, 0, none⟩ l.length := by
  have hl0 : l.length ≠ 0 := by simpa using h0
  have c1 : w.drew.cell? ⟨b, 1, none⟩ = some (.slice (some ⟨g, 0, none⟩) l.length cap) := by
    have : w.drew.heap[b]? = some (.cells #[p, .slice (some ⟨g, 0, none⟩) l.length cap] T (0, 0)) := hbk
    rw [Lib.cell_of_heap this]; rfl
  have hSD : (Builtin.unsafeSliceData_ #[(ρ.t 37)] (ρ.t 127) #[.slice (some ⟨g, 0, none⟩) l.length cap]).run P w.drew = .ok (.pointer (some ⟨g, 0, none⟩)) w.drew :=
    Lib.run_unsafeSliceData_row _ _ _ _ _ _ (by omega)
  have hUS : (Builtin.unsafeString_ #[(ρ.t 127), (ρ.t 3)] (ρ.t 9) #[.pointer (some ⟨g, 0, none⟩), .int .i64 l.length]).run P w.drew = .ok (.string ⟨l.toArray⟩) (w.drew.freeze ⟨g, 0, none⟩ l.length) := by
    refine Lib.run_unsafeString_row w.drew (ρ.t 127) (ρ.t 3) (ρ.t 9) (ρ.t 5) L.t127 X.cellsByte g cur.size (by have hg' : w.drew.heap[g]? = some (.cells cur (ρ.t 5) (0, 0)) := hg; simp [World.shape?, hg']) l h0 (by omega) (by unfold maxLen at hmax; omega) ?_
    intro j x hx
    rw [add_plain, Nat.zero_add]
    exact hby j x hx
  have mixed := L.mixed
  have t72 := L.t72; have a72 := L.a72; have z72 := L.z72; have v72 := L.v72; have u72 := run_underlying L.t72
  have t70 := L.t70; have a70 := L.a70; have z70 := L.z70; have v70 := L.v70; have u70 := run_underlying L.t70
  have t37 := L.t37; have a37 := L.a37; have z37 := L.z37; have v37 := L.v37; have u37 := run_underlying L.t37
  have t127 := L.t127; have a127 := L.a127; have z127 := L.z127; have v127 := L.v127; have u127 := run_underlying L.t127
  have t3 := L.t3; have a3 := L.a3; have z3 := L.z3; have v3 := L.v3; have u3 := run_underlying L.t3
  have t9 := L.t9; have a9 := L.a9; have z9 := L.z9; have v9 := L.v9; have u9 := run_underlying L.t9
  have t5 := X.t5; have a5 := X.a5; have z5 := X.z5; have v5 := X.v5; have u5 := run_underlying X.t5
  go_enter L.f169, Body.n169_ntmps ρ
  go_wp2
  go_region_o
  all_goals (go_wp2; go_ret; exact ⟨rfl, rfl⟩)

set_option maxHeartbeats 2000000 in
set_option maxRecDepth 100000 in
theorem string_nil (L : Lays.n169 P ρ) (X : Builder.Extra P ρ) (T : TypeId) (b : Nat) (p : Value) (w : World) (hbk : w.heap[b]? = some (.cells #[p, .slice none 0 0] T (0, 0))) :
    Calls P (ρ.f 169) #[.pointer (some ⟨b, 0, none⟩)] w fun e w' => e = .returned (.string .empty) ∧ w' = w.drew := by
  have c1 : w.drew.cell? ⟨b, 1, none⟩ = some (.slice none 0 0) := by
    have : w.drew.heap[b]? = some (.cells #[p, .slice none 0 0] T (0, 0)) := hbk
    rw [Lib.cell_of_heap this]; rfl
  have hSD : (Builtin.unsafeSliceData_ #[(ρ.t 37)] (ρ.t 127) #[.slice none 0 0]).run P w.drew = .ok (.pointer none) w.drew := rfl
  have hUS : (Builtin.unsafeString_ #[(ρ.t 127), (ρ.t 3)] (ρ.t 9) #[.pointer none, .int .i64 0]).run P w.drew = .ok (.string .empty) w.drew :=
    Lib.run_unsafeString_none (w := w.drew) (ρ.t 127) (ρ.t 3) (ρ.t 9) none
  have mixed := L.mixed
  have t72 := L.t72; have a72 := L.a72; have z72 := L.z72; have v72 := L.v72; have u72 := run_underlying L.t72
  have t70 := L.t70; have a70 := L.a70; have z70 := L.z70; have v70 := L.v70; have u70 := run_underlying L.t70
  have t37 := L.t37; have a37 := L.a37; have z37 := L.z37; have v37 := L.v37; have u37 := run_underlying L.t37
  have t127 := L.t127; have a127 := L.a127; have z127 := L.z127; have v127 := L.v127; have u127 := run_underlying L.t127
  have t3 := L.t3; have a3 := L.a3; have z3 := L.z3; have v3 := L.v3; have u3 := run_underlying L.t3
  have t9 := L.t9; have a9 := L.a9; have z9 := L.z9; have v9 := L.v9; have u9 := run_underlying L.t9
  have t5 := X.t5; have a5 := X.a5; have z5 := X.z5; have v5 := X.v5; have u5 := run_underlying X.t5
  go_enter L.f169, Body.n169_ntmps ρ
  go_wp2
  go_region_o
  all_goals (go_wp2; go_ret; exact ⟨rfl, rfl⟩)

theorem freeze_heap_other {w : World} {g n c : Nat} (h : c ≠ g) : (w.freeze ⟨g, 0, none⟩ n).heap[c]? = w.heap[c]? := by
  unfold World.freeze
  split
  · rfl
  · simp only [Array.getElem?_modify]
    rw [if_neg (fun e => h e.symm)]

theorem freeze_heap_self {w : World} {g n : Nat} {cs : Array Value} {t : TypeId} (h : w.heap[g]? = some (.cells cs t (0, 0))) : ∃ fr, (w.freeze ⟨g, 0, none⟩ n).heap[g]? = some (.cells cs t fr) := by
  unfold World.freeze
  split
  · exact ⟨_, h⟩
  · refine ⟨(0, 0 + n), ?_⟩
    simp only [Array.getElem?_modify, if_pos, h, Option.map_some]
    simp

theorem keep_drew {w : World} {R : Own} (bs : List Nat) : Keep w R w.drew R bs :=
  ⟨⟨rfl, rfl, rfl, Nat.le_refl _, fun _ _ h => ⟨rfl, h⟩, fun _ _ _ h => ⟨h, rfl⟩, fun _ _ => rfl⟩, fun _ _ _ => ⟨rfl, fun _ h => h⟩⟩

theorem freeze_size {w : World} {g n : Nat} : (w.freeze ⟨g, 0, none⟩ n).heap.size = w.heap.size := by
  unfold World.freeze
  split <;> simp

theorem freeze_rest {w : World} {g n : Nat} : (w.freeze ⟨g, 0, none⟩ n).os = w.os ∧ (w.freeze ⟨g, 0, none⟩ n).tape = w.tape ∧ (w.freeze ⟨g, 0, none⟩ n).output = w.output := by
  unfold World.freeze
  split <;> simp

theorem keep_freeze {w : World} {R : Own} {g n : Nat} {cs : Array Value} {t : TypeId} (hg : w.heap[g]? = some (.cells cs t (0, 0))) (hR : ∃ off, R g off) (bs : List Nat) (hb : g ∉ bs) : Keep w R (w.drew.freeze ⟨g, 0, none⟩ n) R bs := by
  have hg' : w.drew.heap[g]? = some (.cells cs t (0, 0)) := hg
  obtain ⟨fr, hfr⟩ := freeze_heap_self (n := n) hg'
  obtain ⟨e1, e2, e3⟩ := freeze_rest (w := w.drew) (g := g) (n := n)
  have hoth : ∀ c, c ≠ g → (w.drew.freeze ⟨g, 0, none⟩ n).heap[c]? = w.heap[c]? := fun c hc => freeze_heap_other hc
  refine ⟨⟨e1, e2, e3, ?_, ?_, ?_, ?_⟩, ?_⟩
  · rw [freeze_size]; exact Nat.le_refl _
  · intro c _ hno
    obtain ⟨off, ho⟩ := hR
    exact ⟨hoth c (fun e => hno off (e ▸ ho)), hno⟩
  · intro c off _ hno
    refine ⟨hno, ?_⟩
    by_cases hc : c = g
    · subst hc
      simp only [World.cell?, hg, hfr]
    · exact World.cell?_of_block (a := ⟨c, off, none⟩) (hoth c hc)
  · intro c _
    by_cases hc : c = g
    · subst hc
      simp only [rowSize, hg, hfr]
    · exact rowSize_same (hoth c hc)
  · intro c hc _
    exact ⟨hoth c (fun e => hb (e ▸ hc)), fun _ h => h⟩

theorem str_some (L : Lays.n169 P ρ) (X : Builder.Extra P ρ) (hB : ρ.t 5 = byteId) {w : World} {R : Own} {N : Name → Option Nat} {heap : Heap} {next k b : Nat} {p : AVal} {d : Dat} {es : List Dat} {l : List UInt8} {bsH bsF : List Nat}
    (hb : N (.out k) = some b) (hheap : RepObjs w R (outs N) heap bsH) (hnd : ([] ++ (bsH ++ bsF)).Nodup) (hnx : ∀ o b, N (.out o) = some b → o < next)
    (hget : aget (.out k) heap = some (.cells [p, .own (d :: es)])) (hp : isP p = true) (hl : bytesD (d :: es) = some l) :
    Calls P (ρ.f 169) #[.pointer (some ⟨b, 0, none⟩)] w fun e w' => ∃ v cv heap' next' R' N' bsV bsH', e = .returned cv ∧ XQ ⟨.dat (.flat (.string ⟨⟨l⟩⟩)), asetF (.out k) (.cells [p, .dat (.slice (d :: es))]) heap, next⟩ v heap' next' ∧ RepV w' R' (outs N') v cv bsV ∧ RepObjs w' R' (outs N') heap' bsH' ∧
      (bsV ++ (bsH' ++ bsF)).Nodup ∧ (∀ o b, N' (.out o) = some b → o < next') ∧ Keep w R w' R' bsF ∧ (∀ o b, N (.out o) = some b → N' (.out o) = some b) := by
  obtain ⟨pre, b', b1, post, rfl, hb', hobj, hset⟩ := RepObjs.split hheap hget
  have : b' = b := by simp only [outs] at hb'; rw [hb] at hb'; simpa using hb'.symm
  subst this
  obtain ⟨v0, v1, c0, c1, hblk, rfl, h0, h1, hR⟩ := bld_block hobj hp rfl
  replace h1 := repV_own_inv h1
  obtain ⟨hll, hle⟩ := bytesD_spec hl
  rcases repOwn_inv h1 with ⟨_, he, _⟩ | ⟨g, cap, s, cur, t, rfl, rfl, hg, hs0, hs, hcap, _, hin, hrep, hsp, hty⟩
  · simp at he
  have hd : ∃ n : Nat, d = .flat (.int .u8 (.ofNat n)) := by
    cases l with
    | nil => simp at hll
    | cons x l => obtain ⟨n, hn, _⟩ := hle 0 x rfl; simp at hn; exact ⟨n, hn⟩
  obtain ⟨n0, rfl⟩ := hd
  have hs1 : s = 1 := by have := hs _ (List.mem_cons_self ..); simpa [Dat.cells] using this.symm
  subst hs1
  have htb : t = byteId := hty rfl
  subst htb
  obtain ⟨g', off', cap', cells, hv, _, hcs, hcell⟩ := repC_flat hrep (by simp) hs
  simp at hv
  obtain ⟨⟨rfl, rfl⟩, rfl⟩ := hv
  have hfl : (Dat.flat (.int .u8 (.ofNat n0)) :: es).flatMap Dat.cells = Dat.flat (.int .u8 (.ofNat n0)) :: es := by
    have key : ∀ es' : List Dat, (∀ e ∈ es', ∃ n : Nat, e = .flat (.int .u8 (.ofNat n))) → es'.flatMap Dat.cells = es' := by
      intro es'
      induction es' with
      | nil => intro _; rfl
      | cons e es' ih =>
        intro hall
        obtain ⟨n, rfl⟩ := hall e (by simp)
        simp only [List.flatMap_cons, Dat.cells, List.singleton_append]
        rw [ih (fun e he => hall e (by simp [he]))]
    refine key _ (fun e he => ?_)
    obtain ⟨j, hj⟩ := List.getElem?_of_mem he
    have hjl : j < l.length := by
      rw [hll]
      rcases Nat.lt_or_ge j (Dat.flat (.int .u8 (.ofNat n0)) :: es).length with h' | h'
      · exact h'
      · rw [List.getElem?_eq_none h'] at hj; simp at hj
    obtain ⟨n, hn, _⟩ := hle j l[j] (by simp)
    rw [hj] at hn
    simp at hn
    exact ⟨n, hn⟩
  rw [hfl] at hcs
  have hby : ∀ (j : Nat) x, l[j]? = some x → w.cell? ⟨g, j, none⟩ = some (.int .u8 x.toNat) := by
    intro j x hx
    obtain ⟨n, hn, rfl⟩ := hle j x hx
    obtain ⟨v, hv, hrv⟩ := repCs_get hcs hn
    have hc := (hcell j v hv).1
    cases hrv with
    | flat hfv =>
      rw [Nat.zero_add] at hc
      rw [hc, u8_back hfv]
  have hlen : (Dat.flat (.int .u8 (.ofNat n0)) :: es).length = l.length := hll.symm
  have hlim := (RepC.bnd hrep)
  simp only [bndD] at hlim
  rw [hlen] at hblk hcap hlim hsp
  have hnd2 := hnd
  simp only [List.nil_append] at hnd2
  have hperm : ((pre ++ (b' :: (c0 ++ [g])) ++ post) ++ bsF).Perm (g :: (b' :: (c0 ++ (pre ++ (post ++ bsF))))) := by
    rw [List.perm_iff_count]; intro q; simp only [List.count_append, List.count_cons, List.count_nil]; omega
  have hnd3 := hperm.nodup_iff.1 hnd2
  have hgn : ∀ c ∈ b' :: (c0 ++ (pre ++ (post ++ bsF))), c ≠ g := fun c hc e => (List.nodup_cons.1 hnd3).1 (e ▸ hc)
  have hlc : l.length ≤ cur.size := by have : l.length * 1 ≤ cap * 1 := Nat.mul_le_mul_right _ hcap; omega
  refine (string_exact L X bldId b' g cap v0 cur l w (by intro e; rw [e] at hll; simp at hll) hblk (by rw [hB]; exact hg) hcap hlc (by unfold maxLen; have := hlim.1; unfold lim at this; omega) hby).mono ?_
  rintro e w' ⟨rfl, rfl⟩
  have hRg : ∃ off, R g off := ⟨cur.size, hsp _ (by omega) (.inr (Nat.le_refl _))⟩
  have hk : ∀ bs : List Nat, g ∉ bs → Keep w R (w.drew.freeze ⟨g, 0, none⟩ l.length) R bs := fun bs hbs => keep_freeze hg hRg bs hbs
  have hblk' : (w.drew.freeze ⟨g, 0, none⟩ l.length).heap[b']? = some (.cells #[v0, .slice (some ⟨g, 0, none⟩) l.length cap] bldId (0, 0)) := by
    rw [freeze_heap_other (hgn b' (by simp))]; exact hblk
  have hobj' : RepObj (w.drew.freeze ⟨g, 0, none⟩ l.length) R (outs N) (.cells [p, .dat (.slice (.flat (.int .u8 (.ofNat n0)) :: es))]) b' (c0 ++ []) := by
    refine ⟨_, bldId, 0, hblk', ?_, fun j hj => hR j (by simpa using hj), fun _ => ⟨rfl, rfl⟩⟩
    have q1 := h0.keep (hk c0 (fun hc => hgn g (by simp [hc]) rfl))
    have q2 : RepV (w.drew.freeze ⟨g, 0, none⟩ l.length) R (outs N) (.dat (.slice (.flat (.int .u8 (.ofNat n0)) :: es))) (.slice (some ⟨g, 0, none⟩) l.length cap) [] := by
      have := hrep.step (hk [] (by simp)).step
      rw [hlen] at this
      exact repV_dat (d := .slice _) this
    simpa using repVs_cons q1 (repVs_cons q2 repVs_nil)
  have hH := hset _ R _ (c0 ++ []) (hk (pre ++ post) (fun hc => hgn g (by simp at hc ⊢; rcases hc with h | h <;> simp [h]) rfl)) hobj'
  refine ⟨_, .string ⟨l.toArray⟩, _, next, R, N, [], _, rfl, ⟨rfl, rfl, rfl⟩, ?_, by rw [asetF_eq]; exact hH, ?_, hnx, hk bsF (fun hc => hgn g (by simp [hc]) rfl), fun _ _ h => h⟩
  · refine repV_flat ?_
    simp only [isFlat, decide_eq_true_eq]
    have h2 := hlim.1
    unfold lim at h2
    have : (ByteArray.mk ⟨l⟩).size = l.length := rfl
    rw [this]
    omega
  · simp only [List.nil_append, List.append_nil]
    have hp2 : (b' :: (c0 ++ (pre ++ (post ++ bsF)))).Perm ((pre ++ (b' :: c0) ++ post) ++ bsF) := by
      rw [List.perm_iff_count]; intro q; simp only [List.count_append, List.count_cons]; omega
    exact hp2.nodup_iff.1 (List.nodup_cons.1 hnd3).2

theorem c_str (L : Lays.n169 P ρ) (X : Builder.Extra P ρ) (hB : ρ.t 5 = byteId) {args : List AVal} {heap : Heap} {next : Nat} {r : XRes} (h : strX args heap next = some r) : ACalls P G (ρ.f 169) args heap next (XQ r) := by
  unfold strX at h
  split at h
  rotate_left
  · simp at h
  rename_i k
  rw [agetF_eq] at h
  intro w R N cargs bsA bsH bsF hargs hheap hnd hnx hglob hF
  obtain ⟨b, hb, rfl, rfl⟩ := one_ptr hargs
  split at h
  · rename_i p d es hget
    revert h
    intro h
    split at h
    rotate_left
    · simp at h
    rename_i l hp hl
    simp only [Option.some.injEq] at h
    subst h
    exact str_some L X hB hb hheap hnd hnx hget hp hl
  · rename_i p hget
    split at h
    rotate_left
    · simp at h
    rename_i hp
    simp only [Option.some.injEq] at h
    subst h
    obtain ⟨pre, b', b1, post, rfl, hb', hobj, hset⟩ := RepObjs.split hheap hget
    have : b' = b := by simp only [outs] at hb'; rw [hb] at hb'; simpa using hb'.symm
    subst this
    obtain ⟨v0, v1, c0, c1, hblk, rfl, h0, h1, hR⟩ := bld_block hobj hp rfl
    obtain ⟨_, rfl, _⟩ := repV_flat_inv h1
    refine (string_nil L X bldId b' v0 w hblk).mono ?_
    rintro e w' ⟨rfl, rfl⟩
    have hk : ∀ bs : List Nat, Keep w R w.drew R bs := fun bs => keep_drew bs
    exact ⟨_, _, _, next, R, N, [], _, rfl, ⟨rfl, rfl, rfl⟩, repV_flat rfl, hheap.keep (hk _), by simpa using hnd, hnx, hk bsF, fun _ _ h => h⟩
  · simp at h

/-! ### Join -/
def strsOf : List Dat → Option (List ByteArray)
  | [] => some []
  | .flat (.string s) :: r => (match strsOf r with | some l => some (s :: l) | none => none)
  | _ => none

def joinL (sep : List UInt8) : List ByteArray → List UInt8
  | [] => []
  | [x] => x.data.toList
  | x :: r => x.data.toList ++ (sep ++ joinL sep r)

theorem joinL_eq (sep : List UInt8) : ∀ xs : List ByteArray, joinL sep xs = Lib.join (xs.map (·.data.toList)) sep
  | [] => rfl
  | [x] => by simp only [joinL, List.map_cons, List.map_nil]; rw [Lib.join_one]
  | x :: y :: r => by
    have ih := joinL_eq sep (y :: r)
    simp only [joinL, List.map_cons] at ih ⊢
    rw [Lib.join_cons] at ih ⊢
    rw [ih]
    simp [Lib.joinTail]

def joinX (args : List AVal) (heap : Heap) (next : Nat) : Option XRes :=
  match args with
  | [a, .dat (.flat (.string sep))] => (match nz a with
    | .dat (.slice es) => (match strsOf es with
      | some xs => (match Nat.ble (joinL sep.data.toList xs).length 140737488355328 && Nat.ble xs.length 140737488355328 with
        | true => some ⟨.dat (.flat (.string ⟨⟨joinL sep.data.toList xs⟩⟩)), heap, next⟩
        | false => none)
      | none => none)
    | _ => none)
  | _ => none

theorem strsOf_spec : ∀ {es : List Dat} {xs : List ByteArray}, strsOf es = some xs → xs.length = es.length ∧ ∀ (j : Nat) x, xs[j]? = some x → es[j]? = some (.flat (.string x))
  | [], l, h => by simp [strsOf] at h; subst h; exact ⟨rfl, fun j x hj => by simp at hj⟩
  | d :: r, l, h => by
    unfold strsOf at h
    split at h
    · simp at *
    · rename_i s r' heq
      simp at heq
      obtain ⟨rfl, rfl⟩ := heq
      split at h
      · rename_i l' hl'
        simp at h
        subst h
        obtain ⟨h1, h2⟩ := strsOf_spec hl'
        refine ⟨by simp [h1], fun j x hj => ?_⟩
        cases j with
        | zero => simp at hj; simp [hj]
        | succ j => simpa using h2 j x (by simpa using hj)
      · simp at h
    · simp at h

/-- A call that leaves what lay there as it was. -/
theorem keep_below {w w' : World} {R : Own} (h : Below w.heap.size w w') (bs : List Nat) : Keep w R w' (fun b off => b < w.heap.size ∧ R b off) bs :=
  ⟨⟨h.os, h.tape, h.output, h.size, fun b hb hno => ⟨h.block b hb, fun off hr => hno off hr.2⟩, fun b off hb hno => ⟨fun hr => hno hr.2, World.cell?_of_block (a := ⟨b, off, none⟩) (h.block b hb)⟩, fun b hb => rowSize_same (h.block b hb)⟩,
    fun b _ hb => ⟨h.block b hb, fun off hr => ⟨hb, hr⟩⟩⟩

theorem c_join (L : Lays.n156 P ρ) (X : Builder.Extra P ρ) {args : List AVal} {heap : Heap} {next : Nat} {r : XRes} (h : joinX args heap next = some r) : ACalls P G (ρ.f 156) args heap next (XQ r) := by
  unfold joinX at h
  split at h
  rotate_left
  · simp at h
  rename_i a sep
  split at h
  rotate_left
  · simp at h
  rename_i es hnz
  split at h
  rotate_left
  · simp at h
  rename_i xs hxs
  split at h
  rotate_left
  · simp at h
  rename_i hc
  simp only [Bool.and_eq_true, Nat.ble_eq] at hc
  simp only [Option.some.injEq] at h
  subst h
  intro w R N cargs bsA bsH bsF hargs hheap hnd hnx hglob hF
  obtain ⟨v0, r1, c0, d1, rfl, rfl, h0, hr1⟩ := repVs_cons_inv hargs
  obtain ⟨v1, r2, c1, d2, rfl, rfl, h1, hr2⟩ := repVs_cons_inv hr1
  obtain ⟨rfl, rfl⟩ := repVs_nil_inv hr2
  replace h0 := repV_nz h0
  rw [hnz] at h0
  obtain ⟨rfl, hxr⟩ := repV_slice_inv h0
  obtain ⟨rfl, rfl, _⟩ := repV_flat_inv h1
  obtain ⟨hxl, hxe⟩ := strsOf_spec hxs
  have fin : ∀ {w' : World}, Below w.heap.size w w' → ∃ v cv heap' next' R' N' bsV bsH', Ending.returned (.string ⟨(Lib.join (xs.map (·.data.toList)) sep.data.toList).toArray⟩) = .returned cv ∧ XQ ⟨.dat (.flat (.string ⟨⟨joinL sep.data.toList xs⟩⟩)), heap, next⟩ v heap' next' ∧ RepV w' R' (outs N') v cv bsV ∧ RepObjs w' R' (outs N') heap' bsH' ∧
      (bsV ++ (bsH' ++ bsF)).Nodup ∧ (∀ o b, N' (.out o) = some b → o < next') ∧ Keep w R w' R' bsF ∧ (∀ o b, N (.out o) = some b → N' (.out o) = some b) := by
    intro w' hb
    refine ⟨_, _, _, next, _, N, [], bsH, rfl, ⟨rfl, rfl, rfl⟩, ?_, hheap.keep (keep_below hb bsH), by simpa using hnd, hnx, keep_below hb bsF, fun _ _ h => h⟩
    rw [← joinL_eq]
    refine repV_flat ?_
    simp only [isFlat, decide_eq_true_eq]
    have : (ByteArray.mk ⟨joinL sep.data.toList xs⟩).size = (joinL sep.data.toList xs).length := rfl
    rw [this]
    omega
  by_cases hne : es = []
  · subst hne
    have hx0 : xs = [] := by simpa using hxl
    subst hx0
    have hv : ∃ a c, v0 = .slice a 0 c := by cases hxr with | nil a c => exact ⟨a, c, rfl⟩ | slice b off cap s es vs => exact ⟨_, _, rfl⟩
    obtain ⟨a, c, rfl⟩ := hv
    refine (Any.strings_Join_none L X a c sep w).mono ?_
    rintro e w' ⟨rfl, rfl⟩
    exact fin (Below.refl _ _)
  · have hs1 : ∀ d ∈ es, d.cells.length = 1 := by
      intro d hd
      obtain ⟨j, hj⟩ := List.getElem?_of_mem hd
      have hjl : j < xs.length := by
        rw [hxl]
        rcases Nat.lt_or_ge j es.length with h' | h'
        · exact h'
        · rw [List.getElem?_eq_none h'] at hj; simp at hj
      have := hxe j xs[j] (by simp)
      rw [hj] at this
      simp at this
      rw [this]; rfl
    obtain ⟨bk, off, cap, cells, rfl, hcap, hcs, hcell⟩ := repC_flat hxr hne hs1
    have hfl : es.flatMap Dat.cells = es := by
      have key : ∀ (es' : List Dat), (∀ e ∈ es', ∃ s, e = Dat.flat (.string s)) → es'.flatMap Dat.cells = es' := by
        intro es'
        induction es' with
        | nil => intro _; rfl
        | cons e es' ih =>
          intro hall
          obtain ⟨s, rfl⟩ := hall e (by simp)
          simp only [List.flatMap_cons, Dat.cells, List.singleton_append]
          rw [ih (fun e he => hall e (by simp [he]))]
      refine key _ (fun e he => ?_)
      obtain ⟨j, hj⟩ := List.getElem?_of_mem he
      have hjl : j < xs.length := by
        rw [hxl]
        rcases Nat.lt_or_ge j es.length with h' | h'
        · exact h'
        · rw [List.getElem?_eq_none h'] at hj; simp at hj
      have := hxe j xs[j] (by simp)
      rw [hj] at this
      simp at this
      exact ⟨_, this⟩
    rw [hfl] at hcs
    have hcells : ∀ (j : Nat) x, xs[j]? = some x → w.cell? ⟨bk, off + j, none⟩ = some (.string x) := by
      intro j x hx
      obtain ⟨v, hv, hrv⟩ := repCs_get hcs (hxe j x hx)
      have hc := (hcell j v hv).1
      cases hrv with
      | flat _ => exact hc
    have hpos : 0 < xs.length := by
      rcases Nat.eq_zero_or_pos xs.length with h' | h'
      · rw [hxl] at h'; exact absurd (List.eq_nil_of_length_eq_zero h') hne
      · exact h'
    have hbk : bk < w.heap.size := by
      have := hcells 0 xs[0] (by simp)
      exact block_lt_of_cell this
    rw [← hxl]
    refine (Any.strings_Join L X bk off cap xs sep w hcells hbk hc.2 (by rw [hxl]; exact hcap) (by rw [← joinL_eq]; exact hc.1)).mono ?_
    rintro e w' ⟨rfl, hb⟩
    exact fin hb
end
end Go.Tp
