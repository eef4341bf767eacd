/- The generic layer: a range over a function that never calls its body. -/
import Derived.Test.YteanmfacikjjhaaGreatDoorTpLast
import Derived.RangeFuncFrom
import Derived.RangeFuncLeaves
namespace Go.Tp
open Go.RowKit

def rmark (r : Nat) : Deferred := { target := .collected r, args := #[] }

section
variable {P : Program} {E : TEnv} {G : Globs} {H : Hints}

/-- Blocks that hold no cells. -/
def noCells : Obj → Bool
  | .deferred _ => true
  | .loop _ => true
  | _ => false

theorem keep_putObj {w : World} {R : Own} {r : Nat} {o o' : Obj} (h : w.heap[r]? = some o) (h1 : noCells o = true) (h2 : noCells o' = true) (hR : R r 0) (bs : List Nat) (hb : r ∉ bs) : Keep w R (w.putObj r o') R bs := by
  have hlt := lt_of_heap h
  have hother : ∀ c, c ≠ r → (w.putObj r o').heap[c]? = w.heap[c]? := fun c hc => World.putObj_heap_other hc
  have hsame : (w.putObj r o').heap[r]? = some o' := World.putObj_heap_same hlt
  refine ⟨⟨rfl, rfl, rfl, by simp [World.putObj], fun c hc hnR => ⟨hother c (fun e => hnR 0 (e ▸ hR)), hnR⟩, fun c off hc hnR => ⟨hnR, ?_⟩, fun c hc => ?_⟩, fun c hc _ => ⟨hother c (fun e => hb (e ▸ hc)), fun _ h => h⟩⟩
  · by_cases hcb : c = r
    · subst hcb
      simp only [World.cell?, h, hsame]
      cases o <;> simp [noCells] at h1 <;> cases o' <;> simp [noCells] at h2 <;> rfl
    · exact World.cell?_of_block (a := ⟨c, off, none⟩) (hother c hcb)
  · by_cases hcb : c = r
    · subst hcb
      simp only [rowSize, h, hsame]
      cases o <;> simp [noCells] at h1 <;> cases o' <;> simp [noCells] at h2 <;> rfl
    · exact rowSize_same (hother c hcb)

/-- Behind a piece of code that may have left marks. -/
def MPost (P : Program) (G : Globs) (Q : Exit → AState → Prop) (w : World) (R : Own) (N : Name → Option Nat) (bsF : List Nat) : Exit → Act → World → Prop := fun e act' w' =>
  ∃ rs s' R' N' bsT bsL bsH, Q e s' ∧ RelB G w' R' N' act'.tmps.toList s' undef .undef [] bsT bsL bsH (rs ++ bsF) ∧ act'.defers = rs.map rmark ∧ (∀ r ∈ rs, w'.heap[r]? = some (.deferred (some [])) ∧ R' r 0) ∧ Keep w R w' R' bsF ∧ (∀ o b, N (.out o) = some b → N' (.out o) = some b)

def MCode (P : Program) (G : Globs) (c : Code) (Q : Exit → AState → Prop) (s : AState) : Prop :=
  ∀ (w : World) (R : Own) (N : Name → Option Nat) (act : Act) (bsT bsL bsH bsF : List Nat), RelB G w R N act.tmps.toList s undef .undef [] bsT bsL bsH bsF → act.defers = [] →
    c.wp P (MPost P G Q w R N bsF) act w

theorem mcode_of_acode {c : Code} {Q : Exit → AState → Prop} {s : AState} (h : ACode P G c Q s) : MCode P G c Q s := by
  intro w R N act bsT bsL bsH bsF hr hd
  refine wp_mono (h w R N act bsT bsL bsH bsF hr hd) ?_
  rintro e a w' ⟨s', R', N', bsT', bsL', bsH', hq, hr', hd', hk, hN⟩
  exact ⟨[], s', R', N', bsT', bsL', bsH', hq, by simpa using hr', by simpa using hd', by simp, hk, hN⟩

theorem MPost.trans {Q : Exit → AState → Prop} {w w1 : World} {R R1 : Own} {N N1 : Name → Option Nat} {bsF : List Nat} (hk : Keep w R w1 R1 bsF) (hN : ∀ o b, N (.out o) = some b → N1 (.out o) = some b) {e : Exit} {a : Act} {w2 : World}
    (h : MPost P G Q w1 R1 N1 bsF e a w2) : MPost P G Q w R N bsF e a w2 := by
  obtain ⟨rs, s', R', N', bsT, bsL, bsH, hq, hr, hd, hm, hk', hN'⟩ := h
  exact ⟨rs, s', R', N', bsT, bsL, bsH, hq, hr, hd, hm, hk.trans hk', fun o b h => hN' o b (hN o b h)⟩

theorem mcode_seq1 {x y : Code} {Q : Exit → AState → Prop} {s : AState} (h : ACode P G x (fun e s' => match e with | .normal => MCode P G y Q s' | e => Q e s') s) : MCode P G (.seq x y) Q s := by
  intro w R N act bsT bsL bsH bsF hr hd
  apply wp_seq
  refine wp_mono (h w R N act bsT bsL bsH bsF hr hd) ?_
  rintro e a w' ⟨s', R', N', bsT', bsL', bsH', hq, hr', hd', hk, hN⟩
  cases e with
  | normal => exact wp_mono (hq w' R' N' a bsT' bsL' bsH' bsF hr' hd') (fun e a w h => h.trans hk hN)
  | _ => exact ⟨[], s', R', N', bsT', bsL', bsH', hq, by simpa using hr', by simpa using hd', by simp, hk, hN⟩

theorem mcode_seq2 {x y : Code} {Q : Exit → AState → Prop} {s : AState} (h : MCode P G x (fun e s' => match e with | .normal => ACode P G y Q s' | e => Q e s') s) : MCode P G (.seq x y) Q s := by
  intro w R N act bsT bsL bsH bsF hr hd
  apply wp_seq
  refine wp_mono (h w R N act bsT bsL bsH bsF hr hd) ?_
  rintro e a w' ⟨rs, s', R', N', bsT', bsL', bsH', hq, hr', hd', hm, hk, hN⟩
  cases e with
  | normal =>
    refine wp_mono (hq w' R' N' a bsT' bsL' bsH' (rs ++ bsF) hr' hd') ?_
    rintro e a2 w2 ⟨s2, R2, N2, bsT2, bsL2, bsH2, hq2, hr2, hd2, hk2, hN2⟩
    refine ⟨rs, s2, R2, N2, bsT2, bsL2, bsH2, hq2, hr2, hd2, fun r hr => ?_, hk.trans (hk2.sub (by intro b hb; simp [hb])), fun o b h => hN2 o b (hN o b h)⟩
    obtain ⟨m1, m2⟩ := hm r hr
    obtain ⟨k1, k2⟩ := hk2.same r (by simp [hr]) (lt_of_heap m1)
    exact ⟨k1.trans m1, k2 _ m2⟩
  | _ => exact ⟨rs, s', R', N', bsT', bsL', bsH', hq, hr', hd', hm, hk, hN⟩

theorem mcode_block {id : Nat} {c : Code} {Q : Exit → AState → Prop} {s : AState} (h : MCode P G c (fun e s' => match e with | .normal => Q .normal s' | .exit i => if i = id then Q .normal s' else Q (.exit i) s' | e => Q e s') s) : MCode P G (.block id c) Q s := by
  intro w R N act bsT bsL bsH bsF hr hd
  apply wp_block
  refine wp_mono (h w R N act bsT bsL bsH bsF hr hd) ?_
  rintro e a w' ⟨rs, s', R', N', bsT', bsL', bsH', hq, hr', hd', hm, hk, hN⟩
  cases e with
  | normal => exact ⟨rs, s', R', N', bsT', bsL', bsH', hq, hr', hd', hm, hk, hN⟩
  | exit i =>
    simp only [Exit.inBlock]
    by_cases hi : i = id
    · subst hi
      rw [if_pos rfl]
      simp only [if_pos] at hq
      exact ⟨rs, s', R', N', bsT', bsL', bsH', hq, hr', hd', hm, hk, hN⟩
    · rw [if_neg hi]
      simp only [if_neg hi] at hq
      exact ⟨rs, s', R', N', bsT', bsL', bsH', hq, hr', hd', hm, hk, hN⟩
  | _ => exact ⟨rs, s', R', N', bsT', bsL', bsH', hq, hr', hd', hm, hk, hN⟩

/-- The iterator returns, and has never called. -/
theorem mcode_range0 (hE : E.Ok P) {t gf : Nat} {ps : Array Tmp} {asn bd : Code} {captured : List AVal} {s : AState} {r : XRes} {Q : Exit → AState → Prop} (hg : getT s.tmps t = .fn (.func gf) [] captured) (hfn : E.fn gf = true) (hno : noLocL captured = true)
    (h : ACalls P G gf (.undef :: captured) s.heap s.next (XQ r)) (hQ : Q .normal { s with heap := r.heap, next := r.next }) : MCode P G (.rangeFunc (.tmp t) ps asn bd) Q s := by
  intro w R N act bsT bsL bsH bsF hr hd
  obtain ⟨fn', hf1, hf2, hf3⟩ := hE.fn gf hfn
  obtain ⟨c', hf2'⟩ := Option.isSome_iff_exists.1 hf2
  have eg : ∀ args w, (callFunc gf args).run P w = .ok (.enter gf args) w := fun args w => by
    have h1 : fn'.name ≠ "runtime.NumGoroutine" := by simpa using hf3
    simp [callFunc, hf1, h1, hf2', mark]
  obtain ⟨bt, hev⟩ := eval_raw hr.tmps hr.glob (.tmp t)
  rw [show aeval G s (.tmp t) = .fn (.func gf) [] captured from hg] at hev
  simp only [RepV] at hev
  obtain ⟨_, vs, us, hev, hvs, hus⟩ := hev
  obtain ⟨rfl, _⟩ := repVs_nil_inv hvs
  have hev : act.eval (.tmp t) = .func (.func gf) #[] us.toArray := hev
  rw [← wpIn_wide (n := 1)]
  refine wpIn_rangeFunc ?_
  intro fn _
  obtain ⟨rec, hrec⟩ : ∃ rec : Loop, rec = { state := .ready, pending := none, fn, tmps := act.tmps, params := ps, assign := asn, body := bd, defers := w.heap.size } := ⟨_, rfl⟩
  obtain ⟨W1, hW1⟩ : ∃ W1, (w.alloc (.deferred (some []))).alloc (.loop rec) = W1 := ⟨_, rfl⟩
  have hL1 : W1.heap[w.heap.size + 1]? = some (.loop rec) := by
    rw [← hW1]; have := World.alloc_heap_new (w.alloc (.deferred (some []))) (.loop rec); rwa [World.size_alloc] at this
  have hK1 : W1.heap[w.heap.size]? = some (.deferred (some [])) := by
    rw [← hW1]; exact (Below.heap_alloc _ _ _ (by simp)).trans (World.alloc_heap_new w _)
  let R0 : Own := R.more w.heap.size
  let R1 : Own := R0.more (w.heap.size + 1)
  have hk1 : ∀ bs, Keep w R W1 R1 bs := by
    intro bs
    have k1 := keep_alloc (w := w) (R := R) (.deferred (some [])) (R' := R0) (fun b off hb => Own.more_iff hb) bs
    have k2 := keep_alloc (w := w.alloc (.deferred (some []))) (R := R0) (.loop rec) (R' := R1) (fun b off hb => Own.more_iff (by rwa [World.size_alloc] at hb)) bs
    rw [hW1] at k2
    exact k1.trans k2
  refine ⟨w.heap.size + 1, [{ target := .collected w.heap.size, args := #[] }], W1, { target := .fn (.func gf) us.toArray, args := #[.func (.yield (w.heap.size + 1)) #[] #[]] }, W1, gf,
    #[.func (.yield (w.heap.size + 1)) #[] #[]] ++ us.toArray, W1, ?_, ?_, ?_, ?_, fun _ => Nat.le_refl _, ?_⟩
  · rw [← hW1, hrec]; exact run_enterLoop_outer _ _ _ _ _
  · simp only [resolve, hev]
    simp [go_sem]
  · intro _ _; trivial
  · simp [invoke, go_sem, eg]
  · refine callsIn_wide.2 ?_
    have hargs : RepVs W1 R1 (outs N) (.undef :: captured) (.func (.yield (w.heap.size + 1)) #[] #[] :: us) [] := by
      have h1 : RepVs W1 R1 N captured us [] := hus.keep (hk1 [])
      have h2 : RepVs W1 R1 (outs N) captured us [] := h1.reN hno (fun _ => rfl)
      simpa using repVs_cons (b1 := []) (b2 := []) (repV_undef (w := W1) (R := R1) (N := outs N) (.func (.yield (w.heap.size + 1)) #[] #[])) h2
    have hnd0 : (bsT ++ (bsL ++ (bsH ++ bsF))).Nodup := by simpa using hr.nodup
    have hlt : ∀ b ∈ bsT ++ (bsL ++ (bsH ++ bsF)), b < w.heap.size := by
      intro b hb
      simp at hb
      rcases hb with h | h | h | h
      · exact hr.tmps.lt b h
      · exact hr.locs.lt b h
      · exact hr.heap.lt b h
      · exact hr.frame b h
    have hnd1 : ([] ++ (bsH ++ (bsT ++ (bsL ++ ((w.heap.size + 1) :: w.heap.size :: bsF))))).Nodup := by
      have hp : ([] ++ (bsH ++ (bsT ++ (bsL ++ ((w.heap.size + 1) :: w.heap.size :: bsF))))).Perm ((w.heap.size + 1) :: w.heap.size :: (bsT ++ (bsL ++ (bsH ++ bsF)))) := by
        rw [List.perm_iff_count]; intro q; simp only [List.count_append, List.count_cons, List.count_nil]; omega
      refine hp.nodup_iff.2 (List.nodup_cons.2 ⟨?_, List.nodup_cons.2 ⟨fun hm => ?_, hnd0⟩⟩)
      · intro hm
        rcases List.mem_cons.1 hm with hm | hm
        · omega
        · have := hlt _ hm; omega
      · have := hlt _ hm; omega
    have hsz : W1.heap.size = w.heap.size + 2 := by rw [← hW1]; simp
    have hcall := h W1 R1 N _ [] bsH (bsT ++ (bsL ++ ((w.heap.size + 1) :: w.heap.size :: bsF))) hargs (hr.heap.keep (hk1 _)) hnd1 hr.next (fun g cs hg => (hr.glob g cs hg).step (hk1 []).step) (by
      intro b hb
      rw [hsz]
      simp at hb
      rcases hb with h | h | h | h | h
      · have := hr.tmps.lt b h; omega
      · have := hr.locs.lt b h; omega
      · omega
      · omega
      · have := hr.frame b h; omega)
    have hcv : (#[.func (.yield (w.heap.size + 1)) #[] #[]] ++ us.toArray : Array Value) = (.func (.yield (w.heap.size + 1)) #[] #[] :: us).toArray := by simp
    rw [hcv]
    refine hcall.mono ?_
    rintro e W2 ⟨v, cv, heap', next', R2, N2, bsV, bsH2, rfl, ⟨rfl, rfl, rfl⟩, _, hh2, hnd2, hnx2, hk2, hN2⟩
    obtain ⟨l1, l2⟩ := hk2.same (w.heap.size + 1) (by simp) (by rw [hsz]; omega)
    obtain ⟨m1, m2⟩ := hk2.same w.heap.size (by simp) (by rw [hsz]; omega)
    have hL2 : W2.heap[w.heap.size + 1]? = some (.loop rec) := l1.trans hL1
    have hend := run_endLoop (P := P) hL2 (by rw [hrec]; simp)
    have hpe : rec.pending = none := by rw [hrec]
    rw [hpe] at hend
    refine ⟨none, _, hend, ?_⟩
    -- the states put together
    let N3 : Name → Option Nat := fun m => match m with | .loc i => N (.loc i) | .out o => N2 (.out o)
    have hext : ∀ m c, N m = some c → N3 m = some c := fun m c hm => by cases m with | loc i => exact hm | out o => exact hN2 o c hm
    have hR2l : R2 (w.heap.size + 1) 0 := l2 _ (.inl rfl)
    have hR2m : R2 w.heap.size 0 := m2 _ (.inr (.inl rfl))
    have hk12 : ∀ bs, (∀ b ∈ bs, b ∈ bsT ++ (bsL ++ ((w.heap.size + 1) :: w.heap.size :: bsF))) → Keep w R W2 R2 bs := fun bs hb => (hk1 bs).trans (hk2.sub hb)
    have hk3 : ∀ bs, (w.heap.size + 1) ∉ bs → Keep W2 R2 (W2.putObj (w.heap.size + 1) (.loop { rec with state := .exhausted, pending := none })) R2 bs := fun bs hb => keep_putObj hL2 rfl rfl hR2l bs hb
    have hnotT : (w.heap.size + 1) ∉ bsT := fun hm => by have := hr.tmps.lt _ hm; omega
    have hnotL : (w.heap.size + 1) ∉ bsL := fun hm => by have := hr.locs.lt _ hm; omega
    have hnotF : (w.heap.size + 1) ∉ bsF := fun hm => by have := hr.frame _ hm; omega
    have hnd2' := hnd2
    have hnotH : (w.heap.size + 1) ∉ bsH2 := by
      intro hm
      have := (List.nodup_append.1 ((List.nodup_append.1 hnd2').2.1)).2.2
      exact this _ hm (w.heap.size + 1) (by simp) rfl
    have hkT : Keep w R _ R2 bsT := (hk12 bsT (by intro b hb; simp [hb])).trans (hk3 bsT hnotT)
    have hkL : Keep w R _ R2 bsL := (hk12 bsL (by intro b hb; simp [hb])).trans (hk3 bsL hnotL)
    have hkF : Keep w R _ R2 bsF := (hk12 bsF (by intro b hb; simp [hb])).trans (hk3 bsF hnotF)
    refine ⟨[w.heap.size], _, R2, N3, bsT, bsL, bsH2, hQ, ⟨repV_undef _, (hr.tmps.keep hkT).ext hext, (hr.locs.keep hkL).ext hext, ?_, ?_, hnx2, fun g cs hg => (hr.glob g cs hg).step hkT.step, ?_⟩, ?_, ?_, hkF, hN2⟩
    · exact (hh2.keep (hk3 bsH2 hnotH)).outs_eq (N := N2) (N' := N3) (fun _ => rfl)
    · have hp : (bsV ++ (bsH2 ++ (bsT ++ (bsL ++ ((w.heap.size + 1) :: w.heap.size :: bsF))))).Perm (((w.heap.size + 1) :: bsV) ++ ([] ++ (bsT ++ (bsL ++ (bsH2 ++ ([w.heap.size] ++ bsF)))))) := by
        rw [List.perm_iff_count]; intro q; simp only [List.count_append, List.count_cons, List.count_nil]; omega
      exact (List.nodup_append.1 (hp.nodup_iff.1 hnd2)).2.1
    · intro b hb
      refine Nat.lt_of_lt_of_le ?_ (hk3 [] (by simp)).step.size
      refine Nat.lt_of_lt_of_le ?_ hk2.step.size
      rw [hsz]
      simp at hb
      rcases hb with rfl | h
      · omega
      · have := hr.frame b h; omega
    · simp [hd, rmark]
    · intro r hr'
      simp at hr'
      subst hr'
      refine ⟨?_, hR2m⟩
      rw [World.putObj_heap_other (by omega)]
      exact m1.trans hK1

/-- A frame that leaves with its marks. -/
theorem leaves_marks {fn : Func} {tmps : Array Value} {RR : Ending → World → Prop} {s' : AState} {N' : Name → Option Nat} {bsT bsL bsH bsF : List Nat} {w : World} {R : Own}
    (fin : ∀ (w1 : World) (R1 : Own), RelB G w1 R1 N' tmps.toList s' undef .undef [] bsT bsL bsH bsF → Keep w R w1 R1 bsF → ∃ v, (results fn tmps).run P w1 = .ok v w1 ∧ RR (.returned v) w1) :
    ∀ (rs : List Nat) (w1 : World) (R1 : Own), RelB G w1 R1 N' tmps.toList s' undef .undef [] bsT bsL bsH (rs ++ bsF) → (∀ r ∈ rs, w1.heap[r]? = some (.deferred (some [])) ∧ R1 r 0) → Keep w R w1 R1 bsF →
      LeavesInM Fence.wide 1 P fn tmps RR (rs.map rmark) .returning w1
  | [], w1, R1, hr, _, hk => fin w1 R1 (by simpa using hr) hk
  | r :: rs, w1, R1, hr, hm, hk => by
    obtain ⟨m1, m2⟩ := hm r (by simp)
    have hnd := hr.nodup
    have hnot : ∀ {bs : List Nat}, (∀ b ∈ bs, b ∈ bsT ++ (bsL ++ (bsH ++ (rs ++ bsF)))) → r ∉ bs := by
      intro bs hb hx
      have hp : ([] ++ (bsT ++ (bsL ++ (bsH ++ ((r :: rs) ++ bsF))))).Perm (r :: (bsT ++ (bsL ++ (bsH ++ (rs ++ bsF))))) := by
        rw [List.perm_iff_count]; intro q; simp only [List.count_append, List.count_cons, List.count_nil]; omega
      exact (List.nodup_cons.1 (hp.nodup_iff.1 hnd)).1 (hb r hx)
    have hk2 : ∀ bs, r ∉ bs → Keep w1 R1 (w1.putObj r (.deferred none)) R1 bs := fun bs hb => keep_putObj m1 rfl rfl m2 bs hb
    refine ⟨by simp, .inl ⟨r, _, rfl, run_takeDeferred m1, ?_⟩⟩
    refine leaves_marks fin rs _ R1 ⟨repV_undef _, hr.tmps.keep (hk2 bsT (hnot (by intro b hb; simp [hb]))), hr.locs.keep (hk2 bsL (hnot (by intro b hb; simp [hb]))), hr.heap.keep (hk2 bsH (hnot (by intro b hb; simp [hb]))), ?_, hr.next,
      fun g cs hg => (hr.glob g cs hg).step (hk2 [] (by simp)).step, fun b hb => Nat.lt_of_lt_of_le (hr.frame b (by simp at hb ⊢; exact .inr hb)) (hk2 [] (by simp)).step.size⟩ (fun q hq => ?_) (hk.trans (hk2 bsF (hnot (by intro b hb; simp [hb]))))
    · have hp : ([] ++ (bsT ++ (bsL ++ (bsH ++ ((r :: rs) ++ bsF))))).Perm (r :: ([] ++ (bsT ++ (bsL ++ (bsH ++ (rs ++ bsF)))))) := by
        rw [List.perm_iff_count]; intro q; simp only [List.count_append, List.count_cons, List.count_nil]; omega
      exact (List.nodup_cons.1 (hp.nodup_iff.1 hnd)).2
    · obtain ⟨q1, q2⟩ := hm q (by simp [hq])
      refine ⟨?_, q2⟩
      have hne : q ≠ r := fun e => (hnot (bs := rs) (by intro b hb; simp [hb])) (e ▸ hq)
      rw [World.putObj_heap_other hne]
      exact q1

/-- A function's contract out of its body, marks and all. -/
theorem acalls_of_mcode (hE : E.Ok P) {f : FuncId} {fn : Func} {c : Code} (hf : P.funcs[f]? = some fn) (hb : fn.body = some c) {args : List AVal} {heap : List (Name × AObj)} {next : Nat} {Q : AVal → List (Name × AObj) → Nat → Prop}
    (h : bndL args → bndO heap → MCode P G c (bodyQ E fn.results.toList Q) (enter fn.ntmps args heap next)) : ACalls P G f args heap next Q := by
  intro w R N cargs bsA bsH bsF ha hh hnd hnx hg hF
  replace h := h ha.bnd hh.bnd
  refine (callsIn_wide (n := 1)).1 (callsIn_of_wp_marks hf hb trivial ?_ rfl)
  rw [wpIn_wide]
  have hlen := ha.length
  have hr : RelB G w R (outs N) ((cargs.toArray ++ Array.replicate (fn.ntmps - cargs.toArray.size) undef).toList) (enter fn.ntmps args heap next) undef .undef [] bsA [] bsH bsF := by
    refine ⟨repV_undef _, ?_, rfl, ?_, by simpa using hnd, ?_, hg, hF⟩
    · have := repVs_append ha (repVs_undef (w := w) (R := R) (N := outs N) (fn.ntmps - args.length))
      simpa [enter, hlen] using this
    · exact hh.ext (fun m b hm => by cases m with | loc i => simp [outs] at hm | out o => exact hm)
    · intro o b ho; exact hnx o b ho
  refine wp_mono (h w R (outs N) _ bsA [] bsH bsF hr rfl) ?_
  rintro e a w' ⟨rs, s', R', N', bsT, bsL, bsH', hq, hr', hd', hm, hk, hN⟩
  have key : aret E fn.results.toList Q s' → LeavesInM Fence.wide 1 P fn a.tmps (fun e w' => ∃ v2 cv heap' next' R'' N'' bsV bsH'', e = .returned cv ∧ Q v2 heap' next' ∧ RepV w' R'' (outs N'') v2 cv bsV ∧ RepObjs w' R'' (outs N'') heap' bsH'' ∧
      (bsV ++ (bsH'' ++ bsF)).Nodup ∧ (∀ o b, N'' (.out o) = some b → o < next') ∧ Keep w R w' R'' bsF ∧ (∀ o b, N (.out o) = some b → N'' (.out o) = some b)) a.defers .returning w' := by
    intro hret
    rw [hd']
    refine leaves_marks (w := w) (R := R) (bsF := bsF) ?_ rs w' R' hr' hm hk
    intro w1 R1 hr1 hk1
    obtain ⟨cv, g1, v2, heap', next', R'', N'', bsV, bsH'', q1, q2, q3, q4, q5, q6, q7⟩ := aret_sound hE hret hr1
    exact ⟨cv, g1, v2, cv, heap', next', R'', N'', bsV, bsH'', rfl, q1, q2, q3, q4, q5, hk1.trans q6, fun o b h => q7 o b (hN o b h)⟩
  cases e with
  | ret => exact key hq
  | normal => exact key hq
  | exit i => exact hq.elim
  | goto l => exact hq.elim
  | panic ch => exact hq.elim
  | outgrown => exact hq.elim
end

/-! ### The run -/
def hasRF : Code → Bool
  | .rangeFunc .. => true
  | .seq a b => hasRF a || hasRF b
  | .block _ c => hasRF c
  | _ => false

section
variable (X : XCalls) (E : TEnv) (G : Globs) (H : Hints) (n : Nat) (live : Nat → Nat) (fuel : Nat)
/-- Code that holds a range over a function, run. -/
noncomputable def fcodeM : Code → FState → Option (Exit × FState)
  | .seq a b, f => (match hasRF a with
    | true => (match fcodeM a f with | some (.normal, f1) => fcode X E G H n live fuel b f1 | r => r)
    | false => (match fcode X E G H n live fuel a f with | some (.normal, f1) => fcodeM b f1 | r => r))
  | .block id c, f => (match fcodeM c f with
    | some (.exit i, f1) => (match Nat.beq i id with | true => some (.normal, f1) | false => some (.exit i, f1))
    | r => r)
  | .rangeFunc (.tmp t) _ _ _, f => (match fget n f t with
    | .fn (.func g) [] captured => (match E.fn g && noLocL captured with
      | true => (match X g (.undef :: captured) f.heap f.next with | some r => some (.normal, ⟨f.sl, f.locs, r.heap, r.next⟩) | none => none)
      | false => none)
    | _ => none)
  | c, f => fcode X E G H n live fuel c f

theorem fcodeM_sound {P : Program} (hE : E.Ok P) (hX : XOk P G X) : ∀ (c : Code) (f f' : FState) (e : Exit), chkAll H c = true → fcodeM X E G H n live fuel c f = some (e, f') → ∀ Q : Exit → AState → Prop, Q e (f'.toA n) → MCode P G c Q (f.toA n)
  | .seq a b, f, f', e, hc, h, Q, hQ => by
    simp only [chkAll, Bool.and_eq_true] at hc
    simp only [fcodeM] at h
    split at h
    · cases ha : fcodeM X E G H n live fuel a f with
      | none => rw [ha] at h; simp at h
      | some r =>
        obtain ⟨e1, f1⟩ := r
        rw [ha] at h
        refine mcode_seq2 (fcodeM_sound hE hX a f f1 e1 hc.1 ha _ ?_)
        cases e1 with
        | normal => exact fcode_sound _ E G H n hE hX live fuel b _ _ _ hc.2 h Q hQ
        | _ => simp at h; obtain ⟨rfl, rfl⟩ := h; exact hQ
    · cases ha : fcode X E G H n live fuel a f with
      | none => rw [ha] at h; simp at h
      | some r =>
        obtain ⟨e1, f1⟩ := r
        rw [ha] at h
        refine mcode_seq1 (fcode_sound _ E G H n hE hX live fuel a f f1 e1 hc.1 ha _ ?_)
        cases e1 with
        | normal => exact fcodeM_sound hE hX b f1 f' e hc.2 h Q hQ
        | _ => simp at h; obtain ⟨rfl, rfl⟩ := h; exact hQ
  | .block id c, f, f', e, hc, h, Q, hQ => by
    simp only [chkAll] at hc
    simp only [fcodeM] at h
    cases ha : fcodeM X E G H n live fuel c f with
    | none => rw [ha] at h; simp at h
    | some r =>
      obtain ⟨e1, f1⟩ := r
      rw [ha] at h
      refine mcode_block (fcodeM_sound hE hX c f f1 e1 hc ha _ ?_)
      cases e1 with
      | exit i =>
        dsimp only at h ⊢
        split at h
        · rename_i hi
          rw [if_pos (Nat.eq_of_beq_eq_true hi)]
          simp at h
          obtain ⟨rfl, rfl⟩ := h
          exact hQ
        · rename_i hi
          rw [if_neg (fun e => by rw [e] at hi; simp at hi)]
          simp at h
          obtain ⟨rfl, rfl⟩ := h
          exact hQ
      | _ => simp at h; obtain ⟨rfl, rfl⟩ := h; exact hQ
  | .rangeFunc (.tmp t) ps asn bd, f, f', e, _, h, Q, hQ => by
    simp only [fcodeM] at h
    split at h
    · rename_i g captured hg
      split at h
      · rename_i hc
        simp only [Bool.and_eq_true] at hc
        split at h
        · rename_i r hr
          simp at h
          obtain ⟨rfl, rfl⟩ := h
          exact mcode_range0 hE (by rw [fget_eq]; exact hg) hc.1 hc.2 (hX _ _ _ _ _ hr) hQ
        · simp at h
      · simp at h
    · simp at h
  | .rangeFunc (.const _) _ _ _, f, f', e, hc, h, Q, hQ => mcode_of_acode (fcode_sound _ E G H n hE hX live fuel _ _ _ _ hc h Q hQ)
  | .rangeFunc (.global _) _ _ _, f, f', e, hc, h, Q, hQ => mcode_of_acode (fcode_sound _ E G H n hE hX live fuel _ _ _ _ hc h Q hQ)
  | .rangeFunc (.func _) _ _ _, f, f', e, hc, h, Q, hQ => mcode_of_acode (fcode_sound _ E G H n hE hX live fuel _ _ _ _ hc h Q hQ)
  | .skip, f, f', e, hc, h, Q, hQ => mcode_of_acode (fcode_sound _ E G H n hE hX live fuel _ _ _ _ hc h Q hQ)
  | .region _ _ _, f, f', e, hc, h, Q, hQ => mcode_of_acode (fcode_sound _ E G H n hE hX live fuel _ _ _ _ hc h Q hQ)
  | .cond _ _ _, f, f', e, hc, h, Q, hQ => mcode_of_acode (fcode_sound _ E G H n hE hX live fuel _ _ _ _ hc h Q hQ)
  | .exit _, f, f', e, hc, h, Q, hQ => mcode_of_acode (fcode_sound _ E G H n hE hX live fuel _ _ _ _ hc h Q hQ)
  | .ret, f, f', e, hc, h, Q, hQ => mcode_of_acode (fcode_sound _ E G H n hE hX live fuel _ _ _ _ hc h Q hQ)
  | .loop _, f, f', e, hc, h, Q, hQ => mcode_of_acode (fcode_sound _ E G H n hE hX live fuel _ _ _ _ hc h Q hQ)
  | .scope _, f, f', e, hc, h, Q, hQ => mcode_of_acode (fcode_sound _ E G H n hE hX live fuel _ _ _ _ hc h Q hQ)
  | .label _, f, f', e, hc, h, Q, hQ => mcode_of_acode (fcode_sound _ E G H n hE hX live fuel _ _ _ _ hc h Q hQ)
  | .goto _, f, f', e, hc, h, Q, hQ => mcode_of_acode (fcode_sound _ E G H n hE hX live fuel _ _ _ _ hc h Q hQ)
  | .refuse _, f, f', e, hc, h, Q, hQ => mcode_of_acode (fcode_sound _ E G H n hE hX live fuel _ _ _ _ hc h Q hQ)
end

/-- The calls of functions that hold such a range: the table F beside it is asked for their code; X: the calls that they make. -/
noncomputable def rangeX (X : XCalls) (E : TEnv) (G : Globs) (moves caps : FuncId → Bool) (F : FuncId → Option XFn) (fuel : Nat) (which : FuncId → Bool) : XCalls := fun g args heap next =>
  match which g with
  | false => none
  | true => (match F g with
    | none => none
    | some x => match Nat.ble args.length x.ntmps with
      | false => none
      | true => (match fcodeM X E G ⟨moves, x.ord, caps, rowsOf caps g⟩ x.ntmps x.live fuel x.code ⟨slOf 0 args, [], heap, next⟩ with
        | some (.ret, f) => (match fret E x.ntmps x.results f with | some r => some (gcR next r) | none => none)
        | some (.normal, f) => (match fret E x.ntmps x.results f with | some r => some (gcR next r) | none => none)
        | _ => none))
theorem enter_slOf (n : Nat) (args : List AVal) (heap : Heap) (next : Nat) (hlen : args.length ≤ n) : (⟨slOf 0 args, [], heap, next⟩ : FState).toA n = enter n args heap next := by
  simp only [FState.toA, enter]
  congr 1
  apply List.ext_getElem?
  intro i
  rw [mkS_get, Nat.zero_add, slOf_get, if_pos (Nat.zero_le _), Nat.sub_zero, List.getElem?_append]
  split
  · split
    · rename_i hi; unfold getT; rw [List.getElem?_eq_getElem hi]
    · rename_i hi1 hi
      rw [List.getElem?_replicate, if_pos (by omega)]
      unfold getT
      rw [List.getElem?_eq_none (by omega)]
  · rename_i hi
    rw [if_neg (by omega), List.getElem?_replicate, if_neg (by omega)]

theorem rangeX_ok {X : XCalls} {E : TEnv} {G : Globs} {moves caps : FuncId → Bool} {F : FuncId → Option XFn} {fuel : Nat} {which : FuncId → Bool} {P : Program} (hE : E.Ok P) (hF : FOk P moves caps F) (hX : XOk P G X) : XOk P G (rangeX X E G moves caps F fuel which) := by
  intro g args heap next r h
  simp only [rangeX] at h
  split at h
  · simp at h
  · split at h
    · simp at h
    · rename_i x hx
      obtain ⟨fn, h1, h2, h3, h4, h5⟩ := hF g x hx
      split at h
      · simp at h
      · rename_i hlen
        have hlen := ble_to hlen
        have hent := enter_slOf x.ntmps args heap next hlen
        have key : ∀ e f, fcodeM X E G ⟨moves, x.ord, caps, rowsOf caps g⟩ x.ntmps x.live fuel x.code ⟨slOf 0 args, [], heap, next⟩ = some (e, f) → e = .ret ∨ e = .normal →
            (match fret E x.ntmps x.results f with | some r => some (gcR next r) | none => none) = some r → ACalls P G g args heap next (XQ r) := by
          intro e f hx he hr
          cases hf : fret E x.ntmps x.results f with
          | none => rw [hf] at hr; simp at hr
          | some r0 =>
            rw [hf] at hr
            simp at hr
            subst hr
            apply ACalls.gc
            refine acalls_of_mcode hE h1 h2 ?_
            intro _ _
            rw [h3, h4, ← hent]
            refine fcodeM_sound X E G ⟨moves, x.ord, caps, rowsOf caps g⟩ x.ntmps x.live fuel hE hX x.code _ _ _ (by rw [chkAll_rows]; exact h5) hx _ ?_
            have := xret_sound (E := E) (rs := x.results) (s := f.toA x.ntmps) (r := r0) (by rw [fret_eq]; exact hf)
            rcases he with rfl | rfl <;> exact this
        split at h
        · rename_i f hf; exact key _ _ hf (.inl rfl) h
        · rename_i f hf; exact key _ _ hf (.inr rfl) h
        · simp at h
end Go.Tp
