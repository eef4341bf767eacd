/- Part 5 of what the last text proves. -/
import Derived.RangeFuncFrom
import Derived.RangeFuncLeaves
import Derived.Maps.RangeRun
import Derived.ChangeSlices
import Derived.ReadAgain
import Derived.ChangeMaps5
import Derived.Test.YtmpmgmmcaghacaaGreatDoorQ04
set_option linter.unusedVariables false
set_option linter.unusedSimpArgs false
set_option maxRecDepth 100000
set_option maxHeartbeats 4000000
namespace Go.Tp
open Go.RowKit
def rmark (r : Nat) : Deferred := { target := .collected r, args := #[] }
section
variable {P : Program} {E : TEnv} {G : Globs} {H : Hints}
theorem wp_loop_ghost {c : Code} {Q : Exit -> Act -> World -> Prop} (I : Nat -> Act -> World -> Prop) {n0 : Nat} {a : Act} {w : World} (h0 : I n0 a w)
  (round : ∀ n a w, I n a w -> c.wp P (Exit.then (fun a' w' => ∃ n', n' < n /\ I n' a' w') Q) a w) : (Code.loop c).wp P Q a w := by
 intro b k cs
 have key : ∀ n a w, I n a w -> ∃ e a' w', Q e a' w' /\ Arrives P (lone (b.at a (.code c :: .inLoop c :: k)) cs w) b k cs e a' w' := by
  intro n
  induction n using Nat.strongRecOn with
  | _ n ih =>
   intro a w hI
   obtain ⟨e, a1, w1, hq, harr⟩ := round n a w hI b (.inLoop c :: k) cs
   cases e with
   | normal =>
    obtain ⟨n', hlt, hI1⟩ := hq
    obtain ⟨e2, a2, w2, hq2, harr2⟩ := ih n' hlt a1 w1 hI1
    exact ⟨e2, a2, w2, hq2, .of_steps (Steps.trans harr (.one step_inLoop)) harr2⟩
   | exit id => exact ⟨_, a1, w1, hq, .pass (x := .inLoop c) rfl (fun _ _ => .inl (by simp)) harr⟩
   | goto l => exact ⟨_, a1, w1, hq, .pass (x := .inLoop c) rfl (fun _ _ => .inl (by simp)) harr⟩
   | ret => exact ⟨_, a1, w1, hq, .pass (x := .inLoop c) rfl (fun _ _ => .inl (by simp)) harr⟩
   | panic ch => exact ⟨_, a1, w1, hq, .pass (x := .inLoop c) rfl (fun _ _ => .inl (by simp)) harr⟩
   | outgrown => exact ⟨_, a1, w1, hq, .pass (x := .inLoop c) rfl (fun _ _ => .inl (by simp)) harr⟩
 obtain ⟨e, a', w', hq, harr⟩ := key n0 a w h0
 exact ⟨e, a', w', hq, .of_steps (.one step_loop) harr⟩
/-- Blocks that hold no cells. -/
def noCells : Obj -> Bool
 | .deferred _ => true
 | .loop _ => true
 | _ => false
theorem keep_putObj {w : World} {R : Own} {r : Nat} {o o' : Obj} (h : w.heap[r]? = some o) (h1 : noCells o = true) (h2 : noCells o' = true) (hR : R r 0) (bs : List Nat) (hb : r ∉ bs) : Keep w R (w.putObj r o') R bs := by
 have hlt := lt_of_heap h
 have hother : ∀ c, c ≠ r -> (w.putObj r o').heap[c]? = w.heap[c]? := fun c hc => World.putObj_heap_other hc
 have hsame : (w.putObj r o').heap[r]? = some o' := World.putObj_heap_same hlt
 refine ⟨⟨rfl, rfl, rfl, by simp [World.putObj], fun c hc hnR => ⟨hother c (fun e => hnR 0 (e ▸ hR)), hnR⟩, fun c off hc hnR => ⟨hnR, ?_⟩, fun c hc => ?_⟩, fun c hc _ => ⟨hother c (fun e => hb (e ▸ hc)), fun _ h => h⟩⟩
 ·by_cases hcb : c = r
  ·subst hcb
   simp only [World.cell?, h, hsame]
   cases o <;> simp [noCells] at h1 <;> cases o' <;> simp [noCells] at h2 <;> rfl
  exact World.cell?_of_block (a := ⟨c, off, none⟩) (hother c hcb)
 by_cases hcb : c = r
 ·subst hcb
  simp only [rowSize, h, hsame]
  cases o <;> simp [noCells] at h1 <;> cases o' <;> simp [noCells] at h2 <;> rfl
 exact rowSize_same (hother c hcb)
/-- Behind a piece of code that may have left marks. -/
def MPost (P : Program) (G : Globs) (Q : Exit -> AState -> Prop) (w : World) (R : Own) (N : Name -> Option Nat) (bsF : List Nat) : Exit -> Act -> World -> Prop := fun e act' w' =>
 ∃ rs s' R' N' bsT bsL bsH, Q e s' /\ RelB G w' R' N' act'.tmps.toList s' undef .undef [] bsT bsL bsH (rs ++ bsF) /\ act'.defers = rs.map rmark /\ (∀ r ∈ rs, w'.heap[r]? = some (.deferred (some [])) /\ R' r 0) /\ Keep w R w' R' bsF /\ (∀ o b, N (.out o) = some b -> N' (.out o) = some b)
def Marks (w : World) (R : Own) (rs : List Nat) : Prop := ∀ r ∈ rs, w.heap[r]? = some (.deferred (some [])) /\ R r 0
/-- Code that may leave marks, from a state that may hold some. -/
def MCode (P : Program) (G : Globs) (c : Code) (Q : Exit -> AState -> Prop) (s : AState) : Prop :=
 ∀ (w : World) (R : Own) (N : Name -> Option Nat) (act : Act) (bsT bsL bsH bsF rs : List Nat), RelB G w R N act.tmps.toList s undef .undef [] bsT bsL bsH (rs ++ bsF) -> act.defers = rs.map rmark -> Marks w R rs ->
  c.wp P (MPost P G Q w R N bsF) act w
theorem Marks.keep {w w' : World} {R R' : Own} {rs bs : List Nat} (h : Marks w R rs) (hk : Keep w R w' R' bs) (hs : ∀ b ∈ rs, b ∈ bs) : Marks w' R' rs := fun r hr => by
 obtain ⟨m1, m2⟩ := h r hr
 obtain ⟨k1, k2⟩ := hk.same r (hs r hr) (lt_of_heap m1)
 exact ⟨k1.trans m1, k2 _ m2⟩
theorem mcode_of_acode {c : Code} {Q : Exit -> AState -> Prop} {s : AState} (h : ACode P G c Q s) : MCode P G c Q s := by
 intro w R N act bsT bsL bsH bsF rs hr hd hm
 refine wp_mono (wp_of_wpR (h w R N act bsT bsL bsH (rs ++ bsF) hr hd)) ?_
 rintro e a w' ⟨s', R', N', bsT', bsL', bsH', hq, hr', hd', hk, hN⟩
 exact ⟨rs, s', R', N', bsT', bsL', bsH', hq, hr', hd', hm.keep hk (fun b hb => by simp [hb]), hk.sub (by intro b hb; simp [hb]), hN⟩
theorem MPost.trans {Q : Exit -> AState -> Prop} {w w1 : World} {R R1 : Own} {N N1 : Name -> Option Nat} {bsF : List Nat} (hk : Keep w R w1 R1 bsF) (hN : ∀ o b, N (.out o) = some b -> N1 (.out o) = some b) {e : Exit} {a : Act} {w2 : World}
  (h : MPost P G Q w1 R1 N1 bsF e a w2) : MPost P G Q w R N bsF e a w2 := by
 obtain ⟨rs, s', R', N', bsT, bsL, bsH, hq, hr, hd, hm, hk', hN'⟩ := h
 exact ⟨rs, s', R', N', bsT, bsL, bsH, hq, hr, hd, hm, hk.trans hk', fun o b h => hN' o b (hN o b h)⟩
theorem mcode_mono {c : Code} {Q Q' : Exit -> AState -> Prop} {s : AState} (h : MCode P G c Q s) (hq : ∀ e s', Q e s' -> Q' e s') : MCode P G c Q' s := by
 intro w R N act bsT bsL bsH bsF rs hr hd hm
 refine wp_mono (h w R N act bsT bsL bsH bsF rs hr hd hm) ?_
 rintro e a w' ⟨rs', s', R', N', bsT', bsL', bsH', h1, h2⟩
 exact ⟨rs', s', R', N', bsT', bsL', bsH', hq _ _ h1, h2⟩
theorem mcode_seq {x y : Code} {Q : Exit -> AState -> Prop} {s : AState} (h : MCode P G x (fun e s' => match e with | .normal => MCode P G y Q s' | e => Q e s') s) : MCode P G (.seq x y) Q s := by
 intro w R N act bsT bsL bsH bsF rs hr hd hm
 apply wp_seq
 refine wp_mono (h w R N act bsT bsL bsH bsF rs hr hd hm) ?_
 rintro e a w' ⟨rs', s', R', N', bsT', bsL', bsH', hq, hr', hd', hm', hk, hN⟩
 cases e with
 | normal => exact wp_mono (hq w' R' N' a bsT' bsL' bsH' bsF rs' hr' hd' hm') (fun e a w h => h.trans hk hN)
 | _ => exact ⟨rs', s', R', N', bsT', bsL', bsH', hq, hr', hd', hm', hk, hN⟩
theorem mcode_seq1 {x y : Code} {Q : Exit -> AState -> Prop} {s : AState} (h : ACode P G x (fun e s' => match e with | .normal => MCode P G y Q s' | e => Q e s') s) : MCode P G (.seq x y) Q s := mcode_seq (mcode_of_acode h)
theorem mcode_loop {α : Type} {c : Code} {Q : Exit -> AState -> Prop} {s : AState} (ts ls : List Nat) (st : α -> AState) (ok : α -> Prop) (μ : α -> Nat) (x0 : α) (h0 : ok x0) (hs : s.keep ts ls = st x0)
  (round : ∀ x, ok x -> MCode P G c (seqQ (fun s' => ∃ x', ok x' /\ μ x' < μ x /\ s'.keep ts ls = st x') Q) (st x)) : MCode P G (.loop c) Q s := by
 intro w R N act bsT bsL bsH bsF rs hr hd hm
 refine wp_loop_ghost (I := fun n a w' => ∃ x rs' R' N' bsT' bsL' bsH', ok x /\ μ x = n /\ RelB G w' R' N' a.tmps.toList (st x) undef .undef [] bsT' bsL' bsH' (rs' ++ bsF) /\ a.defers = rs'.map rmark /\ Marks w' R' rs' /\ Keep w R w' R' bsF /\ (∀ o b, N (.out o) = some b -> N' (.out o) = some b)) (n0 := μ x0) ?_ ?_
 ·obtain ⟨bsT', bsL', hr'⟩ := hr.forget ts ls
  rw [hs] at hr'
  exact ⟨x0, rs, R, N, bsT', bsL', bsH, h0, rfl, hr', hd, hm, keep_refl _, fun _ _ h => h⟩
 rintro n a w' ⟨x, rs', R', N', bsT', bsL', bsH', hok, rfl, hr', hd', hm', hk, hN⟩
 refine wp_mono (round x hok w' R' N' a bsT' bsL' bsH' bsF rs' hr' hd' hm') ?_
 rintro e a2 w2 ⟨rs2, s2, R2, N2, bsT2, bsL2, bsH2, hq, hr2, hd2, hm2, hk2, hN2⟩
 cases e with
 | normal =>
  obtain ⟨x', hok', hlt, hs'⟩ := hq
  obtain ⟨bsT3, bsL3, hr3⟩ := hr2.forget ts ls
  rw [hs'] at hr3
  exact ⟨μ x', hlt, x', rs2, R2, N2, bsT3, bsL3, bsH2, hok', rfl, hr3, hd2, hm2, hk.trans hk2, fun o b h => hN2 o b (hN o b h)⟩
 | _ => exact ⟨rs2, s2, R2, N2, bsT2, bsL2, bsH2, hq, hr2, hd2, hm2, hk.trans hk2, fun o b h => hN2 o b (hN o b h)⟩
theorem mcode_block {id : Nat} {c : Code} {Q : Exit -> AState -> Prop} {s : AState} (h : MCode P G c (fun e s' => match e with | .normal => Q .normal s' | .exit i => if i = id then Q .normal s' else Q (.exit i) s' | e => Q e s') s) : MCode P G (.block id c) Q s := by
 intro w R N act bsT bsL bsH bsF rs0 hr hd hm0
 apply wp_block
 refine wp_mono (h w R N act bsT bsL bsH bsF rs0 hr hd hm0) ?_
 rintro e a w' ⟨rs, s', R', N', bsT', bsL', bsH', hq, hr', hd', hm, hk, hN⟩
 cases e with
 | normal => exact ⟨rs, s', R', N', bsT', bsL', bsH', hq, hr', hd', hm, hk, hN⟩
 | exit i =>
  simp only [Exit.inBlock]
  by_cases hi : i = id
  ·subst hi
   rw [if_pos rfl]
   simp only [if_pos] at hq
   exact ⟨rs, s', R', N', bsT', bsL', bsH', hq, hr', hd', hm, hk, hN⟩
  rw [if_neg hi]
  simp only [if_neg hi] at hq
  exact ⟨rs, s', R', N', bsT', bsL', bsH', hq, hr', hd', hm, hk, hN⟩
 | _ => exact ⟨rs, s', R', N', bsT', bsL', bsH', hq, hr', hd', hm, hk, hN⟩
/-- A frame that leaves with its marks. -/
theorem leaves_marks {fn : Func} {tmps : Array Value} {RR : Ending -> World -> Prop} {s' : AState} {N' : Name -> Option Nat} {bsT bsL bsH bsF : List Nat} {w : World} {R : Own}
  (fin : ∀ (w1 : World) (R1 : Own), RelB G w1 R1 N' tmps.toList s' undef .undef [] bsT bsL bsH bsF -> Keep w R w1 R1 bsF -> ∃ v, (results fn tmps).run P w1 = .ok v w1 /\ RR (.returned v) w1) :
  ∀ (rs : List Nat) (w1 : World) (R1 : Own), RelB G w1 R1 N' tmps.toList s' undef .undef [] bsT bsL bsH (rs ++ bsF) -> (∀ r ∈ rs, w1.heap[r]? = some (.deferred (some [])) /\ R1 r 0) -> Keep w R w1 R1 bsF ->
   LeavesInM Fence.wide 1 P fn tmps RR (rs.map rmark) .returning w1
 | [], w1, R1, hr, _, hk => fin w1 R1 (by simpa using hr) hk
 | r :: rs, w1, R1, hr, hm, hk => by
  obtain ⟨m1, m2⟩ := hm r (by simp)
  have hnd := hr.nodup
  have hnot : ∀ {bs : List Nat}, (∀ b ∈ bs, b ∈ bsT ++ (bsL ++ (bsH ++ (rs ++ bsF)))) -> r ∉ bs := by
   intro bs hb hx
   have hp : ([] ++ (bsT ++ (bsL ++ (bsH ++ ((r :: rs) ++ bsF))))).Perm (r :: (bsT ++ (bsL ++ (bsH ++ (rs ++ bsF))))) := by
    rw [List.perm_iff_count]; intro q; simp only [List.count_append, List.count_cons, List.count_nil]; omega
   exact (List.nodup_cons.1 (hp.nodup_iff.1 hnd)).1 (hb r hx)
  have hk2 : ∀ bs, r ∉ bs -> Keep w1 R1 (w1.putObj r (.deferred none)) R1 bs := fun bs hb => keep_putObj m1 rfl rfl m2 bs hb
  refine ⟨by simp, .inl ⟨r, _, rfl, run_takeDeferred m1, ?_⟩⟩
  refine leaves_marks fin rs _ R1 ⟨repV_undef _, hr.tmps.keep (hk2 bsT (hnot (by intro b hb; simp [hb]))), hr.locs.keep (hk2 bsL (hnot (by intro b hb; simp [hb]))), hr.heap.keep (hk2 bsH (hnot (by intro b hb; simp [hb]))), ?_, hr.next,
   fun g cs hg => (hr.glob g cs hg).step (hk2 [] (by simp)).step, fun b hb => Nat.lt_of_lt_of_le (hr.frame b (by simp at hb ⊢; exact .inr hb)) (hk2 [] (by simp)).step.size⟩ (fun q hq => ?_) (hk.trans (hk2 bsF (hnot (by intro b hb; simp [hb]))))
  ·have hp : ([] ++ (bsT ++ (bsL ++ (bsH ++ ((r :: rs) ++ bsF))))).Perm (r :: ([] ++ (bsT ++ (bsL ++ (bsH ++ (rs ++ bsF)))))) := by
    rw [List.perm_iff_count]; intro q; simp only [List.count_append, List.count_cons, List.count_nil]; omega
   exact (List.nodup_cons.1 (hp.nodup_iff.1 hnd)).2
  ·obtain ⟨q1, q2⟩ := hm q (by simp [hq])
   refine ⟨?_, q2⟩
   have hne : q ≠ r := fun e => (hnot (bs := rs) (by intro b hb; simp [hb])) (e ▸ hq)
   rw [World.putObj_heap_other hne]
   exact q1
/-- A function's contract out of its body, marks and all. -/
theorem acalls_of_mcode (hE : E.Ok P) {f : FuncId} {fn : Func} {c : Code} (hf : P.funcs[f]? = some fn) (hb : fn.body = some c) {args : List AVal} {heap : List (Name × AObj)} {next : Nat} {Q : AVal -> List (Name × AObj) -> Nat -> Prop}
  (h : bndL args -> bndO heap -> MCode P G c (bodyQ E fn.results.toList Q) (enter fn.ntmps args heap next)) : ACalls P G f args heap next Q := by
 intro w R N cargs bsA bsH bsF ha hh hnd hnx hg hF
 replace h := h ha.bnd hh.bnd
 refine (callsIn_wide (n := 1)).1 (callsIn_of_wp_marks hf hb trivial ?_ rfl)
 rw [wpIn_wide]
 have hlen := ha.length
 have hr : RelB G w R (outs N) ((cargs.toArray ++ Array.replicate (fn.ntmps - cargs.toArray.size) undef).toList) (enter fn.ntmps args heap next) undef .undef [] bsA [] bsH bsF := by
  refine ⟨repV_undef _, ?_, rfl, ?_, by simpa using hnd, ?_, hg, hF⟩
  ·have := repVs_append ha (repVs_undef (w := w) (R := R) (N := outs N) (fn.ntmps - args.length))
   simpa [enter, hlen] using this
  ·exact hh.ext (fun m b hm => by cases m with | loc i => simp [outs] at hm | out o => exact hm)
  intro o b ho; exact hnx o b ho
 refine wp_mono (h w R (outs N) _ bsA [] bsH bsF [] (by simpa using hr) rfl (by intro r hr; simp at hr)) ?_
 rintro e a w' ⟨rs, s', R', N', bsT, bsL, bsH', hq, hr', hd', hm, hk, hN⟩
 have key : aret E fn.results.toList Q s' -> LeavesInM Fence.wide 1 P fn a.tmps (fun e w' => ∃ v2 cv heap' next' R'' N'' bsV bsH'', e = .returned cv /\ Q v2 heap' next' /\ RepV w' R'' (outs N'') v2 cv bsV /\ RepObjs w' R'' (outs N'') heap' bsH'' ∧
   (bsV ++ (bsH'' ++ bsF)).Nodup /\ (∀ o b, N'' (.out o) = some b -> o < next') /\ Keep w R w' R'' bsF /\ (∀ o b, N (.out o) = some b -> N'' (.out o) = some b)) a.defers .returning w' := by
  intro hret
  rw [hd']
  refine leaves_marks (w := w) (R := R) (bsF := bsF) ?_ rs w' R' hr' hm hk
  intro w1 R1 hr1 hk1
  obtain ⟨cv, g1, v2, heap', next', R'', N'', bsV, bsH'', q1, q2, q3, q4, q5, q6, q7⟩ := aret_sound hE hret hr1
  exact ⟨cv, g1, v2, cv, heap', next', R'', N'', bsV, bsH'', rfl, q1, q2, q3, q4, q5, hk1.trans q6, fun o b h => q7 o b (hN o b h)⟩
 cases e with
 | ret => exact key hq
 | normal => exact key hq
 | exit i => exact hq.elim
 | goto l => exact hq.elim
 | panic ch => exact hq.elim
 | outgrown => exact hq.elim
end
/-! ### The run -/
section
variable (X : XCalls) (E : TEnv) (G : Globs) (H : Hints) (n : Nat) (live : Nat -> Nat) (fuel : Nat)
end
theorem enter_slOf (n : Nat) (args : List AVal) (heap : Heap) (next : Nat) (hlen : args.length <= n) : (⟨slOf 0 args, [], heap, next⟩ : FState).toA n = enter n args heap next := by
 simp only [FState.toA, enter]
 congr 1
 apply List.ext_getElem?
 intro i
 rw [mkS_get, Nat.zero_add, slOf_get, if_pos (Nat.zero_le _), Nat.sub_zero, List.getElem?_append]
 split
 ·split
  ·rename_i hi; unfold getT; rw [List.getElem?_eq_getElem hi]
  rename_i hi1 hi
  rw [List.getElem?_replicate, if_pos (by omega)]
  unfold getT
  rw [List.getElem?_eq_none (by omega)]
 rename_i hi
 rw [if_neg (by omega), List.getElem?_replicate, if_neg (by omega)]
end Go.Tp

namespace Go.Tp
open Go.RowKit
section
variable {P : Program} {E : TEnv} {G : Globs} {H : Hints}
/-- What a round sees of its caller's slots. -/
def seen (a : AVal) : AVal := if noLoc (unOwn a) = true then unOwn a else .undef
def seenL (l : List AVal) : List AVal := l.map seen
theorem seen_rep {w : World} {R : Own} {N : Name -> Option Nat} {a : AVal} {v : Value} {bs : List Nat} (h : RepV w R N a v bs) : RepV w R (outs N) (seen a) v [] := by
 unfold seen
 split
 ·rename_i hn
  exact (unOwn_rep h).reN hn (fun _ => rfl)
 exact repV_undef _
theorem seenL_rep {w : World} {R : Own} {N : Name -> Option Nat} : ∀ {as : List AVal} {vs : List Value} {bs : List Nat}, RepVs w R N as vs bs -> RepVs w R (outs N) (seenL as) vs []
 | [], vs, bs, h => by simp only [RepVs] at h; obtain ⟨rfl, _⟩ := h; exact repVs_nil
 | a :: as, vs, bs, h => by
  obtain ⟨v, vs', b1, b2, rfl, rfl, h1, h2⟩ := repVs_cons_inv h
  exact repVs_cons (b1 := []) (b2 := []) (seen_rep h1) (seenL_rep h2)
/-- The parameters of a round. -/
def setPs (ps : List Nat) (vs ts : List AVal) : List AVal := (ps.zip vs).foldl (fun t x => t.set x.1 x.2) ts
theorem repVs_set0 {w : World} {R : Own} {N : Name -> Option Nat} {a : AVal} {v : Value} (hv : RepV w R N a v []) : ∀ {as : List AVal} {vs : List Value} (d : Nat), RepVs w R N as vs [] -> RepVs w R N (as.set d a) (vs.set d v) []
 | [], vs, d, h => by simp only [RepVs] at h; obtain ⟨rfl, _⟩ := h; simpa using repVs_nil
 | x :: xs, vs, d, h => by
  obtain ⟨u, us, b1, b2, rfl, e, k1, k2⟩ := repVs_cons_inv h
  obtain ⟨rfl, rfl⟩ : b1 = [] /\ b2 = [] := by simpa using e.symm
  cases d with
  | zero => exact repVs_cons (b1 := []) (b2 := []) hv k2
  | succ d => exact repVs_cons (b1 := []) (b2 := []) k1 (repVs_set0 hv d k2)
theorem setPs_rep {w : World} {R : Own} {N : Name -> Option Nat} : ∀ (ps : List Nat) (vs : List AVal) (us : List Value) {ts : List AVal} {tmps : List Value}, RepVs w R N vs us [] -> RepVs w R N ts tmps [] ->
  RepVs w R N (setPs ps vs ts) ((ps.zip us).foldl (fun t x => t.set x.1 x.2) tmps) []
 | [], _, _, _, _, _, h => by simpa [setPs] using h
 | _ :: _, [], us, _, _, hv, h => by
  simp only [RepVs] at hv
  obtain ⟨rfl, _⟩ := hv
  simpa [setPs] using h
 | p :: ps, v :: vs, us, ts, tmps, hv, h => by
  obtain ⟨u, us', b1, b2, rfl, e, k1, k2⟩ := repVs_cons_inv hv
  obtain ⟨rfl, rfl⟩ : b1 = [] /\ b2 = [] := by simpa using e.symm
  have := setPs_rep ps vs us' k2 (repVs_set0 k1 p h)
  simpa [setPs] using this
theorem fold_toList (ps : List Nat) (us : List Value) (tmps : Array Value) : ((ps.toArray.zip us.toArray).foldl (fun t (x : Nat × Value) => t.setIfInBounds x.1 x.2) tmps).toList = (ps.zip us).foldl (fun t x => t.set x.1 x.2) tmps.toList := by
 rw [← Array.foldl_toList, Array.toList_zip]
 generalize hz : ps.zip us = z
 clear hz
 induction z generalizing tmps with
 | nil => rfl
 | cons x xs ih => simp only [List.foldl_cons]; rw [ih]; simp
/-- One round, told of the heap alone. -/
def Round (P : Program) (G : Globs) (ps : List Nat) (asn bd : Code) (ts vs : List AVal) (heap : Heap) (next : Nat) (K : Heap -> Nat -> Prop) : Prop :=
 ACode P G asn (fun e s => e = .normal /\ ACode P G bd (fun e q => e = .normal /\ K q.heap q.next) s) ⟨setPs ps vs ts, [], heap, next⟩
/-- A range under way: its record lies ready, its caller's slots are known. -/
def Und (l : Nat) (rec : Loop) (ts : List AVal) (w : World) (R : Own) (N : Name -> Option Nat) (bsF : List Nat) : Prop :=
 l ∈ bsF /\ w.heap[l]? = some (.loop rec) /\ R l 0 /\ RepVs w R (outs N) ts rec.tmps.toList []
theorem Und.keep {l : Nat} {rec : Loop} {ts : List AVal} {w w' : World} {R R' : Own} {N N' : Name -> Option Nat} {bsF : List Nat} (h : Und l rec ts w R N bsF) (hk : Keep w R w' R' bsF) (hN : ∀ o b, N (.out o) = some b -> N' (.out o) = some b) : Und l rec ts w' R' N' bsF := by
 obtain ⟨h1, h2, h3, h4⟩ := h
 obtain ⟨k1, k2⟩ := hk.same l h1 (lt_of_heap h2)
 refine ⟨h1, k1.trans h2, k2 _ h3, (h4.keep (hk.sub (by simp))).ext ?_⟩
 intro m b hm
 cases m with
 | loc i => simp [outs] at hm
 | out o => exact hN o b hm
/-- The iterator's code. -/
def ICode (P : Program) (G : Globs) (l : Nat) (rec : Loop) (ts : List AVal) (c : Code) (Q : Exit -> AState -> Prop) (s : AState) : Prop :=
 ∀ (w : World) (R : Own) (N : Name -> Option Nat) (act : Act) (bsT bsL bsH bsF : List Nat), RelB G w R N act.tmps.toList s undef .undef [] bsT bsL bsH bsF -> Und l rec ts w R N bsF -> ∀ {D : List Deferred}, act.defers = D ->
  c.wpR P (CPost G D Q w R N bsF) act w
variable {l : Nat} {rec : Loop} {ts : List AVal}
theorem icode_of_acode {c : Code} {Q : Exit -> AState -> Prop} {s : AState} (h : ACode P G c Q s) : ICode P G l rec ts c Q s := fun w R N act bsT bsL bsH bsF hr _ _ hd => h w R N act bsT bsL bsH bsF hr hd
theorem icode_seq {x y : Code} {Q : Exit -> AState -> Prop} {s : AState} (h : ICode P G l rec ts x (fun e s' => match e with | .normal => ICode P G l rec ts y Q s' | e => Q e s') s) : ICode P G l rec ts (.seq x y) Q s := by
 intro w R N act bsT bsL bsH bsF hr hu D hd
 apply wpR_seq
 refine wpR_mono (h w R N act bsT bsL bsH bsF hr hu hd) ?_
 rintro e a w' ⟨s', R', N', bsT', bsL', bsH', hq, hr', hd', hk, hN⟩
 cases e with
 | normal =>
  refine wpR_mono (hq w' R' N' a bsT' bsL' bsH' bsF hr' (hu.keep hk hN) hd') ?_
  rintro e a2 w2 ⟨s2, R2, N2, bsT2, bsL2, bsH2, hq2, hr2, hd2, hk2, hN2⟩
  exact ⟨s2, R2, N2, bsT2, bsL2, bsH2, hq2, hr2, hd2, hk.trans hk2, fun o b h => hN2 o b (hN o b h)⟩
 | _ => exact ⟨s', R', N', bsT', bsL', bsH', hq, hr', hd', hk, hN⟩
theorem icode_block {id : Nat} {c : Code} {Q : Exit -> AState -> Prop} {s : AState} (h : ICode P G l rec ts c (fun e s' => match e with | .normal => Q .normal s' | .exit i => if i = id then Q .normal s' else Q (.exit i) s' | e => Q e s') s) : ICode P G l rec ts (.block id c) Q s := by
 intro w R N act bsT bsL bsH bsF hr hu D hd
 apply wpR_block
 refine wpR_mono (h w R N act bsT bsL bsH bsF hr hu hd) ?_
 rintro e a w' ⟨s', R', N', bsT', bsL', bsH', hq, hr', hd', hk, hN⟩
 cases e with
 | normal => exact ⟨s', R', N', bsT', bsL', bsH', hq, hr', hd', hk, hN⟩
 | exit i =>
  simp only [Exit.inBlock]
  by_cases hi : i = id
  ·subst hi
   rw [if_pos rfl]
   simp only [if_pos] at hq
   exact ⟨s', R', N', bsT', bsL', bsH', hq, hr', hd', hk, hN⟩
  rw [if_neg hi]
  simp only [if_neg hi] at hq
  exact ⟨s', R', N', bsT', bsL', bsH', hq, hr', hd', hk, hN⟩
 | _ => exact ⟨s', R', N', bsT', bsL', bsH', hq, hr', hd', hk, hN⟩
theorem icode_cond {c : Operand} {x y : Code} {Q : Exit -> AState -> Prop} {s : AState} {t : Bool} (hc : aeval G s c = .dat (.flat (.bool t))) (h : ICode P G l rec ts (if t then x else y) Q s) : ICode P G l rec ts (.cond c x y) Q s := by
 intro w R N act bsT bsL bsH bsF hr hu D hd
 obtain ⟨bt, hev⟩ := eval_raw hr.tmps hr.glob c
 rw [hc] at hev
 obtain ⟨_, he, _⟩ := repV_flat_inv hev
 exact wpR_cond he (h w R N act bsT bsL bsH bsF hr hu hd)
theorem icode_loop {α : Type} {c : Code} {Q : Exit -> AState -> Prop} {s : AState} (us ls : List Nat) (st : α -> AState) (ok : α -> Prop) (μ : α -> Nat) (x0 : α) (h0 : ok x0) (hs : s.keep us ls = st x0)
  (round : ∀ x, ok x -> ICode P G l rec ts c (seqQ (fun s' => ∃ x', ok x' /\ μ x' < μ x /\ s'.keep us ls = st x') Q) (st x)) : ICode P G l rec ts (.loop c) Q s := by
 intro w R N act bsT bsL bsH bsF hr hu D hd
 refine wpR_loop_ghost (I := fun n a w' => ∃ x R' N' bsT' bsL' bsH', ok x /\ μ x = n /\ RelB G w' R' N' a.tmps.toList (st x) undef .undef [] bsT' bsL' bsH' bsF /\ a.defers = D /\ Keep w R w' R' bsF /\ (∀ o b, N (.out o) = some b -> N' (.out o) = some b)) (n0 := μ x0) ?_ ?_
 ·obtain ⟨bsT', bsL', hr'⟩ := hr.forget us ls
  rw [hs] at hr'
  exact ⟨x0, R, N, bsT', bsL', bsH, h0, rfl, hr', hd, keep_refl _, fun _ _ h => h⟩
 rintro n a w' ⟨x, R', N', bsT', bsL', bsH', hok, rfl, hr', hd', hk, hN⟩
 refine wpR_mono (round x hok w' R' N' a bsT' bsL' bsH' bsF hr' (hu.keep hk hN) hd') ?_
 rintro e a2 w2 ⟨s2, R2, N2, bsT2, bsL2, bsH2, hq, hr2, hd2, hk2, hN2⟩
 cases e with
 | normal =>
  obtain ⟨x', hok', hlt, hs'⟩ := hq
  obtain ⟨bsT3, bsL3, hr3⟩ := hr2.forget us ls
  rw [hs'] at hr3
  exact ⟨μ x', hlt, x', R2, N2, bsT3, bsL3, bsH2, hok', rfl, hr3, hd2, hk.trans hk2, fun o b h => hN2 o b (hN o b h)⟩
 | _ => exact ⟨s2, R2, N2, bsT2, bsL2, bsH2, hq, hr2, hd2, hk.trans hk2, fun o b h => hN2 o b (hN o b h)⟩
theorem wpIn_rd0 {rd : Option Nat} {c : Code} {Q : Exit -> Act -> World -> Prop} {a : Act} {w : World} (h : c.wpIn (rdF rd) 1 P Q a w) : c.wpIn (rdF rd) 0 P Q a w := fun b k cs hro hb _ => h b k cs hro hb (by intro d hd; simp [Fence.wide] at hd)
/-- The call of the body. -/
theorem yield_sound {rd : Option Nat} {D : List Deferred} {ops : Array Oper} {i : Nat} {o : Oper} (hi : ops[i]? = some o) {t : Nat} {xs : Array Operand} {tys : Array TypeId} (ho : o.op = .call ⟨.value (.tmp t), xs, tys⟩) {s : AState} (hw : wantedA ops.toList s o.guard = some true)
  (hg : getT s.tmps t = .fn (.yield l) [] []) (hps : xs.size = rec.params.size) (hst : rec.state = .ready) (hpe : rec.pending = none) (hno : noLocL (evalArgs G s none 0 xs.toList) = true) {K : AState -> Prop}
  (h : Round P G rec.params.toList rec.assign rec.body ts (evalArgs G s none 0 xs.toList) s.heap s.next (fun heap next => K (({ s with heap := heap, next := next } : AState).put o.dst (.dat (.flat (.bool true))))))
  {Qx : Exit -> Act -> World -> Prop} {w : World} {R : Own} {N : Name -> Option Nat} {act : Act} {bsT bsL bsH bsF : List Nat} (hr : RelB G w R N act.tmps.toList s undef .undef [] bsT bsL bsH bsF) (hu : Und l rec ts w R N bsF) (hd : act.defers = D) :
  wpOpIn (rdF rd) 1 P ops Qx i (Aft G D K w R N bsF) act w := by
 obtain ⟨hlF, hl, hRl, hts⟩ := hu
 unfold wpOpIn
 simp only [hi]
 rw [wanted_sound hr.tmps hw, if_pos rfl]
 refine ⟨fun _ _ => trivial, ?_⟩
 obtain ⟨bt, hev⟩ := eval_raw hr.tmps hr.glob (.tmp t)
 rw [show aeval G s (.tmp t) = .fn (.yield l) [] [] from hg] at hev
 simp only [RepV] at hev
 obtain ⟨_, vs0, us0, hev, hvs0, hus0⟩ := hev
 obtain ⟨rfl, _⟩ := repVs_nil_inv hvs0
 obtain ⟨rfl, _⟩ := repVs_nil_inv hus0
 have hargs : RepVs w R N (evalArgs G s none 0 xs.toList) (xs.toList.map act.eval) [] := args_copy hr.tmps hr.glob none 0 _ (by simp)
 have hargs2 : RepVs w R (outs N) (evalArgs G s none 0 xs.toList) (xs.toList.map act.eval) [] := hargs.reN hno (fun _ => rfl)
 have hsz : (xs.map act.eval).size = rec.params.size := by simpa using hps
 have hrun : (o.semAt rd act.eval).run P w = .ok (.round l rec.fn ((rec.params.zip (xs.map act.eval)).foldl (fun tmps (x : Nat × Value) => tmps.setIfInBounds x.1 x.2) rec.tmps) rec.assign rec.body) w := by
  have hs : o.semAt rd act.eval = execOp act.eval o := by
   unfold Oper.semAt
   cases rd with
   | none => rfl
   | some l => rw [ho]
  have hy := run_yield (P := P) (args := xs.map act.eval) hl hsz
  rw [hs]
  simp [execOp, ho, resolve, hev, Deferred.ofValue, invoke, hy]
 rw [hrun, Oper.uponIn_round]
 refine ⟨by simp [Fence.wide], roundIn_of_wpIn (F := rdF rd) trivial ?_⟩
 have hnd0 : (bsT ++ (bsL ++ (bsH ++ bsF))).Nodup := by simpa using hr.nodup
 have hr0 : RelB G w R (outs N) ((rec.params.zip (xs.map act.eval)).foldl (fun tmps (x : Nat × Value) => tmps.setIfInBounds x.1 x.2) rec.tmps).toList ⟨setPs rec.params.toList (evalArgs G s none 0 xs.toList) ts, [], s.heap, s.next⟩ undef .undef [] [] [] bsH (bsT ++ (bsL ++ bsF)) := by
  refine ⟨repV_undef _, ?_, rfl, hr.heap.outs_eq (fun _ => rfl), ?_, fun o b hb => hr.next o b hb, hr.glob, ?_⟩
  ·have e := fold_toList rec.params.toList (xs.toList.map act.eval) rec.tmps
   rw [show rec.params.toList.toArray = rec.params by simp, show (xs.toList.map act.eval).toArray = xs.map act.eval from Array.ext' (by simp)] at e
   rw [e]
   exact setPs_rep _ _ _ hargs2 hts
  ·have hp : ([] ++ ([] ++ ([] ++ (bsH ++ (bsT ++ (bsL ++ bsF)))))).Perm (bsT ++ (bsL ++ (bsH ++ bsF))) := by
    rw [List.perm_iff_count]; intro q; simp only [List.count_append, List.count_nil]; omega
   exact hp.nodup_iff.2 hnd0
  intro b hb
  simp at hb
  rcases hb with h | h | h
  ·exact hr.tmps.lt b h
  ·exact hr.locs.lt b h
  exact hr.frame b h
 have hlF' : l ∈ bsT ++ (bsL ++ bsF) := by simp [hlF]
 refine wpIn_rd0 (wpIn_mono (h w R (outs N) ⟨_, []⟩ [] [] bsH (bsT ++ (bsL ++ bsF)) hr0 (D := []) rfl (some l)) ?_)
 rintro e a1 w1 ⟨s1, R1, N1, bsT1, bsL1, bsH1, ⟨rfl, hbd⟩, hr1, hd1, hk1, hN1⟩
 obtain ⟨k1, k2⟩ := hk1.same l hlF' (lt_of_heap hl)
 have hl1 := k1.trans hl
 have hR1 := k2 _ hRl
 have hnot : ∀ {bs A B C : List Nat}, ([] ++ (A ++ (B ++ (C ++ (bsT ++ (bsL ++ bsF)))))).Nodup -> (∀ b ∈ bs, b ∈ A ++ (B ++ C)) -> l ∉ bs := by
  intro bs A B C hnd hb hx
  have hp : ([] ++ (A ++ (B ++ (C ++ (bsT ++ (bsL ++ bsF)))))).Perm ((A ++ (B ++ C)) ++ (bsT ++ (bsL ++ bsF))) := by
   rw [List.perm_iff_count]; intro q; simp only [List.count_append, List.count_nil]; omega
  exact (List.nodup_append.1 (hp.nodup_iff.1 hnd)).2.2 _ (hb _ hx) _ hlF' rfl
 refine ⟨_, run_beginRound hl1 hst, ?_⟩
 have hkb : ∀ bs, l ∉ bs -> Keep w1 R1 (w1.putObj l (.loop { rec with state := .busy })) R1 bs := fun bs hb => keep_putObj hl1 rfl rfl hR1 bs hb
 have hlb : (w1.putObj l (.loop { rec with state := .busy })).heap[l]? = some (.loop { rec with state := .busy }) := World.putObj_heap_same (lt_of_heap hl1)
 generalize w1.putObj l (.loop { rec with state := .busy }) = w2 at hkb hlb ⊢
 have hr2 : RelB G w2 R1 N1 a1.tmps.toList s1 undef .undef [] bsT1 bsL1 bsH1 (bsT ++ (bsL ++ bsF)) :=
  ⟨repV_undef _, hr1.tmps.keep (hkb _ (hnot hr1.nodup (by intro b hb; simp [hb]))), hr1.locs.keep (hkb _ (hnot hr1.nodup (by intro b hb; simp [hb]))), hr1.heap.keep (hkb _ (hnot hr1.nodup (by intro b hb; simp [hb]))), hr1.nodup, hr1.next,
   fun g cs hg => (hr1.glob g cs hg).step (hkb [] (by simp)).step, fun b hb => Nat.lt_of_lt_of_le (hr1.frame b hb) (hkb [] (by simp)).step.size⟩
 refine wpIn_rd0 (wpIn_mono (hbd w2 R1 N1 a1 bsT1 bsL1 bsH1 (bsT ++ (bsL ++ bsF)) hr2 hd1 (some l)) ?_)
 rintro e a2 w3 ⟨q, R3, N3, bsT3, bsL3, bsH3, ⟨rfl, hK⟩, hr3, hd3, hk3, hN3⟩
 obtain ⟨k3, k4⟩ := hk3.same l hlF' (lt_of_heap hlb)
 have hl3 := k3.trans hlb
 have hR3 := k4 _ hR1
 have hend := run_endRound (P := P) none hl3
 have hrec : ({ ({ rec with state := .busy } : Loop) with state := .ready, pending := none } : Loop) = rec := by cases rec; simp_all
 refine ⟨_, _, hend, ?_⟩
 simp only [Option.isNone_none, if_true]
 rw [hrec]
 have hke : ∀ bs, l ∉ bs -> Keep w3 R3 (w3.putObj l (.loop rec)) R3 bs := fun bs hb => keep_putObj hl3 rfl rfl hR3 bs hb
 have hle : (w3.putObj l (.loop rec)).heap[l]? = some (.loop rec) := World.putObj_heap_same (lt_of_heap hl3)
 generalize w3.putObj l (.loop rec) = w4 at hke hle ⊢
 have hstep : Step w R w4 R3 := ((hk1.step.trans (hkb [] (by simp)).step).trans hk3.step).trans (hke [] (by simp)).step
 have hkeep : Keep w R w4 R3 (bsT ++ (bsL ++ bsF)) := ⟨hstep, fun c hc hlt => by
  by_cases hcl : c = l
  ·subst hcl
   exact ⟨hle.trans hl.symm, fun off ho => k4 _ (k2 _ ho)⟩
  have hx : l ∉ [c] := by simp; exact fun e => hcl e.symm
  exact ((((hk1.sub (by simpa using hc)).trans (hkb [c] hx)).trans (hk3.sub (by simpa using hc))).trans (hke [c] hx)).same c (by simp) hlt⟩
 let N4 : Name -> Option Nat := fun m => match m with | .loc i => N (.loc i) | .out o => N3 (.out o)
 have hext : ∀ m c, N m = some c -> N4 m = some c := fun m c hm => by cases m with | loc i => exact hm | out o => exact hN3 o c (hN1 o c hm)
 have hnd3 : (bsT ++ (bsL ++ (bsH3 ++ bsF))).Nodup := by
  have hp : ([] ++ (bsT3 ++ (bsL3 ++ (bsH3 ++ (bsT ++ (bsL ++ bsF)))))).Perm ((bsT3 ++ bsL3) ++ (bsT ++ (bsL ++ (bsH3 ++ bsF)))) := by
   rw [List.perm_iff_count]; intro q; simp only [List.count_append, List.count_nil]; omega
  exact (List.nodup_append.1 (hp.nodup_iff.1 hr3.nodup)).2.1
 obtain ⟨bsT5, hp1, hp2⟩ := put_state (s := { s with heap := q.heap, next := q.next }) (N := N4) o.dst ((hr.tmps.keep (hkeep.sub (by intro b hb; simp [hb]))).ext hext) (repV_dat (d := .flat (.bool true)) (.flat rfl)) (b := []) (X := bsL ++ (bsH3 ++ bsF)) (by simpa using hnd3)
 obtain ⟨q1, q2, q3⟩ := put_locs { s with heap := q.heap, next := q.next } o.dst (.dat (.flat (.bool true)))
 obtain ⟨pa1, pa2⟩ := put_act act o.dst (.bool true)
 refine ⟨_, R3, N4, bsT5, bsL, bsH3, hK, ⟨repV_undef _, by rw [pa1]; exact hp1, ?_, ?_, by simpa using hp2, ?_, fun g cs hg => (hr.glob g cs hg).step hstep, fun b hb => Nat.lt_of_lt_of_le (hr.frame b hb) hstep.size⟩, by rw [pa2]; exact hd, hkeep.sub (by intro b hb; simp [hb]), fun o b hb => hext _ _ hb⟩
 ·rw [q1]; exact (hr.locs.keep (hkeep.sub (by intro b hb; simp [hb]))).ext hext
 ·rw [q2]; exact (hr3.heap.keep (hke _ (hnot hr3.nodup (by intro b hb; simp [hb])))).outs_eq (fun _ => rfl)
 rw [q3]; exact fun o b hb => hr3.next o b hb
/-- Operations, calls of the body among them. -/
def yops (P : Program) (E : TEnv) (G : Globs) (H : Hints) (l : Nat) (rec : Loop) (ts : List AVal) (all : List Oper) (Q : AState -> Prop) : List Oper -> AState -> Prop
 | [], s => Q s
 | o :: rest, s => aone (ACalls P G) E G H all o (yops P E G H l rec ts all Q rest) s ∨
  ∃ t xs tys, o.op = .call ⟨.value (.tmp t), xs, tys⟩ /\ wantedA all s o.guard = some true /\ getT s.tmps t = .fn (.yield l) [] [] /\ xs.size = rec.params.size /\ noLocL (evalArgs G s none 0 xs.toList) = true ∧
   Round P G rec.params.toList rec.assign rec.body ts (evalArgs G s none 0 xs.toList) s.heap s.next (fun heap next => yops P E G H l rec ts all Q rest (({ s with heap := heap, next := next } : AState).put o.dst (.dat (.flat (.bool true)))))
theorem yops_sound (hE : E.Ok P) (hst : rec.state = .ready) (hpe : rec.pending = none) {rd : Option Nat} {D : List Deferred} (ops : Array Oper) (Q : AState -> Prop) (Kx : Exit -> Act -> World -> Prop) :
  ∀ (rest : List Oper) (k : Nat) (s : AState), ops.toList.drop k = rest -> yops P E G H l rec ts ops.toList Q rest s -> ∀ (w : World) (R : Own) (N : Name -> Option Nat) (act : Act) (bsT bsL bsH bsF : List Nat),
   RelB G w R N act.tmps.toList s undef .undef [] bsT bsL bsH bsF -> Und l rec ts w R N bsF -> act.defers = D -> (∀ a' w', Aft G D Q w R N bsF a' w' -> Kx .normal a' w') -> wpOpsIn (rdF rd) 1 P ops Kx (List.range' k rest.length) act w
 | [], k, s, _, h, w, R, N, act, bsT, bsL, bsH, bsF, hr, _, hd, hK => by
  simp only [List.length_nil, List.range'_zero, wpOpsIn]
  exact hK _ _ ⟨s, R, N, bsT, bsL, bsH, h, hr, hd, keep_refl _, fun _ _ h => h⟩
 | o :: rest, k, s, hdrop, h, w, R, N, act, bsT, bsL, bsH, bsF, hr, hu, hd, hK => by
  have hok : ops[k]? = some o := by
   have := List.getElem?_drop (xs := ops.toList) (i := k) (j := 0)
   rw [hdrop] at this
   simpa using this.symm
  have hdrop' : ops.toList.drop (k + 1) = rest := by rw [← List.drop_drop, hdrop]; rfl
  simp only [yops] at h
  simp only [List.length_cons, List.range'_succ]
  rw [wpOpsIn_cons]
  have h1 : wpOpIn (rdF rd) 1 P ops Kx k (Aft G D (yops P E G H l rec ts ops.toList Q rest) w R N bsF) act w := by
   rcases h with h | ⟨t, xs, tys, ho, hw, hg, hps, hno, hR⟩
   ·exact aone_sound hE ops hok h hr hd
   exact yield_sound hok ho hw hg hps hst hpe hno hR hr hu hd
  refine wpOpIn_mono ?_ h1
  rintro a' w' ⟨s', R', N', bsT', bsL', bsH', hq, hr', hd', hk', hN'⟩
  exact yops_sound hE hst hpe ops Q Kx rest (k + 1) s' hdrop' hq w' R' N' a' bsT' bsL' bsH' bsF hr' (hu.keep hk' hN') hd' (fun a2 w2 h2 => hK a2 w2 (h2.trans hk' hN'))
theorem icode_region (hE : E.Ok P) (hst : rec.state = .ready) (hpe : rec.pending = none) {id : Nat} {ops : Array Oper} {Q : Exit -> AState -> Prop} {s : AState} (h : yops P E G H l rec ts ops.toList (Q .normal) ops.toList s) : ICode P G l rec ts (.region id ops false) Q s := by
 intro w R N act bsT bsL bsH bsF hr hu D hd
 refine wpR_region fun rd => ?_
 rw [List.range_eq_range', ← Array.length_toList]
 exact yops_sound hE hst hpe ops (Q .normal) _ ops.toList 0 s (by simp) h w R N act bsT bsL bsH bsF hr hu hd (fun _ _ h => h)
theorem icalls (hE : E.Ok P) {f : FuncId} {fn : Func} {c : Code} (hf : P.funcs[f]? = some fn) (hb : fn.body = some c) {args : List AVal} {heap : Heap} {next : Nat} {K : Heap -> Nat -> Prop}
  (h : ICode P G l rec ts c (bodyQ E fn.results.toList (fun _ heap next => K heap next)) (enter fn.ntmps args heap next)) :
  ∀ (w : World) (R : Own) (N : Name -> Option Nat) (cargs : List Value) (bsA bsH bsF : List Nat), RepVs w R (outs N) args cargs bsA -> RepObjs w R (outs N) heap bsH -> (bsA ++ (bsH ++ bsF)).Nodup -> (∀ o b, N (.out o) = some b -> o < next) ->
   (∀ g cs, G g = some cs -> GlobAt w R g cs) -> (∀ b ∈ bsF, b < w.heap.size) -> Und l rec ts w R (outs N) bsF -> Calls P f cargs.toArray w (fun e w' => ∃ v2 cv heap' next' R'' N'' bsV bsH'', e = .returned cv /\ K heap' next' /\ RepV w' R'' (outs N'') v2 cv bsV /\ RepObjs w' R'' (outs N'') heap' bsH'' ∧
   (bsV ++ (bsH'' ++ bsF)).Nodup /\ (∀ o b, N'' (.out o) = some b -> o < next') /\ Keep w R w' R'' bsF /\ (∀ o b, N (.out o) = some b -> N'' (.out o) = some b)) := by
 intro w R N cargs bsA bsH bsF ha hh hnd hnx hg hF hu
 refine (callsIn_wide (n := 1)).1 (callsIn_of_wp_marks hf hb trivial ?_ rfl)
 rw [wpIn_wide]
 have hlen := ha.length
 have hr : RelB G w R (outs N) ((cargs.toArray ++ Array.replicate (fn.ntmps - cargs.toArray.size) undef).toList) (enter fn.ntmps args heap next) undef .undef [] bsA [] bsH bsF := by
  refine ⟨repV_undef _, ?_, rfl, ?_, by simpa using hnd, ?_, hg, hF⟩
  ·have := repVs_append ha (repVs_undef (w := w) (R := R) (N := outs N) (fn.ntmps - args.length))
   simpa [enter, hlen] using this
  ·exact hh.ext (fun m b hm => by cases m with | loc i => simp [outs] at hm | out o => exact hm)
  intro o b ho; exact hnx o b ho
 refine wp_mono (wp_of_wpR (h w R (outs N) _ bsA [] bsH bsF hr hu rfl)) ?_
 rintro e a w' ⟨s', R', N', bsT, bsL, bsH', hq, hr', hd', hk, hN⟩
 have key : aret E fn.results.toList (fun _ heap next => K heap next) s' -> LeavesInM Fence.wide 1 P fn a.tmps (fun e w' => ∃ v2 cv heap' next' R'' N'' bsV bsH'', e = .returned cv /\ K heap' next' /\ RepV w' R'' (outs N'') v2 cv bsV /\ RepObjs w' R'' (outs N'') heap' bsH'' ∧
   (bsV ++ (bsH'' ++ bsF)).Nodup /\ (∀ o b, N'' (.out o) = some b -> o < next') /\ Keep w R w' R'' bsF /\ (∀ o b, N (.out o) = some b -> N'' (.out o) = some b)) a.defers .returning w' := by
  intro hret
  rw [hd']
  refine leaves_marks (w := w) (R := R) (bsF := bsF) ?_ [] w' R' (by simpa using hr') (by simp) hk
  intro w1 R1 hr1 hk1
  obtain ⟨cv, g1, v2, heap', next', R'', N'', bsV, bsH'', q1, q2, q3, q4, q5, q6, q7⟩ := aret_sound hE hret hr1
  exact ⟨cv, g1, v2, cv, heap', next', R'', N'', bsV, bsH'', rfl, q1, q2, q3, q4, q5, hk1.trans q6, fun o b h => q7 o b (hN o b h)⟩
 cases e with
 | ret => exact key hq
 | normal => exact key hq
 | exit i => exact hq.elim
 | goto l => exact hq.elim
 | panic ch => exact hq.elim
 | outgrown => exact hq.elim
/-- A range over a function, rounds and all. -/
theorem mcode_range (hE : E.Ok P) {t gf : Nat} {ps : Array Tmp} {asn bd : Code} {captured : List AVal} {s : AState} {fni : Func} {ci : Code} {K : Heap -> Nat -> Prop} {Q : Exit -> AState -> Prop} (hfi : P.funcs[gf]? = some fni) (hbi : fni.body = some ci) (hg : getT s.tmps t = .fn (.func gf) [] captured) (hfn : E.fn gf = true) (hno : noLocL captured = true)
  (h : ∀ l rec, rec.state = .ready -> rec.pending = none -> rec.params = ps -> rec.assign = asn -> rec.body = bd -> ICode P G l rec (seenL s.tmps) ci (bodyQ E fni.results.toList (fun _ heap next => K heap next)) (enter fni.ntmps (.fn (.yield l) [] [] :: captured) s.heap s.next))
  (hQ : ∀ heap next, K heap next -> Q .normal { s with heap := heap, next := next }) : MCode P G (.rangeFunc (.tmp t) ps asn bd) Q s := by
 intro w R N act bsT bsL bsH bsF0 rs hr hd hms
 obtain ⟨bsF, hbsF⟩ : ∃ bsF, rs ++ bsF0 = bsF := ⟨_, rfl⟩
 rw [hbsF] at hr
 have hmF : ∀ b ∈ rs, b ∈ bsF := fun b hb => by rw [← hbsF]; simp [hb]
 obtain ⟨fn', hf1, hf2, hf3⟩ := hE.fn gf hfn
 obtain ⟨c', hf2'⟩ := Option.isSome_iff_exists.1 hf2
 have eg : ∀ args w, (callFunc gf args).run P w = .ok (.enter gf args) w := fun args w => by
  have h1 : fn'.name ≠ "runtime.NumGoroutine" := by simpa using hf3
  simp [callFunc, hf1, h1, hf2', mark]
 obtain ⟨bt, hev⟩ := eval_raw hr.tmps hr.glob (.tmp t)
 rw [show aeval G s (.tmp t) = .fn (.func gf) [] captured from hg] at hev
 simp only [RepV] at hev
 obtain ⟨_, vs, us, hev, hvs, hus⟩ := hev
 obtain ⟨rfl, _⟩ := repVs_nil_inv hvs
 have hev : act.eval (.tmp t) = .func (.func gf) #[] us.toArray := hev
 rw [← wpIn_wide (n := 1)]
 refine wpIn_rangeFunc ?_
 intro fn _
 obtain ⟨rec, hrec⟩ : ∃ rec : Loop, rec = { state := .ready, pending := none, fn, tmps := act.tmps, params := ps, assign := asn, body := bd, defers := w.heap.size } := ⟨_, rfl⟩
 obtain ⟨W1, hW1⟩ : ∃ W1, (w.alloc (.deferred (some []))).alloc (.loop rec) = W1 := ⟨_, rfl⟩
 have hL1 : W1.heap[w.heap.size + 1]? = some (.loop rec) := by
  rw [← hW1]; have := World.alloc_heap_new (w.alloc (.deferred (some []))) (.loop rec); rwa [World.size_alloc] at this
 have hK1 : W1.heap[w.heap.size]? = some (.deferred (some [])) := by
  rw [← hW1]; exact (Below.heap_alloc _ _ _ (by simp)).trans (World.alloc_heap_new w _)
 let R0 : Own := R.more w.heap.size
 let R1 : Own := R0.more (w.heap.size + 1)
 have hk1 : ∀ bs, Keep w R W1 R1 bs := by
  intro bs
  have k1 := keep_alloc (w := w) (R := R) (.deferred (some [])) (R' := R0) (fun b off hb => Own.more_iff hb) bs
  have k2 := keep_alloc (w := w.alloc (.deferred (some []))) (R := R0) (.loop rec) (R' := R1) (fun b off hb => Own.more_iff (by rwa [World.size_alloc] at hb)) bs
  rw [hW1] at k2
  exact k1.trans k2
 refine ⟨w.heap.size + 1, [{ target := .collected w.heap.size, args := #[] }], W1, { target := .fn (.func gf) us.toArray, args := #[.func (.yield (w.heap.size + 1)) #[] #[]] }, W1, gf,
  #[.func (.yield (w.heap.size + 1)) #[] #[]] ++ us.toArray, W1, ?_, ?_, ?_, ?_, fun _ => Nat.le_refl _, ?_⟩
 ·rw [← hW1, hrec]; exact run_enterLoop_outer _ _ _ _ _
 ·simp only [resolve, hev]
  simp [go_sem]
 ·intro _ _; trivial
 ·simp [invoke, go_sem, eg]
 ·refine callsIn_wide.2 ?_
  have hargs : RepVs W1 R1 (outs N) (.fn (.yield (w.heap.size + 1)) [] [] :: captured) (.func (.yield (w.heap.size + 1)) #[] #[] :: us) [] := by
   have h1 : RepVs W1 R1 N captured us [] := hus.keep (hk1 [])
   have h2 : RepVs W1 R1 (outs N) captured us [] := h1.reN hno (fun _ => rfl)
   simpa using repVs_cons (b1 := []) (b2 := []) (show RepV W1 R1 (outs N) (.fn (.yield (w.heap.size + 1)) [] []) (.func (.yield (w.heap.size + 1)) #[] #[]) [] by simp only [RepV]; exact ⟨trivial, [], [], rfl, repVs_nil, repVs_nil⟩) h2
  have hnd0 : (bsT ++ (bsL ++ (bsH ++ bsF))).Nodup := by simpa using hr.nodup
  have hlt : ∀ b ∈ bsT ++ (bsL ++ (bsH ++ bsF)), b < w.heap.size := by
   intro b hb
   simp at hb
   rcases hb with h | h | h | h
   ·exact hr.tmps.lt b h
   ·exact hr.locs.lt b h
   ·exact hr.heap.lt b h
   exact hr.frame b h
  have hnd1 : ([] ++ (bsH ++ (bsT ++ (bsL ++ ((w.heap.size + 1) :: w.heap.size :: bsF))))).Nodup := by
   have hp : ([] ++ (bsH ++ (bsT ++ (bsL ++ ((w.heap.size + 1) :: w.heap.size :: bsF))))).Perm ((w.heap.size + 1) :: w.heap.size :: (bsT ++ (bsL ++ (bsH ++ bsF)))) := by
    rw [List.perm_iff_count]; intro q; simp only [List.count_append, List.count_cons, List.count_nil]; omega
   refine hp.nodup_iff.2 (List.nodup_cons.2 ⟨?_, List.nodup_cons.2 ⟨fun hm => ?_, hnd0⟩⟩)
   ·intro hm
    rcases List.mem_cons.1 hm with hm | hm
    ·omega
    have := hlt _ hm; omega
   have := hlt _ hm; omega
  have hsz : W1.heap.size = w.heap.size + 2 := by rw [← hW1]; simp
  have hund : Und (w.heap.size + 1) rec (seenL s.tmps) W1 R1 (outs N) (bsT ++ (bsL ++ ((w.heap.size + 1) :: w.heap.size :: bsF))) := by
   refine ⟨by simp, hL1, .inl rfl, ?_⟩
   rw [hrec]
   exact ((seenL_rep hr.tmps).keep (hk1 [])).ext (fun m c hm => by cases m with | loc i => simp [outs] at hm | out o => exact hm)
  have hcall := icalls hE hfi hbi (h (w.heap.size + 1) rec (by rw [hrec]) (by rw [hrec]) (by rw [hrec]) (by rw [hrec]) (by rw [hrec])) W1 R1 N _ [] bsH (bsT ++ (bsL ++ ((w.heap.size + 1) :: w.heap.size :: bsF))) hargs (hr.heap.keep (hk1 _)) hnd1 hr.next (fun g cs hg => (hr.glob g cs hg).step (hk1 []).step) (by
   intro b hb
   rw [hsz]
   simp at hb
   rcases hb with h | h | h | h | h
   ·have := hr.tmps.lt b h; omega
   ·have := hr.locs.lt b h; omega
   ·omega
   ·omega
   have := hr.frame b h; omega) hund
  have hcv : (#[.func (.yield (w.heap.size + 1)) #[] #[]] ++ us.toArray : Array Value) = (.func (.yield (w.heap.size + 1)) #[] #[] :: us).toArray := by simp
  rw [hcv]
  refine hcall.mono ?_
  rintro e W2 ⟨v, cv, heap', next', R2, N2, bsV, bsH2, rfl, hKK, _, hh2, hnd2, hnx2, hk2, hN2⟩
  obtain ⟨l1, l2⟩ := hk2.same (w.heap.size + 1) (by simp) (by rw [hsz]; omega)
  obtain ⟨m1, m2⟩ := hk2.same w.heap.size (by simp) (by rw [hsz]; omega)
  have hL2 : W2.heap[w.heap.size + 1]? = some (.loop rec) := l1.trans hL1
  have hend := run_endLoop (P := P) hL2 (by rw [hrec]; simp)
  have hpe : rec.pending = none := by rw [hrec]
  rw [hpe] at hend
  refine ⟨none, _, hend, ?_⟩
  -- the states put together
  let N3 : Name -> Option Nat := fun m => match m with | .loc i => N (.loc i) | .out o => N2 (.out o)
  have hext : ∀ m c, N m = some c -> N3 m = some c := fun m c hm => by cases m with | loc i => exact hm | out o => exact hN2 o c hm
  have hR2l : R2 (w.heap.size + 1) 0 := l2 _ (.inl rfl)
  have hR2m : R2 w.heap.size 0 := m2 _ (.inr (.inl rfl))
  have hk12 : ∀ bs, (∀ b ∈ bs, b ∈ bsT ++ (bsL ++ ((w.heap.size + 1) :: w.heap.size :: bsF))) -> Keep w R W2 R2 bs := fun bs hb => (hk1 bs).trans (hk2.sub hb)
  have hk3 : ∀ bs, (w.heap.size + 1) ∉ bs -> Keep W2 R2 (W2.putObj (w.heap.size + 1) (.loop { rec with state := .exhausted, pending := none })) R2 bs := fun bs hb => keep_putObj hL2 rfl rfl hR2l bs hb
  have hnotT : (w.heap.size + 1) ∉ bsT := fun hm => by have := hr.tmps.lt _ hm; omega
  have hnotL : (w.heap.size + 1) ∉ bsL := fun hm => by have := hr.locs.lt _ hm; omega
  have hnotF : (w.heap.size + 1) ∉ bsF := fun hm => by have := hr.frame _ hm; omega
  have hnd2' := hnd2
  have hnotH : (w.heap.size + 1) ∉ bsH2 := by
   intro hm
   have := (List.nodup_append.1 ((List.nodup_append.1 hnd2').2.1)).2.2
   exact this _ hm (w.heap.size + 1) (by simp) rfl
  have hkT : Keep w R _ R2 bsT := (hk12 bsT (by intro b hb; simp [hb])).trans (hk3 bsT hnotT)
  have hkL : Keep w R _ R2 bsL := (hk12 bsL (by intro b hb; simp [hb])).trans (hk3 bsL hnotL)
  have hkF : Keep w R _ R2 bsF := (hk12 bsF (by intro b hb; simp [hb])).trans (hk3 bsF hnotF)
  refine ⟨w.heap.size :: rs, _, R2, N3, bsT, bsL, bsH2, hQ _ _ hKK, ⟨repV_undef _, (hr.tmps.keep hkT).ext hext, (hr.locs.keep hkL).ext hext, ?_, ?_, hnx2, fun g cs hg => (hr.glob g cs hg).step hkT.step, ?_⟩, ?_, ?_, hkF.sub (by intro b hb; rw [← hbsF]; simp [hb]), hN2⟩
  ·exact (hh2.keep (hk3 bsH2 hnotH)).outs_eq (N := N2) (N' := N3) (fun _ => rfl)
  ·rw [show (w.heap.size :: rs) ++ bsF0 = [w.heap.size] ++ bsF by rw [← hbsF]; rfl]
   have hp : (bsV ++ (bsH2 ++ (bsT ++ (bsL ++ ((w.heap.size + 1) :: w.heap.size :: bsF))))).Perm (((w.heap.size + 1) :: bsV) ++ ([] ++ (bsT ++ (bsL ++ (bsH2 ++ ([w.heap.size] ++ bsF)))))) := by
    rw [List.perm_iff_count]; intro q; simp only [List.count_append, List.count_cons, List.count_nil]; omega
   exact (List.nodup_append.1 (hp.nodup_iff.1 hnd2)).2.1
  ·rw [show (w.heap.size :: rs) ++ bsF0 = [w.heap.size] ++ bsF by rw [← hbsF]; rfl]
   intro b hb
   refine Nat.lt_of_lt_of_le ?_ (hk3 [] (by simp)).step.size
   refine Nat.lt_of_lt_of_le ?_ hk2.step.size
   rw [hsz]
   simp at hb
   rcases hb with rfl | h
   ·omega
   have := hr.frame b h; omega
  ·simp [hd, rmark]
  intro r hr'
  simp at hr'
  rcases hr' with rfl | hr'
  ·refine ⟨?_, hR2m⟩
   rw [World.putObj_heap_other (by omega)]
   exact m1.trans hK1
  exact hms.keep hkF hmF r hr'
end
end Go.Tp

namespace Go.Tp
open Go.RowKit
theorem repObjs_perm {w : World} {R : Own} {N : Name -> Option Nat} {os os' : List (Name × AObj)} (hp : os.Perm os') : ∀ {bs : List Nat}, RepObjs w R N os bs -> ∃ bs', bs.Perm bs' /\ RepObjs w R N os' bs' := by
 induction hp with
 | nil => intro bs h; exact ⟨bs, .refl _, h⟩
 | cons x _ ih =>
  intro bs h
  obtain ⟨n, o⟩ := x
  obtain ⟨b, b1, b2, rfl, hn, h1, h2⟩ := h
  obtain ⟨b2', p, h2'⟩ := ih h2
  exact ⟨b :: (b1 ++ b2'), (List.Perm.append_left b1 p).cons b, b, b1, b2', rfl, hn, h1, h2'⟩
 | swap x y l =>
  intro bs h
  obtain ⟨n, o⟩ := x
  obtain ⟨m, q⟩ := y
  obtain ⟨b, b1, b2, rfl, hn, h1, c, c1, c2, rfl, hm, k1, k2⟩ := h
  refine ⟨c :: (c1 ++ (b :: (b1 ++ c2))), ?_, c, c1, _, rfl, hm, k1, b, b1, c2, rfl, hn, h1, k2⟩
  rw [List.perm_iff_count]; intro z; simp only [List.count_cons, List.count_append]; omega
 | trans _ _ ih1 ih2 =>
  intro bs h
  obtain ⟨bs1, p1, h1⟩ := ih1 h
  obtain ⟨bs2, p2, h2⟩ := ih2 h1
  exact ⟨bs2, p1.trans p2, h2⟩
section
variable {P : Program} {E : TEnv} {G : Globs} {H : Hints}
/-- What a ghost state says of the blocks that are its own. -/
abbrev Gst (γ : Type) := γ -> World -> Own -> (Name -> Option Nat) -> List Nat -> Prop
def Gst.Stable {γ : Type} (J : Gst γ) : Prop := ∀ {g : γ} {w w' : World} {R R' : Own} {N N' : Name -> Option Nat} {bsX : List Nat}, J g w R N bsX -> Keep w R w' R' bsX -> (∀ o b, N (.out o) = some b -> N' (.out o) = some b) -> J g w' R' N' bsX
def GPost (P : Program) (G : Globs) {γ : Type} (J : Gst γ) (D : List Deferred) (Q : Exit -> AState -> γ -> Prop) (w : World) (R : Own) (N : Name -> Option Nat) (bsX bsF : List Nat) : Exit -> Act -> World -> Prop := fun e act' w' =>
 ∃ s' g' R' N' bsT bsL bsH, Q e s' g' /\ RelB G w' R' N' act'.tmps.toList s' undef .undef [] bsT bsL bsH (bsX ++ bsF) /\ J g' w' R' N' bsX /\ act'.defers = D /\ Keep w R w' R' bsF /\ (∀ o b, N (.out o) = some b -> N' (.out o) = some b)
/-- Code beside a ghost state. -/
def GCode (P : Program) (G : Globs) {γ : Type} (J : Gst γ) (c : Code) (Q : Exit -> AState -> γ -> Prop) (s : AState) (g : γ) : Prop :=
 ∀ (w : World) (R : Own) (N : Name -> Option Nat) (act : Act) (bsT bsL bsH bsX bsF : List Nat), RelB G w R N act.tmps.toList s undef .undef [] bsT bsL bsH (bsX ++ bsF) -> J g w R N bsX -> ∀ {D : List Deferred}, act.defers = D ->
  c.wpR P (GPost P G J D Q w R N bsX bsF) act w
variable {γ : Type} {J : Gst γ}
theorem gcode_of_acode (hJ : J.Stable) {c : Code} {Q : Exit -> AState -> γ -> Prop} {s : AState} {g : γ} (h : ACode P G c (fun e s' => Q e s' g) s) : GCode P G J c Q s g := by
 intro w R N act bsT bsL bsH bsX bsF hr hj D hd
 refine wpR_mono (h w R N act bsT bsL bsH (bsX ++ bsF) hr hd) ?_
 rintro e a w' ⟨s', R', N', bsT', bsL', bsH', hq, hr', hd', hk, hN⟩
 exact ⟨s', g, R', N', bsT', bsL', bsH', hq, hr', hJ hj (hk.sub (by intro b hb; simp [hb])) hN, hd', hk.sub (by intro b hb; simp [hb]), hN⟩
theorem GPost.trans {D : List Deferred} {Q : Exit -> AState -> γ -> Prop} {w w1 : World} {R R1 : Own} {N N1 : Name -> Option Nat} {bsX bsF : List Nat} (hk : Keep w R w1 R1 bsF) (hN : ∀ o b, N (.out o) = some b -> N1 (.out o) = some b) {e : Exit} {a : Act} {w2 : World}
  (h : GPost P G J D Q w1 R1 N1 bsX bsF e a w2) : GPost P G J D Q w R N bsX bsF e a w2 := by
 obtain ⟨s', g', R', N', bsT, bsL, bsH, hq, hr, hj, hd, hk', hN'⟩ := h
 exact ⟨s', g', R', N', bsT, bsL, bsH, hq, hr, hj, hd, hk.trans hk', fun o b h => hN' o b (hN o b h)⟩
theorem gcode_seq {x y : Code} {Q : Exit -> AState -> γ -> Prop} {s : AState} {g : γ} (h : GCode P G J x (fun e s' g' => match e with | .normal => GCode P G J y Q s' g' | e => Q e s' g') s g) : GCode P G J (.seq x y) Q s g := by
 intro w R N act bsT bsL bsH bsX bsF hr hj D hd
 apply wpR_seq
 refine wpR_mono (h w R N act bsT bsL bsH bsX bsF hr hj hd) ?_
 rintro e a w' ⟨s', g', R', N', bsT', bsL', bsH', hq, hr', hj', hd', hk, hN⟩
 cases e with
 | normal => exact wpR_mono (hq w' R' N' a bsT' bsL' bsH' bsX bsF hr' hj' hd') (fun e a w h => h.trans hk hN)
 | _ => exact ⟨s', g', R', N', bsT', bsL', bsH', hq, hr', hj', hd', hk, hN⟩
theorem gcode_block {id : Nat} {c : Code} {Q : Exit -> AState -> γ -> Prop} {s : AState} {g : γ} (h : GCode P G J c (fun e s' g' => match e with | .normal => Q .normal s' g' | .exit i => if i = id then Q .normal s' g' else Q (.exit i) s' g' | e => Q e s' g') s g) : GCode P G J (.block id c) Q s g := by
 intro w R N act bsT bsL bsH bsX bsF hr hj D hd
 apply wpR_block
 refine wpR_mono (h w R N act bsT bsL bsH bsX bsF hr hj hd) ?_
 rintro e a w' ⟨s', g', R', N', bsT', bsL', bsH', hq, hr', hj', hd', hk, hN⟩
 cases e with
 | normal => exact ⟨s', g', R', N', bsT', bsL', bsH', hq, hr', hj', hd', hk, hN⟩
 | exit i =>
  simp only [Exit.inBlock]
  by_cases hi : i = id
  ·subst hi
   rw [if_pos rfl]
   simp only [if_pos] at hq
   exact ⟨s', g', R', N', bsT', bsL', bsH', hq, hr', hj', hd', hk, hN⟩
  rw [if_neg hi]
  simp only [if_neg hi] at hq
  exact ⟨s', g', R', N', bsT', bsL', bsH', hq, hr', hj', hd', hk, hN⟩
 | _ => exact ⟨s', g', R', N', bsT', bsL', bsH', hq, hr', hj', hd', hk, hN⟩
theorem gcode_cond {c : Operand} {x y : Code} {Q : Exit -> AState -> γ -> Prop} {s : AState} {g : γ} {t : Bool} (hc : aeval G s c = .dat (.flat (.bool t))) (h : GCode P G J (if t then x else y) Q s g) : GCode P G J (.cond c x y) Q s g := by
 intro w R N act bsT bsL bsH bsX bsF hr hj D hd
 obtain ⟨bt, hev⟩ := eval_raw hr.tmps hr.glob c
 rw [hc] at hev
 obtain ⟨_, he, _⟩ := repV_flat_inv hev
 exact wpR_cond he (h w R N act bsT bsL bsH bsX bsF hr hj hd)
theorem gcode_loop {α : Type} {c : Code} {Q : Exit -> AState -> γ -> Prop} {s : AState} {g : γ} (us ls : List Nat) (st : α -> AState) (gh : α -> γ) (ok : α -> Prop) (μ : α -> Nat) (x0 : α) (h0 : ok x0) (hs : s.keep us ls = st x0) (hg : g = gh x0)
  (round : ∀ x, ok x -> GCode P G J c (fun e s' g' => match e with | .normal => ∃ x', ok x' /\ μ x' < μ x /\ s'.keep us ls = st x' /\ g' = gh x' | e => Q e s' g') (st x) (gh x)) : GCode P G J (.loop c) Q s g := by
 intro w R N act bsT bsL bsH bsX bsF hr hj D hd
 subst hg
 refine wpR_loop_ghost (I := fun n a w' => ∃ x R' N' bsT' bsL' bsH', ok x /\ μ x = n /\ RelB G w' R' N' a.tmps.toList (st x) undef .undef [] bsT' bsL' bsH' (bsX ++ bsF) /\ J (gh x) w' R' N' bsX /\ a.defers = D /\ Keep w R w' R' bsF /\ (∀ o b, N (.out o) = some b -> N' (.out o) = some b)) (n0 := μ x0) ?_ ?_
 ·obtain ⟨bsT', bsL', hr'⟩ := hr.forget us ls
  rw [hs] at hr'
  exact ⟨x0, R, N, bsT', bsL', bsH, h0, rfl, hr', hj, hd, keep_refl _, fun _ _ h => h⟩
 rintro n a w' ⟨x, R', N', bsT', bsL', bsH', hok, rfl, hr', hj', hd', hk, hN⟩
 refine wpR_mono (round x hok w' R' N' a bsT' bsL' bsH' bsX bsF hr' hj' hd') ?_
 rintro e a2 w2 ⟨s2, g2, R2, N2, bsT2, bsL2, bsH2, hq, hr2, hj2, hd2, hk2, hN2⟩
 cases e with
 | normal =>
  obtain ⟨x', hok', hlt, hs', rfl⟩ := hq
  obtain ⟨bsT3, bsL3, hr3⟩ := hr2.forget us ls
  rw [hs'] at hr3
  exact ⟨μ x', hlt, x', R2, N2, bsT3, bsL3, bsH2, hok', rfl, hr3, hj2, hd2, hk.trans hk2, fun o b h => hN2 o b (hN o b h)⟩
 | _ => exact ⟨s2, g2, R2, N2, bsT2, bsL2, bsH2, hq, hr2, hj2, hd2, hk.trans hk2, fun o b h => hN2 o b (hN o b h)⟩
theorem repMap_key {w : World} {R : Own} : ∀ {es : List (Value × Dat)} {ents : List MapEntry} {m : Nat} {k : Value} {d : Dat} {e : MapEntry}, RepMap w R es ents -> es[m]? = some (k, d) -> ents[m]? = some e -> e.key = k
 | [], _, _, _, _, _, _, h, _ => by simp at h
 |(k0, d0) :: es, ents, m, k, d, e, h, hm, he => by
  obtain ⟨e0, es', rfl, h1, h2, h3⟩ := h
  cases m with
  | zero =>
   simp at hm he
   obtain ⟨rfl, rfl⟩ := hm
   rw [← he]; exact h1
  | succ m => exact repMap_key h3 (by simpa using hm) (by simpa using he)
/-! ### The iterator over a map -/
/-- The object named j is a map that reads as es, o names an iterator over it, S: the places of the entries that have come. -/
def MIt (j o : Nat) (es : List (Value × Dat)) : Gst (List Nat) := fun S w R N bsX =>
 ∃ b r ents clock since seen c0, bsX = [r, b] /\ N (.out j) = some b /\ N (.out o) = some r /\ R b 0 /\ R r 0 /\ w.heap[b]? = some (.map ents clock) /\ RepMap w R es ents.toList /\ Borns ents clock /\ w.heap[r]? = some (.mapIter (some b) since seen c0) ∧
  (∀ x ∈ ents.toList, x.born < since) /\ since <= c0 /\ since <= clock /\ (∀ i e, ents.toList[i]? = some e -> (i ∈ S ↔ seen.contains e.born = true)) /\ ∀ m S', S = m :: S' -> c0 = clock /\ ∃ (e : MapEntry) (seen' : Array Nat), ents.toList[m]? = some e /\ seen = seen'.push e.born
theorem mit_stable {j o : Nat} {es : List (Value × Dat)} : (MIt j o es).Stable := by
 rintro S w w' R R' N N' bsX ⟨b, r, ents, clock, since, seen, c0, rfl, h1, h2, h3, h4, h5, h6, h7, h8, h9⟩ hk hN
 obtain ⟨k1, k2⟩ := hk.same r (by simp) (lt_of_heap h8)
 obtain ⟨k3, k4⟩ := hk.same b (by simp) (lt_of_heap h5)
 exact ⟨b, r, ents, clock, since, seen, c0, rfl, hN _ _ h1, hN _ _ h2, k4 _ h3, k2 _ h4, k3.trans h5, h6.step hk.step, h7, k1.trans h8, h9⟩
theorem keep_iter {w w' : World} {R : Own} {r : Nat} {m m' : Option Nat} {s s' c c' : Nat} {seen seen' : Array Nat} (h : w.heap[r]? = some (.mapIter m s seen c)) (ho : w'.os = w.os) (ht : w'.tape = w.tape) (hu : w'.output = w.output) (hh : w'.heap = w.heap.setIfInBounds r (.mapIter m' s' seen' c'))
  (hR : R r 0) (bs : List Nat) (hb : r ∉ bs) : Keep w R w' R bs /\ w'.heap[r]? = some (.mapIter m' s' seen' c') := by
 have hlt := lt_of_heap h
 have hother : ∀ c, c ≠ r -> w'.heap[c]? = w.heap[c]? := fun c hc => by rw [hh]; exact World.putObj_heap_other (w := w) hc
 have hsame : w'.heap[r]? = some (.mapIter m' s' seen' c') := by rw [hh]; exact World.putObj_heap_same (w := w) hlt
 refine ⟨⟨⟨ho, ht, hu, by rw [hh]; simp, fun c hc hnR => ⟨hother c (fun e => hnR 0 (e ▸ hR)), hnR⟩, fun c off hc hnR => ⟨hnR, ?_⟩, fun c hc => ?_⟩, fun c hc _ => ⟨hother c (fun e => hb (e ▸ hc)), fun _ h => h⟩⟩, hsame⟩
 ·by_cases hcb : c = r
  ·subst hcb
   simp only [World.cell?, h, hsame]
  exact World.cell?_of_block (a := ⟨c, off, none⟩) (hother c hcb)
 by_cases hcb : c = r
 ·subst hcb
  simp only [rowSize, h, hsame]
 exact rowSize_same (hother c hcb)
/-- Behind one operation, beside a ghost state. -/
def GAft (G : Globs) (J : Gst γ) (D : List Deferred) (K : AState -> γ -> Prop) (w : World) (R : Own) (N : Name -> Option Nat) (bsX bsF : List Nat) (act' : Act) (w' : World) : Prop :=
 ∃ s' g' R' N' bsT bsL bsH, K s' g' /\ RelB G w' R' N' act'.tmps.toList s' undef .undef [] bsT bsL bsH (bsX ++ bsF) /\ J g' w' R' N' bsX /\ act'.defers = D /\ Keep w R w' R' bsF /\ (∀ o b, N (.out o) = some b -> N' (.out o) = some b)
/-- A value put into its slot, the world turned where nobody else looks. -/
theorem gaft_put {D : List Deferred} {K : AState -> γ -> Prop} {s : AState} {g : γ} {w w' : World} {R : Own} {N : Name -> Option Nat} {act : Act} {bsT bsL bsH bsX bsF : List Nat} (hr : RelB G w R N act.tmps.toList s undef .undef [] bsT bsL bsH (bsX ++ bsF)) (hd : act.defers = D)
  {a : AVal} {v : Value} (hv : RepV w' R N a v []) (hk : Keep w R w' R (bsT ++ (bsL ++ (bsH ++ bsF)))) (hj : J g w' R N bsX) (dst : Option Tmp) (hK : K (s.put dst a) g) : GAft G J D K w R N bsX bsF (act.put dst v) w' := by
 have hnd0 : (bsT ++ (bsL ++ (bsH ++ (bsX ++ bsF)))).Nodup := by simpa using hr.nodup
 obtain ⟨bsT5, hp1, hp2⟩ := put_state (s := s) (N := N) dst (hr.tmps.keep (hk.sub (by intro b hb; simp [hb]))) hv (b := []) (X := bsL ++ (bsH ++ (bsX ++ bsF))) (by simpa using hnd0)
 obtain ⟨q1, q2, q3⟩ := put_locs s dst a
 obtain ⟨pa1, pa2⟩ := put_act act dst v
 exact ⟨_, g, R, N, bsT5, bsL, bsH, hK, ⟨repV_undef _, by rw [pa1]; exact hp1, by rw [q1]; exact hr.locs.keep (hk.sub (by intro b hb; simp [hb])), by rw [q2]; exact hr.heap.keep (hk.sub (by intro b hb; simp [hb])), by simpa using hp2, by rw [q3]; exact hr.next,
  fun g cs hg => (hr.glob g cs hg).step hk.step, fun b hb => Nat.lt_of_lt_of_le (hr.frame b hb) hk.step.size⟩, hj, by rw [pa2]; exact hd, hk.sub (by intro b hb; simp [hb]), fun _ _ h => h⟩
theorem rep_bool {w : World} {R : Own} {N : Name -> Option Nat} (b : Bool) : RepV w R N (.dat (.flat (.bool b))) (.bool b) [] := repV_dat (d := .flat (.bool b)) (.flat rfl)
theorem semAt_call {o : Oper} (rd : Option Nat) (a : Act) (h : isDefer o.op = false) : o.semAt rd a.eval = execOp a.eval o := by
 unfold Oper.semAt
 cases rd with
 | none => rfl
 | some l => cases ho : o.op <;> first | rfl | (rw [ho] at h; simp [isDefer] at h)
/-- The next entry, whichever it is. -/
theorem next_sound {rd : Option Nat} {D : List Deferred} {ops : Array Oper} {i : Nat} {o : Oper} (hi : ops[i]? = some o) {t : Nat} (ho : o.op = .next (.tmp t) false) {s : AState} (hw : wantedA ops.toList s o.guard = some true) {j nm : Nat} {es : List (Value × Dat)} {S : List Nat}
  (hg : getT s.tmps t = .ptr (.out nm) 0) {K : AState -> List Nat -> Prop} (hend : (∀ i, i < es.length -> i ∈ S) -> K (s.put o.dst (.tup [.dat (.flat (.bool false))])) S)
  (hstep : ∀ i, i < es.length -> i ∉ S -> K (s.put o.dst (.tup [.dat (.flat (.bool true)), .undef, .undef])) (i :: S))
  {Qx : Exit -> Act -> World -> Prop} {w : World} {R : Own} {N : Name -> Option Nat} {act : Act} {bsT bsL bsH bsX bsF : List Nat} (hr : RelB G w R N act.tmps.toList s undef .undef [] bsT bsL bsH (bsX ++ bsF)) (hj : MIt j nm es S w R N bsX) (hd : act.defers = D) :
  wpOpIn (rdF rd) 1 P ops Qx i (GAft G (MIt j nm es) D K w R N bsX bsF) act w := by
 obtain ⟨b, r, ents, clock, since, seen, c0, rfl, h1, h2, h3, h4, h5, h6, h7, h8, h9, h10, h11, h12, h13⟩ := hj
 unfold wpOpIn
 simp only [hi]
 rw [wanted_sound hr.tmps hw, if_pos rfl]
 refine ⟨fun _ _ => trivial, ?_⟩
 obtain ⟨bt, hev⟩ := eval_raw hr.tmps hr.glob (.tmp t)
 rw [show aeval G s (.tmp t) = .ptr (.out nm) 0 from hg] at hev
 have hev : act.eval (.tmp t) = .pointer (some ⟨r, 0, none⟩) := by
  simp only [RepV, h2] at hev
  simpa using hev.2
 have hrun : (o.semAt rd act.eval).run P w = ((Instr.next (.pointer (some ⟨r, 0, none⟩)) false o.type).run P w).andThen fun a w' => .ok (.value a) w' := by
  rw [semAt_call rd act (by rw [ho]; rfl)]
  simp [execOp, ho, hev]
 have hlen := repMap_length h6
 have hrb : r ≠ b := by
  intro e
  rw [e, h5] at h8
  simp at h8
 have hrF : r ∉ bsT ++ (bsL ++ (bsH ++ bsF)) := by
  have hp : ([] ++ (bsT ++ (bsL ++ (bsH ++ ([r, b] ++ bsF))))).Perm (r :: (b :: (bsT ++ (bsL ++ (bsH ++ bsF))))) := by
   rw [List.perm_iff_count]; intro q; simp only [List.count_append, List.count_cons, List.count_nil]; omega
  intro hx
  exact (List.nodup_cons.1 (hp.nodup_iff.1 hr.nodup)).1 (List.mem_cons.2 (.inr hx))
 rcases run_next_at (P := P) w o.type r b since c0 seen ents clock h8 h5 h9 h10 with ⟨h0, hrn⟩ | ⟨e, he, w1, hal, hrn⟩
 ·rw [hrun, hrn]
  show GAft G (MIt j nm es) D K w R N [r, b] bsF (act.put o.dst (.tuple #[.bool false])) w
  refine gaft_put hr hd (a := .tup [.dat (.flat (.bool false))]) ?_ (keep_refl _) ⟨b, r, ents, clock, since, seen, c0, rfl, h1, h2, h3, h4, h5, h6, h7, h8, h9, h10, h11, h12, h13⟩ o.dst (hend fun i hi => ?_)
  ·simp only [RepV]; exact ⟨[.bool false], rfl, repVs_cons (b1 := []) (b2 := []) (rep_bool false) repVs_nil⟩
  rw [← hlen] at hi
  exact (h12 i _ (List.getElem?_eq_getElem hi)).2 (all_seen ents seen h0 _ (List.getElem_mem hi))
 rw [hrun, hrn]
 show GAft G (MIt j nm es) D K w R N [r, b] bsF (act.put o.dst (.tuple #[.bool true, e.key, e.val])) (Go.ChangeMaps.setBlock w1 r (.mapIter (some b) since (seen.push e.born) clock))
 have he' : e ∈ ents.toList /\ seen.contains e.born = false := by
  unfold leftOf at he
  simpa using he
 obtain ⟨i, hil, hie⟩ := List.getElem_of_mem he'.1
 have hie' : ents.toList[i]? = some e := by rw [List.getElem?_eq_getElem hil, hie]
 obtain ⟨hk, hn⟩ := keep_iter (w' := Go.ChangeMaps.setBlock w1 r (.mapIter (some b) since (seen.push e.born) clock)) h8 (by rcases hal with rfl | rfl <;> rfl) (by rcases hal with rfl | rfl <;> rfl) (by rcases hal with rfl | rfl <;> rfl) (by rcases hal with rfl | rfl <;> rfl) h4 _ hrF
 have hb' : (Go.ChangeMaps.setBlock w1 r (.mapIter (some b) since (seen.push e.born) clock)).heap[b]? = some (.map ents clock) := by
  have : (Go.ChangeMaps.setBlock w1 r (.mapIter (some b) since (seen.push e.born) clock)).heap[b]? = w1.heap[b]? := World.putObj_heap_other (w := w1) (fun e => hrb e.symm)
  rw [this]
  rcases hal with rfl | rfl <;> exact h5
 have hmem : ∀ i' e', ents.toList[i']? = some e' -> (i' ∈ i :: S ↔ (seen.push e.born).contains e'.born = true) := by
  intro i' e' hi'
  have hnd := h7.2
  have hib : i' = i ↔ e'.born = e.born := by
   constructor
   ·rintro rfl
    rw [hie'] at hi'
    simp at hi'
    rw [hi']
   intro hbo
   have e1 : (ents.toList.map (·.born))[i']? = some e.born := by rw [List.getElem?_map, hi']; simp [hbo]
   have e2 : (ents.toList.map (·.born))[i]? = some e.born := by rw [List.getElem?_map, hie']; rfl
   have l1 : i' < (ents.toList.map (·.born)).length := (List.getElem?_eq_some_iff.1 e1).1
   exact (List.getElem?_inj l1 hnd).1 (e1.trans e2.symm)
  have h12' := h12 i' e' hi'
  rw [List.mem_cons, hib, h12']
  simp [Array.contains_eq_mem, or_comm]
 have hnew : i ∉ S := by
  intro hS
  have := (h12 i e hie').1 hS
  rw [he'.2] at this
  simp at this
 refine gaft_put hr hd (a := .tup [.dat (.flat (.bool true)), .undef, .undef]) ?_ hk ⟨b, r, ents, clock, since, _, _, rfl, h1, h2, h3, h4, hb', h6.step hk.step, h7, hn, h9, h11, h11, hmem, ?_⟩ o.dst (hstep i (by omega) hnew)
 ·simp only [RepV]; exact ⟨[.bool true, e.key, e.val], rfl, repVs_cons (b1 := []) (b2 := []) (rep_bool true) (repVs_cons (b1 := []) (b2 := []) (repV_undef _) (repVs_cons (b1 := []) (b2 := []) (repV_undef _) repVs_nil))⟩
 rintro m S' heq
 simp at heq
 obtain ⟨rfl, rfl⟩ := heq
 exact ⟨rfl, e, seen, hie', rfl⟩
/-- The entry that has come. -/
theorem entry_sound {rd : Option Nat} {D : List Deferred} {ops : Array Oper} {i : Nat} {o : Oper} (hi : ops[i]? = some o) {t : Nat} (ho : o.op = .entry (.tmp t)) {s : AState} (hw : wantedA ops.toList s o.guard = some true) {j nm : Nat} {es : List (Value × Dat)} {S : List Nat} {m : Nat}
  (hg : getT s.tmps t = .ptr (.out nm) 0) {K : AState -> List Nat -> Prop} {k : Value} {d : Dat} (hm : es[m]? = some (k, d)) (hk : isFlat k = true) (hK : K (s.put o.dst (.tup [.dat (.flat k), .undef])) (m :: S))
  {Qx : Exit -> Act -> World -> Prop} {w : World} {R : Own} {N : Name -> Option Nat} {act : Act} {bsT bsL bsH bsX bsF : List Nat} (hr : RelB G w R N act.tmps.toList s undef .undef [] bsT bsL bsH (bsX ++ bsF)) (hj : MIt j nm es (m :: S) w R N bsX) (hd : act.defers = D) :
  wpOpIn (rdF rd) 1 P ops Qx i (GAft G (MIt j nm es) D K w R N bsX bsF) act w := by
 obtain ⟨b, r, ents, clock, since, seen, c0, rfl, h1, h2, h3, h4, h5, h6, h7, h8, h9, h10, h11, h12, h13⟩ := hj
 obtain ⟨rfl, e, seen', he, rfl⟩ := h13 m S rfl
 unfold wpOpIn
 simp only [hi]
 rw [wanted_sound hr.tmps hw, if_pos rfl]
 refine ⟨fun _ _ => trivial, ?_⟩
 obtain ⟨bt, hev⟩ := eval_raw hr.tmps hr.glob (.tmp t)
 rw [show aeval G s (.tmp t) = .ptr (.out nm) 0 from hg] at hev
 have hev : act.eval (.tmp t) = .pointer (some ⟨r, 0, none⟩) := by
  simp only [RepV, h2] at hev
  simpa using hev.2
 have hrun : (o.semAt rd act.eval).run P w = ((Instr.entry (.pointer (some ⟨r, 0, none⟩))).run P w).andThen fun a w' => .ok (.value a) w' := by
  rw [semAt_call rd act (by rw [ho]; rfl)]
  simp [execOp, ho, hev]
 have hmem : e ∈ ents.toList := List.mem_of_getElem? he
 rw [hrun, run_entry_at w r b since seen' ents c0 e h8 h5 hmem h7.2]
 show GAft G (MIt j nm es) D K w R N [r, b] bsF (act.put o.dst (.tuple #[e.key, e.val])) w
 have hkey : e.key = k := repMap_key h6 hm he
 refine gaft_put hr hd (a := .tup [.dat (.flat k), .undef]) ?_ (keep_refl _) ⟨b, r, ents, c0, since, _, c0, rfl, h1, h2, h3, h4, h5, h6, h7, h8, h9, h10, h11, h12, h13⟩ o.dst hK
 simp only [RepV]
 exact ⟨[e.key, e.val], rfl, repVs_cons (b1 := []) (b2 := []) (by rw [hkey]; exact repV_dat (d := .flat k) (.flat hk)) (repVs_cons (b1 := []) (b2 := []) (repV_undef _) repVs_nil)⟩
/-- Operations, steps of the iterator among them. -/
def gops (P : Program) (E : TEnv) (G : Globs) (H : Hints) (nm : Nat) (es : List (Value × Dat)) (all : List Oper) (Q : AState -> List Nat -> Prop) : List Oper -> AState -> List Nat -> Prop
 | [], s, S => Q s S
 | o :: rest, s, S => aone (ACalls P G) E G H all o (fun s' => gops P E G H nm es all Q rest s' S) s ∨
  (∃ t, o.op = .next (.tmp t) false /\ wantedA all s o.guard = some true /\ getT s.tmps t = .ptr (.out nm) 0 /\ ((∀ i, i < es.length -> i ∈ S) -> gops P E G H nm es all Q rest (s.put o.dst (.tup [.dat (.flat (.bool false))])) S) ∧
   (∀ i, i < es.length -> i ∉ S -> gops P E G H nm es all Q rest (s.put o.dst (.tup [.dat (.flat (.bool true)), .undef, .undef])) (i :: S))) ∨
  (∃ t m S' k d, S = m :: S' /\ o.op = .entry (.tmp t) /\ wantedA all s o.guard = some true /\ getT s.tmps t = .ptr (.out nm) 0 /\ es[m]? = some (k, d) /\ isFlat k = true /\ gops P E G H nm es all Q rest (s.put o.dst (.tup [.dat (.flat k), .undef])) S)
theorem gops_sound (hE : E.Ok P) {rd : Option Nat} {D : List Deferred} {j nm : Nat} {es : List (Value × Dat)} (ops : Array Oper) (Q : AState -> List Nat -> Prop) (Kx : Exit -> Act -> World -> Prop) :
  ∀ (rest : List Oper) (k : Nat) (s : AState) (S : List Nat), ops.toList.drop k = rest -> gops P E G H nm es ops.toList Q rest s S -> ∀ (w : World) (R : Own) (N : Name -> Option Nat) (act : Act) (bsT bsL bsH bsX bsF : List Nat),
   RelB G w R N act.tmps.toList s undef .undef [] bsT bsL bsH (bsX ++ bsF) -> MIt j nm es S w R N bsX -> act.defers = D -> (∀ a' w', GAft G (MIt j nm es) D Q w R N bsX bsF a' w' -> Kx .normal a' w') -> wpOpsIn (rdF rd) 1 P ops Kx (List.range' k rest.length) act w
 | [], k, s, S, _, h, w, R, N, act, bsT, bsL, bsH, bsX, bsF, hr, hj, hd, hK => by
  simp only [List.length_nil, List.range'_zero, wpOpsIn]
  exact hK _ _ ⟨s, S, R, N, bsT, bsL, bsH, h, hr, hj, hd, keep_refl _, fun _ _ h => h⟩
 | o :: rest, k, s, S, hdrop, h, w, R, N, act, bsT, bsL, bsH, bsX, bsF, hr, hj, hd, hK => by
  have hok : ops[k]? = some o := by
   have := List.getElem?_drop (xs := ops.toList) (i := k) (j := 0)
   rw [hdrop] at this
   simpa using this.symm
  have hdrop' : ops.toList.drop (k + 1) = rest := by rw [← List.drop_drop, hdrop]; rfl
  simp only [gops] at h
  simp only [List.length_cons, List.range'_succ]
  rw [wpOpsIn_cons]
  have h1 : wpOpIn (rdF rd) 1 P ops Kx k (GAft G (MIt j nm es) D (gops P E G H nm es ops.toList Q rest) w R N bsX bsF) act w := by
   rcases h with h | ⟨t, ho, hw, hg, he, hs⟩ | ⟨t, m, S', key, d, rfl, ho, hw, hg, hm, hk, hK⟩
   ·refine wpOpIn_mono ?_ (aone_sound hE ops hok h hr hd)
    rintro a' w' ⟨s', R', N', bsT', bsL', bsH', hq, hr', hd', hk', hN'⟩
    exact ⟨s', S, R', N', bsT', bsL', bsH', hq, hr', mit_stable hj (hk'.sub (by intro b hb; simp [hb])) hN', hd', hk'.sub (by intro b hb; simp [hb]), hN'⟩
   ·exact next_sound hok ho hw hg he hs hr hj hd
   exact entry_sound hok ho hw hg hm hk hK hr hj hd
  refine wpOpIn_mono ?_ h1
  rintro a' w' ⟨s', S2, R', N', bsT', bsL', bsH', hq, hr', hj', hd', hk', hN'⟩
  refine gops_sound hE ops Q Kx rest (k + 1) s' S2 hdrop' hq w' R' N' a' bsT' bsL' bsH' bsX bsF hr' hj' hd' (fun a2 w2 h2 => hK a2 w2 ?_)
  obtain ⟨s3, S3, R3, N3, bsT3, bsL3, bsH3, hq3, hr3, hj3, hd3, hk3, hN3⟩ := h2
  exact ⟨s3, S3, R3, N3, bsT3, bsL3, bsH3, hq3, hr3, hj3, hd3, hk'.trans hk3, fun o b h => hN3 o b (hN' o b h)⟩
theorem gcode_region (hE : E.Ok P) {j nm : Nat} {es : List (Value × Dat)} {id : Nat} {ops : Array Oper} {Q : Exit -> AState -> List Nat -> Prop} {s : AState} {S : List Nat} (h : gops P E G H nm es ops.toList (Q .normal) ops.toList s S) : GCode P G (MIt j nm es) (.region id ops false) Q s S := by
 intro w R N act bsT bsL bsH bsX bsF hr hj D hd
 refine wpR_region fun rd => ?_
 rw [List.range_eq_range', ← Array.length_toList]
 exact gops_sound hE ops (Q .normal) _ ops.toList 0 s S (by simp) h w R N act bsT bsL bsH bsX bsF hr hj hd (fun _ _ h => h)
/-- Operations, the last one told apart. -/
def rops (P : Program) (E : TEnv) (G : Globs) (H : Hints) (all : List Oper) (K : Oper -> AState -> Prop) : List Oper -> AState -> Prop
 | [], _ => False
 | [o], s => K o s
 | o :: rest, s => aone (ACalls P G) E G H all o (fun s' => rops P E G H all K rest s') s
/-- The range begins: the map leaves the state, the iterator is named. -/
def RBegin (P : Program) (G : Globs) (all : List Oper) (body : Code) (Q : Exit -> AState -> Prop) (o : Oper) (s : AState) : Prop :=
 ∃ t ty kt et j es H2, o.op = .range ty (.tmp t) /\ P.underlying ty = some (.map kt et) /\ wantedA all s o.guard = some true /\ getT s.tmps t = .map (.out j) /\ s.heap.Perm ((.out j, .map es) :: H2) ∧
  GCode P G (MIt j s.next es) body (fun e s' _ => ∃ hp, ((.out j, .map es) :: s'.heap).Perm hp /\ Q e { s' with heap := hp }) (({ s with heap := H2, next := s.next + 1 } : AState).put o.dst (.ptr (.out s.next) 0)) []
theorem rbegin_sound {rd : Option Nat} {D : List Deferred} {ops : Array Oper} {i : Nat} {o : Oper} (hi : ops[i]? = some o) {body : Code} {Q : Exit -> AState -> Prop} {s : AState} (h : RBegin P G ops.toList body Q o s) {Qx : Exit -> Act -> World -> Prop}
  {w : World} {R : Own} {N : Name -> Option Nat} {act : Act} {bsT bsL bsH bsF : List Nat} (hr : RelB G w R N act.tmps.toList s undef .undef [] bsT bsL bsH bsF) (hd : act.defers = D) :
  wpOpIn (rdF rd) 1 P ops Qx i (fun a' w' => body.wpR P (CPost G D Q w R N bsF) a' w') act w := by
 obtain ⟨t, ty, kt, et, j, es, H2, ho, hty, hw, hg, hp, hbody⟩ := h
 obtain ⟨bsH', hpb, b, b1, b2, rfl, hjb, ⟨rfl, hRb, ents, clock, hb, hm, hbo⟩, hh2⟩ := repObjs_perm hp hr.heap
 have hjN : N (.out j) = some b := hjb
 unfold wpOpIn
 simp only [hi]
 rw [wanted_sound hr.tmps hw, if_pos rfl]
 refine ⟨fun _ _ => trivial, ?_⟩
 obtain ⟨bt, hev⟩ := eval_raw hr.tmps hr.glob (.tmp t)
 rw [show aeval G s (.tmp t) = .map (.out j) from hg] at hev
 have hev : act.eval (.tmp t) = .map (some b) := by
  simp only [RepV, hjN] at hev
  simpa using hev.2
 have hrun : (o.semAt rd act.eval).run P w = ((Instr.range ty (.map (some b))).run P w).andThen fun a w' => .ok (.value a) w' := by
  rw [semAt_call rd act (by rw [ho]; rfl)]
  simp [execOp, ho, hev]
 rw [hrun, run_range_map w ty kt et b ents clock hty hb]
 show body.wpR P (CPost G D Q w R N bsF) (act.put o.dst (.pointer (some ⟨w.heap.size, 0, none⟩))) (w.alloc (.mapIter (some b) clock #[] clock))
 have hk : ∀ bs, Keep w R (w.alloc (.mapIter (some b) clock #[] clock)) (R.more w.heap.size) bs := fun bs => keep_alloc (.mapIter (some b) clock #[] clock) (R' := R.more w.heap.size) (fun b off hb => Own.more_iff hb) bs
 have hnew : (w.alloc (.mapIter (some b) clock #[] clock)).heap[w.heap.size]? = some (.mapIter (some b) clock #[] clock) := World.alloc_heap_new w _
 have hsz : (w.alloc (.mapIter (some b) clock #[] clock)).heap.size = w.heap.size + 1 := by simp
 have hRn : (R.more w.heap.size) w.heap.size 0 := .inl rfl
 generalize w.alloc (.mapIter (some b) clock #[] clock) = w2 at hk hnew hsz ⊢
 let N2 : Name -> Option Nat := fun m => if m = .out s.next then some w.heap.size else N m
 have hext : ∀ m c, N m = some c -> N2 m = some c := by
  intro m c hm
  by_cases e : m = .out s.next
  ·subst e
   have := hr.next _ _ hm
   omega
  simp only [N2, if_neg e]; exact hm
 have hnd0 : (bsT ++ (bsL ++ (bsH ++ bsF))).Nodup := by simpa using hr.nodup
 have hlt : ∀ c ∈ bsT ++ (bsL ++ (bsH ++ bsF)), c < w.heap.size := by
  intro c hc
  simp at hc
  rcases hc with h | h | h | h
  ·exact hr.tmps.lt c h
  ·exact hr.locs.lt c h
  ·exact hr.heap.lt c h
  exact hr.frame c h
 have hbH : b ∈ bsH := hpb.mem_iff.2 (by simp)
 have hnd1 : (bsT ++ (bsL ++ (b2 ++ ([w.heap.size, b] ++ bsF)))).Nodup := by
  have h1 : (w.heap.size :: (bsT ++ (bsL ++ (bsH ++ bsF)))).Nodup := List.nodup_cons.2 ⟨fun hx => by have := hlt _ hx; omega, hnd0⟩
  have hp2 : (w.heap.size :: (bsT ++ (bsL ++ (bsH ++ bsF)))).Perm (bsT ++ (bsL ++ (b2 ++ ([w.heap.size, b] ++ bsF)))) := by
   rw [List.perm_iff_count] at hpb ⊢
   intro q
   have := hpb q
   simp only [List.count_append, List.count_cons, List.count_nil] at this ⊢
   omega
  exact hp2.nodup_iff.1 h1
 obtain ⟨bsT5, hp1, hp2⟩ := put_state (s := { s with heap := H2, next := s.next + 1 }) (N := N2) o.dst ((hr.tmps.keep (hk bsT)).ext hext) (a := .ptr (.out s.next) 0) (v := .pointer (some ⟨w.heap.size, 0, none⟩)) (b := []) (X := bsL ++ (b2 ++ ([w.heap.size, b] ++ bsF)))
  (by simp only [RepV]; exact ⟨trivial, w.heap.size, by simp [N2], rfl⟩) (by simpa using hnd1)
 obtain ⟨q1, q2, q3⟩ := put_locs { s with heap := H2, next := s.next + 1 } o.dst (.ptr (.out s.next) 0)
 obtain ⟨pa1, pa2⟩ := put_act act o.dst (.pointer (some ⟨w.heap.size, 0, none⟩))
 have hrel : RelB G w2 (R.more w.heap.size) N2 (act.put o.dst (.pointer (some ⟨w.heap.size, 0, none⟩))).tmps.toList (({ s with heap := H2, next := s.next + 1 } : AState).put o.dst (.ptr (.out s.next) 0)) undef .undef [] bsT5 bsL b2 ([w.heap.size, b] ++ bsF) := by
  refine ⟨repV_undef _, by rw [pa1]; exact hp1, by rw [q1]; exact (hr.locs.keep (hk _)).ext hext, ?_, by simpa using hp2, ?_, fun g cs hg => (hr.glob g cs hg).step (hk []).step, ?_⟩
  ·rw [q2]
   exact (hh2.keep (hk _)).ext (fun m c hm => by
    cases m with
    | loc i => simp [outs] at hm
    | out q => simp only [outs] at hm ⊢; exact hext _ _ hm)
  ·rw [q3]
   intro q c hq
   by_cases e : q = s.next
   ·subst e; exact Nat.lt_succ_self _
   simp only [N2, if_neg (show ¬ (Name.out q = .out s.next) by simpa using e)] at hq
   exact Nat.lt_succ_of_lt (hr.next _ _ hq)
  intro c hc
  rw [hsz]
  simp at hc
  rcases hc with rfl | rfl | h
  ·omega
  ·have := hlt c (by simp [hbH]); omega
  have := hr.frame c h; omega
 have hbw : w2.heap[b]? = some (.map ents clock) := (((hk [b]).same b (by simp) (lt_of_heap hb)).1).trans hb
 have hRb2 : (R.more w.heap.size) b 0 := ((hk [b]).same b (by simp) (lt_of_heap hb)).2 _ hRb
 have hmit : MIt j s.next es [] w2 (R.more w.heap.size) N2 [w.heap.size, b] :=
  ⟨b, w.heap.size, ents, clock, clock, #[], clock, rfl, hext _ _ hjN, if_pos rfl, hRb2, hRn, hbw, hm.step (hk []).step, hbo, hnew, hbo.1, Nat.le_refl _, Nat.le_refl _, by simp, fun m S' h => nomatch h⟩
 refine wpR_mono (hbody w2 (R.more w.heap.size) N2 _ bsT5 bsL b2 [w.heap.size, b] bsF hrel hmit (D := D) (by rw [pa2]; exact hd)) ?_
 rintro e a w' ⟨s', S', R', N', bsT', bsL', bsH2', ⟨hp', hpp, hQ⟩, hr', ⟨b', r', ents', clock', since', seen', c0', hX, m1, m2, m3, m4, m5, m6, m7, _⟩, hd', hk', hN'⟩
 simp at hX
 obtain ⟨rfl, rfl⟩ := hX
 have hobj : RepObjs w' R' (outs N') ((.out j, .map es) :: s'.heap) (b :: ([] ++ bsH2')) := ⟨b, [], bsH2', rfl, m1, ⟨rfl, m3, ents', clock', m5, m6, m7⟩, hr'.heap⟩
 obtain ⟨bsH5, hpb5, hobj5⟩ := repObjs_perm hpp hobj
 refine ⟨{ s' with heap := hp' }, R', N', bsT', bsL', bsH5, hQ, ⟨repV_undef _, hr'.tmps, hr'.locs, hobj5, ?_, hr'.next, hr'.glob, fun c hc => hr'.frame c (by simp [hc])⟩, hd', (hk bsF).trans hk', fun o b h => hN' o b (hext _ _ h)⟩
 have hp3 : ([] ++ (bsT' ++ (bsL' ++ (bsH2' ++ ([w.heap.size, b] ++ bsF))))).Perm (w.heap.size :: ([] ++ (bsT' ++ (bsL' ++ (bsH5 ++ bsF))))) := by
  rw [List.perm_iff_count] at hpb5 ⊢
  intro q
  have := hpb5 q
  simp only [List.count_append, List.count_cons, List.count_nil] at this ⊢
  omega
 exact (List.nodup_cons.1 (hp3.nodup_iff.1 hr'.nodup)).2
theorem rops_sound (hE : E.Ok P) {rd : Option Nat} {D : List Deferred} (ops : Array Oper) (body : Code) (Q : Exit -> AState -> Prop) (Kx : Exit -> Act -> World -> Prop) :
  ∀ (rest : List Oper) (k : Nat) (s : AState), ops.toList.drop k = rest -> rops P E G H ops.toList (RBegin P G ops.toList body Q) rest s -> ∀ (w : World) (R : Own) (N : Name -> Option Nat) (act : Act) (bsT bsL bsH bsF : List Nat),
   RelB G w R N act.tmps.toList s undef .undef [] bsT bsL bsH bsF -> act.defers = D -> (∀ a' w', body.wpR P (CPost G D Q w R N bsF) a' w' -> Kx .normal a' w') -> wpOpsIn (rdF rd) 1 P ops Kx (List.range' k rest.length) act w
 | [], _, _, _, h, _, _, _, _, _, _, _, _, _, _, _ => by simp only [rops] at h
 | [o], k, s, hdrop, h, w, R, N, act, bsT, bsL, bsH, bsF, hr, hd, hK => by
  have hok : ops[k]? = some o := by
   have := List.getElem?_drop (xs := ops.toList) (i := k) (j := 0)
   rw [hdrop] at this
   simpa using this.symm
  simp only [rops] at h
  simp only [List.length_cons, List.length_nil, List.range'_succ, List.range'_zero]
  rw [wpOpsIn_cons]
  refine wpOpIn_mono ?_ (rbegin_sound hok h hr hd)
  intro a' w' h'
  simp only [wpOpsIn]
  exact hK _ _ h'
 | o :: o2 :: rest, k, s, hdrop, h, w, R, N, act, bsT, bsL, bsH, bsF, hr, hd, hK => by
  have hok : ops[k]? = some o := by
   have := List.getElem?_drop (xs := ops.toList) (i := k) (j := 0)
   rw [hdrop] at this
   simpa using this.symm
  have hdrop' : ops.toList.drop (k + 1) = o2 :: rest := by rw [← List.drop_drop, hdrop]; rfl
  simp only [rops] at h
  rw [List.length_cons, List.range'_succ, wpOpsIn_cons]
  refine wpOpIn_mono ?_ (aone_sound hE ops hok h hr hd)
  rintro a' w' ⟨s', R', N', bsT', bsL', bsH', hq, hr', hd', hk', hN'⟩
  refine rops_sound hE ops body Q Kx (o2 :: rest) (k + 1) s' hdrop' hq w' R' N' a' bsT' bsL' bsH' bsF hr' hd' (fun a2 w2 h2 => hK a2 w2 (wpR_mono h2 ?_))
  rintro e a3 w3 ⟨s3, R3, N3, bsT3, bsL3, bsH3, hq3, hr3, hd3, hk3, hN3⟩
  exact ⟨s3, R3, N3, bsT3, bsL3, bsH3, hq3, hr3, hd3, hk'.trans hk3, fun o b h => hN3 o b (hN' o b h)⟩
/-- A range over a map: the region whose last operation begins it, and what follows (the loop). -/
theorem acode_maprange (hE : E.Ok P) {id : Nat} {ops : Array Oper} {body : Code} {Q : Exit -> AState -> Prop} {s : AState} (h : rops P E G H ops.toList (RBegin P G ops.toList body Q) ops.toList s) : ACode P G (.seq (.region id ops false) body) Q s := by
 intro w R N act bsT bsL bsH bsF hr D hd
 apply wpR_seq
 refine wpR_region fun rd => ?_
 rw [List.range_eq_range', ← Array.length_toList]
 exact rops_sound hE ops body Q _ ops.toList 0 s (by simp) h w R N act bsT bsL bsH bsF hr hd (fun _ _ h => h)
end
end Go.Tp

namespace Go.Tp
/-! ### Names that are not below k -/
mutual
def hiV (k : Nat) : AVal -> Bool
 | .ptr (.out o) _ => Nat.ble k o
 | .map (.out o) => Nat.ble k o
 | .win (.out o) _ _ _ => Nat.ble k o
 | .fn _ a b => hiL k a || hiL k b
 | .agg cs => hiL k cs
 | .tup cs => hiL k cs
 | _ => false
def hiL (k : Nat) : List AVal -> Bool
 | [] => false
 | a :: r => hiV k a || hiL k r
end
def hiO (k : Nat) : AObj -> Bool
 | .cells cs => hiL k cs
 | .map _ => false
def hiH (k : Nat) : Heap -> Bool
 | [] => false
 |(.out o, x) :: r => Nat.ble k o || (hiO k x || hiH k r)
 |(.loc _, x) :: r => hiO k x || hiH k r
theorem hiL_append (k : Nat) : ∀ (l m : List AVal), hiL k (l ++ m) = (hiL k l || hiL k m)
 | [], m => by simp [hiL]
 | a :: l, m => by simp [hiL, hiL_append k l m, Bool.or_assoc]
theorem hiL_undef (k : Nat) : ∀ j : Nat, hiL k (List.replicate j .undef) = false
 | 0 => rfl
 | j + 1 => by simp [List.replicate_succ, hiL, hiV, hiL_undef k j]
theorem lo_of {k o : Nat} (h : Nat.ble k o = false) : o < k := by
 cases Nat.lt_or_ge o k with
 | inl h => exact h
 | inr h2 => rw [ble_mk h2] at h; simp at h
section
variable {w : World} {R : Own} {M M2 : Name -> Option Nat} {ρ : Nat -> Nat}
mutual
theorem RepV.rnX (hM : ∀ m b, M m = some b -> M2 (rnN ρ m) = some b) : ∀ {a : AVal} {v : Value} {bs : List Nat}, RepV w R M a v bs -> RepV w R M2 (rnV ρ a) v bs
 | .dat _, _, _, h => by simp only [rnV, RepV] at h ⊢; exact h
 | .own _, _, _, h => by simp only [rnV, RepV] at h ⊢; exact h
 | .ref _, _, _, h => by simp only [rnV, RepV] at h ⊢; exact h
 | .undef, _, _, h => by simp only [rnV, RepV] at h ⊢; exact h
 | .ptr (.loc i) _, _, _, h => by
  simp only [rnV, RepV] at h ⊢
  obtain ⟨h1, b, h2, h3⟩ := h
  exact ⟨h1, b, hM _ b h2, h3⟩
 | .map (.loc i), _, _, h => by
  simp only [rnV, RepV] at h ⊢
  obtain ⟨h1, b, h2, h3⟩ := h
  exact ⟨h1, b, hM _ b h2, h3⟩
 | .win (.loc i) _ _ _, _, _, h => by
  simp only [rnV, RepV] at h ⊢
  obtain ⟨h1, b, cap, h2, h3⟩ := h
  exact ⟨h1, b, cap, hM _ b h2, h3⟩
 | .ptr (.out o) off, _, _, h => by
  simp only [rnV, RepV] at h ⊢
  obtain ⟨h1, b, h2, h3⟩ := h
  exact ⟨h1, b, hM _ b h2, h3⟩
 | .map (.out o), _, _, h => by
  simp only [rnV, RepV] at h ⊢
  obtain ⟨h1, b, h2, h3⟩ := h
  exact ⟨h1, b, hM _ b h2, h3⟩
 | .win (.out o) s off len, _, _, h => by
  simp only [rnV, RepV] at h ⊢
  obtain ⟨h1, b, cap, h2, h3⟩ := h
  exact ⟨h1, b, cap, hM _ b h2, h3⟩
 | .fn f a b, _, _, h => by
  simp only [rnV, RepV] at h ⊢
  obtain ⟨h1, vs, us, e, h2, h3⟩ := h
  exact ⟨h1, vs, us, e, RepVs.rnX hM h2, RepVs.rnX hM h3⟩
 | .agg cs, _, _, h => by
  simp only [rnV, RepV] at h ⊢
  obtain ⟨vs, e, h⟩ := h
  exact ⟨vs, e, RepVs.rnX hM h⟩
 | .tup cs, _, _, h => by
  simp only [rnV, RepV] at h ⊢
  obtain ⟨vs, e, h⟩ := h
  exact ⟨vs, e, RepVs.rnX hM h⟩
theorem RepVs.rnX (hM : ∀ m b, M m = some b -> M2 (rnN ρ m) = some b) : ∀ {as : List AVal} {vs : List Value} {bs : List Nat}, RepVs w R M as vs bs -> RepVs w R M2 (rnL ρ as) vs bs
 | [], _, _, h => by simp only [rnL, RepVs] at h ⊢; exact h
 | a :: r, _, _, h => by
  simp only [rnL, RepVs] at h ⊢
  obtain ⟨v, vs', b1, b2, e1, e2, h1, h2⟩ := h
  exact ⟨v, vs', b1, b2, e1, e2, RepV.rnX hM h1, RepVs.rnX hM h2⟩
end
mutual
theorem RepV.rnY {k : Nat} (hl : ∀ i b, M2 (.loc i) = some b -> M (.loc i) = some b) (hM : ∀ o b, o < k -> M2 (.out (ρ o)) = some b -> M (.out o) = some b) : ∀ {a : AVal} {v : Value} {bs : List Nat}, hiV k a = false -> RepV w R M2 (rnV ρ a) v bs -> RepV w R M a v bs
 | .dat _, _, _, _, h => by simp only [rnV, RepV] at h ⊢; exact h
 | .own _, _, _, _, h => by simp only [rnV, RepV] at h ⊢; exact h
 | .ref _, _, _, _, h => by simp only [rnV, RepV] at h ⊢; exact h
 | .undef, _, _, _, h => by simp only [rnV, RepV] at h ⊢; exact h
 | .ptr (.loc i) _, _, _, _, h => by
  simp only [rnV, RepV] at h ⊢
  obtain ⟨h1, b, h2, h3⟩ := h
  exact ⟨h1, b, hl i b h2, h3⟩
 | .map (.loc i), _, _, _, h => by
  simp only [rnV, RepV] at h ⊢
  obtain ⟨h1, b, h2, h3⟩ := h
  exact ⟨h1, b, hl i b h2, h3⟩
 | .win (.loc i) _ _ _, _, _, _, h => by
  simp only [rnV, RepV] at h ⊢
  obtain ⟨h1, b, cap, h2, h3⟩ := h
  exact ⟨h1, b, cap, hl i b h2, h3⟩
 | .ptr (.out o) off, _, _, hn, h => by
  simp only [hiV] at hn
  simp only [rnV, RepV] at h ⊢
  obtain ⟨h1, b, h2, h3⟩ := h
  exact ⟨h1, b, hM o b (lo_of hn) h2, h3⟩
 | .map (.out o), _, _, hn, h => by
  simp only [hiV] at hn
  simp only [rnV, RepV] at h ⊢
  obtain ⟨h1, b, h2, h3⟩ := h
  exact ⟨h1, b, hM o b (lo_of hn) h2, h3⟩
 | .win (.out o) s off len, _, _, hn, h => by
  simp only [hiV] at hn
  simp only [rnV, RepV] at h ⊢
  obtain ⟨h1, b, cap, h2, h3⟩ := h
  exact ⟨h1, b, cap, hM o b (lo_of hn) h2, h3⟩
 | .fn f a b, _, _, hn, h => by
  simp only [hiV, Bool.or_eq_false_iff] at hn
  simp only [rnV, RepV] at h ⊢
  obtain ⟨h1, vs, us, e, h2, h3⟩ := h
  exact ⟨h1, vs, us, e, RepVs.rnY hl hM hn.1 h2, RepVs.rnY hl hM hn.2 h3⟩
 | .agg cs, _, _, hn, h => by
  simp only [hiV] at hn
  simp only [rnV, RepV] at h ⊢
  obtain ⟨vs, e, h⟩ := h
  exact ⟨vs, e, RepVs.rnY hl hM hn h⟩
 | .tup cs, _, _, hn, h => by
  simp only [hiV] at hn
  simp only [rnV, RepV] at h ⊢
  obtain ⟨vs, e, h⟩ := h
  exact ⟨vs, e, RepVs.rnY hl hM hn h⟩
theorem RepVs.rnY {k : Nat} (hl : ∀ i b, M2 (.loc i) = some b -> M (.loc i) = some b) (hM : ∀ o b, o < k -> M2 (.out (ρ o)) = some b -> M (.out o) = some b) : ∀ {as : List AVal} {vs : List Value} {bs : List Nat}, hiL k as = false -> RepVs w R M2 (rnL ρ as) vs bs -> RepVs w R M as vs bs
 | [], _, _, _, h => by simp only [rnL, RepVs] at h ⊢; exact h
 | a :: r, _, _, hn, h => by
  simp only [hiL, Bool.or_eq_false_iff] at hn
  simp only [rnL, RepVs] at h ⊢
  obtain ⟨v, vs', b1, b2, e1, e2, h1, h2⟩ := h
  exact ⟨v, vs', b1, b2, e1, e2, RepV.rnY hl hM hn.1 h1, RepVs.rnY hl hM hn.2 h2⟩
end
theorem RepObj.rnX (hM : ∀ m b, M m = some b -> M2 (rnN ρ m) = some b) {o : AObj} {b : Nat} {bs : List Nat} (h : RepObj w R M o b bs) : RepObj w R M2 (rnO ρ o) b bs := by
 cases o with
 | map es => simp only [rnO, RepObj] at h ⊢; exact h
 | cells cs =>
  simp only [rnO, RepObj] at h ⊢
  obtain ⟨vs, elem, sp, h1, h2, h3, h4⟩ := h
  refine ⟨vs, elem, sp, h1, ?_, h3, by rw [bldSh_rn]; exact h4⟩
  have := RepVs.rnX (ρ := ρ) hM (as := cs ++ List.replicate sp .undef) h2
  rwa [rnL_append, rnL_undef] at this
theorem RepObj.rnY {k : Nat} (hl : ∀ i b, M2 (.loc i) = some b -> M (.loc i) = some b) (hM : ∀ o b, o < k -> M2 (.out (ρ o)) = some b -> M (.out o) = some b) {o : AObj} {b : Nat} {bs : List Nat} (hn : hiO k o = false) (h : RepObj w R M2 (rnO ρ o) b bs) : RepObj w R M o b bs := by
 cases o with
 | map es => simp only [rnO, RepObj] at h ⊢; exact h
 | cells cs =>
  simp only [hiO] at hn
  simp only [rnO, RepObj] at h ⊢
  obtain ⟨vs, elem, sp, h1, h2, h3, h4⟩ := h
  refine ⟨vs, elem, sp, h1, ?_, h3, by rw [bldSh_rn] at h4; exact h4⟩
  refine RepVs.rnY (ρ := ρ) hl hM (as := cs ++ List.replicate sp .undef) (by rw [hiL_append, hn, hiL_undef]; rfl) ?_
  rw [rnL_append, rnL_undef]
  exact h2
theorem RepObjs.rnX (hM : ∀ m b, M m = some b -> M2 (rnN ρ m) = some b) : ∀ {os : Heap} {bs : List Nat}, RepObjs w R M os bs -> RepObjs w R M2 (rnH ρ os) bs
 | [], _, h => h
 |(m, o) :: r, _, ⟨b, b1, b2, e, h1, h2, h3⟩ => ⟨b, b1, b2, e, hM m b h1, h2.rnX hM, RepObjs.rnX hM h3⟩
theorem RepObjs.rnY {k : Nat} (hl : ∀ i b, M2 (.loc i) = some b -> M (.loc i) = some b) (hM : ∀ o b, o < k -> M2 (.out (ρ o)) = some b -> M (.out o) = some b) : ∀ {os : Heap} {bs : List Nat}, hiH k os = false -> RepObjs w R M2 (rnH ρ os) bs -> RepObjs w R M os bs
 | [], _, _, h => h
 |(.loc i, o) :: r, _, hn, ⟨b, b1, b2, e, h1, h2, h3⟩ => by
  simp only [hiH, Bool.or_eq_false_iff] at hn
  exact ⟨b, b1, b2, e, hl i b h1, h2.rnY hl hM hn.1, RepObjs.rnY hl hM hn.2 h3⟩
 |(.out m, o) :: r, _, hn, ⟨b, b1, b2, e, h1, h2, h3⟩ => by
  simp only [hiH, Bool.or_eq_false_iff] at hn
  exact ⟨b, b1, b2, e, hM m b (lo_of hn.1) h1, h2.rnY hl hM hn.2.1, RepObjs.rnY hl hM hn.2.2 h3⟩
end
/-- A state, its objects under other names. -/
def rnS (ρ : Nat -> Nat) (next : Nat) (s : AState) : AState := ⟨rnL ρ s.tmps, rnH ρ s.locs, rnH ρ s.heap, next⟩
def fitS (s : AState) : Bool := !hiL s.next s.tmps && (!hiH s.next s.locs && (!hiH s.next s.heap && allNames s.heap s.next))
variable {P : Program} {G : Globs}
theorem RepObjs.namedX {w : World} {R : Own} {M : Name -> Option Nat} {ρ : Nat -> Nat} {o : Nat} : ∀ {os : Heap} {bs : List Nat}, hasName o os = true -> RepObjs w R M (rnH ρ os) bs -> ∃ b, M (.out (ρ o)) = some b
 | [], _, h, _ => by simp [hasName] at h
 |(.out m, x) :: r, _, h, ⟨b, b1, b2, e, h1, h2, h3⟩ => by
  simp only [hasName, Bool.or_eq_true] at h
  rcases h with h | h
  ·rw [Nat.beq_eq] at h; subst h; exact ⟨b, h1⟩
  exact RepObjs.namedX h h3
 |(.loc i, x) :: r, _, h, ⟨b, b1, b2, e, h1, h2, h3⟩ => by
  simp only [hasName] at h
  exact RepObjs.namedX h h3
/-- Code from a state under other names: the end is the end from the state itself, under other names. -/
theorem ACode.rn {c : Code} {Q : Exit -> AState -> Prop} {s0 : AState} (hc : ACode P G c Q s0) (ρ : Nat -> Nat) (next : Nat) (hf : fitS s0 = true) :
  ACode P G c (fun e s => ∃ s1, Q e s1 /\ s = rnS (liftN ρ s0.next next) (next + (s1.next - s0.next)) s1) (rnS ρ next s0) := by
 intro w R N act bsT bsL bsH bsF hr D hd
 unfold fitS at hf
 simp only [Bool.and_eq_true, Bool.not_eq_true'] at hf
 obtain ⟨f1, f2, f3, f4⟩ := hf
 generalize hn0 : s0.next = n0 at *
 let N0 : Name -> Option Nat := fun m => match m with | .loc i => N (.loc i) | .out o => if o < n0 then N (.out (ρ o)) else none
 have hl0 : ∀ i b, N (.loc i) = some b -> N0 (.loc i) = some b := fun i b h => h
 have hback : ∀ o b, o < n0 -> N (.out (ρ o)) = some b -> N0 (.out o) = some b := by
  intro o b ho hb
  simp only [N0]
  rw [if_pos ho]; exact hb
 have hback2 : ∀ o b, o < n0 -> outs N (.out (ρ o)) = some b -> outs N0 (.out o) = some b := fun o b ho hb => hback o b ho hb
 have hr0 : RelB G w R N0 act.tmps.toList s0 undef .undef [] bsT bsL bsH bsF := by
  refine ⟨repV_undef _, hr.tmps.rnY hl0 hback f1, hr.locs.rnY hl0 hback f2, hr.heap.rnY (by intro i b h; simp [outs] at h) hback2 f3, hr.nodup, ?_, hr.glob, hr.frame⟩
  intro o b ho
  simp only [N0] at ho
  rw [hn0]
  split at ho
  ·assumption
  simp at ho
 refine wpR_mono (hc w R N0 act bsT bsL bsH bsF hr0 hd) ?_
 rintro e a w' ⟨s1, R', N1, bsT', bsL', bsH', hq, hr1, hd', hk, hN⟩
 let N2 : Name -> Option Nat := fun m => match m with | .loc i => N1 (.loc i) | .out x => if x < next then N (.out x) else N1 (.out (x - next + n0))
 have hnx : ∀ o b, N (.out o) = some b -> o < next := fun o b h => hr.next o b h
 have hfwd : ∀ o b, N1 (.out o) = some b -> N2 (.out (liftN ρ n0 next o)) = some b := by
  intro o b hb
  unfold liftN
  cases hlt : Nat.blt o n0 with
  | true =>
   have ho := blt_to hlt
   dsimp only
   obtain ⟨b', hb'⟩ := RepObjs.namedX (M := outs N) (ρ := ρ) (allNames_lt f4 o ho) hr.heap
   simp only [outs] at hb'
   have h5 := hN o b' (hback o b' ho hb')
   rw [hb] at h5
   simp only [N2]
   rw [if_pos (hnx _ _ hb'), hb', h5]
  | false =>
   dsimp only
   have ho : ¬ o < n0 := fun h => by rw [← Nat.blt_eq, hlt] at h; simp at h
   simp only [N2]
   rw [if_neg (by omega), show next + (o - n0) - next + n0 = o by omega]
   exact hb
 have hfX : ∀ m b, N1 m = some b -> N2 (rnN (liftN ρ n0 next) m) = some b := by
  intro m b h
  cases m with
  | loc i => exact h
  | out o => exact hfwd o b h
 have hfY : ∀ m b, outs N1 m = some b -> outs N2 (rnN (liftN ρ n0 next) m) = some b := by
  intro m b h
  cases m with
  | loc i => simp [outs] at h
  | out o => exact hfwd o b h
 refine ⟨_, R', N2, bsT', bsL', bsH', ⟨s1, hq, rfl⟩, ⟨repV_undef _, hr1.tmps.rnX hfX, hr1.locs.rnX hfX, hr1.heap.rnX hfY, hr1.nodup, ?_, hr1.glob, hr1.frame⟩, hd', hk, ?_⟩
 ·intro x b hx
  simp only [N2] at hx
  show x < next + (s1.next - n0)
  split at hx
  ·omega
  have := hr1.next _ _ hx
  omega
 intro x b hx
 simp only [N2]
 rw [if_pos (hnx x b hx)]; exact hx
/-! ### Fewer objects -/
theorem RelB.less {w : World} {R : Own} {N : Name -> Option Nat} {tmps : List Value} {s : AState} {bsT bsL bsH bsF : List Nat} {h2 rest : Heap} (hr : RelB G w R N tmps s undef .undef [] bsT bsL bsH bsF) (hp : s.heap.Perm (h2 ++ rest)) :
  ∃ bsH', RelB G w R N tmps ⟨s.tmps, s.locs, h2, s.next⟩ undef .undef [] bsT bsL bsH' bsF := by
 obtain ⟨bsP, k1, k2⟩ := hr.heap.perm hp
 obtain ⟨b1, b2, e, h1, _⟩ := RepObjs.append k1
 subst e
 refine ⟨b1, repV_undef _, hr.tmps, hr.locs, h1, ?_, hr.next, hr.glob, hr.frame⟩
 have hnd := hr.nodup
 simp only [List.nil_append] at hnd ⊢
 have h3 : (bsT ++ (bsL ++ ((b1 ++ b2) ++ bsF))).Nodup := (List.Perm.append_left _ (List.Perm.append_left _ (List.Perm.append_right _ k2))).nodup_iff.1 hnd
 refine List.Nodup.sublist ?_ h3
 exact List.Sublist.append (.refl _) (List.Sublist.append (.refl _) (List.Sublist.append (List.sublist_append_left _ _) (.refl _)))
theorem ACode.less {c : Code} {Q : Exit -> AState -> Prop} {s : AState} (h2 rest : Heap) (hp : s.heap.Perm (h2 ++ rest)) (hc : ACode P G c Q ⟨s.tmps, s.locs, h2, s.next⟩) : ACode P G c Q s := by
 intro w R N act bsT bsL bsH bsF hr D hd
 obtain ⟨bsH', hr2⟩ := hr.less hp
 exact hc w R N act bsT bsL bsH' bsF hr2 hd
theorem ACode.lessQ {c : Code} {Q Q' : Exit -> AState -> Prop} {s : AState} (hc : ACode P G c Q s) (hq : ∀ e s1, Q e s1 -> ∃ h2 rest, s1.heap.Perm (h2 ++ rest) /\ Q' e ⟨s1.tmps, s1.locs, h2, s1.next⟩) : ACode P G c Q' s := by
 intro w R N act bsT bsL bsH bsF hr D hd
 refine wpR_mono (hc w R N act bsT bsL bsH bsF hr hd) ?_
 rintro e a w' ⟨s1, R', N', bsT', bsL', bsH', hQ, hr1, hd', hk, hN⟩
 obtain ⟨h2, rest, hp, hq2⟩ := hq e s1 hQ
 obtain ⟨bsH2, hr2⟩ := hr1.less hp
 exact ⟨_, R', N', bsT', bsL', bsH2, hq2, hr2, hd', hk, hN⟩
/-! ### Names that nobody uses any more -/
mutual
theorem rnV_id : ∀ a : AVal, rnV (fun o => o) a = a
 | .dat _ => rfl
 | .own _ => rfl
 | .ref _ => rfl
 | .undef => rfl
 | .ptr (.loc _) _ => rfl
 | .ptr (.out _) _ => rfl
 | .map (.loc _) => rfl
 | .map (.out _) => rfl
 | .win (.loc _) _ _ _ => rfl
 | .win (.out _) _ _ _ => rfl
 | .fn f a b => by simp only [rnV, rnL_id]
 | .agg cs => by simp only [rnV, rnL_id]
 | .tup cs => by simp only [rnV, rnL_id]
theorem rnL_id : ∀ l : List AVal, rnL (fun o => o) l = l
 | [] => rfl
 | a :: r => by simp only [rnL, rnV_id a, rnL_id r]
end
theorem rnO_id (o : AObj) : rnO (fun o => o) o = o := by
 cases o with
 | cells cs => simp only [rnO, rnL_id]
 | map es => rfl
theorem rnH_id : ∀ h : Heap, rnH (fun o => o) h = h
 | [] => rfl
 |(.loc i, o) :: r => by simp only [rnH, rnN, rnO_id, rnH_id r]
 |(.out i, o) :: r => by simp only [rnH, rnN, rnO_id, rnH_id r]
/-- The names that have come up are forgotten, if the end names none of them. -/
theorem ACode.low {c : Code} {Q Q' : Exit -> AState -> Prop} {s : AState} (hc : ACode P G c Q s)
  (hq : ∀ e s1, Q e s1 -> hiL s.next s1.tmps = false /\ hiH s.next s1.locs = false /\ hiH s.next s1.heap = false /\ Q' e ⟨s1.tmps, s1.locs, s1.heap, s.next⟩) : ACode P G c Q' s := by
 intro w R N act bsT bsL bsH bsF hr D hd
 refine wpR_mono (hc w R N act bsT bsL bsH bsF hr hd) ?_
 rintro e a w' ⟨s1, R', N', bsT', bsL', bsH', hQ, hr1, hd', hk, hN⟩
 obtain ⟨k1, k2, k3, k4⟩ := hq e s1 hQ
 let N2 : Name -> Option Nat := fun m => match m with | .loc i => N' (.loc i) | .out o => if o < s.next then N' (.out o) else none
 have hl : ∀ i b, N' (.loc i) = some b -> N2 (.loc i) = some b := fun _ _ h => h
 have hM : ∀ o b, o < s.next -> N' (.out ((fun o => o) o)) = some b -> N2 (.out o) = some b := by
  intro o b ho hb
  simp only [N2]
  rw [if_pos ho]; exact hb
 have hM2 : ∀ o b, o < s.next -> outs N' (.out ((fun o => o) o)) = some b -> outs N2 (.out o) = some b := fun o b ho hb => hM o b ho hb
 have e1 := hr1.tmps
 have e2 := hr1.locs
 have e3 := hr1.heap
 rw [← rnL_id s1.tmps] at e1
 rw [← rnH_id s1.locs] at e2
 rw [← rnH_id s1.heap] at e3
 refine ⟨_, R', N2, bsT', bsL', bsH', k4, ⟨repV_undef _, e1.rnY hl hM k1, e2.rnY hl hM k2, e3.rnY (by intro i b h; simp [outs] at h) hM2 k3, hr1.nodup, ?_, hr1.glob, hr1.frame⟩, hd', hk, ?_⟩
 ·intro o b ho
  simp only [N2] at ho
  split at ho
  ·assumption
  simp at ho
 intro o b ho
 simp only [N2]
 rw [if_pos (hr.next o b ho)]
 exact hN o b ho
end Go.Tp

namespace Go.Tp
section
variable {w : World} {R : Own} {M : Name -> Option Nat}
theorem RepObjs.hasN {o : Nat} : ∀ {os : Heap} {bs : List Nat}, hasName o os = true -> RepObjs w R M os bs -> ∃ b, M (.out o) = some b
 | [], _, h, _ => by simp [hasName] at h
 |(.out m, x) :: r, _, h, ⟨b, b1, b2, e, h1, h2, h3⟩ => by
  simp only [hasName, Bool.or_eq_true] at h
  rcases h with h | h
  ·rw [Nat.beq_eq] at h; subst h; exact ⟨b, h1⟩
  exact RepObjs.hasN h h3
 |(.loc i, x) :: r, _, h, ⟨b, b1, b2, e, h1, h2, h3⟩ => by
  simp only [hasName] at h
  exact RepObjs.hasN h h3
end
mutual
theorem hiV_mono {k k2 : Nat} (hk : k <= k2) : ∀ {a : AVal}, hiV k a = false -> hiV k2 a = false
 | .ptr (.out o) _, h => by simp only [hiV] at h ⊢; have := lo_of h; cases e : Nat.ble k2 o with | true => have := ble_to e; omega | false => rfl
 | .map (.out o), h => by simp only [hiV] at h ⊢; have := lo_of h; cases e : Nat.ble k2 o with | true => have := ble_to e; omega | false => rfl
 | .win (.out o) _ _ _, h => by simp only [hiV] at h ⊢; have := lo_of h; cases e : Nat.ble k2 o with | true => have := ble_to e; omega | false => rfl
 | .fn _ a b, h => by simp only [hiV, Bool.or_eq_false_iff] at h ⊢; exact ⟨hiL_mono hk h.1, hiL_mono hk h.2⟩
 | .agg cs, h => by simp only [hiV] at h ⊢; exact hiL_mono hk h
 | .tup cs, h => by simp only [hiV] at h ⊢; exact hiL_mono hk h
 | .dat _, _ => rfl
 | .own _, _ => rfl
 | .ref _, _ => rfl
 | .undef, _ => rfl
 | .ptr (.loc _) _, _ => rfl
 | .map (.loc _), _ => rfl
 | .win (.loc _) _ _ _, _ => rfl
theorem hiL_mono {k k2 : Nat} (hk : k <= k2) : ∀ {l : List AVal}, hiL k l = false -> hiL k2 l = false
 | [], _ => rfl
 | a :: r, h => by simp only [hiL, Bool.or_eq_false_iff] at h ⊢; exact ⟨hiV_mono hk h.1, hiL_mono hk h.2⟩
end
section
variable {P : Program} {G : Globs}
/-- Code from a part of the state, under other names. -/
theorem ACode.view {c : Code} {Q : Exit -> AState -> Prop} {s0 : AState} (hc : ACode P G c Q s0) (ρ : Nat -> Nat) (next : Nat) (full rest : Heap) (hp : full.Perm (rnH ρ s0.heap ++ rest)) (f1 : hiL s0.next s0.tmps = false) (f2 : hiH s0.next s0.locs = false) (f3 : hiH s0.next s0.heap = false) (f4 : ∀ o, o < s0.next -> hasName (ρ o) full = true) :
  ACode P G c (fun e s => ∃ s1, Q e s1 /\ s = ⟨rnL (liftN ρ s0.next next) s1.tmps, rnH (liftN ρ s0.next next) s1.locs, rnH (liftN ρ s0.next next) s1.heap ++ rest, next + (s1.next - s0.next)⟩) ⟨rnL ρ s0.tmps, rnH ρ s0.locs, full, next⟩ := by
 intro w R N act bsT bsL bsH bsF hr D hd
 generalize hn0 : s0.next = n0 at *
 let N0 : Name -> Option Nat := fun m => match m with | .loc i => N (.loc i) | .out o => if o < n0 then N (.out (ρ o)) else none
 have hl0 : ∀ i b, N (.loc i) = some b -> N0 (.loc i) = some b := fun i b h => h
 have hback : ∀ o b, o < n0 -> N (.out (ρ o)) = some b -> N0 (.out o) = some b := by
  intro o b ho hb
  simp only [N0]
  rw [if_pos ho]; exact hb
 have hback2 : ∀ o b, o < n0 -> outs N (.out (ρ o)) = some b -> outs N0 (.out o) = some b := fun o b ho hb => hback o b ho hb
 obtain ⟨bsP, k1, k2⟩ := hr.heap.perm hp
 obtain ⟨b1, bR, rfl, h1, h2⟩ := RepObjs.append k1
 have hnd : (bsT ++ (bsL ++ (b1 ++ (bR ++ bsF)))).Nodup := by
  have := hr.nodup
  simp only [List.nil_append] at this
  have h3 := (List.Perm.append_left bsT (List.Perm.append_left bsL (List.Perm.append_right bsF k2))).nodup_iff.1 this
  simpa using h3
 have hr0 : RelB G w R N0 act.tmps.toList s0 undef .undef [] bsT bsL b1 (bR ++ bsF) := by
  refine ⟨repV_undef _, hr.tmps.rnY hl0 hback f1, hr.locs.rnY hl0 hback f2, h1.rnY (by intro i b h; simp [outs] at h) hback2 f3, by simpa using hnd, ?_, hr.glob, ?_⟩
  ·intro o b ho
   simp only [N0] at ho
   rw [hn0]
   split at ho
   ·assumption
   simp at ho
  intro b hb
  rcases List.mem_append.1 hb with h | h
  ·exact h2.lt b h
  exact hr.frame b h
 refine wpR_mono (hc w R N0 act bsT bsL b1 (bR ++ bsF) hr0 hd) ?_
 rintro e a w' ⟨s1, R', N1, bsT', bsL', bsH', hq, hr1, hd', hk, hN⟩
 let N2 : Name -> Option Nat := fun m => match m with | .loc i => N1 (.loc i) | .out x => if x < next then N (.out x) else N1 (.out (x - next + n0))
 have hnx : ∀ o b, N (.out o) = some b -> o < next := fun o b h => hr.next o b h
 have hfwd : ∀ o b, N1 (.out o) = some b -> N2 (.out (liftN ρ n0 next o)) = some b := by
  intro o b hb
  unfold liftN
  cases hlt : Nat.blt o n0 with
  | true =>
   have ho := blt_to hlt
   dsimp only
   obtain ⟨b', hb'⟩ := RepObjs.hasN (M := outs N) (f4 o ho) hr.heap
   simp only [outs] at hb'
   have h5 := hN o b' (hback o b' ho hb')
   rw [hb] at h5
   simp only [N2]
   rw [if_pos (hnx _ _ hb'), hb', h5]
  | false =>
   dsimp only
   have ho : ¬ o < n0 := fun h => by rw [← Nat.blt_eq, hlt] at h; simp at h
   simp only [N2]
   rw [if_neg (by omega), show next + (o - n0) - next + n0 = o by omega]
   exact hb
 have hfX : ∀ m b, N1 m = some b -> N2 (rnN (liftN ρ n0 next) m) = some b := by
  intro m b h
  cases m with
  | loc i => exact h
  | out o => exact hfwd o b h
 have hfY : ∀ m b, outs N1 m = some b -> outs N2 (rnN (liftN ρ n0 next) m) = some b := by
  intro m b h
  cases m with
  | loc i => simp [outs] at h
  | out o => exact hfwd o b h
 have hfR : ∀ m b, outs N m = some b -> outs N2 m = some b := by
  intro m b h
  cases m with
  | loc i => simp [outs] at h
  | out o =>
   simp only [outs] at h ⊢
   simp only [N2]
   rw [if_pos (hnx _ _ h)]
   exact h
 refine ⟨_, R', N2, bsT', bsL', bsH' ++ bR, ⟨s1, hq, rfl⟩, ⟨repV_undef _, hr1.tmps.rnX hfX, hr1.locs.rnX hfX, ?_, ?_, ?_, hr1.glob, fun b hb => hr1.frame b (by simp [hb])⟩, hd', hk.sub (by intro b hb; simp [hb]), ?_⟩
 ·exact RepObjs.join (hr1.heap.rnX hfY) ((h2.keep (hk.sub (by intro b hb; simp [hb]))).ext hfR)
 ·have := hr1.nodup
  simpa using this
 ·intro x b hx
  simp only [N2] at hx
  show x < next + (s1.next - n0)
  split at hx
  ·omega
  have := hr1.next _ _ hx
  omega
 intro x b hx
 simp only [N2]
 rw [if_pos (hnx x b hx)]; exact hx
end
end Go.Tp

namespace Go.Tp
def seqL : Code -> Code
 | .seq a _ => a
 | c => c
def seqR : Code -> Code
 | .seq _ b => b
 | _ => .skip
def isSeq : Code -> Bool
 | .seq _ _ => true
 | _ => false
def dropS : Nat -> Code -> Code
 | 0, c => c
 | k + 1, c => seqR (dropS k c)
def bodyOf (fn : Func) : Code := match fn.body with | some c => c | none => .skip
/-- What is left of a body behind its first k items. -/
def partD (fn : Func) (k : Nat) : Code := dropS k (bodyOf fn)
/-- The k-th item of a body. -/
def partL (fn : Func) (k : Nat) : Code := seqL (partD fn k)
section
variable {P : Program} {E : TEnv} {G : Globs}
end
end Go.Tp

namespace Go.Tp
def Qy.isFinS : Qy FState -> Bool
 | .fin _ => true
 | _ => false
def Qy.finS : Qy FState -> FState
 | .fin r => r
 | _ => ⟨[], [], [], 0⟩
section
variable {P : Program} {E : TEnv} {G : Globs} {H : Hints} {n : Nat} {A B : Nat -> Bool}
/-- The operations that come first. -/
theorem qops_pre {all : List Oper} {T : FState -> Prop} {Y : List Oper -> AState -> Prop} {rest : List Oper} (hne : rest ≠ []) (hstep : ∀ o r s, r ≠ [] -> aone (ACalls P G) E G H all o (Y r) s -> Y (o :: r) s) :
  ∀ (pre : List Oper) (f : FState), (qops A B E G H n all pre f (fun f' => Qy.fin f')).OkR P G T -> (∀ f', T f' -> Y rest (f'.toA n)) -> Y (pre ++ rest) (f.toA n)
 | [], f, h, hT => hT f h
 | o :: pre, f, h, hT => by
  have h' : (qone A B E G H n all o f (fun f' => qops A B E G H n all pre f' (fun f' => Qy.fin f'))).OkR P G T := h
  refine hstep o (pre ++ rest) _ (by intro e; exact hne (List.append_eq_nil_iff.1 e).2) ?_
  refine aone_mono ?_ (qone_ok h')
  rintro s ⟨f', rfl, h2⟩
  exact qops_pre hne hstep pre f' h2 hT
theorem ok_finS {q : Qy FState} {T : AState -> Prop} (f : FState) (e : q.isFinS = true) (hs : q.finS.toA n = f.toA n) (h : T (f.toA n)) : q.Ok P G (fun f' => T (f'.toA n)) := by
 cases q with
 | fin r =>
  simp only [Qy.finS] at hs
  refine ⟨?_⟩
  show T (r.toA n)
  rw [hs]; exact h
 | _ => simp [Qy.isFinS] at e
variable {l : Nat} {rec : Loop} {ts : List AVal}
theorem yops_pre {all pre rest : List Oper} (hne : rest ≠ []) {Q : AState -> Prop} {f : FState} {T : AState -> Prop} (h : (qops A B E G H n all pre f (fun f' => Qy.fin f')).Ok P G (fun f' => T (f'.toA n))) (hT : ∀ s, T s -> yops P E G H l rec ts all Q rest s) : yops P E G H l rec ts all Q (pre ++ rest) (f.toA n) :=
 qops_pre (Y := fun r s => yops P E G H l rec ts all Q r s) hne (fun o r s _ h => .inl h) pre f h.ok (fun f' h => hT _ h)
theorem yops_mono {Q Q' : AState -> Prop} (hq : ∀ s, Q s -> Q' s) {all : List Oper} : ∀ {rest : List Oper} {s : AState}, yops P E G H l rec ts all Q rest s -> yops P E G H l rec ts all Q' rest s
 | [], _, h => hq _ h
 | o :: rest, s, h => by
  simp only [yops] at h ⊢
  rcases h with h | ⟨t, xs, tys, h1, h2, h3, h4, h5, h6⟩
  ·exact .inl (aone_mono (fun s hs => yops_mono hq hs) h)
  refine .inr ⟨t, xs, tys, h1, h2, h3, h4, h5, ?_⟩
  refine ACode.mono h6 ?_
  rintro e s ⟨k1, k2⟩
  exact ⟨k1, k2.mono (fun e q ⟨k3, k4⟩ => ⟨k3, yops_mono hq k4⟩)⟩
theorem rops_pre {all pre rest : List Oper} (hne : rest ≠ []) {K : Oper -> AState -> Prop} {f : FState} {T : AState -> Prop} (h : (qops A B E G H n all pre f (fun f' => Qy.fin f')).Ok P G (fun f' => T (f'.toA n))) (hT : ∀ s, T s -> rops P E G H all K rest s) : rops P E G H all K (pre ++ rest) (f.toA n) :=
 qops_pre (Y := fun r s => rops P E G H all K r s) hne (fun o r s hr h => by
  cases r with
  | nil => exact absurd rfl hr
  | cons o2 r => exact h) pre f h.ok (fun f' h => hT _ h)
/-- The last operations of a region. -/
theorem yops_end {all pre : List Oper} {Q : AState -> Prop} {f : FState} {T : AState -> Prop} (h : (qops A B E G H n all pre f (fun f' => Qy.fin f')).Ok P G (fun f' => T (f'.toA n))) (hT : ∀ s, T s -> Q s) : yops P E G H l rec ts all Q pre (f.toA n) := by
 have key : ∀ (pre : List Oper) (f : FState), (qops A B E G H n all pre f (fun f' => Qy.fin f')).OkR P G (fun f' => T (f'.toA n)) -> yops P E G H l rec ts all Q pre (f.toA n) := by
  intro pre
  induction pre with
  | nil => intro f h; exact hT _ h
  | cons o pre ih =>
   intro f h
   have h' : (qone A B E G H n all o f (fun f' => qops A B E G H n all pre f' (fun f' => Qy.fin f'))).OkR P G (fun f' => T (f'.toA n)) := h
   refine .inl (aone_mono ?_ (qone_ok h'))
   rintro s ⟨f', rfl, h2⟩
   exact ih f' h2
 exact key pre f h.ok
theorem gops_end {nm : Nat} {es : List (Value × Dat)} {S : List Nat} {all pre : List Oper} {Q : AState -> List Nat -> Prop} {f : FState} {T : AState -> Prop} (h : (qops A B E G H n all pre f (fun f' => Qy.fin f')).Ok P G (fun f' => T (f'.toA n))) (hT : ∀ s, T s -> Q s S) : gops P E G H nm es all Q pre (f.toA n) S := by
 have key : ∀ (pre : List Oper) (f : FState), (qops A B E G H n all pre f (fun f' => Qy.fin f')).OkR P G (fun f' => T (f'.toA n)) -> gops P E G H nm es all Q pre (f.toA n) S := by
  intro pre
  induction pre with
  | nil => intro f h; exact hT _ h
  | cons o pre ih =>
   intro f h
   have h' : (qone A B E G H n all o f (fun f' => qops A B E G H n all pre f' (fun f' => Qy.fin f'))).OkR P G (fun f' => T (f'.toA n)) := h
   refine .inl (aone_mono ?_ (qone_ok h'))
   rintro s ⟨f', rfl, h2⟩
   exact ih f' h2
 exact key pre f h.ok
end
/-! ### Pieces of code, by their place -/
/-- The range in a body: its assignment and its code. -/
noncomputable def rangesIn (c : Code) : List (Code × Code) :=
 Code.rec (motive := fun _ => List (Code × Code))
  (skip := []) (region := fun _ _ _ => []) (seq := fun _ _ ix iy => ix ++ iy) (cond := fun _ _ _ ix iy => ix ++ iy) (block := fun _ _ ic => ic) (loop := fun _ ic => ic)
  (rangeFunc := fun _ _ a b _ _ => [(a, b)]) (exit := fun _ => []) (scope := fun _ ic => ic) (label := fun _ => []) (goto := fun _ => []) (ret := []) (refuse := fun _ => []) c
noncomputable def rfAsn (fn : Func) : Code := match (rangesIn (bodyOf fn))[0]? with | some c => c.1 | none => .skip
noncomputable def rfBody (fn : Func) : Code := match (rangesIn (bodyOf fn))[0]? with | some c => c.2 | none => .skip
noncomputable def rfLoop (fn : Func) (k : Nat) : Code := match (loopsIn (rfBody fn))[k]? with | some c => c | none => .skip
def blkIs (id : Nat) : Code -> Bool
 | .block i _ => Nat.beq i id
 | _ => false
def inBlk : Code -> Code
 | .block _ c => c
 | c => c
def isLoop : Code -> Bool
 | .loop _ => true
 | _ => false
def inLoop : Code -> Code
 | .loop c => c
 | c => c
def condIs (t : Nat) : Code -> Bool
 | .cond (.tmp u) _ _ => Nat.beq u t
 | _ => false
def condT : Code -> Code
 | .cond _ x _ => x
 | c => c
def condF : Code -> Code
 | .cond _ _ y => y
 | c => c
def isReg : Code -> Bool
 | .region _ _ d => !d
 | _ => false
def regOps : Code -> List Oper
 | .region _ ops _ => ops.toList
 | _ => []
/-- The k-th operation of a list. -/
def opAt (l : List Oper) (k : Nat) : Oper := match l.drop k with | o :: _ => o | [] => default
theorem drop_opAt {l : List Oper} {k : Nat} (h : Nat.blt k l.length = true) : l.drop k = opAt l k :: l.drop (k + 1) := by
 have h2 := blt_to h
 unfold opAt
 rw [List.drop_eq_getElem_cons h2]
theorem code_seq {c : Code} (h : isSeq c = true) : c = .seq (seqL c) (seqR c) := by cases c <;> simp_all [isSeq, seqL, seqR]
theorem code_blk {c : Code} {id : Nat} (h : blkIs id c = true) : c = .block id (inBlk c) := by cases c <;> simp_all [blkIs, inBlk]
theorem code_loop {c : Code} (h : isLoop c = true) : c = .loop (inLoop c) := by cases c <;> simp_all [isLoop, inLoop]
theorem code_cond {c : Code} {t : Nat} (h : condIs t c = true) : c = .cond (.tmp t) (condT c) (condF c) := by
 cases c with
 | cond o x y => cases o <;> simp_all [condIs, condT, condF]
 | _ => simp [condIs] at h
theorem code_reg {c : Code} (h : isReg c = true) : ∃ id ops, c = .region id ops false /\ regOps c = ops.toList := by
 cases c with
 | region id ops d => cases d <;> simp_all [isReg, regOps]
 | _ => simp [isReg] at h
section
variable {P : Program} {E : TEnv} {G : Globs} {H : Hints} {l : Nat} {rec : Loop} {ts : List AVal} {Q : Exit -> AState -> Prop} {s : AState} {c : Code}
theorem icode_seqP (hs : isSeq c = true) (h : ICode P G l rec ts (seqL c) (fun e s' => match e with | .normal => ICode P G l rec ts (seqR c) Q s' | e => Q e s') s) : ICode P G l rec ts c Q s := by
 rw [code_seq hs]; exact icode_seq h
theorem icode_blockP (id : Nat) (hs : blkIs id c = true) (h : ICode P G l rec ts (inBlk c) (fun e s' => match e with | .normal => Q .normal s' | .exit i => if i = id then Q .normal s' else Q (.exit i) s' | e => Q e s') s) : ICode P G l rec ts c Q s := by
 rw [code_blk hs]; exact icode_block h
theorem icode_condP {t : Nat} (hs : condIs t c = true) {b : Bool} (hc : getT s.tmps t = .dat (.flat (.bool b))) (h : ICode P G l rec ts (if b then condT c else condF c) Q s) : ICode P G l rec ts c Q s := by
 rw [code_cond hs]; exact icode_cond (c := .tmp t) hc h
theorem icode_loopP {α : Type} (hs : isLoop c = true) (us ls : List Nat) (st : α -> AState) (ok : α -> Prop) (μ : α -> Nat) (x0 : α) (h0 : ok x0) (h1 : s.keep us ls = st x0)
  (round : ∀ x, ok x -> ICode P G l rec ts (inLoop c) (seqQ (fun s' => ∃ x', ok x' /\ μ x' < μ x /\ s'.keep us ls = st x') Q) (st x)) : ICode P G l rec ts c Q s := by
 rw [code_loop hs]; exact icode_loop us ls st ok μ x0 h0 h1 round
theorem icode_regP (hE : E.Ok P) (hst : rec.state = .ready) (hpe : rec.pending = none) (hs : isReg c = true) (h : yops P E G H l rec ts (regOps c) (Q .normal) (regOps c) s) : ICode P G l rec ts c Q s := by
 obtain ⟨id, ops, e1, e2⟩ := code_reg hs
 rw [e2] at h
 rw [e1]
 exact icode_region hE hst hpe h
theorem icode_forget (us ls : List Nat) (h : ICode P G l rec ts c Q (s.keep us ls)) : ICode P G l rec ts c Q s := by
 intro w R N act bsT bsL bsH bsF hr hu D hd
 obtain ⟨bsT', bsL', hr'⟩ := hr.forget us ls
 exact h w R N act bsT' bsL' bsH bsF hr' hu hd
theorem Round.mono {ps : List Nat} {asn bd : Code} {ts vs : List AVal} {heap : Heap} {next : Nat} {K K' : Heap -> Nat -> Prop} (h : Round P G ps asn bd ts vs heap next K) (hk : ∀ h n, K h n -> K' h n) : Round P G ps asn bd ts vs heap next K' := by
 refine ACode.mono h ?_
 rintro e s ⟨h1, h2⟩
 exact ⟨h1, h2.mono (fun e q ⟨h3, h4⟩ => ⟨h3, hk _ _ h4⟩)⟩
/-- The call of the body, among operations. -/
theorem yops_call {all rest : List Oper} {o : Oper} {Q : AState -> Prop} (t : Nat) (xs : Array Operand) (tys : Array TypeId) (ho : o.op = .call ⟨.value (.tmp t), xs, tys⟩) (hw : wantedA all s o.guard = some true) (hg : getT s.tmps t = .fn (.yield l) [] []) (hps : xs.size = rec.params.size)
  {vs : List AVal} (hv : evalArgs G s none 0 xs.toList = vs) (hno : noLocL vs = true) (hR : Round P G rec.params.toList rec.assign rec.body ts vs s.heap s.next (fun heap next => yops P E G H l rec ts all Q rest (({ s with heap := heap, next := next } : AState).put o.dst (.dat (.flat (.bool true)))))) :
  yops P E G H l rec ts all Q (o :: rest) s := by
 subst hv
 exact .inr ⟨t, xs, tys, ho, hw, hg, hps, hno, hR⟩
theorem icode_exit {id : Nat} (h : Q (.exit id) s) : ICode P G l rec ts (.exit id) Q s := icode_of_acode (acode_here wpR_exit h)
theorem icode_skip (h : Q .normal s) : ICode P G l rec ts .skip Q s := icode_of_acode (acode_here wpR_skip h)
theorem acode_seqP (hs : isSeq c = true) (h : ACode P G (seqL c) (fun e s' => match e with | .normal => ACode P G (seqR c) Q s' | e => Q e s') s) : ACode P G c Q s := by
 rw [code_seq hs]; exact acode_seq h
theorem acode_blockP (id : Nat) (hs : blkIs id c = true) (h : ACode P G (inBlk c) (fun e s' => match e with | .normal => Q .normal s' | .exit i => if i = id then Q .normal s' else Q (.exit i) s' | e => Q e s') s) : ACode P G c Q s := by
 rw [code_blk hs]
 intro w R N act bsT bsL bsH bsF hr D hd
 apply wpR_block
 refine wpR_mono (h w R N act bsT bsL bsH bsF hr hd) ?_
 rintro e a w' ⟨s', R', N', bsT', bsL', bsH', hq, rest⟩
 cases e with
 | exit i =>
  simp only [Exit.inBlock]
  by_cases hi : i = id
  ·subst hi
   rw [if_pos rfl]
   simp only [if_pos] at hq
   exact ⟨s', R', N', bsT', bsL', bsH', hq, rest⟩
  rw [if_neg hi]
  simp only [if_neg hi] at hq
  exact ⟨s', R', N', bsT', bsL', bsH', hq, rest⟩
 | _ => exact ⟨s', R', N', bsT', bsL', bsH', hq, rest⟩
theorem acode_condP {t : Nat} (hs : condIs t c = true) {b : Bool} (hc : getT s.tmps t = .dat (.flat (.bool b))) (h : ACode P G (if b then condT c else condF c) Q s) : ACode P G c Q s := by
 rw [code_cond hs]
 intro w R N act bsT bsL bsH bsF hr D hd
 obtain ⟨bt, hev⟩ := eval_raw hr.tmps hr.glob (.tmp t)
 rw [show aeval G s (.tmp t) = .dat (.flat (.bool b)) from hc] at hev
 obtain ⟨_, he, _⟩ := repV_flat_inv hev
 refine wpR_cond he ?_
 cases b <;> exact h w R N act bsT bsL bsH bsF hr hd
theorem acode_loopP {α : Type} (hs : isLoop c = true) (st : α -> AState) (ok : α -> Prop) (μ : α -> Nat) (x0 : α) (h0 : ok x0) (h1 : s = st x0)
  (round : ∀ x, ok x -> ACode P G (inLoop c) (seqQ (fun s' => ∃ x', ok x' /\ μ x' < μ x /\ s' = st x') Q) (st x)) : ACode P G c Q s := by
 rw [code_loop hs]
 refine loopM (I := fun m s => ∃ x, ok x /\ m = μ x /\ s = st x) ?_ (m := μ x0) ⟨x0, h0, rfl, h1⟩
 rintro m s ⟨x, hx, rfl, rfl⟩
 refine (round x hx).mono ?_
 intro e s hs
 cases e with
 | normal =>
  obtain ⟨x', h1, h2, h3⟩ := hs
  exact ⟨_, h2, x', h1, rfl, h3⟩
 | _ => exact hs
/-- What is left behind, forgotten in part. -/
theorem ACode.keepQ {Q' : Exit -> AState -> Prop} (us ls : List Nat) (hc : ACode P G c Q s) (hq : ∀ e s1, Q e s1 -> Q' e (s1.keep us ls)) : ACode P G c Q' s := by
 intro w R N act bsT bsL bsH bsF hr D hd
 refine wpR_mono (hc w R N act bsT bsL bsH bsF hr hd) ?_
 rintro e a w' ⟨s1, R', N', bsT', bsL', bsH', hQ, hr1, hd', hk, hN⟩
 obtain ⟨b1, b2, h2⟩ := hr1.forget us ls
 exact ⟨_, R', N', b1, b2, bsH', hq _ _ hQ, h2, hd', hk, hN⟩
theorem acode_maprangeP (hE : E.Ok P) (hs : isSeq c = true) (hr : isReg (seqL c) = true) (h : rops P E G H (regOps (seqL c)) (RBegin P G (regOps (seqL c)) (seqR c) Q) (regOps (seqL c)) s) : ACode P G c Q s := by
 obtain ⟨id, ops, e1, e2⟩ := code_reg hr
 rw [code_seq hs, e1]
 rw [e2] at h
 exact acode_maprange hE h
/-- .. behind code that may leave marks: fewer objects, and no names that have come up. -/
theorem mcode_less {Q' : Exit -> AState -> Prop} (hc : MCode P G c Q s) (hq : ∀ e s1, Q e s1 -> ∃ h2 rest, s1.heap.Perm (h2 ++ rest) /\ Q' e ⟨s1.tmps, s1.locs, h2, s1.next⟩) : MCode P G c Q' s := by
 intro w R N act bsT bsL bsH bsF rs hr hd hm
 refine wp_mono (hc w R N act bsT bsL bsH bsF rs hr hd hm) ?_
 rintro e a w' ⟨rs', s1, R', N', bsT', bsL', bsH', hQ, hr1, hd', hm', hk, hN⟩
 obtain ⟨h2, rest, hp, hq2⟩ := hq e s1 hQ
 obtain ⟨bsH2, hr2⟩ := hr1.less hp
 exact ⟨rs', _, R', N', bsT', bsL', bsH2, hq2, hr2, hd', hm', hk, hN⟩
theorem mcode_low {Q' : Exit -> AState -> Prop} (hc : MCode P G c Q s)
  (hq : ∀ e s1, Q e s1 -> hiL s.next s1.tmps = false /\ hiH s.next s1.locs = false /\ hiH s.next s1.heap = false /\ Q' e ⟨s1.tmps, s1.locs, s1.heap, s.next⟩) : MCode P G c Q' s := by
 intro w R N act bsT bsL bsH bsF rs hr hd hm
 refine wp_mono (hc w R N act bsT bsL bsH bsF rs hr hd hm) ?_
 rintro e a w' ⟨rs', s1, R', N', bsT', bsL', bsH', hQ, hr1, hd', hm', hk, hN⟩
 obtain ⟨k1, k2, k3, k4⟩ := hq e s1 hQ
 let N2 : Name -> Option Nat := fun m => match m with | .loc i => N' (.loc i) | .out o => if o < s.next then N' (.out o) else none
 have hl : ∀ i b, N' (.loc i) = some b -> N2 (.loc i) = some b := fun _ _ h => h
 have hM : ∀ o b, o < s.next -> N' (.out ((fun o => o) o)) = some b -> N2 (.out o) = some b := by
  intro o b ho hb
  simp only [N2]
  rw [if_pos ho]; exact hb
 have hM2 : ∀ o b, o < s.next -> outs N' (.out ((fun o => o) o)) = some b -> outs N2 (.out o) = some b := fun o b ho hb => hM o b ho hb
 have e1 := hr1.tmps
 have e2 := hr1.locs
 have e3 := hr1.heap
 rw [← rnL_id s1.tmps] at e1
 rw [← rnH_id s1.locs] at e2
 rw [← rnH_id s1.heap] at e3
 refine ⟨rs', _, R', N2, bsT', bsL', bsH', k4, ⟨repV_undef _, e1.rnY hl hM k1, e2.rnY hl hM k2, e3.rnY (by intro i b h; simp [outs] at h) hM2 k3, hr1.nodup, ?_, hr1.glob, hr1.frame⟩, hd', hm', hk, ?_⟩
 ·intro o b ho
  simp only [N2] at ho
  split at ho
  ·assumption
  simp at ho
 intro o b ho
 simp only [N2]
 rw [if_pos (hr.next o b ho)]
 exact hN o b ho
theorem mcode_seqP (hs : isSeq c = true) (h : MCode P G (seqL c) (fun e s' => match e with | .normal => MCode P G (seqR c) Q s' | e => Q e s') s) : MCode P G c Q s := by
 rw [code_seq hs]; exact mcode_seq h
theorem mcode_seqA (hs : isSeq c = true) (h : ACode P G (seqL c) (fun e s' => match e with | .normal => MCode P G (seqR c) Q s' | e => Q e s') s) : MCode P G c Q s := by
 rw [code_seq hs]; exact mcode_seq1 h
theorem mcode_blockP (id : Nat) (hs : blkIs id c = true) (h : MCode P G (inBlk c) (fun e s' => match e with | .normal => Q .normal s' | .exit i => if i = id then Q .normal s' else Q (.exit i) s' | e => Q e s') s) : MCode P G c Q s := by
 rw [code_blk hs]; exact mcode_block h
theorem mcode_loopP {α : Type} (hs : isLoop c = true) (us ls : List Nat) (st : α -> AState) (ok : α -> Prop) (μ : α -> Nat) (x0 : α) (h0 : ok x0) (h1 : s.keep us ls = st x0)
  (round : ∀ x, ok x -> MCode P G (inLoop c) (seqQ (fun s' => ∃ x', ok x' /\ μ x' < μ x /\ s'.keep us ls = st x') Q) (st x)) : MCode P G c Q s := by
 rw [code_loop hs]; exact mcode_loop us ls st ok μ x0 h0 h1 round
end
section
variable {P : Program} {E : TEnv} {G : Globs} {H : Hints} {γ : Type} {J : Gst γ} {Q : Exit -> AState -> γ -> Prop} {s : AState} {g : γ} {c : Code}
theorem gcode_seqP (hs : isSeq c = true) (h : GCode P G J (seqL c) (fun e s' g' => match e with | .normal => GCode P G J (seqR c) Q s' g' | e => Q e s' g') s g) : GCode P G J c Q s g := by
 rw [code_seq hs]; exact gcode_seq h
theorem gcode_blockP (id : Nat) (hs : blkIs id c = true) (h : GCode P G J (inBlk c) (fun e s' g' => match e with | .normal => Q .normal s' g' | .exit i => if i = id then Q .normal s' g' else Q (.exit i) s' g' | e => Q e s' g') s g) : GCode P G J c Q s g := by
 rw [code_blk hs]; exact gcode_block h
theorem gcode_condP {t : Nat} (hs : condIs t c = true) {b : Bool} (hc : getT s.tmps t = .dat (.flat (.bool b))) (h : GCode P G J (if b then condT c else condF c) Q s g) : GCode P G J c Q s g := by
 rw [code_cond hs]; exact gcode_cond (c := .tmp t) hc h
theorem gcode_loopP {α : Type} (hs : isLoop c = true) (us ls : List Nat) (st : α -> AState) (gh : α -> γ) (ok : α -> Prop) (μ : α -> Nat) (x0 : α) (h0 : ok x0) (h1 : s.keep us ls = st x0) (hg : g = gh x0)
  (round : ∀ x, ok x -> GCode P G J (inLoop c) (fun e s' g' => match e with | .normal => ∃ x', ok x' /\ μ x' < μ x /\ s'.keep us ls = st x' /\ g' = gh x' | e => Q e s' g') (st x) (gh x)) : GCode P G J c Q s g := by
 rw [code_loop hs]; exact gcode_loop us ls st gh ok μ x0 h0 h1 hg round
theorem gcode_forget (us ls : List Nat) (h : GCode P G J c Q (s.keep us ls) g) : GCode P G J c Q s g := by
 intro w R N act bsT bsL bsH bsX bsF hr hj D hd
 obtain ⟨bsT', bsL', hr'⟩ := hr.forget us ls
 exact h w R N act bsT' bsL' bsH bsX bsF hr' hj hd
theorem gcode_skip (hJ : J.Stable) (h : Q .normal s g) : GCode P G J .skip Q s g := gcode_of_acode (J := J) @hJ (acode_here wpR_skip h)
theorem gcode_exit (hJ : J.Stable) {id : Nat} (h : Q (.exit id) s g) : GCode P G J (.exit id) Q s g := gcode_of_acode (J := J) @hJ (acode_here wpR_exit h)
/-- The iterator's step, among operations. -/
theorem gops_next {nm : Nat} {es : List (Value × Dat)} {S : List Nat} {all rest : List Oper} {o : Oper} {Q : AState -> List Nat -> Prop} (t : Nat) (ho : o.op = .next (.tmp t) false) (hw : wantedA all s o.guard = some true) (hg : getT s.tmps t = .ptr (.out nm) 0)
  (h1 : (∀ i, i < es.length -> i ∈ S) -> gops P E G H nm es all Q rest (s.put o.dst (.tup [.dat (.flat (.bool false))])) S)
  (h2 : ∀ i, i < es.length -> i ∉ S -> gops P E G H nm es all Q rest (s.put o.dst (.tup [.dat (.flat (.bool true)), .undef, .undef])) (i :: S)) : gops P E G H nm es all Q (o :: rest) s S := .inr (.inl ⟨t, ho, hw, hg, h1, h2⟩)
theorem gops_entry {nm : Nat} {es : List (Value × Dat)} {S : List Nat} {all rest : List Oper} {o : Oper} {Q : AState -> List Nat -> Prop} (t m : Nat) {k : Value} {d : Dat} (ho : o.op = .entry (.tmp t)) (hw : wantedA all s o.guard = some true) (hg : getT s.tmps t = .ptr (.out nm) 0) (he : es[m]? = some (k, d)) (hk : isFlat k = true)
  (h : gops P E G H nm es all Q rest (s.put o.dst (.tup [.dat (.flat k), .undef])) (m :: S)) : gops P E G H nm es all Q (o :: rest) s (m :: S) := .inr (.inr ⟨t, m, S, k, d, rfl, ho, hw, hg, he, hk, h⟩)
theorem gcode_regP (hE : E.Ok P) {j nm : Nat} {es : List (Value × Dat)} {S : List Nat} {Q : Exit -> AState -> List Nat -> Prop} (hs : isReg c = true) (h : gops P E G H nm es (regOps c) (Q .normal) (regOps c) s S) : GCode P G (MIt j nm es) c Q s S := by
 obtain ⟨id, ops, e1, e2⟩ := code_reg hs
 rw [e2] at h
 rw [e1]
 exact gcode_region hE h
end
end Go.Tp

namespace Go.Proofs.YtmpmgmmcaghacaaGreatDoor
open Go.Tp
/-! ### Sets as lists in the order of coming -/
def addK (m : List Int) (s : Int) : List Int := if s ∈ m then m else m ++ [s]
/-- m grows to m' by what X says. -/
def Grow (m m' : List Int) (X : Int -> Prop) : Prop := m <+: m' /\ (m.Nodup -> m'.Nodup) /\ ∀ s, s ∈ m' ↔ s ∈ m ∨ X s
theorem addK_mem {m : List Int} {s t : Int} : t ∈ addK m s ↔ t ∈ m ∨ t = s := by
 unfold addK
 split
 ·exact ⟨.inl, fun h => h.elim id (fun e => e ▸ (by assumption))⟩
 simp
theorem grow_refl (m : List Int) : Grow m m (fun _ => False) := ⟨List.prefix_refl _, id, fun s => by simp⟩
theorem Grow.trans {m m1 m2 : List Int} {X Y : Int -> Prop} (h : Grow m m1 X) (k : Grow m1 m2 Y) : Grow m m2 (fun s => X s ∨ Y s) :=
 ⟨h.1.trans k.1, fun hn => k.2.1 (h.2.1 hn), fun s => by rw [k.2.2, h.2.2, or_assoc]⟩
theorem Grow.congr {m m1 : List Int} {X Y : Int -> Prop} (h : Grow m m1 X) (e : ∀ s, X s ↔ Y s) : Grow m m1 Y := ⟨h.1, h.2.1, fun s => by rw [h.2.2, e]⟩
theorem grow_addK (m : List Int) (s : Int) : Grow m (addK m s) (fun t => t = s) := by
 refine ⟨?_, ?_, fun t => addK_mem⟩
 ·unfold addK; split
  ·exact List.prefix_refl _
  exact List.prefix_append _ _
 intro h
 unfold addK; split
 ·exact h
 rename_i hs
 rw [List.nodup_append]
 exact ⟨h, by simp, fun a ha b hb e => by simp at hb; subst hb; subst e; exact hs ha⟩
/-- One that comes is left out if it is the slot that is written. -/
def visit (d : Option Int) (m : List Int) (s : Int) : List Int := if d = some s then m else addK m s
theorem grow_visit (d : Option Int) (m : List Int) (s : Int) : Grow m (visit d m s) (fun t => t = s /\ d ≠ some t) := by
 unfold visit
 split
 ·rename_i h
  exact (grow_refl m).congr fun t => ⟨False.elim, fun ⟨e, hn⟩ => hn (e ▸ h)⟩
 rename_i h
 exact (grow_addK m s).congr fun t => ⟨fun e => ⟨e, e ▸ h⟩, fun e => e.1⟩
/-- The places that have come. -/
def visS (d : Option Int) (m e : List Int) : List Nat -> List Int
 | [] => m
 | i :: S => visit d (visS d m e S) (e.getD i 0)
theorem grow_visS (d : Option Int) (m e : List Int) : ∀ S : List Nat, Grow m (visS d m e S) (fun t => ∃ i ∈ S, t = e.getD i 0 /\ d ≠ some t)
 | [] => (grow_refl m).congr fun t => by simp
 | i :: S => ((grow_visS d m e S).trans (grow_visit d _ _)).congr fun t => by
  simp only [List.mem_cons, exists_eq_or_imp]
  exact or_comm
theorem grow_vis_all {d : Option Int} {m e : List Int} {S : List Nat} (h : ∀ i, i < e.length -> i ∈ S) (hS : ∀ i ∈ S, i < e.length) : Grow m (visS d m e S) (fun t => t ∈ e /\ d ≠ some t) := by
 refine (grow_visS d m e S).congr fun t => ⟨?_, ?_⟩
 ·rintro ⟨i, hi, rfl, hd⟩
  refine ⟨?_, hd⟩
  rw [List.getD_eq_getElem?_getD, List.getElem?_eq_getElem (hS i hi)]
  exact List.getElem_mem _
 rintro ⟨ht, hd⟩
 obtain ⟨i, hi, rfl⟩ := List.getElem_of_mem ht
 exact ⟨i, h i hi, by rw [List.getD_eq_getElem?_getD, List.getElem?_eq_getElem hi]; rfl, hd⟩
theorem Grow.same {m m' : List Int} {X : Int -> Prop} (h : Grow m m' X) (hl : m'.length = m.length) : m' = m := (h.1.eq_of_length hl.symm).symm
theorem Grow.len {m m' : List Int} {X : Int -> Prop} (h : Grow m m' X) : m.length <= m'.length := h.1.length_le
/-! ### The sweep -/
section
variable (n : Nat) (su : Nat -> List Nat) (us : Nat -> List Int) (df : Nat -> Option Int)
/-- Why a slot is live before an instruction. -/
def Just (es : List (List Int)) (i : Nat) (s : Int) : Prop := s ∈ us i ∨ ∃ j ∈ su i, s ∈ es.getD j [] /\ df i ≠ some s
def univ : List Int := (List.range n).flatMap us
structure LOk (es : List (List Int)) : Prop where
 len : es.length = n
 nd : ∀ i, (es.getD i []).Nodup
 sub : ∀ i s, s ∈ es.getD i [] -> s ∈ univ n us
 just : ∀ i, i < n -> ∀ s, s ∈ es.getD i [] -> Just su us df es i s
 least : ∀ X : Nat -> Int -> Prop, (∀ i, i < n -> ∀ s, (s ∈ us i ∨ ∃ j ∈ su i, X j s /\ df i ≠ some s) -> X i s) -> ∀ i, i < n -> ∀ s, s ∈ es.getD i [] -> X i s
def sumL (es : List (List Int)) : Nat := (es.map List.length).sum
/-- Within a pass: k rounds are left. -/
structure LPass (es0 es : List (List Int)) (k : Nat) (ch : Bool) : Prop where
 ok : LOk n su us df es
 same : ch = false -> es = es0 /\ ∀ i, k <= i -> i < n -> ∀ s, Just su us df es0 i s -> s ∈ es0.getD i []
 more : ch = true -> sumL es0 < sumL es
variable {n su us df}
theorem getD_set {es : List (List Int)} {i j : Nat} {m : List Int} (hi : i < es.length) : (es.set i m).getD j [] = if i = j then m else es.getD j [] := by
 rw [List.getD_eq_getElem?_getD, List.getD_eq_getElem?_getD, List.getElem?_set]
 by_cases h : i = j
 ·subst h; simp [hi]
 simp [h]
theorem sumL_set {m : List Int} : ∀ {es : List (List Int)} {i : Nat}, i < es.length -> sumL (es.set i m) + (es.getD i []).length = sumL es + m.length
 | [], _, h => by simp at h
 | a :: es, 0, _ => by simp [sumL]; omega
 | a :: es, i + 1, h => by
  have := sumL_set (m := m) (es := es) (i := i) (by simpa using h)
  simp [sumL] at this ⊢
  omega
theorem LOk.set {es : List (List Int)} (h : LOk n su us df es) (hsu : ∀ i, i < n -> ∀ j ∈ su i, j < n) {i : Nat} (hi : i < n) {m : List Int} (hg : Grow (es.getD i []) m (Just su us df es i)) : LOk n su us df (es.set i m) := by
 have hl : i < es.length := by rw [h.len]; exact hi
 have hgrow : ∀ j s, s ∈ es.getD j [] -> s ∈ (es.set i m).getD j [] := by
  intro j s hs
  rw [getD_set hl]
  split
  ·rename_i e; subst e; exact (hg.2.2 s).2 (.inl hs)
  exact hs
 have hJ : ∀ j s, Just su us df es j s -> Just su us df (es.set i m) j s := by
  rintro j s (h1 | ⟨q, h1, h2, h3⟩)
  ·exact .inl h1
  exact .inr ⟨q, h1, hgrow q s h2, h3⟩
 refine ⟨by rw [List.length_set]; exact h.len, fun j => ?_, fun j s hs => ?_, fun j hj s hs => ?_, fun X hX j hj s hs => ?_⟩
 ·rw [getD_set hl]; split
  ·exact hg.2.1 (h.nd i)
  exact h.nd j
 ·rw [getD_set hl] at hs
  split at hs
  ·rcases (hg.2.2 s).1 hs with h1 | h1 | ⟨q, h1, h2, h3⟩
   ·exact h.sub i s h1
   ·exact List.mem_flatMap.2 ⟨i, List.mem_range.2 hi, h1⟩
   exact h.sub q s h2
  exact h.sub j s hs
 ·rw [getD_set hl] at hs
  split at hs
  ·rename_i e; subst e
   rcases (hg.2.2 s).1 hs with h1 | h1
   ·exact hJ _ _ (h.just _ hi s h1)
   exact hJ _ _ h1
  exact hJ _ _ (h.just j hj s hs)
 rw [getD_set hl] at hs
 split at hs
 ·rename_i e; subst e
  rcases (hg.2.2 s).1 hs with h1 | h1 | ⟨q, h1, h2, h3⟩
  ·exact h.least X hX _ hi s h1
  ·exact hX _ hi s (.inl h1)
  exact hX _ hi s (.inr ⟨q, h1, h.least X hX q (hsu _ hi q h1) s h2, h3⟩)
 exact h.least X hX j hj s hs
theorem lpass_start {es : List (List Int)} (h : LOk n su us df es) : LPass n su us df es es n false := ⟨h, fun _ => ⟨rfl, fun i h1 h2 => absurd h2 (by omega)⟩, fun h => by simp at h⟩
theorem LPass.round {es0 es : List (List Int)} {k : Nat} {ch : Bool} (h : LPass n su us df es0 es (k + 1) ch) (hsu : ∀ i, i < n -> ∀ j ∈ su i, j < n) (hk : k < n) {m : List Int} (hg : Grow (es.getD k []) m (Just su us df es k)) :
  LPass n su us df es0 (es.set k m) k (ch || decide (m.length ≠ (es.getD k []).length)) := by
 have hl : k < es.length := by rw [h.ok.len]; exact hk
 have hs := sumL_set (m := m) hl
 have hlen := hg.len
 refine ⟨h.ok.set hsu hk hg, fun hf => ?_, fun ht => ?_⟩
 ·simp only [Bool.or_eq_false_iff, decide_eq_false_iff_not, ne_eq, Decidable.not_not] at hf
  obtain ⟨e, hc⟩ := h.same hf.1
  have hm := hg.same hf.2
  subst hm
  have hse : es.set k (es.getD k []) = es := by
   apply List.ext_getElem?
   intro j
   rw [List.getElem?_set]
   split
   ·rename_i e2; subst e2; rw [List.getD_eq_getElem?_getD, List.getElem?_eq_getElem hl]; simp
   rfl
  rw [hse]
  refine ⟨e, fun i h1 h2 s hJ => ?_⟩
  by_cases hik : i = k
  ·subst hik
   rw [← e]
   rw [← e] at hJ
   exact (hg.2.2 s).2 (.inr hJ)
  exact hc i (by omega) h2 s hJ
 simp only [Bool.or_eq_true, decide_eq_true_eq] at ht
 cases hch : ch with
 | true => have := h.more hch; omega
 | false =>
  obtain ⟨e, _⟩ := h.same hch
  rcases ht with ht | ht
  ·rw [hch] at ht; simp at ht
  subst e; omega
theorem sumL_le {es : List (List Int)} {b : Nat} (h : ∀ e ∈ es, e.length <= b) : sumL es <= es.length * b := by
 induction es with
 | nil => simp [sumL]
 | cons a es ih =>
  have h1 := h a (by simp)
  have h2 := ih (fun e he => h e (by simp [he]))
  simp [sumL] at h2 ⊢
  rw [Nat.add_mul]; omega
theorem nodup_len : ∀ {l u : List Int}, l.Nodup -> (∀ s ∈ l, s ∈ u) -> l.length <= u.length
 | [], _, _, _ => Nat.zero_le _
 | a :: l, u, h, hs => by
  have h1 := List.nodup_cons.1 h
  have ha := hs a (by simp)
  have := nodup_len (u := u.erase a) h1.2 (fun s hm => (List.mem_erase_of_ne (fun e : s = a => h1.1 (e ▸ hm))).2 (hs s (by simp [hm])))
  have hl := List.length_erase_of_mem ha
  have := List.length_pos_of_mem ha
  simp only [List.length_cons]; omega
theorem LOk.len_le {es : List (List Int)} (h : LOk n su us df es) (i : Nat) : (es.getD i []).length <= (univ n us).length := nodup_len (h.nd i) (fun s hs => h.sub i s hs)
theorem LOk.bound {es : List (List Int)} (h : LOk n su us df es) : sumL es <= n * (univ n us).length := by
 have := sumL_le (es := es) (b := (univ n us).length) (fun e he => by
  obtain ⟨i, hi, rfl⟩ := List.getElem_of_mem he
  have := h.len_le i
  rw [List.getD_eq_getElem?_getD, List.getElem?_eq_getElem hi] at this
  exact this)
 rw [h.len] at this
 exact this
/-- What the sweep ends with. -/
theorem LPass.fix {es0 es : List (List Int)} (h : LPass n su us df es0 es 0 false) : LOk n su us df es /\ ∀ i, i < n -> ∀ s, s ∈ es.getD i [] ↔ Just su us df es i s := by
 obtain ⟨rfl, hc⟩ := h.same rfl
 exact ⟨h.ok, fun i hi s => ⟨h.ok.just i hi s, hc i (Nat.zero_le _) hi s⟩⟩
theorem lok_start : LOk n su us df (List.replicate n []) := by
 have h0 : ∀ i, (List.replicate n ([] : List Int)).getD i [] = [] := by
  intro i
  rw [List.getD_eq_getElem?_getD, List.getElem?_replicate]
  split <;> rfl
 refine ⟨by simp, fun i => ?_, fun i s hs => ?_, fun i _ s hs => ?_, fun X _ i _ s hs => ?_⟩
 ·rw [h0]; exact List.nodup_nil
 all_goals rw [h0] at hs; simp at hs
end
end Go.Proofs.YtmpmgmmcaghacaaGreatDoor

namespace Go.Tp
theorem win_dat {w : World} {R : Own} {N : Name -> Option Nat} {k sz len : Nat} {v : Value} {bs0 : List Nat} {heap : Heap} {cs : List AVal} {es : List Dat} {bsH : List Nat} (hv : RepV w R (outs N) (.win (.out k) sz 0 len) v bs0) (hh : RepObjs w R (outs N) heap bsH) (ho : aget (.out k) heap = some (.cells cs))
  (hnd : bsH.Nodup) (hes : es.length = len) (hle : len <= lim)
  (hcell : ∀ i d, es[i]? = some d -> d.cells.length = sz /\ ∀ j c, d.cells[j]? = some c -> ∃ a, cs[i * sz + j]? = some a /\ cellDat a = some c) :
  ∃ (b : Nat) (R2 : Own) (bsH2 : List Nat), b ∈ bsH /\ b ∉ bsH2 /\ bs0 = [] /\ RepV w R2 (outs N) (.dat (.slice es)) v [] /\ RepObjs w R2 (outs N) (adel (.out k) heap) bsH2 /\ bsH2.Sublist bsH /\ (∀ bs, b ∉ bs -> Keep w R w R2 bs) := by
 simp only [RepV] at hv
 obtain ⟨rfl, b, cap, hb, rfl, hcap, ⟨hsz, _⟩, hblt, hrow⟩ := hv
 obtain ⟨pre, b', b1, post, e1, hb', hobj, _, bs', hdel, hsub⟩ := RepObjs.split_del hh ho
 have : b' = b := by rw [hb] at hb'; simpa using hb'.symm
 subst this
 obtain ⟨vs, elem, sp, hblk, hrv, hRv, _⟩ := hobj
 obtain ⟨R', hR'⟩ : ∃ R' : Own, R' = fun c off => c ≠ b' /\ R c off := ⟨_, rfl⟩
 have hstep : Step w R w R' := ⟨rfl, rfl, rfl, Nat.le_refl _, fun c _ hno => ⟨rfl, fun off h => by subst hR'; exact hno off h.2⟩, fun c off _ hno => ⟨fun h => by subst hR'; exact hno h.2, rfl⟩, fun _ _ => rfl⟩
 have hk : ∀ bs, b' ∉ bs -> Keep w R w R' bs := fun bs hbs => ⟨hstep, fun c hc _ => ⟨rfl, fun off h => by subst hR'; exact ⟨fun e => hbs (e ▸ hc), h⟩⟩⟩
 subst e1
 have hp : ((pre ++ (b' :: b1)) ++ post).Perm (b' :: (b1 ++ (pre ++ post))) := by
  rw [List.perm_iff_count]; intro q; simp only [List.count_append, List.count_cons]; omega
 have hnd2 := List.nodup_cons.1 (hp.nodup_iff.1 hnd)
 have hno := hnd2.1
 simp only [List.mem_append, not_or] at hno
 have n5 : b' ∉ bs' := fun hm => by
  rcases List.mem_append.1 (hsub.subset hm) with h | h
  ·exact hno.2.1 h
  exact hno.2.2 h
 have hrep : RepC w R' (.slice (some ⟨b', 0, none⟩) len cap) (.slice es) := by
  subst hes
  have hc : ∀ i j e c, es[i]? = some e -> e.cells[j]? = some c -> ∃ a x bx, cs[i * sz + j]? = some a /\ cellDat a = some c /\ vs[i * sz + j]? = some x /\ RepV w R (outs N) a x bx := by
   intro i j e c he hc
   obtain ⟨a, ha, hd⟩ := (hcell i e he).2 j c hc
   obtain ⟨x, bx, q1, q2, _⟩ := repVs_get hrv (get_pad ha)
   exact ⟨a, x, bx, ha, hd, by rw [← Array.getElem?_toList]; exact q1, q2⟩
  refine .slice b' 0 cap sz _ (fun i j => vs[i * sz + j]?.getD default) hsz ?_ hcap hle ?_ ?_
  ·intro e he
   obtain ⟨i, hi, rfl⟩ := List.getElem_of_mem he
   exact (hcell i _ (List.getElem?_eq_getElem hi)).1
  ·intro i j hi hj
   have hei : es[i]? = some es[i] := List.getElem?_eq_getElem hi
   have hl := (hcell i _ hei).1
   have hcj : es[i].cells[j]? = some (es[i].cells[j]'(by omega)) := List.getElem?_eq_getElem (by omega)
   obtain ⟨a, x, bx, _, hd, hvx, hx⟩ := hc i j _ _ hei hcj
   refine ⟨?_, fun h => by subst hR'; exact h.1 rfl⟩
   rw [cell_of_row w b' _ vs elem (0, 0) hblk]
   rw [Nat.zero_add, hvx]
   rfl
  intro i j e c he hcc
  obtain ⟨a, x, bx, _, hd, hvx, hx⟩ := hc i j e c he hcc
  obtain ⟨k1, k2⟩ := cellDat_rep hd hx
  have hx2 : vs[i * sz + j]?.getD default = x := by rw [hvx]; rfl
  show RepC w R' (vs[i * sz + j]?.getD default) c
  rw [hx2]
  exact k1.step hstep
 refine ⟨b', R', bs', by simp, n5, rfl, repV_dat (d := .slice es) hrep, hdel.keep (hk bs' n5), ?_, hk⟩
 refine hsub.trans ?_
 exact List.Sublist.append (List.sublist_append_left pre (b' :: b1)) (List.Sublist.refl post)
section
variable {P : Program} {G : Globs}
end
end Go.Tp

namespace Go.Tp
structure Gr where
 n : Nat
 succ : Nat -> List Nat
 call : Nat -> Bool
 lt : ∀ i, i < n -> ∀ j ∈ succ i, j < n
variable {G : Gr}
inductive Gr.Fin (G : Gr) : List Nat -> Prop
 |nil : Gr.Fin G []
 |cons {o : List Nat} {i : Nat} : Gr.Fin G o -> (G.call i = true ∨ ∀ j ∈ G.succ i, j ∈ o) -> Gr.Fin G (i :: o)
def at0 (st : List Nat) (i : Nat) : Nat := st.getD i 0
theorem at0_set {st : List Nat} {i j v : Nat} (h : i < st.length) : at0 (st.set i v) j = if j = i then v else at0 st j := by
 unfold at0
 rw [List.getD_eq_getElem?_getD, List.getD_eq_getElem?_getD, List.getElem?_set]
 by_cases hji : j = i
 ·subst hji
  simp [h]
 rw [if_neg (fun e => hji e.symm), if_neg hji]
/-- The stack below its top. -/
def Gr.Below (G : Gr) (st : List Nat) : Nat -> List (Nat × Nat) -> Prop
 | _, [] => True
 | a, (p, e) :: r => p < G.n /\ 0 < e /\ at0 st p = 1 /\ G.call p = false /\ (G.succ p)[e - 1]? = some a /\ (∀ k j, k < e - 1 -> (G.succ p)[k]? = some j -> at0 st j = 2) /\ G.Below st p r
def Gr.Top (G : Gr) (st : List Nat) : List (Nat × Nat) -> Prop
 | [] => True
 |(i, e) :: r => i < G.n /\ e <= (G.succ i).length /\ (0 < e -> at0 st i = 1 /\ G.call i = false) /\ (e = 0 -> at0 st i ≠ 1) /\ (∀ k j, k < e -> (G.succ i)[k]? = some j -> at0 st j = 2) /\ G.Below st i r
structure Gr.Inv (G : Gr) (st : List Nat) (stk : List (Nat × Nat)) : Prop where
 len : st.length = G.n
 val : ∀ i, at0 st i <= 2
 fin : ∃ o, G.Fin o /\ (∀ i, i ∈ o ↔ i < G.n /\ at0 st i = 2)
 act : ∀ i, at0 st i = 1 -> i ∈ stk.map Prod.fst
 nodup : (stk.map Prod.fst).Nodup
 top : G.Top st stk
/-- .. or active (it was not done). -/
theorem Gr.Below.act {st : List Nat} {i : Nat} (hi : i < st.length) (h2 : at0 st i ≠ 2) : ∀ {r : List (Nat × Nat)} {a : Nat}, G.Below st a r -> G.Below (st.set i 1) a r
 | [], _, _ => trivial
 |(p, e) :: r, a, h => by
  obtain ⟨g1, g2, g3, g4, g5, g6, g7⟩ := h
  refine ⟨g1, g2, ?_, g4, g5, ?_, Gr.Below.act hi h2 g7⟩
  ·rw [at0_set hi]
   by_cases hp : p = i
   ·rw [if_pos hp]
   rw [if_neg hp]; exact g3
  intro k j hk hj
  rw [at0_set hi]
  by_cases hji : j = i
  ·subst hji; exact absurd (g6 k _ hk hj) h2
  rw [if_neg hji]; exact g6 k j hk hj
/-- The node on top becomes active. -/
theorem Gr.Inv.mark {st : List Nat} {i e : Nat} {r : List (Nat × Nat)} (h : G.Inv st ((i, e) :: r)) (h2 : e = 0 -> at0 st i ≠ 2) : (∀ j, at0 (st.set i 1) j = if j = i then 1 else at0 st j) /\ (st.set i 1).length = G.n /\ (∃ o, G.Fin o /\ (∀ j, j ∈ o ↔ j < G.n /\ at0 (st.set i 1) j = 2)) /\ (∀ j, at0 (st.set i 1) j = 1 -> j ∈ ((i, e) :: r).map Prod.fst) /\ G.Below (st.set i 1) i r /\ (∀ k j, k < e -> (G.succ i)[k]? = some j -> at0 (st.set i 1) j = 2) := by
 obtain ⟨hl, hv, ⟨o, ho, hoi⟩, ha, hn, ht⟩ := h
 obtain ⟨t1, t2, t3, t4, t5, t6⟩ := ht
 have hi : i < st.length := by rw [hl]; exact t1
 have hne : at0 st i ≠ 2 := by
  by_cases he : e = 0
  ·exact h2 he
  rw [(t3 (by omega)).1]; omega
 refine ⟨fun j => at0_set hi, by rw [List.length_set]; exact hl, ⟨o, ho, ?_⟩, ?_, Gr.Below.act hi hne t6, ?_⟩
 ·intro j
  rw [at0_set hi, hoi]
  by_cases hj : j = i
  ·subst hj; simp [hne]
  rw [if_neg hj]
 ·intro j hj
  rw [at0_set hi] at hj
  by_cases hji : j = i
  ·simp [hji]
  rw [if_neg hji] at hj; exact ha j hj
 intro k j hk hj
 have h5 := t5 k j hk hj
 rw [at0_set hi]
 by_cases hji : j = i
 ·subst hji; exact absurd h5 hne
 rw [if_neg hji]; exact h5
/-- The next edge leads to a node that is done. -/
theorem Gr.Inv.skip {st : List Nat} {i e j : Nat} {r : List (Nat × Nat)} (h : G.Inv st ((i, e) :: r)) (h2 : e = 0 -> at0 st i ≠ 2) (hc : e = 0 -> G.call i = false) (hj : (G.succ i)[e]? = some j) (hd : at0 (st.set i 1) j = 2) : G.Inv (st.set i 1) ((i, e + 1) :: r) := by
 obtain ⟨m1, m2, m3, m4, m5, m6⟩ := h.mark h2
 obtain ⟨t1, t2, t3, t4, t5, t6⟩ := h.top
 have hcall : G.call i = false := by
  by_cases he : e = 0
  ·exact hc he
  exact (t3 (by omega)).2
 refine ⟨m2, ?_, m3, ?_, h.nodup, ⟨t1, ?_, ?_, by omega, ?_, m5⟩⟩
 ·intro k
  rw [m1]
  by_cases hk : k = i
  ·rw [if_pos hk]; omega
  rw [if_neg hk]; exact h.val k
 ·intro k hk
  simpa using m4 k hk
 ·have := (List.getElem?_eq_some_iff.1 hj).1; omega
 ·intro _
  refine ⟨?_, hcall⟩
  rw [m1, if_pos rfl]
 intro k q hk hq
 by_cases hke : k < e
 ·exact m6 k q hke hq
 have : k = e := by omega
 subst this
 rw [hj] at hq
 rw [← Option.some.inj hq]; exact hd
/-- .. to a node that nobody has seen. -/
theorem Gr.Inv.push {st : List Nat} {i e j : Nat} {r : List (Nat × Nat)} (h : G.Inv st ((i, e) :: r)) (h2 : e = 0 -> at0 st i ≠ 2) (hc : e = 0 -> G.call i = false) (hj : (G.succ i)[e]? = some j) (hd1 : at0 (st.set i 1) j ≠ 1) (hd2 : at0 (st.set i 1) j ≠ 2) : G.Inv (st.set i 1) ((j, 0) :: (i, e + 1) :: r) := by
 obtain ⟨m1, m2, m3, m4, m5, m6⟩ := h.mark h2
 obtain ⟨t1, t2, t3, t4, t5, t6⟩ := h.top
 have hcall : G.call i = false := by
  by_cases he : e = 0
  ·exact hc he
  exact (t3 (by omega)).2
 have hjn : j < G.n := G.lt i t1 j (List.mem_of_getElem? hj)
 have hall : ∀ q, G.Below (st.set i 1) q r -> ∀ p ∈ r.map Prod.fst, at0 (st.set i 1) p = 1 := by
  intro q hb p hp
  clear hj hd1 hd2 m3 m4 m6 hcall
  revert q
  have key : ∀ (r : List (Nat × Nat)) (q : Nat), G.Below (st.set i 1) q r -> ∀ p ∈ r.map Prod.fst, at0 (st.set i 1) p = 1 := by
   intro r
   induction r with
   | nil => intro q _ p hp; simp at hp
   | cons x r ih =>
    intro q hb p hp
    obtain ⟨x1, x2⟩ := x
    obtain ⟨_, _, g3, _, _, _, g7⟩ := hb
    simp only [List.map_cons, List.mem_cons] at hp
    rcases hp with rfl | hp
    ·exact g3
    exact ih x1 g7 p hp
  intro q hb
  exact key r q hb p hp
 refine ⟨m2, ?_, m3, ?_, ?_, ⟨hjn, Nat.zero_le _, by omega, fun _ => hd1, fun k q hk => by omega, ?_⟩⟩
 ·intro k
  rw [m1]
  by_cases hk : k = i
  ·rw [if_pos hk]; omega
  rw [if_neg hk]; exact h.val k
 ·intro k hk
  have := m4 k hk
  simp only [List.map_cons, List.mem_cons] at this ⊢
  exact .inr this
 ·simp only [List.map_cons, List.nodup_cons]
  have hn := h.nodup
  simp only [List.map_cons, List.nodup_cons] at hn
  refine ⟨?_, hn⟩
  intro hm
  rcases List.mem_cons.1 hm with rfl | hm
  ·exact hd1 (by rw [m1, if_pos rfl])
  exact hd1 (hall i m5 j hm)
 refine ⟨t1, by omega, by rw [m1, if_pos rfl], hcall, hj, ?_, m5⟩
 intro k q hk hq
 exact m6 k q (by omega) hq
/-! ### The measure of the search -/
def fresh (G : Gr) (st : List Nat) : Nat -> Nat
 | 0 => 0
 | k + 1 => fresh G st k + (if at0 st k = 0 then 2 * (G.succ k).length + 4 else 0)
/-! ### A fixed point -/
/-- Nodes that come to an end, as far as known: each of them does, if its sons do. -/
def Gr.Sound (G : Gr) (f : List Bool) : Prop := ∀ C : Nat -> Prop, (∀ c, C c -> c < G.n /\ G.call c = false /\ ∃ j ∈ G.succ c, C j) -> ∀ c, C c -> f.getD c false = false
theorem Gr.Sound.set {f : List Bool} {i : Nat} (h : G.Sound f) (hi : i < f.length) (hd : G.call i = true ∨ ∀ j ∈ G.succ i, f.getD j false = true) : G.Sound (f.set i true) := by
 intro C hC c hc
 have h1 := h C hC c hc
 rw [List.getD_eq_getElem?_getD, List.getElem?_set]
 by_cases hci : i = c
 ·subst hci
  exfalso
  obtain ⟨_, h2, j, h3, h4⟩ := hC _ hc
  rcases hd with hd | hd
  ·rw [h2] at hd; simp at hd
  have h5 := hd j h3
  rw [h C hC j h4] at h5
  simp at h5
 rw [if_neg hci, ← List.getD_eq_getElem?_getD]; exact h1
/-! ### One or the other -/
theorem Gr.Fin.free {o : List Nat} (h : G.Fin o) {C : Nat -> Prop} (hC : ∀ c, C c -> c < G.n /\ G.call c = false /\ ∃ j ∈ G.succ c, C j) : ∀ c, C c -> c ∉ o := by
 induction h with
 | nil => intro c _ hm; simp at hm
 | @cons o i _ hk ih =>
  intro c hc hm
  rcases List.mem_cons.1 hm with rfl | hm
  ·obtain ⟨_, h2, j, h3, h4⟩ := hC _ hc
   rcases hk with hk | hk
   ·rw [h2] at hk; simp at hk
   exact ih j h4 (hk j h3)
  exact ih c hc hm
/-! ### What is reached -/
/-- A list of work. -/
structure Gr.Work (G : Gr) (f : List Bool) (ws : List Nat) : Prop where
 len : f.length = G.n
 lt : ∀ i ∈ ws, i < G.n
 zero : f.getD 0 false = true ∨ 0 ∈ ws
 closed : ∀ i, i < G.n -> f.getD i false = true -> ∀ j ∈ G.succ i, f.getD j false = true ∨ j ∈ ws
 least : ∀ S : Nat -> Prop, S 0 -> (∀ i, i < G.n -> S i -> ∀ j ∈ G.succ i, S j) -> (∀ i, f.getD i false = true -> S i) /\ ∀ i ∈ ws, S i
theorem getD_set {f : List Bool} {i j : Nat} (h : i < f.length) : (f.set i true).getD j false = (decide (j = i) || f.getD j false) := by
 rw [List.getD_eq_getElem?_getD, List.getD_eq_getElem?_getD, List.getElem?_set]
 by_cases hji : j = i
 ·subst hji; simp [h]
 rw [if_neg (fun e => hji e.symm)]; simp [hji]
theorem Gr.Work.skip {f : List Bool} {ws : List Nat} {i : Nat} (h : G.Work f (ws ++ [i])) (hi : f.getD i false = true) : G.Work f ws := by
 refine ⟨h.len, fun j hj => h.lt j (List.mem_append_left _ hj), ?_, ?_, fun S a b => ⟨(h.least S a b).1, fun j hj => (h.least S a b).2 j (List.mem_append_left _ hj)⟩⟩
 ·rcases h.zero with h0 | h0
  ·exact .inl h0
  rcases List.mem_append.1 h0 with h0 | h0
  ·exact .inr h0
  have : 0 = i := by simpa using h0
  subst this; exact .inl hi
 intro k hk hf j hj
 rcases h.closed k hk hf j hj with h1 | h1
 ·exact .inl h1
 rcases List.mem_append.1 h1 with h1 | h1
 ·exact .inr h1
 have : j = i := by simpa using h1
 subst this; exact .inl hi
end Go.Tp

namespace Go.Tp
open Go.ChangeShapes Go.WideShapes
/-- A call from outside: what comes back, and that no block changes. -/
theorem calls_of_acallsV {P : Program} {G : Globs} {f : FuncId} {as : List AVal} {args : List Value} {b : Bool} {r : XRes} (W : World) (ha : RepVs W noOwn (outs fun _ => none) as args []) (h : ACalls P G f as [] 0 (XQ r)) (hr : r.val = bv b) (hG : ∀ g cs, G g = some cs -> GlobAt W noOwn g cs) :
  Calls P f args.toArray W fun e W' => e = .returned (.bool b) /\ W.keptBut W' (fun _ => False) /\ ∀ i, i < W.heap.size -> W'.heap[i]? = W.heap[i]? := by
 refine (h W noOwn (fun _ => none) args [] [] [] ha rfl (by simp) (by intro o b h; simp at h) hG (by simp)).mono ?_
 rintro e W' ⟨v, cv, heap', next', R', N', bsV, bsH', rfl, ⟨rfl, _, _⟩, hv, _, _, _, hk, _⟩
 rw [hr] at hv
 obtain ⟨_, rfl, _⟩ := repV_flat_inv hv
 exact ⟨rfl, keptBut_of_step hk.step, fun i hi => (hk.step.block i hi (fun _ h => h)).1⟩
end Go.Tp
