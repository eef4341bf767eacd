/- Part 2 of what the last text proves. -/
import Derived.Test.YtmpmgmmcaghacaaGreatDoorQ01
set_option linter.unusedVariables false
set_option linter.unusedSimpArgs false
set_option maxRecDepth 100000
set_option maxHeartbeats 4000000
namespace Go.Tp
/-! ### Bounds -/
theorem bndDs_iff : ∀ {l : List Dat}, bndDs l ↔ ∀ d ∈ l, bndD d
 | [] => by simp [bndDs]
 | d :: r => by simp [bndDs, bndDs_iff (l := r)]
theorem bndD_cells {e : Dat} (h : ∀ (j : Nat) (c : Dat), e.cells[j]? = some c -> bndD c) : bndD e := by
 cases e with
 | flat v => exact h 0 (.flat v) rfl
 | slice es => exact h 0 (.slice es) rfl
 | agg cs =>
  simp only [bndD]
  rw [bndDs_iff]
  intro d hd
  obtain ⟨j, hj⟩ := List.getElem?_of_mem hd
  exact h j d hj
theorem RepC.bnd {w : World} {R : Own} {v : Value} {d : Dat} (h : RepC w R v d) : bndD d := by
 induction h with
 | flat h => exact h
 | nil a cap => exact ⟨Nat.zero_le _, trivial⟩
 | slice b off cap s es vs hs hlen hcap hb hcell hrep ih =>
  simp only [bndD]
  refine ⟨hb, bndDs_iff.2 fun e he => ?_⟩
  obtain ⟨i, hi⟩ := List.getElem?_of_mem he
  exact bndD_cells fun j c hj => ih i j e c hi hj
theorem RepCs.bnd {w : World} {R : Own} : ∀ {vs : List Value} {cs : List Dat}, RepCs w R vs cs -> bndDs cs
 | [], [], _ => trivial
 | _ :: _, _ :: _, h => ⟨h.1.bnd, RepCs.bnd h.2⟩
 | [], _ :: _, h => h.elim
 | _ :: _, [], h => h.elim
theorem RepD.bnd {w : World} {R : Own} {v : Value} : ∀ {d : Dat}, RepD w R v d -> bndD d
 | .agg _, ⟨_, _, h⟩ => h.bnd
 | .flat _, h => RepC.bnd h
 | .slice _, h => RepC.bnd h
theorem RepAt.bnd {w : World} {R : Own} {b : Nat} : ∀ {off : Nat} {cs : List Dat}, RepAt w R b off cs -> bndDs cs
 | _, [], _ => trivial
 | _, _ :: _, ⟨⟨_, _, _, hr⟩, ht⟩ => ⟨hr.bnd, RepAt.bnd ht⟩
section
variable {w : World} {R : Own} {N : Name -> Option Nat}
mutual
theorem RepV.bnd : ∀ {a : AVal} {v : Value} {bs : List Nat}, RepV w R N a v bs -> bndV a
 | .dat _, _, _, h => by simp only [RepV] at h; simp only [bndV]; exact h.2.bnd
 | .own _, _, _, h => by
  simp only [RepV] at h
  simp only [bndV]
  cases h with
  | nil => exact ⟨Nat.zero_le _, trivial⟩
  | row b cap s es vs t hblk hs0 hs hcap he hin h hsp => have := h.bnd; simpa only [bndD] using this
 | .ref _, _, _, h => by
  simp only [RepV] at h
  simp only [bndV]
  obtain ⟨_, b, off, _, h2⟩ := h
  exact h2.bnd
 | .ptr _ _, _, _, _ => by simp [bndV]
 | .map _, _, _, _ => by simp [bndV]
 | .win _ _ _ _, _, _, _ => by simp [bndV]
 | .fn _ first captured, _, _, h => by
  simp only [RepV] at h
  obtain ⟨_, vs, us, _, h2, h3⟩ := h
  simp only [bndV]
  exact ⟨RepVs.bnd (as := first) h2, RepVs.bnd (as := captured) h3⟩
 | .agg cs, _, _, h => by
  simp only [RepV] at h
  obtain ⟨vs, _, h2⟩ := h
  simp only [bndV]
  exact RepVs.bnd (as := cs) h2
 | .tup cs, _, _, h => by
  simp only [RepV] at h
  obtain ⟨vs, _, h2⟩ := h
  simp only [bndV]
  exact RepVs.bnd (as := cs) h2
 | .undef, _, _, _ => by simp [bndV]
theorem RepVs.bnd : ∀ {as : List AVal} {vs : List Value} {bs : List Nat}, RepVs w R N as vs bs -> bndL as
 | [], _, _, _ => by simp [bndL]
 | a :: as, _, _, h => by
  simp only [RepVs] at h
  obtain ⟨v, vs', b1, b2, _, _, h1, h2⟩ := h
  simp only [bndL]
  exact ⟨RepV.bnd (a := a) h1, RepVs.bnd (as := as) h2⟩
end
theorem RepMap.bnd : ∀ {es : List (Value × Dat)} {ents : List MapEntry}, RepMap w R es ents -> bndM es
 | [], _, _ => trivial
 |(_, _) :: _, _, ⟨_, _, _, _, h3, h4⟩ => ⟨h3.bnd, RepMap.bnd h4⟩
theorem bndL_left : ∀ {l m : List AVal}, bndL (l ++ m) -> bndL l
 | [], _, _ => by simp [bndL]
 | a :: l, m, h => by simp only [List.cons_append, bndL] at h ⊢; exact ⟨h.1, bndL_left h.2⟩
theorem RepObjs.bnd : ∀ {os : List (Name × AObj)} {bs : List Nat}, RepObjs w R N os bs -> bndO os
 | [], _, _ => trivial
 |(_, .cells _) :: _, _, ⟨_, _, _, _, _, ⟨_, _, _, _, h1, _⟩, h2⟩ => ⟨bndL_left h1.bnd, RepObjs.bnd h2⟩
 |(_, .map _) :: _, _, ⟨_, _, _, _, _, ⟨_, _, _, _, _, h1⟩, h2⟩ => ⟨h1.1.bnd, RepObjs.bnd h2⟩
end
section
variable {P : Program} {E : TEnv} {G : Globs} {H : Hints} {D : List Deferred} {rd : Option Nat}
theorem Keep.trans {w w1 w2 : World} {R R1 R2 : Own} {bs : List Nat} (h : Keep w R w1 R1 bs) (k : Keep w1 R1 w2 R2 bs) : Keep w R w2 R2 bs :=
 ⟨h.step.trans k.step, fun b hb hlt => by
  obtain ⟨e1, f1⟩ := h.same b hb hlt
  obtain ⟨e2, f2⟩ := k.same b hb (Nat.lt_of_lt_of_le hlt h.step.size)
  exact ⟨e2.trans e1, fun off hr => f2 off (f1 off hr)⟩⟩
theorem Aft.trans {K : AState -> Prop} {w w1 : World} {R R1 : Own} {N N1 : Name -> Option Nat} {bsF : List Nat} (hk : Keep w R w1 R1 bsF) (hN : ∀ o b, N (.out o) = some b -> N1 (.out o) = some b) {a : Act} {w2 : World}
  (h : Aft G D K w1 R1 N1 bsF a w2) : Aft G D K w R N bsF a w2 := by
 obtain ⟨s', R', N', bsT, bsL, bsH, hq, hr, hd, hk', hN'⟩ := h
 exact ⟨s', R', N', bsT, bsL, bsH, hq, hr, hd, hk.trans hk', fun o b h => hN' o b (hN o b h)⟩
theorem wanted_sound {ops : Array Oper} {s : AState} {act : Act} {w : World} {R : Own} {N : Name -> Option Nat} {bsT : List Nat} (ht : RepVs w R N s.tmps act.tmps.toList bsT) {o : Oper} {b : Bool} (h : wantedA ops.toList s o.guard = some b) :
  Region.wanted o (yielded ops act.tmps) = b := by
 unfold wantedA at h
 unfold Region.wanted
 cases hg : o.guard with
 | none => rw [hg] at h; simp at h; simp [← h]
 | some jw =>
  obtain ⟨j, want⟩ := jw
  rw [hg] at h
  simp only at h ⊢
  split at h
  ·rename_i o' ho'
   split at h
   ·rename_i t ht'
    split at h
    ·rename_i b' hb'
     simp at h
     have hget : s.tmps[t]? = some (.dat (.flat (.bool b'))) := by
      unfold getT at hb'
      cases hs : s.tmps[t]? with
      | none => rw [hs] at hb'; simp at hb'
      | some v => rw [hs] at hb'; simp at hb'; rw [hb']
     obtain ⟨v, bs', e1, e2, _⟩ := repVs_get ht hget
     obtain ⟨_, rfl, _⟩ := repV_flat_inv e2
     have ho2 : ops[j]? = some o' := by simpa using ho'
     have hy : yielded ops act.tmps j = some b' := by
      unfold yielded
      simp at e1
      simp [ho2, ht', e1]
     rw [hy]
     rw [← h]
     cases b' <;> cases want <;> rfl
    ·rename_i hb'
     simp at h
     have hget : s.tmps[t]? = some (.tup []) := by
      unfold getT at hb'
      cases hs : s.tmps[t]? with
      | none => rw [hs] at hb'; simp at hb'
      | some v => rw [hs] at hb'; simp at hb'; rw [hb']
     obtain ⟨v, bs', e1, e2, _⟩ := repVs_get ht hget
     simp only [RepV, RepVs] at e2
     obtain ⟨vs, rfl, rfl, _⟩ := e2
     have ho2 : ops[j]? = some o' := by simpa using ho'
     have hy : yielded ops act.tmps j = none := by
      unfold yielded
      simp at e1
      simp [ho2, ht', e1]
     rw [hy, h]
     rfl
    simp at h
   simp at h
  simp at h
theorem ran_wp {o : Oper} {act : Act} {w w' : World} {cv : Value} {K : Act -> World -> Prop} {Qx : Exit -> Act -> World -> Prop} (hran : Ran P w act.eval o cv w') (h : K (act.put o.dst cv) w') : o.wp P act w K Qx := by
 unfold Oper.wp
 rcases hran with hran | ⟨hran, rfl⟩
 ·rw [hran, Oper.upon_value]; exact h
 rw [hran, Oper.upon_skip]; exact h
/-- A call whose arguments are in hand. -/
theorem call_sound {f : FuncId} {args : List AVal} {s2 : AState} {o : Oper} {cargs : List Value} {act : Act} {w : World} {R : Own} {N : Name -> Option Nat} {bsA bsT bsL bsH bsF : List Nat} {K : AState -> Prop} {Qx : Exit -> Act -> World -> Prop} {Kx : Act -> World -> Prop}
  (hrun : (execOp act.eval o).run P w = .ok (.enter f cargs.toArray) w) (hr2 : RelB G w R N act.tmps.toList s2 (.tuple cargs.toArray) (.tup args) bsA bsT bsL bsH bsF) (hno : noLocL args = true) (hd : act.defers = D)
  (h : ACalls P G f args s2.heap s2.next (fun v heap n => bndV v -> bndO heap -> K (({ s2 with heap := heap, next := n } : AState).put o.dst v)))
  (hK : ∀ (v : AVal) (cv : Value) (heap : List (Name × AObj)) (n : Nat) (w' : World) (R' : Own) (N' : Name -> Option Nat) (bsT' bsH' : List Nat), K (({ s2 with heap := heap, next := n } : AState).put o.dst v) ->
   RelB G w' R' N' (act.put o.dst cv).tmps.toList (({ s2 with heap := heap, next := n } : AState).put o.dst v) undef .undef [] bsT' bsL bsH' bsF -> Keep w R w' R' (bsL ++ bsF) -> (∀ m c, N m = some c -> N' m = some c) -> (∀ i, N' (.loc i) = N (.loc i)) -> Kx (act.put o.dst cv) w') :
  o.wp P act w Kx Qx := by
 unfold Oper.wp
 rw [hrun, Oper.upon_enter]
 have hv := hr2.val
 simp only [RepV] at hv
 obtain ⟨cs0, ec, hargs⟩ := hv
 simp at ec
 subst ec
 have hndA : (bsA ++ (bsH ++ (bsT ++ (bsL ++ bsF)))).Nodup := by
  have hp : (bsA ++ (bsH ++ (bsT ++ (bsL ++ bsF)))).Perm (bsA ++ (bsT ++ (bsL ++ (bsH ++ bsF)))) := by
   rw [List.perm_iff_count]; intro q; simp only [List.count_append]; omega
  exact hp.nodup_iff.2 hr2.nodup
 refine (h w R N cargs bsA bsH (bsT ++ (bsL ++ bsF)) (hargs.reN hno (fun _ => rfl)) hr2.heap hndA hr2.next hr2.glob ?_).mono ?_
 ·intro b hb
  simp at hb
  rcases hb with h | h | h
  ·exact hr2.tmps.lt b h
  ·exact hr2.locs.lt b h
  exact hr2.frame b h
 rintro e w' ⟨v, cv, heap', next', R'', N'', bsV, bsH'', rfl, hQ, hv2, hh2, hnd2, hnx2, hk3, hN3⟩
 -- the caller's names beside the callee's
 let N3 : Name -> Option Nat := fun m => match m with | .loc i => N (.loc i) | .out o => N'' (.out o)
 have hext : ∀ m c, N m = some c -> N3 m = some c := fun m c hm => by cases m with | loc i => exact hm | out o => exact hN3 o c hm
 have hkT : Keep w R w' R'' bsT := hk3.sub (by intro b hb; simp [hb])
 have hkL : Keep w R w' R'' bsL := hk3.sub (by intro b hb; simp [hb])
 have hkF : Keep w R w' R'' (bsL ++ bsF) := hk3.sub (by intro b hb; simp at hb; rcases hb with h | h <;> simp [h])
 have ht3 : RepVs w' R'' N3 s2.tmps act.tmps.toList bsT := (hr2.tmps.keep hkT).ext hext
 have hl3 : RepObjs w' R'' N3 s2.locs bsL := (hr2.locs.keep hkL).ext hext
 have hh3 : RepObjs w' R'' (outs N3) heap' bsH'' := hh2.outs_eq (N := N'') (N' := N3) (fun _ => rfl)
 have hv3 : RepV w' R'' N3 v cv bsV := hv2.reN hv2.noLoc_of_outs (fun _ => rfl)
 have hnd3 : (bsV ++ (bsT ++ (bsL ++ (bsH'' ++ bsF)))).Nodup := by
  have hp : (bsV ++ (bsT ++ (bsL ++ (bsH'' ++ bsF)))).Perm (bsV ++ (bsH'' ++ (bsT ++ (bsL ++ bsF)))) := by
   rw [List.perm_iff_count]; intro q; simp only [List.count_append]; omega
  exact hp.nodup_iff.2 hnd2
 let s3 : AState := { s2 with heap := heap', next := next' }
 obtain ⟨bsT2, hp1, hp2⟩ := put_state (s := s3) o.dst ht3 hv3 hnd3
 obtain ⟨q1, q2, q3⟩ := put_locs s3 o.dst v
 obtain ⟨pa1, pa2⟩ := put_act act o.dst cv
 have hr4 : RelB G w' R'' N3 (act.put o.dst cv).tmps.toList (s3.put o.dst v) undef .undef [] bsT2 bsL bsH'' bsF :=
  ⟨repV_undef _, by rw [pa1]; exact hp1, by rw [q1]; exact hl3, by rw [q2]; exact hh3, by simpa using hp2, by rw [q3]; exact hnx2,
   fun g cs hg => (hr2.glob g cs hg).step hk3.step, fun b hb => Nat.lt_of_lt_of_le (hr2.frame b hb) hk3.step.size⟩
 exact hK v cv heap' next' w' R'' N3 bsT2 bsH'' (hQ hv2.bnd hh2.bnd) hr4 hkF hext (fun _ => rfl)
/-- A call that is handed no object. -/
theorem pure_call_sound {f : FuncId} {args : List AVal} {s2 : AState} {o : Oper} {cargs : List Value} {act : Act} {w : World} {R : Own} {N : Name -> Option Nat} {bsA bsT bsL bsH bsF : List Nat} {K : AState -> Prop} {Qx : Exit -> Act -> World -> Prop} {Kx : Act -> World -> Prop}
  (hrun : (execOp act.eval o).run P w = .ok (.enter f cargs.toArray) w) (hr2 : RelB G w R N act.tmps.toList s2 (.tuple cargs.toArray) (.tup args) bsA bsT bsL bsH bsF) (hno : noLocL args = true) (hd : act.defers = D)
  (h : ACalls P G f args [] s2.next (fun v heap n => bndV v -> bndO heap -> heap = [] /\ K (({ s2 with next := n } : AState).put o.dst v)))
  (hK : ∀ (v : AVal) (cv : Value) (n : Nat) (w' : World) (R' : Own) (N' : Name -> Option Nat) (bsT' : List Nat), K (({ s2 with next := n } : AState).put o.dst v) ->
   RelB G w' R' N' (act.put o.dst cv).tmps.toList (({ s2 with next := n } : AState).put o.dst v) undef .undef [] bsT' bsL bsH bsF -> Keep w R w' R' (bsL ++ (bsH ++ bsF)) -> (∀ m c, N m = some c -> N' m = some c) -> (∀ i, N' (.loc i) = N (.loc i)) -> Kx (act.put o.dst cv) w') :
  o.wp P act w Kx Qx := by
 unfold Oper.wp
 rw [hrun, Oper.upon_enter]
 have hv := hr2.val
 simp only [RepV] at hv
 obtain ⟨cs0, ec, hargs⟩ := hv
 simp at ec
 subst ec
 have hndA : (bsA ++ ([] ++ (bsH ++ (bsT ++ (bsL ++ bsF))))).Nodup := by
  have hp : (bsA ++ ([] ++ (bsH ++ (bsT ++ (bsL ++ bsF))))).Perm (bsA ++ (bsT ++ (bsL ++ (bsH ++ bsF)))) := by
   rw [List.perm_iff_count]; intro q; simp only [List.count_append, List.count_nil]; omega
  exact hp.nodup_iff.2 hr2.nodup
 refine (h w R N cargs bsA [] (bsH ++ (bsT ++ (bsL ++ bsF))) (hargs.reN hno (fun _ => rfl)) rfl hndA hr2.next hr2.glob ?_).mono ?_
 ·intro b hb
  simp at hb
  rcases hb with h | h | h | h
  ·exact hr2.heap.lt b h
  ·exact hr2.tmps.lt b h
  ·exact hr2.locs.lt b h
  exact hr2.frame b h
 rintro e w' ⟨v, cv, heap', next', R'', N'', bsV, bsH'', rfl, hQ, hv2, hh2, hnd2, hnx2, hk3, hN3⟩
 obtain ⟨rfl, hQ2⟩ := hQ hv2.bnd hh2.bnd
 obtain rfl : bsH'' = [] := hh2
 let N3 : Name -> Option Nat := fun m => match m with | .loc i => N (.loc i) | .out o => N'' (.out o)
 have hext : ∀ m c, N m = some c -> N3 m = some c := fun m c hm => by cases m with | loc i => exact hm | out o => exact hN3 o c hm
 have hkT : Keep w R w' R'' bsT := hk3.sub (by intro b hb; simp [hb])
 have hkL : Keep w R w' R'' bsL := hk3.sub (by intro b hb; simp [hb])
 have hkH : Keep w R w' R'' bsH := hk3.sub (by intro b hb; simp [hb])
 have hkF : Keep w R w' R'' (bsL ++ (bsH ++ bsF)) := hk3.sub (by intro b hb; simp at hb; rcases hb with h | h | h <;> simp [h])
 have ht3 : RepVs w' R'' N3 s2.tmps act.tmps.toList bsT := (hr2.tmps.keep hkT).ext hext
 have hl3 : RepObjs w' R'' N3 s2.locs bsL := (hr2.locs.keep hkL).ext hext
 have hh3 : RepObjs w' R'' (outs N3) s2.heap bsH := (hr2.heap.keep hkH).ext (fun m c hm => by
  cases m with
  | loc i => simp [outs] at hm
  | out k => simp only [outs] at hm ⊢; exact hext _ _ hm)
 have hv3 : RepV w' R'' N3 v cv bsV := hv2.reN hv2.noLoc_of_outs (fun _ => rfl)
 have hnd3 : (bsV ++ (bsT ++ (bsL ++ (bsH ++ bsF)))).Nodup := by
  have hp : (bsV ++ (bsT ++ (bsL ++ (bsH ++ bsF)))).Perm (bsV ++ ([] ++ (bsH ++ (bsT ++ (bsL ++ bsF))))) := by
   rw [List.perm_iff_count]; intro q; simp only [List.count_append, List.count_nil]; omega
  exact hp.nodup_iff.2 hnd2
 let s3 : AState := { s2 with next := next' }
 obtain ⟨bsT2, hp1, hp2⟩ := put_state (s := s3) o.dst ht3 hv3 hnd3
 obtain ⟨q1, q2, q3⟩ := put_locs s3 o.dst v
 obtain ⟨pa1, pa2⟩ := put_act act o.dst cv
 have hr4 : RelB G w' R'' N3 (act.put o.dst cv).tmps.toList (s3.put o.dst v) undef .undef [] bsT2 bsL bsH bsF :=
  ⟨repV_undef _, by rw [pa1]; exact hp1, by rw [q1]; exact hl3, by rw [q2]; exact hh3, by simpa using hp2, by rw [q3]; exact hnx2,
   fun g cs hg => (hr2.glob g cs hg).step hk3.step, fun b hb => Nat.lt_of_lt_of_le (hr2.frame b hb) hk3.step.size⟩
 exact hK v cv next' w' R'' N3 bsT2 hQ2 hr4 hkF hext (fun _ => rfl)
/-- A guard that says no. -/
theorem unwanted_rel {s : AState} {act : Act} {w : World} {R : Own} {N : Name -> Option Nat} {bsT bsL bsH bsF : List Nat} (hr : RelB G w R N act.tmps.toList s undef .undef [] bsT bsL bsH bsF) (dst : Option Tmp) :
  ∃ bsT', RelB G w R N (act.put dst undef).tmps.toList (s.put dst (.tup [])) undef .undef [] bsT' bsL bsH bsF := by
 obtain ⟨bsT', hp1, hp2⟩ := put_state (a := .tup []) (v := undef) (b := []) dst hr.tmps (by simp [RepV, RepVs, undef]) (by simpa using hr.nodup)
 obtain ⟨q1, q2, q3⟩ := put_locs s dst (.tup [])
 exact ⟨bsT', repV_undef _, by rw [(put_act act dst undef).1]; exact hp1, by rw [q1]; exact hr.locs, by rw [q2]; exact hr.heap, by simpa using hp2, by rw [q3]; exact hr.next, hr.glob, hr.frame⟩
theorem aone_sound (hE : E.Ok P) (ops : Array Oper) {i : Nat} {o : Oper} (hi : ops[i]? = some o) {K : AState -> Prop} {s : AState} (h : aone (ACalls P G) E G H ops.toList o K s) {Qx : Exit -> Act -> World -> Prop}
  {w : World} {R : Own} {N : Name -> Option Nat} {act : Act} {bsT bsL bsH bsF : List Nat} (hr : RelB G w R N act.tmps.toList s undef .undef [] bsT bsL bsH bsF) (hd : act.defers = D) :
  wpOpIn (rdF rd) 1 P ops Qx i (Aft G D K w R N bsF) act w := by
 unfold wpOpIn
 simp only [hi]
 unfold aone at h
 split at h
 ·exact h.elim
 rename_i b hw
 have hwt := wanted_sound hr.tmps hw
 rw [hwt]
 split at h
 ·rename_i hb
  rw [if_pos hb]
  refine oper_in ?_ rd ?_
  ·cases ho : o.op <;> first | rfl | (rw [ho] at h; simp [isCall, astep, aop, ho] at h)
  split at h
  ·rename_i c hc
   have hop := isCall_op hc
   split at h
   ·rename_i f args s2 hcal
    obtain ⟨cargs, hrun, R', N', bsA, bsT', bsL', bsH', hr2, hk2, hN2, hno, _⟩ := acallee_sound hE hcal hr o hop
    refine call_sound hrun hr2 hno hd h ?_
    intro v cv heap n w' R'' N'' bsT2 bsH2 hK hr4 hk3 hext _
    exact ⟨_, R'', N'', bsT2, bsL', bsH2, hK, hr4, by rw [(put_act act o.dst cv).2]; exact hd, hk2.trans (hk3.sub (by intro b hb; simp [hb])), fun o b h => hext _ _ (hN2 o b h)⟩
   exact h.elim
  split at h
  ·rename_i s' hst
   obtain ⟨cv, w', hran, ⟨R', N', bsT', bsL', bsH', hr', hk', hN', _⟩, _⟩ := astep_sound hE hst hr
   exact ran_wp hran ⟨s', R', N', bsT', bsL', bsH', h, hr', by rw [(put_act act o.dst cv).2]; exact hd, hk', fun o b h => hN' _ _ h⟩
  exact h.elim
 rename_i hb
 rw [if_neg hb]
 obtain ⟨bsT', hr'⟩ := unwanted_rel hr o.dst
 exact ⟨fun _ _ => trivial, _, R, N, bsT', bsL, bsH, h, hr', by rw [(put_act act o.dst undef).2]; exact hd, keep_refl _, fun _ _ h => h⟩
theorem aops_sound (hE : E.Ok P) (ops : Array Oper) (Q : AState -> Prop) (Kx : Exit -> Act -> World -> Prop) :
  ∀ (rest : List Oper) (k : Nat) (s : AState), ops.toList.drop k = rest -> aops (ACalls P G) E G H ops.toList Q rest s -> ∀ (w : World) (R : Own) (N : Name -> Option Nat) (act : Act) (bsT bsL bsH bsF : List Nat),
   RelB G w R N act.tmps.toList s undef .undef [] bsT bsL bsH bsF -> act.defers = D -> (∀ a' w', Aft G D Q w R N bsF a' w' -> Kx .normal a' w') -> wpOpsIn (rdF rd) 1 P ops Kx (List.range' k rest.length) act w
 | [], k, s, _, h, w, R, N, act, bsT, bsL, bsH, bsF, hr, hd, hK => by
  simp only [List.length_nil, List.range'_zero, wpOpsIn]
  exact hK _ _ ⟨s, R, N, bsT, bsL, bsH, h, hr, hd, keep_refl _, fun _ _ h => h⟩
 | o :: rest, k, s, hdrop, h, w, R, N, act, bsT, bsL, bsH, bsF, hr, hd, hK => by
  have hok : ops[k]? = some o := by
   have := List.getElem?_drop (xs := ops.toList) (i := k) (j := 0)
   rw [hdrop] at this
   simpa using this.symm
  have hdrop' : ops.toList.drop (k + 1) = rest := by rw [← List.drop_drop, hdrop]; rfl
  simp only [aops, askK_eq] at h
  simp only [List.length_cons, List.range'_succ]
  rw [wpOpsIn_cons]
  refine wpOpIn_mono ?_ (aone_sound hE ops hok (K := aops (ACalls P G) E G H ops.toList Q rest) h hr hd)
  rintro a' w' ⟨s', R', N', bsT', bsL', bsH', hq, hr', hd', hk', hN'⟩
  exact aops_sound hE ops Q Kx rest (k + 1) s' hdrop' hq w' R' N' a' bsT' bsL' bsH' bsF hr' hd' (fun a2 w2 h2 => hK a2 w2 (h2.trans hk' hN'))
theorem acode_region (hE : E.Ok P) {id : Nat} {ops : Array Oper} {Q : Exit -> AState -> Prop} {s : AState} (h : aops (ACalls P G) E G H ops.toList (Q .normal) ops.toList s) : ACode P G (.region id ops false) Q s := by
 intro w R N act bsT bsL bsH bsF hr D hd
 refine wpR_region fun rd => ?_
 rw [List.range_eq_range', ← Array.length_toList]
 exact aops_sound hE ops (Q .normal) _ ops.toList 0 s (by simp) h w R N act bsT bsL bsH bsF hr hd (fun _ _ h => h)
/-! ### Two that may come up in either order -/
def dropT (T : List AVal) (mv : Option Nat) (xs : List Operand) : List AVal :=
 match mv with
 | none => T
 | some k => match xs[k]? with
  | some (.tmp t) => T.set t (unOwn (getT T t))
  | _ => T
theorem dropOwn_eq (s : AState) (mv : Option Nat) (xs : List Operand) : dropOwn s mv xs = { s with tmps := dropT s.tmps mv xs } := by
 unfold dropOwn dropT
 cases mv with
 | none => rfl
 | some k =>
  dsimp only
  cases xs[k]? with
  | none => rfl
  | some x => cases x <;> rfl
theorem dropT_cases (T : List AVal) (mv : Option Nat) (xs : List Operand) : (∃ t, xs.any (isTmp t) = true /\ ∀ T', dropT T' mv xs = T'.set t (unOwn (getT T' t))) ∨ ∀ T', dropT T' mv xs = T' := by
 unfold dropT
 cases mv with
 | none => exact .inr fun _ => rfl
 | some k =>
  dsimp only
  cases hx : xs[k]? with
  | none => exact .inr fun _ => rfl
  | some x =>
   cases x with
   | tmp t =>
    refine .inl ⟨t, ?_, fun _ => rfl⟩
    rw [List.any_eq_true]
    exact ⟨.tmp t, List.mem_of_getElem? hx, Nat.beq_refl t⟩
   | _ => exact .inr fun _ => rfl
theorem aeval_tmps (s : AState) (T : List AVal) {x : Operand} (h : ∀ t, isTmp t x = true -> getT T t = getT s.tmps t) : aeval G { s with tmps := T } x = aeval G s x := by
 cases x with
 | tmp t => exact h t (Nat.beq_refl t)
 | _ => rfl
theorem evalArgs_tmps (s : AState) (T : List AVal) (mv : Option Nat) : ∀ (k : Nat) {xs : List Operand}, (∀ t, xs.any (isTmp t) = true -> getT T t = getT s.tmps t) -> evalArgs G { s with tmps := T } mv k xs = evalArgs G s mv k xs
 | _, [], _ => rfl
 | k, x :: r, h => by
  simp only [evalArgs]
  rw [aeval_tmps s T (fun t ht => h t (by simp [ht])), evalArgs_tmps s T mv (k + 1) (fun t ht => h t (by simp [ht]))]
theorem obj_tmps (s : AState) (T : List AVal) (n : Name) : AState.obj { s with tmps := T } n = s.obj n := by cases n <;> rfl
theorem lookedAt_tmps (s : AState) (T : List AVal) (o : Op) (vals : List AVal) : lookedAt { s with tmps := T } o vals = lookedAt s o vals := by
 unfold lookedAt
 cases looks o vals with
 | none => rfl
 | some n => exact obj_tmps s T n
theorem astepOut_tmps {o : Oper} (hd : o.dst = none) {n : Option Name} {s s' : AState} {out : Out} (T : List AVal) (h : astepOut o n s out = some s') : astepOut o n { s with tmps := T } out = some { s' with tmps := T } /\ s'.tmps = s.tmps := by
 unfold astepOut at h ⊢
 cases he : out.eff with
 | keep => rw [he] at h; simp only [hd, AState.put] at h ⊢; cases h; exact ⟨rfl, rfl⟩
 | set ob' =>
  rw [he] at h
  simp only [hd, AState.put] at h ⊢
  cases n with
  | none => simp at h
  | some n =>
   cases n with
   | loc i => simp only [AState.setObj] at h ⊢; cases h; exact ⟨rfl, rfl⟩
   | out k =>
    simp only [AState.setObj] at h ⊢
    by_cases hn : noLocO ob' = true
    ·simp only [hn, if_true] at h ⊢; cases h; exact ⟨rfl, rfl⟩
    simp [hn] at h
 | new ob' => rw [he] at h; simp [hd] at h
 | row ob' sz len => rw [he] at h; simp [hd] at h
 | fresh ob' =>
  rw [he] at h
  simp only [hd, AState.put] at h ⊢
  by_cases hn : noLocO ob' = true
  ·simp only [hn, if_true] at h ⊢; cases h; exact ⟨rfl, rfl⟩
  simp [hn] at h
 | grow ob' sz len =>
  rw [he] at h
  simp only [hd, AState.put] at h ⊢
  cases n with
  | none =>
   by_cases hn : noLocO ob' = true
   ·simp only [hn, if_true] at h ⊢; cases h; exact ⟨rfl, rfl⟩
   simp [hn] at h
  | some n =>
   cases n with
   | loc i =>
    by_cases hn : noLocO ob' = true
    ·simp only [hn, if_true] at h ⊢; cases h; exact ⟨rfl, rfl⟩
    simp [hn] at h
   | out k =>
    by_cases hn : noLocO ob' = true
    ·simp only [hn, if_true] at h ⊢; cases h; exact ⟨rfl, rfl⟩
    simp [hn] at h
/-- What lands in a slot, if there is one. -/
def dstSet (T : List AVal) (d : Option Tmp) (v : AVal) : List AVal := match d with | some d => T.set d v | none => T
def eff0 : Eff -> Bool
 | .new _ => false
 | .row _ _ _ => false
 | _ => true
theorem put_dst (s : AState) (d : Option Tmp) (v : AVal) : s.put d v = { s with tmps := dstSet s.tmps d v } := by cases d <;> rfl
theorem astepOut_tmps2 {o : Oper} {n : Option Name} {s s' : AState} {out : Out} (hd : o.dst = none ∨ eff0 out.eff = true) (h : astepOut o n s out = some s') :
  ∃ v, (∀ T, astepOut o n { s with tmps := T } out = some { s' with tmps := dstSet T o.dst v }) /\ s'.tmps = dstSet s.tmps o.dst v := by
 rcases hd with hd | hd
 ·refine ⟨.undef, fun T => ?_, ?_⟩
  ·rw [hd]; exact (astepOut_tmps hd T h).1
  rw [hd]; exact (astepOut_tmps hd s.tmps h).2
 unfold astepOut at h ⊢
 cases he : out.eff with
 | new ob' => rw [he] at hd; simp [eff0] at hd
 | row ob' sz len => rw [he] at hd; simp [eff0] at hd
 | keep =>
  rw [he] at h
  simp only [put_dst] at h ⊢
  cases h
  exact ⟨out.val, fun T => rfl, rfl⟩
 | set ob' =>
  rw [he] at h
  simp only [put_dst] at h ⊢
  cases n with
  | none => simp at h
  | some n =>
   cases n with
   | loc i => simp only [AState.setObj] at h ⊢; cases h; exact ⟨out.val, fun T => rfl, rfl⟩
   | out k =>
    simp only [AState.setObj] at h ⊢
    by_cases hn : noLocO ob' = true
    ·simp only [hn, if_true] at h ⊢; cases h; exact ⟨out.val, fun T => rfl, rfl⟩
    simp [hn] at h
 | fresh ob' =>
  rw [he] at h
  simp only [put_dst] at h ⊢
  by_cases hn : noLocO ob' = true
  ·simp only [hn, if_true] at h ⊢; cases h; exact ⟨_, fun T => rfl, rfl⟩
  simp [hn] at h
 | grow ob' sz len =>
  rw [he] at h
  simp only [put_dst] at h ⊢
  by_cases hn : noLocO ob' = true
  ·simp only [hn, if_true] at h ⊢
   cases n with
   | none => cases h; exact ⟨_, fun T => rfl, rfl⟩
   | some n => cases n with
    | loc k => cases h; exact ⟨_, fun T => rfl, rfl⟩
    | out k => cases h; exact ⟨_, fun T => rfl, rfl⟩
  simp only [hn] at h
  cases n with
  | none => simp at h
  | some n => cases n <;> simp at h
theorem growRow_eff {i : TI} {len : Nat} {cs : List AVal} {x : AVal} {out : Out} (h : growRow E i len cs x = some out) : eff0 out.eff = true := by
 unfold growRow at h
 repeat' split at h
 all_goals first
  |(simp at h; done)
  |(cases h; rfl)
theorem app_eff {take : Bool} {op : Op} (hop : isApp op = true) {vals : List AVal} {ob : Option AObj} {out : Out} (h : aop E take op vals ob = some out) : eff0 out.eff = true := by
 unfold isApp at hop
 split at hop
 ·rename_i args tys
  simp only [aop, aBuiltin] at h
  split at h
  ·simp at h
  ·split at h
   ·split at h
    ·unfold aAppend at h
     repeat' split at h
     all_goals first
      |(simp at h; done)
      |exact growRow_eff h
      |(cases h; rfl)
    ·unfold aAppendStr at h
     repeat' split at h
     all_goals first
      |(simp at h; done)
      |(cases h; rfl)
   simp at h
 simp at hop
/-- A step that writes no slot, or is an append, on other slots. -/
theorem astep_tmps {q take : Bool} {o : Oper} (hd : o.dst = none ∨ isApp o.op = true) {s s' : AState} (h : astep E G q take o s = some s') :
  ∃ v, (∀ T : List AVal, (∀ t, (opsL o.op).any (isTmp t) = true -> getT T t = getT s.tmps t) -> astep E G q take o { s with tmps := T } = some { s' with tmps := dstSet (dropT T (mvQ q o.op) (opsL o.op)) o.dst v }) ∧
   s'.tmps = dstSet (dropT s.tmps (mvQ q o.op) (opsL o.op)) o.dst v := by
 unfold astep at h ⊢
 split at h
 ·simp at h
 rename_i out ho
 rw [dropOwn_eq] at h
 obtain ⟨v, h1, h2⟩ := astepOut_tmps2 (hd.imp id (fun hd => app_eff hd ho)) h
 refine ⟨v, fun T hT => ?_, h2⟩
 rw [evalArgs_tmps s T (mvQ q o.op) 0 hT, lookedAt_tmps, ho]
 dsimp only
 rw [dropOwn_eq]
 exact h1 _
/-- A step that reads a slot and writes one. -/
theorem astep_slot {q take : Bool} {o : Oper} {x d : Tmp} (hx : opsL o.op = [.tmp x]) (hl : ∀ vals, looks o.op vals = none) (hk : ∀ vals ob out, aop E take o.op vals ob = some out -> out.eff = .keep) (hd : o.dst = some d) {s s' : AState}
  (h : astep E G q take o s = some s') :
  ∃ val, s' = { s with tmps := (dropT s.tmps (mvQ q o.op) [.tmp x]).set d val } /\ ∀ s2 : AState, getT s2.tmps x = getT s.tmps x -> astep E G q take o s2 = some { s2 with tmps := (dropT s2.tmps (mvQ q o.op) [.tmp x]).set d val } := by
 unfold astep at h
 split at h
 ·simp at h
 rename_i out ho
 have hke := hk _ _ _ ho
 refine ⟨out.val, ?_, ?_⟩
 ·unfold astepOut at h
  rw [hke, dropOwn_eq, hd, hx] at h
  simp only [AState.put] at h
  cases h
  rfl
 intro s2 h2
 have hv : evalArgs G s2 (mvQ q o.op) 0 (opsL o.op) = evalArgs G s (mvQ q o.op) 0 (opsL o.op) := by
  rw [hx]
  simp only [evalArgs, aeval, h2]
 unfold astep
 have hla : ∀ s3 : AState, ∀ vals, lookedAt s3 o.op vals = none := fun s3 vals => by unfold lookedAt; rw [hl]
 rw [hla] at ho
 rw [hv, hla, ho]
 dsimp only
 unfold astepOut
 rw [hke, dropOwn_eq, hd, hx]
 rfl
theorem keepK_move {take : Bool} {x : Operand} (vals : List AVal) (ob : Option AObj) (out : Out) (h : aop E take (.move x) vals ob = some out) : out.eff = .keep := by
 simp only [aop, aMove] at h
 split at h
 ·cases h; rfl
 simp at h
theorem keepK_extract {take : Bool} {x : Operand} {k : Nat} (vals : List AVal) (ob : Option AObj) (out : Out) (h : aop E take (.extract x k) vals ob = some out) : out.eff = .keep := by
 simp only [aop, aExtract] at h
 split at h
 ·split at h
  ·cases h; rfl
  simp at h
 simp at h
theorem slots_swap {T : List AVal} {x d : Tmp} {val : AVal} {mi mj : Option Nat} {xs : List Operand} (hx : xs.any (isTmp x) = false) (hd : xs.any (isTmp d) = false) :
  (dropT (dropT T mj xs) mi [.tmp x]).set d val = dropT ((dropT T mi [.tmp x]).set d val) mj xs := by
 rcases dropT_cases T mj xs with ⟨t, ht, e⟩ | e
 ·have htx : t ≠ x := fun h => by rw [h, hx] at ht; simp at ht
  have htd : t ≠ d := fun h => by rw [h, hd] at ht; simp at ht
  simp only [e]
  rcases dropT_cases T mi [.tmp x] with ⟨u, hu, e2⟩ | e2
  ·have hux : u = x := ((show x = u by simpa [isTmp] using hu)).symm
   subst hux
   simp only [e2]
   rw [getT_set_ne htx, getT_set_ne (Ne.symm htd), getT_set_ne (Ne.symm htx), List.set_comm _ _ htx, List.set_comm _ _ htd]
  simp only [e2]
  rw [getT_set_ne (Ne.symm htd), List.set_comm _ _ htd]
 simp only [e]
theorem drop_get {T : List AVal} {t : Tmp} {mi : Option Nat} {xs : List Operand} (h : xs.any (isTmp t) = false) : getT (dropT T mi xs) t = getT T t := by
 rcases dropT_cases T mi xs with ⟨u, hu, e⟩ | e
 ·rw [e, getT_set_ne (fun h2 => by rw [h2, h] at hu; simp at hu)]
 rw [e]
theorem beqT {x t : Nat} (h : x ≠ t) : [Operand.tmp x].any (isTmp t) = false := by
 cases hb : [Operand.tmp x].any (isTmp t) with
 | false => rfl
 | true => exact absurd (by simpa [isTmp] using hb) h
theorem dropT_set {T : List AVal} {d : Tmp} {a : AVal} {mv : Option Nat} {xs : List Operand} (h : xs.any (isTmp d) = false) : dropT (T.set d a) mv xs = (dropT T mv xs).set d a := by
 rcases dropT_cases T mv xs with ⟨t, ht, e⟩ | e
 ·have htd : t ≠ d := fun h' => by rw [h', h] at ht; simp at ht
  rw [e, e, getT_set_ne (Ne.symm htd), List.set_comm _ _ htd]
 rw [e, e]
theorem dstSet_get {T : List AVal} {dp : Option Tmp} {v : AVal} {x : Tmp} (h : dp ≠ some x) : getT (dstSet T dp v) x = getT T x := by
 cases dp with
 | none => rfl
 | some e => exact getT_set_ne (fun h2 => h (by rw [h2]))
theorem dstSet_set {T : List AVal} {dp : Option Tmp} {v a : AVal} {d : Tmp} (h : dp ≠ some d) : (dstSet T dp v).set d a = dstSet (T.set d a) dp v := by
 cases dp with
 | none => rfl
 | some e => exact List.set_comm _ _ (fun h2 => h (by rw [h2]))
theorem dstSet_drop {T : List AVal} {dp : Option Tmp} {v : AVal} {x : Tmp} {mi : Option Nat} (h : dp ≠ some x) : dropT (dstSet T dp v) mi [.tmp x] = dstSet (dropT T mi [.tmp x]) dp v := by
 cases dp with
 | none => rfl
 | some e => exact dropT_set (beqT (fun h2 => h (by rw [h2])))
theorem astep_swap {q q2 take take2 : Bool} {o p : Oper} {x d : Tmp} (hx : opsL o.op = [.tmp x]) (hl : ∀ vals, looks o.op vals = none) (hk : ∀ vals ob out, aop E take o.op vals ob = some out -> out.eff = .keep) (hd : o.dst = some d) (hp : p.dst = none ∨ isApp p.op = true)
  (h1 : (opsL p.op).any (isTmp x) = false) (h2 : (opsL p.op).any (isTmp d) = false) (hpx : p.dst ≠ some x) (hpd : p.dst ≠ some d) {s s1 s2 : AState} (ho : astep E G q take o s = some s1) (hs : astep E G q2 take2 p s1 = some s2) :
  ∃ s3, astep E G q2 take2 p s = some s3 /\ astep E G q take o s3 = some s2 := by
 obtain ⟨val, rfl, hag⟩ := astep_slot hx hl hk hd ho
 obtain ⟨v, k1, k2⟩ := astep_tmps hp hs
 refine ⟨_, k1 s.tmps (by
  intro t ht
  have htx : x ≠ t := fun h => by rw [← h, h1] at ht; simp at ht
  have htd : d ≠ t := fun h => by rw [← h, h2] at ht; simp at ht
  dsimp only
  rw [getT_set_ne htd, drop_get (beqT htx)]), ?_⟩
 rw [hag _ (by dsimp only; rw [dstSet_get hpx, drop_get h1])]
 dsimp only at k2 ⊢
 rw [dstSet_drop hpx, dstSet_set hpd, slots_swap h1 h2, ← k2]
theorem aone_swap {A : CallsT} {all : List Oper} {o p : Oper} (ha : apartP o p = true) {K : AState -> Prop} {s : AState} (h : aone A E G H all o (aone A E G H all p K) s) : aone A E G H all p (aone A E G H all o K) s := by
 unfold apartP at ha
 simp only [Bool.and_eq_true, Bool.or_eq_true, Option.isNone_iff_eq_none] at ha
 obtain ⟨⟨⟨⟨g1, g2⟩, g3⟩, g4⟩, g5⟩ := ha
 have plain : ∀ (r : Oper) (K : AState -> Prop) (s : AState), r.guard = none -> isCall r.op = none -> (aone A E G H all r K s ↔ ∃ s', astep E G (readOnly H.moves all r) (takeR H all r) r s = some s' /\ K s') := by
  intro r K s hg hc
  unfold aone
  simp only [hg, wantedA, hc, if_true]
  cases astep E G (readOnly H.moves all r) (takeR H all r) r s with
  | none => simp
  | some s' => simp
 have hof : isCall o.op = none /\ ∃ x d, opsL o.op = [.tmp x] /\ (∀ vals, looks o.op vals = none) /\ (∀ vals ob out, aop E (takeR H all o) o.op vals ob = some out -> out.eff = .keep) /\ o.dst = some d /\ (opsL p.op).any (isTmp x) = false /\ (opsL p.op).any (isTmp d) = false /\ p.dst ≠ some x /\ p.dst ≠ some d := by
  split at g5
  ·rename_i x k d e1 e2
   simp only [Bool.and_eq_true, Bool.not_eq_true', bne_iff_ne] at g5
   rw [e1]
   exact ⟨rfl, x, d, rfl, fun _ => rfl, keepK_extract, e2, g5.1.1.1, g5.1.1.2, g5.1.2, g5.2⟩
  ·rename_i x d e1 e2
   simp only [Bool.and_eq_true, Bool.not_eq_true', bne_iff_ne] at g5
   rw [e1]
   exact ⟨rfl, x, d, rfl, fun _ => rfl, keepK_move, e2, g5.1.1.1, g5.1.1.2, g5.1.2, g5.2⟩
  simp at g5
 obtain ⟨hc, x, d, hx, hl, hk, hd, h1, h2, hpx, hpd⟩ := hof
 obtain ⟨s1, e1, h⟩ := (plain o _ _ g1 hc).1 h
 obtain ⟨s2, e2, h⟩ := (plain p _ _ g2 g4).1 h
 obtain ⟨s3, e3, e4⟩ := astep_swap hx hl hk hd g3 h1 h2 hpx hpd e1 e2
 exact (plain p _ _ g2 g4).2 ⟨s3, e3, (plain o _ _ g1 hc).2 ⟨s2, e4, h⟩⟩
/-- The operations behind all that goes ahead. -/
theorem atail_sound (hE : E.Ok P) (ops : Array Oper) (Q : AState -> Prop) (Kx : Exit -> Act -> World -> Prop) :
  ∀ (tail : List Nat) (listed : Array Bool) (fuel : Nat) (s : AState), chkTail ops tail listed = true -> tail.length <= fuel -> aops (ACalls P G) E G H ops.toList Q (pickOps ops.toList tail) s -> ∀ (w : World) (R : Own) (N : Name -> Option Nat) (act : Act) (bsT bsL bsH bsF : List Nat),
   RelB G w R N act.tmps.toList s undef .undef [] bsT bsL bsH bsF -> act.defers = D -> (∀ a' w', Aft G D Q w R N bsF a' w' -> Kx .normal a' w') -> wpAnyIn (rdF rd) 1 P .any ops Kx fuel listed act w
 | [], listed, fuel, s, hc, _, h, w, R, N, act, bsT, bsL, bsH, bsF, hr, hd, hK => by
  simp only [chkTail] at hc
  exact wpAnyIn_done (by simpa using hc) (hK _ _ ⟨s, R, N, bsT, bsL, bsH, h, hr, hd, keep_refl _, fun _ _ h => h⟩) fuel
 | _ :: _, _, 0, _, _, hf, _, _, _, _, _, _, _, _, _, _, _, _ => by simp at hf
 | [i], listed, fuel + 1, s, hc, hf, h, w, R, N, act, bsT, bsL, bsH, bsF, hr, hd, hK => by
  simp only [chkTail, Bool.and_eq_true] at hc
  have hrd : Region.ready .any ops listed = [i] := by simpa using hc.1
  obtain ⟨_, o, ho, _⟩ := mem_ready.1 (show i ∈ Region.ready .any ops listed by rw [hrd]; simp)
  have ho' : ops.toList[i]? = some o := by simpa using ho
  simp only [pickOps, ho', aops, askK_eq] at h
  refine wpAnyIn_all hrd (by simp) ?_
  intro j hj
  simp at hj
  subst hj
  refine wpOpIn_mono ?_ (aone_sound hE ops ho (K := Q) h hr hd)
  rintro a' w' h2
  exact wpAnyIn_done (by have := hc.2; simpa [setL] using this) (hK _ _ h2) fuel
 | i :: j :: r, listed, fuel + 1, s, hc, hf, h, w, R, N, act, bsT, bsL, bsH, bsF, hr, hd, hK => by
  simp only [chkTail, Bool.or_eq_true] at hc
  rcases hc with hc | hc
  ·simp only [Bool.and_eq_true] at hc
   have hrd : Region.ready .any ops listed = [i] := by simpa using hc.1
   obtain ⟨_, o, ho, _⟩ := mem_ready.1 (show i ∈ Region.ready .any ops listed by rw [hrd]; simp)
   have ho' : ops.toList[i]? = some o := by simpa using ho
   rw [pickOps, ho'] at h
   simp only [aops, askK_eq] at h
   refine wpAnyIn_all hrd (by simp) ?_
   intro k hk
   simp at hk
   subst hk
   refine wpOpIn_mono ?_ (aone_sound hE ops ho (K := aops (ACalls P G) E G H ops.toList Q (pickOps ops.toList (j :: r))) h hr hd)
   rintro a' w' ⟨s', R', N', bsT', bsL', bsH', hq, hr', hd', hk', hN'⟩
   exact atail_sound hE ops Q Kx (j :: r) _ fuel s' hc.2 (by simp at hf ⊢; omega) hq w' R' N' a' bsT' bsL' bsH' bsF hr' hd' (fun a2 w2 h2 => hK a2 w2 (h2.trans hk' hN'))
  simp only [pairT, Bool.and_eq_true, Bool.or_eq_true, beq_iff_eq] at hc
  obtain ⟨⟨⟨⟨hrd, hri⟩, hrj⟩, hap⟩, hct⟩ := hc
  split at hap
  ·rename_i o p ho hp
   have ho' : ops.toList[i]? = some o := by simpa using ho
   have hp' : ops.toList[j]? = some p := by simpa using hp
   simp only [pickOps, ho', hp', aops, askK_eq] at h
   have hsw := aone_swap hap h
   have two : ∀ (a b : Nat) (oa ob : Oper), ops[a]? = some oa -> ops[b]? = some ob -> Region.ready .any ops (listed.setIfInBounds a true) = [b] -> chkTail ops r ((listed.setIfInBounds a true).setIfInBounds b true) = true ->
     aone (ACalls P G) E G H ops.toList oa (aone (ACalls P G) E G H ops.toList ob (aops (ACalls P G) E G H ops.toList Q (pickOps ops.toList r))) s ->
     wpOpIn (rdF rd) 1 P ops Kx a (wpAnyIn (rdF rd) 1 P .any ops Kx fuel (listed.setIfInBounds a true)) act w := by
    intro a b oa ob hoa hob hb hcr h
    refine wpOpIn_mono ?_ (aone_sound hE ops hoa h hr hd)
    rintro a' w' ⟨s', R', N', bsT', bsL', bsH', hq, hr', hd', hk', hN'⟩
    cases fuel with
    | zero => simp at hf
    | succ fuel =>
     refine wpAnyIn_all hb (by simp) ?_
     intro k hk
     simp at hk
     subst hk
     refine wpOpIn_mono ?_ (aone_sound hE ops hob hq hr' hd')
     rintro a2 w2 ⟨s2, R2, N2, bsT2, bsL2, bsH2, hq2, hr2, hd2, hk2, hN2⟩
     exact atail_sound hE ops Q Kx r _ fuel s2 hcr (by simp at hf; omega) hq2 w2 R2 N2 a2 bsT2 bsL2 bsH2 bsF hr2 hd2 (fun a3 w3 h3 => hK a3 w3 ((h3.trans hk2 hN2).trans hk' hN'))
   have hi : wpOpIn (rdF rd) 1 P ops Kx i (wpAnyIn (rdF rd) 1 P .any ops Kx fuel (listed.setIfInBounds i true)) act w := two i j o p ho hp hri hct h
   have hcm : (listed.setIfInBounds j true).setIfInBounds i true = (listed.setIfInBounds i true).setIfInBounds j true := by
    by_cases hij : i = j
    ·subst hij; rfl
    exact Array.setIfInBounds_comm _ _ (Ne.symm hij)
   have hj : wpOpIn (rdF rd) 1 P ops Kx j (wpAnyIn (rdF rd) 1 P .any ops Kx fuel (listed.setIfInBounds j true)) act w := two j i p o hp ho hrj (by rw [hcm]; exact hct) hsw
   rcases hrd with hrd | hrd
   ·refine wpAnyIn_all hrd (by simp) ?_
    intro k hk
    simp at hk
    rcases hk with rfl | rfl
    ·exact hi
    exact hj
   refine wpAnyIn_all hrd (by simp) ?_
   intro k hk
   simp at hk
   rcases hk with rfl | rfl
   ·exact hj
   exact hi
  simp at hap
end
end Go.Tp

namespace Go.Tp
section
variable {P : Program} {E : TEnv} {G : Globs} {H : Hints}
/-! ### One step against another -/
variable (P E G H) in
/-- An operation of the region, by its kind. -/
def opC (ops : Array Oper) (h : RHint) (i : Nat) (K : AState -> Prop) (s : AState) : Prop :=
 ∃ (lone : Bool) (o : Oper), (i, lone) ∈ h.pre /\ ops[i]? = some o /\ (if lone = true then opL (ACalls P G) E G H (quietHeap H ops.toList h.pre) h.tk ops.toList o K s else ∃ a, stepQ E G (quietHeap H ops.toList h.pre || quietAt H ops.toList h.pre i) ops.toList o s = some a /\ K (s.put o.dst a))
theorem opL_mono {fh : Bool} {tk : List Nat} {all : List Oper} {o : Oper} {K K' : AState -> Prop} {s : AState} (hk : ∀ s, K s -> K' s) (h : opL (ACalls P G) E G H fh tk all o K s) : opL (ACalls P G) E G H fh tk all o K' s := by
 unfold opL at h ⊢
 split
 ·rename_i hw; simp [hw] at h
 rename_i b hw
 simp only [hw] at h
 split
 ·rename_i hb
  simp only [hb, if_true] at h
  split
  ·rename_i c hc
   simp only [hc] at h
   split
   ·rename_i f args s2 ha
    simp only [ha] at h
    cases hpu : isPure H o with
    | true => rw [hpu] at h; exact h.mono fun v heap n hq h1 h2 => ⟨(hq h1 h2).1, hk _ (hq h1 h2).2⟩
    | false => rw [hpu] at h; exact h.mono fun v heap n hq h1 h2 => ⟨(hq h1 h2).1, hk _ (hq h1 h2).2⟩
   rename_i ha
   simp [ha] at h
  rename_i hc
  simp only [hc] at h
  split
  ·rename_i t ht
   simp only [ht] at h
   split
   ·rename_i s1 hs1
    simp only [hs1] at h
    split
    ·rename_i s' hs'
     simp only [hs'] at h
     exact hk _ h
    rename_i hs'; simp [hs'] at h
   rename_i hs1; simp [hs1] at h
  rename_i ht
  simp only [ht] at h
  split
  ·rename_i hst
   simp only [hst] at h
   split
   ·rename_i s' hs'
    simp only [hs'] at h
    exact hk _ h
   rename_i hs'; simp [hs'] at h
  rename_i hst
  simp only [hst] at h
  split
  ·rename_i a ha
   simp only [ha] at h
   exact hk _ h
  rename_i ha; simp [ha] at h
 rename_i hb
 simp only [hb] at h
 exact hk _ h
theorem opC_mono {ops : Array Oper} {h : RHint} {i : Nat} {K K' : AState -> Prop} {s : AState} (hk : ∀ s, K s -> K' s) (hs : opC P E G H ops h i K s) : opC P E G H ops h i K' s := by
 obtain ⟨lone, o, h1, h2, h3⟩ := hs
 refine ⟨lone, o, h1, h2, ?_⟩
 split
 ·rename_i hl
  rw [if_pos hl] at h3
  exact opL_mono hk h3
 rename_i hl
 rw [if_neg hl] at h3
 obtain ⟨a, h4, h5⟩ := h3
 exact ⟨a, h4, hk _ h5⟩
theorem quietHeap_false {all : List Oper} {pre : List (Nat × Bool)} : ∀ {j : Nat} {o : Oper} {c : Call}, (j, true) ∈ pre -> all[j]? = some o -> isCall o.op = some c -> isPure H o = false -> quietHeap H all pre = false := by
 induction pre with
 | nil => intro j o c h; simp at h
 | cons p r ih =>
  intro j o c h ho hc hpu
  obtain ⟨k, l⟩ := p
  simp only [quietHeap]
  rcases List.mem_cons.1 h with h | h
  ·simp at h; obtain ⟨rfl, rfl⟩ := h; rw [ho]; simp [hc, hpu]
  rw [ih h ho hc hpu]; simp
/-- A store and a copy from slot to slot, in either order. -/
theorem store_swap {fh q take : Bool} {all : List Oper} {oi oj : Oper} {a : AVal} (ha : apartP oi oj = true) {s s2 : AState} (hq : stepQ E G fh all oi s = some a) (hs : astep E G q take oj (s.put oi.dst a) = some s2) :
  ∃ s3, astep E G q take oj s = some s3 /\ s3.put oi.dst a = s2 /\ stepQ E G fh all oi s3 = some a := by
 unfold apartP at ha
 simp only [Bool.and_eq_true, Bool.or_eq_true, Option.isNone_iff_eq_none] at ha
 obtain ⟨⟨⟨⟨g1, _⟩, g3⟩, _⟩, g5⟩ := ha
 have hof : ∃ x d, opsL oi.op = [.tmp x] /\ oi.dst = some d /\ isCall oi.op = none /\ isAlloc oi.op = false /\ (∀ vals, looks oi.op vals = none) /\ (opsL oj.op).any (isTmp x) = false /\ (opsL oj.op).any (isTmp d) = false /\ oj.dst ≠ some x /\ oj.dst ≠ some d := by
  split at g5
  ·rename_i y k d' e1 e2
   simp only [Bool.and_eq_true, Bool.not_eq_true', bne_iff_ne] at g5
   exact ⟨y, d', by rw [e1]; rfl, e2, by rw [e1]; rfl, by rw [e1]; rfl, fun _ => by rw [e1]; rfl, g5.1.1.1, g5.1.1.2, g5.1.2, g5.2⟩
  ·rename_i y d' e1 e2
   simp only [Bool.and_eq_true, Bool.not_eq_true', bne_iff_ne] at g5
   exact ⟨y, d', by rw [e1]; rfl, e2, by rw [e1]; rfl, by rw [e1]; rfl, fun _ => by rw [e1]; rfl, g5.1.1.1, g5.1.1.2, g5.1.2, g5.2⟩
  simp at g5
 obtain ⟨x, d, hx, hd, hc, hal, hl, h1, h2, hpx, hpd⟩ := hof
 rw [hd] at hs ⊢
 obtain ⟨v, k1, k2⟩ := astep_tmps g3 hs
 have k1 := k1 s.tmps (by
  intro t ht
  have htd : d ≠ t := fun e => by rw [← e, h2] at ht; simp at ht
  simp only [AState.put]
  rw [getT_set_ne htd])
 have hst : ({ (s.put (some d) a) with tmps := s.tmps } : AState) = s := rfl
 rw [hst] at k1
 refine ⟨_, k1, ?_, ?_⟩
 ·obtain ⟨t3, l3, h3, n3⟩ := s2
  simp only [AState.put] at k2 ⊢
  rw [k2, dropT_set h2, dstSet_set hpd]
 have hget : getT (dstSet (dropT s.tmps (mvQ q oj.op) (opsL oj.op)) oj.dst v) x = getT s.tmps x := by
  rw [dstSet_get hpx, drop_get h1]
 have hev : evalArgs G ({ s2 with tmps := dstSet (dropT s.tmps (mvQ q oj.op) (opsL oj.op)) oj.dst v } : AState) none 0 (opsL oi.op) = evalArgs G s none 0 (opsL oi.op) := by
  rw [hx]
  simp only [evalArgs, aeval, hget]
 have hlk : ∀ (s' : AState) vals, lookedAt s' oi.op vals = none := fun s' vals => by unfold lookedAt; rw [hl]
 unfold stepQ at hq ⊢
 simp only [g1, wantedA, hev, hlk] at hq ⊢
 exact hq
/-- A store and a read of a package variable, in either order. -/
theorem store_swapG {fh q take : Bool} {all : List Oper} {oi oj : Oper} {a : AVal} (ha : apartG oi oj = true) {s s2 : AState} (hq : stepQ E G fh all oi s = some a) (hs : astep E G q take oj (s.put oi.dst a) = some s2) :
  ∃ s3, astep E G q take oj s = some s3 /\ s3.put oi.dst a = s2 /\ stepQ E G fh all oi s3 = some a := by
 unfold apartG at ha
 simp only [Bool.and_eq_true, Bool.or_eq_true, Option.isNone_iff_eq_none] at ha
 obtain ⟨⟨⟨⟨g1, _⟩, g3⟩, _⟩, g5⟩ := ha
 have hof : ∃ g T d, oi.op = .load T (.global g) /\ oi.dst = some d /\ (opsL oj.op).any (isTmp d) = false /\ oj.dst ≠ some d := by
  split at g5
  ·rename_i T g d' e1 e2
   simp only [Bool.and_eq_true, Bool.not_eq_true', bne_iff_ne] at g5
   exact ⟨g, T, d', e1, e2, g5.1, g5.2⟩
  simp at g5
 obtain ⟨g, T, d, hop, hd, h2, hpd⟩ := hof
 rw [hd] at hs ⊢
 obtain ⟨v, k1, k2⟩ := astep_tmps g3 hs
 have k1 := k1 s.tmps (by
  intro t ht
  have htd : d ≠ t := fun e => by rw [← e, h2] at ht; simp at ht
  simp only [AState.put]
  rw [getT_set_ne htd])
 have hst : ({ (s.put (some d) a) with tmps := s.tmps } : AState) = s := rfl
 rw [hst] at k1
 refine ⟨_, k1, ?_, ?_⟩
 ·obtain ⟨t3, l3, h3, n3⟩ := s2
  simp only [AState.put] at k2 ⊢
  rw [k2, dropT_set h2, dstSet_set hpd]
 have hev : ∀ s' : AState, evalArgs G s' none 0 (opsL oi.op) = evalArgs G s none 0 (opsL oi.op) := fun s' => by rw [hop]; rfl
 have hlk : ∀ s' : AState, lookedAt s' oi.op (evalArgs G s none 0 (opsL oi.op)) = none := fun s' => by
  rw [hop]
  show lookedAt s' (.load T (.global g)) (evalArgs G s none 0 [.global g]) = none
  simp only [evalArgs, aeval]
  cases G g <;> rfl
 unfold stepQ at hq ⊢
 simp only [g1, wantedA, hev, hlk] at hq ⊢
 exact hq
/-- A copy that takes over, and what comes up beside it, in either order. -/
theorem move_swap {fh q take : Bool} {ops : Array Oper} {oi oj : Oper} {a : AVal} (hmv : isCopyO oj = true) (h1 : ∀ d, oi.dst = some d -> d ∉ oj.looksAt ops) (h2 : ∀ d, oi.dst = some d -> oj.dst ≠ some d) (h3 : ∀ d, oj.dst = some d -> d ∉ oi.looksAt ops)
  {s s2 : AState} (hq : stepQ E G fh ops.toList oi s = some a) (hs : astep E G q take oj (s.put oi.dst a) = some s2) :
  ∃ s3, astep E G q take oj s = some s3 /\ s3.put oi.dst a = s2 /\ stepQ E G fh ops.toList oi s3 = some a := by
 unfold isCopyO at hmv
 split at hmv
 rotate_left
 ·simp at hmv
 rename_i x d2 hop hd2
 have hx : opsL oj.op = [.tmp x] := by rw [hop]; rfl
 have hxl : x ∈ oj.looksAt ops := by
  have := looksAt_opsL (o := oj) (all := ops.toList) (t := x) (by rw [hx]; simp)
  simpa using this
 obtain ⟨val, e2, k⟩ := astep_slot hx (fun _ => by rw [hop]; rfl) (fun vals ob out h => by
  rw [hop] at h
  simp only [aop, aMove] at h
  split at h
  ·simp at h; subst h; rfl
  simp at h) hd2 hs
 have hgx : getT (s.put oi.dst a).tmps x = getT s.tmps x := getT_put_ne (fun e => h1 x e hxl)
 have k1 := k s hgx.symm
 refine ⟨_, k1, ?_, ?_⟩
 ·rw [e2]
  cases hd : oi.dst with
  | none => rfl
  | some d =>
   have hdx : x ≠ d := fun e => h1 d hd (e ▸ hxl)
   have hdd : d2 ≠ d := fun e => h2 d hd (by rw [hd2, e])
   have hany : List.any [Operand.tmp x] (isTmp d) = false := by
    simp only [List.any_cons, List.any_nil, Bool.or_false, isTmp]
    cases hb : Nat.beq x d with
    | false => rfl
    | true => exact absurd (Nat.eq_of_beq_eq_true hb) hdx
   simp only [AState.put]
   rw [dropT_set hany, List.set_comm _ _ hdd]
 rw [← hq]
 refine stepQ_sim ?_ (.of_eq rfl (fun _ => rfl))
 intro t ht
 have htd : d2 ≠ t := fun e => h3 d2 hd2 (by rw [e]; simpa using ht)
 show unOwn (getT ((dropT s.tmps (mvQ q oj.op) [.tmp x]).set d2 val) t) = _
 rw [getT_set_ne htd]
 unfold dropT
 cases hm : mvQ q oj.op with
 | none => rfl
 | some k =>
  cases k with
  | zero =>
   have e1 := dropOwn_simA (s := s) (x := .tmp x) t
   simp only [dropOwn, List.getElem?_cons_zero] at e1
   simpa using e1
  | succ k => rfl
theorem opC_put {ops : Array Oper} {h : RHint} (hcs : chkSlots ops h = true) {i j : Nat} {oi oj : Oper} {a : AVal} (hi : ops[i]? = some oi) (him : (i, false) ∈ h.pre) (hj : ops[j]? = some oj) (hap : oi.apart ops oj = true)
  (hntk : ∀ t k o', appSlot oj.op = some t -> k ∈ tkFor ops.toList t h.tk -> ops.toList[k]? = some o' -> ∀ e ∈ o'.after, Region.binds .any e = true -> e.on ≠ i) {K : AState -> Prop} {s : AState}
  (hF : ∀ c, isCall oj.op = some c -> isPure H oj = false -> isRead H oj = false -> (j, true) ∈ h.pre -> (quietHeap H ops.toList h.pre || quietAt H ops.toList h.pre i) = false)
  (hG : isStore oj.op = true -> (j, true) ∈ h.pre -> isCopyO oj = true ∨ (apartP oi oj = true ∨ apartG oi oj = true))
  (hy : stepQ E G (quietHeap H ops.toList h.pre || quietAt H ops.toList h.pre i) ops.toList oi s = some a) (hs : opC P E G H ops h j K (s.put oi.dst a)) :
  opC P E G H ops h j (fun s' => stepQ E G (quietHeap H ops.toList h.pre || quietAt H ops.toList h.pre i) ops.toList oi s' = some a /\ K (s'.put oi.dst a)) s := by
 obtain ⟨h1, h2, h3⟩ := Oper.apart_spec hap
 obtain ⟨lone, o, hm, ho, hs⟩ := hs
 rw [hj] at ho
 simp at ho
 subst ho
 refine ⟨lone, oj, hm, hj, ?_⟩
 have hsimj : SimT oj ops.toList s (s.put oi.dst a) := simT_put (by simpa using h1)
 have hdj : ∀ (s : AState) (v : AVal), SimT oi ops.toList s (s.put oj.dst v) := fun s v => simT_put (by simpa using h3)
 have hlj : ∀ {fh : Bool} (s : AState) (d : Option Tmp) (v : AVal), SimO fh s (s.put d v) := fun s d v => .of_eq (put_locs s d v).1 (fun _ => (put_locs s d v).2.1)
 split
 ·rename_i hl
  rw [if_pos hl] at hs
  subst hl
  unfold opL at hs ⊢
  rw [wantedA_sim hsimj] at hs
  split
  ·rename_i hw; simp [hw] at hs
  rename_i b hw
  simp only [hw] at hs
  split
  ·rename_i hb
   simp only [hb, if_true] at hs
   split
   ·rename_i c hc
    simp only [hc] at hs
    have hop := isCall_op hc
    rw [acalleeD_put (fun d hd hmem => h1 d hd (List.mem_append_left _ (List.mem_filterMap.2 ⟨.tmp d, by rw [hop]; simpa [Op.operands] using hmem, rfl⟩)))] at hs
    cases hcal : acalleeD E G H c s with
    | none => rw [hcal] at hs; simp at hs
    | some x =>
     obtain ⟨f, args, s2⟩ := x
     rw [hcal] at hs
     simp only [Option.map_some] at hs
     obtain ⟨hsim, hlocs⟩ := acalleeD_sim hcal oi ops.toList
     have e1 : (s2.put oi.dst a).heap = s2.heap := (put_locs s2 oi.dst a).2.1
     have e2 : (s2.put oi.dst a).next = s2.next := (put_locs s2 oi.dst a).2.2
     rw [e1, e2] at hs
     dsimp only at hs ⊢
     cases hpu : isPure H oj with
     | true =>
      rw [hpu] at hs
      refine hs.mono fun v heap n hq b1 b2 => ⟨(hq b1 b2).1, ?_, ?_⟩
      ·rw [← hy]
       refine stepQ_sim ?_ ?_
       ·have k1 : SimT oi ops.toList s { s2 with next := n } := hsim
        exact k1.trans (hdj _ v)
       exact .of_eq (by rw [(put_locs _ oj.dst v).1]; exact hlocs) (fun _ => by rw [(put_locs _ oj.dst v).2.1]; exact (acalleeD_heap hcal : s2.heap = s.heap))
      have := (hq b1 b2).2
      have e : (⟨(s2.put oi.dst a).tmps, (s2.put oi.dst a).locs, s2.heap, n⟩ : AState) = ({ s2 with next := n } : AState).put oi.dst a := by cases oi.dst <;> rfl
      rw [e, put_comm h2] at this
      exact this
     | false =>
      rw [hpu] at hs
      refine hs.mono fun v heap n hq b1 b2 => ⟨(hq b1 b2).1, ?_, ?_⟩
      ·cases hrd : isRead H oj with
       | true =>
        refine stepQ_more ?_ ?_ hy
        ·have k1 : SimT oi ops.toList s { s2 with heap := heap, next := n } := hsim
         exact k1.trans (hdj _ v)
        intro m ob hm1
        have hst := (hq b1 b2).1 hrd
        rw [put_obj]
        cases m with
        | loc k => simp only [AState.obj] at hm1 ⊢; rw [hlocs]; exact hm1
        | out k => simp only [AState.obj] at hm1 ⊢; exact hst _ _ (by rw [(acalleeD_heap hcal : s2.heap = s.heap)]; exact hm1)
       | false =>
        have hfh := hF c hc hpu hrd hm
        rw [← hy]
        refine stepQ_sim ?_ ?_
        ·have k1 : SimT oi ops.toList s { s2 with heap := heap, next := n } := hsim
         exact k1.trans (hdj _ v)
        exact .of_eq (by rw [(put_locs _ oj.dst v).1]; exact hlocs) (fun hf => by rw [hfh] at hf; simp at hf)
      have := (hq b1 b2).2
      rw [put_heap, put_comm h2] at this
      exact this
   rename_i hc
   simp only [hc] at hs
   split
   ·rename_i t ht
    simp only [ht] at hs
    obtain ⟨_, rr, hops⟩ := moved_append ht
    have htj : t ∈ oj.looksAt ops := by
     have := looksAt_opsL (o := oj) (all := ops.toList) (t := t) (by rw [hops]; simp)
     simpa using this
    have hops_not : ∀ d, oi.dst = some d -> Operand.tmp d ∉ opsL oj.op := fun d hd hmem => h1 d hd (by have := looksAt_opsL (o := oj) (all := ops.toList) hmem; simpa using this)
    have etk : tkNil h.tk t (s.put oi.dst a) = tkNil h.tk t s := by unfold tkNil; rw [getT_put_ne (fun e => h1 t e htj)]
    rw [etk] at hs
    -- the loads that the append owns by are others than oi
    have hother : ∀ k ∈ tkFor ops.toList t (tkNil h.tk t s), k ≠ i := fun k hk e => by
     obtain ⟨_, o', ho', hd'⟩ := tkFor_sub (tkNil_for hk)
     rw [e] at ho'
     have : ops[i]? = some o' := by simpa using ho'
     rw [hi] at this
     simp at this
     subst this
     exact h1 t hd' htj
    have hspec : ∀ k ∈ tkFor ops.toList t (tkNil h.tk t s), ∀ o', ops.toList[k]? = some o' -> (o'.dst = some t /\ oi.dst ≠ some t /\ t ∉ oi.looksAt ops) /\ ∀ T u, o'.op = .load T (.tmp u) -> oi.dst ≠ some u := fun k hk o' ho' => by
     obtain ⟨hk1, o2, ho2, hd2⟩ := tkFor_sub (tkNil_for hk)
     rw [ho2] at ho'
     simp at ho'
     subst ho'
     obtain ⟨⟨d, e1, e2, e3⟩, e4⟩ := chkSlots_spec hcs (i := k) (by simp [hk1]) (by simpa using ho2) him (Ne.symm (hother k hk)) hi
     rw [hd2] at e1
     simp at e1
     subst e1
     exact ⟨⟨hd2, e2, e3 rfl⟩, fun T u hop => by
      rcases e4 T u hop with h | ⟨e, he, hb, hon⟩
      ·exact h
      exact absurd hon (hntk t k o2 ht (tkNil_for hk) ho2 e he hb)⟩
    cases hsh : showTk (quietHeap H ops.toList h.pre) ops.toList (tkFor ops.toList t (tkNil h.tk t s)) s with
    | none =>
     exfalso
     -- what is shown with the value in its slot is shown without
     have : ∀ (tk : List Nat) (s s1 : AState), (∀ k ∈ tk, ∀ o', ops.toList[k]? = some o' -> (o'.dst = some t /\ oi.dst ≠ some t /\ t ∉ oi.looksAt ops) /\ ∀ T u, o'.op = .load T (.tmp u) -> oi.dst ≠ some u) -> showTk (quietHeap H ops.toList h.pre) ops.toList tk (s.put oi.dst a) = some s1 -> ∃ s2, showTk (quietHeap H ops.toList h.pre) ops.toList tk s = some s2 := by
      intro tk
      induction tk with
      | nil => intro s s1 _ _; exact ⟨s, rfl⟩
      | cons k r ih =>
       intro s s1 hh hh2
       obtain ⟨o', T, u, t', n, off, cs, es, es2, ho', hop, hd, hg, hu, hok, hob, hes, ht', hrest⟩ := showTk_spec hh2
       obtain ⟨⟨q1, q2, _⟩, q3⟩ := hh k (by simp) o' ho'
       have hdu := q3 T u hop
       rw [hd] at q1
       simp at q1
       subst q1
       rw [getT_put_ne hdu] at hu
       rw [getT_put_ne q2] at ht'
       rw [put_obj] at hob
       have e0 : (({ s.put oi.dst a with tmps := (s.put oi.dst a).tmps.set t' (.own es) } : AState).putO n (.cells (putL off [.dat (.slice es)] cs))) = (({ s with tmps := s.tmps.set t' (.own es) } : AState).putO n (.cells (putL off [.dat (.slice es)] cs))).put oi.dst a := by
        rw [← putO_put]
        congr 1
        cases hdd : oi.dst with
        | none => rfl
        | some d =>
         have hne : d ≠ t' := fun e => q2 (by rw [hdd, e])
         simp only [AState.put]
         rw [List.set_comm _ _ hne]
       rw [e0] at hrest
       obtain ⟨s3, hs3⟩ := ih _ _ (fun k hk => hh k (by simp [hk])) hrest
       refine ⟨s3, ?_⟩
       simp only [showTk, ho', hop, hd, hg, hu, if_pos hok, hob, hes, ht']
       exact hs3
     cases hsh2 : showTk (quietHeap H ops.toList h.pre) ops.toList (tkFor ops.toList t (tkNil h.tk t s)) (s.put oi.dst a) with
     | none => simp [hsh2] at hs
     | some s1 =>
      obtain ⟨s2, hs2⟩ := this _ _ _ hspec hsh2
      rw [hsh] at hs2
      simp at hs2
    | some s1 =>
     have hput := showTk_put (v := a) (dst := oi.dst) _ _ _ (fun k hk o' ho' _ => by rw [((hspec k hk o' ho').1).1]; exact ((hspec k hk o' ho').1).2.1) (fun k hk o' T u ho' hop => (hspec k hk o' ho').2 T u hop) hsh
     simp only [hput] at hs
     obtain ⟨q1, q3, q4⟩ := showTk_sim _ _ _ hsh
     cases hst : astep E G false false oj s1 with
     | none =>
      exfalso
      cases hst2 : astep E G false false oj (s1.put oi.dst a) with
      | none => simp [hst2] at hs
      | some s2 =>
       -- the same operands
       unfold astep at hst hst2
       rw [evalArgs_put' _ _ _ _ hops_not] at hst2
       have hlk : ∀ s' : AState, looks oj.op (evalArgs G s1 (mvQ false oj.op) 0 (opsL oj.op)) = none -> lookedAt s' oj.op (evalArgs G s1 (mvQ false oj.op) 0 (opsL oj.op)) = none := fun s' hl => by unfold lookedAt; rw [hl]
       cases hao : aop E false oj.op (evalArgs G s1 (mvQ false oj.op) 0 (opsL oj.op)) (lookedAt (s1.put oi.dst a) oj.op (evalArgs G s1 (mvQ false oj.op) 0 (opsL oj.op))) with
       | none => simp [hao] at hst2
       | some out =>
        obtain ⟨hk, hl⟩ := append_keep ht hao
        rw [hlk _ hl] at hao hst
        rw [hao] at hst
        simp [astepOut, hk] at hst
     | some s2 =>
      obtain ⟨v, he, hback⟩ := astep_append ht hst
      have hb2 := hback oi.dst a hops_not h2
      simp only [hb2] at hs
      dsimp only
      rw [hst]
      refine ⟨?_, hs⟩
      rw [← hy]
      subst he
      refine stepQ_sim ?_ ?_
      ·refine SimT.trans (s' := { s1 with tmps := s1.tmps.set t (unOwn (getT s1.tmps t)) }) ?_ (hdj _ v)
       intro t' ht'
       have e1 := dropOwn_simA (s := s1) (x := .tmp t) t'
       simp only [dropOwn, List.getElem?_cons_zero] at e1
       rw [e1, q4 t' (fun k hk o' ho' e => by
        obtain ⟨⟨g1, _, g3⟩, _⟩ := hspec k hk o' ho'
        rw [g1] at e
        simp at e
        subst e
        exact g3 (by simpa using ht'))]
      exact q1.trans (.of_eq (by rw [(put_locs _ oj.dst v).1]) (fun _ => by rw [(put_locs _ oj.dst v).2.1]))
   rename_i ht
   simp only [ht] at hs
   split
   ·rename_i hst
    simp only [hst] at hs
    cases hs2 : astep E G (readOnly H.moves ops.toList oj) (takeR H ops.toList oj) oj (s.put oi.dst a) with
    | none => rw [hs2] at hs; simp at hs
    | some s2 =>
     rw [hs2] at hs
     obtain ⟨s3, k1, k2, k3⟩ : ∃ s3, astep E G (readOnly H.moves ops.toList oj) (takeR H ops.toList oj) oj s = some s3 /\ s3.put oi.dst a = s2 /\ stepQ E G (quietHeap H ops.toList h.pre || quietAt H ops.toList h.pre i) ops.toList oi s3 = some a := by
      rcases hG hst hm with hmv | hap
      ·exact move_swap hmv (by simpa using h1) h2 (by simpa using h3) hy hs2
      rcases hap with hap | hap
      ·exact store_swap hap hy hs2
      exact store_swapG hap hy hs2
     rw [k1]
     exact ⟨k3, by rw [k2]; exact hs⟩
   rename_i hst
   simp only [hst] at hs
   rw [stepQ_sim hsimj (hlj _ _ _)] at hs
   cases hb1 : stepQ E G (quietHeap H ops.toList h.pre) ops.toList oj s with
   | none => rw [hb1] at hs; exact hs.elim
   | some b =>
    rw [hb1] at hs
    dsimp only at hs ⊢
    refine ⟨?_, ?_⟩
    ·rw [← hy]
     exact stepQ_sim (hdj _ _) (hlj _ _ _)
    rw [put_comm h2] at hs
    exact hs
  rename_i hb
  simp only [hb] at hs
  refine ⟨?_, ?_⟩
  ·rw [← hy]
   exact stepQ_sim (hdj _ _) (hlj _ _ _)
  have := hs
  simp only [Bool.false_eq_true, if_false] at this
  rw [put_comm h2] at this
  exact this
 rename_i hl
 rw [if_neg hl] at hs
 obtain ⟨b, hb1, hb2⟩ := hs
 rw [stepQ_sim hsimj (hlj _ _ _)] at hb1
 refine ⟨b, hb1, ?_, ?_⟩
 ·rw [← hy]
  exact stepQ_sim (hdj _ _) (hlj _ _ _)
 rw [put_comm h2] at hb2
 exact hb2
/-! ### All orders -/
variable (P E G H) in
def aanyP (ops : Array Oper) (h : RHint) (p : Array Bool) (T : AState -> Prop) : Nat -> Array Bool -> AState -> Prop
 | 0, listed, s => listed = p /\ T s
 | fuel + 1, listed, s =>
  (listed = p /\ T s) ∨ (listed ≠ p /\ Region.ready .any ops listed ≠ [] /\ ∀ i ∈ Region.ready .any ops listed, opC P E G H ops h i (aanyP ops h p T fuel (setL listed i)) s) ∨
  (∃ i oi a, setL listed i = p /\ lateOk ops h p i = true /\ ops[i]? = some oi /\ (i, false) ∈ h.pre /\ i ∈ Region.ready .any ops listed /\ stepQ E G (quietHeap H ops.toList h.pre || quietAt H ops.toList h.pre i) ops.toList oi s = some a /\ T (s.put oi.dst a))
theorem unlisted_of_ready {ops : Array Oper} {listed : Array Bool} {i : Nat} (h : i ∈ Region.ready .any ops listed) (hsz : listed.size = ops.size) : listed[i]? = some false := by
 obtain ⟨h0, o, ho, _⟩ := mem_ready.1 h
 have hlt : i < ops.size := (Array.getElem?_eq_some_iff.1 ho).1
 have hl : i < listed.size := by omega
 simp [hl] at h0
 simp [hl, h0]
theorem set_back {listed p : Array Bool} {i : Nat} (h : listed[i]? = some false) (e : setL listed i = p) : p.setIfInBounds i false = listed := by
 subst e
 have hl : i < listed.size := (Array.getElem?_eq_some_iff.1 h).1
 apply Array.ext_getElem?
 intro k
 unfold setL
 by_cases hk : i = k
 ·subst hk
  rw [h]
  simp [hl]
 rw [Array.getElem?_setIfInBounds_ne hk, Array.getElem?_setIfInBounds_ne hk]
/-- What has come up has waited for all that it waits for. -/
def Closed (ops : Array Oper) (listed : Array Bool) : Prop := ∀ (d : Nat) (o : Oper), listed[d]? = some true -> ops[d]? = some o -> ∀ e ∈ o.after, Region.binds .any e = true -> listed.getD e.on false = true
theorem Closed.step {ops : Array Oper} {listed : Array Bool} (h : Closed ops listed) {j : Nat} (hj : j ∈ Region.ready .any ops listed) : Closed ops (setL listed j) := by
 intro d o hd ho e he hb
 by_cases hdj : d = j
 ·subst hdj
  obtain ⟨_, o', ho', hafter⟩ := mem_ready.1 hj
  rw [ho] at ho'
  simp at ho'
  subst ho'
  exact getD_set_true (hafter e he hb)
 unfold setL at hd
 rw [Array.getElem?_setIfInBounds_ne (Ne.symm hdj)] at hd
 exact getD_set_true (h d o hd ho e he hb)
theorem waited_no {ops : Array Oper} {listed : Array Bool} {i : Nat} (hcl : Closed ops listed) (hun : listed[i]? = some false) (hl : waited ops (setL listed i) i = true) : False := by
 unfold waited at hl
 obtain ⟨d, hd, hd2⟩ := List.any_eq_true.1 hl
 simp only [Bool.and_eq_true] at hd2
 obtain ⟨⟨h1, h2⟩, h3⟩ := hd2
 have hdi : d ≠ i := by simpa using h1
 split at h3
 ·rename_i o ho
  obtain ⟨ed, he1, he2⟩ := Array.any_eq_true'.1 h3
  simp only [Bool.and_eq_true, beq_iff_eq] at he2
  have hld : listed[d]? = some true := by
   unfold setL at h2
   rw [getD_set_ne false (Ne.symm hdi), Array.getD_eq_getD_getElem?] at h2
   cases hg : listed[d]? with
   | none => rw [hg] at h2; simp at h2
   | some b => rw [hg] at h2; simp at h2; rw [h2]
  have := hcl d o hld ho ed he1 he2.1
  rw [he2.2, Array.getD_eq_getD_getElem?, hun] at this
  simp at this
 simp at h3
theorem last_alone {ops : Array Oper} {listed p : Array Bool} {i : Nat} (hcl : Closed ops listed) (hun : listed[i]? = some false) (e : setL listed i = p) (hl : (waited ops p i || Region.ready .any ops (p.setIfInBounds i false) == [i]) = true) : Region.ready .any ops listed = [i] := by
 have hback := set_back hun e
 rw [Bool.or_eq_true] at hl
 rcases hl with hl | hl
 ·exfalso
  unfold waited at hl
  obtain ⟨d, hd, hd2⟩ := List.any_eq_true.1 hl
  simp only [Bool.and_eq_true] at hd2
  obtain ⟨⟨h1, h2⟩, h3⟩ := hd2
  have hdi : d ≠ i := by simpa using h1
  split at h3
  ·rename_i o ho
   obtain ⟨ed, he1, he2⟩ := Array.any_eq_true'.1 h3
   simp only [Bool.and_eq_true, beq_iff_eq] at he2
   have hld : listed[d]? = some true := by
    rw [← e] at h2
    unfold setL at h2
    rw [getD_set_ne false (Ne.symm hdi), Array.getD_eq_getD_getElem?] at h2
    cases hg : listed[d]? with
    | none => rw [hg] at h2; simp at h2
    | some b => rw [hg] at h2; simp at h2; rw [h2]
   have := hcl d o hld ho ed he1 he2.1
   rw [he2.2, Array.getD_eq_getD_getElem?, hun] at this
   simp at this
  simp at h3
 rw [← hback]; simpa using hl
theorem reach_listed {ops : Array Oper} {listed : Array Bool} (hcl : Closed ops listed) : ∀ (f i j : Nat), listed.getD i false = true -> reach ops.toList f i j = true -> listed.getD j false = true
 | 0, _, _, _, h => by simp [reach] at h
 | f + 1, i, j, hi, h => by
  simp only [reach] at h
  split at h
  ·rename_i o ho
   obtain ⟨e, he, h2⟩ := List.any_eq_true.1 h
   simp only [Bool.and_eq_true, Bool.or_eq_true, Nat.beq_eq] at h2
   have hi' : listed[i]? = some true := by
    rw [Array.getD_eq_getD_getElem?] at hi
    cases hg : listed[i]? with
    | none => rw [hg] at hi; simp at hi
    | some b => rw [hg] at hi; simp at hi; rw [hi]
   have h3 := hcl i o hi' (by simpa using ho) e (by simpa using he) h2.1
   rcases h2.2 with h4 | h4
   ·rw [← h4]; exact h3
   exact reach_listed hcl f e.on j h3 h4
  simp at h
theorem reach_ready {ops : Array Oper} {listed : Array Bool} (hcl : Closed ops listed) {f i j : Nat} (hr : i ∈ Region.ready .any ops listed) (h : reach ops.toList f i j = true) (hj : listed.getD j true = false) : False := by
 obtain ⟨_, o, ho, hafter⟩ := mem_ready.1 hr
 have key : listed.getD j false = true := by
  cases f with
  | zero => simp [reach] at h
  | succ f =>
   have ho' : ops.toList[i]? = some o := by simpa using ho
   simp only [reach, ho'] at h
   obtain ⟨e, he, h2⟩ := List.any_eq_true.1 h
   simp only [Bool.and_eq_true, Bool.or_eq_true, Nat.beq_eq] at h2
   have h3 := hafter e (by simpa using he) h2.1
   rcases h2.2 with h4 | h4
   ·rw [← h4]; exact h3
   exact reach_listed hcl f e.on j h3 h4
 rw [Array.getD_eq_getD_getElem?] at key hj
 cases hg : listed[j]? with
 | none => rw [hg] at key; simp at key
 | some b => rw [hg] at key hj; simp at key hj; rw [key] at hj; simp at hj
theorem aanyP_first {ops : Array Oper} {h : RHint} (hcs : chkSlots ops h = true) (hca : chkApp ops h = true) (hcst : chkStores ops h = true) {p : Array Bool} {T : AState -> Prop} {i : Nat} {oi : Oper} {a : AVal} (hi : ops[i]? = some oi) (hm : (i, false) ∈ h.pre)
  (hlast : (waited ops p i || Region.ready .any ops (p.setIfInBounds i false) == [i]) = true ∨ lateOk ops h p i = true) (hp : p[i]? = some true) :
  ∀ (fuel : Nat) (listed : Array Bool) (s : AState), listed.size = ops.size -> Closed ops listed ->
   (∀ j oj, ops[j]? = some oj -> j ≠ i -> listed.getD j true = false -> (∀ e ∈ oj.after, Region.binds .any e = true -> e.on ≠ i) -> oi.apart ops oj = true) ->
   i ∈ Region.ready .any ops listed -> stepQ E G (quietHeap H ops.toList h.pre || quietAt H ops.toList h.pre i) ops.toList oi s = some a ->
   aanyP P E G H ops h p T fuel (setL listed i) (s.put oi.dst a) -> aanyP P E G H ops h p T (fuel + 1) listed s := by
 intro fuel
 induction fuel with
 | zero =>
  intro listed s hsz hcl hfree hr hy hH
  have hun := unlisted_of_ready hr hsz
  have hne : listed ≠ p := fun e => by rw [e, hp] at hun; simp at hun
  rcases hlast with hlast | hlast
  rotate_left
  ·exact .inr (.inr ⟨i, oi, a, hH.1, hlast, hi, hm, hr, hy, hH.2⟩)
  have hal := last_alone hcl hun hH.1 hlast
  refine .inr (.inl ⟨hne, fun h => (by rw [h] at hr; cases hr), fun j hj => ?_⟩)
  have hj' := hj
  rw [hal] at hj'
  simp at hj'
  subst hj'
  exact ⟨false, oi, hm, hi, by simp only [Bool.false_eq_true, if_false]; exact ⟨a, hy, hH⟩⟩
 | succ fuel ih =>
  intro listed s hsz hcl hfree hr hy hH
  have hun := unlisted_of_ready hr hsz
  have hne : listed ≠ p := fun e => by rw [e, hp] at hun; simp at hun
  by_cases hlate : setL listed i = p /\ lateOk ops h p i = true /\ ¬ (waited ops p i || Region.ready .any ops (p.setIfInBounds i false) == [i]) = true
  ·have hT : T (s.put oi.dst a) := by
    rcases hH with ⟨_, hT⟩ | ⟨hne2, _⟩ | ⟨i', oi', a', e', _, hoi', _, hr', _, _⟩
    ·exact hT
    ·exact absurd hlate.1 hne2
    exfalso
    have hun' := unlisted_of_ready hr' (by simpa [setL] using hsz)
    rw [hlate.1] at hun' e'
    have : (setL p i')[i']? = some true := by
     have hl : i' < p.size := (Array.getElem?_eq_some_iff.1 hun').1
     simp [setL, hl]
    rw [e', hun'] at this
    simp at this
   exact .inr (.inr ⟨i, oi, a, hlate.1, hlate.2.1, hi, hm, hr, hy, hT⟩)
  refine .inr (.inl ⟨hne, fun h => (by rw [h] at hr; cases hr), fun j hj => ?_⟩)
  by_cases hji : j = i
  ·subst hji
   exact ⟨false, oi, hm, hi, by simp only [Bool.false_eq_true, if_false]; exact ⟨a, hy, hH⟩⟩
  have h1 : opC P E G H ops h j (aanyP P E G H ops h p T fuel (setL (setL listed i) j)) (s.put oi.dst a) := by
   rcases hH with ⟨e, hT⟩ | ⟨hne2, _, hall⟩ | ⟨i', oi', a', e', hlk, hoi', hm', hr', hy', hT'⟩
   ·exfalso
    have hlast' : (waited ops p i || Region.ready .any ops (p.setIfInBounds i false) == [i]) = true := by
     rcases hlast with h' | h'
     ·exact h'
     exact Classical.byContradiction fun hno => hlate ⟨e, h', hno⟩
    have hal := last_alone hcl hun e hlast'
    have hj' := hj
    rw [hal] at hj'
    simp at hj'
    exact absurd hj' hji
   ·exact hall j (ready_mono hj hji)
   have hun' := unlisted_of_ready hr' (by simpa [setL] using hsz)
   have hii : i ≠ i' := by
    rintro rfl
    have hl : i < listed.size := (Array.getElem?_eq_some_iff.1 hun).1
    simp [setL, hl] at hun'
   have hb1 := set_back hun' e'
   have hb2 := set_back hun (rfl : setL listed i = setL listed i)
   have hjr : j ∈ Region.ready .any ops (setL listed i) := ready_mono hj hji
   have hji' : j = i' := by
    refine Classical.byContradiction fun hjn => ?_
    unfold lateOk at hlk
    split at hlk
    ·simp at hlk
    rename_i j0 r0 htl
    simp only [Bool.and_eq_true, Bool.or_eq_true, beq_iff_eq] at hlk
    obtain ⟨⟨⟨⟨⟨⟨⟨h1, _⟩, _⟩, _⟩, h5⟩, _⟩, _⟩, _⟩ := hlk
    rw [hb1] at h1
    have hj0 : j = j0 := by
     rcases h1 with h1 | h1 <;> rw [h1] at hjr <;> simp at hjr <;> rcases hjr with h' | h' <;> first | exact h' | exact absurd h' hjn
    subst hj0
    have h6 := List.all_eq_true.1 h5 (i, false) hm
    rw [hb1, hb2] at h6
    simp only [Bool.or_eq_true, beq_iff_eq, hii, false_or] at h6
    rcases h6 with h6 | h6
    ·exact waited_no hcl hun h6
    simp at h6
    exact h6 hj
   subst hji'
   have hP : aanyP P E G H ops h p T fuel (setL (setL listed i) j) ((s.put oi.dst a).put oi'.dst a') := by
    rw [e']
    cases fuel with
    | zero => exact ⟨rfl, hT'⟩
    | succ fuel => exact .inl ⟨rfl, hT'⟩
   exact ⟨false, oi', hm', hoi', by simp only [Bool.false_eq_true, if_false]; exact ⟨a', hy', hP⟩⟩
  ·obtain ⟨hjun, oj, hoj, hafter⟩ := mem_ready.1 hj
   have hnot : ∀ e ∈ oj.after, Region.binds .any e = true -> e.on ≠ i := fun e he hb heq => by
    have h1 := hafter e he hb
    rw [heq] at h1
    rw [Array.getD_eq_getD_getElem?, hun] at h1
    simp at h1
   have hntk : ∀ t k o', appSlot oj.op = some t -> k ∈ tkFor ops.toList t h.tk -> ops.toList[k]? = some o' -> ∀ e ∈ o'.after, Region.binds .any e = true -> e.on ≠ i := by
    intro t k o' ht hk ho' e he hb heq
    obtain ⟨lone, _, hmj, _, _⟩ := h1
    have hca' := hca
    unfold chkApp at hca'
    have g1 := List.all_eq_true.1 hca' (j, lone) hmj
    simp only [hoj, ht] at g1
    have g2 := List.all_eq_true.1 g1 k hk
    obtain ⟨e2, he1, he2⟩ := Array.any_eq_true'.1 g2
    simp only [Bool.and_eq_true, beq_iff_eq] at he2
    have g3 := hafter e2 he1 he2.1
    rw [he2.2, Array.getD_eq_getD_getElem?] at g3
    have hlk : listed[k]? = some true := by
     cases hg : listed[k]? with
     | none => rw [hg] at g3; simp at g3
     | some b => rw [hg] at g3; simp at g3; rw [g3]
    have := hcl k o' hlk (by simpa using ho') e he hb
    rw [heq, Array.getD_eq_getD_getElem?, hun] at this
    simp at this
   have hF : ∀ c, isCall oj.op = some c -> isPure H oj = false -> isRead H oj = false -> (j, true) ∈ h.pre -> (quietHeap H ops.toList h.pre || quietAt H ops.toList h.pre i) = false := by
    intro c hcc hpu hrd hmj
    rw [Bool.eq_false_iff]
    intro ht
    rw [quietHeap_false (all := ops.toList) hmj (by simpa using hoj) hcc hpu, Bool.false_or] at ht
    unfold quietAt at ht
    have g := List.all_eq_true.1 ht (j, true) hmj
    have hoj' : ops.toList[j]? = some oj := by simpa using hoj
    simp only [hoj', hcc, hpu, hrd, Bool.not_true, Bool.false_or, Option.isNone_some, Bool.or_eq_true] at g
    rcases g with g | g
    ·exact reach_ready hcl hr g hjun
    refine reach_ready hcl hj g ?_
    rw [Array.getD_eq_getD_getElem?, hun]; rfl
   have hG : isStore oj.op = true -> (j, true) ∈ h.pre -> isCopyO oj = true ∨ (apartP oi oj = true ∨ apartG oi oj = true) := by
    intro hst hmj
    unfold chkStores at hcst
    have g1 := List.all_eq_true.1 hcst (j, true) hmj
    simp only [hoj, hst, Bool.not_true, Bool.false_or, Bool.and_eq_true] at g1
    have g2 := List.all_eq_true.1 g1.2 (i, false) hm
    simp only [hi, Bool.false_or, Bool.or_eq_true] at g2
    rcases g2 with ((g | g) | g) | g
    ·exact .inl g
    ·exact .inr g
    ·exact (reach_ready hcl hr g hjun).elim
    refine (reach_ready hcl hj g ?_).elim
    rw [Array.getD_eq_getD_getElem?, hun]; rfl
   have h2 := opC_put hcs hi hm hoj (hfree j oj hoj hji hjun hnot) hntk hF hG hy h1
   have hfree' : ∀ k ok, ops[k]? = some ok -> k ≠ i -> (setL listed j).getD k true = false -> (∀ e ∈ ok.after, Region.binds .any e = true -> e.on ≠ i) -> oi.apart ops ok = true := fun k ok hk hki hun' hno => by
    refine hfree k ok hk hki ?_ hno
    by_cases hjk : j = k
    ·subst hjk; exact hjun
    unfold setL at hun'; rw [getD_set_ne true hjk] at hun'; exact hun'
   refine opC_mono (fun s' h3 => ih (setL listed j) s' (by simpa [setL] using hsz) (hcl.step hj) hfree' (ready_mono hr (Ne.symm hji)) h3.1 ?_) h2
   have e : setL (setL listed j) i = setL (setL listed i) j := by unfold setL; rw [Array.setIfInBounds_comm _ _ hji]
   rw [e]
   exact h3.2
theorem preAll_true : ∀ (r : List (Nat × Bool)) (l : Array Bool) (i : Nat), l[i]? = some true -> (preAll r l)[i]? = some true
 | [], _, _, h => h
 |(j, _) :: r, l, i, h => by
  apply preAll_true r
  unfold setL
  by_cases hj : j = i
  ·subst hj
   have hl : j < l.size := (Array.getElem?_eq_some_iff.1 h).1
   simp [hl]
  rw [Array.getElem?_setIfInBounds_ne hj]; exact h
/-- The chosen order stands for all. -/
theorem aanyP_of_order {ops : Array Oper} {h : RHint} (hcs : chkSlots ops h = true) (hca : chkApp ops h = true) (hcst : chkStores ops h = true) {T : AState -> Prop} {p : Array Bool} (hlast : chkLast ops h p h.pre = true) :
  ∀ (r : List (Nat × Bool)) (listed : Array Bool) (s : AState) (fuel : Nat), (∀ x ∈ r, x ∈ h.pre) -> listed.size = ops.size -> Closed ops listed -> p = preAll r listed -> chkPre ops r listed = true -> r.length <= fuel ->
   aordP (ACalls P G) E G H h.tk (quietHeap H ops.toList h.pre) (quietAt H ops.toList h.pre) ops.toList T r s -> aanyP P E G H ops h p T fuel listed s
 | [], listed, s, fuel, _, _, _, hp, _, _, h => by
  cases fuel with
  | zero => exact ⟨hp.symm, h⟩
  | succ fuel => exact .inl ⟨hp.symm, h⟩
 |(i, lone) :: r, listed, s, 0, _, _, _, _, _, hf, _ => by simp at hf
 |(i, lone) :: r, listed, s, fuel + 1, hsub, hsz, hcl, hp, hc, hf, hh => by
  have hm := hsub (i, lone) (by simp)
  simp only [chkPre, Bool.and_eq_true] at hc
  obtain ⟨hc1, hc2⟩ := hc
  have hrd0 : i ∈ Region.ready .any ops listed := by
   cases lone
   ·simp at hc1; exact hc1.1
   simp at hc1; rw [hc1]; simp
  simp only [aordP, askK_eq] at hh
  have hsz' : (setL listed i).size = ops.size := by simpa [setL] using hsz
  have hp' : p = preAll r (setL listed i) := hp
  have hrec : ∀ s', aordP (ACalls P G) E G H h.tk (quietHeap H ops.toList h.pre) (quietAt H ops.toList h.pre) ops.toList T r s' -> aanyP P E G H ops h p T fuel (setL listed i) s' := fun s' h' =>
   aanyP_of_order hcs hca hcst hlast r (setL listed i) s' fuel (fun x hx => hsub x (by simp [hx])) hsz' (hcl.step hrd0) hp' hc2 (by simp at hf; omega) h'
  split at hh
  ·exact hh.elim
  rename_i o ho
  have ho' : ops[i]? = some o := by simpa using ho
  have hlt : i < listed.size := by rw [hsz]; exact (Array.getElem?_eq_some_iff.1 ho').1
  have hpi : p[i]? = some true := by
   rw [hp']
   apply preAll_true
   simp [setL, hlt]
  cases lone
  ·simp only [Bool.false_eq_true, if_false, Bool.and_eq_true] at hh hc1
   split at hh
   ·rename_i a ha
    refine aanyP_first hcs hca hcst ho' hm ?_ hpi fuel listed s hsz hcl (Region.free_spec ho' hc1.2) (by simpa using hc1.1) ha (hrec _ hh)
    have : ∀ (q : List (Nat × Bool)), (i, false) ∈ q -> chkLast ops h p q = true -> (waited ops p i || Region.ready .any ops (p.setIfInBounds i false) == [i]) = true ∨ lateOk ops h p i = true := by
     intro q
     induction q with
     | nil => intro hq; simp at hq
     | cons x q ih =>
      intro hq hcl
      obtain ⟨k, l⟩ := x
      simp only [chkLast, Bool.and_eq_true, Bool.or_eq_true] at hcl
      rcases List.mem_cons.1 hq with e | hq
      ·simp at e
       obtain ⟨rfl, rfl⟩ := e
       rcases hcl.1 with (hl | hl) | hl
       ·simp at hl
       ·exact .inl (by rw [Bool.or_eq_true]; exact hl)
       exact .inr hl
      exact ih hq hcl.2
    exact this h.pre hm hlast
   exact hh.elim
  simp only [if_true] at hh hc1
  have hrd : Region.ready .any ops listed = [i] := by simpa using hc1
  have hun := unlisted_of_ready (i := i) (by rw [hrd]; simp) hsz
  refine .inr (.inl ⟨fun e => by rw [e, hpi] at hun; simp at hun, by rw [hrd]; simp, fun j hj => ?_⟩)
  rw [hrd] at hj
  simp at hj
  subst hj
  exact ⟨true, o, hm, ho', by simp only [if_true]; exact opL_mono hrec hh⟩
theorem quietPre_sub : ∀ {r : List (Nat × Bool)} {x : Nat × Bool}, x ∈ quietPre r -> x ∈ r /\ x.2 = false
 | [], _, h => by simp [quietPre] at h
 |(i, true) :: r, _, h => by simp [quietPre] at h
 |(i, false) :: r, x, h => by
  simp only [quietPre] at h
  rcases List.mem_cons.1 h with rfl | h
  ·simp
  obtain ⟨h1, h2⟩ := quietPre_sub h; exact ⟨by simp [h1], h2⟩
/-- The quiet ones first. -/
theorem aanyP_of_quiet {ops : Array Oper} {h : RHint} (hcs : chkSlots ops h = true) (hca : chkApp ops h = true) (hcst : chkStores ops h = true) {T K : AState -> Prop} {p : Array Bool} (hlast : chkLast ops h p h.pre = true) (hall : ∀ x ∈ h.pre, p[x.1]? = some true) (fuel : Nat) :
  ∀ (r : List (Nat × Bool)) (listed : Array Bool) (s : AState), (∀ x ∈ r, x ∈ h.pre /\ x.2 = false) -> listed.size = ops.size -> Closed ops listed -> chkPre ops r listed = true ->
   (∀ s', K s' -> aanyP P E G H ops h p T fuel (preAll r listed) s') ->
   aordP (ACalls P G) E G H h.tk (quietHeap H ops.toList h.pre) (quietAt H ops.toList h.pre) ops.toList K r s -> aanyP P E G H ops h p T (r.length + fuel) listed s
 | [], listed, s, _, _, _, _, hK, h => by
  rw [List.length_nil, Nat.zero_add]
  exact hK s h
 |(i, true) :: r, listed, s, hsub, _, _, _, _, _ => by
  have := (hsub (i, true) (by simp)).2
  simp at this
 |(i, false) :: r, listed, s, hsub, hsz, hcl, hc, hK, hh => by
  obtain ⟨hm, _⟩ := hsub (i, false) (by simp)
  simp only [chkPre, Bool.and_eq_true] at hc
  obtain ⟨hc1, hc2⟩ := hc
  simp only [Bool.false_eq_true, if_false, Bool.and_eq_true] at hc1
  have hrd0 : i ∈ Region.ready .any ops listed := by simpa using hc1.1
  simp only [aordP, askK_eq] at hh
  have hsz' : (setL listed i).size = ops.size := by simpa [setL] using hsz
  split at hh
  ·exact hh.elim
  rename_i o ho
  have ho' : ops[i]? = some o := by simpa using ho
  simp only [Bool.false_eq_true, if_false] at hh
  split at hh
  ·rename_i a ha
   have hrec := aanyP_of_quiet hcs hca hcst hlast hall fuel r (setL listed i) _ (fun x hx => hsub x (by simp [hx])) hsz' (hcl.step hrd0) hc2 hK hh
   have e : ((i, false) :: r).length + fuel = (r.length + fuel) + 1 := by simp; omega
   rw [e]
   refine aanyP_first hcs hca hcst ho' hm ?_ (hall _ hm) (r.length + fuel) listed s hsz hcl (Region.free_spec ho' hc1.2) hrd0 ha hrec
   have : ∀ (q : List (Nat × Bool)), (i, false) ∈ q -> chkLast ops h p q = true -> (waited ops p i || Region.ready .any ops (p.setIfInBounds i false) == [i]) = true ∨ lateOk ops h p i = true := by
    intro q
    induction q with
    | nil => intro hq; simp at hq
    | cons x q ih =>
     intro hq hcl
     obtain ⟨k, l⟩ := x
     simp only [chkLast, Bool.and_eq_true, Bool.or_eq_true] at hcl
     rcases List.mem_cons.1 hq with e | hq
     ·simp at e
      obtain ⟨rfl, rfl⟩ := e
      rcases hcl.1 with (hl | hl) | hl
      ·simp at hl
      ·exact .inl (by rw [Bool.or_eq_true]; exact hl)
      exact .inr hl
     exact ih hq hcl.2
   exact this h.pre hm hlast
  exact hh.elim
/-- Those that come up alone, in each order. -/
theorem aanyP_of_lone {ops : Array Oper} {h : RHint} {T : AState -> Prop} {p : Array Bool} : ∀ (m : Nat) (listed : Array Bool) (s : AState),
  aloneP (ACalls P G) E G H h ops.toList p T m listed s -> aanyP P E G H ops h p T m listed s
 | 0, listed, s, hh => hh
 | m + 1, listed, s, hh => by
  simp only [aloneP, Array.toArray_toList] at hh
  obtain ⟨h1, h2, h3⟩ := hh
  refine .inr (.inl ⟨h1, h2, fun i hi => ?_⟩)
  obtain ⟨hm, o, ho, hop⟩ := h3 i hi
  refine ⟨true, o, hm, by simpa using ho, ?_⟩
  rw [if_pos rfl]
  exact opL_mono (fun s' h' => aanyP_of_lone m _ s' h') hop
end
end Go.Tp

namespace Go.Tp
section
variable {P : Program} {E : TEnv} {G : Globs} {H : Hints} {D : List Deferred} {rd : Option Nat}
/-- The value of an operation that goes ahead. -/
theorem aq_sound (hE : E.Ok P) {o : Oper} {s : AState} {out : Out} (hop : aop E false o.op (evalArgs G s none 0 (opsL o.op)) (lookedAt s o.op (evalArgs G s none 0 (opsL o.op))) = some out) (hk : out.eff = .keep)
  {w : World} {R : Own} {N : Name -> Option Nat} {act : Act} {bsT bsL bsH bsF : List Nat} (hr : RelB G w R N act.tmps.toList s undef .undef [] bsT bsL bsH bsF) :
  ∃ cv w' R' bsV, Ran P w act.eval o cv w' /\ RepV w' R' N out.val cv bsV /\ From w [] bsV /\ Keep w R w' R' (bsT ++ (bsL ++ (bsH ++ bsF))) := by
 have ha := args_copy hr.tmps hr.glob none 0 (opsL o.op) (by simp)
 generalize hvals : evalArgs G s none 0 (opsL o.op) = vals at hop ha
 have hnd : (bsT ++ (bsL ++ (bsH ++ bsF))).Nodup := by simpa using hr.nodup
 cases hlo : lookedAt s o.op vals with
 | none =>
  rw [hlo] at hop
  have hlk : Looked w R N o.op vals none none := by
   unfold Looked
   split
   ·exact ⟨rfl, rfl⟩
   exact .inl ⟨rfl, rfl⟩
  obtain ⟨cv, w', R', hran, hkeep, hout⟩ := aop_sound (rest := bsT ++ (bsL ++ (bsH ++ bsF))) hE hop ha (fun _ => rfl) hlk (by simpa [nmL] using hnd) (fun _ => rfl)
  rw [hk] at hout
  obtain ⟨bsV, hv, hf, _, _⟩ := hout
  exact ⟨cv, w', R', bsV, hran, hv, hf, hkeep⟩
 | some obj =>
  rw [hlo] at hop
  have hlk : ∃ b b1, Looked w R N o.op vals (some obj) (some (b, b1)) /\ (b :: b1).Nodup := by
   unfold lookedAt at hlo
   split at hlo
   ·rename_i n hn
    cases n with
    | loc i =>
     simp only [AState.obj] at hlo
     obtain ⟨pre, b, b1, post, e1, e2, e3, _⟩ := RepObjs.split hr.locs hlo
     refine ⟨b, b1, ?_, ?_⟩
     ·unfold Looked; rw [hn]; exact .inr ⟨b, b1, obj, rfl, rfl, e2, e3⟩
     subst e1
     refine List.Nodup.sublist ?_ hnd
     refine List.Sublist.trans ?_ (List.sublist_append_right _ _)
     refine List.Sublist.trans ?_ (List.sublist_append_left _ _)
     exact (List.sublist_append_right _ _).trans (List.sublist_append_left _ _)
    | out k =>
     simp only [AState.obj] at hlo
     obtain ⟨pre, b, b1, post, e1, e2, e3, _⟩ := RepObjs.split hr.heap hlo
     have hno : noLocO obj = true := by
      cases obj with
      | cells cs => obtain ⟨vs, e, sp, hb, hrr, hR⟩ := e3; have := hrr.noLoc_of_outs; rw [noLocL_pad] at this; exact this
      | map es => rfl
     refine ⟨b, b1, ?_, ?_⟩
     ·unfold Looked; rw [hn]; exact .inr ⟨b, b1, obj, rfl, rfl, by simpa [outs] using e2, e3.reN hno (fun _ => rfl)⟩
     subst e1
     refine List.Nodup.sublist ?_ hnd
     refine List.Sublist.trans ?_ (List.sublist_append_right _ _)
     refine List.Sublist.trans ?_ (List.sublist_append_right _ _)
     refine List.Sublist.trans ?_ (List.sublist_append_left _ _)
     exact (List.sublist_append_right _ _).trans (List.sublist_append_left _ _)
   simp at hlo
  obtain ⟨b, b1, hlk, hnd1⟩ := hlk
  obtain ⟨cv, w', R', hran, hkeep, hout⟩ := aop_sound (rest := []) hE hop ha (fun _ => rfl) hlk (by simpa [nmL] using hnd1) (fun _ => rfl)
  rw [hk] at hout
  obtain ⟨bsV, hv, hf, _, hsame⟩ := hout
  rcases hsame with h | ⟨rfl, rfl⟩
  ·simp at h
  exact ⟨cv, w', R', bsV, hran, hv, hf, keep_refl _⟩
/-- The state behind a value that goes ahead. -/
theorem rel_put {s : AState} {w w' : World} {R R' : Own} {N : Name -> Option Nat} {act : Act} {bsT bsL bsH bsF bsV : List Nat} (bsY : List Nat) {a : AVal} {cv : Value} (dst : Option Tmp) (hr : RelB G w R N act.tmps.toList s undef .undef [] bsT bsL bsH bsF)
  (hv : RepV w' R' N a cv bsV) (hf : From w [] (bsV ++ bsY)) (hy : ∀ b ∈ bsY, b < w'.heap.size) (hk : Keep w R w' R' (bsT ++ (bsL ++ (bsH ++ bsF)))) :
  ∃ bsT', RelB G w' R' N (act.put dst cv).tmps.toList (s.put dst a) undef .undef [] bsT' bsL bsH (bsY ++ bsF) := by
 have hlt : ∀ b ∈ bsT ++ (bsL ++ (bsH ++ bsF)), b < w.heap.size := fun b hb => by
  simp at hb
  rcases hb with h | h | h | h
  ·exact hr.tmps.lt b h
  ·exact hr.locs.lt b h
  ·exact hr.heap.lt b h
  exact hr.frame b h
 have hnd0 : ((bsV ++ bsY) ++ (bsT ++ (bsL ++ (bsH ++ bsF)))).Nodup := from_nodup (bsM := []) (by simpa using hr.nodup) hlt hf
 have hnd : (bsV ++ (bsT ++ (bsL ++ (bsH ++ (bsY ++ bsF))))).Nodup := by
  have hp : (bsV ++ (bsT ++ (bsL ++ (bsH ++ (bsY ++ bsF))))).Perm ((bsV ++ bsY) ++ (bsT ++ (bsL ++ (bsH ++ bsF)))) := by
   rw [List.perm_iff_count]; intro q; simp only [List.count_append]; omega
  exact hp.nodup_iff.2 hnd0
 obtain ⟨bsT', hp1, hp2⟩ := put_state dst (hr.tmps.keep (hk.sub (by intro b hb; simp [hb]))) hv hnd
 obtain ⟨q1, q2, q3⟩ := put_locs s dst a
 exact ⟨bsT', repV_undef _, by rw [(put_act act dst cv).1]; exact hp1, by rw [q1]; exact hr.locs.keep (hk.sub (by intro b hb; simp [hb])), by rw [q2]; exact hr.heap.keep (hk.sub (by intro b hb; simp [hb])), by simpa using hp2, by rw [q3]; exact hr.next,
  fun g cs hg => (hr.glob g cs hg).step hk.step, fun b hb => by
   rcases List.mem_append.1 hb with h | h
   ·exact hy b h
   exact Nat.lt_of_lt_of_le (hr.frame b h) hk.step.size⟩
/-- The state in the midst of such a region. -/
structure PRel (E : TEnv) (G : Globs) (H : Hints) (ops : Array Oper) (h : RHint) (listed : Array Bool) (w : World) (R : Own) (N : Name -> Option Nat) (act : Act) (s : AState) (bsT bsL bsH bsX bsF : List Nat) : Prop where
 rel : RelB G w R N act.tmps.toList s undef .undef [] bsT bsL bsH (bsX ++ bsF)
 nwf : ∀ i o t d ti, h.nw = some i -> listed[i]? = some true -> ops[i]? = some o -> o.op = .alloc t -> o.dst = some d -> o.guard = none -> E.ty t = some ti -> d < act.tmps.size ->
  ∃ b, b ∈ bsX /\ act.tmps[d]? = some (.pointer (some ⟨b, 0, none⟩)) /\ RepObj w R N (.cells (acells (ofConst ti.zero))) b []
 tkf : ∀ i o T u t n off ob, i ∈ h.tk -> listed[i]? = some true -> ops[i]? = some o -> o.op = .load T (.tmp u) -> o.dst = some t -> o.guard = none -> getT s.tmps u = .ptr n off -> okN (quietHeap H ops.toList h.pre) n = true -> s.obj n = some ob -> t < act.tmps.size ->
  ∃ b v, N n = some b /\ act.tmps[t]? = some v /\ (w.cell? ⟨b, off, none⟩ = some v ∨ ∃ vs, v = .agg vs)
theorem chkSlots_own {ops : Array Oper} {h : RHint} (hc : chkSlots ops h = true) {i : Nat} (hi : i ∈ h.nw.toList ++ h.tk) {o : Oper} (ho : ops[i]? = some o) {T : TypeId} {u : Tmp} (hop : o.op = .load T (.tmp u)) : o.dst ≠ some u := by
 unfold chkSlots at hc
 have h1 := List.all_eq_true.1 hc i hi
 rw [ho] at h1
 simp only [Bool.and_eq_true] at h1
 have h2 := h1.2.1
 rw [hop] at h2
 simpa using h2
theorem act_put_get {act : Act} {dst : Option Tmp} {v : Value} {t : Nat} (h : dst ≠ some t) : (act.put dst v).tmps[t]? = act.tmps[t]? := by
 cases dst with
 | none => rfl
 | some d =>
  have hne : d ≠ t := fun e => h (by rw [e])
  simp [Act.put, Array.getElem?_setIfInBounds_ne hne]
theorem act_put_size {act : Act} {dst : Option Tmp} {v : Value} : (act.put dst v).tmps.size = act.tmps.size := by
 cases dst <;> simp [Act.put]
theorem setL_get {listed : Array Bool} {i j : Nat} (h : (setL listed i)[j]? = some true) (hne : j ≠ i) : listed[j]? = some true := by
 unfold setL at h
 rwa [Array.getElem?_setIfInBounds_ne (Ne.symm hne)] at h
theorem cell_same {w w' : World} {b off : Nat} (h : w'.heap[b]? = w.heap[b]?) : w'.cell? ⟨b, off, none⟩ = w.cell? ⟨b, off, none⟩ := by
 simp [World.cell?, h]
/-- What is known of those that were listed before stays. -/
theorem PRel.carry {ops : Array Oper} {h : RHint} {listed : Array Bool} {w w' : World} {R R' : Own} {N N' : Name -> Option Nat} {act : Act} {s s' : AState} {bsT bsL bsH bsX bsF : List Nat} (bsY : List Nat) {o : Oper} {cv : Value}
  (hp : PRel E G H ops h listed w R N act s bsT bsL bsH bsX bsF)
  (hc : chkSlots ops h = true) (hcl : Closed ops listed) {i : Nat} {l : Bool} (hi : ops[i]? = some o) (hun : listed[i]? = some false) (hm : (i, l) ∈ h.pre) (hk : Keep w R w' R' bsX) (hkL : ∀ n ob b, okN (quietHeap H ops.toList h.pre) n = true -> s.obj n = some ob -> N n = some b -> w'.heap[b]? = w.heap[b]?) (hN : ∀ m c, N m = some c -> N' m = some c) (hlocs : ∀ n ob, okN (quietHeap H ops.toList h.pre) n = true -> s'.obj n = some ob -> ∃ y, s.obj n = some y)
  (hT : ∀ t n off, okN (quietHeap H ops.toList h.pre) n = true -> o.dst ≠ some t -> getT s'.tmps t = .ptr n off -> getT s.tmps t = .ptr n off) :
  (∀ j q t d ti, j ≠ i -> h.nw = some j -> (setL listed i)[j]? = some true -> ops[j]? = some q -> q.op = .alloc t -> q.dst = some d -> q.guard = none -> E.ty t = some ti -> d < (act.put o.dst cv).tmps.size ->
   ∃ b, b ∈ bsY ++ bsX /\ (act.put o.dst cv).tmps[d]? = some (.pointer (some ⟨b, 0, none⟩)) /\ RepObj w' R' N' (.cells (acells (ofConst ti.zero))) b []) ∧
  (∀ j q T u t n off ob, j ≠ i -> j ∈ h.tk -> (setL listed i)[j]? = some true -> ops[j]? = some q -> q.op = .load T (.tmp u) -> q.dst = some t -> q.guard = none -> getT s'.tmps u = .ptr n off -> okN (quietHeap H ops.toList h.pre) n = true -> s'.obj n = some ob ->
   t < (act.put o.dst cv).tmps.size -> ∃ b v, N' n = some b /\ (act.put o.dst cv).tmps[t]? = some v /\ (w'.cell? ⟨b, off, none⟩ = some v ∨ ∃ vs, v = .agg vs)) := by
 constructor
 ·intro j q t d ti hji hnw hl hq hop hd hg hty hlt
  obtain ⟨⟨d', hd', hne, _⟩, _⟩ := chkSlots_spec hc (i := j) (by simp [hnw]) hq hm (Ne.symm hji) hi
  rw [hd] at hd'
  simp at hd'
  subst hd'
  rw [act_put_size] at hlt
  obtain ⟨b, h1, h2, h3⟩ := hp.nwf j q t d ti hnw (setL_get hl hji) hq hop hd hg hty hlt
  refine ⟨b, by simp [h1], by rw [act_put_get hne]; exact h2, ?_⟩
  exact (h3.keep (hk.sub (by intro c hc; simp at hc; subst hc; simp [h1]))).ext hN
 intro j q T u t n off ob hji htk hl hq hop hd hg hu hok hob hlt
 obtain ⟨⟨d', hd', hne, _⟩, h4⟩ := chkSlots_spec hc (i := j) (by simp [htk]) hq hm (Ne.symm hji) hi
 rw [hd] at hd'
 simp at hd'
 subst hd'
 have hu1 : o.dst ≠ some u := by
  rcases h4 T u hop with hu1 | ⟨e, he, hb, hon⟩
  ·exact hu1
  exfalso
  have := hcl j q (setL_get hl hji) hq e he hb
  rw [hon, Array.getD_eq_getD_getElem?, hun] at this
  simp at this
 have hu2 := hT u n off hok hu1 hu
 rw [act_put_size] at hlt
 obtain ⟨y, hob⟩ := hlocs _ _ hok hob
 obtain ⟨b, v, h1, h2, h3⟩ := hp.tkf j q T u t n off y htk (setL_get hl hji) hq hop hd hg hu2 hok hob hlt
 refine ⟨b, v, hN _ _ h1, by rw [act_put_get hne]; exact h2, ?_⟩
 rcases h3 with h3 | h3
 ·left
  rw [cell_same (hkL _ _ b hok hob h1)]
  exact h3
 exact .inr h3
theorem locs_same {w w' : World} {R R' : Own} {N : Name -> Option Nat} {os : List (Name × AObj)} {bsL bs : List Nat} (hl : RepObjs w R N os bsL) (hk : Keep w R w' R' bs) (hs : ∀ b ∈ bsL, b ∈ bs) : ∀ n ob b, aget n os = some ob -> N n = some b -> w'.heap[b]? = w.heap[b]? := by
 intro n ob b hob hb
 obtain ⟨pre, b', b1, post, e1, e2, _, _⟩ := RepObjs.split hl hob
 rw [hb] at e2
 simp at e2
 subst e2
 exact (hk.same b (hs b (by rw [e1]; simp)) (hl.lt b (by rw [e1]; simp))).1
theorem obj_same {w w' : World} {R R' : Own} {N : Name -> Option Nat} {s : AState} {bsL bsH bs : List Nat} (hl : RepObjs w R N s.locs bsL) (hh : RepObjs w R (outs N) s.heap bsH) (hk : Keep w R w' R' bs) (hs : ∀ b ∈ bsL, b ∈ bs) (hs2 : ∀ b ∈ bsH, b ∈ bs) : ∀ n ob b, s.obj n = some ob -> N n = some b -> w'.heap[b]? = w.heap[b]? := by
 intro n ob b hob hb
 cases n with
 | loc i => exact locs_same hl hk hs _ _ _ hob hb
 | out k => exact locs_same hh hk hs2 _ _ _ hob hb
/-- The object that a name means. -/
theorem obj_split {w : World} {R : Own} {N : Name -> Option Nat} {s : AState} {bsL bsH : List Nat} (hl : RepObjs w R N s.locs bsL) (hh : RepObjs w R (outs N) s.heap bsH) {n : Name} {ob : AObj} (h : s.obj n = some ob) :
  ∃ b b1, N n = some b /\ RepObj w R N ob b b1 /\ (b ∈ bsL ∨ b ∈ bsH) := by
 cases n with
 | loc i =>
  obtain ⟨pre, b, b1, post, e1, e2, e3, _⟩ := RepObjs.split hl h
  exact ⟨b, b1, e2, e3, .inl (by rw [e1]; simp)⟩
 | out k =>
  obtain ⟨pre, b, b1, post, e1, e2, e3, _⟩ := RepObjs.split hh h
  have hno : noLocO ob = true := by
   cases ob with
   | cells cs => obtain ⟨vs, e, sp, hb, hrr, hR⟩ := e3; have := hrr.noLoc_of_outs; rw [noLocL_pad] at this; exact this
   | map es => rfl
  exact ⟨b, b1, by simpa [outs] using e2, e3.reN hno (fun _ => rfl), .inr (by rw [e1]; simp)⟩
theorem unOwn_ptr {a b : AVal} {n : Name} {off : Nat} (h : unOwn a = unOwn b) (ha : a = .ptr n off) : b = .ptr n off := by
 subst ha
 cases b with
 | agg cs =>
  rcases mkAgg_cases (unOwnL cs) with ⟨ds, h'⟩ | h' <;> simp [unOwn, h'] at h
 | _ => simp [unOwn] at h <;> simp [h]
/-- What a load reads is the cell. -/
theorem load_cell (hE : E.Ok P) {T : TypeId} {ti : TI} (hty : E.ty T = some ti) {w : World} {R : Own} {N : Name -> Option Nat} {b off : Nat} {b1 : List Nat} {cs : List AVal} (hob : RepObj w R N (.cells cs) b b1) {v : AVal} (hv : loadCells ti off cs = some v)
  {ρ : Operand -> Value} {o : Oper} {x : Operand} (ho : o.op = .load T x) (hx : ρ x = .pointer (some ⟨b, off, none⟩)) {cv : Value} {w' : World} (hran : Ran P w ρ o cv w') : w.cell? ⟨b, off, none⟩ = some cv ∨ ∃ vs, cv = .agg vs := by
 obtain ⟨vs, elem, sp, hblk, hr, _⟩ := hob
 replace hv := loadCells_pad (ps := List.replicate sp .undef) hv
 generalize cs ++ List.replicate sp .undef = cs at hr hv
 obtain ⟨cv0, e1, e2, e3⟩ := loadCells_val hv hr
 obtain ⟨cv1, g1, g2⟩ := run_load_obj (N := N) (P := P) hE hty hblk hr hv
 have hrun : (execOp ρ o).run P w = .ok (.value cv1) w := by
  obtain ⟨dst, op, type, pos, after, guard⟩ := o
  simp only at ho
  subst ho
  rw [← hx] at g1
  exact value_run g1
 have hcv : cv = cv1 := by
  rcases hran with h | ⟨h, _⟩
  ·rw [hrun] at h; simp at h; exact h.1.symm
  rw [hrun] at h; simp at h
 subst hcv
 cases ha : ti.isAgg with
 | true =>
  right
  unfold loadCells at hv
  rw [ha] at hv
  simp only [if_true] at hv
  split at hv
  ·simp at hv
   subst hv
   rcases mkAgg_cases (unOwnL (takeL ti.size (dropL off cs))) with ⟨ds, h⟩ | h
   ·rw [h] at g2
    obtain ⟨us, e, _⟩ := (repV_dat_inv g2).2
    exact ⟨_, e⟩
   rw [h] at g2
   simp only [RepV] at g2
   obtain ⟨us, e, _⟩ := g2
   exact ⟨_, e⟩
  simp at hv
 | false =>
  left
  have hg := e3 ha
  have hc : w.cell? ⟨b, off, none⟩ = some cv0 := by rw [cell_of_row w b off vs elem (0, 0) hblk]; simpa using hg
  have : (Instr.loadAt T (.pointer (some ⟨b, off, none⟩))).run P w = .ok cv0 w := by
   simp [Instr.loadAt, Instr.sureAddr, loadVar, hE.run_isAgg hty, ha, hc]
  rw [this] at g1
  simp at g1
  rw [hc, g1]
/-- One operation that goes ahead, whenever it comes up. -/
theorem q_step (hE : E.Ok P) {ops : Array Oper} {h : RHint} (hc : chkSlots ops h = true) {fh : Bool} {listed : Array Bool} {w : World} {R : Own} {N : Name -> Option Nat} {act : Act} {s : AState} {bsT bsL bsH bsX bsF : List Nat}
  (hp : PRel E G H ops h listed w R N act s bsT bsL bsH bsX bsF) (hcl : Closed ops listed) (hd : act.defers = D) {i : Nat} {o : Oper} (hi : ops[i]? = some o) (hun : listed[i]? = some false) {lone : Bool} (hm : (i, lone) ∈ h.pre) {a : AVal} (hq : stepQ E G fh ops.toList o s = some a)
  {Qx : Exit -> Act -> World -> Prop} {K : Act -> World -> Prop}
  (hK : ∀ cv w' R' bsT' bsX', PRel E G H ops h (setL listed i) w' R' N (act.put o.dst cv) (s.put o.dst a) bsT' bsL bsH bsX' bsF -> Keep w R w' R' bsF -> K (act.put o.dst cv) w') : wpOpIn (rdF rd) 1 P ops Qx i K act w := by
 have hlocs0 : (s.put o.dst a).locs = s.locs := (put_locs s o.dst a).1
 have hobj0 : ∀ n, (s.put o.dst a).obj n = s.obj n := fun n => put_obj
 have hlocs : ∀ n ob, okN (quietHeap H ops.toList h.pre) n = true -> (s.put o.dst a).obj n = some ob -> ∃ y, s.obj n = some y := fun n ob _ h => ⟨ob, by rw [← hobj0]; exact h⟩
 have hT : ∀ t n off, okN (quietHeap H ops.toList h.pre) n = true -> o.dst ≠ some t -> getT (s.put o.dst a).tmps t = .ptr n off -> getT s.tmps t = .ptr n off := fun t n off _ ht h => by rw [getT_put_ne ht] at h; exact h
 unfold wpOpIn
 simp only [hi]
 unfold stepQ at hq
 split at hq
 ·simp at hq
 rename_i b hw
 rw [wanted_sound hp.rel.tmps hw]
 split at hq
 ·rename_i hb
  subst hb
  simp only [if_true]
  refine oper_in ?_ rd ?_
  ·cases ho : o.op <;> first | rfl | (rw [ho] at hq; simp [isAlloc, isCall, quietKind] at hq)
  split at hq
  ·
   rename_i hal
   split at hq
   ·rename_i out hop
    simp at hq
    subst hq
    have hop' : ∃ t, o.op = .alloc t := by
     unfold isAlloc at hal
     split at hal
     ·exact ⟨_, by assumption⟩
     simp at hal
    obtain ⟨t, hot⟩ := hop'
    have hops : opsL o.op = [] := by rw [hot]; rfl
    have hnd : ([] ++ (nmL none ++ (bsT ++ (bsL ++ (bsH ++ (bsX ++ bsF)))))).Nodup := by simpa [nmL] using hp.rel.nodup
    obtain ⟨cv, w', R', hran, hkeep, hout⟩ := aop_sound (ρ := act.eval) (w := w) (R := R) (N := N) (vals := []) (ob := none) (nm := none) (bsM := []) (rest := bsT ++ (bsL ++ (bsH ++ (bsX ++ bsF)))) hE hop (by rw [hops]; exact repVs_nil) (fun _ => rfl)
     (by unfold Looked; rw [hot]; exact ⟨rfl, rfl⟩) hnd (fun _ => rfl)
    have hnew : ∃ ti, E.ty t = some ti /\ out.eff = .new (.cells (acells (ofConst ti.zero))) := by
     rw [hot] at hop
     simp only [aop, aAlloc] at hop
     split at hop
     ·rename_i ti hti
      split at hop
      ·simp at hop; exact ⟨ti, hti, by rw [← hop]⟩
      simp at hop
     simp at hop
    obtain ⟨ti, hti, heff⟩ := hnew
    rw [heff] at hout
    obtain ⟨_, b1', hobj, hb1, hsz, hcv⟩ := hout
    have hb1' : b1' = [] := List.eq_nil_iff_forall_not_mem.2 fun x hx => by have := hb1.2 x hx; simp at this
    subst hb1'
    simp only at hcv
    refine ran_wp hran ?_
    obtain ⟨bsT', hr1⟩ := rel_put (a := .undef) (cv := cv) (bsV := []) [w.heap.size] o.dst hp.rel (repV_undef _) ⟨by simp, fun b hb => .inr (by simp at hb; omega)⟩ (by intro b hb; simp at hb; subst hb; exact hsz) hkeep
    have hr2 : RelB G w' R' N (act.put o.dst cv).tmps.toList (s.put o.dst .undef) undef .undef [] bsT' bsL bsH (([w.heap.size] ++ bsX) ++ bsF) := by
     simpa using hr1
    obtain ⟨c1, c2⟩ := hp.carry (cv := cv) [w.heap.size] hc hcl hi hun hm (hkeep.sub (by intro x hx; simp [hx])) (fun n ob b _ => obj_same hp.rel.locs hp.rel.heap hkeep (by intro x hx; simp [hx]) (by intro x hx; simp [hx]) n ob b) (fun _ _ h => h) hlocs hT
    refine hK cv w' R' bsT' ([w.heap.size] ++ bsX) ⟨hr2, ?_, ?_⟩ (hkeep.sub (by intro x hx; simp [hx]))
    ·intro j q t' d ti' hnw hl hqo hop2 hdd hg hty hlt2
     by_cases hji : j = i
     ·subst hji
      rw [hi] at hqo
      simp at hqo
      subst hqo
      rw [hot] at hop2
      simp at hop2
      subst hop2
      rw [hti] at hty
      simp at hty
      subst hty
      refine ⟨w.heap.size, by simp, ?_, hobj⟩
      rw [act_put_size] at hlt2
      rw [hdd, hcv]
      simp [Act.put, hlt2]
     exact c1 j q t' d ti' hji hnw hl hqo hop2 hdd hg hty hlt2
    intro j q T u t' n off ob htk hl hqo hop2 hdd hg hu hok hob hlt2
    by_cases hji : j = i
    ·subst hji
     rw [hi] at hqo
     simp at hqo
     subst hqo
     rw [hot] at hop2
     simp at hop2
    exact c2 j q T u t' n off ob hji htk hl hqo hop2 hdd hg hu hok hob hlt2
   simp at hq
  -- a value
  rename_i hal
  split at hq
  ·simp at hq
  split at hq
  ·split at hq
   ·rename_i out hop
    split at hq
    ·rename_i heff
     simp at hq
     subst hq
     obtain ⟨cv, w', R', bsV, hran, hv, hf, hkeep⟩ := aq_sound hE hop heff hp.rel
     refine ran_wp hran ?_
     obtain ⟨bsT', hr2⟩ := rel_put [] o.dst hp.rel hv (by simpa using hf) (by simp) hkeep
     rw [List.nil_append] at hr2
     obtain ⟨c1, c2⟩ := hp.carry (cv := cv) [] hc hcl hi hun hm (hkeep.sub (by intro x hx; simp [hx])) (fun n ob b _ => obj_same hp.rel.locs hp.rel.heap hkeep (by intro x hx; simp [hx]) (by intro x hx; simp [hx]) n ob b) (fun _ _ h => h) hlocs hT
     refine hK cv w' R' bsT' bsX ⟨hr2, ?_, ?_⟩ (hkeep.sub (by intro x hx; simp [hx]))
     ·intro j q t' d ti' hnw hl hqo hop2 hdd hg hty hlt2
      by_cases hji : j = i
      ·subst hji
       rw [hi] at hqo
       simp at hqo
       subst hqo
       rw [hop2] at hal
       simp [isAlloc] at hal
      simpa using c1 j q t' d ti' hji hnw hl hqo hop2 hdd hg hty hlt2
     intro j q T u t' n off ob htk hl hqo hop2 hdd hg hu hok hob hlt2
     by_cases hji : j = i
     ·subst hji
      rw [hi] at hqo
      simp at hqo
      subst hqo
      have hut : o.dst ≠ some u := chkSlots_own hc (by simp [htk]) hi hop2
      rw [getT_put_ne hut] at hu
      rw [hobj0] at hob
      have hvals : evalArgs G s none 0 (opsL o.op) = [.ptr n off] := by
       rw [hop2]
       simp [opsL, evalArgs, aeval, hu, unOwn]
      rw [hvals] at hop
      have hlo : lookedAt s o.op [.ptr n off] = some ob := by
       unfold lookedAt
       rw [hop2]
       simp [looks, hob]
      rw [hlo, hop2] at hop
      simp only [aop, aLoad] at hop
      split at hop
      ·rename_i ti cs hty hcs
       simp at hcs
       subst hcs
       simp only [Bool.false_and, Bool.false_eq_true, if_false] at hop
       cases hld : loadCells ti off cs with
       | none => rw [hld] at hop; simp [ofA] at hop
       | some v =>
        obtain ⟨b', b1, e2, e3, e1⟩ := obj_split hp.rel.locs hp.rel.heap hob
        have hget : s.tmps[u]? = some (.ptr n off) := by
         unfold getT at hu
         cases hs : s.tmps[u]? with
         | none => rw [hs] at hu; simp at hu
         | some v => rw [hs] at hu; simp at hu; rw [hu]
        obtain ⟨u1, bs', g1, g2, _⟩ := repVs_get hp.rel.tmps hget
        simp only [RepV] at g2
        obtain ⟨_, b2, hb2, rfl⟩ := g2
        rw [e2] at hb2
        simp at hb2
        subst hb2
        have hρ : act.eval (.tmp u) = .pointer (some ⟨b', off, none⟩) := by
         simp at g1
         simp [Act.eval, g1]
        have hcell := load_cell hE hty e3 hld hop2 hρ hran
        refine ⟨b', cv, e2, ?_, ?_⟩
        ·rw [act_put_size] at hlt2
         rw [hdd]
         simp [Act.put, hlt2]
        rcases hcell with hcell | hcell
        ·left
         have hsame := obj_same hp.rel.locs hp.rel.heap hkeep (by intro x hx; simp [hx]) (by intro x hx; simp [hx]) _ _ _ hob e2
         rw [cell_same hsame]
         exact hcell
        exact .inr hcell
      simp at hop
     exact c2 j q T u t' n off ob hji htk hl hqo hop2 hdd hg hu hok hob hlt2
    simp at hq
   simp at hq
  simp at hq
 -- not wanted
 rename_i hb
 simp at hq
 subst hq
 rw [if_neg hb]
 obtain ⟨bsT', hr2⟩ := unwanted_rel hp.rel o.dst
 obtain ⟨c1, c2⟩ := hp.carry (cv := undef) [] hc hcl hi hun hm (keep_refl _) (fun _ _ _ _ _ _ => rfl) (fun _ _ h => h) hlocs hT
 have hng : o.guard ≠ none := by
  intro hg
  unfold wantedA at hw
  rw [hg] at hw
  simp at hw
  exact hb hw
 refine ⟨fun _ _ => trivial, hK undef w R bsT' bsX ⟨hr2, ?_, ?_⟩ (keep_refl _)⟩
 ·intro j q t' d ti' hnw hl hqo hop2 hdd hg hty hlt2
  by_cases hji : j = i
  ·subst hji
   rw [hi] at hqo
   simp at hqo
   subst hqo
   exact absurd hg hng
  simpa using c1 j q t' d ti' hji hnw hl hqo hop2 hdd hg hty hlt2
 intro j q T u t' n off ob htk hl hqo hop2 hdd hg hu hok hob hlt2
 by_cases hji : j = i
 ·subst hji
  rw [hi] at hqo
  simp at hqo
  subst hqo
  exact absurd hg hng
 exact c2 j q T u t' n off ob hji htk hl hqo hop2 hdd hg hu hok hob hlt2
end
end Go.Tp

namespace Go.Tp
section
variable {P : Program} {E : TEnv} {G : Globs} {H : Hints} {D : List Deferred} {rd : Option Nat}
theorem acalleeD_sound (hE : E.Ok P) {c : Call} {s s2 : AState} {f : FuncId} {args : List AVal} (h : acalleeD E G H c s = some (f, args, s2)) {w : World} {R : Own} {N : Name -> Option Nat} {act : Act} {bsT bsL bsH bsF : List Nat}
  (hr : RelB G w R N act.tmps.toList s undef .undef [] bsT bsL bsH bsF) (o : Oper) (ho : o.op = .call c) :
  ∃ cargs : List Value, (execOp act.eval o).run P w = .ok (.enter f cargs.toArray) w /\ noLocL args = true /\ ∃ bsA bsT', RelB G w R N act.tmps.toList s2 (.tuple cargs.toArray) (.tup args) bsA bsT' bsL bsH bsF := by
 obtain ⟨callee, cargs0, argTypes⟩ := c
 cases callee with
 | builtin _ => simp [acalleeD] at h
 | invoke _ _ => simp [acalleeD] at h
 | value fo =>
  simp only [acalleeD] at h
  obtain ⟨bf, hfv⟩ := eval_raw hr.tmps hr.glob fo
  generalize haf : aeval G s fo = af at h hfv
  split at h
  ·rename_i g first captured
   simp only [RepV] at hfv
   obtain ⟨_, vf, uf, ef, hfirst, hcap⟩ := hfv
   split at h
   ·rename_i hfn
    obtain ⟨fn, hf1, hf2, hf3⟩ := hE.fn g hfn
    have hnd0 : (bsT ++ (bsL ++ (bsH ++ bsF))).Nodup := by simpa using hr.nodup
    have hops : ∃ (vs : List AVal) (s1 : AState) (bsM bsT' : List Nat), (if H.moves g = true then takeArgs G s cargs0.toList else (evalArgs G s none 0 cargs0.toList, s)) = (vs, s1) ∧
      RepVs w R N vs (cargs0.toList.map act.eval) bsM /\ RepVs w R N s1.tmps act.tmps.toList bsT' /\ (bsM ++ (bsT' ++ (bsL ++ (bsH ++ bsF)))).Nodup /\ s1.locs = s.locs /\ s1.heap = s.heap /\ s1.next = s.next := by
     split
     ·obtain ⟨bsM, bsT', k1, k2, k3⟩ := takeArgs_sound hr.glob cargs0.toList hr.tmps hnd0
      obtain ⟨q1, q2, q3⟩ := takeArgs_keeps G cargs0.toList s
      exact ⟨_, _, bsM, bsT', rfl, k1, k2, k3, q1, q2, q3⟩
     exact ⟨_, _, [], bsT, rfl, args_copy hr.tmps hr.glob none 0 _ (by simp), hr.tmps, by simpa using hnd0, rfl, rfl, rfl⟩
    obtain ⟨vs, s1, bsM, bsT', hpair, hvs, ht1, hnd1, q1, q2, q3⟩ := hops
    rw [hpair] at h
    simp only at h
    split at h
    ·rename_i hno
     simp only [Option.some.injEq, Prod.mk.injEq] at h
     obtain ⟨rfl, rfl, rfl⟩ := h
     have hall : RepVs w R N (first ++ vs ++ captured) (vf ++ cargs0.toList.map act.eval ++ uf) bsM := by
      have := repVs_append (repVs_append hfirst hvs) hcap
      simpa using this
     refine ⟨vf ++ cargs0.toList.map act.eval ++ uf, ?_, hno, bsM, bsT', ⟨by simp only [RepV]; exact ⟨_, rfl, hall⟩, ht1, by rw [q1]; exact hr.locs, by rw [q2]; exact hr.heap, hnd1, by rw [q3]; exact hr.next, hr.glob, hr.frame⟩⟩
     have hbody : fn.body.isNone = false := by cases hb : fn.body <;> simp_all
     have hb2 : ¬ fn.body = none := by intro hb; simp [hb] at hbody
     have hn2 : ¬ fn.name = "runtime.NumGoroutine" := by simpa using hf3
     simp [execOp, ho, resolve, ef, Deferred.ofValue, invoke, callFunc, hf1, hn2, hb2]
    simp at h
   simp at h
  simp at h
theorem aget_aset : ∀ {os : List (Name × AObj)} {n m : Name} {o x : AObj}, aget m (aset n o os) = some x -> ∃ y, aget m os = some y
 | [], _, _, _, _, h => by simp [aset, aget] at h
 |(k, y) :: os, n, m, o, x, h => by
  simp only [aset] at h
  split at h
  ·simp only [aget] at h ⊢
   split
   ·exact ⟨_, rfl⟩
   rename_i hk
   rw [if_neg hk] at h
   exact ⟨x, h⟩
  simp only [aget] at h ⊢
  split
  ·exact ⟨_, rfl⟩
  rename_i hk
  rw [if_neg hk] at h
  exact aget_aset h
theorem getT_some {l : List AVal} {t : Nat} {v : AVal} (h : getT l t = v) (hv : v ≠ .undef) : l[t]? = some v := by
 unfold getT at h
 split at h
 ·rename_i x hx; rw [hx, h]
 exact absurd h.symm hv
theorem putO_dom {s : AState} {n m : Name} {o x : AObj} (h : (s.putO n o).obj m = some x) : ∃ y, s.obj m = some y := by
 cases n <;> cases m <;> simp only [AState.putO, AState.obj] at h ⊢
 ·exact aget_aset h
 ·exact ⟨_, h⟩
 ·exact ⟨_, h⟩
 exact aget_aset h
/-- What a cell owns goes over to a slot. -/
theorem showTk_sound {fh : Bool} {ops : Array Oper} {w : World} {R : Own} {N : Name -> Option Nat} {act : Act} {bsF : List Nat} :
  ∀ (tk : List Nat) {s s' : AState} {bsT bsL bsH : List Nat}, showTk fh ops.toList tk s = some s' -> RelB G w R N act.tmps.toList s undef .undef [] bsT bsL bsH bsF ->
   (∀ i o T u t n off ob, i ∈ tk -> ops[i]? = some o -> o.op = .load T (.tmp u) -> o.dst = some t -> o.guard = none -> getT s.tmps u = .ptr n off -> okN fh n = true -> s.obj n = some ob -> t < act.tmps.size ->
    ∃ b v, N n = some b /\ act.tmps[t]? = some v /\ (w.cell? ⟨b, off, none⟩ = some v ∨ ∃ vs, v = .agg vs)) ->
   ∃ bsT' bsL' bsH', RelB G w R N act.tmps.toList s' undef .undef [] bsT' bsL' bsH' bsF
 | [], s, s', bsT, bsL, bsH, h, hr, _ => by simp [showTk] at h; subst h; exact ⟨bsT, bsL, bsH, hr⟩
 | i :: r, s, s', bsT, bsL, bsH, h, hr, hf => by
  obtain ⟨o, T, u, t, n, off, cs, es, es2, ho, hop, hd, hg, hu, hok, hob, hes, ht, hrest⟩ := showTk_spec h
  have ho' : ops[i]? = some o := by simpa using ho
  have hsz : act.tmps.size = s.tmps.length := by have := hr.tmps.length; simpa using this
  have htg := getT_some ht (by simp)
  have htl : t < act.tmps.size := by rw [hsz]; exact (List.getElem?_eq_some_iff.1 htg).1
  obtain ⟨b0, v, hb0, hv, hcell⟩ := hf i o T u t n off (.cells cs) (by simp) ho' hop hd hg hu hok hob htl
  obtain ⟨v', bs', g1, g2, _⟩ := repVs_get hr.tmps htg
  have hvv : v' = v := by
   have : act.tmps.toList[t]? = some v := by simpa using hv
   rw [this] at g1; simp at g1; exact g1.symm
  subst hvv
  have hsame : act.tmps.toList.set t v' = act.tmps.toList := by
   apply List.ext_getElem?
   intro j
   rw [List.getElem?_set]
   split
   ·rename_i hj; subst hj; split
    ·exact g1.symm
    rename_i hl; rw [List.getElem?_eq_none (by omega)]
   rfl
  have k2 : putL off [AVal.dat (.slice es)] cs = cs.set off (.dat (.slice es)) := by
   apply List.ext_getElem?
   intro j
   rw [putL_get, List.getElem?_set]
   by_cases hj : off = j
   ·subst hj
    by_cases hl : off < cs.length
    ·rw [if_pos ⟨Nat.le_refl _, by simp, hl⟩, if_pos rfl, if_pos hl]; simp
    rw [if_neg (by omega), if_pos rfl, if_neg hl]; exact List.getElem?_eq_none (by omega)
   rw [if_neg (by simp; omega), if_neg hj]
  -- the object's cells, ownership gone
  have hcells : ∀ (M : Name -> Option Nat) (b : Nat) (b1 : List Nat), N n = some b -> RepObj w R M (.cells cs) b b1 -> ∃ bt b1', RepOwn w R v' es bt /\ RepObj w R M (.cells (putL off [.dat (.slice es)] cs)) b b1' /\ b1.Perm (bt ++ b1') := by
   intro M b b1 hN hobj
   rw [hN] at hb0
   simp at hb0
   subst hb0
   obtain ⟨vs, elem, sp, hblk, hrr, hR⟩ := hobj
   obtain ⟨pre2, bt, post2, cv, f1, f2, f3, f4⟩ := RepVs.split hrr (get_pad hes)
   have hcv : w.cell? ⟨b, off, none⟩ = some cv := by rw [cell_of_row w b off vs elem (0, 0) hblk]; simpa using f2
   have hvc : v' = cv := by
    rcases hcell with hcell | ⟨us, hus⟩
    ·rw [hcv] at hcell; simp at hcell; exact hcell.symm
    subst hus
    have := (repV_slice_inv g2).2
    cases this
   subst hvc
   have hset := f4 w R (.dat (.slice es)) v' [] (keep_refl _) (repV_dat (d := .slice es) (repV_own_inv f3).rep)
   have k1 : vs.toList.set off v' = vs.toList := by
    apply List.ext_getElem?
    intro j
    rw [List.getElem?_set]
    split
    ·rename_i hj; subst hj; split
     ·exact f2.symm
     rename_i hl; rw [List.getElem?_eq_none (by omega)]
    rfl
   rw [k1, List.set_append_left (h := (List.getElem?_eq_some_iff.1 hes).1)] at hset
   refine ⟨bt, pre2 ++ [] ++ post2, repV_own_inv f3, ⟨vs, elem, sp, hblk, by rw [k2]; exact hset, hR.1, fun hb => hR.2 (bldSh_taken hes hb)⟩, ?_⟩
   subst f1
   rw [List.perm_iff_count]; intro q; simp only [List.count_append, List.count_nil]; omega
  have hstate : ∃ bt bsL1 bsH1, RepOwn w R v' es bt /\ RepObjs w R N (s.putO n (.cells (putL off [.dat (.slice es)] cs))).locs bsL1 /\ RepObjs w R (outs N) (s.putO n (.cells (putL off [.dat (.slice es)] cs))).heap bsH1 /\ (bt ++ (bsT ++ (bsL1 ++ (bsH1 ++ bsF)))).Nodup := by
   have h0 : (bsT ++ (bsL ++ (bsH ++ bsF))).Nodup := by simpa using hr.nodup
   cases n with
   | loc k =>
    obtain ⟨pre, b, b1, post, e1, e2, e3, e4⟩ := RepObjs.split hr.locs hob
    obtain ⟨bt, b1', q1, q2, q3⟩ := hcells N b b1 e2 e3
    refine ⟨bt, _, bsH, q1, e4 w R _ b1' (keep_refl _) q2, hr.heap, ?_⟩
    subst e1
    have hp : (bt ++ (bsT ++ ((pre ++ (b :: b1') ++ post) ++ (bsH ++ bsF)))).Perm (bsT ++ ((pre ++ (b :: b1) ++ post) ++ (bsH ++ bsF))) := by
     have q3' := List.perm_iff_count.1 q3
     rw [List.perm_iff_count]; intro q; have := q3' q; simp only [List.count_append, List.count_cons] at this ⊢; omega
    exact hp.nodup_iff.2 h0
   | out k =>
    obtain ⟨pre, b, b1, post, e1, e2, e3, e4⟩ := RepObjs.split hr.heap hob
    obtain ⟨bt, b1', q1, q2, q3⟩ := hcells (outs N) b b1 (by simpa [outs] using e2) e3
    refine ⟨bt, bsL, _, q1, hr.locs, e4 w R _ b1' (keep_refl _) q2, ?_⟩
    subst e1
    have hp : (bt ++ (bsT ++ (bsL ++ ((pre ++ (b :: b1') ++ post) ++ bsF)))).Perm (bsT ++ (bsL ++ ((pre ++ (b :: b1) ++ post) ++ bsF))) := by
     have q3' := List.perm_iff_count.1 q3
     rw [List.perm_iff_count]; intro q; have := q3' q; simp only [List.count_append, List.count_cons] at this ⊢; omega
    exact hp.nodup_iff.2 h0
  obtain ⟨bt, bsL1, bsH1, q1, q2, q3, q4⟩ := hstate
  obtain ⟨bsT2, p1, p2⟩ := put_tmps (a := .own es) t hr.tmps (by simpa only [RepV] using q1) q4
  rw [hsame] at p1
  have e5 : (({ s with tmps := s.tmps.set t (.own es) } : AState).putO n (.cells (putL off [.dat (.slice es)] cs))) = { s.putO n (.cells (putL off [.dat (.slice es)] cs)) with tmps := s.tmps.set t (.own es) } := by cases n <;> rfl
  rw [e5] at hrest
  refine showTk_sound r hrest ⟨repV_undef _, p1, q2, q3, by simpa using p2, by simpa only [putO_next] using hr.next, hr.glob, hr.frame⟩ ?_
  intro i' o' T' u' t' n' off' ob' hi' ho2 hop2 hd2 hg2 hu2 hok2 hob2 hlt2
  have hu3 : getT s.tmps u' = .ptr n' off' := by
   by_cases hut : t = u'
   ·subst hut
    exfalso
    unfold getT at hu2
    rw [List.getElem?_set_self (by rw [← hsz]; exact htl)] at hu2
    simp at hu2
   rwa [getT_set_ne hut] at hu2
  have hob3 : ∃ y, s.obj n' = some y := by
   have hob2' : (s.putO n (.cells (putL off [.dat (.slice es)] cs))).obj n' = some ob' := by cases n' <;> exact hob2
   exact putO_dom hob2'
  obtain ⟨y, hy⟩ := hob3
  exact hf i' o' T' u' t' n' off' y (by simp [hi']) ho2 hop2 hd2 hg2 hu3 hok2 hy hlt2
theorem showTk_dom {fh : Bool} {all : List Oper} : ∀ (tk : List Nat) (s s' : AState), showTk fh all tk s = some s' -> ∀ n ob, s'.obj n = some ob -> ∃ y, s.obj n = some y
 | [], s, s', h, n, ob, hn => by simp [showTk] at h; subst h; exact ⟨ob, hn⟩
 | i :: r, s, s', h, n, ob, hn => by
  obtain ⟨o, T, u, t, m, off, cs, es, es2, ho, hop, hd, hg, hu, hok, hob, hes, ht, hrest⟩ := showTk_spec h
  obtain ⟨y, hy⟩ := showTk_dom r _ _ hrest n ob hn
  obtain ⟨z, hz⟩ := putO_dom hy
  exact ⟨z, by cases n <;> exact hz⟩
theorem aset_get : ∀ {os : List (Name × AObj)} {n m : Name} {o x : AObj}, aget m os = some x -> ∃ y, aget m (aset n o os) = some y
 | [], _, _, _, _, h => by simp [aget] at h
 |(k, y) :: os, n, m, o, x, h => by
  simp only [aget] at h
  simp only [aset]
  split
  ·simp only [aget]
   split
   ·exact ⟨_, rfl⟩
   rename_i hk
   rw [if_neg hk] at h
   exact ⟨x, h⟩
  simp only [aget]
  split
  ·exact ⟨_, rfl⟩
  rename_i hk
  rw [if_neg hk] at h
  exact aset_get h
theorem putO_fwd {s : AState} {n m : Name} {o x : AObj} (h : s.obj m = some x) : ∃ y, (s.putO n o).obj m = some y := by
 cases n <;> cases m <;> simp only [AState.putO, AState.obj] at h ⊢
 ·exact aset_get h
 ·exact ⟨_, h⟩
 ·exact ⟨_, h⟩
 exact aset_get h
theorem showTk_fwd {fh : Bool} {all : List Oper} : ∀ (tk : List Nat) (s s' : AState), showTk fh all tk s = some s' -> ∀ n ob, s.obj n = some ob -> ∃ y, s'.obj n = some y
 | [], s, s', h, n, ob, hn => by simp [showTk] at h; subst h; exact ⟨ob, hn⟩
 | i :: r, s, s', h, n, ob, hn => by
  obtain ⟨o, T, u, t, m, off, cs, es, es2, ho, hop, hd, hg, hu, hok, hob, hes, ht, hrest⟩ := showTk_spec h
  obtain ⟨y, hy⟩ := putO_fwd (s := { s with tmps := s.tmps.set t (.own es) }) (n := m) (o := .cells (putL off [.dat (.slice es)] cs)) (m := n) (x := ob) (by cases n <;> exact hn)
  exact showTk_fwd r _ _ hrest n y hy
theorem showTk_ptr {fh : Bool} {all : List Oper} : ∀ (tk : List Nat) (s s' : AState), showTk fh all tk s = some s' -> ∀ t n off, getT s'.tmps t = .ptr n off -> getT s.tmps t = .ptr n off
 | [], s, s', h, t, n, off, hn => by simp [showTk] at h; subst h; exact hn
 | i :: r, s, s', h, t', n', off', hn => by
  obtain ⟨o, T, u, t, m, off, cs, es, es2, ho, hop, hd, hg, hu, hok, hob, hes, ht, hrest⟩ := showTk_spec h
  have h1 := showTk_ptr r _ _ hrest t' n' off' hn
  rw [putO_tmps] at h1
  by_cases he : t = t'
  ·subst he
   exfalso
   have hlt := (List.getElem?_eq_some_iff.1 (getT_some ht (by simp))).1
   unfold getT at h1
   rw [List.getElem?_set_self hlt] at h1
   simp at h1
  rwa [getT_set_ne he] at h1
/-- An append, its ownership in hand. -/
theorem app_sound (hE : E.Ok P) {o : Oper} {t : Tmp} (ht : appSlot o.op = some t) {s s' : AState} (h : astep E G false false o s = some s') {w : World} {R : Own} {N : Name -> Option Nat} {act : Act} {bsT bsL bsH bsF : List Nat}
  (hr : RelB G w R N act.tmps.toList s undef .undef [] bsT bsL bsH bsF) :
  ∃ cv w' R' bsT', Ran P w act.eval o cv w' /\ RelB G w' R' N (act.put o.dst cv).tmps.toList s' undef .undef [] bsT' bsL bsH bsF /\ Keep w R w' R' (bsL ++ (bsH ++ bsF)) := by
 unfold astep at h
 have hnd0 : (bsT ++ (bsL ++ (bsH ++ bsF))).Nodup := by simpa using hr.nodup
 obtain ⟨bsM, bsT', ha, ht', hnd, hmv⟩ := args_take hr.tmps hr.glob (mvQ false o.op) (opsL o.op) (bsL ++ (bsH ++ bsF)) hnd0
 split at h
 ·simp at h
 rename_i out hop
 obtain ⟨hk, hl⟩ := append_keep ht hop
 have hlo : lookedAt s o.op (evalArgs G s (mvQ false o.op) 0 (opsL o.op)) = none := by unfold lookedAt; rw [hl]
 rw [hlo] at hop
 have hlk : Looked w R N o.op (evalArgs G s (mvQ false o.op) 0 (opsL o.op)) none none := by unfold Looked; rw [hl]; exact ⟨rfl, rfl⟩
 obtain ⟨cv, w', R', hran, hkeep, hout⟩ := aop_sound (rest := bsT' ++ (bsL ++ (bsH ++ bsF))) hE hop ha (fun h => hmv (by unfold mvQ; simp [h])) hlk (by simpa [nmL] using hnd) (fun _ => rfl)
 rw [hk] at hout
 obtain ⟨bsV, hv, hf, _, _⟩ := hout
 simp only [astepOut, hk, Option.some.injEq] at h
 subst h
 obtain ⟨dl1, dl2, dl3⟩ := drop_locs s (mvQ false o.op) (opsL o.op)
 have hlt : ∀ b ∈ bsT' ++ (bsL ++ (bsH ++ bsF)), b < w.heap.size := fun b hb => by
  simp at hb
  rcases hb with h | h | h | h
  ·exact ht'.lt b h
  ·exact hr.locs.lt b h
  ·exact hr.heap.lt b h
  exact hr.frame b h
 have hndV : (bsV ++ (bsT' ++ (bsL ++ (bsH ++ bsF)))).Nodup := from_nodup hnd hlt hf
 obtain ⟨bsT2, hp1, hp2⟩ := put_state o.dst (ht'.keep (hkeep.sub (by intro b hb; simp [hb]))) hv hndV
 obtain ⟨q1, q2, q3⟩ := put_locs (dropOwn s (mvQ false o.op) (opsL o.op)) o.dst out.val
 refine ⟨cv, w', R', bsT2, hran, ⟨repV_undef _, ?_, ?_, ?_, by simpa using hp2, ?_, fun g cs hg => (hr.glob g cs hg).step hkeep.step, fun b hb => Nat.lt_of_lt_of_le (hr.frame b hb) hkeep.step.size⟩, hkeep.sub (by intro b hb; simp at hb; simp; exact .inr hb)⟩
 ·rw [(put_act act o.dst cv).1]; exact hp1
 ·rw [q1, dl1]; exact hr.locs.keep (hkeep.sub (by intro b hb; simp [hb]))
 ·rw [q2, dl2]; exact hr.heap.keep (hkeep.sub (by intro b hb; simp [hb]))
 rw [q3, dl3]; exact hr.next
/-- A call or an append that comes up alone. -/
theorem l_step (hE : E.Ok P) {ops : Array Oper} {h : RHint} (hc : chkSlots ops h = true) (hca : chkApp ops h = true) (hcst : chkStores ops h = true) {listed : Array Bool} {w : World} {R : Own} {N : Name -> Option Nat} {act : Act} {s : AState} {bsT bsL bsH bsX bsF : List Nat}
  (hp : PRel E G H ops h listed w R N act s bsT bsL bsH bsX bsF) (hcl : Closed ops listed) (hd : act.defers = D) {i : Nat} {o : Oper} (hi : ops[i]? = some o) (hun : listed[i]? = some false) (hm : (i, true) ∈ h.pre) (hrd : i ∈ Region.ready .any ops listed) {K : AState -> Prop} (hnq : ¬ (isCall o.op = none /\ appSlot o.op = none /\ isStore o.op = false /\ wantedA ops.toList s o.guard = some true)) (hq : opL (ACalls P G) E G H (quietHeap H ops.toList h.pre) h.tk ops.toList o K s)
  {Qx : Exit -> Act -> World -> Prop} {Kx : Act -> World -> Prop}
  (hK : ∀ s' cv w' R' N' bsT' bsL' bsH', K s' -> PRel E G H ops h (setL listed i) w' R' N' (act.put o.dst cv) s' bsT' bsL' bsH' bsX bsF -> Keep w R w' R' bsF -> (∀ o b, N (.out o) = some b -> N' (.out o) = some b) -> Kx (act.put o.dst cv) w') : wpOpIn (rdF rd) 1 P ops Qx i Kx act w := by
 have hself : ∀ {s' : AState} {cv : Value} {w' : World} {R' : Own} {N' : Name -> Option Nat} {bsT' bsL' bsH' : List Nat}, RelB G w' R' N' (act.put o.dst cv).tmps.toList s' undef .undef [] bsT' bsL' bsH' (bsX ++ bsF) -> Keep w R w' R' bsX -> (∀ n ob b, okN (quietHeap H ops.toList h.pre) n = true -> s.obj n = some ob -> N n = some b -> w'.heap[b]? = w.heap[b]?) ->
   (∀ m c, N m = some c -> N' m = some c) -> (∀ n ob, okN (quietHeap H ops.toList h.pre) n = true -> s'.obj n = some ob -> ∃ y, s.obj n = some y) -> (∀ t n off, okN (quietHeap H ops.toList h.pre) n = true -> o.dst ≠ some t -> getT s'.tmps t = .ptr n off -> getT s.tmps t = .ptr n off) ->
   (o.guard ≠ none ∨ ∃ c, o.op = .call c) -> PRel E G H ops h (setL listed i) w' R' N' (act.put o.dst cv) s' bsT' bsL' bsH' bsX bsF := by
  intro s' cv w' R' N' bsT' bsL' bsH' hr2 hk hkL hN hlocs hT hwhy
  obtain ⟨c1, c2⟩ := hp.carry (cv := cv) [] hc hcl hi hun hm hk hkL hN hlocs hT
  refine ⟨hr2, ?_, ?_⟩
  ·intro j q t' d ti' hnw hl hqo hop2 hdd hg hty hlt2
   by_cases hji : j = i
   ·subst hji
    rw [hi] at hqo
    simp at hqo
    subst hqo
    rcases hwhy with hwhy | ⟨c, hcc⟩
    ·exact absurd hg hwhy
    rw [hop2] at hcc; simp at hcc
   simpa using c1 j q t' d ti' hji hnw hl hqo hop2 hdd hg hty hlt2
  intro j q T u t' n off ob htk hl hqo hop2 hdd hg hu hok hob hlt2
  by_cases hji : j = i
  ·subst hji
   rw [hi] at hqo
   simp at hqo
   subst hqo
   rcases hwhy with hwhy | ⟨c, hcc⟩
   ·exact absurd hg hwhy
   rw [hop2] at hcc; simp at hcc
  exact c2 j q T u t' n off ob hji htk hl hqo hop2 hdd hg hu hok hob hlt2
 unfold wpOpIn
 simp only [hi]
 unfold opL at hq
 split at hq
 ·exact hq.elim
 rename_i b hw
 rw [wanted_sound hp.rel.tmps hw]
 split at hq
 ·rename_i hb
  subst hb
  simp only [if_true]
  refine oper_in ?_ rd ?_
  ·cases ho : o.op <;> first | rfl | exact absurd ⟨by rw [ho]; rfl, by rw [ho]; rfl, by rw [ho]; rfl, hw⟩ hnq
  split at hq
  ·rename_i c hcc
   have hop := isCall_op hcc
   split at hq
   ·rename_i f args s2 hcal
    obtain ⟨cargs, hrun, hno, bsA, bsT2, hr2⟩ := acalleeD_sound hE hcal hp.rel o hop
    obtain ⟨hsim, hlocs2⟩ := acalleeD_simA hcal
    cases hpu : isPure H o with
    | true =>
     rw [hpu] at hq
     refine pure_call_sound hrun hr2 hno hd hq ?_
     intro v cv n w' R' N' bsT' hKs hr4 hk hext _
     refine hK _ cv w' R' N' bsT' bsL bsH hKs (hself hr4 (hk.sub (by intro x hx; simp [hx])) ?_ hext ?_ ?_ (.inr ⟨c, hop⟩)) (hk.sub (by intro x hx; simp [hx])) (fun o b h => hext _ _ h)
     ·intro n ob b _ hob hb
      exact obj_same hp.rel.locs hp.rel.heap hk (by intro x hx; simp [hx]) (by intro x hx; simp [hx]) n ob b hob hb
     ·intro n ob _ hn
      rw [put_obj] at hn
      have e2 := acalleeD_heap hcal
      cases n with
      | loc k => simp only [AState.obj] at hn ⊢; exact ⟨ob, by rw [← hlocs2]; exact hn⟩
      | out k => simp only [AState.obj] at hn ⊢; exact ⟨ob, by rw [← e2]; exact hn⟩
     intro t n off _ ht hn
     rw [getT_put_ne ht] at hn
     exact unOwn_ptr (hsim t) hn
    | false =>
    rw [hpu] at hq
    refine call_sound hrun hr2 hno hd (hq.mono fun v heap n hx b1 b2 => (hx b1 b2).2) ?_
    intro v cv heap n w' R' N' bsT' bsH' hKs hr4 hk hext _
    have hfh := quietHeap_false (all := ops.toList) hm (by simpa using hi) hcc hpu
    have hloc : ∀ n, okN (quietHeap H ops.toList h.pre) n = true -> ∃ k, n = .loc k := by
     intro n hn
     cases n with
     | loc k => exact ⟨k, rfl⟩
     | out k => rw [hfh] at hn; simp [okN] at hn
    refine hK _ cv w' R' N' bsT' bsL bsH' hKs (hself hr4 (hk.sub (by intro x hx; simp [hx])) ?_ hext ?_ ?_ (.inr ⟨c, hop⟩)) (hk.sub (by intro x hx; simp [hx])) (fun o b h => hext _ _ h)
    ·intro n ob b hn hob hb
     obtain ⟨k, rfl⟩ := hloc n hn
     exact locs_same hp.rel.locs hk (by intro x hx; simp [hx]) _ ob b hob hb
    ·intro n ob hok hn
     obtain ⟨k, rfl⟩ := hloc n hok
     rw [put_obj] at hn
     simp only [AState.obj] at hn ⊢
     exact ⟨ob, by rw [← hlocs2]; exact hn⟩
    intro t n off _ ht hn
    rw [getT_put_ne ht] at hn
    exact unOwn_ptr (hsim t) hn
   exact hq.elim
  split at hq
  ·rename_i t ht
   split at hq
   ·rename_i s1 hs1
    split at hq
    ·rename_i s' hs'
     obtain ⟨c, _, hop, _, _⟩ := appSlot_spec ht
     -- the loads by which it owns have come up
     have hlisted : ∀ k ∈ tkFor ops.toList t (tkNil h.tk t s), listed[k]? = some true := by
      intro k hk
      unfold chkApp at hca
      have h1 := List.all_eq_true.1 hca (i, true) hm
      simp only [hi, ht] at h1
      have h2 := List.all_eq_true.1 h1 k (tkNil_for hk)
      obtain ⟨e, he1, he2⟩ := Array.any_eq_true'.1 h2
      simp only [Bool.and_eq_true, beq_iff_eq] at he2
      obtain ⟨_, o', ho', hafter⟩ := mem_ready.1 hrd
      rw [hi] at ho'
      simp at ho'
      subst ho'
      have h3 := hafter e he1 he2.1
      rw [he2.2] at h3
      rw [Array.getD_eq_getD_getElem?] at h3
      cases hg : listed[k]? with
      | none => rw [hg] at h3; simp at h3
      | some b => rw [hg] at h3; simp at h3; rw [h3]
     obtain ⟨bsT1, bsL1, bsH1, hr1⟩ := showTk_sound _ hs1 hp.rel (fun k o' T u t' n off ob hk ho' hop' hd' hg' hu' hok' hob' hlt' => hp.tkf k o' T u t' n off ob (tkFor_sub (tkNil_for hk)).1 (hlisted k hk) ho' hop' hd' hg' hu' hok' hob' hlt')
     obtain ⟨cv, w', R', bsT', hran, hr2, hkeep⟩ := app_sound hE ht hs' hr1
     refine ran_wp hran ?_
     obtain ⟨v, he, _⟩ := astep_append ht hs'
     refine hK s' cv w' R' N bsT' bsL1 bsH1 hq (hself hr2 (hkeep.sub (by intro x hx; simp [hx])) ?_ (fun _ _ h => h) ?_ ?_ (.inr ⟨c, hop⟩)) (hkeep.sub (by intro x hx; simp [hx])) (fun _ _ h => h)
     ·intro n ob b _ hob hb
      obtain ⟨y, hy⟩ := showTk_fwd _ _ _ hs1 n ob hob
      exact obj_same hr1.locs hr1.heap hkeep (by intro x hx; simp [hx]) (by intro x hx; simp [hx]) n y b hy hb
     ·intro n ob _ hn
      rw [he, put_obj] at hn
      exact showTk_dom _ _ _ hs1 n ob (by cases n <;> exact hn)
     intro t' n off _ ht' hn
     rw [he, getT_put_ne ht'] at hn
     have e1 := dropOwn_simA (s := s1) (x := .tmp t) t'
     simp only [dropOwn, List.getElem?_cons_zero] at e1
     exact showTk_ptr _ _ _ hs1 t' _ _ (unOwn_ptr e1 hn)
    exact hq.elim
   exact hq.elim
  split at hq
  ·rename_i hst
   split at hq
   ·rename_i s' hs'
    unfold chkStores at hcst
    have g1 := List.all_eq_true.1 hcst (i, true) hm
    simp only [hi, hst, Bool.not_true, Bool.false_or, Bool.and_eq_true, Option.isNone_iff_eq_none, List.isEmpty_iff] at g1
    obtain ⟨⟨⟨hnw, htk⟩, _⟩, _⟩ := g1
    obtain ⟨cv, w', hran, ⟨R', N', bsT', bsL', bsH', hr', hk', hN', _⟩, _⟩ := astep_sound hE hs' hp.rel
    refine ran_wp hran (hK s' cv w' R' N' bsT' bsL' bsH' hq ⟨hr', ?_, ?_⟩ (hk'.sub (by intro x hx; simp [hx])) hN')
    ·intro j q t' d ti' hj
     rw [hnw] at hj
     simp at hj
    intro j q T u t' n off ob hj
    rw [htk] at hj
    simp at hj
   exact hq.elim
  rename_i hst
  exact (hnq ⟨by assumption, by assumption, hst, hw⟩).elim
 rename_i hb
 rw [if_neg hb]
 have hng : o.guard ≠ none := by
  intro hg
  unfold wantedA at hw
  rw [hg] at hw
  simp at hw
  exact hb hw
 obtain ⟨bsT', hr2⟩ := unwanted_rel hp.rel o.dst
 exact ⟨fun _ _ => trivial, hK _ undef w R N bsT' bsL bsH hq (hself hr2 (keep_refl _) (fun _ _ _ _ _ _ => rfl) (fun _ _ h => h) (fun n ob _ hn => ⟨ob, by rw [put_obj] at hn; exact hn⟩) (fun t n off _ ht hn => by rw [getT_put_ne ht] at hn; exact hn) (.inl hng)) (keep_refl _) (fun _ _ h => h)⟩
/-- .. whatever names that slot's object of old. -/
def showMk0 (E : TEnv) (all : List Oper) (mk : Option Nat) (s : AState) : Option AState :=
 match mk with
 | none => some s
 | some i => (match all[i]? with
  | some o => (match o.op, o.dst, o.guard with
   | .alloc t, some d, none => (match E.ty t with
    | some ti => if okCells (acells (ofConst ti.zero)) = true /\ mentionsL (.loc d) (acells (ofConst ti.zero)) = false /\ d < s.tmps.length then some (newObj s d (.cells (acells (ofConst ti.zero)))) else none
    | none => none)
   | _, _, _ => none)
  | none => none)
theorem showMk_zero {all : List Oper} {nw : Option Nat} {s s' : AState} (h : showMk E all nw s = some s') : showMk0 E all nw s = some s' := by
 unfold showMk at h
 unfold showMk0
 cases nw with
 | none => exact h
 | some i =>
  dsimp only at h ⊢
  cases hi : all[i]? with
  | none => rw [hi] at h; simp at h
  | some o =>
   rw [hi] at h
   dsimp only at h ⊢
   split at h
   ·rename_i t d hop hd hg
    rw [hop, hd, hg]
    dsimp only
    cases hty : E.ty t with
    | none => rw [hty] at h; simp at h
    | some ti =>
     rw [hty] at h
     dsimp only at h ⊢
     split at h
     ·rename_i hc
      rw [if_pos ⟨hc.1, hc.2.1, hc.2.2.1⟩]
      exact h
     simp at h
   simp at h
theorem mentionsL_get {n : Name} : ∀ {l : List AVal} {t : Nat} {v : AVal}, mentionsL n l = false -> l[t]? = some v -> mentions n v = false
 | [], _, _, _, h => by simp at h
 | a :: l, 0, v, h, hv => by simp only [mentionsL, Bool.or_eq_false_iff] at h; simp at hv; rw [← hv]; exact h.1
 | a :: l, t + 1, v, h, hv => by simp only [mentionsL, Bool.or_eq_false_iff] at h; exact mentionsL_get h.2 (by simpa using hv)
theorem purgeL_at {n : Name} : ∀ {l : List AVal} {t : Nat}, (∀ v, l[t]? = some v -> mentions n v = false) -> (purgeL n l)[t]? = l[t]?
 | [], _, _ => rfl
 | a :: l, 0, h => by simp [purgeL, h a rfl]
 | a :: l, t + 1, h => by simp only [purgeL, List.getElem?_cons_succ]; exact purgeL_at (fun v hv => h v (by simpa using hv))
theorem purge_off {n : Name} {l : List AVal} {d : Nat} {a : AVal} (h : mentionsL n (l.set d a) = false) {t : Nat} (ht : t ≠ d) : (purgeL n l)[t]? = l[t]? :=
 purgeL_at fun v hv => mentionsL_get h (by rw [List.getElem?_set_ne (Ne.symm ht)]; exact hv)
theorem purge_set {n : Name} {l : List AVal} {d : Nat} {a : AVal} (h : mentionsL n (l.set d a) = false) : (purgeL n l).set d a = l.set d a := by
 apply List.ext_getElem?
 intro t
 by_cases ht : t = d
 ·subst ht
  rw [List.getElem?_set_self', List.getElem?_set_self']
  have := purge_len n l
  by_cases hl : t < l.length
  ·rw [List.getElem?_eq_getElem hl, List.getElem?_eq_getElem (by omega)]; rfl
  rw [List.getElem?_eq_none (by omega), List.getElem?_eq_none (by omega)]
 rw [List.getElem?_set_ne (Ne.symm ht), List.getElem?_set_ne (Ne.symm ht)]
 exact purge_off h ht
theorem purge_self {n : Name} {l : List AVal} (h : mentionsL n l = false) : purgeL n l = l := by
 apply List.ext_getElem?
 intro t
 exact purgeL_at fun v hv => mentionsL_get h hv
/-- The new variable ahead of a slot's being written. -/
theorem showMk_late {ops : Array Oper} {nw : Option Nat} {s s2 : AState} {d : Tmp} {a : AVal} (h : showMk E ops.toList nw (s.put (some d) a) = some s2) (hnd : nwSlot ops nw ≠ some d) :
  ∃ s2', showMk0 E ops.toList nw s = some s2' /\ s2 = s2'.put (some d) a /\ ∀ x, x ≠ d -> nwSlot ops nw ≠ some x -> getT s2'.tmps x = getT s.tmps x := by
 unfold showMk at h
 unfold showMk0
 cases nw with
 | none => simp at h; exact ⟨s, rfl, h.symm, fun _ _ _ => rfl⟩
 | some i =>
  dsimp only at h ⊢
  cases hi : ops.toList[i]? with
  | none => rw [hi] at h; simp at h
  | some o =>
   rw [hi] at h
   dsimp only at h ⊢
   split at h
   ·rename_i t dn hop hd hg
    rw [hop, hd, hg]
    have hns : nwSlot ops (some i) = some dn := by
     unfold nwSlot
     have : ops[i]? = some o := by simpa using hi
     simp only [this, hd]
    rw [hns] at hnd
    have hdn : dn ≠ d := fun e => hnd (by rw [e])
    dsimp only
    cases hty : E.ty t with
    | none => rw [hty] at h; simp at h
    | some ti =>
     rw [hty] at h
     dsimp only at h ⊢
     split at h
     ·rename_i hc
      have hm : mentionsL (.loc dn) (s.tmps.set d a) = false := hc.2.2.2
      rw [if_pos ⟨hc.1, hc.2.1, by simpa [AState.put] using hc.2.2.1⟩]
      simp only [Option.some.injEq] at h
      refine ⟨_, rfl, ?_, ?_⟩
      ·rw [← h]
       simp only [newObj, AState.put]
       rw [purge_self hm, List.set_comm _ _ hdn, purge_set hm]
      intro x hx hxn
      rw [hns] at hxn
      simp only [newObj]
      rw [getT_set_ne (fun e => hxn (by rw [e]))]
      unfold getT
      rw [purge_off hm hx]
     simp at h
   simp at h
/-- The first of the others ahead of the last of those that go ahead. -/
theorem late_step {fh : Bool} {all : List Oper} {oi oj : Oper} {x d : Tmp} {a : AVal} (ha : apartP oi oj = true) (hx : opsL oi.op = [.tmp x]) (hd : oi.dst = some d) {s s2' : AState} {K : AState -> Prop} (hq : stepQ E G fh all oi s = some a) (hxe : getT s2'.tmps x = getT s.tmps x)
  (h : aone (ACalls P G) E G H all oj K (s2'.put (some d) a)) :
  ∃ s3', astep E G (readOnly H.moves all oj) (takeR H all oj) oj s2' = some s3' /\ astep E G true false oi s3' = some (s3'.put (some d) a) /\ K (s3'.put (some d) a) := by
 unfold apartP at ha
 simp only [Bool.and_eq_true, Bool.or_eq_true, Option.isNone_iff_eq_none] at ha
 obtain ⟨⟨⟨⟨g1, g2⟩, g3⟩, g4⟩, g5⟩ := ha
 have hof : isCall oi.op = none /\ isAlloc oi.op = false /\ (∀ vals, looks oi.op vals = none) /\ (opsL oj.op).any (isTmp x) = false /\ (opsL oj.op).any (isTmp d) = false /\ oj.dst ≠ some x /\ oj.dst ≠ some d := by
  split at g5
  ·rename_i y k d' e1 e2
   rw [e1] at hx ⊢
   simp [opsL] at hx
   subst hx
   rw [hd] at e2
   simp at e2
   subst e2
   simp only [Bool.and_eq_true, Bool.not_eq_true', bne_iff_ne] at g5
   exact ⟨rfl, rfl, fun _ => rfl, g5.1.1.1, g5.1.1.2, g5.1.2, g5.2⟩
  ·rename_i y d' e1 e2
   rw [e1] at hx ⊢
   simp [opsL] at hx
   subst hx
   rw [hd] at e2
   simp at e2
   subst e2
   simp only [Bool.and_eq_true, Bool.not_eq_true', bne_iff_ne] at g5
   exact ⟨rfl, rfl, fun _ => rfl, g5.1.1.1, g5.1.1.2, g5.1.2, g5.2⟩
  simp at g5
 obtain ⟨hc, hal, hl, h1, h2, hpx, hpd⟩ := hof
 unfold aone at h
 simp only [g2, wantedA, g4, if_true] at h
 split at h
 ·rename_i s3 hs3
  obtain ⟨v, k1, k2⟩ := astep_tmps g3 hs3
  have k1 := k1 s2'.tmps (by
   intro t ht
   have htd : d ≠ t := fun e => by rw [← e, h2] at ht; simp at ht
   simp only [AState.put]
   rw [getT_set_ne htd])
  have hst : ({ (s2'.put (some d) a) with tmps := s2'.tmps } : AState) = s2' := rfl
  rw [hst] at k1
  have hs3e : s3 = ({ s3 with tmps := dstSet (dropT s2'.tmps (mvQ (readOnly H.moves all oj) oj.op) (opsL oj.op)) oj.dst v } : AState).put (some d) a := by
   obtain ⟨t3, l3, h3, n3⟩ := s3
   simp only [AState.put] at k2 ⊢
   rw [k2, dropT_set h2, dstSet_set hpd]
  refine ⟨_, k1, ?_, by rw [← hs3e]; exact h⟩
  unfold stepQ at hq
  simp only [g1, wantedA, if_true, hal, Bool.false_eq_true, if_false, hc] at hq
  split at hq
  ·split at hq
   ·rename_i out hout
    split at hq
    ·rename_i hk
     simp only [Option.some.injEq] at hq
     have hla : ∀ s4 : AState, ∀ vals, lookedAt s4 oi.op vals = none := fun s4 vals => by unfold lookedAt; rw [hl]
     rw [hla] at hout
     have hgx : getT (dstSet (dropT s2'.tmps (mvQ (readOnly H.moves all oj) oj.op) (opsL oj.op)) oj.dst v) x = getT s.tmps x := by rw [dstSet_get hpx, drop_get h1, hxe]
     have hv : evalArgs G ({ s3 with tmps := dstSet (dropT s2'.tmps (mvQ (readOnly H.moves all oj) oj.op) (opsL oj.op)) oj.dst v } : AState) none 0 (opsL oi.op) = evalArgs G s none 0 (opsL oi.op) := by
      rw [hx]
      simp only [evalArgs, aeval, hgx]
     have hm : mvQ true oi.op = none := rfl
     unfold astep
     rw [hm, hv, hla, hout]
     simp only [astepOut, hk, dropOwn, hd, hq]
    simp at hq
   simp at hq
  simp at hq
 exact h.elim
theorem step_wp (hE : E.Ok P) (ops : Array Oper) {i : Nat} {o : Oper} (hi : ops[i]? = some o) (hg : o.guard = none) {q take : Bool} {s s' : AState} (hst : astep E G q take o s = some s') {Qx : Exit -> Act -> World -> Prop}
  {w : World} {R : Own} {N : Name -> Option Nat} {act : Act} {bsT bsL bsH bsF : List Nat} (hr : RelB G w R N act.tmps.toList s undef .undef [] bsT bsL bsH bsF) (hd : act.defers = D) :
  wpOpIn (rdF rd) 1 P ops Qx i (Aft G D (fun s1 => s1 = s') w R N bsF) act w := by
 unfold wpOpIn
 simp only [hi]
 have hwt := wanted_sound (ops := ops) (o := o) (b := true) hr.tmps (by rw [hg]; rfl)
 rw [hwt, if_pos rfl]
 refine oper_in ?_ rd ?_
 ·cases ho : o.op <;> first | rfl | (simp [astep, aop, ho] at hst)
 obtain ⟨cv, w', hran, ⟨R', N', bsT', bsL', bsH', hr', hk', hN', _⟩, _⟩ := astep_sound hE hst hr
 exact ran_wp hran ⟨s', R', N', bsT', bsL', bsH', rfl, hr', by rw [(put_act act o.dst cv).2]; exact hd, hk', fun o b h => hN' _ _ h⟩
/-- The new variable comes into sight. -/
theorem showMk_sound {ops : Array Oper} {w : World} {R : Own} {N : Name -> Option Nat} {act : Act} {bsT bsL bsH bsX bsF : List Nat} {nw : Option Nat} {s s' : AState} (h : showMk0 E ops.toList nw s = some s')
  (hr : RelB G w R N act.tmps.toList s undef .undef [] bsT bsL bsH (bsX ++ bsF))
  (hf : ∀ i o t d ti, nw = some i -> ops[i]? = some o -> o.op = .alloc t -> o.dst = some d -> o.guard = none -> E.ty t = some ti -> d < act.tmps.size ->
   ∃ b, b ∈ bsX /\ act.tmps[d]? = some (.pointer (some ⟨b, 0, none⟩)) /\ RepObj w R N (.cells (acells (ofConst ti.zero))) b []) :
  ∃ N' bsT' bsL', RelB G w R N' act.tmps.toList s' undef .undef [] bsT' bsL' bsH bsF /\ ∀ k, N' (.out k) = N (.out k) := by
 cases nw with
 | none =>
  simp [showMk0] at h
  subst h
  refine ⟨N, bsT, bsL, ⟨hr.val, hr.tmps, hr.locs, hr.heap, ?_, hr.next, hr.glob, fun b hb => hr.frame b (by simp [hb])⟩, fun _ => rfl⟩
  refine List.Nodup.sublist ?_ hr.nodup
  exact List.Sublist.append (.refl _) (List.Sublist.append (.refl _) (List.Sublist.append (.refl _) (List.Sublist.append (.refl _) (List.sublist_append_right _ _))))
 | some i =>
  simp only [showMk0] at h
  split at h
  ·rename_i o ho
   split at h
   ·rename_i t d hop hd hg
    split at h
    ·rename_i ti hti
     split at h
     ·rename_i hcond
      simp at h
      subst h
      have hsz : act.tmps.size = s.tmps.length := by have := hr.tmps.length; simpa using this
      obtain ⟨b, hbX, hdt, hobj⟩ := hf i o t d ti rfl (by simpa using ho) hop hd hg hti (by rw [hsz]; exact hcond.2.2)
      have hN : ∀ m, m ≠ Name.loc d -> setN N (.loc d) b m = N m := fun m hm => by simp [setN, hm]
      obtain ⟨bsT2, t1, t2⟩ := RepVs.purge hN hr.tmps
      obtain ⟨bsL2, l1, l2⟩ := RepObjs.purge hN hr.locs
      have hob2 : RepObj w R (setN N (.loc d) b) (.cells (acells (ofConst ti.zero))) b [] := repObj_other hobj (fun cs hcs => by simp at hcs; subst hcs; exact hcond.2.1)
      have hH2 : RepObjs w R (outs (setN N (.loc d) b)) s.heap bsH := hr.heap.outs_eq (fun k => by simp [setN])
      have hpv : RepV w R (setN N (.loc d) b) (.ptr (.loc d) 0) (.pointer (some ⟨b, 0, none⟩)) [] := by simp [RepV, setN]
      have hnd3 : ([] ++ (bsT2 ++ ((b :: ([] ++ bsL2)) ++ (bsH ++ bsF)))).Nodup := by
       have h0 := hr.nodup
       obtain ⟨x1, x2, e⟩ := List.append_of_mem hbX
       subst e
       have h1 : (b :: (bsT ++ (bsL ++ (bsH ++ bsF)))).Nodup := by
        have hp : ([] ++ (bsT ++ (bsL ++ (bsH ++ ((x1 ++ b :: x2) ++ bsF))))).Perm ((x1 ++ x2) ++ (b :: (bsT ++ (bsL ++ (bsH ++ bsF))))) := by
         rw [List.perm_iff_count]; intro q; simp only [List.count_append, List.count_cons, List.count_nil]; omega
        exact (List.nodup_append.1 (hp.nodup_iff.1 h0)).2.1
       have hp : ([] ++ (bsT2 ++ ((b :: ([] ++ bsL2)) ++ (bsH ++ bsF)))).Perm (b :: (bsT2 ++ (bsL2 ++ (bsH ++ bsF)))) := by rw [List.perm_iff_count]; intro q; simp only [List.count_append, List.count_cons, List.count_nil]; omega
       refine hp.nodup_iff.2 (List.Nodup.sublist ?_ h1)
       exact (List.Sublist.append t2 (List.Sublist.append l2 (.refl _))).cons_cons _
      obtain ⟨bsT'', hp1, hp2⟩ := put_tmps d t1 hpv hnd3
      have hdt' : act.tmps.toList[d]? = some (.pointer (some ⟨b, 0, none⟩)) := by simpa using hdt
      have hsame : act.tmps.toList.set d (.pointer (some ⟨b, 0, none⟩)) = act.tmps.toList := by
       apply List.ext_getElem?
       intro j
       rw [List.getElem?_set]
       split
       ·rename_i hj; subst hj; split
        ·exact hdt'.symm
        rename_i hl; rw [List.getElem?_eq_none (by omega)]
       rfl
      rw [hsame] at hp1
      refine ⟨setN N (.loc d) b, bsT'', b :: ([] ++ bsL2), ⟨repV_undef _, ?_, ?_, ?_, by simpa using hp2, ?_, hr.glob, fun x hx => hr.frame x (by simp [hx])⟩, fun k => by simp [setN]⟩
      ·simp only [newObj, newVal]; exact hp1
      ·simp only [newObj]; exact ⟨b, [], bsL2, rfl, by simp [setN], hob2, l1⟩
      ·simp only [newObj]; exact hH2
      intro k c hk
      simp [setN] at hk
      simp only [newObj]
      exact hr.next k c hk
     simp at h
    simp at h
   simp at h
  simp at h
theorem chkPre_listed {ops : Array Oper} : ∀ (r : List (Nat × Bool)) (l : Array Bool), chkPre ops r l = true -> l.size = ops.size -> ∀ x ∈ r, (preAll r l)[x.1]? = some true
 | [], _, _, _, x, hx => by simp at hx
 |(i, lone) :: r, l, hc, hsz, x, hx => by
  simp only [chkPre, Bool.and_eq_true] at hc
  rcases List.mem_cons.1 hx with rfl | hx
  ·simp only [preAll]
   apply preAll_true
   have hrd : i ∈ Region.ready .any ops l := by
    cases lone
    ·have := hc.1; simp at this; simpa using this.1
    have := hc.1; simp at this; rw [this]; simp
   obtain ⟨_, o, ho, _⟩ := mem_ready.1 hrd
   have hlt : i < l.size := by rw [hsz]; exact (Array.getElem?_eq_some_iff.1 ho).1
   simp [setL, hlt]
  exact chkPre_listed r (setL l i) hc.2 (by simpa [setL] using hsz) x hx
/-- The operations that go ahead or come up alone, in whatever order. -/
theorem aanyP_sound (hE : E.Ok P) {ops : Array Oper} {h : RHint} (hc : chkSlots ops h = true) (hca : chkApp ops h = true) (hcst : chkStores ops h = true) {p : Array Bool} {Q : AState -> Prop} {Kx : Exit -> Act -> World -> Prop} (hall : ∀ x ∈ h.pre, p[x.1]? = some true) (htail : chkTail ops h.tail p = true) :
  ∀ (fuel F : Nat) (listed : Array Bool) (s : AState), fuel + h.tail.length <= F -> listed.size = ops.size -> Closed ops listed ->
   aanyP P E G H ops h p (fun s1 => match showMk E ops.toList h.nw s1 with
    | some s2 => aops (ACalls P G) E G H ops.toList Q (pickOps ops.toList h.tail) s2
    | none => False) fuel listed s ->
   ∀ (w : World) (R : Own) (N : Name -> Option Nat) (act : Act) (bsT bsL bsH bsX bsF : List Nat), PRel E G H ops h listed w R N act s bsT bsL bsH bsX bsF -> act.defers = D ->
   (∀ a' w', Aft G D Q w R N bsF a' w' -> Kx .normal a' w') -> wpAnyIn (rdF rd) 1 P .any ops Kx F listed act w := by
 have hfin : ∀ (F : Nat) (s : AState), h.tail.length <= F -> (match showMk E ops.toList h.nw s with
    | some s2 => aops (ACalls P G) E G H ops.toList Q (pickOps ops.toList h.tail) s2
    | none => False) ->
   ∀ (w : World) (R : Own) (N : Name -> Option Nat) (act : Act) (bsT bsL bsH bsX bsF : List Nat), PRel E G H ops h p w R N act s bsT bsL bsH bsX bsF -> act.defers = D ->
   (∀ a' w', Aft G D Q w R N bsF a' w' -> Kx .normal a' w') -> wpAnyIn (rdF rd) 1 P .any ops Kx F p act w := by
  intro F s hF hT w R N act bsT bsL bsH bsX bsF hp hd hK
  have hin : ∀ i, i ∈ h.nw.toList ++ h.tk -> p[i]? = some true := by
   intro i hi
   unfold chkSlots at hc
   have h1 := List.all_eq_true.1 hc i hi
   simp only [Bool.and_eq_true] at h1
   exact hall (i, false) (by simpa using h1.1)
  split at hT
  ·rename_i s3 hs3
   obtain ⟨N3, bsT3, bsL3, hr3, hN3⟩ := showMk_sound (showMk_zero hs3) hp.rel (fun i o t d ti hi ho hop hd hg hty hlt => hp.nwf i o t d ti hi (hin i (by simp [hi])) ho hop hd hg hty hlt)
   exact atail_sound hE ops Q Kx h.tail p F s3 htail hF hT w R N3 act bsT3 bsL3 bsH bsF hr3 hd (fun a' w' h' => hK a' w' (h'.trans (keep_refl _) (fun o b hb => by rw [hN3]; exact hb)))
  exact hT.elim
 have lateCase : ∀ {fuel : Nat} (F : Nat) (listed : Array Bool) (s : AState), fuel + 1 + h.tail.length <= F -> listed.size = ops.size -> Closed ops listed -> ∀ (i : Nat) (oi : Oper) (a : AVal), setL listed i = p -> lateOk ops h p i = true -> ops[i]? = some oi -> (i, false) ∈ h.pre ->
   i ∈ Region.ready .any ops listed -> stepQ E G (quietHeap H ops.toList h.pre || quietAt H ops.toList h.pre i) ops.toList oi s = some a ->
   (match showMk E ops.toList h.nw (s.put oi.dst a) with
    | some s2 => aops (ACalls P G) E G H ops.toList Q (pickOps ops.toList h.tail) s2
    | none => False) ->
   ∀ (w : World) (R : Own) (N : Name -> Option Nat) (act : Act) (bsT bsL bsH bsX bsF : List Nat), PRel E G H ops h listed w R N act s bsT bsL bsH bsX bsF -> act.defers = D ->
   (∀ a' w', Aft G D Q w R N bsF a' w' -> Kx .normal a' w') -> wpAnyIn (rdF rd) 1 P .any ops Kx F listed act w := by
  intro fuel F listed s hF hsz hcl i oi a hpe hlt hoi hm hri hq hT w R N act bsT bsL bsH bsX bsF hp hd hK
  have hun := unlisted_of_ready hri hsz
  have hb := set_back hun hpe
  have hlt0 := hlt
  unfold lateOk at hlt
  split at hlt
  ·simp at hlt
  ·rename_i j r htl
   rw [hb] at hlt
   simp only [Bool.and_eq_true, Bool.or_eq_true, beq_iff_eq] at hlt
   obtain ⟨⟨⟨⟨⟨⟨⟨hrd, hrj⟩, hrp⟩, hct⟩, _⟩, hnw⟩, htk⟩, hlast⟩ := hlt
   split at hlast
   rotate_left
   ·simp at hlast
   rename_i oi' oj hoi' hoj
   rw [hoi] at hoi'
   simp at hoi'
   subst hoi'
   simp only [Bool.and_eq_true] at hlast
   obtain ⟨⟨hap, hxs⟩, hnd⟩ := hlast
   obtain ⟨F', rfl⟩ : ∃ F', F = F' + 1 := ⟨F - 1, by omega⟩
   -- i first
   have hi : wpOpIn (rdF rd) 1 P ops Kx i (wpAnyIn (rdF rd) 1 P .any ops Kx F' (listed.setIfInBounds i true)) act w := by
    refine q_step hE hc hp hcl hd hoi hun hm hq ?_
    intro cv w' R' bsT' bsX' hp' hk
    rw [show listed.setIfInBounds i true = p from hpe]
    rw [hpe] at hp'
    exact hfin F' _ (by omega) hT w' R' N _ bsT' bsL bsH bsX' bsF hp' (by rw [(put_act act oi.dst cv).2]; exact hd) (fun a' w2 h' => hK a' w2 (h'.trans hk (fun _ _ hb => hb)))
   -- j first
   have hj : wpOpIn (rdF rd) 1 P ops Kx j (wpAnyIn (rdF rd) 1 P .any ops Kx F' (listed.setIfInBounds j true)) act w := by
    obtain ⟨x, d, hx, hdd⟩ : ∃ x d, opsL oi.op = [.tmp x] /\ oi.dst = some d := by
     have hap' := hap
     unfold apartP at hap'
     simp only [Bool.and_eq_true] at hap'
     have g5 := hap'.2
     split at g5
     ·rename_i x k d e1 e2; exact ⟨x, d, by rw [e1]; rfl, e2⟩
     ·rename_i x d e1 e2; exact ⟨x, d, by rw [e1]; rfl, e2⟩
     simp at g5
    rw [hdd] at hT
    split at hT
    ·rename_i s2 hs2
     have hnd' : nwSlot ops h.nw ≠ some d := by rw [← hdd]; simpa using hnd
     obtain ⟨s2', hm0, rfl, hgx⟩ := showMk_late hs2 hnd'
     rw [hx, hdd] at hxs
     simp at hxs
     have hxd : x ≠ d := fun e => by have := hxs.1; rw [e] at this; simp [isTmp] at this
     have hxn : nwSlot ops h.nw ≠ some x := fun e => by
      have := hxs.2
      rw [e] at this
      simp [isTmp] at this
     have hj' : ops.toList[j]? = some oj := by simpa using hoj
     rw [htl] at hT
     simp only [pickOps, hj', aops, askK_eq] at hT
     obtain ⟨s3', k1, k2, k3⟩ := late_step hap hx hdd hq (hgx x hxd hxn) hT
     have hin : ∀ k, k ∈ h.nw.toList -> listed[k]? = some true := by
      intro k hk
      have h1 := List.all_eq_true.1 (by unfold chkSlots at hc; exact hc) k (List.mem_append_left _ hk)
      simp only [Bool.and_eq_true] at h1
      have h2 := hall (k, false) (by simpa using h1.1)
      have hki : i ≠ k := fun e => by subst e; simp [hk] at hnw
      rw [← hpe] at h2
      unfold setL at h2
      rwa [Array.getElem?_setIfInBounds_ne hki] at h2
     obtain ⟨N3, bsT3, bsL3, hr3, hN3⟩ := showMk_sound hm0 hp.rel (fun k o t dk ti hk ho hop hdk hg hty hlt => hp.nwf k o t dk ti hk (hin k (by simp [hk])) ho hop hdk hg hty hlt)
     have gj : oj.guard = none /\ oi.guard = none := by
      unfold apartP at hap
      simp only [Bool.and_eq_true, Bool.or_eq_true, Option.isNone_iff_eq_none] at hap
      exact ⟨hap.1.1.1.2, hap.1.1.1.1⟩
     refine wpOpIn_mono ?_ (step_wp hE ops hoj gj.1 k1 hr3 hd)
     rintro a' w' ⟨s', R', N', bsT', bsL', bsH', rfl, hr', hd', hk', hN'⟩
     have htl2 : h.tail.length = r.length + 1 := by rw [htl]; rfl
     obtain ⟨F2, rfl⟩ : ∃ F2, F' = F2 + 1 := ⟨F' - 1, by omega⟩
     refine wpAnyIn_all hrj (by simp) ?_
     intro k hk
     simp at hk
     subst hk
     refine wpOpIn_mono ?_ (step_wp hE ops hoi gj.2 k2 hr' hd')
     rintro a2 w2 ⟨s'', R2, N2, bsT2, bsL2, bsH2, rfl, hr2, hd2, hk2, hN2⟩
     have hcm : (listed.setIfInBounds j true).setIfInBounds k true = setL p j := by
      rw [← hpe]
      unfold setL
      by_cases hjk : j = k
      ·subst hjk; rfl
      exact Array.setIfInBounds_comm _ _ hjk
     rw [hcm]
     refine atail_sound hE ops Q Kx r (setL p j) F2 _ hct (by omega) k3 w2 R2 N2 a2 bsT2 bsL2 bsH2 bsF hr2 hd2 (fun a3 w3 h3 => hK a3 w3 ?_)
     exact ((h3.trans hk2 hN2).trans hk' hN').trans (keep_refl _) (fun o b hb => by rw [hN3]; exact hb)
    exact hT.elim
   rcases hrd with hrd | hrd
   ·refine wpAnyIn_all hrd (by simp) ?_
    intro k hk
    simp at hk
    rcases hk with rfl | rfl
    ·exact hi
    exact hj
   refine wpAnyIn_all hrd (by simp) ?_
   intro k hk
   simp at hk
   rcases hk with rfl | rfl
   ·exact hj
   exact hi
 intro fuel
 induction fuel with
 | zero =>
  intro F listed s hF _ _ ha w R N act bsT bsL bsH bsX bsF hp hd hK
  obtain ⟨rfl, hT⟩ := ha
  exact hfin F s (by omega) hT w R N act bsT bsL bsH bsX bsF hp hd hK
 | succ fuel ih =>
  intro F listed s hF hsz hcl ha w R N act bsT bsL bsH bsX bsF hp hd hK
  rcases ha with ⟨rfl, hT⟩ | ⟨_, hne, hsteps⟩ | ⟨i, oi, a, hpe, hlt, hoi, hm, hri, hq, hT⟩
  rotate_right
  ·exact lateCase F listed s hF hsz hcl i oi a hpe hlt hoi hm hri hq hT w R N act bsT bsL bsH bsX bsF hp hd hK
  ·exact hfin F s (by omega) hT w R N act bsT bsL bsH bsX bsF hp hd hK
  obtain ⟨F', rfl⟩ : ∃ F', F = F' + 1 := ⟨F - 1, by omega⟩
  refine ⟨fun h0 => absurd h0 hne, fun i hi => ?_⟩
  obtain ⟨lone, o, hm, ho, hs⟩ := hsteps i hi
  cases lone
  ·simp only [Bool.false_eq_true, if_false] at hs
   obtain ⟨a, ha1, ha2⟩ := hs
   refine q_step hE hc hp hcl hd ho (unlisted_of_ready hi hsz) hm ha1 ?_
   intro cv w' R' bsT' bsX' hp' hk
   exact ih F' (setL listed i) _ (by omega) (by simpa [setL] using hsz) (hcl.step hi) ha2 w' R' N _ bsT' bsL bsH bsX' bsF hp' (by rw [(put_act act o.dst cv).2]; exact hd) (fun a' w2 h' => hK a' w2 (h'.trans hk (fun _ _ hb => hb)))
  simp only [if_true] at hs
  by_cases hnq : isCall o.op = none /\ appSlot o.op = none /\ isStore o.op = false /\ wantedA ops.toList s o.guard = some true
  ·obtain ⟨n1, n2, n3, n4⟩ := hnq
   unfold opL at hs
   simp only [n1, n2, n3, n4, if_true] at hs
   cases ha1 : stepQ E G (quietHeap H ops.toList h.pre) ops.toList o s with
   | none => rw [ha1] at hs; exact hs.elim
   | some a =>
    rw [ha1] at hs
    dsimp only at hs
    refine q_step hE hc hp hcl hd ho (unlisted_of_ready hi hsz) hm ha1 ?_
    intro cv w' R' bsT' bsX' hp' hk
    exact ih F' (setL listed i) _ (by omega) (by simpa [setL] using hsz) (hcl.step hi) hs w' R' N _ bsT' bsL bsH bsX' bsF hp' (by rw [(put_act act o.dst cv).2]; exact hd) (fun a' w2 h' => hK a' w2 (h'.trans hk (fun _ _ hb => hb)))
  refine l_step hE hc hca hcst hp hcl hd ho (unlisted_of_ready hi hsz) hm hi hnq hs ?_
  intro s' cv w' R' N' bsT' bsL' bsH' hKs hp' hk hN
  exact ih F' (setL listed i) s' (by omega) (by simpa [setL] using hsz) (hcl.step hi) hKs w' R' N' _ bsT' bsL' bsH' bsX bsF hp' (by rw [(put_act act o.dst cv).2]; exact hd) (fun a' w2 h' => hK a' w2 (h'.trans hk (fun o b hb => hN _ _ hb)))
/-- A region that is run in each order. -/
theorem aexpl_sound (hE : E.Ok P) {ops : Array Oper} {Q : AState -> Prop} {Kx : Exit -> Act -> World -> Prop} :
  ∀ (m F : Nat) (listed : Array Bool) (s : AState), aexpl (ACalls P G) E G H ops.toList Q m listed s -> m <= F -> ∀ (w : World) (R : Own) (N : Name -> Option Nat) (act : Act) (bsT bsL bsH bsF : List Nat),
   RelB G w R N act.tmps.toList s undef .undef [] bsT bsL bsH bsF -> act.defers = D -> (∀ a' w', Aft G D Q w R N bsF a' w' -> Kx .normal a' w') -> wpAnyIn (rdF rd) 1 P .any ops Kx F listed act w := by
 intro m
 induction m with
 | zero =>
  intro F listed s h _ w R N act bsT bsL bsH bsF hr hd hK
  simp only [aexpl, Array.toArray_toList] at h
  exact wpAnyIn_done h.1 (hK _ _ ⟨s, R, N, bsT, bsL, bsH, h.2, hr, hd, keep_refl _, fun _ _ h => h⟩) F
 | succ m ih =>
  intro F listed s h hF w R N act bsT bsL bsH bsF hr hd hK
  simp only [aexpl, Array.toArray_toList] at h
  rcases h with h | ⟨hne, hall⟩
  ·exact wpAnyIn_done h.1 (hK _ _ ⟨s, R, N, bsT, bsL, bsH, h.2, hr, hd, keep_refl _, fun _ _ h => h⟩) F
  obtain ⟨F', rfl⟩ : ∃ F', F = F' + 1 := ⟨F - 1, by omega⟩
  refine wpAnyIn_all (rs := Region.ready .any ops listed) rfl hne ?_
  intro j hj
  obtain ⟨o, ho, h2⟩ := hall j hj
  refine wpOpIn_mono ?_ (aone_sound hE ops (by simpa using ho) h2 hr hd)
  rintro a' w' ⟨s', R', N', bsT', bsL', bsH', hq, hr', hd', hk', hN'⟩
  exact ih F' _ s' hq (by omega) w' R' N' a' bsT' bsL' bsH' bsF hr' hd' (fun a2 w2 h2 => hK a2 w2 (h2.trans hk' hN'))
theorem quietPre_len : ∀ (r : List (Nat × Bool)), (quietPre r).length <= r.length
 | [] => by simp [quietPre]
 |(i, true) :: r => by simp [quietPre]
 |(i, false) :: r => by simp only [quietPre, List.length_cons]; have := quietPre_len r; omega
theorem preAll_mem : ∀ (r : List (Nat × Bool)) (l : Array Bool) {n : Nat}, l.size = n -> (∀ y ∈ r, y.1 < n) -> ∀ x ∈ r, (preAll r l)[x.1]? = some true
 | [], _, _, _, _, x, hx => by simp at hx
 |(i, b) :: r, l, n, hn, hlt, x, hx => by
  have hs : (setL l i).size = n := by simpa [setL] using hn
  rcases List.mem_cons.1 hx with rfl | hx
  ·have : i < l.size := by rw [hn]; exact hlt (i, b) (by simp)
   exact preAll_true r (setL l i) i (by simp [setL, this])
  exact preAll_mem r (setL l i) hs (fun y hy => hlt y (by simp [hy])) x hx
/-- A region that draws its order. -/
theorem acode_draw (hE : E.Ok P) (hm : P.follows .mixedOrders = true) {id : Nat} {ops : Array Oper} {h : RHint} {Q : Exit -> AState -> Prop} {s : AState} (hc : (explMark h || (if loneMark h = true then chkRL ops (unmark h) else (chkR ops h || neverR ops h))) = true) (hs : adraw (ACalls P G) E G H ops.toList h (Q .normal) s) : ACode P G (.region id ops true) Q s := by
 by_cases hx : explMark h = true
 ·intro w R N act bsT bsL bsH bsF hr D hd
  unfold adraw at hs
  rw [if_pos hx, Array.length_toList] at hs
  refine wpR_region_any hm fun rd => ?_
  have hst : Step w R { w with drawn := w.drawn + 1 } R := ⟨rfl, rfl, rfl, Nat.le_refl _, fun _ _ h => ⟨rfl, h⟩, fun _ _ _ h => ⟨h, rfl⟩, fun _ _ => rfl⟩
  have hkeep : ∀ bs, Keep w R { w with drawn := w.drawn + 1 } R bs := fun bs => ⟨hst, fun _ _ _ => ⟨rfl, fun _ h => h⟩⟩
  have hr' : RelB G { w with drawn := w.drawn + 1 } R N act.tmps.toList s undef .undef [] bsT bsL bsH bsF :=
   ⟨repV_undef _, hr.tmps.keep (hkeep _), hr.locs.keep (hkeep _), hr.heap.keep (hkeep _), hr.nodup, hr.next, fun g cs hg => (hr.glob g cs hg).step hst, hr.frame⟩
  refine aexpl_sound hE ops.size ops.size _ s hs (Nat.le_refl _) _ R N act bsT bsL bsH bsF hr' hd ?_
  rintro a' w' ⟨s', R', N', bsT', bsL', bsH', ⟨s0, hq, hren⟩, hr2, hd', hk', hN'⟩
  obtain ⟨N2, bsT2, bsL2, bsH2, hr3, hN2⟩ := hren _ _ _ _ _ _ _ _ hr2
  exact ⟨s0, R', N2, bsT2, bsL2, bsH2, hq, hr3, hd', (hkeep _).trans hk', fun o b hb => hN2 o b (hr.next o b hb) (hN' o b hb)⟩
 have hxf : explMark h = false := by simpa using hx
 rw [hxf, Bool.false_or] at hc
 unfold adraw at hs
 rw [if_neg hx] at hs
 by_cases hlm : loneMark h = true
 ·rw [if_pos hlm] at hc hs
  obtain ⟨h', hh'⟩ : ∃ h', h' = unmark h := ⟨_, rfl⟩
  rw [← hh'] at hc hs
  clear hlm hx hxf hh'
  intro w R N act bsT bsL bsH bsF hr D hd
  unfold chkRL at hc
  simp only [Bool.and_eq_true, decide_eq_true_eq] at hc
  obtain ⟨⟨⟨⟨⟨⟨⟨hpre, hlast⟩, htail⟩, hslots⟩, happ⟩, hstores⟩, hlen⟩, hidx⟩ := hc
  refine wpR_region_any hm fun rd => ?_
  unfold adrawL at hs
  rw [Array.length_toList] at hs
  have hql : (quietPre h'.pre).length <= h'.pre.length := quietPre_len h'.pre
  have hclo : Closed ops (Array.replicate ops.size false) := fun d o hd => by
   rw [Array.getElem?_replicate] at hd
   split at hd <;> simp at hd
  have hall : ∀ x ∈ h'.pre, (preAll h'.pre (Array.replicate ops.size false))[x.1]? = some true := fun x hx => preAll_mem h'.pre _ (n := ops.size) (by simp) (fun y hy => by have := List.all_eq_true.1 hidx y hy; simpa using this) x hx
  have hord := aanyP_of_quiet (P := P) (E := E) (G := G) (H := H) hslots happ hstores hlast hall (h'.pre.length - (quietPre h'.pre).length) (quietPre h'.pre) (Array.replicate ops.size false) s (fun _ h => quietPre_sub h) (by simp) hclo hpre (fun s' h => aanyP_of_lone _ _ _ h) hs
  have hst : Step w R { w with drawn := w.drawn + 1 } R := ⟨rfl, rfl, rfl, Nat.le_refl _, fun _ _ h => ⟨rfl, h⟩, fun _ _ _ h => ⟨h, rfl⟩, fun _ _ => rfl⟩
  have hkeep : ∀ bs, Keep w R { w with drawn := w.drawn + 1 } R bs := fun bs => ⟨hst, fun _ _ _ => ⟨rfl, fun _ h => h⟩⟩
  have hr' : RelB G { w with drawn := w.drawn + 1 } R N act.tmps.toList s undef .undef [] bsT bsL bsH ([] ++ bsF) :=
   ⟨repV_undef _, hr.tmps.keep (hkeep _), hr.locs.keep (hkeep _), hr.heap.keep (hkeep _), hr.nodup, hr.next, fun g cs hg => (hr.glob g cs hg).step hst, hr.frame⟩
  have hnone : ∀ (i : Nat), (Array.replicate ops.size false)[i]? ≠ some true := by
   intro i hi
   rw [Array.getElem?_replicate] at hi
   split at hi <;> simp at hi
  refine aanyP_sound hE hslots happ hstores hall htail _ ops.size _ s (by omega) (by simp) hclo hord _ R N act bsT bsL bsH [] bsF ⟨hr', ?_, ?_⟩ hd ?_
  ·intro i o t d ti _ hl
   exact absurd hl (hnone i)
  ·intro i o T u t n off ob _ hl
   exact absurd hl (hnone i)
  intro a' w' h'
  exact h'.trans (hkeep _) (fun _ _ h => h)
 rw [if_neg hlm] at hc hs
 rw [Bool.or_eq_true] at hc
 rcases hc with hc | hc
 rotate_left
 ·exfalso
  unfold neverR at hc
  simp only [Bool.and_eq_true, List.isEmpty_iff] at hc
  obtain ⟨h1, h2⟩ := hc
  rw [h1] at hs
  simp only [aordP] at hs
  split at h2
  ·rename_i k hk
   rw [hk] at hs
   have : ops.toList[k]? = none := by simpa using h2
   simp only [showMk, this] at hs
  simp at h2
 intro w R N act bsT bsL bsH bsF hr D hd
 unfold chkR at hc
 simp only [Bool.and_eq_true, decide_eq_true_eq] at hc
 obtain ⟨⟨⟨⟨⟨⟨⟨_, hpre⟩, hlast⟩, htail⟩, hslots⟩, happ⟩, hstores⟩, hlen⟩ := hc
 refine wpR_region_any hm fun rd => ?_
 have hord := aanyP_of_order (P := P) (E := E) (G := G) (H := H) hslots happ hstores hlast h.pre (Array.replicate ops.size false) s h.pre.length (fun _ h => h) (by simp) (fun d o hd => by rw [Array.getElem?_replicate] at hd; split at hd <;> simp at hd) rfl hpre (Nat.le_refl _) hs
 have hst : Step w R { w with drawn := w.drawn + 1 } R := ⟨rfl, rfl, rfl, Nat.le_refl _, fun _ _ h => ⟨rfl, h⟩, fun _ _ _ h => ⟨h, rfl⟩, fun _ _ => rfl⟩
 have hkeep : ∀ bs, Keep w R { w with drawn := w.drawn + 1 } R bs := fun bs => ⟨hst, fun _ _ _ => ⟨rfl, fun _ h => h⟩⟩
 have hr' : RelB G { w with drawn := w.drawn + 1 } R N act.tmps.toList s undef .undef [] bsT bsL bsH ([] ++ bsF) :=
  ⟨repV_undef _, hr.tmps.keep (hkeep _), hr.locs.keep (hkeep _), hr.heap.keep (hkeep _), hr.nodup, hr.next, fun g cs hg => (hr.glob g cs hg).step hst, hr.frame⟩
 have hnone : ∀ (i : Nat), (Array.replicate ops.size false)[i]? ≠ some true := by
  intro i hi
  rw [Array.getElem?_replicate] at hi
  split at hi <;> simp at hi
 refine aanyP_sound hE hslots happ hstores (chkPre_listed h.pre _ hpre (by simp)) htail h.pre.length ops.size _ s hlen (by simp) (fun d o hd => by rw [Array.getElem?_replicate] at hd; split at hd <;> simp at hd) hord _ R N act bsT bsL bsH [] bsF ⟨hr', ?_, ?_⟩ hd ?_
 ·intro i o t d ti _ hl
  exact absurd hl (hnone i)
 ·intro i o T u t n off ob _ hl
  exact absurd hl (hnone i)
 intro a' w' h'
 exact h'.trans (hkeep _) (fun _ _ h => h)
end
end Go.Tp

namespace Go.Tp
section
variable {P : Program} {E : TEnv} {G : Globs} {H : Hints} {D : List Deferred}
theorem CPost.trans {Q : Exit -> AState -> Prop} {w w1 : World} {R R1 : Own} {N N1 : Name -> Option Nat} {bsF : List Nat} (hk : Keep w R w1 R1 bsF) (hN : ∀ o b, N (.out o) = some b -> N1 (.out o) = some b) {e : Exit} {a : Act} {w2 : World}
  (h : CPost G D Q w1 R1 N1 bsF e a w2) : CPost G D Q w R N bsF e a w2 := by
 obtain ⟨s', R', N', bsT, bsL, bsH, hq, hr, hd, hk', hN'⟩ := h
 exact ⟨s', R', N', bsT, bsL, bsH, hq, hr, hd, hk.trans hk', fun o b h => hN' o b (hN o b h)⟩
theorem acode_seq {x y : Code} {Q : Exit -> AState -> Prop} {s : AState} (h : ACode P G x (fun e s' => match e with | .normal => ACode P G y Q s' | e => Q e s') s) : ACode P G (.seq x y) Q s := by
 intro w R N act bsT bsL bsH bsF hr D hd
 apply wpR_seq
 refine wpR_mono (h w R N act bsT bsL bsH bsF hr hd) ?_
 rintro e a w' ⟨s', R', N', bsT', bsL', bsH', hq, hr', hd', hk, hN⟩
 cases e with
 | normal => exact wpR_mono (hq w' R' N' a bsT' bsL' bsH' bsF hr' hd') (fun e a w h => h.trans hk hN)
 | _ => exact ⟨s', R', N', bsT', bsL', bsH', hq, hr', hd', hk, hN⟩
theorem ACode.mono {c : Code} {Q Q' : Exit -> AState -> Prop} {s : AState} (h : ACode P G c Q s) (hq : ∀ e s, Q e s -> Q' e s) : ACode P G c Q' s := by
 intro w R N act bsT bsL bsH bsF hr D hd
 refine wpR_mono (h w R N act bsT bsL bsH bsF hr hd) ?_
 rintro e a w' ⟨s', R', N', bsT', bsL', bsH', hQ, rest⟩
 exact ⟨s', R', N', bsT', bsL', bsH', hq _ _ hQ, rest⟩
theorem acode_here {c : Code} {e : Exit} {Q : Exit -> AState -> Prop} {s : AState} (hc : ∀ {Q : Exit -> Act -> World -> Prop} {a : Act} {w : World}, Q e a w -> c.wpR P Q a w) (h : Q e s) : ACode P G c Q s := by
 intro w R N act bsT bsL bsH bsF hr D hd
 exact hc ⟨s, R, N, bsT, bsL, bsH, h, hr, hd, keep_refl _, fun _ _ h => h⟩
theorem awp_sound (hE : E.Ok P) : ∀ (c : Code) (Q : Exit -> AState -> Prop) (s : AState), chkAll H c = true -> awp (ACalls P G) (ACode P G) E G H c Q s -> ACode P G c Q s
 | .skip, Q, s, _, h => acode_here wpR_skip h
 | .region id ops draw, Q, s, hc, h => by
  cases draw
  ·exact acode_region hE (by simpa [awp] using h)
  simp only [awp, if_true] at h
  exact acode_draw hE hE.mixed (by simpa [chkAll] using hc) h
 | .seq x y, Q, s, hc, h => by
  simp only [chkAll, Bool.and_eq_true] at hc
  refine acode_seq ((awp_sound hE x _ s hc.1 (by simpa only [awp] using h)).mono ?_)
  intro e s' hq
  cases e with
  | normal => exact awp_sound hE y Q s' hc.2 hq
  | _ => exact hq
 | .cond c x y, Q, s, hc, h => by
  simp only [chkAll, Bool.and_eq_true] at hc
  intro w R N act bsT bsL bsH bsF hr D hd
  simp only [awp] at h
  split at h
  ·rename_i b hb
   obtain ⟨bs, he⟩ := eval_raw hr.tmps hr.glob c
   rw [hb] at he
   obtain ⟨_, he, _⟩ := repV_flat_inv he
   refine wpR_cond he ?_
   cases b
   ·simp only [Bool.false_eq_true, if_false] at h ⊢; exact awp_sound hE y Q s hc.2 h w R N act bsT bsL bsH bsF hr hd
   simp only [if_true] at h ⊢; exact awp_sound hE x Q s hc.1 h w R N act bsT bsL bsH bsF hr hd
  exact h.elim
 | .block id c, Q, s, hc, h => by
  simp only [chkAll] at hc
  intro w R N act bsT bsL bsH bsF hr D hd
  apply wpR_block
  refine wpR_mono (awp_sound hE c _ s hc (by simpa only [awp] using h) w R N act bsT bsL bsH bsF hr hd) ?_
  rintro e a w' ⟨s', R', N', bsT', bsL', bsH', hq, rest⟩
  cases e with
  | exit i =>
   simp only [Exit.inBlock]
   simp only [blockQ, Nat.beq_eq] at hq
   by_cases hi : i = id
   ·rw [if_pos hi]
    rw [if_pos hi] at hq
    exact ⟨s', R', N', bsT', bsL', bsH', hq, rest⟩
   rw [if_neg hi]
   rw [if_neg hi] at hq
   exact ⟨s', R', N', bsT', bsL', bsH', hq, rest⟩
  | _ => exact ⟨s', R', N', bsT', bsL', bsH', hq, rest⟩
 | .exit id, Q, s, _, h => acode_here wpR_exit h
 | .ret, Q, s, _, h => acode_here wpR_ret h
 | .loop _, _, _, _, h => h
 | .rangeFunc _ _ _ _, _, _, _, h => h
 | .scope _, _, _, _, h => h
 | .label _, _, _, _, h => h
 | .goto _, _, _, _, h => h
 | .refuse _, _, _, _, h => h
/-! #### Results -/
theorem tidy_rep {w : World} {R : Own} {N : Name -> Option Nat} {a : AVal} {v : Value} {bs : List Nat} (h : RepV w R N a v bs) : ∃ bs', RepV w R N (tidy a) v bs' /\ bs'.Sublist bs := by
 unfold tidy
 split
 ·exact ⟨[], unOwn_rep h, List.nil_sublist _⟩
 exact ⟨bs, h, .refl _⟩
theorem tidyL_rep {w : World} {R : Own} {N : Name -> Option Nat} : ∀ {as : List AVal} {vs : List Value} {bs : List Nat}, RepVs w R N as vs bs -> ∃ bs', RepVs w R N (tidyL as) vs bs' /\ bs'.Sublist bs
 | [], _, _, h => by obtain ⟨rfl, rfl⟩ := repVs_nil_inv h; exact ⟨[], repVs_nil, .refl _⟩
 | a :: as, _, _, h => by
  obtain ⟨v, vs', b1, b2, rfl, rfl, h1, h2⟩ := repVs_cons_inv h
  obtain ⟨c1, k1, k2⟩ := tidy_rep h1
  obtain ⟨c2, k3, k4⟩ := tidyL_rep h2
  exact ⟨c1 ++ c2, by simpa [tidyL] using repVs_cons k1 k3, List.Sublist.append k2 k4⟩
/-- What one result reads as. -/
def resSem (tmps : Array Value) : ResultVar -> Sem Value
 | .tmp t => pure (tmps.getD t undef)
 | .cell a t => do loadVar t (← asAddr (tmps.getD a undef))
theorem retVals_sound (hE : E.Ok P) {w : World} {R : Own} {N : Name -> Option Nat} {act : Act} (hg : ∀ g cs, G g = some cs -> GlobAt w R g cs) : ∀ (rs : List ResultVar) {s : AState} {vs : List AVal} {bsT bsL bsH rest : List Nat}, retVals E s rs = some vs ->
  RepVs w R N s.tmps act.tmps.toList bsT -> RepObjs w R N s.locs bsL -> RepObjs w R (outs N) s.heap bsH -> (bsT ++ rest).Nodup ->
  ∃ cvs bsM bsT', (rs.mapM (resSem act.tmps)).run P w = .ok cvs w /\ RepVs w R N vs cvs bsM /\ cvs.length = rs.length /\ (bsM ++ (bsT' ++ rest)).Nodup
 | [], s, vs, bsT, bsL, bsH, rest, h, ht, _, _, hnd => by
  simp [retVals] at h
  subst h
  exact ⟨[], [], bsT, by simp, repVs_nil, rfl, by simpa using hnd⟩
 | .tmp t :: rs, s, vs, bsT, bsL, bsH, rest, h, ht, hl, hh, hnd => by
  simp only [retVals] at h
  split at h
  ·rename_i vs' hvs
   simp at h
   subst h
   obtain ⟨bM, bT, h1, h2, h3, _⟩ := args_take ht hg (some 0) [.tmp t] rest hnd
   obtain ⟨b0, e0, hb0⟩ := repVs_one h1
   simp only [evalArgs, if_true, List.cons.injEq, and_true] at e0
   subst e0
   obtain ⟨q1, q2, _⟩ := drop_locs s (some 0) [.tmp t]
   have hnd2 : (bT ++ (bM ++ rest)).Nodup := by
    have hp : (bT ++ (bM ++ rest)).Perm (bM ++ (bT ++ rest)) := List.perm_append_comm_assoc _ _ _
    exact hp.nodup_iff.2 h3
   obtain ⟨cvs, bM2, bT2, k1, k2, k3, k4⟩ := retVals_sound hE hg rs hvs h2 (by rw [q1]; exact hl) (by rw [q2]; exact hh) hnd2
   refine ⟨act.eval (.tmp t) :: cvs, bM ++ bM2, bT2, ?_, repVs_cons hb0 k2, by simp [k3], ?_⟩
   ·simp only [List.mapM_cons, Sem.run_bind, resSem, Sem.run_pure, Result.andThen_ok, k1]
    rfl
   have hp : ((bM ++ bM2) ++ (bT2 ++ rest)).Perm (bM2 ++ (bT2 ++ (bM ++ rest))) := by
    rw [List.perm_iff_count]; intro q; simp only [List.count_append]; omega
   exact hp.nodup_iff.2 k4
  simp at h
 | .cell a t :: rs, s, vs, bsT, bsL, bsH, rest, h, ht, hl, hh, hnd => by
  simp only [retVals] at h
  split at h
  ·rename_i v vs' hv hvs
   simp at h
   subst h
   obtain ⟨cvs, bM2, bT2, k1, k2, k3, k4⟩ := retVals_sound hE hg rs hvs ht hl hh hnd
   unfold cellVal at hv
   split at hv
   ·rename_i n off hp
    split at hv
    ·rename_i cs i hob hty
     have hget : s.tmps[a]? = some (.ptr n off) := by
      unfold getT at hp
      cases hs : s.tmps[a]? with
      | none => rw [hs] at hp; simp at hp
      | some v => rw [hs] at hp; simp at hp; rw [hp]
     obtain ⟨u, b', e1, e2, _⟩ := repVs_get ht hget
     simp only [RepV] at e2
     obtain ⟨_, b, hb, rfl⟩ := e2
     have hobj : ∃ b1, RepObj w R N (.cells cs) b b1 := by
      unfold AState.obj at hob
      cases n with
      | loc j =>
       obtain ⟨pre, c, c1, post, _, f2, f3, _⟩ := RepObjs.split hl hob
       rw [hb] at f2; simp at f2; subst f2; exact ⟨c1, f3⟩
      | out j =>
       obtain ⟨pre, c, c1, post, _, f2, f3, _⟩ := RepObjs.split hh hob
       simp only [outs] at f2
       rw [hb] at f2; simp at f2; subst f2
       refine ⟨c1, f3.reN ?_ (fun _ => rfl)⟩
       obtain ⟨vs, e, sp, _, hrr, _⟩ := f3
       have := hrr.noLoc_of_outs
       rw [noLocL_pad] at this
       exact this
     obtain ⟨b1, vs0, el, sp, hblk, hrr, _⟩ := hobj
     obtain ⟨cv, g1, g2⟩ := run_load_obj (N := N) hE hty hblk hrr (loadCells_pad hv)
     refine ⟨cv :: cvs, [] ++ bM2, bT2, ?_, repVs_cons g2 k2, by simp [k3], by simpa using k4⟩
     have hgd : act.tmps.getD a undef = .pointer (some ⟨b, off, none⟩) := by simp at e1; simp [e1]
     have g1' : (loadVar t ⟨b, off, none⟩).run P w = .ok cv w := by simpa [Instr.loadAt, Instr.sureAddr] using g1
     simp only [List.mapM_cons, Sem.run_bind, resSem, hgd, asAddr, Sem.run_pure, Result.andThen_ok, g1', k1]
    simp at hv
   simp at hv
  simp at h
def packV : List Value -> Value
 | [v] => v
 | vs => .tuple vs.toArray
theorem results_run {fn : Func} {act : Act} {w : World} {cvs : List Value} (h : (fn.results.toList.mapM (resSem act.tmps)).run P w = .ok cvs w) :
  (results fn act.tmps).run P w = .ok (packV cvs) w := by
 have hres : results fn act.tmps = (do
   let vs ← fn.results.mapM (resSem act.tmps)
   pure (if h : vs.size = 1 then vs[0] else .tuple vs)) := rfl
 have e : (fn.results.mapM (resSem act.tmps)).run P w = .ok cvs.toArray w := by
  rw [Array.mapM_eq_mapM_toList]
  simp [h]
 rw [hres]
 simp only [Sem.run_bind, e, Result.andThen_ok]
 cases cvs with
 | nil => rfl
 | cons v cvs => cases cvs <;> rfl
theorem expAll_sound {w : World} : ∀ (ns : List Name) {s s' : AState} {args args' : List AVal} {R : Own} {N : Name -> Option Nat}, expAll ns s args = (s', args') -> ∀ {tmps : List Value} {cargs : List Value} {bsV bsT bsL bsH bsF : List Nat},
  RelB G w R N tmps s (.tuple cargs.toArray) (.tup args) bsV bsT bsL bsH bsF ->
  ∃ R' N' bsV' bsT' bsL' bsH', RelB G w R' N' tmps s' (.tuple cargs.toArray) (.tup args') bsV' bsT' bsL' bsH' bsF /\ Keep w R w R' bsF /\ (∀ o b, N (.out o) = some b -> N' (.out o) = some b)
 | [], s, s', args, args', R, N, h, tmps, cargs, bsV, bsT, bsL, bsH, bsF, hr => by
  simp [expAll] at h
  obtain ⟨rfl, rfl⟩ := h
  exact ⟨R, N, bsV, bsT, bsL, bsH, hr, keep_refl _, fun _ _ h => h⟩
 | n :: ns, s, s', args, args', R, N, h, tmps, cargs, bsV, bsT, bsL, bsH, bsF, hr => by
  simp only [expAll] at h
  split at h
  ·split at h
   ·rename_i s1 args1 h1
    obtain ⟨R1, N1, v1, t1, l1, g1, hr1, hk1, hN1, _⟩ := prep1_sound h1 hr
    obtain ⟨R2, N2, v2, t2, l2, g2, hr2, hk2, hN2⟩ := expAll_sound ns h hr1
    exact ⟨R2, N2, v2, t2, l2, g2, hr2, hk1.trans hk2, fun o b h => hN2 o b (hN1 o b h)⟩
   exact expAll_sound ns h hr
  exact expAll_sound ns h hr
theorem pack_rep {w : World} {R : Own} {N : Name -> Option Nat} {vs : List AVal} {cvs : List Value} {bs : List Nat} (h : RepVs w R N vs cvs bs) : RepV w R N (pack vs) (packV cvs) bs := by
 cases vs with
 | nil =>
  obtain ⟨rfl, rfl⟩ := repVs_nil_inv h
  simp only [pack, packV, RepV]
  exact ⟨[], rfl, repVs_nil⟩
 | cons a vs =>
  have hl := h.length
  cases vs with
  | nil =>
   cases cvs with
   | nil => simp at hl
   | cons v cvs =>
    simp at hl
    subst hl
    obtain ⟨a', e, ha⟩ := repVs_one h
    simp at e
    subst e
    exact ha
  | cons a2 vs =>
   cases cvs with
   | nil => simp at hl
   | cons v cvs =>
    cases cvs with
    | nil => simp at hl
    | cons v2 cvs => simp only [pack, packV, RepV]; exact ⟨_, rfl, h⟩
theorem pack_noLoc {vs : List AVal} (h : noLocL vs = true) : noLoc (pack vs) = true := by
 unfold pack
 split
 ·simpa [noLocL] using h
 simpa [noLoc] using h
/-- The end of a function, in the world. -/
theorem aret_sound (hE : E.Ok P) {fn : Func} {Q : AVal -> List (Name × AObj) -> Nat -> Prop} {s : AState} (h : aret E fn.results.toList Q s) {w : World} {R : Own} {N : Name -> Option Nat} {act : Act} {bsT bsL bsH bsF : List Nat}
  (hr : RelB G w R N act.tmps.toList s undef .undef [] bsT bsL bsH bsF) :
  ∃ cv, (results fn act.tmps).run P w = .ok cv w /\ ∃ v heap' next' R' N' bsV bsH', Q v heap' next' /\ RepV w R' (outs N') v cv bsV /\ RepObjs w R' (outs N') heap' bsH' /\ (bsV ++ (bsH' ++ bsF)).Nodup ∧
   (∀ o b, N' (.out o) = some b -> o < next') /\ Keep w R w R' bsF /\ (∀ o b, N (.out o) = some b -> N' (.out o) = some b) := by
 unfold aret at h
 split at h
 ·exact h.elim
 rename_i vs hvs
 have hnd0 : (bsT ++ (bsL ++ (bsH ++ bsF))).Nodup := by simpa using hr.nodup
 obtain ⟨cvs, bsM, bsT', k1, k2, k3, k4⟩ := retVals_sound hE hr.glob fn.results.toList hvs hr.tmps hr.locs hr.heap hnd0
 obtain ⟨bsM', k5, k6⟩ := tidyL_rep k2
 refine ⟨_, results_run k1, ?_⟩
 split at h
 ·rename_i hno
  refine ⟨_, _, _, R, N, bsM', bsH, h, (pack_rep k5).to_outs (pack_noLoc hno), hr.heap, ?_, hr.next, keep_refl _, fun _ _ h => h⟩
  refine List.Nodup.sublist ?_ k4
  exact List.Sublist.append k6 ((List.sublist_append_right _ _).trans (List.sublist_append_right _ _))
 split at h
 rename_i s' vs' hexp
 split at h
 ·rename_i hno
  -- the slots are no longer needed: a state without them
  have hr1 : RelB G w R N [] { s with tmps := [] } (.tuple cvs.toArray) (.tup (tidyL vs)) bsM' [] bsL bsH bsF :=
   ⟨by simp only [RepV]; exact ⟨cvs, rfl, k5⟩, repVs_nil, hr.locs, hr.heap, by
    refine List.Nodup.sublist ?_ k4
    exact List.Sublist.append k6 (by simp), hr.next, hr.glob, hr.frame⟩
  have hexp' : ∀ (ns : List Name) (s1 s2 : AState) (a1 a2 : List AVal), expAll ns s1 a1 = (s2, a2) -> expAll ns { s1 with tmps := [] } a1 = ({ s2 with tmps := [] }, a2) := by
   intro ns
   induction ns with
   | nil => intro s1 s2 a1 a2 h; simp only [expAll, Prod.mk.injEq] at h ⊢; obtain ⟨rfl, rfl⟩ := h; exact ⟨rfl, rfl⟩
   | cons n ns ih =>
    intro s1 s2 a1 a2 h
    simp only [expAll] at h ⊢
    split at h
    ·rename_i hm
     rw [if_pos hm]
     have hp : prep1 true n { s1 with tmps := [] } a1 = (prep1 true n s1 a1).map (fun x => ({ x.1 with tmps := [] }, x.2)) := by
      unfold prep1
      dsimp only
      split
      ·split
       ·simp [frzL]
       split <;> simp [renL]
      ·simp [renL]
      simp
     rw [hp]
     split at h
     ·rename_i s3 a3 h3
      rw [h3]
      exact ih s3 s2 a3 a2 h
     rename_i h3
     rw [h3]
     exact ih s1 s2 a1 a2 h
    rename_i hm
    rw [if_neg hm]
    exact ih s1 s2 a1 a2 h
  obtain ⟨R2, N2, v2, t2, l2, g2, hr2, hk2, hN2⟩ := expAll_sound _ (hexp' _ _ _ _ _ hexp) hr1
  have hv := hr2.val
  simp only [RepV] at hv
  obtain ⟨cs0, ec, hargs⟩ := hv
  simp at ec
  subst ec
  refine ⟨_, _, _, R2, N2, v2, g2, h, (pack_rep hargs).to_outs (pack_noLoc hno), hr2.heap, ?_, hr2.next, hk2, hN2⟩
  refine List.Nodup.sublist ?_ hr2.nodup
  exact List.Sublist.append (.refl _) ((List.sublist_append_right _ _).trans (List.sublist_append_right _ _))
 exact h.elim
theorem repVs_undef {w : World} {R : Own} {N : Name -> Option Nat} : ∀ (k : Nat), RepVs w R N (List.replicate k .undef) (List.replicate k undef) []
 | 0 => repVs_nil
 | k + 1 => by simpa [List.replicate_succ] using repVs_cons (b1 := []) (b2 := []) (repV_undef (w := w) (R := R) (N := N) undef) (repVs_undef k)
/-- A function's contract out of its body. -/
theorem acalls_of_acode (hE : E.Ok P) {f : FuncId} {fn : Func} {c : Code} (hf : P.funcs[f]? = some fn) (hb : fn.body = some c) {args : List AVal} {heap : List (Name × AObj)} {next : Nat} {Q : AVal -> List (Name × AObj) -> Nat -> Prop}
  (h : bndL args -> bndO heap -> ACode P G c (bodyQ E fn.results.toList Q) (enter fn.ntmps args heap next)) : ACalls P G f args heap next Q := by
 intro w R N cargs bsA bsH bsF ha hh hnd hnx hg hF
 replace h := h ha.bnd hh.bnd
 refine calls_of_wp hf hb ?_
 have hlen := ha.length
 have hr : RelB G w R (outs N) ((cargs.toArray ++ Array.replicate (fn.ntmps - cargs.toArray.size) undef).toList) (enter fn.ntmps args heap next) undef .undef [] bsA [] bsH bsF := by
  refine ⟨repV_undef _, ?_, rfl, ?_, by simpa using hnd, ?_, hg, hF⟩
  ·have := repVs_append ha (repVs_undef (w := w) (R := R) (N := outs N) (fn.ntmps - args.length))
   simpa [enter, hlen] using this
  ·exact hh.ext (fun m b hm => by cases m with | loc i => simp [outs] at hm | out o => exact hm)
  intro o b ho; exact hnx o b ho
 refine wp_of_wpR (wpR_mono (h w R (outs N) _ bsA [] bsH bsF hr rfl) ?_)
 rintro e a w' ⟨s', R', N', bsT, bsL, bsH', hq, hr', hd', hk, hN⟩
 have key : aret E fn.results.toList Q s' -> a.defers = [] /\ ∃ v, (results fn a.tmps).run P w' = .ok v w' /\ (∃ v2 cv heap' next' R'' N'' bsV bsH'', Ending.returned v = .returned cv /\ Q v2 heap' next' /\ RepV w' R'' (outs N'') v2 cv bsV /\ RepObjs w' R'' (outs N'') heap' bsH'' ∧
   (bsV ++ (bsH'' ++ bsF)).Nodup /\ (∀ o b, N'' (.out o) = some b -> o < next') /\ Keep w R w' R'' bsF /\ (∀ o b, N (.out o) = some b -> N'' (.out o) = some b)) := by
  intro hret
  obtain ⟨cv, g1, v2, heap', next', R'', N'', bsV, bsH'', q1, q2, q3, q4, q5, q6, q7⟩ := aret_sound hE hret hr'
  exact ⟨hd', cv, g1, v2, cv, heap', next', R'', N'', bsV, bsH'', rfl, q1, q2, q3, q4, q5, hk.trans q6, fun o b h => q7 o b (hN o b h)⟩
 cases e with
 | ret => exact key hq
 | normal => exact key hq
 | exit i => exact hq.elim
 | goto l => exact hq.elim
 | panic ch => exact hq.elim
 | outgrown => exact hq.elim
/-! #### Tables -/
inductive Tr where
 |nil
 |node (l : Tr) (k : Nat) (v : TI) (r : Tr)
def Tr.find : Tr -> Nat -> Option TI
 | .nil, _ => none
 | .node l k v r, t => match Nat.blt t k with
  | true => l.find t
  | false => (match Nat.blt k t with | true => r.find t | false => some v)
def Tr.All (P : Program) : Tr -> Prop
 | .nil => True
 | .node l k v r => l.All P /\ v.ok P k /\ r.All P
theorem Tr.all_nil {P : Program} : Tr.All P .nil := trivial
theorem Tr.all_node {P : Program} {l r : Tr} {k : Nat} {v : TI} (hl : l.All P) (hv : v.ok P k) (hr : r.All P) : Tr.All P (.node l k v r) := ⟨hl, hv, hr⟩
theorem Tr.find_ok {P : Program} : ∀ {tr : Tr}, tr.All P -> ∀ {t : Nat} {i : TI}, tr.find t = some i -> i.ok P t
 | .nil, _, t, i, h => by simp [Tr.find] at h
 | .node l k v r, ⟨hl, hv, hr⟩, t, i, h => by
  simp only [Tr.find] at h
  cases h1 : Nat.blt t k with
  | true => rw [h1] at h; exact Tr.find_ok hl h
  | false =>
   rw [h1] at h
   cases h2 : Nat.blt k t with
   | true => rw [h2] at h; exact Tr.find_ok hr h
   | false =>
    rw [h2] at h
    have h1' : ¬ t < k := fun h => by rw [← Nat.blt_eq, h1] at h; simp at h
    have h2' : ¬ k < t := fun h => by rw [← Nat.blt_eq, h2] at h; simp at h
    have : t = k := by omega
    subst this
    simp at h
    subst h
    exact hv
def fnOk (P : Program) (f : FuncId) : Bool := match P.funcs[f]? with
 | some g => g.body.isSome && !(g.name == "runtime.NumGoroutine")
 | none => false
/-! #### Forgetting; loops -/
theorem keepT_rep {w : World} {R : Own} {N : Name -> Option Nat} (ts : List Nat) : ∀ {as : List AVal} {vs : List Value} {bs : List Nat} (k : Nat), RepVs w R N as vs bs -> ∃ bs', RepVs w R N (keepT ts k as) vs bs' /\ bs'.Sublist bs
 | [], _, _, _, h => by obtain ⟨rfl, rfl⟩ := repVs_nil_inv h; exact ⟨[], repVs_nil, .refl _⟩
 | a :: as, _, _, k, h => by
  obtain ⟨v, vs', b1, b2, rfl, rfl, h1, h2⟩ := repVs_cons_inv h
  obtain ⟨bs', g1, g2⟩ := keepT_rep ts (k + 1) h2
  simp only [keepT]
  split
  ·exact ⟨b1 ++ bs', repVs_cons h1 g1, List.Sublist.append (.refl _) g2⟩
  exact ⟨[] ++ bs', repVs_cons (repV_undef v) g1, by simpa using g2.trans (List.sublist_append_right b1 b2)⟩
theorem keepO_rep {w : World} {R : Own} {N : Name -> Option Nat} (ls : List Nat) : ∀ {os : List (Name × AObj)} {bs : List Nat}, RepObjs w R N os bs -> ∃ bs', RepObjs w R N (keepO ls os) bs' /\ bs'.Sublist bs
 | [], _, h => ⟨_, h, .refl _⟩
 |(.loc i, o) :: os, _, ⟨b, b1, b2, e, hn, h1, h2⟩ => by
  subst e
  obtain ⟨bs', g1, g2⟩ := keepO_rep ls h2
  simp only [keepO]
  split
  ·exact ⟨b :: (b1 ++ bs'), ⟨b, b1, bs', rfl, hn, h1, g1⟩, (List.Sublist.append (.refl _) g2).cons_cons _⟩
  exact ⟨bs', g1, g2.trans ((List.sublist_append_right b1 b2).cons _)⟩
 |(.out i, o) :: os, _, ⟨b, b1, b2, e, hn, h1, h2⟩ => by
  subst e
  obtain ⟨bs', g1, g2⟩ := keepO_rep ls h2
  exact ⟨bs', g1, g2.trans ((List.sublist_append_right b1 b2).cons _)⟩
theorem RelB.forget {w : World} {R : Own} {N : Name -> Option Nat} {tmps : List Value} {s : AState} {bsT bsL bsH bsF : List Nat} (h : RelB G w R N tmps s undef .undef [] bsT bsL bsH bsF) (ts ls : List Nat) :
  ∃ bsT' bsL', RelB G w R N tmps (s.keep ts ls) undef .undef [] bsT' bsL' bsH bsF := by
 obtain ⟨bsT', k1, k2⟩ := keepT_rep ts 0 h.tmps
 obtain ⟨bsL', k3, k4⟩ := keepO_rep ls h.locs
 exact ⟨bsT', bsL', repV_undef _, k1, k3, h.heap, List.Nodup.sublist (List.Sublist.append (.refl _) (List.Sublist.append k2 (List.Sublist.append k4 (.refl _)))) h.nodup, h.next, h.glob, h.frame⟩
/-- A loop: st x is the state at a round's head (what is not kept forgotten), μ x goes down. -/
theorem acode_loop {α : Type} {c : Code} {Q : Exit -> AState -> Prop} {s : AState} (ts ls : List Nat) (st : α -> AState) (ok : α -> Prop) (μ : α -> Nat) (x0 : α) (h0 : ok x0) (hs : s.keep ts ls = st x0)
  (round : ∀ x, ok x -> ACode P G c (seqQ (fun s' => ∃ x', ok x' /\ μ x' < μ x /\ s'.keep ts ls = st x') Q) (st x)) : ACode P G (.loop c) Q s := by
 intro w R N act bsT bsL bsH bsF hr D hd
 refine wpR_loop_ghost (I := fun n a w' => ∃ x R' N' bsT' bsL' bsH', ok x /\ μ x = n /\ RelB G w' R' N' a.tmps.toList (st x) undef .undef [] bsT' bsL' bsH' bsF /\ a.defers = D /\ Keep w R w' R' bsF /\ (∀ o b, N (.out o) = some b -> N' (.out o) = some b)) (n0 := μ x0) ?_ ?_
 ·obtain ⟨bsT', bsL', hr'⟩ := hr.forget ts ls
  rw [hs] at hr'
  exact ⟨x0, R, N, bsT', bsL', bsH, h0, rfl, hr', hd, keep_refl _, fun _ _ h => h⟩
 rintro n a w' ⟨x, R', N', bsT', bsL', bsH', hok, rfl, hr', hd', hk, hN⟩
 refine wpR_mono (round x hok w' R' N' a bsT' bsL' bsH' bsF hr' hd') ?_
 rintro e a2 w2 ⟨s2, R2, N2, bsT2, bsL2, bsH2, hq, hr2, hd2, hk2, hN2⟩
 cases e with
 | normal =>
  obtain ⟨x', hok', hlt, hs'⟩ := hq
  obtain ⟨bsT3, bsL3, hr3⟩ := hr2.forget ts ls
  rw [hs'] at hr3
  exact ⟨μ x', hlt, x', R2, N2, bsT3, bsL3, bsH2, hok', rfl, hr3, hd2, hk.trans hk2, fun o b h => hN2 o b (hN o b h)⟩
 | _ => exact ⟨s2, R2, N2, bsT2, bsL2, bsH2, hq, hr2, hd2, hk.trans hk2, fun o b h => hN2 o b (hN o b h)⟩
end
end Go.Tp

namespace Go.Tp
abbrev iv (n : Int) : AVal := .dat (.flat (.int .i64 n))
abbrev bv (b : Bool) : AVal := .dat (.flat (.bool b))
abbrev Heap := List (Name × AObj)
/-- The call hands back v, with this heap behind it. -/
def Ret (v : AVal) (heap : Heap) (next : Nat) : AVal -> Heap -> Nat -> Prop := fun v' h n => v' = v /\ h = heap /\ n = next
/-! ### What a call leaves behind and nobody names -/
section
variable {w w' : World} {R R' : Own} {M M' M'' : Name -> Option Nat}
end
structure Run (P : Program) (G : Globs) (H : Hints) (Ef : Prims -> TEnv) (A : CallsT) (C : CodeT) (pr : Prims) : Prop where
 ok : (Ef Prims.std).Ok P
 a : A = ACalls P G
 c : C = ACode P G
 p : pr = Prims.std
section
variable {P : Program} {G : Globs} {H : Hints} {Ef : Prims -> TEnv} {A : CallsT} {C : CodeT} {pr : Prims}
theorem Run.code (r : Run P G H Ef A C pr) {c : Code} {Q : Exit -> AState -> Prop} {s : AState} (hck : chkAll H c = true) (h : awp A C (Ef pr) G H c Q s) : C c Q s := by
 obtain ⟨hE, rfl, rfl, rfl⟩ := r
 exact awp_sound hE c Q s hck h
theorem Run.call (r : Run P G H Ef A C pr) {f : FuncId} {args : List AVal} {heap : Heap} {next : Nat} {Q K : AVal -> Heap -> Nat -> Prop} (h : ACalls P G f args heap next Q) (hk : ∀ v h n, Q v h n -> K v h n) : A f args heap next K := by
 rw [r.a]; exact h.mono hk
theorem Run.ret (r : Run P G H Ef A C pr) {f : FuncId} {args : List AVal} {heap heap' : Heap} {next next' : Nat} {v : AVal} {K : AVal -> Heap -> Nat -> Prop} (h : ACalls P G f args heap next (Ret v heap' next')) (hk : K v heap' next') : A f args heap next K :=
 r.call h (by rintro _ _ _ ⟨rfl, rfl, rfl⟩; exact hk)
theorem Run.loop (r : Run P G H Ef A C pr) {α : Type} {c : Code} {Q : Exit -> AState -> Prop} {s : AState} (hck : chkAll H c = true) (ts ls : List Nat) (st : α -> AState) (ok : α -> Prop) (μ : α -> Nat) (x0 : α) (h0 : ok x0) (hs : s.keep ts ls = st x0)
  (round : ∀ x, ok x -> ∀ R, (∀ s' x', ok x' -> μ x' < μ x -> s'.keep ts ls = st x' -> R s') -> awp A C (Ef pr) G H c (seqQ R Q) (st x)) : C (.loop c) Q s := by
 obtain ⟨hE, rfl, rfl, rfl⟩ := r
 exact acode_loop ts ls st ok μ x0 h0 hs (fun x hx => awp_sound hE c _ _ hck (round x hx _ (fun s' x' h1 h2 h3 => ⟨x', h1, h2, h3⟩)))
section
variable {wrap : IntKind -> Int -> Int} {add dif mul : IntKind -> Int -> Int -> Int} {lt eq : Int -> Int -> Bool} {slt seq : ByteArray -> ByteArray -> Bool} {cat : ByteArray -> ByteArray -> Option ByteArray} {elt : List Dat -> Int -> Option Dat} {byte : ByteArray -> Int -> Option UInt8}
 {sub : Nat -> List Dat -> Option Int -> Option Int -> Option (List Dat)} {ssub : ByteArray -> Option Int -> Option Int -> Option ByteArray} {app : Nat -> Nat -> List Dat -> List Dat -> Option (List Dat)}
 {key : TypeDesc -> Value -> List (Value × Dat) -> Option (Option (Nat × Dat))} {len : List Dat -> Nat} {slen : ByteArray -> Nat} {rem quo mx : Int -> Int -> Int}
end
end
theorem wrap_i64 {n : Int} (h1 : -9223372036854775808 <= n) (h2 : n <= 9223372036854775807) : IntKind.i64.wrap n = n := by
 simp [IntKind.wrap, IntKind.signed, IntKind.bits]
 omega
end Go.Tp

namespace Go.Tp
/-! ### Equal values and objects -/
def eqV : Value -> Value -> Bool
 | .int k n, .int k' n' => decide (k = k') && eqZ n n'
 | .string s, .string s' => eqY s.data.toList s'.data.toList
 | .bool b, .bool b' => (match b, b' with | true, true => true | false, false => true | _, _ => false)
 | .pointer none, .pointer none => true
 | .map none, .map none => true
 | .nilFunc, .nilFunc => true
 | .nilIface, .nilIface => true
 | .slice none 0 0, .slice none 0 0 => true
 | _, _ => false
where
 eqZ : Int -> Int -> Bool
  | .ofNat a, .ofNat b => Nat.beq a b
  | .negSucc a, .negSucc b => Nat.beq a b
  | _, _ => false
 eqY : List UInt8 -> List UInt8 -> Bool
  | [], [] => true
  | a :: l, b :: r => (match Nat.beq a.toNat b.toNat with | true => eqY l r | false => false)
  | _, _ => false
theorem eqZ_spec {a b : Int} (h : eqV.eqZ a b = true) : a = b := by
 unfold eqV.eqZ at h
 split at h
 ·rw [Nat.eq_of_beq_eq_true h]
 ·rw [Nat.eq_of_beq_eq_true h]
 simp at h
theorem eqY_spec : ∀ {a b : List UInt8}, eqV.eqY a b = true -> a = b
 | [], [], _ => rfl
 | [], _ :: _, h => by simp [eqV.eqY] at h
 | _ :: _, [], h => by simp [eqV.eqY] at h
 | a :: l, b :: r, h => by
  unfold eqV.eqY at h
  split at h
  ·rename_i hab
   rw [UInt8.toNat_inj.1 (Nat.eq_of_beq_eq_true hab), eqY_spec h]
  simp at h
theorem eqV_spec {a b : Value} (h : eqV a b = true) : a = b := by
 unfold eqV at h
 split at h
 ·simp only [Bool.and_eq_true, decide_eq_true_eq] at h
  rw [h.1, eqZ_spec h.2]
 ·rename_i s s'
  obtain ⟨⟨l⟩⟩ := s
  obtain ⟨⟨l'⟩⟩ := s'
  have := eqY_spec h
  simp at this
  rw [this]
 ·split at h <;> simp at h ⊢
 all_goals first | rfl | simp at h
mutual
def eqD : Dat -> Dat -> Bool
 | .flat v, .flat u => eqV v u
 | .slice es, .slice fs => eqDs es fs
 | .agg es, .agg fs => eqDs es fs
 | _, _ => false
def eqDs : List Dat -> List Dat -> Bool
 | [], [] => true
 | a :: l, b :: r => (match eqD a b with | true => eqDs l r | false => false)
 | _, _ => false
end
mutual
theorem eqD_spec : ∀ {a b : Dat}, eqD a b = true -> a = b
 | .flat v, .flat u, h => by simp only [eqD] at h; rw [eqV_spec h]
 | .slice es, .slice fs, h => by simp only [eqD] at h; rw [eqDs_spec h]
 | .agg es, .agg fs, h => by simp only [eqD] at h; rw [eqDs_spec h]
 | .flat _, .slice _, h => by simp [eqD] at h
 | .flat _, .agg _, h => by simp [eqD] at h
 | .slice _, .flat _, h => by simp [eqD] at h
 | .slice _, .agg _, h => by simp [eqD] at h
 | .agg _, .flat _, h => by simp [eqD] at h
 | .agg _, .slice _, h => by simp [eqD] at h
theorem eqDs_spec : ∀ {a b : List Dat}, eqDs a b = true -> a = b
 | [], [], _ => rfl
 | [], _ :: _, h => by simp [eqDs] at h
 | _ :: _, [], h => by simp [eqDs] at h
 | a :: l, b :: r, h => by
  simp only [eqDs] at h
  split at h
  ·rename_i hab
   rw [eqD_spec hab, eqDs_spec h]
  simp at h
end
def eqN : Name -> Name -> Bool
 | .loc a, .loc b => Nat.beq a b
 | .out a, .out b => Nat.beq a b
 | _, _ => false
theorem eqN_spec {a b : Name} (h : eqN a b = true) : a = b := by
 unfold eqN at h
 split at h
 ·rw [Nat.eq_of_beq_eq_true h]
 ·rw [Nat.eq_of_beq_eq_true h]
 simp at h
def eqFn : Fn -> Fn -> Bool
 | .func a, .func b => Nat.beq a b
 | _, _ => false
theorem eqFn_spec {a b : Fn} (h : eqFn a b = true) : a = b := by
 unfold eqFn at h
 split at h
 ·rw [Nat.eq_of_beq_eq_true h]
 simp at h
mutual
def eqA : AVal -> AVal -> Bool
 | .dat a, .dat b => eqD a b
 | .own a, .own b => eqDs a b
 | .ref a, .ref b => eqDs a b
 | .ptr n i, .ptr m j => eqN n m && Nat.beq i j
 | .map n, .map m => eqN n m
 | .win n a b c, .win n' a' b' c' => eqN n n' && Nat.beq a a' && Nat.beq b b' && Nat.beq c c'
 | .fn f a b, .fn f' a' b' => eqFn f f' && eqAs a a' && eqAs b b'
 | .agg a, .agg b => eqAs a b
 | .tup a, .tup b => eqAs a b
 | .undef, .undef => true
 | _, _ => false
def eqAs : List AVal -> List AVal -> Bool
 | [], [] => true
 | a :: l, b :: r => (match eqA a b with | true => eqAs l r | false => false)
 | _, _ => false
end
mutual
theorem eqA_spec : ∀ {a b : AVal}, eqA a b = true -> a = b
 | .dat a, b, h => by cases b <;> simp only [eqA, Bool.false_eq_true] at h; rw [eqD_spec h]
 | .own a, b, h => by cases b <;> simp only [eqA, Bool.false_eq_true] at h; rw [eqDs_spec h]
 | .ref a, b, h => by cases b <;> simp only [eqA, Bool.false_eq_true] at h; rw [eqDs_spec h]
 | .ptr n i, b, h => by cases b <;> simp only [eqA, Bool.false_eq_true, Bool.and_eq_true] at h; rw [eqN_spec h.1, Nat.eq_of_beq_eq_true h.2]
 | .map n, b, h => by cases b <;> simp only [eqA, Bool.false_eq_true] at h; rw [eqN_spec h]
 | .win n x y z, b, h => by cases b <;> simp only [eqA, Bool.false_eq_true, Bool.and_eq_true] at h; rw [eqN_spec h.1.1.1, Nat.eq_of_beq_eq_true h.1.1.2, Nat.eq_of_beq_eq_true h.1.2, Nat.eq_of_beq_eq_true h.2]
 | .fn f x y, b, h => by cases b <;> simp only [eqA, Bool.false_eq_true, Bool.and_eq_true] at h; rw [eqFn_spec h.1.1, eqAs_spec h.1.2, eqAs_spec h.2]
 | .agg a, b, h => by cases b <;> simp only [eqA, Bool.false_eq_true] at h; rw [eqAs_spec h]
 | .tup a, b, h => by cases b <;> simp only [eqA, Bool.false_eq_true] at h; rw [eqAs_spec h]
 | .undef, b, h => by cases b <;> simp only [eqA, Bool.false_eq_true] at h; rfl
theorem eqAs_spec : ∀ {a b : List AVal}, eqAs a b = true -> a = b
 | [], [], _ => rfl
 | [], _ :: _, h => by simp [eqAs] at h
 | _ :: _, [], h => by simp [eqAs] at h
 | a :: l, b :: r, h => by
  simp only [eqAs] at h
  split at h
  ·rename_i hab
   rw [eqA_spec hab, eqAs_spec h]
  simp at h
end
def eqMs : List (Value × Dat) -> List (Value × Dat) -> Bool
 | [], [] => true
 |(k, d) :: l, (k', d') :: r => (match eqV k k' && eqD d d' with | true => eqMs l r | false => false)
 | _, _ => false
theorem eqMs_spec : ∀ {a b : List (Value × Dat)}, eqMs a b = true -> a = b
 | [], [], _ => rfl
 | [], _ :: _, h => by simp [eqMs] at h
 | _ :: _, [], h => by simp [eqMs] at h
 |(k, d) :: l, (k', d') :: r, h => by
  simp only [eqMs] at h
  split at h
  ·rename_i hab
   simp only [Bool.and_eq_true] at hab
   rw [eqV_spec hab.1, eqD_spec hab.2, eqMs_spec h]
  simp at h
def eqO : AObj -> AObj -> Bool
 | .cells a, .cells b => eqAs a b
 | .map a, .map b => eqMs a b
 | _, _ => false
theorem eqO_spec {a b : AObj} (h : eqO a b = true) : a = b := by
 unfold eqO at h
 split at h
 ·rw [eqAs_spec h]
 ·rw [eqMs_spec h]
 simp at h
theorem eqN_self (n : Name) : eqN n n = true := by cases n <;> simp [eqN]
def findO (n : Name) : List (Name × AObj) -> Option AObj
 | [] => none
 |(m, o) :: l => match eqN m n with | true => some o | false => findO n l
theorem findO_spec {n : Name} : ∀ {l : List (Name × AObj)} {o : AObj}, findO n l = some o -> aget n l = some o
 | [], o, h => by simp [findO] at h
 |(m, p) :: l, o, h => by
  simp only [findO] at h
  simp only [aget]
  split at h
  ·rename_i hm
   rw [if_pos (eqN_spec hm)]
   exact h
  rename_i hm
  rw [if_neg (fun e => by rw [e, eqN_self] at hm; simp at hm)]
  exact findO_spec h
/-- All objects of the one heap lie in the other. -/
def staysB : List (Name × AObj) -> List (Name × AObj) -> Bool
 | [], _ => true
 |(n, o) :: l, h => (match findO n h with
  | some p => (match eqO o p with | true => staysB l h | false => false)
  | none => false)
theorem staysB_spec : ∀ {a b : List (Name × AObj)}, staysB a b = true -> Stays a b
 | [], _, _ => fun n ob h => by simp [aget] at h
 |(n, o) :: l, b, h => by
  simp only [staysB] at h
  split at h
  ·rename_i p hp
   split at h
   ·rename_i hab
    obtain rfl := eqO_spec hab
    intro k ob hk
    simp only [aget] at hk
    split at hk
    ·rename_i hkn
     simp only [Option.some.injEq] at hk
     subst hk
     subst hkn
     exact findO_spec hp
    exact staysB_spec h k ob hk
   simp at h
  simp at h
def eqHs : (List (Name × AObj)) -> (List (Name × AObj)) -> Bool
 | [], [] => true
 |(n, o) :: l, (m, p) :: r => (match eqN n m && eqO o p with | true => eqHs l r | false => false)
 | _, _ => false
theorem eqHs_spec : ∀ {a b : List (Name × AObj)}, eqHs a b = true -> a = b
 | [], [], _ => rfl
 | [], _ :: _, h => by simp [eqHs] at h
 | _ :: _, [], h => by simp [eqHs] at h
 |(n, o) :: l, (m, p) :: r, h => by
  simp only [eqHs] at h
  split at h
  ·rename_i hab
   simp only [Bool.and_eq_true] at hab
   rw [eqN_spec hab.1, eqO_spec hab.2, eqHs_spec h]
  simp at h
/-! ### Two names change places -/
def swN (k : Nat) : Name -> Name
 | .loc i => .loc i
 | .out o => match Nat.beq o k with
  | true => .out (k + 1)
  | false => (match Nat.beq o (k + 1) with | true => .out k | false => .out o)
mutual
def swV (k : Nat) : AVal -> AVal
 | .dat d => .dat d
 | .own es => .own es
 | .ref cs => .ref cs
 | .ptr n off => .ptr (swN k n) off
 | .map n => .map (swN k n)
 | .win n s off len => .win (swN k n) s off len
 | .fn f a b => .fn f (swL k a) (swL k b)
 | .agg cs => .agg (swL k cs)
 | .tup cs => .tup (swL k cs)
 | .undef => .undef
def swL (k : Nat) : List AVal -> List AVal
 | [] => []
 | a :: r => swV k a :: swL k r
end
def swO (k : Nat) : AObj -> AObj
 | .cells cs => .cells (swL k cs)
 | .map es => .map es
def swH (k : Nat) : List (Name × AObj) -> List (Name × AObj)
 | [] => []
 |(n, o) :: r => (swN k n, swO k o) :: swH k r
def swap2 : List (Name × AObj) -> List (Name × AObj)
 | x :: y :: r => y :: x :: r
 | r => r
def swS (k : Nat) (s : AState) : AState := ⟨swL k s.tmps, swH k s.locs, swap2 (swH k s.heap), s.next⟩
theorem swN_out (k o : Nat) : swN k (.out o) = if o = k then .out (k + 1) else if o = k + 1 then .out k else .out o := by
 simp only [swN]
 by_cases h1 : o = k
 ·subst h1; simp
 have e1 : Nat.beq o k = false := by cases h : Nat.beq o k; rfl; exact absurd (Nat.eq_of_beq_eq_true h) h1
 rw [e1, if_neg h1]
 by_cases h2 : o = k + 1
 ·subst h2; simp
 have e2 : Nat.beq o (k + 1) = false := by cases h : Nat.beq o (k + 1); rfl; exact absurd (Nat.eq_of_beq_eq_true h) h2
 simp only [e2, if_neg h2]
theorem swN_inv (k : Nat) : ∀ n, swN k (swN k n) = n
 | .loc _ => rfl
 | .out o => by
  rw [swN_out]
  by_cases h1 : o = k
  ·subst h1; rw [if_pos rfl, swN_out]; simp
  rw [if_neg h1]
  by_cases h2 : o = k + 1
  ·subst h2; rw [if_pos rfl, swN_out]; simp
  rw [if_neg h2, swN_out, if_neg h1, if_neg h2]
section
variable {w : World} {R : Own} {N : Name -> Option Nat} {k : Nat}
mutual
theorem RepV.sw : ∀ {a : AVal} {v : Value} {bs : List Nat}, RepV w R N a v bs -> RepV w R (fun n => N (swN k n)) (swV k a) v bs
 | .dat _, _, _, h => by simp only [swV, RepV] at h ⊢; exact h
 | .own _, _, _, h => by simp only [swV, RepV] at h ⊢; exact h
 | .ref _, _, _, h => by simp only [swV, RepV] at h ⊢; exact h
 | .ptr n off, _, _, h => by
  simp only [swV, RepV] at h ⊢
  obtain ⟨h0, b, hb, e⟩ := h
  exact ⟨h0, b, by rw [swN_inv]; exact hb, e⟩
 | .map n, _, _, h => by
  simp only [swV, RepV] at h ⊢
  obtain ⟨h0, b, hb, e⟩ := h
  exact ⟨h0, b, by rw [swN_inv]; exact hb, e⟩
 | .win n s off len, _, _, h => by
  simp only [swV, RepV] at h ⊢
  obtain ⟨h0, b, cap, hb, e⟩ := h
  exact ⟨h0, b, cap, by rw [swN_inv]; exact hb, e⟩
 | .fn f a c, _, _, h => by
  simp only [swV, RepV] at h ⊢
  obtain ⟨h0, vs, us, e, h1, h2⟩ := h
  exact ⟨h0, vs, us, e, RepVs.sw (as := a) h1, RepVs.sw (as := c) h2⟩
 | .agg cs, _, _, h => by
  simp only [swV, RepV] at h ⊢
  obtain ⟨vs, e, h1⟩ := h
  exact ⟨vs, e, RepVs.sw (as := cs) h1⟩
 | .tup cs, _, _, h => by
  simp only [swV, RepV] at h ⊢
  obtain ⟨vs, e, h1⟩ := h
  exact ⟨vs, e, RepVs.sw (as := cs) h1⟩
 | .undef, _, _, h => by simp only [swV, RepV] at h ⊢; exact h
theorem RepVs.sw : ∀ {as : List AVal} {vs : List Value} {bs : List Nat}, RepVs w R N as vs bs -> RepVs w R (fun n => N (swN k n)) (swL k as) vs bs
 | [], _, _, h => by simp only [swL, RepVs] at h ⊢; exact h
 | a :: as, _, _, h => by
  simp only [swL, RepVs] at h ⊢
  obtain ⟨v, vs', b1, b2, e1, e2, h1, h2⟩ := h
  exact ⟨v, vs', b1, b2, e1, e2, RepV.sw (a := a) h1, RepVs.sw (as := as) h2⟩
end
theorem swL_append : ∀ (a b : List AVal), swL k (a ++ b) = swL k a ++ swL k b
 | [], b => rfl
 | x :: a, b => by simp only [List.cons_append, swL, swL_append a b]
theorem swL_undef : ∀ (n : Nat), swL k (List.replicate n .undef) = List.replicate n .undef
 | 0 => rfl
 | n + 1 => by simp only [List.replicate_succ, swL, swV, swL_undef n]
theorem isP_sw {a : AVal} (h : isP (swV k a) = true) : isP a = true := by
 cases a <;> simp only [swV] at h <;> first | exact h | rfl | simp [isP] at h
theorem bldSh_sw {cs : List AVal} (h : bldSh (swL k cs) = true) : bldSh cs = true := by
 match cs with
 | [] => simp [swL, bldSh] at h
 | [a] => simp [swL, bldSh] at h
 | [a, b] =>
  cases b with
  | own es => simp only [swL, swV, bldSh] at h ⊢; exact isP_sw h
  | dat d =>
   simp only [swL, swV] at h
   unfold bldSh at h
   split at h
   ·rename_i heq; simp at heq
   ·rename_i p es heq
    simp at heq
    obtain ⟨rfl, rfl⟩ := heq
    exact isP_sw h
   ·rename_i p heq
    simp at heq
    obtain ⟨rfl, rfl⟩ := heq
    exact isP_sw h
   simp at h
  | _ => simp [swL, swV, bldSh] at h
 | a :: b :: c :: r => simp [swL, bldSh] at h
theorem RepObj.sw {o : AObj} {b : Nat} {bs : List Nat} (h : RepObj w R N o b bs) : RepObj w R (fun n => N (swN k n)) (swO k o) b bs := by
 cases o with
 | cells cs =>
  obtain ⟨vs, elem, sp, hb, hr, hR, hsh⟩ := h
  refine ⟨vs, elem, sp, hb, ?_, hR, fun hh => hsh (bldSh_sw hh)⟩
  have := hr.sw (k := k)
  rwa [swL_append, swL_undef] at this
 | map es => exact h
theorem RepObjs.sw : ∀ {os : List (Name × AObj)} {bs : List Nat}, RepObjs w R N os bs -> RepObjs w R (fun n => N (swN k n)) (swH k os) bs
 | [], _, h => h
 |(n, _) :: _, _, ⟨b, b1, b2, e, hN, h1, h2⟩ => ⟨b, b1, b2, e, by show N (swN k (swN k n)) = _; rw [swN_inv]; exact hN, h1.sw, RepObjs.sw h2⟩
theorem RepObjs.swap2 {os : List (Name × AObj)} {bs : List Nat} (h : RepObjs w R N os bs) : ∃ bs', RepObjs w R N (swap2 os) bs' /\ bs'.Perm bs := by
 match os with
 | [] => exact ⟨bs, h, List.Perm.refl _⟩
 | [x] => exact ⟨bs, h, List.Perm.refl _⟩
 |(n, o) :: (m, p) :: r =>
  obtain ⟨b, b1, b2, rfl, hN, h1, c, c1, c2, rfl, hM, h2, h3⟩ := h
  refine ⟨_, ⟨c, c1, _, rfl, hM, h2, b, b1, c2, rfl, hN, h1, h3⟩, ?_⟩
  rw [List.perm_iff_count]
  intro q
  simp only [List.count_append, List.count_cons]
  omega
theorem outs_sw : outs (fun n => N (swN k n)) = fun n => outs N (swN k n) := by
 funext n
 cases n with
 | loc i => rfl
 | out o =>
  have : ∃ o', swN k (.out o) = .out o' := by rw [swN_out]; split; exact ⟨_, rfl⟩; split; exact ⟨_, rfl⟩; exact ⟨_, rfl⟩
  obtain ⟨o', e⟩ := this
  simp only [outs, e]
end
theorem ren_swap {G : Globs} {k : Nat} {s : AState} (hk : k + 1 < s.next) : Renm G k (swS k s) s := by
 intro w R N tmps bsT bsL bsH bsF hr
 obtain ⟨bsH', hH, hp⟩ := (hr.heap.sw (k := k)).swap2
 refine ⟨fun n => N (swN k n), bsT, bsL, bsH', ⟨by simp only [RepV], hr.tmps.sw, hr.locs.sw, by rw [outs_sw]; exact hH, ?_, ?_, hr.glob, hr.frame⟩, ?_⟩
 ·have := hr.nodup
  simp only [List.nil_append] at this ⊢
  refine (List.Perm.nodup_iff ?_).1 this
  exact (((hp.symm.append_right bsF).append_left bsL).append_left bsT)
 ·intro o b hb
  have hb : N (swN k (.out o)) = some b := hb
  rw [swN_out] at hb
  show o < s.next
  split at hb
  ·rename_i h; subst h; omega
  split at hb
  ·rename_i h; subst h; exact hk
  exact hr.next o b hb
 intro o b ho hb
 show N (swN k (.out o)) = some b
 rw [swN_out, if_neg (by omega), if_neg (by omega)]
 exact hb
def sameS (s s' : AState) : Bool := eqAs s.tmps s'.tmps && eqHs s.locs s'.locs && eqHs s.heap s'.heap && Nat.beq s.next s'.next
theorem sameS_spec {s s' : AState} (h : sameS s s' = true) : s = s' := by
 unfold sameS at h
 simp only [Bool.and_eq_true] at h
 obtain ⟨t, l, hh, n⟩ := s
 obtain ⟨t', l', hh', n'⟩ := s'
 obtain ⟨⟨⟨h1, h2⟩, h3⟩, h4⟩ := h
 rw [show t = t' from eqAs_spec h1, show l = l' from eqHs_spec h2, show hh = hh' from eqHs_spec h3, show n = n' from Nat.eq_of_beq_eq_true h4]
def renB (k : Nat) (s0 s : AState) : Bool := match sameS s0 s with | true => true | false => Nat.blt (k + 1) s.next && sameS s0 (swS k s)
theorem renB_spec {G : Globs} {k : Nat} {s0 s : AState} (h : renB k s0 s = true) : Renm G k s0 s := by
 unfold renB at h
 split at h
 ·rename_i hs
  rw [sameS_spec hs]
  exact fun w R N tmps bsT bsL bsH bsF hr => ⟨N, bsT, bsL, bsH, hr, fun _ _ _ h => h⟩
 simp only [Bool.and_eq_true, Nat.blt_eq] at h
 rw [sameS_spec h.2]
 exact ren_swap h.1
end Go.Tp

namespace Go.Tp
structure XRes where
 val : AVal
 heap : Heap
 next : Nat
abbrev XCalls := FuncId -> List AVal -> Heap -> Nat -> Option XRes
/-- A function's code, slots, results, and the orders of its regions. -/
structure XFn where
 code : Code
 ntmps : Nat
 results : List ResultVar
 ord : Nat -> RHint
 /-- the slots that are read behind a region, as bits -/
 live : Nat -> Nat
section
variable (X : XCalls) (E : TEnv) (G : Globs) (H : Hints)
def xone (all : List Oper) (o : Oper) (s : AState) : Option AState :=
 match wantedA all s o.guard with
 | none => none
 | some b =>
  if b = true then
   (match isCall o.op with
    | some c => (match acallee E G H c s with
     | some (f, args, s2) => (match X f args s2.heap s2.next with
      | some r => some (({ s2 with heap := r.heap, next := r.next } : AState).put o.dst r.val)
      | none => none)
     | none => none)
    | none => astep E G (readOnly H.moves all o) (takeR H all o) o s)
  else some (s.put o.dst (.tup []))
def xops (all : List Oper) : List Oper -> AState -> Option AState
 | [], s => some s
 | o :: rest, s => (match xone X E G H all o s with | some s' => xops all rest s' | none => none)
def xopL (fh : Bool) (tk : List Nat) (all : List Oper) (o : Oper) (s : AState) : Option AState :=
 match wantedA all s o.guard with
 | none => none
 | some b =>
  if b = true then
   (match isCall o.op with
    | some c => (match acalleeD E G H c s with
     | some (f, args, s2) => (match isPure H o with
      | true => (match X f args [] s2.next with
       | some ⟨v, [], n⟩ => some (({ s2 with next := n } : AState).put o.dst v)
       | _ => none)
      | false => (match X f args s2.heap s2.next with
       | some r => (match !isRead H o || staysB s2.heap r.heap with
        | true => some (({ s2 with heap := r.heap, next := r.next } : AState).put o.dst r.val)
        | false => none)
       | none => none))
     | none => none)
    | none => (match appSlot o.op with
     | some t => (match showTk fh all (tkFor all t (tkNil tk t s)) s with
      | some s1 => astep E G false false o s1
      | none => none)
     | none => (match isStore o.op with
      | true => astep E G (readOnly H.moves all o) (takeR H all o) o s
      | false => none)))
  else some (s.put o.dst (.tup []))
def xord (tk : List Nat) (fh : Bool) (fq : Nat -> Bool) (all : List Oper) : List (Nat × Bool) -> AState -> Option AState
 | [], s => some s
 |(i, lone) :: r, s =>
  match all[i]? with
  | none => none
  | some o =>
   if lone = true then (match xopL X E G H fh tk all o s with | some s' => xord tk fh fq all r s' | none => none)
   else (match stepQ E G (fh || fq i) all o s with
    | some a => xord tk fh fq all r (s.put o.dst a)
    | none => none)
def xexplC (all : List Oper) : Nat -> Array Bool -> AState -> Option AState
 | 0, _, s => some s
 | m + 1, listed, s => match Region.ready .any all.toArray listed with
  | [] => some s
  | i :: _ => (match all[i]? with
   | some o => (match xone X E G H all o s with | some s1 => xexplC all m (setL listed i) s1 | none => none)
   | none => none)
def xexplA (all : List Oper) (k : Nat) (s0 : AState) : Nat -> Array Bool -> AState -> Bool
 | 0, listed, s => (Region.ready .any all.toArray listed).isEmpty && renB k s0 s
 | m + 1, listed, s => match Region.ready .any all.toArray listed with
  | [] => renB k s0 s
  | i :: l => (i :: l).all fun i => match all[i]? with
   | some o => (match xone X E G H all o s with | some s1 => xexplA all k s0 m (setL listed i) s1 | none => false)
   | none => false
def eqBs : List Bool -> List Bool -> Bool
 | [], [] => true
 | true :: l, true :: r => eqBs l r
 | false :: l, false :: r => eqBs l r
 | _, _ => false
def xloneC (h : RHint) (all : List Oper) : Nat -> Array Bool -> AState -> Option AState
 | 0, _, s => some s
 | m + 1, listed, s => match Region.ready .any all.toArray listed with
  | [] => none
  | i :: _ => (match all[i]? with
   | some o => (match xopL X E G H (quietHeap H all h.pre) h.tk all o s with | some s1 => xloneC h all m (setL listed i) s1 | none => none)
   | none => none)
def xloneA (h : RHint) (all : List Oper) (p : Array Bool) (s0 : AState) : Nat -> Array Bool -> AState -> Bool
 | 0, listed, s => eqBs listed.toList p.toList && sameS s0 s
 | m + 1, listed, s => !eqBs listed.toList p.toList && !(Region.ready .any all.toArray listed).isEmpty && (Region.ready .any all.toArray listed).all fun i => h.pre.contains (i, true) && (match all[i]? with
   | some o => (match xopL X E G H (quietHeap H all h.pre) h.tk all o s with | some s1 => xloneA h all p s0 m (setL listed i) s1 | none => false)
   | none => false)
def xdrawL (all : List Oper) (h : RHint) (s : AState) : Option AState :=
 match xord X E G H h.tk (quietHeap H all h.pre) (quietAt H all h.pre) all (quietPre h.pre) s with
 | some s1 => (match xloneC X E G H h all (h.pre.length - (quietPre h.pre).length) (preAll (quietPre h.pre) (Array.replicate all.length false)) s1 with
  | some s0 => (match xloneA X E G H h all (preAll h.pre (Array.replicate all.length false)) s0 (h.pre.length - (quietPre h.pre).length) (preAll (quietPre h.pre) (Array.replicate all.length false)) s1 with
   | true => (match showMk E all h.nw s0 with
    | some s2 => xops X E G H all (pickOps all h.tail) s2
    | none => none)
   | false => none)
  | none => none)
 | none => none
def xdraw (all : List Oper) (h : RHint) (s : AState) : Option AState :=
 if explMark h = true then (match xexplC X E G H all all.length (Array.replicate all.length false) s with
  | some s0 => (match xexplA X E G H all s.next s0 all.length (Array.replicate all.length false) s with | true => some s0 | false => none)
  | none => none)
 else
 if loneMark h = true then xdrawL X E G H all (unmark h) s else
 match xord X E G H h.tk (quietHeap H all h.pre) (quietAt H all h.pre) all h.pre s with
 | some s1 => (match showMk E all h.nw s1 with
  | some s2 => xops X E G H all (pickOps all h.tail) s2
  | none => none)
 | none => none
def xret (rs : List ResultVar) (s : AState) : Option XRes :=
 match retVals E s rs with
 | none => none
 | some vs =>
  if noLocL (tidyL vs) = true then some ⟨pack (tidyL vs), s.heap, s.next⟩
  else match expAll (repeatL s.locs.length (locNames s.locs)) s (tidyL vs) with
   |(s', vs') => if noLocL vs' = true then some ⟨pack vs', s'.heap, s'.next⟩ else none
end
/-! ### It is what the program does -/
def XQ (r : XRes) : AVal -> Heap -> Nat -> Prop := fun v h n => v = r.val /\ h = r.heap /\ n = r.next
section
variable {P : Program} {X : XCalls} {E : TEnv} {G : Globs} {H : Hints}
def XOk (P : Program) (G : Globs) (X : XCalls) : Prop := ∀ f args heap next r, X f args heap next = some r -> ACalls P G f args heap next (XQ r)
theorem xone_sound (hX : XOk P G X) {all : List Oper} {o : Oper} {s s' : AState} (h : xone X E G H all o s = some s') {K : AState -> Prop} (hK : K s') : aone (ACalls P G) E G H all o K s := by
 unfold xone at h
 unfold aone
 split at h
 ·simp at h
 rename_i b hb
 rw [hb]
 dsimp only
 split at h
 ·rename_i hb1
  rw [if_pos hb1]
  split at h
  ·rename_i c hc
   rw [hc]
   dsimp only
   split at h
   ·rename_i f args s2 hcal
    rw [hcal]
    dsimp only
    split at h
    ·rename_i r hr
     simp at h
     refine (hX _ _ _ _ _ hr).mono ?_
     rintro v hh n ⟨rfl, rfl, rfl⟩ _ _
     rw [h]; exact hK
    simp at h
   simp at h
  rename_i hc
  rw [hc]
  dsimp only
  rw [h]
  exact hK
 rename_i hb1
 rw [if_neg hb1]
 simp at h
 rw [h]; exact hK
theorem xops_sound (hX : XOk P G X) {all : List Oper} {K : AState -> Prop} : ∀ {ops : List Oper} {s s' : AState}, xops X E G H all ops s = some s' -> K s' -> aops (ACalls P G) E G H all K ops s
 | [], s, s', h, hK => by simp [xops] at h; subst h; exact hK
 | o :: rest, s, s', h, hK => by
  simp only [xops] at h
  simp only [aops, askK_eq]
  split at h
  ·rename_i s1 h1
   exact xone_sound hX h1 (xops_sound hX h hK)
  simp at h
theorem xopL_sound (hX : XOk P G X) {fh : Bool} {tk : List Nat} {all : List Oper} {o : Oper} {s s' : AState} (h : xopL X E G H fh tk all o s = some s') {K : AState -> Prop} (hK : K s') : opL (ACalls P G) E G H fh tk all o K s := by
 unfold xopL at h
 unfold opL
 split at h
 ·simp at h
 rename_i b hb
 rw [hb]
 dsimp only
 split at h
 ·rename_i hb1
  rw [if_pos hb1]
  split at h
  ·rename_i c hc
   rw [hc]
   dsimp only
   split at h
   ·rename_i f args s2 hcal
    rw [hcal]
    dsimp only
    cases hpu : isPure H o with
    | true =>
     rw [hpu] at h
     dsimp only at h ⊢
     split at h
     ·rename_i v n hr
      simp at h
      refine (hX _ _ _ _ _ hr).mono ?_
      rintro v hh n ⟨rfl, rfl, rfl⟩ _ _
      exact ⟨rfl, by rw [h]; exact hK⟩
     simp at h
    | false =>
     rw [hpu] at h
     dsimp only at h ⊢
     split at h
     ·rename_i r hr
      split at h
      ·rename_i hst
       simp at h
       refine (hX _ _ _ _ _ hr).mono ?_
       rintro v hh n ⟨rfl, rfl, rfl⟩ _ _
       refine ⟨fun hrd => ?_, by rw [h]; exact hK⟩
       rw [hrd] at hst
       exact staysB_spec (by simpa using hst)
      simp at h
     simp at h
   simp at h
  rename_i hc
  rw [hc]
  dsimp only
  split at h
  ·rename_i t ht
   rw [ht]
   dsimp only
   split at h
   ·rename_i s1 hs1
    rw [hs1]
    dsimp only
    rw [h]
    exact hK
   simp at h
  rename_i ht
  rw [ht]
  dsimp only
  split at h
  ·rename_i hst
   rw [hst]
   dsimp only
   rw [h]
   exact hK
  simp at h
 rename_i hb1
 rw [if_neg hb1]
 simp at h
 rw [h]; exact hK
theorem xord_sound (hX : XOk P G X) {tk : List Nat} {fh : Bool} {fq : Nat -> Bool} {all : List Oper} {T : AState -> Prop} : ∀ {l : List (Nat × Bool)} {s s' : AState}, xord X E G H tk fh fq all l s = some s' -> T s' -> aordP (ACalls P G) E G H tk fh fq all T l s
 | [], s, s', h, hK => by simp [xord] at h; subst h; exact hK
 |(i, lone) :: rest, s, s', h, hK => by
  simp only [xord] at h
  simp only [aordP]
  split at h
  ·simp at h
  rename_i o ho
  rw [ho]
  dsimp only
  simp only [askK_eq]
  split at h
  ·rename_i hl
   rw [if_pos hl]
   split at h
   ·rename_i s1 h1
    exact xopL_sound hX h1 (xord_sound hX h hK)
   simp at h
  rename_i hl
  rw [if_neg hl]
  split at h
  ·rename_i a ha
   rw [ha]
   exact xord_sound hX h hK
  simp at h
theorem xexplA_sound (hX : XOk P G X) {all : List Oper} {k : Nat} {s0 : AState} {Q : AState -> Prop} (hQ : Q s0) : ∀ (m : Nat) (listed : Array Bool) (s : AState), xexplA X E G H all k s0 m listed s = true -> aexpl (ACalls P G) E G H all (fun s' => ∃ s0, Q s0 /\ Renm G k s0 s') m listed s
 | 0, listed, s, h => by
  simp only [xexplA, Bool.and_eq_true, List.isEmpty_iff] at h
  exact ⟨h.1, s0, hQ, renB_spec h.2⟩
 | m + 1, listed, s, h => by
  simp only [xexplA] at h
  simp only [aexpl]
  split at h
  ·rename_i he
   exact .inl ⟨he, s0, hQ, renB_spec h⟩
  rename_i i l he
  refine .inr ⟨by rw [he]; simp, ?_⟩
  rw [he]
  intro j hj
  have h1 := List.all_eq_true.1 h j hj
  split at h1
  ·rename_i o ho
   split at h1
   ·rename_i s1 hs1
    exact ⟨o, ho, xone_sound hX hs1 (xexplA_sound hX hQ m _ s1 h1)⟩
   simp at h1
  simp at h1
theorem eqBs_spec : ∀ {a b : List Bool}, eqBs a b = true ↔ a = b
 | [], [] => by simp [eqBs]
 | [], _ :: _ => by simp [eqBs]
 | _ :: _, [] => by simp [eqBs]
 | true :: l, true :: r => by simp [eqBs, eqBs_spec (a := l) (b := r)]
 | false :: l, false :: r => by simp [eqBs, eqBs_spec (a := l) (b := r)]
 | true :: l, false :: r => by simp [eqBs]
 | false :: l, true :: r => by simp [eqBs]
theorem xloneA_sound (hX : XOk P G X) {h : RHint} {all : List Oper} {p : Array Bool} {s0 : AState} {K : AState -> Prop} (hK : K s0) : ∀ (m : Nat) (listed : Array Bool) (s : AState), xloneA X E G H h all p s0 m listed s = true -> aloneP (ACalls P G) E G H h all p K m listed s
 | 0, listed, s, hh => by
  simp only [xloneA, Bool.and_eq_true] at hh
  refine ⟨Array.ext' (eqBs_spec.1 hh.1), ?_⟩
  rw [← sameS_spec hh.2]
  exact hK
 | m + 1, listed, s, hh => by
  simp only [xloneA, Bool.and_eq_true, Bool.not_eq_true'] at hh
  obtain ⟨⟨h1, h2⟩, h3⟩ := hh
  refine ⟨fun e => ?_, fun e => by rw [e] at h2; simp at h2, fun i hi => ?_⟩
  ·rw [e, eqBs_spec.2 rfl] at h1
   simp at h1
  have h4 := List.all_eq_true.1 h3 i hi
  simp only [Bool.and_eq_true] at h4
  refine ⟨by simpa using h4.1, ?_⟩
  have h5 := h4.2
  split at h5
  ·rename_i o ho
   split at h5
   ·rename_i s1 hs1
    exact ⟨o, ho, xopL_sound hX hs1 (xloneA_sound hX hK m _ s1 h5)⟩
   simp at h5
  simp at h5
theorem xdrawL_sound (hX : XOk P G X) {all : List Oper} {h : RHint} {s s' : AState} (hh : xdrawL X E G H all h s = some s') {Q : AState -> Prop} (hQ : Q s') : adrawL (ACalls P G) E G H all h Q s := by
 unfold xdrawL at hh
 unfold adrawL
 split at hh
 ·rename_i s1 h1
  refine xord_sound hX h1 ?_
  split at hh
  ·rename_i s0 _
   split at hh
   ·rename_i h2
    refine xloneA_sound hX ?_ _ _ _ h2
    split at hh
    ·rename_i s2 h3
     rw [h3]
     exact xops_sound hX hh hQ
    simp at hh
   simp at hh
  simp at hh
 simp at hh
theorem xdraw_sound (hX : XOk P G X) {all : List Oper} {h : RHint} {s s' : AState} (hh : xdraw X E G H all h s = some s') {Q : AState -> Prop} (hQ : Q s') : adraw (ACalls P G) E G H all h Q s := by
 unfold xdraw at hh
 unfold adraw
 by_cases hx : explMark h = true
 ·rw [if_pos hx] at hh
  rw [if_pos hx]
  split at hh
  ·rename_i s0 _
   split at hh
   ·rename_i h2
    simp only [Option.some.injEq] at hh
    subst hh
    exact xexplA_sound hX hQ _ _ _ h2
   simp at hh
  simp at hh
 rw [if_neg hx] at hh
 rw [if_neg hx]
 by_cases hlm : loneMark h = true
 ·rw [if_pos hlm] at hh
  rw [if_pos hlm]
  exact xdrawL_sound hX hh hQ
 rw [if_neg hlm] at hh
 rw [if_neg hlm]
 split at hh
 ·rename_i s1 h1
  refine xord_sound hX h1 ?_
  split at hh
  ·rename_i s2 h2
   rw [h2]
   exact xops_sound hX hh hQ
  simp at hh
 simp at hh
theorem xret_sound {rs : List ResultVar} {s : AState} {r : XRes} (h : xret E rs s = some r) : aret E rs (XQ r) s := by
 unfold xret at h
 unfold aret
 split at h
 ·simp at h
 rename_i vs hvs
 rw [hvs]
 dsimp only
 split at h
 ·rename_i hn
  rw [if_pos hn]
  simp at h; subst h
  exact ⟨rfl, rfl, rfl⟩
 rename_i hn
 rw [if_neg hn]
 split at h
 rename_i s' vs' he
 rw [he]
 dsimp only
 split at h
 ·rename_i hn2
  rw [if_pos hn2]
  simp at h; subst h
  exact ⟨rfl, rfl, rfl⟩
 simp at h
/-- The table of functions is the program's. -/
def FOk (P : Program) (moves caps : FuncId -> Bool) (F : FuncId -> Option XFn) : Prop :=
 ∀ f x, F f = some x -> ∃ fn : Func, P.funcs[f]? = some fn /\ fn.body = some x.code /\ fn.ntmps = x.ntmps /\ fn.results.toList = x.results /\ chkAll ⟨moves, x.ord, caps, false⟩ x.code = true
end
/-! ### Tables of functions -/
def XFn.of (fn : Func) (ord : Nat -> RHint) (live : Nat -> Nat) : XFn := ⟨match fn.body with | some c => c | none => .skip, fn.ntmps, fn.results.toList, ord, live⟩
inductive FTr where
 |nil
 |node (l : FTr) (k : Nat) (fn : Func) (ord : Nat -> RHint) (live : Nat -> Nat) (r : FTr)
def FTr.find : FTr -> Nat -> Option XFn
 | .nil, _ => none
 | .node l k fn ord live r, t => match Nat.blt t k with
  | true => l.find t
  | false => (match Nat.blt k t with | true => r.find t | false => some (XFn.of fn ord live))
def bodyOk (moves caps : FuncId -> Bool) (fn : Func) (ord : Nat -> RHint) : Bool :=
 match fn.body with
 | some c => chkAll ⟨moves, ord, caps, false⟩ c
 | none => false
def fnOkX (P : Program) (moves caps : FuncId -> Bool) (k : Nat) (fn : Func) (ord : Nat -> RHint) : Prop := P.funcs[k]? = some fn /\ bodyOk moves caps fn ord = true
theorem fnOkX_mk {P : Program} {moves caps : FuncId -> Bool} {k : Nat} {fn : Func} {ord : Nat -> RHint} (h1 : P.funcs[k]? = some fn) (h2 : bodyOk moves caps fn ord = true) : fnOkX P moves caps k fn ord := ⟨h1, h2⟩
def FTr.All (P : Program) (moves caps : FuncId -> Bool) : FTr -> Prop
 | .nil => True
 | .node l k fn ord _ r => l.All P moves caps /\ fnOkX P moves caps k fn ord /\ r.All P moves caps
theorem FTr.all_nil {P : Program} {moves caps : FuncId -> Bool} : FTr.All P moves caps .nil := trivial
theorem FTr.all_node {P : Program} {moves caps : FuncId -> Bool} {l r : FTr} {k : Nat} {fn : Func} {ord : Nat -> RHint} {live : Nat -> Nat} (h1 : l.All P moves caps) (h2 : fnOkX P moves caps k fn ord) (h3 : r.All P moves caps) : FTr.All P moves caps (.node l k fn ord live r) := ⟨h1, h2, h3⟩
theorem FTr.ok {P : Program} {moves caps : FuncId -> Bool} : ∀ {t : FTr}, t.All P moves caps -> FOk P moves caps t.find
 | .nil, _ => by intro f x h; simp [FTr.find] at h
 | .node l k fn ord live r, ⟨h1, h2, h3⟩ => by
  intro f x h
  simp only [FTr.find] at h
  cases h1' : Nat.blt f k with
  | true => rw [h1'] at h; exact FTr.ok h1 f x h
  | false =>
   rw [h1'] at h
   cases h2' : Nat.blt k f with
   | true => rw [h2'] at h; exact FTr.ok h3 f x h
   | false =>
    rw [h2'] at h
    have a : ¬ @LT.lt Nat _ f k := fun h => by rw [← Nat.blt_eq, h1'] at h; simp at h
    have b : ¬ @LT.lt Nat _ k f := fun h => by rw [← Nat.blt_eq, h2'] at h; simp at h
    have hk : @Eq Nat f k := by omega
    subst hk
    simp at h
    subst h
    obtain ⟨g1, g2⟩ := h2
    refine ⟨fn, g1, ?_, rfl, rfl, ?_⟩
    ·unfold bodyOk at g2
     simp only [XFn.of]
     cases hb : fn.body with
     | none => rw [hb] at g2; simp at g2
     | some c => rfl
    unfold bodyOk at g2
    simp only [XFn.of]
    cases hb : fn.body with
    | none => rw [hb] at g2; simp at g2
    | some c => rw [hb] at g2; exact g2
end Go.Tp
