/- The generic layer: operations one behind the other; bounds. -/
import Derived.Test.YteanmfacikjjhaaGreatDoorTpDraw1
namespace Go.Tp

/-! ### Bounds -/
theorem bndDs_iff : ∀ {l : List Dat}, bndDs l ↔ ∀ d ∈ l, bndD d
  | [] => by simp [bndDs]
  | d :: r => by simp [bndDs, bndDs_iff (l := r)]

theorem bndD_cells {e : Dat} (h : ∀ (j : Nat) (c : Dat), e.cells[j]? = some c → bndD c) : bndD e := by
  cases e with
  | flat v => exact h 0 (.flat v) rfl
  | slice es => exact h 0 (.slice es) rfl
  | agg cs =>
    simp only [bndD]
    rw [bndDs_iff]
    intro d hd
    obtain ⟨j, hj⟩ := List.getElem?_of_mem hd
    exact h j d hj

theorem RepC.bnd {w : World} {R : Own} {v : Value} {d : Dat} (h : RepC w R v d) : bndD d := by
  induction h with
  | flat h => exact h
  | nil a cap => exact ⟨Nat.zero_le _, trivial⟩
  | slice b off cap s es vs hs hlen hcap hb hcell hrep ih =>
    simp only [bndD]
    refine ⟨hb, bndDs_iff.2 fun e he => ?_⟩
    obtain ⟨i, hi⟩ := List.getElem?_of_mem he
    exact bndD_cells fun j c hj => ih i j e c hi hj

theorem RepCs.bnd {w : World} {R : Own} : ∀ {vs : List Value} {cs : List Dat}, RepCs w R vs cs → bndDs cs
  | [], [], _ => trivial
  | _ :: _, _ :: _, h => ⟨h.1.bnd, RepCs.bnd h.2⟩
  | [], _ :: _, h => h.elim
  | _ :: _, [], h => h.elim

theorem RepD.bnd {w : World} {R : Own} {v : Value} : ∀ {d : Dat}, RepD w R v d → bndD d
  | .agg _, ⟨_, _, h⟩ => h.bnd
  | .flat _, h => RepC.bnd h
  | .slice _, h => RepC.bnd h

theorem RepAt.bnd {w : World} {R : Own} {b : Nat} : ∀ {off : Nat} {cs : List Dat}, RepAt w R b off cs → bndDs cs
  | _, [], _ => trivial
  | _, _ :: _, ⟨⟨_, _, _, hr⟩, ht⟩ => ⟨hr.bnd, RepAt.bnd ht⟩

section
variable {w : World} {R : Own} {N : Name → Option Nat}
mutual
theorem RepV.bnd : ∀ {a : AVal} {v : Value} {bs : List Nat}, RepV w R N a v bs → bndV a
  | .dat _, _, _, h => by simp only [RepV] at h; simp only [bndV]; exact h.2.bnd
  | .own _, _, _, h => by
    simp only [RepV] at h
    simp only [bndV]
    cases h with
    | nil => exact ⟨Nat.zero_le _, trivial⟩
    | row b cap s es vs t hblk hs0 hs hcap he hin h hsp => have := h.bnd; simpa only [bndD] using this
  | .ref _, _, _, h => by
    simp only [RepV] at h
    simp only [bndV]
    obtain ⟨_, b, off, _, h2⟩ := h
    exact h2.bnd
  | .ptr _ _, _, _, _ => by simp [bndV]
  | .map _, _, _, _ => by simp [bndV]
  | .win _ _ _ _, _, _, _ => by simp [bndV]
  | .fn _ first captured, _, _, h => by
    simp only [RepV] at h
    obtain ⟨_, vs, us, _, h2, h3⟩ := h
    simp only [bndV]
    exact ⟨RepVs.bnd (as := first) h2, RepVs.bnd (as := captured) h3⟩
  | .agg cs, _, _, h => by
    simp only [RepV] at h
    obtain ⟨vs, _, h2⟩ := h
    simp only [bndV]
    exact RepVs.bnd (as := cs) h2
  | .tup cs, _, _, h => by
    simp only [RepV] at h
    obtain ⟨vs, _, h2⟩ := h
    simp only [bndV]
    exact RepVs.bnd (as := cs) h2
  | .undef, _, _, _ => by simp [bndV]
theorem RepVs.bnd : ∀ {as : List AVal} {vs : List Value} {bs : List Nat}, RepVs w R N as vs bs → bndL as
  | [], _, _, _ => by simp [bndL]
  | a :: as, _, _, h => by
    simp only [RepVs] at h
    obtain ⟨v, vs', b1, b2, _, _, h1, h2⟩ := h
    simp only [bndL]
    exact ⟨RepV.bnd (a := a) h1, RepVs.bnd (as := as) h2⟩
end

theorem RepMap.bnd : ∀ {es : List (Value × Dat)} {ents : List MapEntry}, RepMap w R es ents → bndM es
  | [], _, _ => trivial
  | (_, _) :: _, _, ⟨_, _, _, _, h3, h4⟩ => ⟨h3.bnd, RepMap.bnd h4⟩

theorem bndL_left : ∀ {l m : List AVal}, bndL (l ++ m) → bndL l
  | [], _, _ => by simp [bndL]
  | a :: l, m, h => by simp only [List.cons_append, bndL] at h ⊢; exact ⟨h.1, bndL_left h.2⟩

theorem RepObjs.bnd : ∀ {os : List (Name × AObj)} {bs : List Nat}, RepObjs w R N os bs → bndO os
  | [], _, _ => trivial
  | (_, .cells _) :: _, _, ⟨_, _, _, _, _, ⟨_, _, _, _, h1, _⟩, h2⟩ => ⟨bndL_left h1.bnd, RepObjs.bnd h2⟩
  | (_, .map _) :: _, _, ⟨_, _, _, _, _, ⟨_, _, _, _, _, h1⟩, h2⟩ => ⟨h1.1.bnd, RepObjs.bnd h2⟩
end

section
variable {P : Program} {E : TEnv} {G : Globs} {H : Hints} {D : List Deferred}

theorem Keep.trans {w w1 w2 : World} {R R1 R2 : Own} {bs : List Nat} (h : Keep w R w1 R1 bs) (k : Keep w1 R1 w2 R2 bs) : Keep w R w2 R2 bs :=
  ⟨h.step.trans k.step, fun b hb hlt => by
    obtain ⟨e1, f1⟩ := h.same b hb hlt
    obtain ⟨e2, f2⟩ := k.same b hb (Nat.lt_of_lt_of_le hlt h.step.size)
    exact ⟨e2.trans e1, fun off hr => f2 off (f1 off hr)⟩⟩

theorem Aft.trans {K : AState → Prop} {w w1 : World} {R R1 : Own} {N N1 : Name → Option Nat} {bsF : List Nat} (hk : Keep w R w1 R1 bsF) (hN : ∀ o b, N (.out o) = some b → N1 (.out o) = some b) {a : Act} {w2 : World}
    (h : Aft G D K w1 R1 N1 bsF a w2) : Aft G D K w R N bsF a w2 := by
  obtain ⟨s', R', N', bsT, bsL, bsH, hq, hr, hd, hk', hN'⟩ := h
  exact ⟨s', R', N', bsT, bsL, bsH, hq, hr, hd, hk.trans hk', fun o b h => hN' o b (hN o b h)⟩

theorem wanted_sound {ops : Array Oper} {s : AState} {act : Act} {w : World} {R : Own} {N : Name → Option Nat} {bsT : List Nat} (ht : RepVs w R N s.tmps act.tmps.toList bsT) {o : Oper} {b : Bool} (h : wantedA ops.toList s o.guard = some b) :
    Region.wanted o (yielded ops act.tmps) = b := by
  unfold wantedA at h
  unfold Region.wanted
  cases hg : o.guard with
  | none => rw [hg] at h; simp at h; simp [← h]
  | some jw =>
    obtain ⟨j, want⟩ := jw
    rw [hg] at h
    simp only at h ⊢
    split at h
    · rename_i o' ho'
      split at h
      · rename_i t ht'
        split at h
        · rename_i b' hb'
          simp at h
          have hget : s.tmps[t]? = some (.dat (.flat (.bool b'))) := by
            unfold getT at hb'
            cases hs : s.tmps[t]? with
            | none => rw [hs] at hb'; simp at hb'
            | some v => rw [hs] at hb'; simp at hb'; rw [hb']
          obtain ⟨v, bs', e1, e2, _⟩ := repVs_get ht hget
          obtain ⟨_, rfl, _⟩ := repV_flat_inv e2
          have ho2 : ops[j]? = some o' := by simpa using ho'
          have hy : yielded ops act.tmps j = some b' := by
            unfold yielded
            simp at e1
            simp [ho2, ht', e1]
          rw [hy]
          rw [← h]
          cases b' <;> cases want <;> rfl
        · rename_i hb'
          simp at h
          have hget : s.tmps[t]? = some (.tup []) := by
            unfold getT at hb'
            cases hs : s.tmps[t]? with
            | none => rw [hs] at hb'; simp at hb'
            | some v => rw [hs] at hb'; simp at hb'; rw [hb']
          obtain ⟨v, bs', e1, e2, _⟩ := repVs_get ht hget
          simp only [RepV, RepVs] at e2
          obtain ⟨vs, rfl, rfl, _⟩ := e2
          have ho2 : ops[j]? = some o' := by simpa using ho'
          have hy : yielded ops act.tmps j = none := by
            unfold yielded
            simp at e1
            simp [ho2, ht', e1]
          rw [hy, h]
          rfl
        · simp at h
      · simp at h
    · simp at h

theorem ran_wp {o : Oper} {act : Act} {w w' : World} {cv : Value} {K : Act → World → Prop} {Qx : Exit → Act → World → Prop} (hran : Ran P w act.eval o cv w') (h : K (act.put o.dst cv) w') : o.wp P act w K Qx := by
  unfold Oper.wp
  rcases hran with hran | ⟨hran, rfl⟩
  · rw [hran, Oper.upon_value]; exact h
  · rw [hran, Oper.upon_skip]; exact h

/-- A call whose arguments are in hand. -/
theorem call_sound {f : FuncId} {args : List AVal} {s2 : AState} {o : Oper} {cargs : List Value} {act : Act} {w : World} {R : Own} {N : Name → Option Nat} {bsA bsT bsL bsH bsF : List Nat} {K : AState → Prop} {Qx : Exit → Act → World → Prop} {Kx : Act → World → Prop}
    (hrun : (execOp act.eval o).run P w = .ok (.enter f cargs.toArray) w) (hr2 : RelB G w R N act.tmps.toList s2 (.tuple cargs.toArray) (.tup args) bsA bsT bsL bsH bsF) (hno : noLocL args = true) (hd : act.defers = D)
    (h : ACalls P G f args s2.heap s2.next (fun v heap n => bndV v → bndO heap → K (({ s2 with heap := heap, next := n } : AState).put o.dst v)))
    (hK : ∀ (v : AVal) (cv : Value) (heap : List (Name × AObj)) (n : Nat) (w' : World) (R' : Own) (N' : Name → Option Nat) (bsT' bsH' : List Nat), K (({ s2 with heap := heap, next := n } : AState).put o.dst v) →
      RelB G w' R' N' (act.put o.dst cv).tmps.toList (({ s2 with heap := heap, next := n } : AState).put o.dst v) undef .undef [] bsT' bsL bsH' bsF → Keep w R w' R' (bsL ++ bsF) → (∀ m c, N m = some c → N' m = some c) → (∀ i, N' (.loc i) = N (.loc i)) → Kx (act.put o.dst cv) w') :
    o.wp P act w Kx Qx := by
  unfold Oper.wp
  rw [hrun, Oper.upon_enter]
  have hv := hr2.val
  simp only [RepV] at hv
  obtain ⟨cs0, ec, hargs⟩ := hv
  simp at ec
  subst ec
  have hndA : (bsA ++ (bsH ++ (bsT ++ (bsL ++ bsF)))).Nodup := by
    have hp : (bsA ++ (bsH ++ (bsT ++ (bsL ++ bsF)))).Perm (bsA ++ (bsT ++ (bsL ++ (bsH ++ bsF)))) := by
      rw [List.perm_iff_count]; intro q; simp only [List.count_append]; omega
    exact hp.nodup_iff.2 hr2.nodup
  refine (h w R N cargs bsA bsH (bsT ++ (bsL ++ bsF)) (hargs.reN hno (fun _ => rfl)) hr2.heap hndA hr2.next hr2.glob ?_).mono ?_
  · intro b hb
    simp at hb
    rcases hb with h | h | h
    · exact hr2.tmps.lt b h
    · exact hr2.locs.lt b h
    · exact hr2.frame b h
  · rintro e w' ⟨v, cv, heap', next', R'', N'', bsV, bsH'', rfl, hQ, hv2, hh2, hnd2, hnx2, hk3, hN3⟩
    -- the caller's names beside the callee's
    let N3 : Name → Option Nat := fun m => match m with | .loc i => N (.loc i) | .out o => N'' (.out o)
    have hext : ∀ m c, N m = some c → N3 m = some c := fun m c hm => by cases m with | loc i => exact hm | out o => exact hN3 o c hm
    have hkT : Keep w R w' R'' bsT := hk3.sub (by intro b hb; simp [hb])
    have hkL : Keep w R w' R'' bsL := hk3.sub (by intro b hb; simp [hb])
    have hkF : Keep w R w' R'' (bsL ++ bsF) := hk3.sub (by intro b hb; simp at hb; rcases hb with h | h <;> simp [h])
    have ht3 : RepVs w' R'' N3 s2.tmps act.tmps.toList bsT := (hr2.tmps.keep hkT).ext hext
    have hl3 : RepObjs w' R'' N3 s2.locs bsL := (hr2.locs.keep hkL).ext hext
    have hh3 : RepObjs w' R'' (outs N3) heap' bsH'' := hh2.outs_eq (N := N'') (N' := N3) (fun _ => rfl)
    have hv3 : RepV w' R'' N3 v cv bsV := hv2.reN hv2.noLoc_of_outs (fun _ => rfl)
    have hnd3 : (bsV ++ (bsT ++ (bsL ++ (bsH'' ++ bsF)))).Nodup := by
      have hp : (bsV ++ (bsT ++ (bsL ++ (bsH'' ++ bsF)))).Perm (bsV ++ (bsH'' ++ (bsT ++ (bsL ++ bsF)))) := by
        rw [List.perm_iff_count]; intro q; simp only [List.count_append]; omega
      exact hp.nodup_iff.2 hnd2
    let s3 : AState := { s2 with heap := heap', next := next' }
    obtain ⟨bsT2, hp1, hp2⟩ := put_state (s := s3) o.dst ht3 hv3 hnd3
    obtain ⟨q1, q2, q3⟩ := put_locs s3 o.dst v
    obtain ⟨pa1, pa2⟩ := put_act act o.dst cv
    have hr4 : RelB G w' R'' N3 (act.put o.dst cv).tmps.toList (s3.put o.dst v) undef .undef [] bsT2 bsL bsH'' bsF :=
      ⟨repV_undef _, by rw [pa1]; exact hp1, by rw [q1]; exact hl3, by rw [q2]; exact hh3, by simpa using hp2, by rw [q3]; exact hnx2,
        fun g cs hg => (hr2.glob g cs hg).step hk3.step, fun b hb => Nat.lt_of_lt_of_le (hr2.frame b hb) hk3.step.size⟩
    exact hK v cv heap' next' w' R'' N3 bsT2 bsH'' (hQ hv2.bnd hh2.bnd) hr4 hkF hext (fun _ => rfl)

/-- A call that is handed no object. -/
theorem pure_call_sound {f : FuncId} {args : List AVal} {s2 : AState} {o : Oper} {cargs : List Value} {act : Act} {w : World} {R : Own} {N : Name → Option Nat} {bsA bsT bsL bsH bsF : List Nat} {K : AState → Prop} {Qx : Exit → Act → World → Prop} {Kx : Act → World → Prop}
    (hrun : (execOp act.eval o).run P w = .ok (.enter f cargs.toArray) w) (hr2 : RelB G w R N act.tmps.toList s2 (.tuple cargs.toArray) (.tup args) bsA bsT bsL bsH bsF) (hno : noLocL args = true) (hd : act.defers = D)
    (h : ACalls P G f args [] s2.next (fun v heap n => bndV v → bndO heap → heap = [] ∧ K (({ s2 with next := n } : AState).put o.dst v)))
    (hK : ∀ (v : AVal) (cv : Value) (n : Nat) (w' : World) (R' : Own) (N' : Name → Option Nat) (bsT' : List Nat), K (({ s2 with next := n } : AState).put o.dst v) →
      RelB G w' R' N' (act.put o.dst cv).tmps.toList (({ s2 with next := n } : AState).put o.dst v) undef .undef [] bsT' bsL bsH bsF → Keep w R w' R' (bsL ++ (bsH ++ bsF)) → (∀ m c, N m = some c → N' m = some c) → (∀ i, N' (.loc i) = N (.loc i)) → Kx (act.put o.dst cv) w') :
    o.wp P act w Kx Qx := by
  unfold Oper.wp
  rw [hrun, Oper.upon_enter]
  have hv := hr2.val
  simp only [RepV] at hv
  obtain ⟨cs0, ec, hargs⟩ := hv
  simp at ec
  subst ec
  have hndA : (bsA ++ ([] ++ (bsH ++ (bsT ++ (bsL ++ bsF))))).Nodup := by
    have hp : (bsA ++ ([] ++ (bsH ++ (bsT ++ (bsL ++ bsF))))).Perm (bsA ++ (bsT ++ (bsL ++ (bsH ++ bsF)))) := by
      rw [List.perm_iff_count]; intro q; simp only [List.count_append, List.count_nil]; omega
    exact hp.nodup_iff.2 hr2.nodup
  refine (h w R N cargs bsA [] (bsH ++ (bsT ++ (bsL ++ bsF))) (hargs.reN hno (fun _ => rfl)) rfl hndA hr2.next hr2.glob ?_).mono ?_
  · intro b hb
    simp at hb
    rcases hb with h | h | h | h
    · exact hr2.heap.lt b h
    · exact hr2.tmps.lt b h
    · exact hr2.locs.lt b h
    · exact hr2.frame b h
  · rintro e w' ⟨v, cv, heap', next', R'', N'', bsV, bsH'', rfl, hQ, hv2, hh2, hnd2, hnx2, hk3, hN3⟩
    obtain ⟨rfl, hQ2⟩ := hQ hv2.bnd hh2.bnd
    obtain rfl : bsH'' = [] := hh2
    let N3 : Name → Option Nat := fun m => match m with | .loc i => N (.loc i) | .out o => N'' (.out o)
    have hext : ∀ m c, N m = some c → N3 m = some c := fun m c hm => by cases m with | loc i => exact hm | out o => exact hN3 o c hm
    have hkT : Keep w R w' R'' bsT := hk3.sub (by intro b hb; simp [hb])
    have hkL : Keep w R w' R'' bsL := hk3.sub (by intro b hb; simp [hb])
    have hkH : Keep w R w' R'' bsH := hk3.sub (by intro b hb; simp [hb])
    have hkF : Keep w R w' R'' (bsL ++ (bsH ++ bsF)) := hk3.sub (by intro b hb; simp at hb; rcases hb with h | h | h <;> simp [h])
    have ht3 : RepVs w' R'' N3 s2.tmps act.tmps.toList bsT := (hr2.tmps.keep hkT).ext hext
    have hl3 : RepObjs w' R'' N3 s2.locs bsL := (hr2.locs.keep hkL).ext hext
    have hh3 : RepObjs w' R'' (outs N3) s2.heap bsH := (hr2.heap.keep hkH).ext (fun m c hm => by
      cases m with
      | loc i => simp [outs] at hm
      | out k => simp only [outs] at hm ⊢; exact hext _ _ hm)
    have hv3 : RepV w' R'' N3 v cv bsV := hv2.reN hv2.noLoc_of_outs (fun _ => rfl)
    have hnd3 : (bsV ++ (bsT ++ (bsL ++ (bsH ++ bsF)))).Nodup := by
      have hp : (bsV ++ (bsT ++ (bsL ++ (bsH ++ bsF)))).Perm (bsV ++ ([] ++ (bsH ++ (bsT ++ (bsL ++ bsF))))) := by
        rw [List.perm_iff_count]; intro q; simp only [List.count_append, List.count_nil]; omega
      exact hp.nodup_iff.2 hnd2
    let s3 : AState := { s2 with next := next' }
    obtain ⟨bsT2, hp1, hp2⟩ := put_state (s := s3) o.dst ht3 hv3 hnd3
    obtain ⟨q1, q2, q3⟩ := put_locs s3 o.dst v
    obtain ⟨pa1, pa2⟩ := put_act act o.dst cv
    have hr4 : RelB G w' R'' N3 (act.put o.dst cv).tmps.toList (s3.put o.dst v) undef .undef [] bsT2 bsL bsH bsF :=
      ⟨repV_undef _, by rw [pa1]; exact hp1, by rw [q1]; exact hl3, by rw [q2]; exact hh3, by simpa using hp2, by rw [q3]; exact hnx2,
        fun g cs hg => (hr2.glob g cs hg).step hk3.step, fun b hb => Nat.lt_of_lt_of_le (hr2.frame b hb) hk3.step.size⟩
    exact hK v cv next' w' R'' N3 bsT2 hQ2 hr4 hkF hext (fun _ => rfl)

/-- A guard that says no. -/
theorem unwanted_rel {s : AState} {act : Act} {w : World} {R : Own} {N : Name → Option Nat} {bsT bsL bsH bsF : List Nat} (hr : RelB G w R N act.tmps.toList s undef .undef [] bsT bsL bsH bsF) (dst : Option Tmp) :
    ∃ bsT', RelB G w R N (act.put dst undef).tmps.toList (s.put dst (.tup [])) undef .undef [] bsT' bsL bsH bsF := by
  obtain ⟨bsT', hp1, hp2⟩ := put_state (a := .tup []) (v := undef) (b := []) dst hr.tmps (by simp [RepV, RepVs, undef]) (by simpa using hr.nodup)
  obtain ⟨q1, q2, q3⟩ := put_locs s dst (.tup [])
  exact ⟨bsT', repV_undef _, by rw [(put_act act dst undef).1]; exact hp1, by rw [q1]; exact hr.locs, by rw [q2]; exact hr.heap, by simpa using hp2, by rw [q3]; exact hr.next, hr.glob, hr.frame⟩

theorem aone_sound (hE : E.Ok P) (ops : Array Oper) {i : Nat} {o : Oper} (hi : ops[i]? = some o) {K : AState → Prop} {s : AState} (h : aone (ACalls P G) E G H ops.toList o K s) {Qx : Exit → Act → World → Prop}
    {w : World} {R : Own} {N : Name → Option Nat} {act : Act} {bsT bsL bsH bsF : List Nat} (hr : RelB G w R N act.tmps.toList s undef .undef [] bsT bsL bsH bsF) (hd : act.defers = D) :
    wpOp P ops Qx i (Aft G D K w R N bsF) act w := by
  unfold wpOp
  simp only [hi]
  unfold aone at h
  split at h
  · exact h.elim
  · rename_i b hw
    have hwt := wanted_sound hr.tmps hw
    rw [hwt]
    split at h
    · rename_i hb
      rw [if_pos hb]
      left
      split at h
      · rename_i c hc
        have hop := isCall_op hc
        split at h
        · rename_i f args s2 hcal
          obtain ⟨cargs, hrun, R', N', bsA, bsT', bsL', bsH', hr2, hk2, hN2, hno, _⟩ := acallee_sound hE hcal hr o hop
          refine call_sound hrun hr2 hno hd h ?_
          intro v cv heap n w' R'' N'' bsT2 bsH2 hK hr4 hk3 hext _
          exact ⟨_, R'', N'', bsT2, bsL', bsH2, hK, hr4, by rw [(put_act act o.dst cv).2]; exact hd, hk2.trans (hk3.sub (by intro b hb; simp [hb])), fun o b h => hext _ _ (hN2 o b h)⟩
        · exact h.elim
      · split at h
        · rename_i s' hst
          obtain ⟨cv, w', hran, ⟨R', N', bsT', bsL', bsH', hr', hk', hN', _⟩, _⟩ := astep_sound hE hst hr
          exact ran_wp hran ⟨s', R', N', bsT', bsL', bsH', h, hr', by rw [(put_act act o.dst cv).2]; exact hd, hk', fun o b h => hN' _ _ h⟩
        · exact h.elim
    · rename_i hb
      rw [if_neg hb]
      obtain ⟨bsT', hr'⟩ := unwanted_rel hr o.dst
      exact ⟨_, R, N, bsT', bsL, bsH, h, hr', by rw [(put_act act o.dst undef).2]; exact hd, keep_refl _, fun _ _ h => h⟩

theorem aops_sound (hE : E.Ok P) (ops : Array Oper) (Q : AState → Prop) (Kx : Exit → Act → World → Prop) :
    ∀ (rest : List Oper) (k : Nat) (s : AState), ops.toList.drop k = rest → aops (ACalls P G) E G H ops.toList Q rest s → ∀ (w : World) (R : Own) (N : Name → Option Nat) (act : Act) (bsT bsL bsH bsF : List Nat),
      RelB G w R N act.tmps.toList s undef .undef [] bsT bsL bsH bsF → act.defers = D → (∀ a' w', Aft G D Q w R N bsF a' w' → Kx .normal a' w') → wpOps P ops Kx (List.range' k rest.length) act w
  | [], k, s, _, h, w, R, N, act, bsT, bsL, bsH, bsF, hr, hd, hK => by
    simp only [List.length_nil, List.range'_zero, wpOps]
    exact hK _ _ ⟨s, R, N, bsT, bsL, bsH, h, hr, hd, keep_refl _, fun _ _ h => h⟩
  | o :: rest, k, s, hdrop, h, w, R, N, act, bsT, bsL, bsH, bsF, hr, hd, hK => by
    have hok : ops[k]? = some o := by
      have := List.getElem?_drop (xs := ops.toList) (i := k) (j := 0)
      rw [hdrop] at this
      simpa using this.symm
    have hdrop' : ops.toList.drop (k + 1) = rest := by rw [← List.drop_drop, hdrop]; rfl
    simp only [aops, askK_eq] at h
    simp only [List.length_cons, List.range'_succ]
    rw [wpOps_cons]
    refine wpOp_mono ?_ (aone_sound hE ops hok (K := aops (ACalls P G) E G H ops.toList Q rest) h hr hd)
    rintro a' w' ⟨s', R', N', bsT', bsL', bsH', hq, hr', hd', hk', hN'⟩
    exact aops_sound hE ops Q Kx rest (k + 1) s' hdrop' hq w' R' N' a' bsT' bsL' bsH' bsF hr' hd' (fun a2 w2 h2 => hK a2 w2 (h2.trans hk' hN'))

theorem acode_region (hE : E.Ok P) {id : Nat} {ops : Array Oper} {Q : Exit → AState → Prop} {s : AState} (h : aops (ACalls P G) E G H ops.toList (Q .normal) ops.toList s) : ACode P G (.region id ops false) Q s := by
  intro w R N act bsT bsL bsH bsF hr D hd
  apply wp_region
  rw [List.range_eq_range', ← Array.length_toList]
  exact aops_sound hE ops (Q .normal) _ ops.toList 0 s (by simp) h w R N act bsT bsL bsH bsF hr hd (fun _ _ h => h)

/-! ### Two that may come up in either order -/
def dropT (T : List AVal) (mv : Option Nat) (xs : List Operand) : List AVal :=
  match mv with
  | none => T
  | some k => match xs[k]? with
    | some (.tmp t) => T.set t (unOwn (getT T t))
    | _ => T

theorem dropOwn_eq (s : AState) (mv : Option Nat) (xs : List Operand) : dropOwn s mv xs = { s with tmps := dropT s.tmps mv xs } := by
  unfold dropOwn dropT
  cases mv with
  | none => rfl
  | some k =>
    dsimp only
    cases xs[k]? with
    | none => rfl
    | some x => cases x <;> rfl

theorem dropT_cases (T : List AVal) (mv : Option Nat) (xs : List Operand) : (∃ t, xs.any (isTmp t) = true ∧ ∀ T', dropT T' mv xs = T'.set t (unOwn (getT T' t))) ∨ ∀ T', dropT T' mv xs = T' := by
  unfold dropT
  cases mv with
  | none => exact .inr fun _ => rfl
  | some k =>
    dsimp only
    cases hx : xs[k]? with
    | none => exact .inr fun _ => rfl
    | some x =>
      cases x with
      | tmp t =>
        refine .inl ⟨t, ?_, fun _ => rfl⟩
        rw [List.any_eq_true]
        exact ⟨.tmp t, List.mem_of_getElem? hx, Nat.beq_refl t⟩
      | _ => exact .inr fun _ => rfl

theorem aeval_tmps (s : AState) (T : List AVal) {x : Operand} (h : ∀ t, isTmp t x = true → getT T t = getT s.tmps t) : aeval G { s with tmps := T } x = aeval G s x := by
  cases x with
  | tmp t => exact h t (Nat.beq_refl t)
  | _ => rfl

theorem evalArgs_tmps (s : AState) (T : List AVal) (mv : Option Nat) : ∀ (k : Nat) {xs : List Operand}, (∀ t, xs.any (isTmp t) = true → getT T t = getT s.tmps t) → evalArgs G { s with tmps := T } mv k xs = evalArgs G s mv k xs
  | _, [], _ => rfl
  | k, x :: r, h => by
    simp only [evalArgs]
    rw [aeval_tmps s T (fun t ht => h t (by simp [ht])), evalArgs_tmps s T mv (k + 1) (fun t ht => h t (by simp [ht]))]

theorem obj_tmps (s : AState) (T : List AVal) (n : Name) : AState.obj { s with tmps := T } n = s.obj n := by cases n <;> rfl

theorem lookedAt_tmps (s : AState) (T : List AVal) (o : Op) (vals : List AVal) : lookedAt { s with tmps := T } o vals = lookedAt s o vals := by
  unfold lookedAt
  cases looks o vals with
  | none => rfl
  | some n => exact obj_tmps s T n

theorem astepOut_tmps {o : Oper} (hd : o.dst = none) {n : Option Name} {s s' : AState} {out : Out} (T : List AVal) (h : astepOut o n s out = some s') : astepOut o n { s with tmps := T } out = some { s' with tmps := T } ∧ s'.tmps = s.tmps := by
  unfold astepOut at h ⊢
  cases he : out.eff with
  | keep => rw [he] at h; simp only [hd, AState.put] at h ⊢; cases h; exact ⟨rfl, rfl⟩
  | set ob' =>
    rw [he] at h
    simp only [hd, AState.put] at h ⊢
    cases n with
    | none => simp at h
    | some n =>
      cases n with
      | loc i => simp only [AState.setObj] at h ⊢; cases h; exact ⟨rfl, rfl⟩
      | out k =>
        simp only [AState.setObj] at h ⊢
        by_cases hn : noLocO ob' = true
        · simp only [hn, if_true] at h ⊢; cases h; exact ⟨rfl, rfl⟩
        · simp [hn] at h
  | new ob' => rw [he] at h; simp [hd] at h
  | row ob' sz len => rw [he] at h; simp [hd] at h
  | fresh ob' =>
    rw [he] at h
    simp only [hd, AState.put] at h ⊢
    by_cases hn : noLocO ob' = true
    · simp only [hn, if_true] at h ⊢; cases h; exact ⟨rfl, rfl⟩
    · simp [hn] at h
  | grow ob' sz len =>
    rw [he] at h
    simp only [hd, AState.put] at h ⊢
    cases n with
    | none =>
      by_cases hn : noLocO ob' = true
      · simp only [hn, if_true] at h ⊢; cases h; exact ⟨rfl, rfl⟩
      · simp [hn] at h
    | some n =>
      cases n with
      | loc i =>
        by_cases hn : noLocO ob' = true
        · simp only [hn, if_true] at h ⊢; cases h; exact ⟨rfl, rfl⟩
        · simp [hn] at h
      | out k =>
        by_cases hn : noLocO ob' = true
        · simp only [hn, if_true] at h ⊢; cases h; exact ⟨rfl, rfl⟩
        · simp [hn] at h

/-- What lands in a slot, if there is one. -/
def dstSet (T : List AVal) (d : Option Tmp) (v : AVal) : List AVal := match d with | some d => T.set d v | none => T
def eff0 : Eff → Bool
  | .new _ => false
  | .row _ _ _ => false
  | _ => true
theorem put_dst (s : AState) (d : Option Tmp) (v : AVal) : s.put d v = { s with tmps := dstSet s.tmps d v } := by cases d <;> rfl
theorem astepOut_tmps2 {o : Oper} {n : Option Name} {s s' : AState} {out : Out} (hd : o.dst = none ∨ eff0 out.eff = true) (h : astepOut o n s out = some s') :
    ∃ v, (∀ T, astepOut o n { s with tmps := T } out = some { s' with tmps := dstSet T o.dst v }) ∧ s'.tmps = dstSet s.tmps o.dst v := by
  rcases hd with hd | hd
  · refine ⟨.undef, fun T => ?_, ?_⟩
    · rw [hd]; exact (astepOut_tmps hd T h).1
    · rw [hd]; exact (astepOut_tmps hd s.tmps h).2
  · unfold astepOut at h ⊢
    cases he : out.eff with
    | new ob' => rw [he] at hd; simp [eff0] at hd
    | row ob' sz len => rw [he] at hd; simp [eff0] at hd
    | keep =>
      rw [he] at h
      simp only [put_dst] at h ⊢
      cases h
      exact ⟨out.val, fun T => rfl, rfl⟩
    | set ob' =>
      rw [he] at h
      simp only [put_dst] at h ⊢
      cases n with
      | none => simp at h
      | some n =>
        cases n with
        | loc i => simp only [AState.setObj] at h ⊢; cases h; exact ⟨out.val, fun T => rfl, rfl⟩
        | out k =>
          simp only [AState.setObj] at h ⊢
          by_cases hn : noLocO ob' = true
          · simp only [hn, if_true] at h ⊢; cases h; exact ⟨out.val, fun T => rfl, rfl⟩
          · simp [hn] at h
    | fresh ob' =>
      rw [he] at h
      simp only [put_dst] at h ⊢
      by_cases hn : noLocO ob' = true
      · simp only [hn, if_true] at h ⊢; cases h; exact ⟨_, fun T => rfl, rfl⟩
      · simp [hn] at h
    | grow ob' sz len =>
      rw [he] at h
      simp only [put_dst] at h ⊢
      by_cases hn : noLocO ob' = true
      · simp only [hn, if_true] at h ⊢
        cases n with
        | none => cases h; exact ⟨_, fun T => rfl, rfl⟩
        | some n => cases n with
          | loc k => cases h; exact ⟨_, fun T => rfl, rfl⟩
          | out k => cases h; exact ⟨_, fun T => rfl, rfl⟩
      · simp only [hn] at h
        cases n with
        | none => simp at h
        | some n => cases n <;> simp at h

theorem growRow_eff {i : TI} {len : Nat} {cs : List AVal} {x : AVal} {out : Out} (h : growRow E i len cs x = some out) : eff0 out.eff = true := by
  unfold growRow at h
  repeat' split at h
  all_goals first
    | (simp at h; done)
    | (cases h; rfl)
theorem app_eff {take : Bool} {op : Op} (hop : isApp op = true) {vals : List AVal} {ob : Option AObj} {out : Out} (h : aop E take op vals ob = some out) : eff0 out.eff = true := by
  unfold isApp at hop
  split at hop
  · rename_i args tys
    simp only [aop, aBuiltin] at h
    split at h
    · simp at h
    · split at h
      · split at h
        · unfold aAppend at h
          repeat' split at h
          all_goals first
            | (simp at h; done)
            | exact growRow_eff h
            | (cases h; rfl)
        · unfold aAppendStr at h
          repeat' split at h
          all_goals first
            | (simp at h; done)
            | (cases h; rfl)
      · simp at h
  · simp at hop

/-- A step that writes no slot, or is an append, on other slots. -/
theorem astep_tmps {q take : Bool} {o : Oper} (hd : o.dst = none ∨ isApp o.op = true) {s s' : AState} (h : astep E G q take o s = some s') :
    ∃ v, (∀ T : List AVal, (∀ t, (opsL o.op).any (isTmp t) = true → getT T t = getT s.tmps t) → astep E G q take o { s with tmps := T } = some { s' with tmps := dstSet (dropT T (mvQ q o.op) (opsL o.op)) o.dst v }) ∧
      s'.tmps = dstSet (dropT s.tmps (mvQ q o.op) (opsL o.op)) o.dst v := by
  unfold astep at h ⊢
  split at h
  · simp at h
  · rename_i out ho
    rw [dropOwn_eq] at h
    obtain ⟨v, h1, h2⟩ := astepOut_tmps2 (hd.imp id (fun hd => app_eff hd ho)) h
    refine ⟨v, fun T hT => ?_, h2⟩
    rw [evalArgs_tmps s T (mvQ q o.op) 0 hT, lookedAt_tmps, ho]
    dsimp only
    rw [dropOwn_eq]
    exact h1 _

/-- A step that reads a slot and writes one. -/
theorem astep_slot {q take : Bool} {o : Oper} {x d : Tmp} (hx : opsL o.op = [.tmp x]) (hl : ∀ vals, looks o.op vals = none) (hk : ∀ vals ob out, aop E take o.op vals ob = some out → out.eff = .keep) (hd : o.dst = some d) {s s' : AState}
    (h : astep E G q take o s = some s') :
    ∃ val, s' = { s with tmps := (dropT s.tmps (mvQ q o.op) [.tmp x]).set d val } ∧ ∀ s2 : AState, getT s2.tmps x = getT s.tmps x → astep E G q take o s2 = some { s2 with tmps := (dropT s2.tmps (mvQ q o.op) [.tmp x]).set d val } := by
  unfold astep at h
  split at h
  · simp at h
  · rename_i out ho
    have hke := hk _ _ _ ho
    refine ⟨out.val, ?_, ?_⟩
    · unfold astepOut at h
      rw [hke, dropOwn_eq, hd, hx] at h
      simp only [AState.put] at h
      cases h
      rfl
    · intro s2 h2
      have hv : evalArgs G s2 (mvQ q o.op) 0 (opsL o.op) = evalArgs G s (mvQ q o.op) 0 (opsL o.op) := by
        rw [hx]
        simp only [evalArgs, aeval, h2]
      unfold astep
      have hla : ∀ s3 : AState, ∀ vals, lookedAt s3 o.op vals = none := fun s3 vals => by unfold lookedAt; rw [hl]
      rw [hla] at ho
      rw [hv, hla, ho]
      dsimp only
      unfold astepOut
      rw [hke, dropOwn_eq, hd, hx]
      rfl

theorem keepK_move {take : Bool} {x : Operand} (vals : List AVal) (ob : Option AObj) (out : Out) (h : aop E take (.move x) vals ob = some out) : out.eff = .keep := by
  simp only [aop, aMove] at h
  split at h
  · cases h; rfl
  · simp at h

theorem keepK_extract {take : Bool} {x : Operand} {k : Nat} (vals : List AVal) (ob : Option AObj) (out : Out) (h : aop E take (.extract x k) vals ob = some out) : out.eff = .keep := by
  simp only [aop, aExtract] at h
  split at h
  · split at h
    · cases h; rfl
    · simp at h
  · simp at h

theorem slots_swap {T : List AVal} {x d : Tmp} {val : AVal} {mi mj : Option Nat} {xs : List Operand} (hx : xs.any (isTmp x) = false) (hd : xs.any (isTmp d) = false) :
    (dropT (dropT T mj xs) mi [.tmp x]).set d val = dropT ((dropT T mi [.tmp x]).set d val) mj xs := by
  rcases dropT_cases T mj xs with ⟨t, ht, e⟩ | e
  · have htx : t ≠ x := fun h => by rw [h, hx] at ht; simp at ht
    have htd : t ≠ d := fun h => by rw [h, hd] at ht; simp at ht
    simp only [e]
    rcases dropT_cases T mi [.tmp x] with ⟨u, hu, e2⟩ | e2
    · have hux : u = x := ((show x = u by simpa [isTmp] using hu)).symm
      subst hux
      simp only [e2]
      rw [getT_set_ne htx, getT_set_ne (Ne.symm htd), getT_set_ne (Ne.symm htx), List.set_comm _ _ htx, List.set_comm _ _ htd]
    · simp only [e2]
      rw [getT_set_ne (Ne.symm htd), List.set_comm _ _ htd]
  · simp only [e]

theorem drop_get {T : List AVal} {t : Tmp} {mi : Option Nat} {xs : List Operand} (h : xs.any (isTmp t) = false) : getT (dropT T mi xs) t = getT T t := by
  rcases dropT_cases T mi xs with ⟨u, hu, e⟩ | e
  · rw [e, getT_set_ne (fun h2 => by rw [h2, h] at hu; simp at hu)]
  · rw [e]

theorem beqT {x t : Nat} (h : x ≠ t) : [Operand.tmp x].any (isTmp t) = false := by
  cases hb : [Operand.tmp x].any (isTmp t) with
  | false => rfl
  | true => exact absurd (by simpa [isTmp] using hb) h

theorem dropT_set {T : List AVal} {d : Tmp} {a : AVal} {mv : Option Nat} {xs : List Operand} (h : xs.any (isTmp d) = false) : dropT (T.set d a) mv xs = (dropT T mv xs).set d a := by
  rcases dropT_cases T mv xs with ⟨t, ht, e⟩ | e
  · have htd : t ≠ d := fun h' => by rw [h', h] at ht; simp at ht
    rw [e, e, getT_set_ne (Ne.symm htd), List.set_comm _ _ htd]
  · rw [e, e]
theorem dstSet_get {T : List AVal} {dp : Option Tmp} {v : AVal} {x : Tmp} (h : dp ≠ some x) : getT (dstSet T dp v) x = getT T x := by
  cases dp with
  | none => rfl
  | some e => exact getT_set_ne (fun h2 => h (by rw [h2]))
theorem dstSet_set {T : List AVal} {dp : Option Tmp} {v a : AVal} {d : Tmp} (h : dp ≠ some d) : (dstSet T dp v).set d a = dstSet (T.set d a) dp v := by
  cases dp with
  | none => rfl
  | some e => exact List.set_comm _ _ (fun h2 => h (by rw [h2]))
theorem dstSet_drop {T : List AVal} {dp : Option Tmp} {v : AVal} {x : Tmp} {mi : Option Nat} (h : dp ≠ some x) : dropT (dstSet T dp v) mi [.tmp x] = dstSet (dropT T mi [.tmp x]) dp v := by
  cases dp with
  | none => rfl
  | some e => exact dropT_set (beqT (fun h2 => h (by rw [h2])))

theorem astep_swap {q q2 take take2 : Bool} {o p : Oper} {x d : Tmp} (hx : opsL o.op = [.tmp x]) (hl : ∀ vals, looks o.op vals = none) (hk : ∀ vals ob out, aop E take o.op vals ob = some out → out.eff = .keep) (hd : o.dst = some d) (hp : p.dst = none ∨ isApp p.op = true)
    (h1 : (opsL p.op).any (isTmp x) = false) (h2 : (opsL p.op).any (isTmp d) = false) (hpx : p.dst ≠ some x) (hpd : p.dst ≠ some d) {s s1 s2 : AState} (ho : astep E G q take o s = some s1) (hs : astep E G q2 take2 p s1 = some s2) :
    ∃ s3, astep E G q2 take2 p s = some s3 ∧ astep E G q take o s3 = some s2 := by
  obtain ⟨val, rfl, hag⟩ := astep_slot hx hl hk hd ho
  obtain ⟨v, k1, k2⟩ := astep_tmps hp hs
  refine ⟨_, k1 s.tmps (by
    intro t ht
    have htx : x ≠ t := fun h => by rw [← h, h1] at ht; simp at ht
    have htd : d ≠ t := fun h => by rw [← h, h2] at ht; simp at ht
    dsimp only
    rw [getT_set_ne htd, drop_get (beqT htx)]), ?_⟩
  rw [hag _ (by dsimp only; rw [dstSet_get hpx, drop_get h1])]
  dsimp only at k2 ⊢
  rw [dstSet_drop hpx, dstSet_set hpd, slots_swap h1 h2, ← k2]

theorem aone_swap {A : CallsT} {all : List Oper} {o p : Oper} (ha : apartP o p = true) {K : AState → Prop} {s : AState} (h : aone A E G H all o (aone A E G H all p K) s) : aone A E G H all p (aone A E G H all o K) s := by
  unfold apartP at ha
  simp only [Bool.and_eq_true, Bool.or_eq_true, Option.isNone_iff_eq_none] at ha
  obtain ⟨⟨⟨⟨g1, g2⟩, g3⟩, g4⟩, g5⟩ := ha
  have plain : ∀ (r : Oper) (K : AState → Prop) (s : AState), r.guard = none → isCall r.op = none → (aone A E G H all r K s ↔ ∃ s', astep E G (readOnly H.moves all r) (takeR H all r) r s = some s' ∧ K s') := by
    intro r K s hg hc
    unfold aone
    simp only [hg, wantedA, hc, if_true]
    cases astep E G (readOnly H.moves all r) (takeR H all r) r s with
    | none => simp
    | some s' => simp
  have hof : isCall o.op = none ∧ ∃ x d, opsL o.op = [.tmp x] ∧ (∀ vals, looks o.op vals = none) ∧ (∀ vals ob out, aop E (takeR H all o) o.op vals ob = some out → out.eff = .keep) ∧ o.dst = some d ∧ (opsL p.op).any (isTmp x) = false ∧ (opsL p.op).any (isTmp d) = false ∧ p.dst ≠ some x ∧ p.dst ≠ some d := by
    split at g5
    · rename_i x k d e1 e2
      simp only [Bool.and_eq_true, Bool.not_eq_true', bne_iff_ne] at g5
      rw [e1]
      exact ⟨rfl, x, d, rfl, fun _ => rfl, keepK_extract, e2, g5.1.1.1, g5.1.1.2, g5.1.2, g5.2⟩
    · rename_i x d e1 e2
      simp only [Bool.and_eq_true, Bool.not_eq_true', bne_iff_ne] at g5
      rw [e1]
      exact ⟨rfl, x, d, rfl, fun _ => rfl, keepK_move, e2, g5.1.1.1, g5.1.1.2, g5.1.2, g5.2⟩
    · simp at g5
  obtain ⟨hc, x, d, hx, hl, hk, hd, h1, h2, hpx, hpd⟩ := hof
  obtain ⟨s1, e1, h⟩ := (plain o _ _ g1 hc).1 h
  obtain ⟨s2, e2, h⟩ := (plain p _ _ g2 g4).1 h
  obtain ⟨s3, e3, e4⟩ := astep_swap hx hl hk hd g3 h1 h2 hpx hpd e1 e2
  exact (plain p _ _ g2 g4).2 ⟨s3, e3, (plain o _ _ g1 hc).2 ⟨s2, e4, h⟩⟩

/-- The operations behind all that goes ahead. -/
theorem atail_sound (hE : E.Ok P) (ops : Array Oper) (Q : AState → Prop) (Kx : Exit → Act → World → Prop) :
    ∀ (tail : List Nat) (listed : Array Bool) (fuel : Nat) (s : AState), chkTail ops tail listed = true → tail.length ≤ fuel → aops (ACalls P G) E G H ops.toList Q (pickOps ops.toList tail) s → ∀ (w : World) (R : Own) (N : Name → Option Nat) (act : Act) (bsT bsL bsH bsF : List Nat),
      RelB G w R N act.tmps.toList s undef .undef [] bsT bsL bsH bsF → act.defers = D → (∀ a' w', Aft G D Q w R N bsF a' w' → Kx .normal a' w') → wpAny P .any ops Kx fuel listed act w
  | [], listed, fuel, s, hc, _, h, w, R, N, act, bsT, bsL, bsH, bsF, hr, hd, hK => by
    simp only [chkTail] at hc
    exact wpAny_done (by simpa using hc) (hK _ _ ⟨s, R, N, bsT, bsL, bsH, h, hr, hd, keep_refl _, fun _ _ h => h⟩) fuel
  | _ :: _, _, 0, _, _, hf, _, _, _, _, _, _, _, _, _, _, _, _ => by simp at hf
  | [i], listed, fuel + 1, s, hc, hf, h, w, R, N, act, bsT, bsL, bsH, bsF, hr, hd, hK => by
    simp only [chkTail, Bool.and_eq_true] at hc
    have hrd : Region.ready .any ops listed = [i] := by simpa using hc.1
    obtain ⟨_, o, ho, _⟩ := mem_ready.1 (show i ∈ Region.ready .any ops listed by rw [hrd]; simp)
    have ho' : ops.toList[i]? = some o := by simpa using ho
    simp only [pickOps, ho', aops, askK_eq] at h
    refine wpAny_all hrd (by simp) ?_
    intro j hj
    simp at hj
    subst hj
    refine wpOp_mono ?_ (aone_sound hE ops ho (K := Q) h hr hd)
    rintro a' w' h2
    exact wpAny_done (by have := hc.2; simpa [setL] using this) (hK _ _ h2) fuel
  | i :: j :: r, listed, fuel + 1, s, hc, hf, h, w, R, N, act, bsT, bsL, bsH, bsF, hr, hd, hK => by
    simp only [chkTail, Bool.or_eq_true] at hc
    rcases hc with hc | hc
    · simp only [Bool.and_eq_true] at hc
      have hrd : Region.ready .any ops listed = [i] := by simpa using hc.1
      obtain ⟨_, o, ho, _⟩ := mem_ready.1 (show i ∈ Region.ready .any ops listed by rw [hrd]; simp)
      have ho' : ops.toList[i]? = some o := by simpa using ho
      rw [pickOps, ho'] at h
      simp only [aops, askK_eq] at h
      refine wpAny_all hrd (by simp) ?_
      intro k hk
      simp at hk
      subst hk
      refine wpOp_mono ?_ (aone_sound hE ops ho (K := aops (ACalls P G) E G H ops.toList Q (pickOps ops.toList (j :: r))) h hr hd)
      rintro a' w' ⟨s', R', N', bsT', bsL', bsH', hq, hr', hd', hk', hN'⟩
      exact atail_sound hE ops Q Kx (j :: r) _ fuel s' hc.2 (by simp at hf ⊢; omega) hq w' R' N' a' bsT' bsL' bsH' bsF hr' hd' (fun a2 w2 h2 => hK a2 w2 (h2.trans hk' hN'))
    · simp only [pairT, Bool.and_eq_true, Bool.or_eq_true, beq_iff_eq] at hc
      obtain ⟨⟨⟨⟨hrd, hri⟩, hrj⟩, hap⟩, hct⟩ := hc
      split at hap
      · rename_i o p ho hp
        have ho' : ops.toList[i]? = some o := by simpa using ho
        have hp' : ops.toList[j]? = some p := by simpa using hp
        simp only [pickOps, ho', hp', aops, askK_eq] at h
        have hsw := aone_swap hap h
        have two : ∀ (a b : Nat) (oa ob : Oper), ops[a]? = some oa → ops[b]? = some ob → Region.ready .any ops (listed.setIfInBounds a true) = [b] → chkTail ops r ((listed.setIfInBounds a true).setIfInBounds b true) = true →
            aone (ACalls P G) E G H ops.toList oa (aone (ACalls P G) E G H ops.toList ob (aops (ACalls P G) E G H ops.toList Q (pickOps ops.toList r))) s →
            wpOp P ops Kx a (wpAny P .any ops Kx fuel (listed.setIfInBounds a true)) act w := by
          intro a b oa ob hoa hob hb hcr h
          refine wpOp_mono ?_ (aone_sound hE ops hoa h hr hd)
          rintro a' w' ⟨s', R', N', bsT', bsL', bsH', hq, hr', hd', hk', hN'⟩
          cases fuel with
          | zero => simp at hf
          | succ fuel =>
            refine wpAny_all hb (by simp) ?_
            intro k hk
            simp at hk
            subst hk
            refine wpOp_mono ?_ (aone_sound hE ops hob hq hr' hd')
            rintro a2 w2 ⟨s2, R2, N2, bsT2, bsL2, bsH2, hq2, hr2, hd2, hk2, hN2⟩
            exact atail_sound hE ops Q Kx r _ fuel s2 hcr (by simp at hf; omega) hq2 w2 R2 N2 a2 bsT2 bsL2 bsH2 bsF hr2 hd2 (fun a3 w3 h3 => hK a3 w3 ((h3.trans hk2 hN2).trans hk' hN'))
        have hi : wpOp P ops Kx i (wpAny P .any ops Kx fuel (listed.setIfInBounds i true)) act w := two i j o p ho hp hri hct h
        have hcm : (listed.setIfInBounds j true).setIfInBounds i true = (listed.setIfInBounds i true).setIfInBounds j true := by
          by_cases hij : i = j
          · subst hij; rfl
          · exact Array.setIfInBounds_comm _ _ (Ne.symm hij)
        have hj : wpOp P ops Kx j (wpAny P .any ops Kx fuel (listed.setIfInBounds j true)) act w := two j i p o hp ho hrj (by rw [hcm]; exact hct) hsw
        rcases hrd with hrd | hrd
        · refine wpAny_all hrd (by simp) ?_
          intro k hk
          simp at hk
          rcases hk with rfl | rfl
          · exact hi
          · exact hj
        · refine wpAny_all hrd (by simp) ?_
          intro k hk
          simp at hk
          rcases hk with rfl | rfl
          · exact hj
          · exact hi
      · simp at hap
end
end Go.Tp
