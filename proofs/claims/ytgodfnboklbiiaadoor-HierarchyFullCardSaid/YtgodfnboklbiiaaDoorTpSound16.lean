/- The generic layer: operations one behind the other; bounds. -/
import Derived.Test.YtgodfnboklbiiaaDoorTpDraw1
namespace Go.Tp

/-! ### Bounds -/
theorem bndDs_iff : ∀ {l : List Dat}, bndDs l ↔ ∀ d ∈ l, bndD d
  | [] => by simp [bndDs]
  | d :: r => by simp [bndDs, bndDs_iff (l := r)]

theorem bndD_cells {e : Dat} (h : ∀ (j : Nat) (c : Dat), e.cells[j]? = some c → bndD c) : bndD e := by
  cases e with
  | flat v => exact h 0 (.flat v) rfl
  | slice es => exact h 0 (.slice es) rfl
  | agg cs =>
    simp only [bndD]
    rw [bndDs_iff]
    intro d hd
    obtain ⟨j, hj⟩ := List.getElem?_of_mem hd
    exact h j d hj

theorem RepC.bnd {w : World} {R : Own} {v : Value} {d : Dat} (h : RepC w R v d) : bndD d := by
  induction h with
  | flat h => exact h
  | nil a cap => exact ⟨Nat.zero_le _, trivial⟩
  | slice b off cap s es vs hs hlen hcap hb hcell hrep ih =>
    simp only [bndD]
    refine ⟨hb, bndDs_iff.2 fun e he => ?_⟩
    obtain ⟨i, hi⟩ := List.getElem?_of_mem he
    exact bndD_cells fun j c hj => ih i j e c hi hj

theorem RepCs.bnd {w : World} {R : Own} : ∀ {vs : List Value} {cs : List Dat}, RepCs w R vs cs → bndDs cs
  | [], [], _ => trivial
  | _ :: _, _ :: _, h => ⟨h.1.bnd, RepCs.bnd h.2⟩
  | [], _ :: _, h => h.elim
  | _ :: _, [], h => h.elim

theorem RepD.bnd {w : World} {R : Own} {v : Value} : ∀ {d : Dat}, RepD w R v d → bndD d
  | .agg _, ⟨_, _, h⟩ => h.bnd
  | .flat _, h => RepC.bnd h
  | .slice _, h => RepC.bnd h

theorem RepAt.bnd {w : World} {R : Own} {b : Nat} : ∀ {off : Nat} {cs : List Dat}, RepAt w R b off cs → bndDs cs
  | _, [], _ => trivial
  | _, _ :: _, ⟨⟨_, _, _, hr⟩, ht⟩ => ⟨hr.bnd, RepAt.bnd ht⟩

section
variable {w : World} {R : Own} {N : Name → Option Nat}
mutual
theorem RepV.bnd : ∀ {a : AVal} {v : Value} {bs : List Nat}, RepV w R N a v bs → bndV a
  | .dat _, _, _, h => by simp only [RepV] at h; simp only [bndV]; exact h.2.bnd
  | .own _, _, _, h => by
    simp only [RepV] at h
    simp only [bndV]
    cases h with
    | nil => exact ⟨Nat.zero_le _, trivial⟩
    | row b cap s es vs t hblk hs0 hs hcap he hin h hsp => have := h.bnd; simpa only [bndD] using this
  | .ref _, _, _, h => by
    simp only [RepV] at h
    simp only [bndV]
    obtain ⟨_, b, off, _, h2⟩ := h
    exact h2.bnd
  | .ptr _ _, _, _, _ => by simp [bndV]
  | .map _, _, _, _ => by simp [bndV]
  | .fn _ first captured, _, _, h => by
    simp only [RepV] at h
    obtain ⟨_, vs, us, _, h2, h3⟩ := h
    simp only [bndV]
    exact ⟨RepVs.bnd (as := first) h2, RepVs.bnd (as := captured) h3⟩
  | .agg cs, _, _, h => by
    simp only [RepV] at h
    obtain ⟨vs, _, h2⟩ := h
    simp only [bndV]
    exact RepVs.bnd (as := cs) h2
  | .tup cs, _, _, h => by
    simp only [RepV] at h
    obtain ⟨vs, _, h2⟩ := h
    simp only [bndV]
    exact RepVs.bnd (as := cs) h2
  | .undef, _, _, _ => by simp [bndV]
theorem RepVs.bnd : ∀ {as : List AVal} {vs : List Value} {bs : List Nat}, RepVs w R N as vs bs → bndL as
  | [], _, _, _ => by simp [bndL]
  | a :: as, _, _, h => by
    simp only [RepVs] at h
    obtain ⟨v, vs', b1, b2, _, _, h1, h2⟩ := h
    simp only [bndL]
    exact ⟨RepV.bnd (a := a) h1, RepVs.bnd (as := as) h2⟩
end

theorem RepMap.bnd : ∀ {es : List (Value × Dat)} {ents : List MapEntry}, RepMap w R es ents → bndM es
  | [], _, _ => trivial
  | (_, _) :: _, _, ⟨_, _, _, _, h3, h4⟩ => ⟨h3.bnd, RepMap.bnd h4⟩

theorem RepObjs.bnd : ∀ {os : List (Name × AObj)} {bs : List Nat}, RepObjs w R N os bs → bndO os
  | [], _, _ => trivial
  | (_, .cells _) :: _, _, ⟨_, _, _, _, _, ⟨_, _, _, h1, _⟩, h2⟩ => ⟨h1.bnd, RepObjs.bnd h2⟩
  | (_, .map _) :: _, _, ⟨_, _, _, _, _, ⟨_, _, _, _, _, h1⟩, h2⟩ => ⟨h1.bnd, RepObjs.bnd h2⟩
end

section
variable {P : Program} {E : TEnv} {G : Globs} {H : Hints}

theorem Keep.trans {w w1 w2 : World} {R R1 R2 : Own} {bs : List Nat} (h : Keep w R w1 R1 bs) (k : Keep w1 R1 w2 R2 bs) : Keep w R w2 R2 bs :=
  ⟨h.step.trans k.step, fun b hb hlt => by
    obtain ⟨e1, f1⟩ := h.same b hb hlt
    obtain ⟨e2, f2⟩ := k.same b hb (Nat.lt_of_lt_of_le hlt h.step.size)
    exact ⟨e2.trans e1, fun off hr => f2 off (f1 off hr)⟩⟩

theorem Aft.trans {K : AState → Prop} {w w1 : World} {R R1 : Own} {N N1 : Name → Option Nat} {bsF : List Nat} (hk : Keep w R w1 R1 bsF) (hN : ∀ o b, N (.out o) = some b → N1 (.out o) = some b) {a : Act} {w2 : World}
    (h : Aft G K w1 R1 N1 bsF a w2) : Aft G K w R N bsF a w2 := by
  obtain ⟨s', R', N', bsT, bsL, bsH, hq, hr, hd, hk', hN'⟩ := h
  exact ⟨s', R', N', bsT, bsL, bsH, hq, hr, hd, hk.trans hk', fun o b h => hN' o b (hN o b h)⟩

theorem wanted_sound {ops : Array Oper} {s : AState} {act : Act} {w : World} {R : Own} {N : Name → Option Nat} {bsT : List Nat} (ht : RepVs w R N s.tmps act.tmps.toList bsT) {o : Oper} {b : Bool} (h : wantedA ops.toList s o.guard = some b) :
    Region.wanted o (yielded ops act.tmps) = b := by
  unfold wantedA at h
  unfold Region.wanted
  cases hg : o.guard with
  | none => rw [hg] at h; simp at h; simp [← h]
  | some jw =>
    obtain ⟨j, want⟩ := jw
    rw [hg] at h
    simp only at h ⊢
    split at h
    · rename_i o' ho'
      split at h
      · rename_i t ht'
        split at h
        · rename_i b' hb'
          simp at h
          have hget : s.tmps[t]? = some (.dat (.flat (.bool b'))) := by
            unfold getT at hb'
            cases hs : s.tmps[t]? with
            | none => rw [hs] at hb'; simp at hb'
            | some v => rw [hs] at hb'; simp at hb'; rw [hb']
          obtain ⟨v, bs', e1, e2, _⟩ := repVs_get ht hget
          obtain ⟨_, rfl, _⟩ := repV_flat_inv e2
          have ho2 : ops[j]? = some o' := by simpa using ho'
          have hy : yielded ops act.tmps j = some b' := by
            unfold yielded
            simp at e1
            simp [ho2, ht', e1]
          rw [hy]
          rw [← h]
          cases b' <;> cases want <;> rfl
        · rename_i hb'
          simp at h
          have hget : s.tmps[t]? = some (.tup []) := by
            unfold getT at hb'
            cases hs : s.tmps[t]? with
            | none => rw [hs] at hb'; simp at hb'
            | some v => rw [hs] at hb'; simp at hb'; rw [hb']
          obtain ⟨v, bs', e1, e2, _⟩ := repVs_get ht hget
          simp only [RepV, RepVs] at e2
          obtain ⟨vs, rfl, rfl, _⟩ := e2
          have ho2 : ops[j]? = some o' := by simpa using ho'
          have hy : yielded ops act.tmps j = none := by
            unfold yielded
            simp at e1
            simp [ho2, ht', e1]
          rw [hy, h]
          rfl
        · simp at h
      · simp at h
    · simp at h

theorem ran_wp {o : Oper} {act : Act} {w w' : World} {cv : Value} {K : Act → World → Prop} {Qx : Exit → Act → World → Prop} (hran : Ran P w act.eval o cv w') (h : K (act.put o.dst cv) w') : o.wp P act w K Qx := by
  unfold Oper.wp
  rcases hran with hran | ⟨hran, rfl⟩
  · rw [hran, Oper.upon_value]; exact h
  · rw [hran, Oper.upon_skip]; exact h

/-- A call whose arguments are in hand. -/
theorem call_sound {f : FuncId} {args : List AVal} {s2 : AState} {o : Oper} {cargs : List Value} {act : Act} {w : World} {R : Own} {N : Name → Option Nat} {bsA bsT bsL bsH bsF : List Nat} {K : AState → Prop} {Qx : Exit → Act → World → Prop} {Kx : Act → World → Prop}
    (hrun : (execOp act.eval o).run P w = .ok (.enter f cargs.toArray) w) (hr2 : RelB G w R N act.tmps.toList s2 (.tuple cargs.toArray) (.tup args) bsA bsT bsL bsH bsF) (hno : noLocL args = true) (hd : act.defers = [])
    (h : ACalls P G f args s2.heap s2.next (fun v heap n => bndV v → bndO heap → K (({ s2 with heap := heap, next := n } : AState).put o.dst v)))
    (hK : ∀ (v : AVal) (cv : Value) (heap : List (Name × AObj)) (n : Nat) (w' : World) (R' : Own) (N' : Name → Option Nat) (bsT' bsH' : List Nat), K (({ s2 with heap := heap, next := n } : AState).put o.dst v) →
      RelB G w' R' N' (act.put o.dst cv).tmps.toList (({ s2 with heap := heap, next := n } : AState).put o.dst v) undef .undef [] bsT' bsL bsH' bsF → Keep w R w' R' (bsL ++ bsF) → (∀ m c, N m = some c → N' m = some c) → (∀ i, N' (.loc i) = N (.loc i)) → Kx (act.put o.dst cv) w') :
    o.wp P act w Kx Qx := by
  unfold Oper.wp
  rw [hrun, Oper.upon_enter]
  have hv := hr2.val
  simp only [RepV] at hv
  obtain ⟨cs0, ec, hargs⟩ := hv
  simp at ec
  subst ec
  have hndA : (bsA ++ (bsH ++ (bsT ++ (bsL ++ bsF)))).Nodup := by
    have hp : (bsA ++ (bsH ++ (bsT ++ (bsL ++ bsF)))).Perm (bsA ++ (bsT ++ (bsL ++ (bsH ++ bsF)))) := by
      rw [List.perm_iff_count]; intro q; simp only [List.count_append]; omega
    exact hp.nodup_iff.2 hr2.nodup
  refine (h w R N cargs bsA bsH (bsT ++ (bsL ++ bsF)) (hargs.reN hno (fun _ => rfl)) hr2.heap hndA hr2.next hr2.glob ?_).mono ?_
  · intro b hb
    simp at hb
    rcases hb with h | h | h
    · exact hr2.tmps.lt b h
    · exact hr2.locs.lt b h
    · exact hr2.frame b h
  · rintro e w' ⟨v, cv, heap', next', R'', N'', bsV, bsH'', rfl, hQ, hv2, hh2, hnd2, hnx2, hk3, hN3⟩
    -- the caller's names beside the callee's
    let N3 : Name → Option Nat := fun m => match m with | .loc i => N (.loc i) | .out o => N'' (.out o)
    have hext : ∀ m c, N m = some c → N3 m = some c := fun m c hm => by cases m with | loc i => exact hm | out o => exact hN3 o c hm
    have hkT : Keep w R w' R'' bsT := hk3.sub (by intro b hb; simp [hb])
    have hkL : Keep w R w' R'' bsL := hk3.sub (by intro b hb; simp [hb])
    have hkF : Keep w R w' R'' (bsL ++ bsF) := hk3.sub (by intro b hb; simp at hb; rcases hb with h | h <;> simp [h])
    have ht3 : RepVs w' R'' N3 s2.tmps act.tmps.toList bsT := (hr2.tmps.keep hkT).ext hext
    have hl3 : RepObjs w' R'' N3 s2.locs bsL := (hr2.locs.keep hkL).ext hext
    have hh3 : RepObjs w' R'' (outs N3) heap' bsH'' := hh2.outs_eq (N := N'') (N' := N3) (fun _ => rfl)
    have hv3 : RepV w' R'' N3 v cv bsV := hv2.reN hv2.noLoc_of_outs (fun _ => rfl)
    have hnd3 : (bsV ++ (bsT ++ (bsL ++ (bsH'' ++ bsF)))).Nodup := by
      have hp : (bsV ++ (bsT ++ (bsL ++ (bsH'' ++ bsF)))).Perm (bsV ++ (bsH'' ++ (bsT ++ (bsL ++ bsF)))) := by
        rw [List.perm_iff_count]; intro q; simp only [List.count_append]; omega
      exact hp.nodup_iff.2 hnd2
    let s3 : AState := { s2 with heap := heap', next := next' }
    obtain ⟨bsT2, hp1, hp2⟩ := put_state (s := s3) o.dst ht3 hv3 hnd3
    obtain ⟨q1, q2, q3⟩ := put_locs s3 o.dst v
    obtain ⟨pa1, pa2⟩ := put_act act o.dst cv
    have hr4 : RelB G w' R'' N3 (act.put o.dst cv).tmps.toList (s3.put o.dst v) undef .undef [] bsT2 bsL bsH'' bsF :=
      ⟨repV_undef _, by rw [pa1]; exact hp1, by rw [q1]; exact hl3, by rw [q2]; exact hh3, by simpa using hp2, by rw [q3]; exact hnx2,
        fun g cs hg => (hr2.glob g cs hg).step hk3.step, fun b hb => Nat.lt_of_lt_of_le (hr2.frame b hb) hk3.step.size⟩
    exact hK v cv heap' next' w' R'' N3 bsT2 bsH'' (hQ hv2.bnd hh2.bnd) hr4 hkF hext (fun _ => rfl)

/-- A guard that says no. -/
theorem unwanted_rel {s : AState} {act : Act} {w : World} {R : Own} {N : Name → Option Nat} {bsT bsL bsH bsF : List Nat} (hr : RelB G w R N act.tmps.toList s undef .undef [] bsT bsL bsH bsF) (dst : Option Tmp) :
    ∃ bsT', RelB G w R N (act.put dst undef).tmps.toList (s.put dst (.tup [])) undef .undef [] bsT' bsL bsH bsF := by
  obtain ⟨bsT', hp1, hp2⟩ := put_state (a := .tup []) (v := undef) (b := []) dst hr.tmps (by simp [RepV, RepVs, undef]) (by simpa using hr.nodup)
  obtain ⟨q1, q2, q3⟩ := put_locs s dst (.tup [])
  exact ⟨bsT', repV_undef _, by rw [(put_act act dst undef).1]; exact hp1, by rw [q1]; exact hr.locs, by rw [q2]; exact hr.heap, by simpa using hp2, by rw [q3]; exact hr.next, hr.glob, hr.frame⟩

theorem aone_sound (hE : E.Ok P) (ops : Array Oper) {i : Nat} {o : Oper} (hi : ops[i]? = some o) {K : AState → Prop} {s : AState} (h : aone (ACalls P G) E G H ops.toList o K s) {Qx : Exit → Act → World → Prop}
    {w : World} {R : Own} {N : Name → Option Nat} {act : Act} {bsT bsL bsH bsF : List Nat} (hr : RelB G w R N act.tmps.toList s undef .undef [] bsT bsL bsH bsF) (hd : act.defers = []) :
    wpOp P ops Qx i (Aft G K w R N bsF) act w := by
  unfold wpOp
  simp only [hi]
  unfold aone at h
  split at h
  · exact h.elim
  · rename_i b hw
    have hwt := wanted_sound hr.tmps hw
    rw [hwt]
    split at h
    · rename_i hb
      rw [if_pos hb]
      left
      split at h
      · rename_i c hc
        have hop := isCall_op hc
        split at h
        · rename_i f args s2 hcal
          obtain ⟨cargs, hrun, R', N', bsA, bsT', bsL', bsH', hr2, hk2, hN2, hno, _⟩ := acallee_sound hE hcal hr o hop
          refine call_sound hrun hr2 hno hd h ?_
          intro v cv heap n w' R'' N'' bsT2 bsH2 hK hr4 hk3 hext _
          exact ⟨_, R'', N'', bsT2, bsL', bsH2, hK, hr4, by rw [(put_act act o.dst cv).2]; exact hd, hk2.trans (hk3.sub (by intro b hb; simp [hb])), fun o b h => hext _ _ (hN2 o b h)⟩
        · exact h.elim
      · split at h
        · rename_i s' hst
          obtain ⟨cv, w', hran, ⟨R', N', bsT', bsL', bsH', hr', hk', hN', _⟩, _⟩ := astep_sound hE hst hr
          exact ran_wp hran ⟨s', R', N', bsT', bsL', bsH', h, hr', by rw [(put_act act o.dst cv).2]; exact hd, hk', fun o b h => by rw [hN']; exact h⟩
        · exact h.elim
    · rename_i hb
      rw [if_neg hb]
      obtain ⟨bsT', hr'⟩ := unwanted_rel hr o.dst
      exact ⟨_, R, N, bsT', bsL, bsH, h, hr', by rw [(put_act act o.dst undef).2]; exact hd, keep_refl _, fun _ _ h => h⟩

theorem aops_sound (hE : E.Ok P) (ops : Array Oper) (Q : AState → Prop) (Kx : Exit → Act → World → Prop) :
    ∀ (rest : List Oper) (k : Nat) (s : AState), ops.toList.drop k = rest → aops (ACalls P G) E G H ops.toList Q rest s → ∀ (w : World) (R : Own) (N : Name → Option Nat) (act : Act) (bsT bsL bsH bsF : List Nat),
      RelB G w R N act.tmps.toList s undef .undef [] bsT bsL bsH bsF → act.defers = [] → (∀ a' w', Aft G Q w R N bsF a' w' → Kx .normal a' w') → wpOps P ops Kx (List.range' k rest.length) act w
  | [], k, s, _, h, w, R, N, act, bsT, bsL, bsH, bsF, hr, hd, hK => by
    simp only [List.length_nil, List.range'_zero, wpOps]
    exact hK _ _ ⟨s, R, N, bsT, bsL, bsH, h, hr, hd, keep_refl _, fun _ _ h => h⟩
  | o :: rest, k, s, hdrop, h, w, R, N, act, bsT, bsL, bsH, bsF, hr, hd, hK => by
    have hok : ops[k]? = some o := by
      have := List.getElem?_drop (xs := ops.toList) (i := k) (j := 0)
      rw [hdrop] at this
      simpa using this.symm
    have hdrop' : ops.toList.drop (k + 1) = rest := by rw [← List.drop_drop, hdrop]; rfl
    simp only [aops, askK_eq] at h
    simp only [List.length_cons, List.range'_succ]
    rw [wpOps_cons]
    refine wpOp_mono ?_ (aone_sound hE ops hok (K := aops (ACalls P G) E G H ops.toList Q rest) h hr hd)
    rintro a' w' ⟨s', R', N', bsT', bsL', bsH', hq, hr', hd', hk', hN'⟩
    exact aops_sound hE ops Q Kx rest (k + 1) s' hdrop' hq w' R' N' a' bsT' bsL' bsH' bsF hr' hd' (fun a2 w2 h2 => hK a2 w2 (h2.trans hk' hN'))

theorem acode_region (hE : E.Ok P) {id : Nat} {ops : Array Oper} {Q : Exit → AState → Prop} {s : AState} (h : aops (ACalls P G) E G H ops.toList (Q .normal) ops.toList s) : ACode P G (.region id ops false) Q s := by
  intro w R N act bsT bsL bsH bsF hr hd
  apply wp_region
  rw [List.range_eq_range', ← Array.length_toList]
  exact aops_sound hE ops (Q .normal) _ ops.toList 0 s (by simp) h w R N act bsT bsL bsH bsF hr hd (fun _ _ h => h)

/-- The operations behind all that goes ahead. -/
theorem atail_sound (hE : E.Ok P) (ops : Array Oper) (Q : AState → Prop) (Kx : Exit → Act → World → Prop) :
    ∀ (tail : List Nat) (listed : Array Bool) (fuel : Nat) (s : AState), chkTail ops tail listed = true → tail.length ≤ fuel → aops (ACalls P G) E G H ops.toList Q (pickOps ops.toList tail) s → ∀ (w : World) (R : Own) (N : Name → Option Nat) (act : Act) (bsT bsL bsH bsF : List Nat),
      RelB G w R N act.tmps.toList s undef .undef [] bsT bsL bsH bsF → act.defers = [] → (∀ a' w', Aft G Q w R N bsF a' w' → Kx .normal a' w') → wpAny P .any ops Kx fuel listed act w
  | [], listed, fuel, s, hc, _, h, w, R, N, act, bsT, bsL, bsH, bsF, hr, hd, hK => by
    simp only [chkTail] at hc
    exact wpAny_done (by simpa using hc) (hK _ _ ⟨s, R, N, bsT, bsL, bsH, h, hr, hd, keep_refl _, fun _ _ h => h⟩) fuel
  | i :: r, listed, 0, s, hc, hf, h, w, R, N, act, bsT, bsL, bsH, bsF, hr, hd, hK => by simp at hf
  | i :: r, listed, fuel + 1, s, hc, hf, h, w, R, N, act, bsT, bsL, bsH, bsF, hr, hd, hK => by
    simp only [chkTail, Bool.and_eq_true] at hc
    have hrd : Region.ready .any ops listed = [i] := by simpa using hc.1
    obtain ⟨_, o, ho, _⟩ := mem_ready.1 (show i ∈ Region.ready .any ops listed by rw [hrd]; simp)
    have ho' : ops.toList[i]? = some o := by simpa using ho
    simp only [pickOps, ho', aops, askK_eq] at h
    refine wpAny_all hrd (by simp) ?_
    intro j hj
    simp at hj
    subst hj
    refine wpOp_mono ?_ (aone_sound hE ops ho (K := aops (ACalls P G) E G H ops.toList Q (pickOps ops.toList r)) h hr hd)
    rintro a' w' ⟨s', R', N', bsT', bsL', bsH', hq, hr', hd', hk', hN'⟩
    exact atail_sound hE ops Q Kx r _ fuel s' hc.2 (by simp at hf; omega) hq w' R' N' a' bsT' bsL' bsH' bsF hr' hd' (fun a2 w2 h2 => hK a2 w2 (h2.trans hk' hN'))
end
end Go.Tp
