/- The generic layer: steps that the program does not take: a row that nobody changes any more becomes data; a frame's variable becomes an object of its own. -/
import Derived.Test.YteanmfacikjjhaaGreatDoorTpDraw3
namespace Go.Tp

def cellDat : AVal → Option Dat
  | .dat (.flat v) => some (.flat v)
  | .dat (.slice es) => some (.slice es)
  | .own es => some (.slice es)
  | _ => none

def cellDats : Nat → List AVal → Option (List Dat)
  | 0, _ => some []
  | n + 1, a :: r => (match cellDat a with | some d => (match cellDats n r with | some l => some (d :: l) | none => none) | none => none)
  | _ + 1, [] => none

def rowFrzC (n len : Nat) (ob : Option AObj) : Option (Nat × List Dat) :=
  match ob with
  | some (.cells cs) => (match Nat.ble len 4294967296 with
    | true => (match cellDats len cs with | some (e :: es) => some (n, e :: es) | _ => none)
    | false => none)
  | _ => none
/-- The row that a value looks at (from its first element on; elements of one cell). -/
def rowOf (a : AVal) : Option (Nat × Nat) :=
  match a with
  | .win (.out n) 1 0 len => some (n, len)
  | _ => none
/-- .. as data. -/
def rowFrzV (a : AVal) (heap : List (Name × AObj)) : Option (Nat × List Dat) :=
  match rowOf a with
  | some x => rowFrzC x.1 x.2 (aget (.out x.1) heap)
  | none => none

def rowFrz (t : Nat) (s : AState) : Option AState :=
  match rowFrzV (getT s.tmps t) s.heap with
  | some (n, es) => some { s with tmps := s.tmps.set t (.dat (.slice es)), heap := adel (.out n) s.heap }
  | none => none

/-- What a state describes, the other describes too, with what may be written drawn in and names added. -/
def Ghost (G : Globs) (s s2 : AState) : Prop :=
  ∀ (w : World) (R : Own) (N : Name → Option Nat) (tmps : List Value) (bsT bsL bsH bsF : List Nat), RelB G w R N tmps s undef .undef [] bsT bsL bsH bsF →
    ∃ R' N' bsT' bsL' bsH', RelB G w R' N' tmps s2 undef .undef [] bsT' bsL' bsH' bsF ∧ Keep w R w R' bsF ∧ (∀ o b, N (.out o) = some b → N' (.out o) = some b)

theorem Ghost.refl (G : Globs) (s : AState) : Ghost G s s := fun _ R N _ bsT bsL bsH _ h => ⟨R, N, bsT, bsL, bsH, h, keep_refl _, fun _ _ h => h⟩
theorem Ghost.trans {G : Globs} {s s2 s3 : AState} (h : Ghost G s s2) (k : Ghost G s2 s3) : Ghost G s s3 := fun w R N tmps bsT bsL bsH bsF hr => by
  obtain ⟨R1, N1, t1, l1, h1, q1, q2, q3⟩ := h w R N tmps bsT bsL bsH bsF hr
  obtain ⟨R2, N2, t2, l2, h2, p1, p2, p3⟩ := k w R1 N1 tmps t1 l1 h1 bsF q1
  exact ⟨R2, N2, t2, l2, h2, p1, q2.trans p2, fun o b ho => p3 o b (q3 o b ho)⟩

theorem cellDats_spec : ∀ {n : Nat} {cs : List AVal} {es : List Dat}, cellDats n cs = some es → es.length = n ∧ ∀ (i : Nat) (d : Dat), es[i]? = some d → ∃ a, cs[i]? = some a ∧ cellDat a = some d
  | 0, _, es, h => by simp [cellDats] at h; subst h; simp
  | n + 1, [], es, h => by simp [cellDats] at h
  | n + 1, a :: r, es, h => by
    unfold cellDats at h
    split at h
    · rename_i d hd
      split at h
      · rename_i l hl
        simp at h
        subst h
        obtain ⟨h1, h2⟩ := cellDats_spec hl
        refine ⟨by simp [h1], fun i d' hi => ?_⟩
        cases i with
        | zero => simp at hi; subst hi; exact ⟨a, rfl, hd⟩
        | succ i => simpa using h2 i d' (by simpa using hi)
      · simp at h
    · simp at h

theorem cellDat_rep {w : World} {R : Own} {N : Name → Option Nat} {a : AVal} {d : Dat} (h : cellDat a = some d) {v : Value} {bs : List Nat} (hr : RepV w R N a v bs) : RepC w R v d ∧ d.cells.length = 1 := by
  unfold cellDat at h
  split at h
  · simp at h; subst h; exact ⟨(repV_dat_inv hr).2, rfl⟩
  · simp at h; subst h; exact ⟨(repV_dat_inv hr).2, rfl⟩
  · simp at h; subst h; exact ⟨(repV_own_inv hr).rep, rfl⟩
  · simp at h

theorem ghost_frz {G : Globs} {t : Nat} {s s2 : AState} (h : rowFrz t s = some s2) : Ghost G s s2 := by
  unfold rowFrz at h
  split at h
  rotate_left
  · simp at h
  rename_i n es hv
  simp only [Option.some.injEq] at h
  subst h
  unfold rowFrzV at hv
  split at hv
  rotate_left
  · simp at hv
  rename_i x hx
  obtain ⟨m, len⟩ := x
  have hwin : getT s.tmps t = .win (.out m) 1 0 len := by
    unfold rowOf at hx
    split at hx
    · rename_i n' len' h'
      simp only [Option.some.injEq, Prod.mk.injEq] at hx
      obtain ⟨rfl, rfl⟩ := hx
      exact h'
    · simp at hx
  dsimp only at hv
  unfold rowFrzC at hv
  split at hv
  rotate_left
  · simp at hv
  rename_i cs hob
  split at hv
  rotate_left
  · simp at hv
  rename_i hlen
  have hlen := Nat.le_of_ble_eq_true hlen
  split at hv
  rotate_left
  · simp at hv
  rename_i e0 es0 hcd
  simp only [Option.some.injEq, Prod.mk.injEq] at hv
  obtain ⟨rfl, rfl⟩ := hv
  obtain ⟨hel, hcs⟩ := cellDats_spec hcd
  intro w R N tmps bsT bsL bsH bsF hr
  have htg := getT_some hwin (by simp)
  obtain ⟨v, bs0, g1, g2, _⟩ := repVs_get hr.tmps htg
  simp only [RepV] at g2
  obtain ⟨_, b, cap, hb, rfl, hcap, _, hblt, hrow⟩ := g2
  obtain ⟨pre, b', b1, post, e1, hb', hobj, _, bs', hdel, hsub⟩ := RepObjs.split_del hr.heap hob
  have : b' = b := by simp only [outs] at hb'; rw [hb] at hb'; simpa using hb'.symm
  subst this
  obtain ⟨vs, elem, sp, hblk, hrv, hRv, _⟩ := hobj
  obtain ⟨R', hR'⟩ : ∃ R' : Own, R' = fun c off => c ≠ b' ∧ R c off := ⟨_, rfl⟩
  have hstep : Step w R w R' := ⟨rfl, rfl, rfl, Nat.le_refl _, fun c _ hno => ⟨rfl, fun off h => by subst hR'; exact hno off h.2⟩, fun c off _ hno => ⟨fun h => by subst hR'; exact hno h.2, rfl⟩, fun _ _ => rfl⟩
  have hk : ∀ bs, b' ∉ bs → Keep w R w R' bs := fun bs hbs => ⟨hstep, fun c hc _ => ⟨rfl, fun off h => by subst hR'; exact ⟨fun e => hbs (e ▸ hc), h⟩⟩⟩
  have hnd := hr.nodup
  simp only [List.nil_append] at hnd
  subst e1
  have hp : (bsT ++ (bsL ++ ((pre ++ (b' :: b1) ++ post) ++ bsF))).Perm (b' :: (b1 ++ (bsT ++ (bsL ++ ((pre ++ post) ++ bsF))))) := by
    rw [List.perm_iff_count]; intro q; simp only [List.count_append, List.count_cons]; omega
  have hnd2 := List.nodup_cons.1 (hp.nodup_iff.1 hnd)
  have hno := hnd2.1
  simp only [List.mem_append, not_or] at hno
  obtain ⟨_, n1, n2, ⟨n3, n3'⟩, n4⟩ := hno
  have n5 : b' ∉ bs' := fun hm => by
    rcases List.mem_append.1 (hsub.subset hm) with h | h
    · exact n3 h
    · exact n3' h
  have hrep : RepC w R' (.slice (some ⟨b', 0, none⟩) len cap) (.slice (e0 :: es0)) := by
    have hl : (e0 :: es0).length = len := hel
    rw [← hl]
    have hcell : ∀ i, i < (e0 :: es0).length → ∃ a x bx, cs[i]? = some a ∧ cellDat a = some (e0 :: es0)[i]! ∧ vs[i]? = some x ∧ RepV w R (outs N) a x bx := by
      intro i hi
      obtain ⟨a, ha, hd⟩ := hcs i _ (List.getElem?_eq_getElem hi)
      obtain ⟨x, bx, q1, q2, _⟩ := repVs_get hrv (get_pad ha)
      exact ⟨a, x, bx, ha, by rw [hd, getElem!_pos _ i hi], by rw [← Array.getElem?_toList]; exact q1, q2⟩
    refine .slice b' 0 cap 1 _ (fun i _ => vs[i]?.getD default) (by omega) ?_ (by rw [hl]; exact hcap) (by rw [hl]; simp only [lim]; omega) ?_ ?_
    · intro e he
      obtain ⟨i, hi, rfl⟩ := List.getElem_of_mem he
      obtain ⟨a, x, bx, _, hd, _, hx⟩ := hcell i hi
      rw [getElem!_pos _ i hi] at hd
      exact (cellDat_rep hd hx).2
    · intro i j hi hj
      obtain ⟨a, x, bx, _, hd, hvx, hx⟩ := hcell i hi
      have : j = 0 := by omega
      subst this
      refine ⟨?_, fun h => by subst hR'; exact h.1 rfl⟩
      rw [cell_of_row w b' _ vs elem (0, 0) hblk]
      simp [hvx]
    · intro i j e c he hc
      have hi : i < (e0 :: es0).length := (List.getElem?_eq_some_iff.1 he).1
      obtain ⟨a, x, bx, _, hd, hvx, hx⟩ := hcell i hi
      have hee : (e0 :: es0)[i]! = e := by
        rw [getElem!_pos _ i hi]
        rw [List.getElem?_eq_getElem hi] at he
        simpa using he
      rw [hee] at hd
      obtain ⟨k1, k2⟩ := cellDat_rep hd hx
      have hc' : c = e := by
        unfold cellDat at hd
        split at hd
        all_goals first
          | (simp at hd; subst hd; cases j with
            | zero => simpa [Dat.cells] using hc.symm
            | succ j => simp [Dat.cells] at hc)
          | simp at hd
      subst hc'
      rw [hvx]
      exact k1.step hstep
  obtain ⟨bsT2, p1, p2⟩ := put_tmps (a := .dat (.slice (e0 :: es0))) (v := .slice (some ⟨b', 0, none⟩) len cap) (b := []) (X := bsL ++ (bs' ++ bsF)) t (hr.tmps.keep (hk bsT n1)) (repV_dat (d := .slice (e0 :: es0)) hrep) (by
    have h2 := (List.nodup_append.1 hnd2.2).2.1
    rw [List.nil_append]
    refine List.Nodup.sublist ?_ h2
    exact List.Sublist.append (.refl _) (List.Sublist.append (.refl _) (List.Sublist.append hsub (.refl _))))
  have hsame : tmps.set t (.slice (some ⟨b', 0, none⟩) len cap) = tmps := by
    apply List.ext_getElem?
    intro j
    rw [List.getElem?_set]
    split
    · rename_i hj; subst hj; split
      · exact g1.symm
      · rename_i hl; rw [List.getElem?_eq_none (by omega)]
    · rfl
  rw [hsame] at p1
  exact ⟨R', N, bsT2, bsL, bs', ⟨repV_undef _, p1, hr.locs.keep (hk bsL n2), hdel.keep (hk bs' n5), by simpa using p2, hr.next, fun g cs hg => (hr.glob g cs hg).step hstep, hr.frame⟩, hk bsF n4, fun _ _ h => h⟩

theorem ghost_prep {G : Globs} (ns : List Name) (s : AState) : Ghost G s (prep false ns s []).1 := by
  intro w R N tmps bsT bsL bsH bsF hr
  have hr0 : RelB G w R N tmps s (.tuple ([] : List Value).toArray) (.tup []) [] bsT bsL bsH bsF := ⟨by simp [RepV, RepVs], hr.tmps, hr.locs, hr.heap, hr.nodup, hr.next, hr.glob, hr.frame⟩
  have he : prep false ns s [] = ((prep false ns s []).1, (prep false ns s []).2) := rfl
  obtain ⟨R', N', bsV', bsT', bsL', bsH', h1, h2, h3, _⟩ := prep_sound he hr0
  refine ⟨R', N', bsT', bsL', bsH', ⟨repV_undef _, h1.tmps, h1.locs, h1.heap, ?_, h1.next, h1.glob, h1.frame⟩, h2, h3⟩
  have := h1.nodup
  simpa using (List.nodup_append.1 this).2.1
end Go.Tp
