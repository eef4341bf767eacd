/- The generic layer: regions that draw their order: an operation that may go ahead, taken first. -/
import Derived.Test.YteanmfacikjjhaaGreatDoorTpSound15
namespace Go.Tp

section
variable {P : Program} {E : TEnv} {G : Globs} {H : Hints}

/-! ### Copies -/
theorem unOwnL_idem : ∀ (l : List AVal), unOwnL (unOwnL l) = unOwnL l
  | [] => rfl
  | a :: r => by cases a <;> simp [unOwnL, unOwnL_idem r]

theorem mkAgg_cases (cs : List AVal) : (∃ ds, mkAgg cs = .dat (.agg ds)) ∨ mkAgg cs = .agg cs := by
  unfold mkAgg
  split
  · exact .inl ⟨_, rfl⟩
  · exact .inr rfl

theorem unOwn_mkAgg (cs : List AVal) : unOwn (mkAgg (unOwnL cs)) = mkAgg (unOwnL cs) := by
  rcases mkAgg_cases (unOwnL cs) with ⟨ds, h⟩ | h
  · rw [h]; rfl
  · rw [h]
    show mkAgg (unOwnL (unOwnL cs)) = _
    rw [unOwnL_idem, h]

theorem unOwnT_idem : ∀ (l : List AVal), unOwnT (unOwnT l) = unOwnT l
  | [] => rfl
  | a :: r => by
    cases a with
    | agg cs =>
      simp only [unOwnT]
      rcases mkAgg_cases (unOwnL cs) with ⟨ds, h⟩ | h
      · rw [h]; simp [unOwnT, unOwnT_idem r]
      · have := unOwn_mkAgg cs
        rw [h] at this ⊢
        simp only [unOwnT, unOwnT_idem r]
        rw [unOwnL_idem, h]
    | _ => simp [unOwnT, unOwnT_idem r]

theorem unOwn_idem (a : AVal) : unOwn (unOwn a) = unOwn a := by
  cases a with
  | agg cs => exact unOwn_mkAgg cs
  | tup vs => simp [unOwn, unOwnT_idem]
  | _ => rfl

/-! ### Objects, ownership aside -/
def ObjS (x y : Option AObj) : Prop := y = x ∨ ∃ cs cs', x = some (.cells cs) ∧ y = some (.cells cs') ∧ unOwnL cs' = unOwnL cs

theorem ObjS.refl (x : Option AObj) : ObjS x x := .inl rfl
theorem ObjS.trans {x y z : Option AObj} (h : ObjS x y) (k : ObjS y z) : ObjS x z := by
  rcases h with rfl | ⟨cs, cs', rfl, rfl, h⟩
  · exact k
  · rcases k with rfl | ⟨ds, ds', e1, rfl, k⟩
    · exact .inr ⟨cs, cs', rfl, rfl, h⟩
    · simp at e1; subst e1; exact .inr ⟨cs, ds', rfl, rfl, k.trans h⟩

theorem unOwnL_take : ∀ (n : Nat) (l : List AVal), unOwnL (takeL n l) = takeL n (unOwnL l)
  | 0, l => by simp [takeL, unOwnL]
  | n + 1, [] => by simp [takeL, unOwnL]
  | n + 1, a :: l => by cases a <;> simp [takeL, unOwnL, unOwnL_take n l]

theorem unOwnL_drop : ∀ (n : Nat) (l : List AVal), unOwnL (dropL n l) = dropL n (unOwnL l)
  | 0, l => by simp [dropL]
  | n + 1, [] => by simp [dropL, unOwnL]
  | n + 1, a :: l => by cases a <;> simp [dropL, unOwnL, unOwnL_drop n l]

theorem unOwnL_length : ∀ (l : List AVal), (unOwnL l).length = l.length
  | [] => rfl
  | a :: l => by cases a <;> simp [unOwnL, unOwnL_length l]

theorem unOwnL_get : ∀ (l : List AVal) (k : Nat), (unOwnL l)[k]? = (l[k]?).map (fun a => match a with | .own es => .dat (.slice es) | .agg _ => .undef | .tup _ => .undef | a => a)
  | [], _ => by simp [unOwnL]
  | a :: l, 0 => by cases a <;> simp [unOwnL]
  | a :: l, k + 1 => by cases a <;> simp [unOwnL, unOwnL_get l k]

theorem loadCells_copy (i : TI) (off : Nat) (cs : List AVal) : loadCells i off (unOwnL cs) = loadCells i off cs := by
  unfold loadCells
  split
  · dsimp only
    rw [← unOwnL_drop, ← unOwnL_take, unOwnL_idem, unOwnL_length]
  · rw [unOwnL_get]
    cases h : cs[off]? with
    | none => rfl
    | some a => cases a <;> rfl

theorem loadCells_sim {i : TI} {off : Nat} {cs cs' : List AVal} (h : unOwnL cs' = unOwnL cs) : loadCells i off cs' = loadCells i off cs := by
  rw [← loadCells_copy i off cs', h, loadCells_copy]

theorem aop_sim {op : Op} (hq : quietKind op = true) (vals : List AVal) {x y : Option AObj} (h : ObjS x y) : aop E false op vals y = aop E false op vals x := by
  rcases h with rfl | ⟨cs, cs', rfl, rfl, h⟩
  · rfl
  · cases op <;> simp only [quietKind, Bool.false_eq_true] at hq <;> simp only [aop]
    · -- load
      rename_i t _
      unfold aLoad
      split
      · rfl
      · cases E.ty t with
        | none => rfl
        | some i => simp only [Bool.false_and, Bool.false_eq_true, if_false, loadCells_sim h]
      · rfl
    · -- lookup
      simp only [aLookup, mapEntries]
    · rename_i c
      split at hq <;> simp at hq
      · rename_i hc
        simp only [hc, aBuiltin]
        split
        · rfl
        · rename_i t _ _
          unfold aLen
          split
          · rfl
          · rfl
          · rfl
          · rfl
          · cases E.desc t with
            | none => rfl
            | some d => cases d <;> rfl
          · rfl
      · rename_i hc
        simp only [hc, aBuiltin]

/-! ### What an operation reads -/
def boolOf : AVal → Option (Option Bool)
  | .dat (.flat (.bool b)) => some (some b)
  | .tup [] => some none
  | _ => none

theorem boolOf_unOwn (a : AVal) : boolOf (unOwn a) = boolOf a := by
  cases a with
  | agg cs =>
    show boolOf (mkAgg (unOwnL cs)) = none
    rcases mkAgg_cases (unOwnL cs) with ⟨ds, h⟩ | h <;> rw [h] <;> rfl
  | tup cs => cases cs with
    | nil => rfl
    | cons x r => cases x <;> rfl
  | _ => rfl

theorem wantedA_eq (all : List Oper) (s : AState) (g : Option (Nat × Bool)) :
    wantedA all s g = (match g with
      | none => some true
      | some (j, want) => (match all[j]? with
        | some o => (match o.dst with
          | some t => (boolOf (getT s.tmps t)).map (· == some want)
          | none => none)
        | none => none)) := by
  unfold wantedA
  cases g with
  | none => rfl
  | some jw =>
    obtain ⟨j, want⟩ := jw
    dsimp only
    cases all[j]? with
    | none => rfl
    | some o =>
      dsimp only
      cases o.dst with
      | none => rfl
      | some t =>
        dsimp only
        unfold boolOf
        split <;> simp_all

/-- The slots that an operation looks at hold the same, ownership aside. -/
def SimT (o : Oper) (all : List Oper) (s s' : AState) : Prop := ∀ t ∈ o.looksAt all.toArray, unOwn (getT s'.tmps t) = unOwn (getT s.tmps t)

theorem wantedA_sim {o : Oper} {all : List Oper} {s s' : AState} (h : SimT o all s s') : wantedA all s' o.guard = wantedA all s o.guard := by
  rw [wantedA_eq, wantedA_eq]
  cases hg : o.guard with
  | none => rfl
  | some jw =>
    obtain ⟨j, want⟩ := jw
    dsimp only
    cases hj : all[j]? with
    | none => rfl
    | some o' =>
      dsimp only
      cases hd : o'.dst with
      | none => rfl
      | some t =>
        dsimp only
        have : t ∈ o.looksAt all.toArray := by simp [Oper.looksAt, hg, hj, hd]
        have h1 := h t this
        rw [← boolOf_unOwn (getT s'.tmps t), h1, boolOf_unOwn]

theorem opsL_sub {o : Op} {x : Operand} (h : x ∈ opsL o) : x ∈ o.operands := by
  cases o
  case call c => simp [opsL, Op.operands, Call.operands] at h ⊢; exact .inr h
  case slice t x l h' m =>
    simp [opsL, Op.operands] at h ⊢
    rcases h with h | h | h
    · exact .inl h
    · exact .inr (.inl h)
    · exact .inr (.inr (.inl h))
  all_goals (simp [opsL, Op.operands] at h ⊢ <;> exact h)

theorem aeval_sim {s s' : AState} {x : Operand} (h : ∀ t, x = .tmp t → unOwn (getT s'.tmps t) = unOwn (getT s.tmps t)) : unOwn (aeval G s' x) = unOwn (aeval G s x) := by
  cases x with
  | tmp t => exact h t rfl
  | const v => rfl
  | global g => rfl
  | func f => rfl

theorem evalArgs_sim {s s' : AState} : ∀ (xs : List Operand) (k : Nat), (∀ t, Operand.tmp t ∈ xs → unOwn (getT s'.tmps t) = unOwn (getT s.tmps t)) → evalArgs G s' none k xs = evalArgs G s none k xs
  | [], _, _ => rfl
  | x :: r, k, h => by
    simp only [evalArgs, reduceCtorEq, if_false]
    rw [aeval_sim (fun t ht => h t (by simp [ht])), evalArgs_sim r (k + 1) (fun t ht => h t (by simp [ht]))]

theorem looksAt_opsL {o : Oper} {all : List Oper} {t : Tmp} (h : Operand.tmp t ∈ opsL o.op) : t ∈ o.looksAt all.toArray := by
  have := opsL_sub h
  unfold Oper.looksAt
  refine List.mem_append_left _ (List.mem_filterMap.2 ⟨.tmp t, by simpa using this, rfl⟩)

/-- The objects that stay, ownership aside. -/
def SimO (fh : Bool) (s s' : AState) : Prop := ∀ n, okN fh n = true → ObjS (s.obj n) (s'.obj n)

theorem obj_of_eq {s s' : AState} (h : s'.locs = s.locs) (hh : s'.heap = s.heap) (n : Name) : s'.obj n = s.obj n := by
  cases n <;> simp [AState.obj, h, hh]
theorem SimO.of_eq {fh : Bool} {s s' : AState} (h : s'.locs = s.locs) (hh : fh = true → s'.heap = s.heap) : SimO fh s s' := fun n hn => by
  cases n with
  | loc i => simp only [AState.obj, h]; exact .refl _
  | out k => simp only [okN] at hn; simp only [AState.obj, hh hn]; exact .refl _
theorem SimO.trans {fh : Bool} {s s' s'' : AState} (h : SimO fh s s') (k : SimO fh s' s'') : SimO fh s s'' := fun n hn => (h n hn).trans (k n hn)

theorem lookedAt_sim {fh : Bool} {s s' : AState} {o : Op} {vals : List AVal} (hl : SimO fh s s') (hp : lookPure fh (looks o vals) = true) : ObjS (lookedAt s o vals) (lookedAt s' o vals) := by
  unfold lookedAt
  cases hn : looks o vals with
  | none => exact .refl _
  | some n =>
    refine hl n ?_
    rw [hn] at hp
    cases n with
    | loc i => rfl
    | out k => simpa [lookPure, okN] using hp

theorem stepQ_sim {fh : Bool} {all : List Oper} {o : Oper} {s s' : AState} (h : SimT o all s s') (hl : SimO fh s s') : stepQ E G fh all o s' = stepQ E G fh all o s := by
  unfold stepQ
  rw [wantedA_sim h, evalArgs_sim (s := s) (s' := s') (opsL o.op) 0 (fun t ht => h t (looksAt_opsL ht))]
  cases wantedA all s o.guard with
  | none => rfl
  | some b =>
    dsimp only
    split
    · split
      · rfl
      · cases isCall o.op with
        | some _ => rfl
        | none =>
          dsimp only
          split
          · rename_i hp
            simp only [Bool.and_eq_true] at hp
            rw [aop_sim hp.1 _ (lookedAt_sim hl hp.2)]
          · rfl
    · rfl

theorem aop_none {op : Op} (hq : quietKind op = true) {vals : List AVal} {n : Name} (hn : looks op vals = some n) : aop E false op vals none = none := by
  unfold looks at hn
  split at hn <;> simp [quietKind] at hq hn
  · simp [aop, aLoad]
  · simp only [aop, aLookup]
    split
    · rename_i heq
      simp only [List.cons.injEq] at heq
      obtain ⟨rfl, _⟩ := heq
      split
      · simp [mapEntries]
      · rfl
    · rfl
  · have e : ∀ t, aLen E t [.map n] none = none := by
      intro t
      simp only [aLen, nzL, nz]
      cases E.desc t with
      | none => rfl
      | some d => cases d <;> rfl
    subst hn
    simp only [aop, aBuiltin]
    split
    · rfl
    · exact e _

/-- What is read stays. -/
theorem stepQ_more {fh : Bool} {all : List Oper} {o : Oper} {s s' : AState} {a : AVal} (h : SimT o all s s') (hl : ∀ n ob, s.obj n = some ob → s'.obj n = some ob) (hy : stepQ E G fh all o s = some a) : stepQ E G fh all o s' = some a := by
  unfold stepQ at hy ⊢
  rw [wantedA_sim h, evalArgs_sim (s := s) (s' := s') (opsL o.op) 0 (fun t ht => h t (looksAt_opsL ht))]
  cases hw : wantedA all s o.guard with
  | none => rw [hw] at hy; exact hy
  | some b =>
    rw [hw] at hy
    dsimp only at hy ⊢
    split
    · rename_i hb
      rw [if_pos hb] at hy
      split
      · rename_i ha
        rw [if_pos ha] at hy
        exact hy
      · rename_i ha
        rw [if_neg ha] at hy
        cases hc : isCall o.op with
        | some _ => rw [hc] at hy; exact hy
        | none =>
          rw [hc] at hy
          dsimp only at hy ⊢
          split
          · rename_i hp
            rw [if_pos hp] at hy
            simp only [Bool.and_eq_true] at hp
            have e : lookedAt s' o.op (evalArgs G s none 0 (opsL o.op)) = lookedAt s o.op (evalArgs G s none 0 (opsL o.op)) := by
              unfold lookedAt at hy ⊢
              cases hlk : looks o.op (evalArgs G s none 0 (opsL o.op)) with
              | none => rfl
              | some n =>
                rw [hlk] at hy
                dsimp only at hy ⊢
                cases hob : s.obj n with
                | some ob => exact hl n ob hob
                | none => rw [hob, aop_none hp.1 hlk] at hy; simp at hy
            rw [e]
            exact hy
          · rename_i hp
            rw [if_neg hp] at hy
            exact hy
    · rename_i hb
      rw [if_neg hb] at hy
      exact hy

/-! ### Slots -/
theorem getT_set_ne {l : List AVal} {d t : Nat} {v : AVal} (h : d ≠ t) : getT (l.set d v) t = getT l t := by
  unfold getT; rw [List.getElem?_set_ne h]

theorem getT_put_ne {s : AState} {dst : Option Tmp} {t : Nat} {v : AVal} (h : dst ≠ some t) : getT (s.put dst v).tmps t = getT s.tmps t := by
  cases dst with
  | none => rfl
  | some d => exact getT_set_ne (fun e => h (by rw [e]))

theorem put_comm {s : AState} {d1 d2 : Option Tmp} {v1 v2 : AVal} (h : ∀ d, d1 = some d → d2 ≠ some d) : (s.put d1 v1).put d2 v2 = (s.put d2 v2).put d1 v1 := by
  cases d1 with
  | none => rfl
  | some a =>
    cases d2 with
    | none => rfl
    | some b =>
      have hne : a ≠ b := fun e => h a rfl (by rw [e])
      simp only [AState.put]
      rw [List.set_comm _ _ hne]

theorem put_heap {s : AState} {dst : Option Tmp} {v : AVal} {h : List (Name × AObj)} {n : Nat} : ({ s.put dst v with heap := h, next := n } : AState) = ({ s with heap := h, next := n } : AState).put dst v := by
  cases dst <;> rfl

theorem simT_put {o : Oper} {all : List Oper} {s : AState} {dst : Option Tmp} {v : AVal} (h : ∀ d, dst = some d → d ∉ o.looksAt all.toArray) : SimT o all s (s.put dst v) := by
  intro t ht
  rw [getT_put_ne]
  intro e
  exact h t e ht

theorem SimT.trans {o : Oper} {all : List Oper} {s s' s'' : AState} (h : SimT o all s s') (k : SimT o all s' s'') : SimT o all s s'' := fun t ht => (k t ht).trans (h t ht)

/-! ### Calls -/
theorem aeval_put {s : AState} {dst : Option Tmp} {v : AVal} {x : Operand} (h : ∀ d, dst = some d → x ≠ .tmp d) : aeval G (s.put dst v) x = aeval G s x := by
  cases x with
  | tmp t => exact getT_put_ne (fun e => h t e rfl)
  | _ => rfl

theorem dropOwn_put {s : AState} {dst : Option Tmp} {v : AVal} {x : Operand} (h : ∀ d, dst = some d → x ≠ .tmp d) : dropOwn (s.put dst v) (some 0) [x] = (dropOwn s (some 0) [x]).put dst v := by
  cases x with
  | tmp t =>
    cases dst with
    | none => rfl
    | some d =>
      have hne : d ≠ t := fun e => h d rfl (by rw [e])
      simp only [dropOwn, List.getElem?_cons_zero, AState.put]
      rw [getT_set_ne hne, List.set_comm _ _ hne]
  | _ => simp [dropOwn]

theorem takeArgs_put {dst : Option Tmp} {v : AVal} : ∀ (xs : List Operand) (s : AState), (∀ d, dst = some d → Operand.tmp d ∉ xs) → takeArgs G (s.put dst v) xs = ((takeArgs G s xs).1, (takeArgs G s xs).2.put dst v)
  | [], s, _ => rfl
  | x :: r, s, h => by
    have hx : ∀ d, dst = some d → x ≠ .tmp d := fun d hd e => h d hd (by simp [e])
    simp only [takeArgs]
    rw [dropOwn_put hx, takeArgs_put r _ (fun d hd hm => h d hd (by simp [hm])), aeval_put hx]

theorem evalArgs_put {dst : Option Tmp} {v : AVal} : ∀ (xs : List Operand) (k : Nat) (s : AState), (∀ d, dst = some d → Operand.tmp d ∉ xs) → evalArgs G (s.put dst v) none k xs = evalArgs G s none k xs
  | [], _, _, _ => rfl
  | x :: r, k, s, h => by
    simp only [evalArgs, reduceCtorEq, if_false]
    rw [aeval_put (fun d hd e => h d hd (by simp [e])), evalArgs_put r (k + 1) s (fun d hd hm => h d hd (by simp [hm]))]

theorem acalleeD_put {c : Call} {s : AState} {dst : Option Tmp} {v : AVal} (h : ∀ d, dst = some d → Operand.tmp d ∉ c.operands) :
    acalleeD E G H c (s.put dst v) = (acalleeD E G H c s).map fun x => (x.1, x.2.1, x.2.2.put dst v) := by
  obtain ⟨callee, args, argTypes⟩ := c
  cases callee with
  | builtin _ => rfl
  | invoke _ _ => rfl
  | value f =>
    have hf : ∀ d, dst = some d → f ≠ .tmp d := fun d hd e => h d hd (by simp [Call.operands, e])
    have ha : ∀ d, dst = some d → Operand.tmp d ∉ args.toList := fun d hd hm => h d hd (by simp at hm; simp [Call.operands, hm])
    simp only [acalleeD]
    rw [aeval_put hf]
    split
    · rename_i g first captured
      split
      · split
        · rw [takeArgs_put _ _ ha]
          dsimp only
          split <;> rfl
        · rw [evalArgs_put _ _ _ ha]
          dsimp only
          split <;> rfl
      · rfl
    · rfl

theorem dropOwn_simA {s : AState} {x : Operand} (t : Nat) : unOwn (getT (dropOwn s (some 0) [x]).tmps t) = unOwn (getT s.tmps t) := by
  cases x with
  | tmp u =>
    simp only [dropOwn, List.getElem?_cons_zero]
    by_cases hu : u = t
    · subst hu
      by_cases hl : u < s.tmps.length
      · have : getT (s.tmps.set u (unOwn (getT s.tmps u))) u = unOwn (getT s.tmps u) := by
          conv => lhs; unfold getT
          simp only [List.getElem?_set_self hl]
          rfl
        rw [this, unOwn_idem]
      · rw [List.set_eq_of_length_le (Nat.le_of_not_lt hl)]
    · rw [getT_set_ne hu]
  | _ => simp [dropOwn]

theorem dropOwn_sim {o : Oper} {all : List Oper} {s : AState} {x : Operand} : SimT o all s (dropOwn s (some 0) [x]) := fun t _ => dropOwn_simA t

theorem takeArgs_simA : ∀ (xs : List Operand) (s : AState) (t : Nat), unOwn (getT (takeArgs G s xs).2.tmps t) = unOwn (getT s.tmps t)
  | [], _, _ => rfl
  | x :: r, s, t => by
    simp only [takeArgs]
    exact (takeArgs_simA r _ t).trans (dropOwn_simA t)

theorem takeArgs_sim {o : Oper} {all : List Oper} : ∀ (xs : List Operand) (s : AState), SimT o all s (takeArgs G s xs).2
  | [], _ => fun _ _ => rfl
  | x :: r, s => by
    simp only [takeArgs]
    exact (dropOwn_sim (x := x)).trans (takeArgs_sim r _)

theorem acalleeD_simA {c : Call} {s s2 : AState} {f : FuncId} {args : List AVal} (h : acalleeD E G H c s = some (f, args, s2)) : (∀ t, unOwn (getT s2.tmps t) = unOwn (getT s.tmps t)) ∧ s2.locs = s.locs := by
  unfold acalleeD at h
  split at h
  · split at h
    · split at h
      · dsimp only at h
        split at h
        · split at h
          · simp at h
            rw [← h.2.2]
            exact ⟨takeArgs_simA _ _, (takeArgs_keeps G _ s).1⟩
          · simp at h
        · split at h
          · simp at h
            rw [← h.2.2]
            exact ⟨fun _ => rfl, rfl⟩
          · simp at h
      · simp at h
    · simp at h
  · simp at h

theorem acalleeD_heap {c : Call} {s s2 : AState} {f : FuncId} {args : List AVal} (h : acalleeD E G H c s = some (f, args, s2)) : s2.heap = s.heap := by
  unfold acalleeD at h
  split at h
  · split at h
    · split at h
      · dsimp only at h
        split at h
        · split at h
          · simp at h
            rw [← h.2.2]
            exact (takeArgs_keeps G _ s).2.1
          · simp at h
        · split at h
          · simp at h
            rw [← h.2.2]
          · simp at h
      · simp at h
    · simp at h
  · simp at h

theorem acalleeD_sim {c : Call} {s s2 : AState} {f : FuncId} {args : List AVal} (h : acalleeD E G H c s = some (f, args, s2)) (o : Oper) (all : List Oper) : SimT o all s s2 ∧ s2.locs = s.locs :=
  ⟨fun t _ => (acalleeD_simA h).1 t, (acalleeD_simA h).2⟩

/-! ### Appends -/
theorem appSlot_spec {o : Op} {t : Tmp} (h : appSlot o = some t) : ∃ c r, o = .call c ∧ c.callee = .builtin .append ∧ c.args.toList = .tmp t :: r := by
  unfold appSlot at h
  split at h
  · rename_i c
    split at h
    · split at h
      · simp at h; subst h; exact ⟨c, _, rfl, by assumption, by assumption⟩
      · simp at h
    · simp at h
  · simp at h

theorem looks_apz {args : Array Operand} {tys : Array TypeId} {vals : List AVal} {es : List Dat} {x : AVal} (h : apz vals = [.own es, x]) : looks (.call ⟨.builtin .append, args, tys⟩) vals = none := by
  match vals, h with
  | [a, y], h => cases a <;> first | rfl | (simp [apz, ownz] at h)
  | [], h => simp [apz] at h
  | [_], h => simp [apz] at h
  | _ :: _ :: _ :: _, h => simp [apz] at h

theorem append_keep {o : Op} {t : Tmp} (h : appSlot o = some t) {vals : List AVal} {ob : Option AObj} {out : Out} (ho : aop E false o vals ob = some out) : out.eff = .keep ∧ looks o vals = none := by
  obtain ⟨c, r, rfl, hc, _⟩ := appSlot_spec h
  obtain ⟨callee, args, tys⟩ := c
  simp only at hc
  subst hc
  simp only [aop, aBuiltin] at ho
  split at ho
  · simp at ho
  · split at ho
    · split at ho
      · unfold aAppend at ho
        split at ho
        · rename_i heq
          split at ho
          · simp only [Bool.false_and, Bool.false_eq_true, if_false] at ho
            split at ho
            · split at ho
              · simp at ho; exact ⟨by rw [← ho], looks_apz heq⟩
              · simp at ho
            · simp at ho
          · simp at ho
        · split at ho
          · simp at ho
          · simp at ho
        · simp at ho
      · unfold aAppendStr at ho
        split at ho
        · rename_i heq
          split at ho
          · split at ho
            · split at ho
              · split at ho
                · simp at ho; exact ⟨by rw [← ho], looks_apz heq⟩
                · simp at ho
              · simp at ho
            · simp at ho
          · simp at ho
        · simp at ho
    · simp at ho

theorem moved_append {o : Op} {t : Tmp} (h : appSlot o = some t) : mvQ false o = some 0 ∧ ∃ r, opsL o = .tmp t :: r := by
  obtain ⟨c, r, rfl, hc, ha⟩ := appSlot_spec h
  obtain ⟨callee, args, tys⟩ := c
  simp only at hc ha
  subst hc
  exact ⟨rfl, r, by simp [opsL, ha]⟩

theorem evalArgs_put' {dst : Option Tmp} {v : AVal} (mv : Option Nat) : ∀ (xs : List Operand) (k : Nat) (s : AState), (∀ d, dst = some d → Operand.tmp d ∉ xs) → evalArgs G (s.put dst v) mv k xs = evalArgs G s mv k xs
  | [], _, _, _ => rfl
  | x :: r, k, s, h => by
    simp only [evalArgs]
    rw [aeval_put (fun d hd e => h d hd (by simp [e])), evalArgs_put' mv r (k + 1) s (fun d hd hm => h d hd (by simp [hm]))]

/-- What an append does. -/
theorem astep_append {o : Oper} {t : Tmp} (h : appSlot o.op = some t) {s s' : AState} (hs : astep E G false false o s = some s') : ∃ v, s' = ({ s with tmps := s.tmps.set t (unOwn (getT s.tmps t)) } : AState).put o.dst v ∧
    ∀ (dst : Option Tmp) (u : AVal), (∀ d, dst = some d → Operand.tmp d ∉ opsL o.op) → (∀ d, dst = some d → o.dst ≠ some d) → astep E G false false o (s.put dst u) = some (s'.put dst u) := by
  obtain ⟨hm, r, hops⟩ := moved_append h
  unfold astep at hs
  split at hs
  · simp at hs
  · rename_i out hout
    obtain ⟨hk, hl⟩ := append_keep h hout
    unfold astepOut at hs
    rw [hk] at hs
    simp only [Option.some.injEq] at hs
    have hd : dropOwn s (mvQ false o.op) (opsL o.op) = { s with tmps := s.tmps.set t (unOwn (getT s.tmps t)) } := by
      rw [hm, hops]; simp [dropOwn]
    rw [hd] at hs
    refine ⟨out.val, hs.symm, ?_⟩
    intro dst u h1 h2
    have hne : ∀ d, dst = some d → d ≠ t := fun d hd' e => h1 d hd' (by rw [hops, e]; simp)
    have hd2 : dropOwn (s.put dst u) (mvQ false o.op) (opsL o.op) = ({ s with tmps := s.tmps.set t (unOwn (getT s.tmps t)) } : AState).put dst u := by
      rw [hm, hops]
      simp only [dropOwn, List.getElem?_cons_zero]
      cases dst with
      | none => rfl
      | some d =>
        simp only [AState.put]
        rw [getT_set_ne (hne d rfl), List.set_comm _ _ (hne d rfl)]
    have hlk : ∀ s' : AState, lookedAt s' o.op (evalArgs G s (mvQ false o.op) 0 (opsL o.op)) = none := fun s' => by unfold lookedAt; rw [hl]
    unfold astep
    rw [evalArgs_put' _ _ _ _ h1, hlk, ← hlk s, hout]
    simp only [astepOut, hk, hd2, Option.some.injEq]
    rw [← hs]
    exact put_comm h2

theorem putO_put {s : AState} {dst : Option Tmp} {v : AVal} {n : Name} {o : AObj} : (s.put dst v).putO n o = (s.putO n o).put dst v := by
  cases n <;> cases dst <;> rfl
theorem putO_tmps {s : AState} {n : Name} {o : AObj} : (s.putO n o).tmps = s.tmps := by cases n <;> rfl
theorem putO_next {s : AState} {n : Name} {o : AObj} : (s.putO n o).next = s.next := by cases n <;> rfl
theorem put_obj {s : AState} {dst : Option Tmp} {v : AVal} {n : Name} : (s.put dst v).obj n = s.obj n := by
  cases n <;> cases dst <;> rfl

theorem showTk_spec {fh : Bool} {all : List Oper} {i : Nat} {r : List Nat} {s s' : AState} (h : showTk fh all (i :: r) s = some s') : ∃ o T u t n off cs es es2, all[i]? = some o ∧ o.op = .load T (.tmp u) ∧ o.dst = some t ∧ o.guard = none ∧ getT s.tmps u = .ptr n off ∧
    okN fh n = true ∧ s.obj n = some (.cells cs) ∧ cs[off]? = some (.own es) ∧ getT s.tmps t = .dat (.slice es2) ∧
    showTk fh all r (({ s with tmps := s.tmps.set t (.own es) } : AState).putO n (.cells (putL off [.dat (.slice es)] cs))) = some s' := by
  simp only [showTk] at h
  split at h
  · rename_i o ho
    split at h
    · rename_i T u t hop hd hg
      split at h
      · rename_i n off hu
        split at h
        · rename_i hok
          split at h
          · rename_i cs hob
            split at h
            · rename_i es hes
              split at h
              · rename_i es2 ht
                exact ⟨o, T, u, t, n, off, cs, es, es2, ho, hop, hd, hg, hu, hok, hob, hes, ht, h⟩
              · simp at h
            · simp at h
          · simp at h
        · simp at h
      · simp at h
    · simp at h
  · simp at h

theorem showTk_put {fh : Bool} {all : List Oper} {dst : Option Tmp} {v : AVal} : ∀ (tk : List Nat) (s s' : AState), (∀ i ∈ tk, ∀ o, all[i]? = some o → o.dst ≠ none → dst ≠ o.dst) → (∀ i ∈ tk, ∀ o T u, all[i]? = some o → o.op = .load T (.tmp u) → dst ≠ some u) →
    showTk fh all tk s = some s' → showTk fh all tk (s.put dst v) = some (s'.put dst v)
  | [], s, s', _, _, h => by simp [showTk] at h ⊢; rw [h]
  | i :: r, s, s', h1, h2, h => by
    obtain ⟨o, T, u, t, n, off, cs, es, es2, ho, hop, hd, hg, hu, hok, hob, hes, ht, hrest⟩ := showTk_spec h
    have hdt : dst ≠ some t := by have := h1 i (by simp) o ho (by simp [hd]); rwa [hd] at this
    have hdu := h2 i (by simp) o T u ho hop
    have ih := showTk_put (v := v) r _ _ (fun i hi => h1 i (by simp [hi])) (fun i hi => h2 i (by simp [hi])) hrest
    simp only [showTk, ho, hop, hd, hg]
    rw [getT_put_ne hdu, hu]
    dsimp only
    rw [if_pos hok, put_obj, hob]
    dsimp only
    rw [hes]
    dsimp only
    rw [getT_put_ne hdt, ht]
    dsimp only
    rw [← ih]
    congr 1
    rw [← putO_put]
    congr 1
    cases dst with
    | none => rfl
    | some d =>
      have hne : d ≠ t := fun e => hdt (by rw [e])
      simp only [AState.put]
      rw [List.set_comm _ _ hne]

theorem putL_copy : ∀ (off : Nat) (cs : List AVal) (es : List Dat), cs[off]? = some (.own es) → unOwnL (putL off [.dat (.slice es)] cs) = unOwnL cs
  | _, [], _, h => by simp at h
  | 0, a :: cs, es, h => by simp at h; subst h; cases cs <;> simp [putL, unOwnL]
  | off + 1, a :: cs, es, h => by
    simp at h
    have := putL_copy off cs es h
    cases a <;> simp [putL, unOwnL, this]

theorem aget_aset_sim : ∀ {os : List (Name × AObj)} {n : Name} {cs cs' : List AVal}, aget n os = some (.cells cs) → unOwnL cs' = unOwnL cs → ∀ m, ObjS (aget m os) (aget m (aset n (.cells cs') os))
  | [], _, _, _, h, _, _ => by simp [aget] at h
  | (k, x) :: os, n, cs, cs', h, hu, m => by
    simp only [aget] at h
    simp only [aset]
    split
    · rename_i hk
      rw [if_pos hk] at h
      simp at h
      subst h
      simp only [aget]
      split
      · exact .inr ⟨cs, cs', rfl, rfl, hu⟩
      · exact .refl _
    · rename_i hk
      rw [if_neg hk] at h
      simp only [aget]
      split
      · exact .refl _
      · exact aget_aset_sim h hu m

theorem aget_aset_out : ∀ {os : List (Name × AObj)} {n m : Name} {o : AObj}, m ≠ n → aget m (aset n o os) = aget m os
  | [], _, _, _, _ => rfl
  | (k, x) :: os, n, m, o, h => by
    simp only [aset]
    split
    · rename_i hk
      subst hk
      simp only [aget]
      rw [if_neg (fun e => h e.symm), if_neg (fun e => h e.symm)]
    · simp only [aget]
      split
      · rfl
      · exact aget_aset_out h

theorem putO_sim {fh : Bool} {s : AState} {tmps : List AVal} {n : Name} {cs cs' : List AVal} (h : s.obj n = some (.cells cs)) (hu : unOwnL cs' = unOwnL cs) : SimO fh s (({ s with tmps := tmps } : AState).putO n (.cells cs')) := by
  intro m _
  cases n with
  | loc i =>
    cases m with
    | loc j => simp only [AState.obj, AState.putO] at h ⊢; exact aget_aset_sim h hu _
    | out j => simp only [AState.obj, AState.putO]; exact .refl _
  | out i =>
    cases m with
    | loc j => simp only [AState.obj, AState.putO]; exact .refl _
    | out j => simp only [AState.obj, AState.putO] at h ⊢; exact aget_aset_sim h hu _

theorem showTk_sim {fh fh' : Bool} {all : List Oper} : ∀ (tk : List Nat) (s s' : AState), showTk fh all tk s = some s' → SimO fh' s s' ∧ s'.next = s.next ∧ ∀ t, (∀ i ∈ tk, ∀ o, all[i]? = some o → o.dst ≠ some t) → getT s'.tmps t = getT s.tmps t
  | [], s, s', h => by simp [showTk] at h; subst h; exact ⟨.of_eq rfl (fun _ => rfl), rfl, fun _ _ => rfl⟩
  | i :: r, s, s', h => by
    obtain ⟨o, T, u, t, n, off, cs, es, es2, ho, hop, hd, hg, hu, hok, hob, hes, ht, hrest⟩ := showTk_spec h
    obtain ⟨h1, h3, h4⟩ := showTk_sim r _ _ hrest
    refine ⟨SimO.trans (putO_sim hob (putL_copy off cs es hes)) h1, by rw [h3, putO_next], fun t' ht' => ?_⟩
    rw [h4 t' (fun j hj => ht' j (by simp [hj])), putO_tmps]
    have hne : t ≠ t' := fun e => ht' i (by simp) o ho (by rw [hd, e])
    exact getT_set_ne hne

theorem tkFor_sub {all : List Oper} {t : Tmp} : ∀ {tk : List Nat} {i : Nat}, i ∈ tkFor all t tk → i ∈ tk ∧ ∃ o, all[i]? = some o ∧ o.dst = some t
  | [], _, h => by simp [tkFor] at h
  | j :: r, i, h => by
    simp only [tkFor] at h
    split at h
    · rename_i o ho
      split at h
      · rename_i hd
        rcases List.mem_cons.1 h with rfl | h
        · exact ⟨by simp, o, ho, hd⟩
        · obtain ⟨h1, h2⟩ := tkFor_sub h; exact ⟨by simp [h1], h2⟩
      · obtain ⟨h1, h2⟩ := tkFor_sub h; exact ⟨by simp [h1], h2⟩
    · obtain ⟨h1, h2⟩ := tkFor_sub h; exact ⟨by simp [h1], h2⟩

theorem chkSlots_spec {ops : Array Oper} {h : RHint} (hc : chkSlots ops h = true) {i : Nat} (hi : i ∈ h.nw.toList ++ h.tk) {o : Oper} (ho : ops[i]? = some o) : ∀ {j : Nat} {l : Bool} {q : Oper}, (j, l) ∈ h.pre → j ≠ i → ops[j]? = some q →
    (∃ d, o.dst = some d ∧ q.dst ≠ some d ∧ (l = false → d ∉ q.looksAt ops)) ∧ ∀ T u, o.op = .load T (.tmp u) → q.dst ≠ some u ∨ ∃ e ∈ o.after, Region.binds .any e = true ∧ e.on = j := by
  intro j l q hj hne hq
  unfold chkSlots at hc
  have h1 := List.all_eq_true.1 hc i hi
  rw [ho] at h1
  simp only [Bool.and_eq_true] at h1
  have h2 := List.all_eq_true.1 h1.2.2 (j, l) hj
  simp only [Bool.or_eq_true, beq_iff_eq, hne, false_or, hq, Bool.and_eq_true] at h2
  obtain ⟨h3, h4⟩ := h2
  constructor
  · cases hd : o.dst with
    | none => rw [hd] at h3; simp at h3
    | some d =>
      rw [hd] at h3
      simp only [Bool.and_eq_true, Bool.or_eq_true] at h3
      refine ⟨d, rfl, by simpa using h3.1, fun hl => ?_⟩
      rcases h3.2 with h5 | h5
      · rw [hl] at h5; simp at h5
      · simpa using h5
  · intro T u hop
    rw [hop] at h4
    simp only [Bool.or_eq_true] at h4
    rcases h4 with h4 | h4
    · exact .inl (by simpa using h4)
    · obtain ⟨e, he1, he2⟩ := Array.any_eq_true'.1 h4
      simp only [Bool.and_eq_true, beq_iff_eq] at he2
      exact .inr ⟨e, he1, he2.1, he2.2⟩

theorem isCall_op {o : Op} {c : Call} (h : isCall o = some c) : o = .call c := by
  unfold isCall at h
  split at h
  · split at h
    · simp at h
    · simp at h; rw [h]
  · simp at h
end
end Go.Tp
