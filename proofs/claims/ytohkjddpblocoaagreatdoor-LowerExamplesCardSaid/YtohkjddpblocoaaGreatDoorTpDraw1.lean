/- The generic layer: regions that draw their order: an operation that may go ahead, taken first. -/
import Derived.Test.YtohkjddpblocoaaGreatDoorTpSound15
namespace Go.Tp

section
variable {P : Program} {E : TEnv} {G : Globs} {H : Hints}

/-! ### Copies -/
theorem unOwnL_idem : ∀ (l : List AVal), unOwnL (unOwnL l) = unOwnL l
  | [] => rfl
  | a :: r => by cases a <;> simp [unOwnL, unOwnL_idem r]

theorem mkAgg_cases (cs : List AVal) : (∃ ds, mkAgg cs = .dat (.agg ds)) ∨ mkAgg cs = .agg cs := by
  unfold mkAgg
  split
  · exact .inl ⟨_, rfl⟩
  · exact .inr rfl

theorem unOwn_mkAgg (cs : List AVal) : unOwn (mkAgg (unOwnL cs)) = mkAgg (unOwnL cs) := by
  rcases mkAgg_cases (unOwnL cs) with ⟨ds, h⟩ | h
  · rw [h]; rfl
  · rw [h]
    show mkAgg (unOwnL (unOwnL cs)) = _
    rw [unOwnL_idem, h]

theorem unOwnT_idem : ∀ (l : List AVal), unOwnT (unOwnT l) = unOwnT l
  | [] => rfl
  | a :: r => by
    cases a with
    | agg cs =>
      simp only [unOwnT]
      rcases mkAgg_cases (unOwnL cs) with ⟨ds, h⟩ | h
      · rw [h]; simp [unOwnT, unOwnT_idem r]
      · have := unOwn_mkAgg cs
        rw [h] at this ⊢
        simp only [unOwnT, unOwnT_idem r]
        rw [unOwnL_idem, h]
    | _ => simp [unOwnT, unOwnT_idem r]

theorem unOwn_idem (a : AVal) : unOwn (unOwn a) = unOwn a := by
  cases a with
  | agg cs => exact unOwn_mkAgg cs
  | tup vs => simp [unOwn, unOwnT_idem]
  | _ => rfl

/-! ### Objects, ownership aside -/
def ObjS (x y : Option AObj) : Prop := y = x ∨ ∃ cs cs', x = some (.cells cs) ∧ y = some (.cells cs') ∧ unOwnL cs' = unOwnL cs

theorem ObjS.refl (x : Option AObj) : ObjS x x := .inl rfl
theorem ObjS.trans {x y z : Option AObj} (h : ObjS x y) (k : ObjS y z) : ObjS x z := by
  rcases h with rfl | ⟨cs, cs', rfl, rfl, h⟩
  · exact k
  · rcases k with rfl | ⟨ds, ds', e1, rfl, k⟩
    · exact .inr ⟨cs, cs', rfl, rfl, h⟩
    · simp at e1; subst e1; exact .inr ⟨cs, ds', rfl, rfl, k.trans h⟩

theorem unOwnL_take : ∀ (n : Nat) (l : List AVal), unOwnL (takeL n l) = takeL n (unOwnL l)
  | 0, l => by simp [takeL, unOwnL]
  | n + 1, [] => by simp [takeL, unOwnL]
  | n + 1, a :: l => by cases a <;> simp [takeL, unOwnL, unOwnL_take n l]

theorem unOwnL_drop : ∀ (n : Nat) (l : List AVal), unOwnL (dropL n l) = dropL n (unOwnL l)
  | 0, l => by simp [dropL]
  | n + 1, [] => by simp [dropL, unOwnL]
  | n + 1, a :: l => by cases a <;> simp [dropL, unOwnL, unOwnL_drop n l]

theorem unOwnL_length : ∀ (l : List AVal), (unOwnL l).length = l.length
  | [] => rfl
  | a :: l => by cases a <;> simp [unOwnL, unOwnL_length l]

theorem unOwnL_get : ∀ (l : List AVal) (k : Nat), (unOwnL l)[k]? = (l[k]?).map (fun a => match a with | .own es => .dat (.slice es) | .agg _ => .undef | .tup _ => .undef | a => a)
  | [], _ => by simp [unOwnL]
  | a :: l, 0 => by cases a <;> simp [unOwnL]
  | a :: l, k + 1 => by cases a <;> simp [unOwnL, unOwnL_get l k]

theorem loadCells_copy (i : TI) (off : Nat) (cs : List AVal) : loadCells i off (unOwnL cs) = loadCells i off cs := by
  unfold loadCells
  split
  · dsimp only
    rw [← unOwnL_drop, ← unOwnL_take, unOwnL_idem, unOwnL_length]
  · rw [unOwnL_get]
    cases h : cs[off]? with
    | none => rfl
    | some a => cases a <;> rfl

theorem loadCells_sim {i : TI} {off : Nat} {cs cs' : List AVal} (h : unOwnL cs' = unOwnL cs) : loadCells i off cs' = loadCells i off cs := by
  rw [← loadCells_copy i off cs', h, loadCells_copy]

theorem aop_sim {op : Op} (hq : quietKind op = true) (vals : List AVal) {x y : Option AObj} (h : ObjS x y) : aop E false op vals y = aop E false op vals x := by
  rcases h with rfl | ⟨cs, cs', rfl, rfl, h⟩
  · rfl
  · cases op <;> simp only [quietKind, Bool.false_eq_true] at hq <;> simp only [aop]
    · -- load
      rename_i t _
      unfold aLoad
      split
      · rfl
      · cases E.ty t with
        | none => rfl
        | some i => simp only [Bool.false_and, Bool.false_eq_true, if_false, loadCells_sim h]
      · rfl
    · -- lookup
      simp only [aLookup, mapEntries]
    · rename_i c
      split at hq <;> simp at hq
      · rename_i hc
        simp only [hc, aBuiltin]
        split
        · rfl
        · rename_i t _ _
          unfold aLen
          split
          · rfl
          · rfl
          · rfl
          · rfl
          · cases E.desc t with
            | none => rfl
            | some d => cases d <;> rfl
          · rfl
      · rename_i hc
        simp only [hc, aBuiltin]

/-! ### What an operation reads -/
def boolOf : AVal → Option (Option Bool)
  | .dat (.flat (.bool b)) => some (some b)
  | .tup [] => some none
  | _ => none

theorem boolOf_unOwn (a : AVal) : boolOf (unOwn a) = boolOf a := by
  cases a with
  | agg cs =>
    show boolOf (mkAgg (unOwnL cs)) = none
    rcases mkAgg_cases (unOwnL cs) with ⟨ds, h⟩ | h <;> rw [h] <;> rfl
  | tup cs => cases cs with
    | nil => rfl
    | cons x r => cases x <;> rfl
  | _ => rfl

theorem wantedA_eq (all : List Oper) (s : AState) (g : Option (Nat × Bool)) :
    wantedA all s g = (match g with
      | none => some true
      | some (j, want) => (match all[j]? with
        | some o => (match o.dst with
          | some t => (boolOf (getT s.tmps t)).map (· == some want)
          | none => none)
        | none => none)) := by
  unfold wantedA
  cases g with
  | none => rfl
  | some jw =>
    obtain ⟨j, want⟩ := jw
    dsimp only
    cases all[j]? with
    | none => rfl
    | some o =>
      dsimp only
      cases o.dst with
      | none => rfl
      | some t =>
        dsimp only
        unfold boolOf
        split <;> simp_all

/-- The slots that an operation looks at hold the same, ownership aside. -/
def SimT (o : Oper) (all : List Oper) (s s' : AState) : Prop := ∀ t ∈ o.looksAt all.toArray, unOwn (getT s'.tmps t) = unOwn (getT s.tmps t)

theorem wantedA_sim {o : Oper} {all : List Oper} {s s' : AState} (h : SimT o all s s') : wantedA all s' o.guard = wantedA all s o.guard := by
  rw [wantedA_eq, wantedA_eq]
  cases hg : o.guard with
  | none => rfl
  | some jw =>
    obtain ⟨j, want⟩ := jw
    dsimp only
    cases hj : all[j]? with
    | none => rfl
    | some o' =>
      dsimp only
      cases hd : o'.dst with
      | none => rfl
      | some t =>
        dsimp only
        have : t ∈ o.looksAt all.toArray := by simp [Oper.looksAt, hg, hj, hd]
        have h1 := h t this
        rw [← boolOf_unOwn (getT s'.tmps t), h1, boolOf_unOwn]

theorem opsL_sub {o : Op} {x : Operand} (h : x ∈ opsL o) : x ∈ o.operands := by
  cases o
  case call c => simp [opsL, Op.operands, Call.operands] at h ⊢; exact .inr h
  case slice t x l h' m =>
    simp [opsL, Op.operands] at h ⊢
    rcases h with h | h | h
    · exact .inl h
    · exact .inr (.inl h)
    · exact .inr (.inr (.inl h))
  all_goals (simp [opsL, Op.operands] at h ⊢ <;> exact h)

theorem aeval_sim {s s' : AState} {x : Operand} (h : ∀ t, x = .tmp t → unOwn (getT s'.tmps t) = unOwn (getT s.tmps t)) : unOwn (aeval G s' x) = unOwn (aeval G s x) := by
  cases x with
  | tmp t => exact h t rfl
  | const v => rfl
  | global g => rfl
  | func f => rfl

theorem evalArgs_sim {s s' : AState} : ∀ (xs : List Operand) (k : Nat), (∀ t, Operand.tmp t ∈ xs → unOwn (getT s'.tmps t) = unOwn (getT s.tmps t)) → evalArgs G s' none k xs = evalArgs G s none k xs
  | [], _, _ => rfl
  | x :: r, k, h => by
    simp only [evalArgs, reduceCtorEq, if_false]
    rw [aeval_sim (fun t ht => h t (by simp [ht])), evalArgs_sim r (k + 1) (fun t ht => h t (by simp [ht]))]

theorem looksAt_opsL {o : Oper} {all : List Oper} {t : Tmp} (h : Operand.tmp t ∈ opsL o.op) : t ∈ o.looksAt all.toArray := by
  have := opsL_sub h
  unfold Oper.looksAt
  refine List.mem_append_left _ (List.mem_filterMap.2 ⟨.tmp t, by simpa using this, rfl⟩)

/-- The objects that stay, ownership aside. -/
def SimO (fh : Bool) (s s' : AState) : Prop := ∀ n, okN fh n = true → ObjS (s.obj n) (s'.obj n)

theorem obj_of_eq {s s' : AState} (h : s'.locs = s.locs) (hh : s'.heap = s.heap) (n : Name) : s'.obj n = s.obj n := by
  cases n <;> simp [AState.obj, h, hh]
theorem SimO.of_eq {fh : Bool} {s s' : AState} (h : s'.locs = s.locs) (hh : fh = true → s'.heap = s.heap) : SimO fh s s' := fun n hn => by
  cases n with
  | loc i => simp only [AState.obj, h]; exact .refl _
  | out k => simp only [okN] at hn; simp only [AState.obj, hh hn]; exact .refl _
theorem SimO.trans {fh : Bool} {s s' s'' : AState} (h : SimO fh s s') (k : SimO fh s' s'') : SimO fh s s'' := fun n hn => (h n hn).trans (k n hn)

theorem lookedAt_sim {fh : Bool} {s s' : AState} {o : Op} {vals : List AVal} (hl : SimO fh s s') (hp : lookPure fh (looks o vals) = true) : ObjS (lookedAt s o vals) (lookedAt s' o vals) := by
  unfold lookedAt
  cases hn : looks o vals with
  | none => exact .refl _
  | some n =>
    refine hl n ?_
    rw [hn] at hp
    cases n with
    | loc i => rfl
    | out k => simpa [lookPure, okN] using hp

theorem stepQ_sim {fh : Bool} {all : List Oper} {o : Oper} {s s' : AState} (h : SimT o all s s') (hl : SimO fh s s') : stepQ E G fh all o s' = stepQ E G fh all o s := by
  unfold stepQ
  rw [wantedA_sim h, evalArgs_sim (s := s) (s' := s') (opsL o.op) 0 (fun t ht => h t (looksAt_opsL ht))]
  cases wantedA all s o.guard with
  | none => rfl
  | some b =>
    dsimp only
    split
    · split
      · rfl
      · cases isCall o.op with
        | some _ => rfl
        | none =>
          dsimp only
          split
          · rename_i hp
            simp only [Bool.and_eq_true] at hp
            rw [aop_sim hp.1 _ (lookedAt_sim hl hp.2)]
          · rfl
    · rfl

theorem aop_none {op : Op} (hq : quietKind op = true) {vals : List AVal} {n : Name} (hn : looks op vals = some n) : aop E false op vals none = none := by
  unfold looks at hn
  split at hn <;> simp [quietKind] at hq hn
  · simp [aop, aLoad]
  · simp only [aop, aLookup]
    split
    · rename_i heq
      simp only [List.cons.injEq] at heq
      obtain ⟨rfl, _⟩ := heq
      split
      · simp [mapEntries]
      · rfl
    · rfl
  · have e : ∀ t, aLen E t [.map n] none = none := by
      intro t
      simp only [aLen, nzL, nz]
      cases E.desc t with
      | none => rfl
      | some d => cases d <;> rfl
    subst hn
    simp only [aop, aBuiltin]
    split
    · rfl
    · exact e _

/-- What is read stays. -/
theorem stepQ_more {fh : Bool} {all : List Oper} {o : Oper} {s s' : AState} {a : AVal} (h : SimT o all s s') (hl : ∀ n ob, s.obj n = some ob → s'.obj n = some ob) (hy : stepQ E G fh all o s = some a) : stepQ E G fh all o s' = some a := by
  unfold stepQ at hy ⊢
  rw [wantedA_sim h, evalArgs_sim (s := s) (s' := s') (opsL o.op) 0 (fun t ht => h t (looksAt_opsL ht))]
  cases hw : wantedA all s o.guard with
  | none => rw [hw] at hy; exact hy
  | some b =>
    rw [hw] at hy
    dsimp only at hy ⊢
    split
    · rename_i hb
      rw [if_pos hb] at hy
      split
      · rename_i ha
        rw [if_pos ha] at hy
        exact hy
      · rename_i ha
        rw [if_neg ha] at hy
        cases hc : isCall o.op with
        | some _ => rw [hc] at hy; exact hy
        | none =>
          rw [hc] at hy
          dsimp only at hy ⊢
          split
          · rename_i hp
            rw [if_pos hp] at hy
            simp only [Bool.and_eq_true] at hp
            have e : lookedAt s' o.op (evalArgs G s none 0 (opsL o.op)) = lookedAt s o.op (evalArgs G s none 0 (opsL o.op)) := by
              unfold lookedAt at hy ⊢
              cases hlk : looks o.op (evalArgs G s none 0 (opsL o.op)) with
              | none => rfl
              | some n =>
                rw [hlk] at hy
                dsimp only at hy ⊢
                cases hob : s.obj n with
                | some ob => exact hl n ob hob
                | none => rw [hob, aop_none hp.1 hlk] at hy; simp at hy
            rw [e]
            exact hy
          · rename_i hp
            rw [if_neg hp] at hy
            exact hy
    · rename_i hb
      rw [if_neg hb] at hy
      exact hy

/-! ### Slots -/
theorem getT_set_ne {l : List AVal} {d t : Nat} {v : AVal} (h : d ≠ t) : getT (l.set d v) t = getT l t := by
  unfold getT; rw [List.getElem?_set_ne h]

theorem getT_put_ne {s : AState} {dst : Option Tmp} {t : Nat} {v : AVal} (h : dst ≠ some t) : getT (s.put dst v).tmps t = getT s.tmps t := by
  cases dst with
  | none => rfl
  | some d => exact getT_set_ne (fun e => h (by rw [e]))

theorem put_comm {s : AState} {d1 d2 : Option Tmp} {v1 v2 : AVal} (h : ∀ d, d1 = some d → d2 ≠ some d) : (s.put d1 v1).put d2 v2 = (s.put d2 v2).put d1 v1 := by
  cases d1 with
  | none => rfl
  | some a =>
    cases d2 with
    | none => rfl
    | some b =>
      have hne : a ≠ b := fun e => h a rfl (by rw [e])
      simp only [AState.put]
      rw [List.set_comm _ _ hne]

theorem put_heap {s : AState} {dst : Option Tmp} {v : AVal} {h : List (Name × AObj)} {n : Nat} : ({ s.put dst v with heap := h, next := n } : AState) = ({ s with heap := h, next := n } : AState).put dst v := by
  cases dst <;> rfl

theorem simT_put {o : Oper} {all : List Oper} {s : AState} {dst : Option Tmp} {v : AVal} (h : ∀ d, dst = some d → d ∉ o.looksAt all.toArray) : SimT o all s (s.put dst v) := by
  intro t ht
  rw [getT_put_ne]
  intro e
  exact h t e ht

theorem SimT.trans {o : Oper} {all : List Oper} {s s' s'' : AState} (h : SimT o all s s') (k : SimT o all s' s'') : SimT o all s s'' := fun t ht => (k t ht).trans (h t ht)

/-! ### Calls -/
theorem aeval_put {s : AState} {dst : Option Tmp} {v : AVal} {x : Operand} (h : ∀ d, dst = some d → x ≠ .tmp d) : aeval G (s.put dst v) x = aeval G s x := by
  cases x with
  | tmp t => exact getT_put_ne (fun e => h t e rfl)
  | _ => rfl

theorem dropOwn_put {s : AState} {dst : Option Tmp} {v : AVal} {x : Operand} (h : ∀ d, dst = some d → x ≠ .tmp d) : dropOwn (s.put dst v) (some 0) [x] = (dropOwn s (some 0) [x]).put dst v := by
  cases x with
  | tmp t =>
    cases dst with
    | none => rfl
    | some d =>
      have hne : d ≠ t := fun e => h d rfl (by rw [e])
      simp only [dropOwn, List.getElem?_cons_zero, AState.put]
      rw [getT_set_ne hne, List.set_comm _ _ hne]
  | _ => simp [dropOwn]

theorem takeArgs_put {dst : Option Tmp} {v : AVal} : ∀ (xs : List Operand) (s : AState), (∀ d, dst = some d → Operand.tmp d ∉ xs) → takeArgs G (s.put dst v) xs = ((takeArgs G s xs).1, (takeArgs G s xs).2.put dst v)
  | [], s, _ => rfl
  | x :: r, s, h => by
    have hx : ∀ d, dst = some d → x ≠ .tmp d := fun d hd e => h d hd (by simp [e])
    simp only [takeArgs]
    rw [dropOwn_put hx, takeArgs_put r _ (fun d hd hm => h d hd (by simp [hm])), aeval_put hx]

theorem evalArgs_put {dst : Option Tmp} {v : AVal} : ∀ (xs : List Operand) (k : Nat) (s : AState), (∀ d, dst = some d → Operand.tmp d ∉ xs) → evalArgs G (s.put dst v) none k xs = evalArgs G s none k xs
  | [], _, _, _ => rfl
  | x :: r, k, s, h => by
    simp only [evalArgs, reduceCtorEq, if_false]
    rw [aeval_put (fun d hd e => h d hd (by simp [e])), evalArgs_put r (k + 1) s (fun d hd hm => h d hd (by simp [hm]))]

theorem acalleeD_put {c : Call} {s : AState} {dst : Option Tmp} {v : AVal} (h : ∀ d, dst = some d → Operand.tmp d ∉ c.operands) :
    acalleeD E G H c (s.put dst v) = (acalleeD E G H c s).map fun x => (x.1, x.2.1, x.2.2.put dst v) := by
  obtain ⟨callee, args, argTypes⟩ := c
  cases callee with
  | builtin _ => rfl
  | invoke _ _ => rfl
  | value f =>
    have hf : ∀ d, dst = some d → f ≠ .tmp d := fun d hd e => h d hd (by simp [Call.operands, e])
    have ha : ∀ d, dst = some d → Operand.tmp d ∉ args.toList := fun d hd hm => h d hd (by simp at hm; simp [Call.operands, hm])
    simp only [acalleeD]
    rw [aeval_put hf]
    split
    · rename_i g first captured
      split
      · split
        · rw [takeArgs_put _ _ ha]
          dsimp only
          split <;> rfl
        · rw [evalArgs_put _ _ _ ha]
          dsimp only
          split <;> rfl
      · rfl
    · rfl

theorem dropOwn_simA {s : AState} {x : Operand} (t : Nat) : unOwn (getT (dropOwn s (some 0) [x]).tmps t) = unOwn (getT s.tmps t) := by
  cases x with
  | tmp u =>
    simp only [dropOwn, List.getElem?_cons_zero]
    by_cases hu : u = t
    · subst hu
      by_cases hl : u < s.tmps.length
      · have : getT (s.tmps.set u (unOwn (getT s.tmps u))) u = unOwn (getT s.tmps u) := by
          conv => lhs; unfold getT
          simp only [List.getElem?_set_self hl]
          rfl
        rw [this, unOwn_idem]
      · rw [List.set_eq_of_length_le (Nat.le_of_not_lt hl)]
    · rw [getT_set_ne hu]
  | _ => simp [dropOwn]

theorem dropOwn_sim {o : Oper} {all : List Oper} {s : AState} {x : Operand} : SimT o all s (dropOwn s (some 0) [x]) := fun t _ => dropOwn_simA t

theorem takeArgs_simA : ∀ (xs : List Operand) (s : AState) (t : Nat), unOwn (getT (takeArgs G s xs).2.tmps t) = unOwn (getT s.tmps t)
  | [], _, _ => rfl
  | x :: r, s, t => by
    simp only [takeArgs]
    exact (takeArgs_simA r _ t).trans (dropOwn_simA t)

theorem takeArgs_sim {o : Oper} {all : List Oper} : ∀ (xs : List Operand) (s : AState), SimT o all s (takeArgs G s xs).2
  | [], _ => fun _ _ => rfl
  | x :: r, s => by
    simp only [takeArgs]
    exact (dropOwn_sim (x := x)).trans (takeArgs_sim r _)

theorem acalleeD_simA {c : Call} {s s2 : AState} {f : FuncId} {args : List AVal} (h : acalleeD E G H c s = some (f, args, s2)) : (∀ t, unOwn (getT s2.tmps t) = unOwn (getT s.tmps t)) ∧ s2.locs = s.locs := by
  unfold acalleeD at h
  split at h
  · split at h
    · split at h
      · dsimp only at h
        split at h
        · split at h
          · simp at h
            rw [← h.2.2]
            exact ⟨takeArgs_simA _ _, (takeArgs_keeps G _ s).1⟩
          · simp at h
        · split at h
          · simp at h
            rw [← h.2.2]
            exact ⟨fun _ => rfl, rfl⟩
          · simp at h
      · simp at h
    · simp at h
  · simp at h

theorem acalleeD_heap {c : Call} {s s2 : AState} {f : FuncId} {args : List AVal} (h : acalleeD E G H c s = some (f, args, s2)) : s2.heap = s.heap := by
  unfold acalleeD at h
  split at h
  · split at h
    · split at h
      · dsimp only at h
        split at h
        · split at h
          · simp at h
            rw [← h.2.2]
            exact (takeArgs_keeps G _ s).2.1
          · simp at h
        · split at h
          · simp at h
            rw [← h.2.2]
          · simp at h
      · simp at h
    · simp at h
  · simp at h

theorem acalleeD_sim {c : Call} {s s2 : AState} {f : FuncId} {args : List AVal} (h : acalleeD E G H c s = some (f, args, s2)) (o : Oper) (all : List Oper) : SimT o all s s2 ∧ s2.locs = s.locs :=
  ⟨fun t _ => (acalleeD_simA h).1 t, (acalleeD_simA h).2⟩

/-! ### Appends -/
theorem appSlot_spec {o : Op} {t : Tmp} (h : appSlot o = some t) : ∃ c r, o = .call c ∧ c.callee = .builtin .append ∧ c.args.toList = .tmp t :: r := by
  unfold appSlot at h
  split at h
  · rename_i c
    split at h
    · split at h
      · simp at h; subst h; exact ⟨c, _, rfl, by assumption, by assumption⟩
      · simp at h
    · simp at h
  · simp at h

theorem looks_apz {args : Array Operand} {tys : Array TypeId} {vals : List AVal} {es : List Dat} {x : AVal} (h : apz vals = [.own es, x]) : looks (.call ⟨.builtin .append, args, tys⟩) vals = none := by
  match vals, h with
  | [a, y], h => cases a <;> first | rfl | (simp [apz, ownz] at h)
  | [], h => simp [apz] at h
  | [_], h => simp [apz] at h
  | _ :: _ :: _ :: _, h => simp [apz] at h

theorem append_keep {o : Op} {t : Tmp} (h : appSlot o = some t) {vals : List AVal} {ob : Option AObj} {out : Out} (ho : aop E false o vals ob = some out) : out.eff = .keep ∧ looks o vals = none := by
  obtain ⟨c, r, rfl, hc, _⟩ := appSlot_spec h
  obtain ⟨callee, args, tys⟩ := c
  simp only at hc
  subst hc
  simp only [aop, aBuiltin] at ho
  split at ho
  · simp at ho
  · split at ho
    · split at ho
      · unfold aAppend at ho
        split at ho
        · rename_i heq
          split at ho
          · simp only [Bool.false_and, Bool.false_eq_true, if_false] at ho
            split at ho
            · split at ho
              · simp at ho; exact ⟨by rw [← ho], looks_apz heq⟩
              · simp at ho
            · simp at ho
          · simp at ho
        · split at ho
          · simp at ho
          · simp at ho
        · simp at ho
      · unfold aAppendStr at ho
        split at ho
        · rename_i heq
          split at ho
          · split at ho
            · split at ho
              · split at ho
                · simp at ho; exact ⟨by rw [← ho], looks_apz heq⟩
                · simp at ho
              · simp at ho
            · simp at ho
          · simp at ho
        · simp at ho
    · simp at ho

theorem moved_append {o : Op} {t : Tmp} (h : appSlot o = some t) : mvQ false o = some 0 ∧ ∃ r, opsL o = .tmp t :: r := by
  obtain ⟨c, r, rfl, hc, ha⟩ := appSlot_spec h
  obtain ⟨callee, args, tys⟩ := c
  simp only at hc ha
  subst hc
  exact ⟨rfl, r, by simp [opsL, ha]⟩

theorem evalArgs_put' {dst : Option Tmp} {v : AVal} (mv : Option Nat) : ∀ (xs : List Operand) (k : Nat) (s : AState), (∀ d, dst = some d → Operand.tmp d ∉ xs) → evalArgs G (s.put dst v) mv k xs = evalArgs G s mv k xs
  | [], _, _, _ => rfl
  | x :: r, k, s, h => by
    simp only [evalArgs]
    rw [aeval_put (fun d hd e => h d hd (by simp [e])), evalArgs_put' mv r (k + 1) s (fun d hd hm => h d hd (by simp [hm]))]

/-- What an append does. -/
theorem astep_append {o : Oper} {t : Tmp} (h : appSlot o.op = some t) {s s' : AState} (hs : astep E G false false o s = some s') : ∃ v, s' = ({ s with tmps := s.tmps.set t (unOwn (getT s.tmps t)) } : AState).put o.dst v ∧
    ∀ (dst : Option Tmp) (u : AVal), (∀ d, dst = some d → Operand.tmp d ∉ opsL o.op) → (∀ d, dst = some d → o.dst ≠ some d) → astep E G false false o (s.put dst u) = some (s'.put dst u) := by
  obtain ⟨hm, r, hops⟩ := moved_append h
  unfold astep at hs
  split at hs
  · simp at hs
  · rename_i out hout
    obtain ⟨hk, hl⟩ := append_keep h hout
    unfold astepOut at hs
    rw [hk] at hs
    simp only [Option.some.injEq] at hs
    have hd : dropOwn s (mvQ false o.op) (opsL o.op) = { s with tmps := s.tmps.set t (unOwn (getT s.tmps t)) } := by
      rw [hm, hops]; simp [dropOwn]
    rw [hd] at hs
    refine ⟨out.val, hs.symm, ?_⟩
    intro dst u h1 h2
    have hne : ∀ d, dst = some d → d ≠ t := fun d hd' e => h1 d hd' (by rw [hops, e]; simp)
    have hd2 : dropOwn (s.put dst u) (mvQ false o.op) (opsL o.op) = ({ s with tmps := s.tmps.set t (unOwn (getT s.tmps t)) } : AState).put dst u := by
      rw [hm, hops]
      simp only [dropOwn, List.getElem?_cons_zero]
      cases dst with
      | none => rfl
      | some d =>
        simp only [AState.put]
        rw [getT_set_ne (hne d rfl), List.set_comm _ _ (hne d rfl)]
    have hlk : ∀ s' : AState, lookedAt s' o.op (evalArgs G s (mvQ false o.op) 0 (opsL o.op)) = none := fun s' => by unfold lookedAt; rw [hl]
    unfold astep
    rw [evalArgs_put' _ _ _ _ h1, hlk, ← hlk s, hout]
    simp only [astepOut, hk, hd2, Option.some.injEq]
    rw [← hs]
    exact put_comm h2

theorem putO_put {s : AState} {dst : Option Tmp} {v : AVal} {n : Name} {o : AObj} : (s.put dst v).putO n o = (s.putO n o).put dst v := by
  cases n <;> cases dst <;> rfl
theorem putO_tmps {s : AState} {n : Name} {o : AObj} : (s.putO n o).tmps = s.tmps := by cases n <;> rfl
theorem putO_next {s : AState} {n : Name} {o : AObj} : (s.putO n o).next = s.next := by cases n <;> rfl
theorem put_obj {s : AState} {dst : Option Tmp} {v : AVal} {n : Name} : (s.put dst v).obj n = s.obj n := by
  cases n <;> cases dst <;> rfl

theorem showTk_spec {fh : Bool} {all : List Oper} {i : Nat} {r : List Nat} {s s' : AState} (h : showTk fh all (i :: r) s = some s') : ∃ o T u t n off cs es es2, all[i]? = some o ∧ o.op = .load T (.tmp u) ∧ o.dst = some t ∧ o.guard = none ∧ getT s.tmps u = .ptr n off ∧
    okN fh n = true ∧ s.obj n = some (.cells cs) ∧ cs[off]? = some (.own es) ∧ getT s.tmps t = .dat (.slice es2) ∧
    showTk fh all r (({ s with tmps := s.tmps.set t (.own es) } : AState).putO n (.cells (putL off [.dat (.slice es)] cs))) = some s' := by
  simp only [showTk] at h
  split at h
  · rename_i o ho
    split at h
    · rename_i T u t hop hd hg
      split at h
      · rename_i n off hu
        split at h
        · rename_i hok
          split at h
          · rename_i cs hob
            split at h
            · rename_i es hes
              split at h
              · rename_i es2 ht
                exact ⟨o, T, u, t, n, off, cs, es, es2, ho, hop, hd, hg, hu, hok, hob, hes, ht, h⟩
              · simp at h
            · simp at h
          · simp at h
        · simp at h
      · simp at h
    · simp at h
  · simp at h

theorem showTk_put {fh : Bool} {all : List Oper} {dst : Option Tmp} {v : AVal} : ∀ (tk : List Nat) (s s' : AState), (∀ i ∈ tk, ∀ o, all[i]? = some o → o.dst ≠ none → dst ≠ o.dst) → (∀ i ∈ tk, ∀ o T u, all[i]? = some o → o.op = .load T (.tmp u) → dst ≠ some u) →
    showTk fh all tk s = some s' → showTk fh all tk (s.put dst v) = some (s'.put dst v)
  | [], s, s', _, _, h => by simp [showTk] at h ⊢; rw [h]
  | i :: r, s, s', h1, h2, h => by
    obtain ⟨o, T, u, t, n, off, cs, es, es2, ho, hop, hd, hg, hu, hok, hob, hes, ht, hrest⟩ := showTk_spec h
    have hdt : dst ≠ some t := by have := h1 i (by simp) o ho (by simp [hd]); rwa [hd] at this
    have hdu := h2 i (by simp) o T u ho hop
    have ih := showTk_put (v := v) r _ _ (fun i hi => h1 i (by simp [hi])) (fun i hi => h2 i (by simp [hi])) hrest
    simp only [showTk, ho, hop, hd, hg]
    rw [getT_put_ne hdu, hu]
    dsimp only
    rw [if_pos hok, put_obj, hob]
    dsimp only
    rw [hes]
    dsimp only
    rw [getT_put_ne hdt, ht]
    dsimp only
    rw [← ih]
    congr 1
    rw [← putO_put]
    congr 1
    cases dst with
    | none => rfl
    | some d =>
      have hne : d ≠ t := fun e => hdt (by rw [e])
      simp only [AState.put]
      rw [List.set_comm _ _ hne]

theorem putL_copy : ∀ (off : Nat) (cs : List AVal) (es : List Dat), cs[off]? = some (.own es) → unOwnL (putL off [.dat (.slice es)] cs) = unOwnL cs
  | _, [], _, h => by simp at h
  | 0, a :: cs, es, h => by simp at h; subst h; cases cs <;> simp [putL, unOwnL]
  | off + 1, a :: cs, es, h => by
    simp at h
    have := putL_copy off cs es h
    cases a <;> simp [putL, unOwnL, this]

theorem aget_aset_sim : ∀ {os : List (Name × AObj)} {n : Name} {cs cs' : List AVal}, aget n os = some (.cells cs) → unOwnL cs' = unOwnL cs → ∀ m, ObjS (aget m os) (aget m (aset n (.cells cs') os))
  | [], _, _, _, h, _, _ => by simp [aget] at h
  | (k, x) :: os, n, cs, cs', h, hu, m => by
    simp only [aget] at h
    simp only [aset]
    split
    · rename_i hk
      rw [if_pos hk] at h
      simp at h
      subst h
      simp only [aget]
      split
      · exact .inr ⟨cs, cs', rfl, rfl, hu⟩
      · exact .refl _
    · rename_i hk
      rw [if_neg hk] at h
      simp only [aget]
      split
      · exact .refl _
      · exact aget_aset_sim h hu m

theorem aget_aset_out : ∀ {os : List (Name × AObj)} {n m : Name} {o : AObj}, m ≠ n → aget m (aset n o os) = aget m os
  | [], _, _, _, _ => rfl
  | (k, x) :: os, n, m, o, h => by
    simp only [aset]
    split
    · rename_i hk
      subst hk
      simp only [aget]
      rw [if_neg (fun e => h e.symm), if_neg (fun e => h e.symm)]
    · simp only [aget]
      split
      · rfl
      · exact aget_aset_out h

theorem putO_sim {fh : Bool} {s : AState} {tmps : List AVal} {n : Name} {cs cs' : List AVal} (h : s.obj n = some (.cells cs)) (hu : unOwnL cs' = unOwnL cs) : SimO fh s (({ s with tmps := tmps } : AState).putO n (.cells cs')) := by
  intro m _
  cases n with
  | loc i =>
    cases m with
    | loc j => simp only [AState.obj, AState.putO] at h ⊢; exact aget_aset_sim h hu _
    | out j => simp only [AState.obj, AState.putO]; exact .refl _
  | out i =>
    cases m with
    | loc j => simp only [AState.obj, AState.putO]; exact .refl _
    | out j => simp only [AState.obj, AState.putO] at h ⊢; exact aget_aset_sim h hu _

theorem showTk_sim {fh fh' : Bool} {all : List Oper} : ∀ (tk : List Nat) (s s' : AState), showTk fh all tk s = some s' → SimO fh' s s' ∧ s'.next = s.next ∧ ∀ t, (∀ i ∈ tk, ∀ o, all[i]? = some o → o.dst ≠ some t) → getT s'.tmps t = getT s.tmps t
  | [], s, s', h => by simp [showTk] at h; subst h; exact ⟨.of_eq rfl (fun _ => rfl), rfl, fun _ _ => rfl⟩
  | i :: r, s, s', h => by
    obtain ⟨o, T, u, t, n, off, cs, es, es2, ho, hop, hd, hg, hu, hok, hob, hes, ht, hrest⟩ := showTk_spec h
    obtain ⟨h1, h3, h4⟩ := showTk_sim r _ _ hrest
    refine ⟨SimO.trans (putO_sim hob (putL_copy off cs es hes)) h1, by rw [h3, putO_next], fun t' ht' => ?_⟩
    rw [h4 t' (fun j hj => ht' j (by simp [hj])), putO_tmps]
    have hne : t ≠ t' := fun e => ht' i (by simp) o ho (by rw [hd, e])
    exact getT_set_ne hne

theorem tkFor_sub {all : List Oper} {t : Tmp} : ∀ {tk : List Nat} {i : Nat}, i ∈ tkFor all t tk → i ∈ tk ∧ ∃ o, all[i]? = some o ∧ o.dst = some t
  | [], _, h => by simp [tkFor] at h
  | j :: r, i, h => by
    simp only [tkFor] at h
    split at h
    · rename_i o ho
      split at h
      · rename_i hd
        rcases List.mem_cons.1 h with rfl | h
        · exact ⟨by simp, o, ho, hd⟩
        · obtain ⟨h1, h2⟩ := tkFor_sub h; exact ⟨by simp [h1], h2⟩
      · obtain ⟨h1, h2⟩ := tkFor_sub h; exact ⟨by simp [h1], h2⟩
    · obtain ⟨h1, h2⟩ := tkFor_sub h; exact ⟨by simp [h1], h2⟩

theorem chkSlots_spec {ops : Array Oper} {h : RHint} (hc : chkSlots ops h = true) {i : Nat} (hi : i ∈ h.nw.toList ++ h.tk) {o : Oper} (ho : ops[i]? = some o) : ∀ {j : Nat} {l : Bool} {q : Oper}, (j, l) ∈ h.pre → j ≠ i → ops[j]? = some q →
    (∃ d, o.dst = some d ∧ q.dst ≠ some d ∧ (l = false → d ∉ q.looksAt ops)) ∧ ∀ T u, o.op = .load T (.tmp u) → q.dst ≠ some u ∨ ∃ e ∈ o.after, Region.binds .any e = true ∧ e.on = j := by
  intro j l q hj hne hq
  unfold chkSlots at hc
  have h1 := List.all_eq_true.1 hc i hi
  rw [ho] at h1
  simp only [Bool.and_eq_true] at h1
  have h2 := List.all_eq_true.1 h1.2.2 (j, l) hj
  simp only [Bool.or_eq_true, beq_iff_eq, hne, false_or, hq, Bool.and_eq_true] at h2
  obtain ⟨h3, h4⟩ := h2
  constructor
  · cases hd : o.dst with
    | none => rw [hd] at h3; simp at h3
    | some d =>
      rw [hd] at h3
      simp only [Bool.and_eq_true, Bool.or_eq_true] at h3
      refine ⟨d, rfl, by simpa using h3.1, fun hl => ?_⟩
      rcases h3.2 with h5 | h5
      · rw [hl] at h5; simp at h5
      · simpa using h5
  · intro T u hop
    rw [hop] at h4
    simp only [Bool.or_eq_true] at h4
    rcases h4 with h4 | h4
    · exact .inl (by simpa using h4)
    · obtain ⟨e, he1, he2⟩ := Array.any_eq_true'.1 h4
      simp only [Bool.and_eq_true, beq_iff_eq] at he2
      exact .inr ⟨e, he1, he2.1, he2.2⟩

/-! ### One step against another -/
variable (P E G H) in
/-- An operation of the region, by its kind. -/
def opC (ops : Array Oper) (h : RHint) (i : Nat) (K : AState → Prop) (s : AState) : Prop :=
  ∃ (lone : Bool) (o : Oper), (i, lone) ∈ h.pre ∧ ops[i]? = some o ∧ (if lone = true then opL (ACalls P G) E G H (quietHeap H ops.toList h.pre) h.tk ops.toList o K s else ∃ a, stepQ E G (quietHeap H ops.toList h.pre || quietAt H ops.toList h.pre i) ops.toList o s = some a ∧ K (s.put o.dst a))

theorem opL_mono {fh : Bool} {tk : List Nat} {all : List Oper} {o : Oper} {K K' : AState → Prop} {s : AState} (hk : ∀ s, K s → K' s) (h : opL (ACalls P G) E G H fh tk all o K s) : opL (ACalls P G) E G H fh tk all o K' s := by
  unfold opL at h ⊢
  split
  · rename_i hw; simp [hw] at h
  · rename_i b hw
    simp only [hw] at h
    split
    · rename_i hb
      simp only [hb, if_true] at h
      split
      · rename_i c hc
        simp only [hc] at h
        split
        · rename_i f args s2 ha
          simp only [ha] at h
          cases hpu : isPure H o with
          | true => rw [hpu] at h; exact h.mono fun v heap n hq h1 h2 => ⟨(hq h1 h2).1, hk _ (hq h1 h2).2⟩
          | false => rw [hpu] at h; exact h.mono fun v heap n hq h1 h2 => ⟨(hq h1 h2).1, hk _ (hq h1 h2).2⟩
        · rename_i ha
          simp [ha] at h
      · rename_i hc
        simp only [hc] at h
        split
        · rename_i t ht
          simp only [ht] at h
          split
          · rename_i s1 hs1
            simp only [hs1] at h
            split
            · rename_i s' hs'
              simp only [hs'] at h
              exact hk _ h
            · rename_i hs'; simp [hs'] at h
          · rename_i hs1; simp [hs1] at h
        · rename_i ht; simp [ht] at h
    · rename_i hb
      simp only [hb] at h
      exact hk _ h

theorem opC_mono {ops : Array Oper} {h : RHint} {i : Nat} {K K' : AState → Prop} {s : AState} (hk : ∀ s, K s → K' s) (hs : opC P E G H ops h i K s) : opC P E G H ops h i K' s := by
  obtain ⟨lone, o, h1, h2, h3⟩ := hs
  refine ⟨lone, o, h1, h2, ?_⟩
  split
  · rename_i hl
    rw [if_pos hl] at h3
    exact opL_mono hk h3
  · rename_i hl
    rw [if_neg hl] at h3
    obtain ⟨a, h4, h5⟩ := h3
    exact ⟨a, h4, hk _ h5⟩

theorem isCall_op {o : Op} {c : Call} (h : isCall o = some c) : o = .call c := by
  unfold isCall at h
  split at h
  · split at h
    · simp at h
    · simp at h; rw [h]
  · simp at h

theorem quietHeap_false {all : List Oper} {pre : List (Nat × Bool)} : ∀ {j : Nat} {o : Oper} {c : Call}, (j, true) ∈ pre → all[j]? = some o → isCall o.op = some c → isPure H o = false → quietHeap H all pre = false := by
  induction pre with
  | nil => intro j o c h; simp at h
  | cons p r ih =>
    intro j o c h ho hc hpu
    obtain ⟨k, l⟩ := p
    simp only [quietHeap]
    rcases List.mem_cons.1 h with h | h
    · simp at h; obtain ⟨rfl, rfl⟩ := h; rw [ho]; simp [hc, hpu]
    · rw [ih h ho hc hpu]; simp

theorem opC_put {ops : Array Oper} {h : RHint} (hcs : chkSlots ops h = true) {i j : Nat} {oi oj : Oper} {a : AVal} (hi : ops[i]? = some oi) (him : (i, false) ∈ h.pre) (hj : ops[j]? = some oj) (hap : oi.apart ops oj = true)
    (hntk : ∀ t k o', appSlot oj.op = some t → k ∈ tkFor ops.toList t h.tk → ops.toList[k]? = some o' → ∀ e ∈ o'.after, Region.binds .any e = true → e.on ≠ i) {K : AState → Prop} {s : AState}
    (hF : ∀ c, isCall oj.op = some c → isPure H oj = false → isRead H oj = false → (j, true) ∈ h.pre → (quietHeap H ops.toList h.pre || quietAt H ops.toList h.pre i) = false)
    (hy : stepQ E G (quietHeap H ops.toList h.pre || quietAt H ops.toList h.pre i) ops.toList oi s = some a) (hs : opC P E G H ops h j K (s.put oi.dst a)) :
    opC P E G H ops h j (fun s' => stepQ E G (quietHeap H ops.toList h.pre || quietAt H ops.toList h.pre i) ops.toList oi s' = some a ∧ K (s'.put oi.dst a)) s := by
  obtain ⟨h1, h2, h3⟩ := Oper.apart_spec hap
  obtain ⟨lone, o, hm, ho, hs⟩ := hs
  rw [hj] at ho
  simp at ho
  subst ho
  refine ⟨lone, oj, hm, hj, ?_⟩
  have hsimj : SimT oj ops.toList s (s.put oi.dst a) := simT_put (by simpa using h1)
  have hdj : ∀ (s : AState) (v : AVal), SimT oi ops.toList s (s.put oj.dst v) := fun s v => simT_put (by simpa using h3)
  have hlj : ∀ {fh : Bool} (s : AState) (d : Option Tmp) (v : AVal), SimO fh s (s.put d v) := fun s d v => .of_eq (put_locs s d v).1 (fun _ => (put_locs s d v).2.1)
  split
  · rename_i hl
    rw [if_pos hl] at hs
    subst hl
    unfold opL at hs ⊢
    rw [wantedA_sim hsimj] at hs
    split
    · rename_i hw; simp [hw] at hs
    · rename_i b hw
      simp only [hw] at hs
      split
      · rename_i hb
        simp only [hb, if_true] at hs
        split
        · rename_i c hc
          simp only [hc] at hs
          have hop := isCall_op hc
          rw [acalleeD_put (fun d hd hmem => h1 d hd (List.mem_append_left _ (List.mem_filterMap.2 ⟨.tmp d, by rw [hop]; simpa [Op.operands] using hmem, rfl⟩)))] at hs
          cases hcal : acalleeD E G H c s with
          | none => rw [hcal] at hs; simp at hs
          | some x =>
            obtain ⟨f, args, s2⟩ := x
            rw [hcal] at hs
            simp only [Option.map_some] at hs
            obtain ⟨hsim, hlocs⟩ := acalleeD_sim hcal oi ops.toList
            have e1 : (s2.put oi.dst a).heap = s2.heap := (put_locs s2 oi.dst a).2.1
            have e2 : (s2.put oi.dst a).next = s2.next := (put_locs s2 oi.dst a).2.2
            rw [e1, e2] at hs
            dsimp only at hs ⊢
            cases hpu : isPure H oj with
            | true =>
              rw [hpu] at hs
              refine hs.mono fun v heap n hq b1 b2 => ⟨(hq b1 b2).1, ?_, ?_⟩
              · rw [← hy]
                refine stepQ_sim ?_ ?_
                · have k1 : SimT oi ops.toList s { s2 with next := n } := hsim
                  exact k1.trans (hdj _ v)
                · exact .of_eq (by rw [(put_locs _ oj.dst v).1]; exact hlocs) (fun _ => by rw [(put_locs _ oj.dst v).2.1]; exact (acalleeD_heap hcal : s2.heap = s.heap))
              · have := (hq b1 b2).2
                have e : (⟨(s2.put oi.dst a).tmps, (s2.put oi.dst a).locs, s2.heap, n⟩ : AState) = ({ s2 with next := n } : AState).put oi.dst a := by cases oi.dst <;> rfl
                rw [e, put_comm h2] at this
                exact this
            | false =>
              rw [hpu] at hs
              refine hs.mono fun v heap n hq b1 b2 => ⟨(hq b1 b2).1, ?_, ?_⟩
              · cases hrd : isRead H oj with
                | true =>
                  refine stepQ_more ?_ ?_ hy
                  · have k1 : SimT oi ops.toList s { s2 with heap := heap, next := n } := hsim
                    exact k1.trans (hdj _ v)
                  · intro m ob hm1
                    have hst := (hq b1 b2).1 hrd
                    rw [put_obj]
                    cases m with
                    | loc k => simp only [AState.obj] at hm1 ⊢; rw [hlocs]; exact hm1
                    | out k => simp only [AState.obj] at hm1 ⊢; exact hst _ _ (by rw [(acalleeD_heap hcal : s2.heap = s.heap)]; exact hm1)
                | false =>
                  have hfh := hF c hc hpu hrd hm
                  rw [← hy]
                  refine stepQ_sim ?_ ?_
                  · have k1 : SimT oi ops.toList s { s2 with heap := heap, next := n } := hsim
                    exact k1.trans (hdj _ v)
                  · exact .of_eq (by rw [(put_locs _ oj.dst v).1]; exact hlocs) (fun hf => by rw [hfh] at hf; simp at hf)
              · have := (hq b1 b2).2
                rw [put_heap, put_comm h2] at this
                exact this
        · rename_i hc
          simp only [hc] at hs
          split
          · rename_i t ht
            simp only [ht] at hs
            obtain ⟨_, rr, hops⟩ := moved_append ht
            have htj : t ∈ oj.looksAt ops := by
              have := looksAt_opsL (o := oj) (all := ops.toList) (t := t) (by rw [hops]; simp)
              simpa using this
            have hops_not : ∀ d, oi.dst = some d → Operand.tmp d ∉ opsL oj.op := fun d hd hmem => h1 d hd (by have := looksAt_opsL (o := oj) (all := ops.toList) hmem; simpa using this)
            have etk : tkNil h.tk t (s.put oi.dst a) = tkNil h.tk t s := by unfold tkNil; rw [getT_put_ne (fun e => h1 t e htj)]
            rw [etk] at hs
            -- the loads that the append owns by are others than oi
            have hother : ∀ k ∈ tkFor ops.toList t (tkNil h.tk t s), k ≠ i := fun k hk e => by
              obtain ⟨_, o', ho', hd'⟩ := tkFor_sub (tkNil_for hk)
              rw [e] at ho'
              have : ops[i]? = some o' := by simpa using ho'
              rw [hi] at this
              simp at this
              subst this
              exact h1 t hd' htj
            have hspec : ∀ k ∈ tkFor ops.toList t (tkNil h.tk t s), ∀ o', ops.toList[k]? = some o' → (o'.dst = some t ∧ oi.dst ≠ some t ∧ t ∉ oi.looksAt ops) ∧ ∀ T u, o'.op = .load T (.tmp u) → oi.dst ≠ some u := fun k hk o' ho' => by
              obtain ⟨hk1, o2, ho2, hd2⟩ := tkFor_sub (tkNil_for hk)
              rw [ho2] at ho'
              simp at ho'
              subst ho'
              obtain ⟨⟨d, e1, e2, e3⟩, e4⟩ := chkSlots_spec hcs (i := k) (by simp [hk1]) (by simpa using ho2) him (Ne.symm (hother k hk)) hi
              rw [hd2] at e1
              simp at e1
              subst e1
              exact ⟨⟨hd2, e2, e3 rfl⟩, fun T u hop => by
                rcases e4 T u hop with h | ⟨e, he, hb, hon⟩
                · exact h
                · exact absurd hon (hntk t k o2 ht (tkNil_for hk) ho2 e he hb)⟩
            cases hsh : showTk (quietHeap H ops.toList h.pre) ops.toList (tkFor ops.toList t (tkNil h.tk t s)) s with
            | none =>
              exfalso
              -- what is shown with the value in its slot is shown without
              have : ∀ (tk : List Nat) (s s1 : AState), (∀ k ∈ tk, ∀ o', ops.toList[k]? = some o' → (o'.dst = some t ∧ oi.dst ≠ some t ∧ t ∉ oi.looksAt ops) ∧ ∀ T u, o'.op = .load T (.tmp u) → oi.dst ≠ some u) → showTk (quietHeap H ops.toList h.pre) ops.toList tk (s.put oi.dst a) = some s1 → ∃ s2, showTk (quietHeap H ops.toList h.pre) ops.toList tk s = some s2 := by
                intro tk
                induction tk with
                | nil => intro s s1 _ _; exact ⟨s, rfl⟩
                | cons k r ih =>
                  intro s s1 hh hh2
                  obtain ⟨o', T, u, t', n, off, cs, es, es2, ho', hop, hd, hg, hu, hok, hob, hes, ht', hrest⟩ := showTk_spec hh2
                  obtain ⟨⟨q1, q2, _⟩, q3⟩ := hh k (by simp) o' ho'
                  have hdu := q3 T u hop
                  rw [hd] at q1
                  simp at q1
                  subst q1
                  rw [getT_put_ne hdu] at hu
                  rw [getT_put_ne q2] at ht'
                  rw [put_obj] at hob
                  have e0 : (({ s.put oi.dst a with tmps := (s.put oi.dst a).tmps.set t' (.own es) } : AState).putO n (.cells (putL off [.dat (.slice es)] cs))) = (({ s with tmps := s.tmps.set t' (.own es) } : AState).putO n (.cells (putL off [.dat (.slice es)] cs))).put oi.dst a := by
                    rw [← putO_put]
                    congr 1
                    cases hdd : oi.dst with
                    | none => rfl
                    | some d =>
                      have hne : d ≠ t' := fun e => q2 (by rw [hdd, e])
                      simp only [AState.put]
                      rw [List.set_comm _ _ hne]
                  rw [e0] at hrest
                  obtain ⟨s3, hs3⟩ := ih _ _ (fun k hk => hh k (by simp [hk])) hrest
                  refine ⟨s3, ?_⟩
                  simp only [showTk, ho', hop, hd, hg, hu, if_pos hok, hob, hes, ht']
                  exact hs3
              cases hsh2 : showTk (quietHeap H ops.toList h.pre) ops.toList (tkFor ops.toList t (tkNil h.tk t s)) (s.put oi.dst a) with
              | none => simp [hsh2] at hs
              | some s1 =>
                obtain ⟨s2, hs2⟩ := this _ _ _ hspec hsh2
                rw [hsh] at hs2
                simp at hs2
            | some s1 =>
              have hput := showTk_put (v := a) (dst := oi.dst) _ _ _ (fun k hk o' ho' _ => by rw [((hspec k hk o' ho').1).1]; exact ((hspec k hk o' ho').1).2.1) (fun k hk o' T u ho' hop => (hspec k hk o' ho').2 T u hop) hsh
              simp only [hput] at hs
              obtain ⟨q1, q3, q4⟩ := showTk_sim _ _ _ hsh
              cases hst : astep E G false false oj s1 with
              | none =>
                exfalso
                cases hst2 : astep E G false false oj (s1.put oi.dst a) with
                | none => simp [hst2] at hs
                | some s2 =>
                  -- the same operands
                  unfold astep at hst hst2
                  rw [evalArgs_put' _ _ _ _ hops_not] at hst2
                  have hlk : ∀ s' : AState, looks oj.op (evalArgs G s1 (mvQ false oj.op) 0 (opsL oj.op)) = none → lookedAt s' oj.op (evalArgs G s1 (mvQ false oj.op) 0 (opsL oj.op)) = none := fun s' hl => by unfold lookedAt; rw [hl]
                  cases hao : aop E false oj.op (evalArgs G s1 (mvQ false oj.op) 0 (opsL oj.op)) (lookedAt (s1.put oi.dst a) oj.op (evalArgs G s1 (mvQ false oj.op) 0 (opsL oj.op))) with
                  | none => simp [hao] at hst2
                  | some out =>
                    obtain ⟨hk, hl⟩ := append_keep ht hao
                    rw [hlk _ hl] at hao hst
                    rw [hao] at hst
                    simp [astepOut, hk] at hst
              | some s2 =>
                obtain ⟨v, he, hback⟩ := astep_append ht hst
                have hb2 := hback oi.dst a hops_not h2
                simp only [hb2] at hs
                dsimp only
                rw [hst]
                refine ⟨?_, hs⟩
                rw [← hy]
                subst he
                refine stepQ_sim ?_ ?_
                · refine SimT.trans (s' := { s1 with tmps := s1.tmps.set t (unOwn (getT s1.tmps t)) }) ?_ (hdj _ v)
                  intro t' ht'
                  have e1 := dropOwn_simA (s := s1) (x := .tmp t) t'
                  simp only [dropOwn, List.getElem?_cons_zero] at e1
                  rw [e1, q4 t' (fun k hk o' ho' e => by
                    obtain ⟨⟨g1, _, g3⟩, _⟩ := hspec k hk o' ho'
                    rw [g1] at e
                    simp at e
                    subst e
                    exact g3 (by simpa using ht'))]
                · exact q1.trans (.of_eq (by rw [(put_locs _ oj.dst v).1]) (fun _ => by rw [(put_locs _ oj.dst v).2.1]))
          · rename_i ht
            simp [ht] at hs
      · rename_i hb
        simp only [hb] at hs
        refine ⟨?_, ?_⟩
        · rw [← hy]
          exact stepQ_sim (hdj _ _) (hlj _ _ _)
        · have := hs
          simp only [Bool.false_eq_true, if_false] at this
          rw [put_comm h2] at this
          exact this
  · rename_i hl
    rw [if_neg hl] at hs
    obtain ⟨b, hb1, hb2⟩ := hs
    rw [stepQ_sim hsimj (hlj _ _ _)] at hb1
    refine ⟨b, hb1, ?_, ?_⟩
    · rw [← hy]
      exact stepQ_sim (hdj _ _) (hlj _ _ _)
    · rw [put_comm h2] at hb2
      exact hb2
/-! ### All orders -/
variable (P E G H) in
def aanyP (ops : Array Oper) (h : RHint) (p : Array Bool) (T : AState → Prop) : Nat → Array Bool → AState → Prop
  | 0, listed, s => listed = p ∧ T s
  | fuel + 1, listed, s =>
    (listed = p ∧ T s) ∨ (listed ≠ p ∧ Region.ready .any ops listed ≠ [] ∧ ∀ i ∈ Region.ready .any ops listed, opC P E G H ops h i (aanyP ops h p T fuel (setL listed i)) s) ∨
    (∃ i oi a, setL listed i = p ∧ lateOk ops h p i = true ∧ ops[i]? = some oi ∧ (i, false) ∈ h.pre ∧ i ∈ Region.ready .any ops listed ∧ stepQ E G (quietHeap H ops.toList h.pre || quietAt H ops.toList h.pre i) ops.toList oi s = some a ∧ T (s.put oi.dst a))

theorem unlisted_of_ready {ops : Array Oper} {listed : Array Bool} {i : Nat} (h : i ∈ Region.ready .any ops listed) (hsz : listed.size = ops.size) : listed[i]? = some false := by
  obtain ⟨h0, o, ho, _⟩ := mem_ready.1 h
  have hlt : i < ops.size := (Array.getElem?_eq_some_iff.1 ho).1
  have hl : i < listed.size := by omega
  simp [hl] at h0
  simp [hl, h0]

theorem set_back {listed p : Array Bool} {i : Nat} (h : listed[i]? = some false) (e : setL listed i = p) : p.setIfInBounds i false = listed := by
  subst e
  have hl : i < listed.size := (Array.getElem?_eq_some_iff.1 h).1
  apply Array.ext_getElem?
  intro k
  unfold setL
  by_cases hk : i = k
  · subst hk
    rw [h]
    simp [hl]
  · rw [Array.getElem?_setIfInBounds_ne hk, Array.getElem?_setIfInBounds_ne hk]

/-- What has come up has waited for all that it waits for. -/
def Closed (ops : Array Oper) (listed : Array Bool) : Prop := ∀ (d : Nat) (o : Oper), listed[d]? = some true → ops[d]? = some o → ∀ e ∈ o.after, Region.binds .any e = true → listed.getD e.on false = true

theorem Closed.step {ops : Array Oper} {listed : Array Bool} (h : Closed ops listed) {j : Nat} (hj : j ∈ Region.ready .any ops listed) : Closed ops (setL listed j) := by
  intro d o hd ho e he hb
  by_cases hdj : d = j
  · subst hdj
    obtain ⟨_, o', ho', hafter⟩ := mem_ready.1 hj
    rw [ho] at ho'
    simp at ho'
    subst ho'
    exact getD_set_true (hafter e he hb)
  · unfold setL at hd
    rw [Array.getElem?_setIfInBounds_ne (Ne.symm hdj)] at hd
    exact getD_set_true (h d o hd ho e he hb)

theorem waited_no {ops : Array Oper} {listed : Array Bool} {i : Nat} (hcl : Closed ops listed) (hun : listed[i]? = some false) (hl : waited ops (setL listed i) i = true) : False := by
  unfold waited at hl
  obtain ⟨d, hd, hd2⟩ := List.any_eq_true.1 hl
  simp only [Bool.and_eq_true] at hd2
  obtain ⟨⟨h1, h2⟩, h3⟩ := hd2
  have hdi : d ≠ i := by simpa using h1
  split at h3
  · rename_i o ho
    obtain ⟨ed, he1, he2⟩ := Array.any_eq_true'.1 h3
    simp only [Bool.and_eq_true, beq_iff_eq] at he2
    have hld : listed[d]? = some true := by
      unfold setL at h2
      rw [getD_set_ne false (Ne.symm hdi), Array.getD_eq_getD_getElem?] at h2
      cases hg : listed[d]? with
      | none => rw [hg] at h2; simp at h2
      | some b => rw [hg] at h2; simp at h2; rw [h2]
    have := hcl d o hld ho ed he1 he2.1
    rw [he2.2, Array.getD_eq_getD_getElem?, hun] at this
    simp at this
  · simp at h3

theorem last_alone {ops : Array Oper} {listed p : Array Bool} {i : Nat} (hcl : Closed ops listed) (hun : listed[i]? = some false) (e : setL listed i = p) (hl : (waited ops p i || Region.ready .any ops (p.setIfInBounds i false) == [i]) = true) : Region.ready .any ops listed = [i] := by
  have hback := set_back hun e
  rw [Bool.or_eq_true] at hl
  rcases hl with hl | hl
  · exfalso
    unfold waited at hl
    obtain ⟨d, hd, hd2⟩ := List.any_eq_true.1 hl
    simp only [Bool.and_eq_true] at hd2
    obtain ⟨⟨h1, h2⟩, h3⟩ := hd2
    have hdi : d ≠ i := by simpa using h1
    split at h3
    · rename_i o ho
      obtain ⟨ed, he1, he2⟩ := Array.any_eq_true'.1 h3
      simp only [Bool.and_eq_true, beq_iff_eq] at he2
      have hld : listed[d]? = some true := by
        rw [← e] at h2
        unfold setL at h2
        rw [getD_set_ne false (Ne.symm hdi), Array.getD_eq_getD_getElem?] at h2
        cases hg : listed[d]? with
        | none => rw [hg] at h2; simp at h2
        | some b => rw [hg] at h2; simp at h2; rw [h2]
      have := hcl d o hld ho ed he1 he2.1
      rw [he2.2, Array.getD_eq_getD_getElem?, hun] at this
      simp at this
    · simp at h3
  · rw [← hback]; simpa using hl

theorem reach_listed {ops : Array Oper} {listed : Array Bool} (hcl : Closed ops listed) : ∀ (f i j : Nat), listed.getD i false = true → reach ops.toList f i j = true → listed.getD j false = true
  | 0, _, _, _, h => by simp [reach] at h
  | f + 1, i, j, hi, h => by
    simp only [reach] at h
    split at h
    · rename_i o ho
      obtain ⟨e, he, h2⟩ := List.any_eq_true.1 h
      simp only [Bool.and_eq_true, Bool.or_eq_true, Nat.beq_eq] at h2
      have hi' : listed[i]? = some true := by
        rw [Array.getD_eq_getD_getElem?] at hi
        cases hg : listed[i]? with
        | none => rw [hg] at hi; simp at hi
        | some b => rw [hg] at hi; simp at hi; rw [hi]
      have h3 := hcl i o hi' (by simpa using ho) e (by simpa using he) h2.1
      rcases h2.2 with h4 | h4
      · rw [← h4]; exact h3
      · exact reach_listed hcl f e.on j h3 h4
    · simp at h

theorem reach_ready {ops : Array Oper} {listed : Array Bool} (hcl : Closed ops listed) {f i j : Nat} (hr : i ∈ Region.ready .any ops listed) (h : reach ops.toList f i j = true) (hj : listed.getD j true = false) : False := by
  obtain ⟨_, o, ho, hafter⟩ := mem_ready.1 hr
  have key : listed.getD j false = true := by
    cases f with
    | zero => simp [reach] at h
    | succ f =>
      have ho' : ops.toList[i]? = some o := by simpa using ho
      simp only [reach, ho'] at h
      obtain ⟨e, he, h2⟩ := List.any_eq_true.1 h
      simp only [Bool.and_eq_true, Bool.or_eq_true, Nat.beq_eq] at h2
      have h3 := hafter e (by simpa using he) h2.1
      rcases h2.2 with h4 | h4
      · rw [← h4]; exact h3
      · exact reach_listed hcl f e.on j h3 h4
  rw [Array.getD_eq_getD_getElem?] at key hj
  cases hg : listed[j]? with
  | none => rw [hg] at key; simp at key
  | some b => rw [hg] at key hj; simp at key hj; rw [key] at hj; simp at hj

theorem aanyP_first {ops : Array Oper} {h : RHint} (hcs : chkSlots ops h = true) (hca : chkApp ops h = true) {p : Array Bool} {T : AState → Prop} {i : Nat} {oi : Oper} {a : AVal} (hi : ops[i]? = some oi) (hm : (i, false) ∈ h.pre)
    (hlast : (waited ops p i || Region.ready .any ops (p.setIfInBounds i false) == [i]) = true ∨ lateOk ops h p i = true) (hp : p[i]? = some true) :
    ∀ (fuel : Nat) (listed : Array Bool) (s : AState), listed.size = ops.size → Closed ops listed →
      (∀ j oj, ops[j]? = some oj → j ≠ i → listed.getD j true = false → (∀ e ∈ oj.after, Region.binds .any e = true → e.on ≠ i) → oi.apart ops oj = true) →
      i ∈ Region.ready .any ops listed → stepQ E G (quietHeap H ops.toList h.pre || quietAt H ops.toList h.pre i) ops.toList oi s = some a →
      aanyP P E G H ops h p T fuel (setL listed i) (s.put oi.dst a) → aanyP P E G H ops h p T (fuel + 1) listed s := by
  intro fuel
  induction fuel with
  | zero =>
    intro listed s hsz hcl hfree hr hy hH
    have hun := unlisted_of_ready hr hsz
    have hne : listed ≠ p := fun e => by rw [e, hp] at hun; simp at hun
    rcases hlast with hlast | hlast
    rotate_left
    · exact .inr (.inr ⟨i, oi, a, hH.1, hlast, hi, hm, hr, hy, hH.2⟩)
    have hal := last_alone hcl hun hH.1 hlast
    refine .inr (.inl ⟨hne, fun h => (by rw [h] at hr; cases hr), fun j hj => ?_⟩)
    have hj' := hj
    rw [hal] at hj'
    simp at hj'
    subst hj'
    exact ⟨false, oi, hm, hi, by simp only [Bool.false_eq_true, if_false]; exact ⟨a, hy, hH⟩⟩
  | succ fuel ih =>
    intro listed s hsz hcl hfree hr hy hH
    have hun := unlisted_of_ready hr hsz
    have hne : listed ≠ p := fun e => by rw [e, hp] at hun; simp at hun
    by_cases hlate : setL listed i = p ∧ lateOk ops h p i = true ∧ ¬ (waited ops p i || Region.ready .any ops (p.setIfInBounds i false) == [i]) = true
    · have hT : T (s.put oi.dst a) := by
        rcases hH with ⟨_, hT⟩ | ⟨hne2, _⟩ | ⟨i', oi', a', e', _, hoi', _, hr', _, _⟩
        · exact hT
        · exact absurd hlate.1 hne2
        · exfalso
          have hun' := unlisted_of_ready hr' (by simpa [setL] using hsz)
          rw [hlate.1] at hun' e'
          have : (setL p i')[i']? = some true := by
            have hl : i' < p.size := (Array.getElem?_eq_some_iff.1 hun').1
            simp [setL, hl]
          rw [e', hun'] at this
          simp at this
      exact .inr (.inr ⟨i, oi, a, hlate.1, hlate.2.1, hi, hm, hr, hy, hT⟩)
    refine .inr (.inl ⟨hne, fun h => (by rw [h] at hr; cases hr), fun j hj => ?_⟩)
    by_cases hji : j = i
    · subst hji
      exact ⟨false, oi, hm, hi, by simp only [Bool.false_eq_true, if_false]; exact ⟨a, hy, hH⟩⟩
    · have h1 : opC P E G H ops h j (aanyP P E G H ops h p T fuel (setL (setL listed i) j)) (s.put oi.dst a) := by
        rcases hH with ⟨e, hT⟩ | ⟨hne2, _, hall⟩ | ⟨i', oi', a', e', hlk, hoi', hm', hr', hy', hT'⟩
        · exfalso
          have hlast' : (waited ops p i || Region.ready .any ops (p.setIfInBounds i false) == [i]) = true := by
            rcases hlast with h' | h'
            · exact h'
            · exact Classical.byContradiction fun hno => hlate ⟨e, h', hno⟩
          have hal := last_alone hcl hun e hlast'
          have hj' := hj
          rw [hal] at hj'
          simp at hj'
          exact absurd hj' hji
        · exact hall j (ready_mono hj hji)
        · have hun' := unlisted_of_ready hr' (by simpa [setL] using hsz)
          have hii : i ≠ i' := by
            rintro rfl
            have hl : i < listed.size := (Array.getElem?_eq_some_iff.1 hun).1
            simp [setL, hl] at hun'
          have hb1 := set_back hun' e'
          have hb2 := set_back hun (rfl : setL listed i = setL listed i)
          have hjr : j ∈ Region.ready .any ops (setL listed i) := ready_mono hj hji
          have hji' : j = i' := by
            refine Classical.byContradiction fun hjn => ?_
            unfold lateOk at hlk
            split at hlk
            · simp at hlk
            · rename_i j0 r0 htl
              simp only [Bool.and_eq_true, Bool.or_eq_true, beq_iff_eq] at hlk
              obtain ⟨⟨⟨⟨⟨⟨⟨h1, _⟩, _⟩, _⟩, h5⟩, _⟩, _⟩, _⟩ := hlk
              rw [hb1] at h1
              have hj0 : j = j0 := by
                rcases h1 with h1 | h1 <;> rw [h1] at hjr <;> simp at hjr <;> rcases hjr with h' | h' <;> first | exact h' | exact absurd h' hjn
              subst hj0
              have h6 := List.all_eq_true.1 h5 (i, false) hm
              rw [hb1, hb2] at h6
              simp only [Bool.or_eq_true, beq_iff_eq, hii, false_or] at h6
              rcases h6 with h6 | h6
              · exact waited_no hcl hun h6
              · simp at h6
                exact h6 hj
          subst hji'
          have hP : aanyP P E G H ops h p T fuel (setL (setL listed i) j) ((s.put oi.dst a).put oi'.dst a') := by
            rw [e']
            cases fuel with
            | zero => exact ⟨rfl, hT'⟩
            | succ fuel => exact .inl ⟨rfl, hT'⟩
          exact ⟨false, oi', hm', hoi', by simp only [Bool.false_eq_true, if_false]; exact ⟨a', hy', hP⟩⟩
      · obtain ⟨hjun, oj, hoj, hafter⟩ := mem_ready.1 hj
        have hnot : ∀ e ∈ oj.after, Region.binds .any e = true → e.on ≠ i := fun e he hb heq => by
          have h1 := hafter e he hb
          rw [heq] at h1
          rw [Array.getD_eq_getD_getElem?, hun] at h1
          simp at h1
        have hntk : ∀ t k o', appSlot oj.op = some t → k ∈ tkFor ops.toList t h.tk → ops.toList[k]? = some o' → ∀ e ∈ o'.after, Region.binds .any e = true → e.on ≠ i := by
          intro t k o' ht hk ho' e he hb heq
          obtain ⟨lone, _, hmj, _, _⟩ := h1
          have hca' := hca
          unfold chkApp at hca'
          have g1 := List.all_eq_true.1 hca' (j, lone) hmj
          simp only [hoj, ht] at g1
          have g2 := List.all_eq_true.1 g1 k hk
          obtain ⟨e2, he1, he2⟩ := Array.any_eq_true'.1 g2
          simp only [Bool.and_eq_true, beq_iff_eq] at he2
          have g3 := hafter e2 he1 he2.1
          rw [he2.2, Array.getD_eq_getD_getElem?] at g3
          have hlk : listed[k]? = some true := by
            cases hg : listed[k]? with
            | none => rw [hg] at g3; simp at g3
            | some b => rw [hg] at g3; simp at g3; rw [g3]
          have := hcl k o' hlk (by simpa using ho') e he hb
          rw [heq, Array.getD_eq_getD_getElem?, hun] at this
          simp at this
        have hF : ∀ c, isCall oj.op = some c → isPure H oj = false → isRead H oj = false → (j, true) ∈ h.pre → (quietHeap H ops.toList h.pre || quietAt H ops.toList h.pre i) = false := by
          intro c hcc hpu hrd hmj
          rw [Bool.eq_false_iff]
          intro ht
          rw [quietHeap_false (all := ops.toList) hmj (by simpa using hoj) hcc hpu, Bool.false_or] at ht
          unfold quietAt at ht
          have g := List.all_eq_true.1 ht (j, true) hmj
          have hoj' : ops.toList[j]? = some oj := by simpa using hoj
          simp only [hoj', hcc, hpu, hrd, Bool.not_true, Bool.false_or, Option.isNone_some, Bool.or_eq_true] at g
          rcases g with g | g
          · exact reach_ready hcl hr g hjun
          · refine reach_ready hcl hj g ?_
            rw [Array.getD_eq_getD_getElem?, hun]; rfl
        have h2 := opC_put hcs hi hm hoj (hfree j oj hoj hji hjun hnot) hntk hF hy h1
        have hfree' : ∀ k ok, ops[k]? = some ok → k ≠ i → (setL listed j).getD k true = false → (∀ e ∈ ok.after, Region.binds .any e = true → e.on ≠ i) → oi.apart ops ok = true := fun k ok hk hki hun' hno => by
          refine hfree k ok hk hki ?_ hno
          by_cases hjk : j = k
          · subst hjk; exact hjun
          · unfold setL at hun'; rw [getD_set_ne true hjk] at hun'; exact hun'
        refine opC_mono (fun s' h3 => ih (setL listed j) s' (by simpa [setL] using hsz) (hcl.step hj) hfree' (ready_mono hr (Ne.symm hji)) h3.1 ?_) h2
        have e : setL (setL listed j) i = setL (setL listed i) j := by unfold setL; rw [Array.setIfInBounds_comm _ _ hji]
        rw [e]
        exact h3.2

theorem preAll_size : ∀ (r : List (Nat × Bool)) (l : Array Bool), (preAll r l).size = l.size
  | [], _ => rfl
  | (i, _) :: r, l => by simp [preAll, preAll_size r, setL]

theorem preAll_true : ∀ (r : List (Nat × Bool)) (l : Array Bool) (i : Nat), l[i]? = some true → (preAll r l)[i]? = some true
  | [], _, _, h => h
  | (j, _) :: r, l, i, h => by
    apply preAll_true r
    unfold setL
    by_cases hj : j = i
    · subst hj
      have hl : j < l.size := (Array.getElem?_eq_some_iff.1 h).1
      simp [hl]
    · rw [Array.getElem?_setIfInBounds_ne hj]; exact h

/-- The chosen order stands for all. -/
theorem aanyP_of_order {ops : Array Oper} {h : RHint} (hcs : chkSlots ops h = true) (hca : chkApp ops h = true) {T : AState → Prop} {p : Array Bool} (hlast : chkLast ops h p h.pre = true) :
    ∀ (r : List (Nat × Bool)) (listed : Array Bool) (s : AState) (fuel : Nat), (∀ x ∈ r, x ∈ h.pre) → listed.size = ops.size → Closed ops listed → p = preAll r listed → chkPre ops r listed = true → r.length ≤ fuel →
      aordP (ACalls P G) E G H h.tk (quietHeap H ops.toList h.pre) (quietAt H ops.toList h.pre) ops.toList T r s → aanyP P E G H ops h p T fuel listed s
  | [], listed, s, fuel, _, _, _, hp, _, _, h => by
    cases fuel with
    | zero => exact ⟨hp.symm, h⟩
    | succ fuel => exact .inl ⟨hp.symm, h⟩
  | (i, lone) :: r, listed, s, 0, _, _, _, _, _, hf, _ => by simp at hf
  | (i, lone) :: r, listed, s, fuel + 1, hsub, hsz, hcl, hp, hc, hf, hh => by
    have hm := hsub (i, lone) (by simp)
    simp only [chkPre, Bool.and_eq_true] at hc
    obtain ⟨hc1, hc2⟩ := hc
    have hrd0 : i ∈ Region.ready .any ops listed := by
      cases lone with
      | true => simp at hc1; rw [hc1]; simp
      | false => simp at hc1; exact hc1.1
    simp only [aordP, askK_eq] at hh
    have hsz' : (setL listed i).size = ops.size := by simpa [setL] using hsz
    have hp' : p = preAll r (setL listed i) := hp
    have hrec : ∀ s', aordP (ACalls P G) E G H h.tk (quietHeap H ops.toList h.pre) (quietAt H ops.toList h.pre) ops.toList T r s' → aanyP P E G H ops h p T fuel (setL listed i) s' := fun s' h' =>
      aanyP_of_order hcs hca hlast r (setL listed i) s' fuel (fun x hx => hsub x (by simp [hx])) hsz' (hcl.step hrd0) hp' hc2 (by simp at hf; omega) h'
    split at hh
    · exact hh.elim
    · rename_i o ho
      have ho' : ops[i]? = some o := by simpa using ho
      have hlt : i < listed.size := by rw [hsz]; exact (Array.getElem?_eq_some_iff.1 ho').1
      have hpi : p[i]? = some true := by
        rw [hp']
        apply preAll_true
        simp [setL, hlt]
      cases lone with
      | true =>
        simp only [if_true] at hh hc1
        have hrd : Region.ready .any ops listed = [i] := by simpa using hc1
        have hun := unlisted_of_ready (i := i) (by rw [hrd]; simp) hsz
        refine .inr (.inl ⟨fun e => by rw [e, hpi] at hun; simp at hun, by rw [hrd]; simp, fun j hj => ?_⟩)
        rw [hrd] at hj
        simp at hj
        subst hj
        exact ⟨true, o, hm, ho', by simp only [if_true]; exact opL_mono hrec hh⟩
      | false =>
        simp only [Bool.false_eq_true, if_false, Bool.and_eq_true] at hh hc1
        split at hh
        · rename_i a ha
          refine aanyP_first hcs hca ho' hm ?_ hpi fuel listed s hsz hcl (Region.free_spec ho' hc1.2) (by simpa using hc1.1) ha (hrec _ hh)
          have : ∀ (q : List (Nat × Bool)), (i, false) ∈ q → chkLast ops h p q = true → (waited ops p i || Region.ready .any ops (p.setIfInBounds i false) == [i]) = true ∨ lateOk ops h p i = true := by
            intro q
            induction q with
            | nil => intro hq; simp at hq
            | cons x q ih =>
              intro hq hcl
              obtain ⟨k, l⟩ := x
              simp only [chkLast, Bool.and_eq_true, Bool.or_eq_true] at hcl
              rcases List.mem_cons.1 hq with e | hq
              · simp at e
                obtain ⟨rfl, rfl⟩ := e
                rcases hcl.1 with (hl | hl) | hl
                · simp at hl
                · exact .inl (by rw [Bool.or_eq_true]; exact hl)
                · exact .inr hl
              · exact ih hq hcl.2
          exact this h.pre hm hlast
        · exact hh.elim
end
end Go.Tp
