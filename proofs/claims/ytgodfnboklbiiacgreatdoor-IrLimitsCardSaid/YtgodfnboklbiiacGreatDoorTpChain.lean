/- The generic layer: a region run operation by operation, where a value is not a closed term. -/
import Derived.Test.YtgodfnboklbiiacGreatDoorTpLast
namespace Go.Tp

section
variable {X : XCalls} {E : TEnv} {G : Globs} {H : Hints} {n : Nat}

/-- An operation that changes nothing but a slot. -/
theorem fone_keep {all : List Oper} {o : Oper} {f f1 : FState} {vals : List AVal} {ob : Option AObj} {v : AVal} (hw : fwanted n all f o.guard = some true) (hc : isCall o.op = none)
    (ha : fargs G n f (mvQ (readOnly H.moves all o) o.op) 0 (opsL o.op) = vals) (hl : flooked f o.op vals = ob) (hd : fdrop n f (mvQ (readOnly H.moves all o) o.op) (opsL o.op) = f1) (hop : aop E (takeR H all o) o.op vals ob = some ⟨v, .keep⟩) :
    fone X E G H n all o f = some (fput f1 o.dst v) := by
  unfold fone
  rw [hw]
  dsimp only
  rw [hc]
  dsimp only
  unfold fstep fstep1
  rw [ha, hl, hop, hd]
  rfl

/-- An operation that sets the object that it looks at. -/
theorem fone_set {all : List Oper} {o : Oper} {f f1 f2 : FState} {vals : List AVal} {k : Name} {ob : Option AObj} {v : AVal} {o' : AObj} (hw : fwanted n all f o.guard = some true) (hc : isCall o.op = none)
    (ha : fargs G n f (mvQ (readOnly H.moves all o) o.op) 0 (opsL o.op) = vals) (hk : looks o.op vals = some k) (hl : flooked f o.op vals = ob) (hd : fdrop n f (mvQ (readOnly H.moves all o) o.op) (opsL o.op) = f1) (hop : aop E (takeR H all o) o.op vals ob = some ⟨v, .set o'⟩)
    (hs : fsetObj f1 k o' = some f2) : fone X E G H n all o f = some (fput f2 o.dst v) := by
  unfold fone
  rw [hw]
  dsimp only
  rw [hc]
  dsimp only
  unfold fstep fstep1
  rw [ha, hl, hop, hd, hk]
  show (match fsetObj f1 k o' with | some f => some (fput f o.dst v) | none => none) = _
  rw [hs]

theorem fops_cons {all : List Oper} {o : Oper} {r : List Oper} {f f1 : FState} (h : fone X E G H n all o f = some f1) : fops X E G H n all (o :: r) f = fops X E G H n all r f1 := by
  have e : fops X E G H n all (o :: r) f = (match fone X E G H n all o f with | some f' => fops X E G H n all r f' | none => none) := rfl
  rw [e, h]

theorem fregion_ops {live : Nat → Nat} {fuel : Nat} {id : Nat} {ops : Array Oper} {f f1 : FState} (h : fops X E G (H.at id) n ops.toList ops.toList f = some f1) :
    fcode X E G H n live fuel (.region id ops false) f = some (.normal, fprune f1 (fun l => pruneS l (live id))) := by
  rw [fcode_region]
  dsimp only
  rw [h]

/-- An operation that goes ahead. -/
theorem fstepQ_val {fh : Bool} {all : List Oper} {o : Oper} {f : FState} {vals : List AVal} {ob : Option AObj} {v : AVal} (hw : fwanted n all f o.guard = some true) (hal : isAlloc o.op = false) (hc : isCall o.op = none) (hq : quietKind o.op = true)
    (ha : fargs G n f none 0 (opsL o.op) = vals) (hp : lookPure fh (looks o.op vals) = true) (hl : flooked f o.op vals = ob) (hop : aop E false o.op vals ob = some ⟨v, .keep⟩) : fstepQ E G n fh all o f = some v := by
  unfold fstepQ
  rw [hw]
  dsimp only
  rw [if_pos rfl, hal, hc, ha, hl, hop]
  simp [hq, hp]

theorem ford_quiet {tk : List Nat} {fh : Bool} {fq : Nat → Bool} {all : List Oper} {i : Nat} {r : List (Nat × Bool)} {o : Oper} {f : FState} {a : AVal} (ho : all[i]? = some o) (h : fstepQ E G n (fh || fq i) all o f = some a) :
    ford X E G H n tk fh fq all ((i, false) :: r) f = ford X E G H n tk fh fq all r (fput f o.dst a) := by
  have e : ford X E G H n tk fh fq all ((i, false) :: r) f = (match all[i]? with
    | none => none
    | some o => (match fstepQ E G n (fh || fq i) all o f with
        | some a => ford X E G H n tk fh fq all r (fput f o.dst a)
        | none => none)) := rfl
  rw [e, ho]
  dsimp only
  rw [h]

theorem fdraw_of {all : List Oper} {h : RHint} {f f1 f2 : FState} (h1 : ford X E G H n h.tk (quietHeap H all h.pre) (quietAt H all h.pre) all h.pre f = some f1) (h2 : fshowMk E n all h.nw f1 = some f2) :
    fdraw X E G H n all h f = fops X E G H n all (pickOps all h.tail) f2 := by
  unfold fdraw
  rw [h1]
  dsimp only
  rw [h2]

theorem fregion_draw {live : Nat → Nat} {fuel : Nat} {id : Nat} {ops : Array Oper} {f f1 : FState} (h : fdraw X E G H n ops.toList (H.ord id) f = some f1) :
    fcode X E G H n live fuel (.region id ops true) f = some (.normal, fprune f1 (fun l => pruneS l (live id))) := by
  rw [fcode_region]
  dsimp only
  rw [h]

theorem idx_dat {t : TypeId} {ti : TI} {es : List Dat} {i : Int} {d : Dat} (he : elemOf E t = some ti) (hel : E.pr.elt es i = some d) (hs : d.cells.length = ti.size) (h0 : 0 < ti.size) :
    aIndexAddr E t (nzL [.dat (.slice es), .dat (.flat (.int .i64 i))]) = some ⟨.ref d.cells, .keep⟩ := by
  simp only [nzL, nz, aIndexAddr, he, hel]
  rw [if_pos ⟨hs, h0⟩]

theorem fops_append {all : List Oper} {b : List Oper} : ∀ {a : List Oper} {f f1 : FState}, fops X E G H n all a f = some f1 → fops X E G H n all (a ++ b) f = fops X E G H n all b f1
  | [], f, f1, h => by
    have e : fops X E G H n all [] f = some f := rfl
    rw [e] at h; simp at h; subst h; rfl
  | o :: r, f, f1, h => by
    have e : fops X E G H n all (o :: r) f = (match fone X E G H n all o f with | some f' => fops X E G H n all r f' | none => none) := rfl
    rw [e] at h
    split at h
    · rename_i f' hf
      rw [List.cons_append, fops_cons hf]
      exact fops_append h
    · simp at h

theorem ford_append {tk : List Nat} {fh : Bool} {fq : Nat → Bool} {all : List Oper} {b : List (Nat × Bool)} : ∀ {a : List (Nat × Bool)} {f f1 : FState}, ford X E G H n tk fh fq all a f = some f1 → ford X E G H n tk fh fq all (a ++ b) f = ford X E G H n tk fh fq all b f1
  | [], f, f1, h => by
    have e : ford X E G H n tk fh fq all [] f = some f := rfl
    rw [e] at h; simp at h; subst h; rfl
  | (i, lone) :: r, f, f1, h => by
    rw [ford_cons] at h
    rw [List.cons_append, ford_cons]
    cases ho : all[i]? with
    | none => rw [ho] at h; simp at h
    | some o =>
      rw [ho] at h
      cases lone with
      | true =>
        dsimp only at h ⊢
        cases hf : fopL X E G H n fh tk all o f with
        | none => rw [hf] at h; simp at h
        | some f' => rw [hf] at h; exact ford_append h
      | false =>
        dsimp only at h ⊢
        cases hf : fstepQ E G n (fh || fq i) all o f with
        | none => rw [hf] at h; simp at h
        | some a => rw [hf] at h; exact ford_append h

/-- An element of a row. -/
theorem idx_win {t : TypeId} {ti : TI} {m : Name} {s off len k : Nat} (he : elemOf E t = some ti) (hs : s = ti.size) (hk : k < len) :
    aIndexAddr E t [.win m s off len, .dat (.flat (.int .i64 (Int.ofNat k)))] = some ⟨.ptr m (off + k * s), .keep⟩ := by
  have h1 : Nat.blt k len = true := by rw [Nat.blt_eq]; exact hk
  have h2 : Nat.beq s ti.size = true := by rw [Nat.beq_eq]; exact hs
  simp only [aIndexAddr, he, h1, h2]
  simp

theorem load_flat {t : TypeId} {i : TI} {m : Name} {off : Nat} {cs : List AVal} {v : Value} {take : Bool} (ht : E.ty t = some i) (ha : i.isAgg = false) (h : cs[off]? = some (.dat (.flat v))) :
    aLoad E take t [.ptr m off] (some (.cells cs)) = some ⟨.dat (.flat v), .keep⟩ := by
  cases take <;> simp [aLoad, ht, loadCells, ha, h, ofA]

theorem store_flat {t : TypeId} {i : TI} {m : Name} {off : Nat} {cs : List AVal} {v : Value} (ht : E.ty t = some i) (hs : i.size = 1) (h : off < cs.length) (hb : bldSh (putL off [.dat (.flat v)] cs) = false) :
    aStore E t [.ptr m off, .dat (.flat v)] (some (.cells cs)) = some ⟨.undef, .set (.cells (putL off [.dat (.flat v)] cs))⟩ := by
  simp only [aStore, ht]
  rw [if_pos]
  · rfl
  · refine ⟨by rw [hs]; rfl, by rw [hs]; exact h, rfl, by rw [hs]; decide, ?_⟩
    show (!bldSh (putL off [.dat (.flat v)] cs) || bldSh cs) = true
    rw [hb]; rfl

/-! ### Rounds of a loop -/
theorem floop_rounds {body : FState → Option (Exit × FState)} {S : Nat → FState} {m fuel : Nat} (hb : ∀ i, i < m → body (S i) = some (.normal, S (i + 1))) (hm : m ≤ fuel) :
    ∀ i, i ≤ m → floop body (fuel - i) (S i) = floop body (fuel - m) (S m) := by
  intro i hi
  obtain ⟨d, rfl⟩ : ∃ d, m = i + d := ⟨m - i, by omega⟩
  clear hi
  induction d generalizing i with
  | zero => rfl
  | succ d ih =>
    have hs := hb i (by omega)
    obtain ⟨k, hk⟩ : ∃ k, fuel - i = k + 1 := ⟨fuel - i - 1, by omega⟩
    rw [hk, floop_step hs]
    have := ih (i + 1) (by rw [show i + 1 + d = i + (d + 1) by omega]; exact hb) (by omega)
    rw [show fuel - (i + 1) = k by omega, show i + 1 + d = i + (d + 1) by omega] at this
    exact this

/-- What the quick run reads of a slice. -/
theorem fast_elt {es : List Dat} {i : Nat} {d : Dat} (h : es[i]? = some d) : Prims.fast.elt es (Int.ofNat i) = some d := by
  show getF es i = some d
  rw [getF_eq]; exact h
end
end Go.Tp
