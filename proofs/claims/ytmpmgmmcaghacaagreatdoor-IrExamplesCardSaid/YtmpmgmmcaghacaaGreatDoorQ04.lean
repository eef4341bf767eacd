/- Part 4 of what the last text proves. -/
import Derived.Deep.Slices
import Derived.ChangeSame
import Derived.LaidLaws
import Derived.RowKit
import Derived.KernelRfl
import Derived.Test.YtmpmgmmcaghacaaGreatDoorQ03
set_option linter.unusedVariables false
set_option linter.unusedSimpArgs false
set_option maxRecDepth 100000
set_option maxHeartbeats 4000000
namespace Go.Tp
/-- A run, up to where it asks. -/
inductive Qy (α : Type) : Type where
 |fin (a : α)
 |fail
 /-- which truth value is this? -/
 |bool (t : Nat) (b : Bool) (k : Bool -> Qy α)
 /-- what does this operation give? -/
 |out (t : Nat) (o : Option Out) (k : Out -> Qy α)
 /-- what does this call give? -/
 |res (g : FuncId) (args : List AVal) (heap : Heap) (next : Nat) (k : XRes -> Qy α)
 /-- do the objects stay? -/
 |stay (h h' : Heap) (k : Qy α)
 /-- how does this loop end? -/
 |loop (n : Nat) (c : Code) (f : FState) (k : Exit × FState -> Qy α)
 /-- both orders -/
 |both (a b : Qy α)
section
variable (P : Program) (G : Globs) {α : Type} (T : α -> Prop)
def Qy.OkR : Qy α -> Prop
 | .fin a => T a
 | .fail => False
 | .bool _ b k => (k b).OkR
 | .out _ o k => ∃ x, o = some x /\ (k x).OkR
 | .res g args heap next k => ACalls P G g args heap next (fun v h m => bndV v -> bndO h -> (k ⟨v, h, m⟩).OkR)
 | .stay h h' k => Stays h h' /\ k.OkR
 | .loop n c f k => ACode P G (.loop c) (fun e s => ∃ f', s = f'.toA n /\ (k (e, f')).OkR) (f.toA n)
 | .both a b => a.OkR /\ b.OkR
end
/-! ### The run -/
/-- What an operation is asked by. -/
def opKey (o : Oper) : Nat :=
 match o.dst with
 | some t => t
 | none => (match o.op with
  | .store _ (.tmp u) _ => 100000 + u
  | .mapUpdate _ (.tmp u) _ _ => 100000 + u
  | .insert _ (.tmp u) _ _ => 100000 + u
  | .call c => (match c.args.toList with | .tmp u :: _ => 100000 + u | _ => 0)
  | _ => 0)
section
variable {α : Type} (A B : Nat -> Bool) (E : TEnv) (G : Globs) (H : Hints) (n : Nat)
noncomputable def qask (d : Option Tmp) (f : FState) (k : FState -> Qy α) : Qy α :=
 match d with
 | none => k f
 | some t => (match A t with
  | true => (match fget n f t with
   | .dat (.flat (.bool b)) => .bool t b (fun b => k (fput f (some t) (.dat (.flat (.bool b)))))
   | _ => k f)
  | false => k f)
/-- The object of a row that grows, or of a lasting object that is set. -/
def growObj (k : Option Name) (out : Out) : Option AObj :=
 match out with
 | ⟨_, eff⟩ => match eff with
  | .grow ob' _ _ => some ob'
  | .set ob' => (match k with
   | some (.out _) => some ob'
   | _ => none)
  | _ => none
/-- .. which names no variable of the frame. -/
noncomputable def fgrowT (o : Oper) (k : Option Name) (f : FState) (out : Out) : Option FState :=
 match out with
 | ⟨_, eff⟩ => match eff with
  | .grow ob' sz len => (match f with
   | ⟨sl, locs, heap, next⟩ => match k with
    | some (.loc j) => some (fput ⟨sl, adelF (.loc j) locs, (.out next, ob') :: heap, next + 1⟩ o.dst (.win (.out next) sz 0 len))
    | some (.out j) => some (fput ⟨sl, locs, (.out next, ob') :: adelF (.out j) heap, next + 1⟩ o.dst (.win (.out next) sz 0 len))
    | none => some (fput ⟨sl, locs, (.out next, ob') :: heap, next + 1⟩ o.dst (.win (.out next) sz 0 len)))
  | .set ob' => (match f with
   | ⟨sl, locs, heap, next⟩ => match k with
    | some (.out j) => (match out with | ⟨val, _⟩ => some (fput ⟨sl, locs, asetF (.out j) ob' heap, next⟩ o.dst val))
    | _ => none)
  | _ => none
theorem fgrowT_eq {o : Oper} {k : Option Name} {f f' : FState} {out : Out} {ob : AObj} (h1 : growObj k out = some ob) (h2 : noLocO ob = true) (h3 : fgrowT o k f out = some f') : fstepOut o k f out = some f' := by
 obtain ⟨val, eff⟩ := out
 obtain ⟨sl, locs, heap, next⟩ := f
 cases eff with
 | grow ob' sz len =>
  simp only [growObj, Option.some.injEq] at h1
  subst h1
  rcases k with _ | ⟨_ | _⟩ <;> simp only [fgrowT] at h3 <;> simp only [fstepOut, h2, if_true] <;> exact h3
 | set ob' =>
  rcases k with _ | ⟨_ | _⟩
  ·simp [growObj] at h1
  ·simp [growObj] at h1
  simp only [growObj, Option.some.injEq] at h1
  subst h1
  simp only [fgrowT] at h3
  simp only [fstepOut, fsetObj, h2, if_true]
  exact h3
 | _ => simp [growObj] at h1
noncomputable def qstep (q take : Bool) (o : Oper) (f : FState) (k : FState -> Qy α) : Qy α :=
 match B (opKey o) with
 | true => .out (opKey o) (aop E take o.op (fargs G n f (mvQ q o.op) 0 (opsL o.op)) (flooked f o.op (fargs G n f (mvQ q o.op) 0 (opsL o.op))))
   (fun out => match growObj (looks o.op (fargs G n f (mvQ q o.op) 0 (opsL o.op))) out with
    | some ob => .bool (opKey o + 500000) (noLocO ob) (fun b => match b with
     | true => (match fgrowT o (looks o.op (fargs G n f (mvQ q o.op) 0 (opsL o.op))) (fdrop n f (mvQ q o.op) (opsL o.op)) out with
      | some f' => qask A n o.dst f' k
      | none => .fail)
     | false => .fail)
    | none => (match fstepOut o (looks o.op (fargs G n f (mvQ q o.op) 0 (opsL o.op))) (fdrop n f (mvQ q o.op) (opsL o.op)) out with
     | some f' => qask A n o.dst f' k
     | none => .fail))
 | false => (match fstep E G n q take o f with
  | some f' => qask A n o.dst f' k
  | none => .fail)
noncomputable def qone (all : List Oper) (o : Oper) (f : FState) (k : FState -> Qy α) : Qy α :=
 match fwanted n all f o.guard with
 | none => .fail
 | some b => match b with
  | true =>
   (match isCall o.op with
    | some c => (match fcallee E G H n c f with
     | some (g, args, f2) => .res g args f2.heap f2.next (fun r => qask A n o.dst (fback f2 r o.dst) k)
     | none => .fail)
    | none => qstep A B E G n (readOnly H.moves all o) (takeR H all o) o f k)
  | false => k (fput f o.dst (.tup []))
noncomputable def qops (all : List Oper) (ops : List Oper) : FState -> (FState -> Qy α) -> Qy α :=
 @List.rec Oper (fun _ => FState -> (FState -> Qy α) -> Qy α) (fun f k => k f) (fun o _ ih f k => qone A B E G H n all o f (fun f' => ih f' k)) ops
/-- A quiet operation's value. -/
noncomputable def qstepQ (fh : Bool) (all : List Oper) (o : Oper) (f : FState) (k : AVal -> Qy α) : Qy α :=
 match B (opKey o) with
 | true => (match fwanted n all f o.guard with
  | none => .fail
  | some b => match b with
   | true => (match isAlloc o.op with
    | true => (match aop E false o.op [] none with | some _ => k .undef | none => .fail)
    | false => (match isCall o.op with
     | some _ => .fail
     | none => (match quietKind o.op && lookPure fh (looks o.op (fargs G n f none 0 (opsL o.op))) with
      | true => .out (opKey o) (aop E false o.op (fargs G n f none 0 (opsL o.op)) (flooked f o.op (fargs G n f none 0 (opsL o.op)))) (fun out => match out with | ⟨v, .keep⟩ => k v | _ => .fail)
      | false => .fail)))
   | false => k (.tup []))
 | false => (match fstepQ E G n fh all o f with
  | some a => k a
  | none => .fail)
noncomputable def qopL (fh : Bool) (tk : List Nat) (all : List Oper) (o : Oper) (f : FState) (k : FState -> Qy α) : Qy α :=
 match fwanted n all f o.guard with
 | none => .fail
 | some b => match b with
  | true =>
   (match isCall o.op with
    | some c => (match fcalleeD E G H n c f with
     | some (g, args, f2) => (match isPure H o with
      | true => .res g args [] f2.next (fun r => match r with
       | ⟨v, [], m⟩ => qask A n o.dst (fback f2 ⟨v, f2.heap, m⟩ o.dst) k
       | _ => .fail)
      | false => .res g args f2.heap f2.next (fun r => match isRead H o with
       | true => .stay f2.heap r.heap (qask A n o.dst (fback f2 r o.dst) k)
       | false => qask A n o.dst (fback f2 r o.dst) k))
     | none => .fail)
    | none => (match appSlot o.op with
     | some t => (match fshowTk n fh all (tkFor all t (ftkNil n tk t f)) f with
      | some f1 => qstep A B E G n false false o f1 k
      | none => .fail)
     | none => (match isStore o.op with
      | true => qstep A B E G n (readOnly H.moves all o) (takeR H all o) o f k
      | false => qstepQ B E G n fh all o f (fun a => qask A n o.dst (fput f o.dst a) k))))
  | false => k (fput f o.dst (.tup []))
noncomputable def qord (tk : List Nat) (fh : Bool) (fq : Nat -> Bool) (all : List Oper) (l : List (Nat × Bool)) : FState -> (FState -> Qy α) -> Qy α :=
 @List.rec (Nat × Bool) (fun _ => FState -> (FState -> Qy α) -> Qy α) (fun f k => k f) (fun p _ ih f k =>
  match all[p.1]? with
  | none => .fail
  | some o => match p.2 with
   | true => qopL A B E G H n fh tk all o f (fun f' => ih f' k)
   | false => qstepQ B E G n (fh || fq p.1) all o f (fun a => qask A n o.dst (fput f o.dst a) (fun f' => ih f' k))) l
def qboth (F : Nat -> Qy α) : Nat -> List Nat -> Qy α
 | i, [] => F i
 | i, j :: l => .both (F i) (qboth F j l)
noncomputable def qexpl (all : List Oper) : Nat -> Array Bool -> FState -> (FState -> Qy α) -> Qy α
 | 0, listed, f, k => (match Region.ready .any all.toArray listed with
  | [] => k f
  | _ => .fail)
 | m + 1, listed, f, k => (match Region.ready .any all.toArray listed with
  | [] => k f
  | i :: l => qboth (fun i => match all[i]? with
   | some o => qone A B E G H n all o f (fun f' => qexpl all m (setL listed i) f' k)
   | none => .fail) i l)
noncomputable def qlone (h : RHint) (all : List Oper) (p : Array Bool) : Nat -> Array Bool -> FState -> (FState -> Qy α) -> Qy α
 | 0, listed, f, k => (match eqBs listed.toList p.toList with
  | true => k f
  | false => .fail)
 | m + 1, listed, f, k => (match eqBs listed.toList p.toList with
  | true => .fail
  | false => (match Region.ready .any all.toArray listed with
   | [] => .fail
   | i :: l => qboth (fun i => match h.pre.contains (i, true) with
    | true => (match all[i]? with
     | some o => qopL A B E G H n (quietHeap H all h.pre) h.tk all o f (fun f' => qlone h all p m (setL listed i) f' k)
     | none => .fail)
    | false => .fail) i l))
noncomputable def qdraw (all : List Oper) (h : RHint) (f : FState) (k : FState -> Qy α) : Qy α :=
 match explMark h with
 | true => qexpl A B E G H n all all.length (Array.replicate all.length false) f k
 | false => (match loneMark h with
  | true => qord A B E G H n (unmark h).tk (quietHeap H all (unmark h).pre) (quietAt H all (unmark h).pre) all (quietPre (unmark h).pre) f (fun f1 =>
    qlone A B E G H n (unmark h) all (preAll (unmark h).pre (Array.replicate all.length false)) ((unmark h).pre.length - (quietPre (unmark h).pre).length) (preAll (quietPre (unmark h).pre) (Array.replicate all.length false)) f1 (fun f0 =>
     match fshowMk E n all (unmark h).nw f0 with
     | some f2 => qops A B E G H n all (pickOps all (unmark h).tail) f2 k
     | none => .fail))
  | false => qord A B E G H n h.tk (quietHeap H all h.pre) (quietAt H all h.pre) all h.pre f (fun f1 =>
    match fshowMk E n all h.nw f1 with
    | some f2 => qops A B E G H n all (pickOps all h.tail) f2 k
    | none => .fail))
/-- Only the variables that are still in sight. -/
def slotNames : Sl -> List Name
 | [] => []
 | p :: r => namesV p.2 ++ slotNames r
def hasN (m : Name) : List Name -> Bool
 | [] => false
 | x :: r => match nameB x m with | true => true | false => hasN m r
def onlyN (l : List Name) : Heap -> Heap
 | [] => []
 |(m, o) :: r => match hasN m l with | true => (m, o) :: onlyN l r | false => onlyN l r
def fgcL (f : FState) : FState :=
 match f with
 | ⟨sl, [], heap, next⟩ => ⟨sl, [], heap, next⟩
 | ⟨sl, p :: locs, heap, next⟩ => ⟨sl, onlyN (closeN (p :: locs) (p :: locs).length (addNew (slotNames sl) [])) (p :: locs), heap, next⟩
/-- The number under which 'caps' says whether variables out of sight are dropped. -/
def gcFlag : FuncId := 4000000
def fgcH (caps : FuncId -> Bool) (f : FState) : FState := match caps gcFlag with | true => fgcL f | false => f
noncomputable def qregion (live : Nat -> Nat) (id : Nat) (ops : Array Oper) (draw : Bool) (f : FState) (k : FState -> Qy α) : Qy α :=
 match draw with
 | true => qdraw A B E G H n ops.toList (H.ord id) f (fun f' => match fghost n (live id) (fprune f' (fun l => pruneS l (live id))) with | some f2 => k (fgcH H.caps f2) | none => .fail)
 | false => qops A B E G (H.at id) n ops.toList ops.toList f (fun f' => match fghost n (live id) (fprune f' (fun l => pruneS l (live id))) with | some f2 => k (fgcH H.caps f2) | none => .fail)
noncomputable def qcode (live : Nat -> Nat) (c : Code) : FState -> (Exit × FState -> Qy α) -> Qy α :=
 Code.rec (motive := fun _ => FState -> (Exit × FState -> Qy α) -> Qy α)
  (skip := fun f k => k (.normal, f))
  (region := fun id ops draw f k => qregion A B E G H n live id ops draw f (fun f => k (.normal, f)))
  (seq := fun _ _ ix iy f k => ix f (fun r => match r with
   |(.normal, f') => iy f' k
   | r => k r))
  (cond := fun c _ _ ix iy f k => (match feval G n f c with
   | .dat (.flat (.bool b)) => (match b with | true => ix f k | false => iy f k)
   | _ => .fail))
  (block := fun id _ ic f k => ic f (fun r => match r with
   |(.exit i, f') => (match Nat.beq i id with | true => k (.normal, f') | false => k (.exit i, f'))
   | r => k r))
  (loop := fun c _ f k => .loop n c f k)
  (rangeFunc := fun _ _ _ _ _ _ _ _ => .fail)
  (exit := fun id f k => k (.exit id, f))
  (scope := fun _ ic f k => ic f (fun r => match r with
   |(.goto _, _) => .fail
   | r => k r))
  (label := fun _ f k => k (.normal, f))
  (goto := fun _ _ _ => .fail)
  (ret := fun f k => k (.ret, f))
  (refuse := fun _ _ _ => .fail) c
end
noncomputable def qfun (A B : Nat -> Bool) (E : TEnv) (G : Globs) (moves caps : FuncId -> Bool) (x : XFn) (g : FuncId) (args : List AVal) (heap : Heap) (next : Nat) : Qy XRes :=
 match Nat.ble args.length x.ntmps with
 | false => .fail
 | true => qcode A B E G ⟨moves, x.ord, caps, rowsOf caps g⟩ x.ntmps x.live x.code ⟨slOf 0 args, [], heap, next⟩ (fun r => match r with
  |(.ret, f) => (match fret E x.ntmps x.results f with | some r => .fin (gcR next r) | none => .fail)
  |(.normal, f) => (match fret E x.ntmps x.results f with | some r => .fin (gcR next r) | none => .fail)
  | _ => .fail)
/-! ### Soundness -/
section
variable {P : Program} {E : TEnv} {G : Globs} {H : Hints} {n : Nat} {α : Type} {A B : Nat -> Bool} {T : α -> Prop}
theorem aone_mono {all : List Oper} {o : Oper} {K K' : AState -> Prop} {s : AState} (hk : ∀ s, K s -> K' s) (h : aone (ACalls P G) E G H all o K s) : aone (ACalls P G) E G H all o K' s := by
 unfold aone at h ⊢
 split
 ·rename_i hw; simp [hw] at h
 rename_i b hw
 simp only [hw] at h
 split
 ·rename_i hb
  simp only [hb, if_true] at h
  split
  ·rename_i c hc
   simp only [hc] at h
   split
   ·rename_i f args s2 ha
    simp only [ha] at h
    exact h.mono fun v heap n hq h1 h2 => hk _ (hq h1 h2)
   rename_i ha
   simp [ha] at h
  rename_i hc
  simp only [hc] at h
  split
  ·rename_i s' hs'
   simp only [hs'] at h
   exact hk _ h
  rename_i hs'; simp [hs'] at h
 rename_i hb
 simp only [hb] at h
 exact hk _ h
/-- After a state, the run goes on. -/
def QAft (P : Program) (G : Globs) (n : Nat) (T : α -> Prop) (k : FState -> Qy α) (s : AState) : Prop := ∃ f', s = f'.toA n /\ (k f').OkR P G T
theorem qask_ok {d : Option Tmp} {f : FState} {k : FState -> Qy α} (h : (qask A n d f k).OkR P G T) : QAft P G n T k (f.toA n) := by
 unfold qask at h
 cases d with
 | none => exact ⟨f, rfl, h⟩
 | some t =>
  dsimp only at h
  split at h
  ·split at h
   ·rename_i b hb
    refine ⟨fput f (some t) (.dat (.flat (.bool b))), ?_, h⟩
    rw [fput_eq]
    rw [← fget_eq] at hb
    unfold AState.put
    dsimp only
    have hb2 : (f.toA n).tmps[t]? = some (.dat (.flat (.bool b))) := by
     unfold getT at hb
     cases he : (f.toA n).tmps[t]? with
     | none => rw [he] at hb; simp at hb
     | some v => rw [he] at hb; simpa using hb
    rw [set_self hb2]
   exact ⟨f, rfl, h⟩
  exact ⟨f, rfl, h⟩
theorem qstep_ok {q take : Bool} {o : Oper} {f : FState} {k : FState -> Qy α} (h : (qstep A B E G n q take o f k).OkR P G T) : ∃ s', astep E G q take o (f.toA n) = some s' /\ QAft P G n T k s' := by
 rw [fstep_eq]
 unfold qstep at h
 split at h
 ·obtain ⟨out, ho, h⟩ := h
  dsimp only at h
  split at h
  ·rename_i ob hob
   have h : (match noLocO ob with
     | true => (match fgrowT o (looks o.op (fargs G n f (mvQ q o.op) 0 (opsL o.op))) (fdrop n f (mvQ q o.op) (opsL o.op)) out with
      | some f' => qask A n o.dst f' k
      | none => .fail)
     | false => .fail : Qy α).OkR P G T := h
   cases hn : noLocO ob with
   | false => rw [hn] at h; exact h.elim
   | true =>
    rw [hn] at h
    dsimp only at h
    split at h
    ·rename_i f' hf'
     refine ⟨f'.toA n, ?_, qask_ok h⟩
     unfold fstep fstep1
     rw [ho]
     dsimp only
     rw [fgrowT_eq hob hn hf']; rfl
    exact h.elim
  split at h
  ·rename_i f' hf'
   refine ⟨f'.toA n, ?_, qask_ok h⟩
   unfold fstep fstep1
   rw [ho]
   dsimp only
   rw [hf']; rfl
  exact h.elim
 split at h
 ·rename_i f' hf'
  exact ⟨f'.toA n, by rw [hf']; rfl, qask_ok h⟩
 exact h.elim
theorem qone_ok {all : List Oper} {o : Oper} {f : FState} {k : FState -> Qy α} (h : (qone A B E G H n all o f k).OkR P G T) : aone (ACalls P G) E G H all o (QAft P G n T k) (f.toA n) := by
 unfold qone at h
 unfold aone
 rw [fwanted_eq]
 cases hw : fwanted n all f o.guard with
 | none => rw [hw] at h; exact h.elim
 | some b =>
  rw [hw] at h
  cases b with
  | false =>
   dsimp only at h ⊢
   rw [if_neg (by simp)]
   exact ⟨_, by rw [fput_eq], h⟩
  | true =>
   dsimp only at h ⊢
   rw [if_pos rfl]
   cases hc : isCall o.op with
   | none =>
    rw [hc] at h
    dsimp only at h ⊢
    obtain ⟨s', h1, h2⟩ := qstep_ok h
    rw [h1]
    exact h2
   | some c =>
    rw [hc] at h
    dsimp only at h ⊢
    rw [fcallee_eq]
    cases hcal : fcallee E G H n c f with
    | none => rw [hcal] at h; exact h.elim
    | some x =>
     obtain ⟨g, args, f2⟩ := x
     rw [hcal] at h
     dsimp only [Option.map_some] at h ⊢
     refine ACalls.mono h ?_
     intro v hh m hq b1 b2
     have := qask_ok (hq b1 b2)
     rw [fback_eq] at this
     exact this
theorem qops_ok {all : List Oper} {k : FState -> Qy α} : ∀ {ops : List Oper} {f : FState}, (qops A B E G H n all ops f k).OkR P G T -> aops (ACalls P G) E G H all (QAft P G n T k) ops (f.toA n)
 | [], f, h => ⟨f, rfl, h⟩
 | o :: rest, f, h => by
  have h : (qone A B E G H n all o f (fun f' => qops A B E G H n all rest f' k)).OkR P G T := h
  simp only [aops, askK_eq]
  refine aone_mono ?_ (qone_ok h)
  rintro s ⟨f', rfl, h'⟩
  exact qops_ok h'
theorem qstepQ_ok {fh : Bool} {all : List Oper} {o : Oper} {f : FState} {k : AVal -> Qy α} (h : (qstepQ B E G n fh all o f k).OkR P G T) : ∃ a, fstepQ E G n fh all o f = some a /\ (k a).OkR P G T := by
 unfold qstepQ at h
 split at h
 ·unfold fstepQ
  split at h
  ·exact h.elim
  rename_i b hw
  rw [hw]
  dsimp only
  cases b with
  | false => exact ⟨_, rfl, h⟩
  | true =>
   rw [if_pos rfl]
   dsimp only at h
   split at h
   ·rename_i hal
    rw [if_pos hal]
    split at h
    ·rename_i x hx
     rw [hx]
     exact ⟨_, rfl, h⟩
    exact h.elim
   rename_i hal
   rw [if_neg (by simp [hal])]
   split at h
   ·exact h.elim
   rename_i hc
   rw [hc]
   dsimp only
   split at h
   ·rename_i hq
    rw [if_pos hq]
    obtain ⟨out, ho, h⟩ := h
    rw [ho]
    dsimp only at h ⊢
    split at h
    ·exact ⟨_, rfl, h⟩
    exact h.elim
   exact h.elim
 split at h
 ·rename_i a ha
  exact ⟨a, ha, h⟩
 exact h.elim
theorem qopL_ok {fh : Bool} {tk : List Nat} {all : List Oper} {o : Oper} {f : FState} {k : FState -> Qy α} (h : (qopL A B E G H n fh tk all o f k).OkR P G T) : opL (ACalls P G) E G H fh tk all o (QAft P G n T k) (f.toA n) := by
 unfold qopL at h
 unfold opL
 rw [fwanted_eq]
 cases hw : fwanted n all f o.guard with
 | none => rw [hw] at h; exact h.elim
 | some b =>
  rw [hw] at h
  cases b with
  | false =>
   dsimp only at h ⊢
   rw [if_neg (by simp)]
   exact ⟨_, by rw [fput_eq], h⟩
  | true =>
   dsimp only at h ⊢
   rw [if_pos rfl]
   cases hc : isCall o.op with
   | none =>
    rw [hc] at h
    dsimp only at h ⊢
    cases ht : appSlot o.op with
    | none =>
     rw [ht] at h
     dsimp only at h ⊢
     cases hst : isStore o.op with
     | false =>
      rw [hst] at h
      dsimp only at h ⊢
      rw [fstepQ_eq]
      obtain ⟨a, h1, h2⟩ := qstepQ_ok h
      rw [h1]
      dsimp only
      rw [← fput_eq]
      exact qask_ok h2
     | true =>
      rw [hst] at h
      dsimp only at h ⊢
      obtain ⟨s', h1, h2⟩ := qstep_ok h
      rw [h1]
      exact h2
    | some t =>
     rw [ht] at h
     dsimp only at h ⊢
     rw [ftkNil_eq]
     cases hs : fshowTk n fh all (tkFor all t (ftkNil n tk t f)) f with
     | none => rw [hs] at h; exact h.elim
     | some f1 =>
      rw [hs] at h
      rw [fshowTk_some n fh all _ _ _ hs]
      dsimp only at h ⊢
      obtain ⟨s', h1, h2⟩ := qstep_ok h
      rw [h1]
      exact h2
   | some c =>
    rw [hc] at h
    dsimp only at h ⊢
    rw [fcalleeD_eq]
    cases hcal : fcalleeD E G H n c f with
    | none => rw [hcal] at h; exact h.elim
    | some x =>
     obtain ⟨g, args, f2⟩ := x
     rw [hcal] at h
     dsimp only [Option.map_some] at h ⊢
     cases hpu : isPure H o with
     | true =>
      rw [hpu] at h
      dsimp only at h ⊢
      refine ACalls.mono h ?_
      intro v hh m hq b1 b2
      have hq := hq b1 b2
      dsimp only at hq
      cases hh with
      | nil =>
       dsimp only at hq
       have := qask_ok hq
       rw [fback_eq] at this
       exact ⟨rfl, this⟩
      | cons _ _ => exact hq.elim
     | false =>
      rw [hpu] at h
      dsimp only at h ⊢
      refine ACalls.mono h ?_
      intro v hh m hq b1 b2
      have hq := hq b1 b2
      cases hrd : isRead H o with
      | true =>
       rw [hrd] at hq
       dsimp only at hq
       obtain ⟨q1, q2⟩ := hq
       have := qask_ok q2
       rw [fback_eq] at this
       exact ⟨fun _ => q1, this⟩
      | false =>
       rw [hrd] at hq
       dsimp only at hq
       have := qask_ok hq
       rw [fback_eq] at this
       exact ⟨fun hx => by simp at hx, this⟩
theorem qord_cons {tk : List Nat} {fh : Bool} {fq : Nat -> Bool} {all : List Oper} {i : Nat} {lone : Bool} {rest : List (Nat × Bool)} {f : FState} {k : FState -> Qy α} : qord A B E G H n tk fh fq all ((i, lone) :: rest) f k = (match all[i]? with
  | none => .fail
  | some o => match lone with
   | true => qopL A B E G H n fh tk all o f (fun f' => qord A B E G H n tk fh fq all rest f' k)
   | false => qstepQ B E G n (fh || fq i) all o f (fun a => qask A n o.dst (fput f o.dst a) (fun f' => qord A B E G H n tk fh fq all rest f' k))) := rfl
theorem qord_ok {tk : List Nat} {fh : Bool} {fq : Nat -> Bool} {all : List Oper} {k : FState -> Qy α} {K : AState -> Prop} (hK : ∀ s, QAft P G n T k s -> K s) : ∀ {l : List (Nat × Bool)} {f : FState}, (qord A B E G H n tk fh fq all l f k).OkR P G T -> aordP (ACalls P G) E G H tk fh fq all K l (f.toA n)
 | [], f, h => hK _ ⟨f, rfl, h⟩
 |(i, lone) :: rest, f, h => by
  rw [qord_cons] at h
  simp only [aordP, askK_eq]
  cases hi : all[i]? with
  | none => rw [hi] at h; exact h.elim
  | some o =>
   rw [hi] at h
   cases lone
   ·dsimp only at h ⊢
    rw [if_neg (by simp), fstepQ_eq]
    obtain ⟨a, h1, h2⟩ := qstepQ_ok h
    rw [h1]
    dsimp only
    rw [← fput_eq]
    obtain ⟨f', e, h'⟩ := qask_ok h2
    rw [e]
    exact qord_ok hK h'
   dsimp only at h ⊢
   rw [if_pos rfl]
   refine opL_mono ?_ (qopL_ok h)
   rintro s ⟨f', rfl, h'⟩
   exact qord_ok hK h'
theorem qboth_ok {F : Nat -> Qy α} : ∀ {l : List Nat} {i : Nat}, (qboth F i l).OkR P G T -> ∀ j ∈ i :: l, (F j).OkR P G T
 | [], i, h, j, hj => by simp at hj; subst hj; exact h
 | x :: l, i, h, j, hj => by
  obtain ⟨h1, h2⟩ := h
  rcases List.mem_cons.1 hj with rfl | hj
  ·exact h1
  exact qboth_ok h2 j hj
theorem qexpl_ok {all : List Oper} {k : FState -> Qy α} : ∀ (m : Nat) (listed : Array Bool) (f : FState), (qexpl A B E G H n all m listed f k).OkR P G T -> aexpl (ACalls P G) E G H all (QAft P G n T k) m listed (f.toA n)
 | 0, listed, f, h => by
  simp only [qexpl] at h
  split at h
  ·rename_i he
   exact ⟨he, f, rfl, h⟩
  exact h.elim
 | m + 1, listed, f, h => by
  simp only [qexpl] at h
  simp only [aexpl]
  split at h
  ·rename_i he
   exact .inl ⟨he, f, rfl, h⟩
  rename_i i l he
  refine .inr ⟨by rw [he]; simp, ?_⟩
  rw [he]
  intro j hj
  have h1 := qboth_ok h j hj
  split at h1
  ·rename_i o ho
   refine ⟨o, ho, aone_mono ?_ (qone_ok h1)⟩
   rintro s ⟨f', rfl, h'⟩
   exact qexpl_ok m _ f' h'
  exact h1.elim
theorem aexpl_mono {all : List Oper} {Q Q' : AState -> Prop} (hq : ∀ s, Q s -> Q' s) : ∀ (m : Nat) (listed : Array Bool) (s : AState), aexpl (ACalls P G) E G H all Q m listed s -> aexpl (ACalls P G) E G H all Q' m listed s
 | 0, listed, s, h => ⟨h.1, hq _ h.2⟩
 | m + 1, listed, s, h => by
  simp only [aexpl] at h ⊢
  rcases h with h | h
  ·exact .inl ⟨h.1, hq _ h.2⟩
  refine .inr ⟨h.1, fun i hi => ?_⟩
  obtain ⟨o, ho, hh⟩ := h.2 i hi
  exact ⟨o, ho, aone_mono (fun s hs => aexpl_mono hq m _ s hs) hh⟩
theorem qlone_ok {h : RHint} {all : List Oper} {p : Array Bool} {k : FState -> Qy α} {K : AState -> Prop} (hK : ∀ s, QAft P G n T k s -> K s) : ∀ (m : Nat) (listed : Array Bool) (f : FState), (qlone A B E G H n h all p m listed f k).OkR P G T -> aloneP (ACalls P G) E G H h all p K m listed (f.toA n)
 | 0, listed, f, hh => by
  simp only [qlone] at hh
  split at hh
  ·rename_i he
   exact ⟨Array.ext' (eqBs_spec.1 he), hK _ ⟨f, rfl, hh⟩⟩
  exact hh.elim
 | m + 1, listed, f, hh => by
  simp only [qlone] at hh
  split at hh
  ·exact hh.elim
  rename_i hne
  split at hh
  ·exact hh.elim
  rename_i i l he
  refine ⟨fun e => ?_, by rw [he]; simp, fun j hj => ?_⟩
  ·rw [e, eqBs_spec.2 rfl] at hne
   simp at hne
  rw [he] at hj
  have h1 := qboth_ok hh j hj
  split at h1
  ·rename_i hc
   refine ⟨by simpa using hc, ?_⟩
   split at h1
   ·rename_i o ho
    refine ⟨o, ho, opL_mono ?_ (qopL_ok h1)⟩
    rintro s ⟨f', rfl, h'⟩
    exact qlone_ok hK m _ f' h'
   exact h1.elim
  exact h1.elim
theorem qdraw_ok {all : List Oper} {h : RHint} {f : FState} {k : FState -> Qy α} (hh : (qdraw A B E G H n all h f k).OkR P G T) : adraw (ACalls P G) E G H all h (QAft P G n T k) (f.toA n) := by
 unfold qdraw at hh
 unfold adraw
 cases hx : explMark h with
 | true =>
  rw [hx] at hh
  dsimp only at hh
  rw [if_pos rfl]
  refine aexpl_mono ?_ _ _ _ (qexpl_ok _ _ _ hh)
  intro s hs
  exact ⟨s, hs, fun w R N tmps bsT bsL bsH bsF hr => ⟨N, bsT, bsL, bsH, hr, fun _ _ _ h => h⟩⟩
 | false =>
  rw [hx] at hh
  dsimp only at hh
  rw [if_neg (by simp)]
  cases hlm : loneMark h with
  | true =>
   rw [hlm] at hh
   dsimp only at hh
   rw [if_pos rfl]
   unfold adrawL
   refine qord_ok ?_ hh
   rintro s ⟨f1, rfl, h1⟩
   refine qlone_ok ?_ _ _ _ h1
   rintro s ⟨f0, rfl, h0⟩
   dsimp only at h0
   split at h0
   ·rename_i f2 hf2
    rw [fshowMk_some E n all _ f0 f2 hf2]
    exact qops_ok h0
   exact h0.elim
  | false =>
   rw [hlm] at hh
   dsimp only at hh
   rw [if_neg (by simp)]
   refine qord_ok ?_ hh
   rintro s ⟨f1, rfl, h1⟩
   dsimp only at h1
   split at h1
   ·rename_i f2 hf2
    rw [fshowMk_some E n all _ f1 f2 hf2]
    exact qops_ok h1
   exact h1.elim
theorem ghost_prune (f : FState) (m : Nat) : Ghost G (f.toA n) ((fprune f (fun l => pruneS l m)).toA n) := by
 intro w R N tmps bsT bsL bsH bsF hr
 obtain ⟨bsT', hr'⟩ := hr.prune m
 exact ⟨R, N, bsT', bsL, bsH, hr', keep_refl _, fun _ _ h => h⟩
theorem onlyN_rep {w : World} {R : Own} {M : Name -> Option Nat} (l : List Name) : ∀ {os : Heap} {bs : List Nat}, RepObjs w R M os bs -> ∃ bs', RepObjs w R M (onlyN l os) bs' /\ bs'.Sublist bs
 | [], bs, h => ⟨bs, h, .refl _⟩
 |(m, o) :: os, _, ⟨b, b1, b2, e, hn, ho, hr⟩ => by
  subst e
  obtain ⟨bs', k1, k2⟩ := onlyN_rep l hr
  simp only [onlyN]
  split
  ·exact ⟨b :: (b1 ++ bs'), ⟨b, b1, bs', rfl, hn, ho, k1⟩, (List.Sublist.append (.refl _) k2).cons_cons _⟩
  exact ⟨bs', k1, k2.trans ((List.sublist_append_right b1 b2).cons _)⟩
theorem ghost_gcH (caps : FuncId -> Bool) (f : FState) : Ghost G (f.toA n) ((fgcH caps f).toA n) := by
 unfold fgcH
 split
 ·obtain ⟨sl, locs, heap, next⟩ := f
  cases locs with
  | nil => exact Ghost.refl _ _
  | cons p locs =>
   intro w R N tmps bsT bsL bsH bsF hr
   obtain ⟨bs', k1, k2⟩ := onlyN_rep (closeN (p :: locs) (p :: locs).length (addNew (slotNames sl) [])) hr.locs
   refine ⟨R, N, bsT, bs', bsH, ⟨repV_undef _, hr.tmps, k1, hr.heap, ?_, hr.next, hr.glob, hr.frame⟩, keep_refl _, fun _ _ h => h⟩
   refine List.Nodup.sublist ?_ hr.nodup
   exact List.Sublist.append (.refl _) (List.Sublist.append (.refl _) (List.Sublist.append k2 (.refl _)))
 exact Ghost.refl _ _
theorem acode_ghosts {c : Code} {s : AState} {Q Q' : Exit -> AState -> Prop} (h : ACode P G c Q s) (hg : ∀ e s1, Q e s1 -> ∃ s2, Ghost G s1 s2 /\ Q' e s2) : ACode P G c Q' s := by
 intro w R N act bsT bsL bsH bsF hr D hd
 refine wpR_mono (h w R N act bsT bsL bsH bsF hr hd) ?_
 rintro e a w' ⟨s', R', N', bsT', bsL', bsH', hq, hr', hd', hk, hN⟩
 obtain ⟨s2, hg, hq2⟩ := hg e s' hq
 obtain ⟨R2, N2, t2, l2, h2, hr2, hk2, hN2⟩ := hg _ _ _ _ _ _ _ _ hr'
 exact ⟨s2, R2, N2, t2, l2, h2, hq2, hr2, hd', hk.trans hk2, fun o b ho => hN2 o b (hN o b ho)⟩
theorem qregion_ok (hE : E.Ok P) {live : Nat -> Nat} {id : Nat} {ops : Array Oper} {draw : Bool} {f : FState} {k : FState -> Qy α} (hc : chkAll H (.region id ops draw) = true) (h : (qregion A B E G H n live id ops draw f k).OkR P G T) :
  ACode P G (.region id ops draw) (fun e s => e = .normal /\ QAft P G n T k s) (f.toA n) := by
 have key : ∀ s1, QAft P G n T (fun f' => match fghost n (live id) (fprune f' (fun l => pruneS l (live id))) with | some f2 => k (fgcH H.caps f2) | none => .fail) s1 -> ∃ s2, Ghost G s1 s2 /\ QAft P G n T k s2 := by
  rintro s1 ⟨f1, rfl, h1⟩
  dsimp only at h1
  split at h1
  ·rename_i f2 hf2
   exact ⟨_, ((ghost_prune f1 (live id)).trans (fghost_ghost G hf2)).trans (ghost_gcH H.caps f2), _, rfl, h1⟩
  exact h1.elim
 unfold qregion at h
 cases draw
 ·dsimp only at h
  refine acode_ghosts (acode_region (H := H.at id) (Q := fun e s => e = .normal /\ QAft P G n T (fun f' => match fghost n (live id) (fprune f' (fun l => pruneS l (live id))) with | some f2 => k (fgcH H.caps f2) | none => .fail) s) hE ?_) ?_
  ·have := qops_ok h
   simpa using this
  rintro e s1 ⟨rfl, h1⟩
  obtain ⟨s2, g, h2⟩ := key s1 h1
  exact ⟨s2, g, rfl, h2⟩
 dsimp only at h
 refine acode_ghosts (acode_draw (H := H) (Q := fun e s => e = .normal /\ QAft P G n T (fun f' => match fghost n (live id) (fprune f' (fun l => pruneS l (live id))) with | some f2 => k (fgcH H.caps f2) | none => .fail) s) hE hE.mixed (by simpa [chkAll] using hc) ?_) ?_
 ·have := qdraw_ok h
  simpa using this
 rintro e s1 ⟨rfl, h1⟩
 obtain ⟨s2, g, h2⟩ := key s1 h1
 exact ⟨s2, g, rfl, h2⟩
/-- After an exit, the run goes on. -/
def QAftC (P : Program) (G : Globs) (n : Nat) (T : α -> Prop) (k : Exit × FState -> Qy α) (e : Exit) (s : AState) : Prop := ∃ f', s = f'.toA n /\ (k (e, f')).OkR P G T
theorem qcode_region {live : Nat -> Nat} {id : Nat} {ops : Array Oper} {draw : Bool} {f : FState} {k : Exit × FState -> Qy α} : qcode A B E G H n live (.region id ops draw) f k = qregion A B E G H n live id ops draw f (fun f => k (.normal, f)) := rfl
theorem qcode_ok (hE : E.Ok P) (live : Nat -> Nat) : ∀ (c : Code) (f : FState) (k : Exit × FState -> Qy α), chkAll H c = true -> (qcode A B E G H n live c f k).OkR P G T -> ACode P G c (QAftC P G n T k) (f.toA n)
 | .skip, f, k, _, h => acode_here wpR_skip ⟨f, rfl, h⟩
 | .region id ops draw, f, k, hc, h => by
  rw [qcode_region] at h
  refine (qregion_ok hE hc h).mono ?_
  rintro e s ⟨rfl, f', rfl, h'⟩
  exact ⟨f', rfl, h'⟩
 | .seq x y, f, k, hc, h => by
  simp only [chkAll, Bool.and_eq_true] at hc
  refine acode_seq ?_
  refine (qcode_ok hE live x f (fun r => match r with | (.normal, f') => qcode A B E G H n live y f' k | r => k r) hc.1 h).mono ?_
  rintro e s ⟨f', rfl, h'⟩
  cases e with
  | normal => exact qcode_ok hE live y f' k hc.2 h'
  | _ => exact ⟨f', rfl, h'⟩
 | .cond c x y, f, k, hc, h => by
  simp only [chkAll, Bool.and_eq_true] at hc
  intro w R N act bsT bsL bsH bsF hr D hd
  have h : (match feval G n f c with
   | .dat (.flat (.bool b)) => (match b with | true => qcode A B E G H n live x f k | false => qcode A B E G H n live y f k)
   | _ => .fail).OkR P G T := h
  split at h
  ·rename_i b hb
   obtain ⟨bs, he⟩ := eval_raw hr.tmps hr.glob c
   rw [feval_eq, hb] at he
   obtain ⟨_, he, _⟩ := repV_flat_inv he
   refine wpR_cond he ?_
   cases b
   ·exact qcode_ok hE live y f k hc.2 h w R N act bsT bsL bsH bsF hr hd
   exact qcode_ok hE live x f k hc.1 h w R N act bsT bsL bsH bsF hr hd
  exact h.elim
 | .block id c, f, k, hc, h => by
  simp only [chkAll] at hc
  intro w R N act bsT bsL bsH bsF hr D hd
  apply wpR_block
  refine wpR_mono (qcode_ok hE live c f (fun r => match r with
   |(.exit i, f') => (match Nat.beq i id with | true => k (.normal, f') | false => k (.exit i, f'))
   | r => k r) hc h w R N act bsT bsL bsH bsF hr hd) ?_
  rintro e2 a w' ⟨s2, R', N', bsT', bsL', bsH', ⟨f', rfl, h'⟩, rest⟩
  cases e2 with
  | exit i =>
   simp only [Exit.inBlock]
   dsimp only at h'
   by_cases hi : i = id
   ·have hb : Nat.beq i id = true := by rw [Nat.beq_eq]; exact hi
    rw [if_pos hi]
    rw [hb] at h'
    exact ⟨_, R', N', bsT', bsL', bsH', ⟨f', rfl, h'⟩, rest⟩
   have hb : Nat.beq i id = false := by rw [Bool.eq_false_iff]; intro hc; rw [Nat.beq_eq] at hc; exact hi hc
   rw [if_neg hi]
   rw [hb] at h'
   exact ⟨_, R', N', bsT', bsL', bsH', ⟨f', rfl, h'⟩, rest⟩
  | _ => exact ⟨_, R', N', bsT', bsL', bsH', ⟨f', rfl, h'⟩, rest⟩
 | .exit id, f, k, _, h => acode_here wpR_exit ⟨f, rfl, h⟩
 | .ret, f, k, _, h => acode_here wpR_ret ⟨f, rfl, h⟩
 | .loop c, f, k, _, h => h
 | .rangeFunc _ _ _ _, _, _, _, h => h.elim
 | .scope c, f, k, hc, h => by
  simp only [chkAll] at hc
  intro w R N act bsT bsL bsH bsF hr D hd
  apply wpR_scope_straight
  refine wpR_mono (qcode_ok hE live c f (fun r => match r with
   |(.goto _, _) => .fail
   | r => k r) hc h w R N act bsT bsL bsH bsF hr hd) ?_
  rintro e2 a w' ⟨s2, R', N', bsT', bsL', bsH', ⟨f', rfl, h'⟩, rest⟩
  cases e2 with
  | goto l => exact h'.elim
  | _ => exact ⟨_, R', N', bsT', bsL', bsH', ⟨f', rfl, h'⟩, rest⟩
 | .label _, f, k, _, h => acode_here wpR_label ⟨f, rfl, h⟩
 | .goto _, _, _, _, h => h.elim
 | .refuse _, _, _, _, h => h.elim
end
/-- The same, as a word of its own: it is not reckoned out where it stands as a goal. -/
structure Qy.Ok {α : Type} (P : Program) (G : Globs) (T : α -> Prop) (q : Qy α) : Prop where
 ok : q.OkR P G T
end Go.Tp

namespace Go.Tp
mutual
def rnV (ρ : Nat -> Nat) : AVal -> AVal
 | .ptr (.out o) off => .ptr (.out (ρ o)) off
 | .map (.out o) => .map (.out (ρ o))
 | .win (.out o) s off len => .win (.out (ρ o)) s off len
 | .fn f a b => .fn f (rnL ρ a) (rnL ρ b)
 | .agg cs => .agg (rnL ρ cs)
 | .tup cs => .tup (rnL ρ cs)
 | a => a
def rnL (ρ : Nat -> Nat) : List AVal -> List AVal
 | [] => []
 | a :: r => rnV ρ a :: rnL ρ r
end
def rnO (ρ : Nat -> Nat) : AObj -> AObj
 | .cells cs => .cells (rnL ρ cs)
 | .map es => .map es
def rnN (ρ : Nat -> Nat) : Name -> Name
 | .out o => .out (ρ o)
 | m => m
def rnH (ρ : Nat -> Nat) : Heap -> Heap
 | [] => []
 |(m, o) :: r => (rnN ρ m, rnO ρ o) :: rnH ρ r
section
variable {w : World} {R : Own} {M M2 : Name -> Option Nat} {ρ : Nat -> Nat}
mutual
theorem RepV.rn (hL : ∀ i, M (.loc i) = none) (hM : ∀ o b, M (.out o) = some b -> M2 (.out (ρ o)) = some b) : ∀ {a : AVal} {v : Value} {bs : List Nat}, RepV w R M a v bs -> RepV w R M2 (rnV ρ a) v bs
 | .dat _, _, _, h => by simp only [rnV, RepV] at h ⊢; exact h
 | .own _, _, _, h => by simp only [rnV, RepV] at h ⊢; exact h
 | .ref _, _, _, h => by simp only [rnV, RepV] at h ⊢; exact h
 | .undef, _, _, h => by simp only [rnV, RepV] at h ⊢; exact h
 | .ptr (.loc i) _, _, _, h => by simp only [RepV] at h; obtain ⟨_, b, h2, _⟩ := h; rw [hL] at h2; simp at h2
 | .map (.loc i), _, _, h => by simp only [RepV] at h; obtain ⟨_, b, h2, _⟩ := h; rw [hL] at h2; simp at h2
 | .win (.loc i) _ _ _, _, _, h => by simp only [RepV] at h; obtain ⟨_, b, cap, h2, _⟩ := h; rw [hL] at h2; simp at h2
 | .ptr (.out o) off, _, _, h => by
  simp only [rnV, RepV] at h ⊢
  obtain ⟨h1, b, h2, h3⟩ := h
  exact ⟨h1, b, hM o b h2, h3⟩
 | .map (.out o), _, _, h => by
  simp only [rnV, RepV] at h ⊢
  obtain ⟨h1, b, h2, h3⟩ := h
  exact ⟨h1, b, hM o b h2, h3⟩
 | .win (.out o) s off len, _, _, h => by
  simp only [rnV, RepV] at h ⊢
  obtain ⟨h1, b, cap, h2, h3⟩ := h
  exact ⟨h1, b, cap, hM o b h2, h3⟩
 | .fn f a b, _, _, h => by
  simp only [rnV, RepV] at h ⊢
  obtain ⟨h1, vs, us, e, h2, h3⟩ := h
  exact ⟨h1, vs, us, e, RepVs.rn hL hM h2, RepVs.rn hL hM h3⟩
 | .agg cs, _, _, h => by
  simp only [rnV, RepV] at h ⊢
  obtain ⟨vs, e, h⟩ := h
  exact ⟨vs, e, RepVs.rn hL hM h⟩
 | .tup cs, _, _, h => by
  simp only [rnV, RepV] at h ⊢
  obtain ⟨vs, e, h⟩ := h
  exact ⟨vs, e, RepVs.rn hL hM h⟩
theorem RepVs.rn (hL : ∀ i, M (.loc i) = none) (hM : ∀ o b, M (.out o) = some b -> M2 (.out (ρ o)) = some b) : ∀ {as : List AVal} {vs : List Value} {bs : List Nat}, RepVs w R M as vs bs -> RepVs w R M2 (rnL ρ as) vs bs
 | [], _, _, h => by simp only [rnL, RepVs] at h ⊢; exact h
 | a :: r, _, _, h => by
  simp only [rnL, RepVs] at h ⊢
  obtain ⟨v, vs', b1, b2, e1, e2, h1, h2⟩ := h
  exact ⟨v, vs', b1, b2, e1, e2, RepV.rn hL hM h1, RepVs.rn hL hM h2⟩
end
/-! .. and back. -/
mutual
theorem RepV.rnBack {k : Nat} (hM : ∀ o b, o < k -> M2 (.out (ρ o)) = some b -> M (.out o) = some b) : ∀ {a : AVal} {v : Value} {bs : List Nat}, newV k a = false -> RepV w R M2 (rnV ρ a) v bs -> RepV w R M a v bs
 | .dat _, _, _, _, h => by simp only [rnV, RepV] at h ⊢; exact h
 | .own _, _, _, _, h => by simp only [rnV, RepV] at h ⊢; exact h
 | .ref _, _, _, _, h => by simp only [rnV, RepV] at h ⊢; exact h
 | .undef, _, _, _, h => by simp only [rnV, RepV] at h ⊢; exact h
 | .ptr (.loc _) _, _, _, hn, _ => by simp [newV] at hn
 | .map (.loc _), _, _, hn, _ => by simp [newV] at hn
 | .win (.loc _) _ _ _, _, _, hn, _ => by simp [newV] at hn
 | .ptr (.out o) off, _, _, hn, h => by
  simp only [newV] at hn
  have ho : o < k := by
   cases Nat.lt_or_ge o k with
   | inl h => exact h
   | inr h => rw [ble_mk h] at hn; simp at hn
  simp only [rnV, RepV] at h ⊢
  obtain ⟨h1, b, h2, h3⟩ := h
  exact ⟨h1, b, hM o b ho h2, h3⟩
 | .map (.out o), _, _, hn, h => by
  simp only [newV] at hn
  have ho : o < k := by
   cases Nat.lt_or_ge o k with
   | inl h => exact h
   | inr h => rw [ble_mk h] at hn; simp at hn
  simp only [rnV, RepV] at h ⊢
  obtain ⟨h1, b, h2, h3⟩ := h
  exact ⟨h1, b, hM o b ho h2, h3⟩
 | .win (.out o) s off len, _, _, hn, h => by
  simp only [newV] at hn
  have ho : o < k := by
   cases Nat.lt_or_ge o k with
   | inl h => exact h
   | inr h => rw [ble_mk h] at hn; simp at hn
  simp only [rnV, RepV] at h ⊢
  obtain ⟨h1, b, cap, h2, h3⟩ := h
  exact ⟨h1, b, cap, hM o b ho h2, h3⟩
 | .fn f a b, _, _, hn, h => by
  simp only [newV, Bool.or_eq_false_iff] at hn
  simp only [rnV, RepV] at h ⊢
  obtain ⟨h1, vs, us, e, h2, h3⟩ := h
  exact ⟨h1, vs, us, e, RepVs.rnBack hM hn.1 h2, RepVs.rnBack hM hn.2 h3⟩
 | .agg cs, _, _, hn, h => by
  simp only [newV] at hn
  simp only [rnV, RepV] at h ⊢
  obtain ⟨vs, e, h⟩ := h
  exact ⟨vs, e, RepVs.rnBack hM hn h⟩
 | .tup cs, _, _, hn, h => by
  simp only [newV] at hn
  simp only [rnV, RepV] at h ⊢
  obtain ⟨vs, e, h⟩ := h
  exact ⟨vs, e, RepVs.rnBack hM hn h⟩
theorem RepVs.rnBack {k : Nat} (hM : ∀ o b, o < k -> M2 (.out (ρ o)) = some b -> M (.out o) = some b) : ∀ {as : List AVal} {vs : List Value} {bs : List Nat}, newL k as = false -> RepVs w R M2 (rnL ρ as) vs bs -> RepVs w R M as vs bs
 | [], _, _, _, h => by simp only [rnL, RepVs] at h ⊢; exact h
 | a :: r, _, _, hn, h => by
  simp only [newL, Bool.or_eq_false_iff] at hn
  simp only [rnL, RepVs] at h ⊢
  obtain ⟨v, vs', b1, b2, e1, e2, h1, h2⟩ := h
  exact ⟨v, vs', b1, b2, e1, e2, RepV.rnBack hM hn.1 h1, RepVs.rnBack hM hn.2 h2⟩
end
theorem isP_rn (a : AVal) : isP (rnV ρ a) = isP a := by
 cases a with
 | ptr n off => cases n <;> rfl
 | map n => cases n <;> rfl
 | win n s off len => cases n <;> rfl
 | _ => rfl
theorem bldSh3 (a b c : AVal) (r : List AVal) : bldSh (a :: b :: c :: r) = false := by
 unfold bldSh
 split <;> rename_i h <;> first | rfl | simp at h
theorem bldSh_rn : ∀ (cs : List AVal), bldSh (rnL ρ cs) = bldSh cs
 | [] => rfl
 | [a] => by
  simp only [rnL]
  unfold bldSh
  split <;> rename_i h <;> simp at h
  rfl
 | [a, b] => by
  simp only [rnL]
  cases b with
  | ptr n off => cases n <;> rfl
  | map n => cases n <;> rfl
  | win n s off len => cases n <;> rfl
  | own es => simp only [rnV, bldSh, isP_rn]
  | dat d =>
   simp only [rnV]
   cases d with
   | slice es => simp only [bldSh, isP_rn]
   | agg es => rfl
   | flat v =>
    have h := isP_rn (ρ := ρ) a
    cases v with
    | slice p len cap =>
     cases p with
     | some _ => rfl
     | none =>
      cases len with
      | succ _ => rfl
      | zero =>
       cases cap with
       | succ _ => rfl
       | zero => exact h
    | _ => rfl
  | _ => rfl
 | a :: b :: c :: r => by
  simp only [rnL, bldSh3]
theorem rnL_append (l m : List AVal) : rnL ρ (l ++ m) = rnL ρ l ++ rnL ρ m := by
 induction l with
 | nil => rfl
 | cons a l ih => simp [rnL, ih]
theorem rnL_undef : ∀ k : Nat, rnL ρ (List.replicate k .undef) = List.replicate k .undef
 | 0 => rfl
 | k + 1 => by simp [List.replicate_succ, rnL, rnV, rnL_undef k]
theorem newL_undef (k : Nat) : ∀ j : Nat, newL k (List.replicate j .undef) = false
 | 0 => rfl
 | j + 1 => by simp [List.replicate_succ, newL, newV, newL_undef k j]
theorem RepObj.rn (hL : ∀ i, M (.loc i) = none) (hM : ∀ o b, M (.out o) = some b -> M2 (.out (ρ o)) = some b) {o : AObj} {b : Nat} {bs : List Nat} (h : RepObj w R M o b bs) : RepObj w R M2 (rnO ρ o) b bs := by
 cases o with
 | map es => simp only [rnO, RepObj] at h ⊢; exact h
 | cells cs =>
  simp only [rnO, RepObj] at h ⊢
  obtain ⟨vs, elem, sp, h1, h2, h3, h4⟩ := h
  refine ⟨vs, elem, sp, h1, ?_, h3, by rw [bldSh_rn]; exact h4⟩
  have := RepVs.rn (ρ := ρ) hL hM (as := cs ++ List.replicate sp .undef) h2
  rwa [rnL_append, rnL_undef] at this
theorem RepObj.rnBack {k : Nat} (hM : ∀ o b, o < k -> M2 (.out (ρ o)) = some b -> M (.out o) = some b) {o : AObj} {b : Nat} {bs : List Nat} (hn : newO k o = false) (h : RepObj w R M2 (rnO ρ o) b bs) : RepObj w R M o b bs := by
 cases o with
 | map es => simp only [rnO, RepObj] at h ⊢; exact h
 | cells cs =>
  simp only [newO] at hn
  simp only [rnO, RepObj] at h ⊢
  obtain ⟨vs, elem, sp, h1, h2, h3, h4⟩ := h
  refine ⟨vs, elem, sp, h1, ?_, h3, by rw [bldSh_rn] at h4; exact h4⟩
  refine RepVs.rnBack (ρ := ρ) hM (as := cs ++ List.replicate sp .undef) (by rw [newL_append, hn, newL_undef]; rfl) ?_
  rw [rnL_append, rnL_undef]
  exact h2
/-- The names of the heap are below k. -/
def lowNames (k : Nat) : Heap -> Bool
 | [] => true
 |(m, _) :: r => oldName k m && lowNames k r
theorem oldName_out {k : Nat} {m : Name} (h : oldName k m = true) : ∃ o, m = .out o /\ o < k := by
 cases m with
 | loc i => simp [oldName] at h
 | out o => exact ⟨o, rfl, blt_to h⟩
theorem RepObjs.rn (hL : ∀ i, M (.loc i) = none) (hM : ∀ o b, M (.out o) = some b -> M2 (.out (ρ o)) = some b) : ∀ {os : Heap} {bs : List Nat}, RepObjs w R M os bs -> RepObjs w R M2 (rnH ρ os) bs
 | [], _, h => h
 |(.loc i, o) :: r, _, ⟨b, b1, b2, e, h1, h2, h3⟩ => by rw [hL] at h1; simp at h1
 |(.out m, o) :: r, _, ⟨b, b1, b2, e, h1, h2, h3⟩ => ⟨b, b1, b2, e, hM m b h1, h2.rn hL hM, RepObjs.rn hL hM h3⟩
theorem RepObjs.rnBack {k : Nat} (hM : ∀ o b, o < k -> M2 (.out (ρ o)) = some b -> M (.out o) = some b) : ∀ {os : Heap} {bs : List Nat}, lowNames k os = true -> newHeap k os = false -> RepObjs w R M2 (rnH ρ os) bs -> RepObjs w R M os bs
 | [], _, _, _, h => h
 |(m, o) :: r, _, hl, hn, ⟨b, b1, b2, e, h1, h2, h3⟩ => by
  simp only [lowNames, Bool.and_eq_true] at hl
  simp only [newHeap, Bool.or_eq_false_iff] at hn
  obtain ⟨i, rfl, hi⟩ := oldName_out hl.1
  exact ⟨b, b1, b2, e, hM i b hi h1, h2.rnBack hM hn.1, RepObjs.rnBack hM hl.2 hn.2 h3⟩
theorem RepObjs.append : ∀ {os os2 : Heap} {bs : List Nat}, RepObjs w R M (os ++ os2) bs -> ∃ b1 b2, bs = b1 ++ b2 /\ RepObjs w R M os b1 /\ RepObjs w R M os2 b2
 | [], os2, bs, h => ⟨[], bs, rfl, rfl, h⟩
 |(m, o) :: r, os2, bs, ⟨b, b1, b2, e, h1, h2, h3⟩ => by
  obtain ⟨c1, c2, e2, k1, k2⟩ := RepObjs.append h3
  subst e
  subst e2
  exact ⟨b :: (b1 ++ c1), c2, by simp, ⟨b, b1, c1, rfl, h1, h2, k1⟩, k2⟩
theorem RepObjs.join : ∀ {os os2 : Heap} {b1 b2 : List Nat}, RepObjs w R M os b1 -> RepObjs w R M os2 b2 -> RepObjs w R M (os ++ os2) (b1 ++ b2)
 | [], os2, b1, b2, h, k => by
  have h : b1 = [] := h
  subst h; exact k
 |(m, o) :: r, os2, _, b2, ⟨b, c1, c2, e, h1, h2, h3⟩, k => by
  subst e
  exact ⟨b, c1, c2 ++ b2, by simp, h1, h2, h3.join k⟩
theorem RepObjs.perm {os os2 : Heap} (hp : os.Perm os2) : ∀ {bs : List Nat}, RepObjs w R M os bs -> ∃ bs', RepObjs w R M os2 bs' /\ bs.Perm bs' := by
 induction hp with
 | nil => intro bs h; exact ⟨bs, h, .refl _⟩
 | cons x _ ih =>
  intro bs h
  obtain ⟨b, b1, b2, e, h1, h2, h3⟩ := h
  obtain ⟨bs', k1, k2⟩ := ih h3
  subst e
  exact ⟨b :: (b1 ++ bs'), ⟨b, b1, bs', rfl, h1, h2, k1⟩, (k2.append_left b1).cons b⟩
 | swap x y l =>
  intro bs h
  obtain ⟨b, b1, _, e, h1, h2, c, c1, c2, e2, k1, k2, k3⟩ := h
  subst e2
  subst e
  refine ⟨c :: (c1 ++ (b :: (b1 ++ c2))), ⟨c, c1, _, rfl, k1, k2, b, b1, c2, rfl, h1, h2, k3⟩, ?_⟩
  rw [← List.cons_append, ← List.cons_append, ← List.append_assoc, ← List.cons_append, ← List.cons_append, ← List.append_assoc]
  exact List.Perm.append_right _ List.perm_append_comm
 | trans _ _ ih1 ih2 =>
  intro bs h
  obtain ⟨b1, k1, k2⟩ := ih1 h
  obtain ⟨b2, k3, k4⟩ := ih2 k1
  exact ⟨b2, k3, k2.trans k4⟩
/-- Each name is one of the heap's. -/
def hasName (o : Nat) : Heap -> Bool
 | [] => false
 |(.out m, _) :: r => Nat.beq m o || hasName o r
 |(.loc _, _) :: r => hasName o r
def allNames (h : Heap) : Nat -> Bool
 | 0 => true
 | k + 1 => hasName k h && allNames h k
theorem RepObjs.named {o : Nat} : ∀ {os : Heap} {bs : List Nat}, hasName o os = true -> RepObjs w R M (rnH ρ os) bs -> ∃ b, M (.out (ρ o)) = some b
 | [], _, h, _ => by simp [hasName] at h
 |(.out m, x) :: r, _, h, ⟨b, b1, b2, e, h1, h2, h3⟩ => by
  simp only [hasName, Bool.or_eq_true] at h
  rcases h with h | h
  ·have := Nat.eq_of_beq_eq_true h
   subst this
   exact ⟨b, h1⟩
  exact RepObjs.named h h3
 |(.loc m, x) :: r, _, h, ⟨b, b1, b2, e, h1, h2, h3⟩ => RepObjs.named (os := r) (by simpa [hasName] using h) h3
theorem allNames_lt {h : Heap} : ∀ {k : Nat}, allNames h k = true -> ∀ o, o < k -> hasName o h = true
 | 0, _, _, ho => by omega
 | k + 1, hh, o, ho => by
  simp only [allNames, Bool.and_eq_true] at hh
  rcases Nat.lt_or_ge o k with h1 | h1
  ·exact allNames_lt hh.2 o h1
  have : o = k := by omega
  subst this; exact hh.1
end
/-- What stands below n0 as ρ says, the rest from d on. -/
def liftN (ρ : Nat -> Nat) (n0 d o : Nat) : Nat := match Nat.blt o n0 with | true => ρ o | false => d + (o - n0)
variable {P : Program} {G : Globs}
/-- A contract, said of the objects that it is about, beside others and under other names. -/
theorem ACalls.frame {g : FuncId} {args0 : List AVal} {h0 : Heap} {n0 : Nat} {Q : AVal -> Heap -> Nat -> Prop} (hc : ACalls P G g args0 h0 n0 Q) (ρ : Nat -> Nat) {heap rest : Heap} {next : Nat}
  (hp : heap.Perm (rnH ρ h0 ++ rest)) (hlow : lowNames n0 h0 = true) (hnew : newHeap n0 h0 = false) (hall : allNames h0 n0 = true) (ha : newL n0 args0 = false) :
  ACalls P G g (rnL ρ args0) heap next (fun v h m => ∃ v0 h1 n1, Q v0 h1 n1 /\ v = rnV (liftN ρ n0 next) v0 /\ h = rnH (liftN ρ n0 next) h1 ++ rest /\ m = next + (n1 - n0)) := by
 intro w R N cargs bsA bsH bsF hargs hheap hnd hnx hglob hF
 obtain ⟨bsP, hP, pP⟩ := hheap.perm hp
 obtain ⟨b1, b2, e, h1, h2⟩ := RepObjs.append hP
 subst e
 let N0 : Name -> Option Nat := fun m => match m with | .loc _ => none | .out o => if o < n0 then N (.out (ρ o)) else none
 have hback : ∀ o b, o < n0 -> outs N (.out (ρ o)) = some b -> outs N0 (.out o) = some b := by
  intro o b ho hb
  simp only [outs] at hb ⊢
  simp only [N0]
  rw [if_pos ho]; exact hb
 have hnd1 : (bsA ++ (b1 ++ (b2 ++ bsF))).Nodup := by
  refine (List.Perm.nodup_iff ?_).1 hnd
  rw [← List.append_assoc b1]
  exact List.Perm.append_left _ (List.Perm.append_right _ pP)
 have h3 := hc w R N0 cargs bsA b1 (b2 ++ bsF) (hargs.rnBack hback ha) (h1.rnBack hback hlow hnew) hnd1 (by
  intro o b ho
  simp only [N0] at ho
  split at ho
  ·assumption
  ·simp at ho) hglob (by
  intro b hb
  rcases List.mem_append.1 hb with hb | hb
  ·exact h2.lt b hb
  exact hF b hb)
 refine h3.mono ?_
 rintro e w' ⟨v0, cv, h1', n1, R', N1, bsV, bsH', rfl, hq, hv, hh, hnd', hnx', hk, hN⟩
 let N2 : Name -> Option Nat := fun m => match m with | .loc i => N (.loc i) | .out x => if x < next then N (.out x) else N1 (.out (x - next + n0))
 have hfwd : ∀ o b, outs N1 (.out o) = some b -> outs N2 (.out (liftN ρ n0 next o)) = some b := by
  intro o b hb
  simp only [outs] at hb ⊢
  unfold liftN
  cases hlt : Nat.blt o n0 with
  | true =>
   have ho := blt_to hlt
   dsimp only
   obtain ⟨b', hb'⟩ := RepObjs.named (M := outs N) (ρ := ρ) (allNames_lt hall o ho) h1
   simp only [outs] at hb'
   have h4 : N0 (.out o) = some b' := by simp only [N0]; rw [if_pos ho]; exact hb'
   have h5 := hN o b' h4
   rw [hb] at h5
   simp only [N2]
   rw [if_pos (hnx _ _ hb'), hb', h5]
  | false =>
   dsimp only
   have ho : ¬ o < n0 := fun h => by rw [← Nat.blt_eq, hlt] at h; simp at h
   simp only [N2]
   rw [if_neg (by omega), show next + (o - n0) - next + n0 = o by omega]
   exact hb
 have hloc : ∀ i, outs N1 (.loc i) = none := fun i => rfl
 refine ⟨_, cv, _, _, R', N2, bsV, bsH' ++ b2, rfl, ⟨v0, h1', n1, hq, rfl, rfl, rfl⟩, hv.rn hloc hfwd, (hh.rn hloc hfwd).join ?_, by simpa using hnd', ?_, hk.sub (by intro b hb; simp [hb]), ?_⟩
 ·have h5 := h2.keep (hk.sub (by intro b hb; simp [hb]))
  refine h5.ext ?_
  intro m b hm
  cases m with
  | loc i => simp [outs] at hm
  | out x =>
   simp only [outs] at hm ⊢
   simp only [N2]
   rw [if_pos (hnx x b hm)]; exact hm
 ·intro x b hx
  simp only [N2] at hx
  split at hx
  ·omega
  have := hnx' _ _ hx
  omega
 intro x b hx
 simp only [N2]
 rw [if_pos (hnx x b hx)]; exact hx
/-- Without the first of that name. -/
def del1 (k : Name) : Heap -> Heap
 | [] => []
 |(m, o) :: r => match nameB m k with | true => r | false => (m, o) :: del1 k r
/-- The objects of those names, and the rest. -/
def gotH : List Nat -> Heap -> Heap
 | [], _ => []
 | p :: ps, h => (match agetF (.out p) h with | some o => (.out p, o) :: gotH ps (del1 (.out p) h) | none => [(.loc 0, .cells [])])
def restH : List Nat -> Heap -> Heap
 | [], h => h
 | p :: ps, h => restH ps (del1 (.out p) h)
theorem aget_perm {k : Name} {o : AObj} : ∀ {h : Heap}, agetF k h = some o -> h.Perm ((k, o) :: del1 k h)
 | [], h => by simp [agetF] at h
 |(m, x) :: r, h => by
  unfold agetF at h
  unfold del1
  split at h
  ·rename_i hm
   rw [hm]
   have := (nameB_iff _ _).1 hm
   subst this
   simp at h
   subst h
   exact .refl _
  rename_i hm
  rw [hm]
  exact ((aget_perm h).cons _).trans (.swap _ _ _)
def noLocs : Heap -> Bool
 | [] => true
 |(.out _, _) :: r => noLocs r
 |(.loc _, _) :: _ => false
theorem got_perm : ∀ {ps : List Nat} {h : Heap}, noLocs (gotH ps h) = true -> h.Perm (gotH ps h ++ restH ps h)
 | [], h, _ => .refl _
 | p :: ps, h, hn => by
  simp only [gotH] at hn ⊢
  simp only [restH]
  split at hn
  ·rename_i o ho
   simp only [noLocs] at hn
   exact (aget_perm ho).trans ((got_perm hn).cons _)
  simp [noLocs] at hn
/-- The names by a list. -/
def rhoL : List Nat -> Nat -> Nat
 | [], o => o
 | p :: _, 0 => p
 | _ :: ps, o + 1 => rhoL ps o
def fitsF (args0 : List AVal) (h0 : Heap) (n0 : Nat) : Bool := lowNames n0 h0 && !newHeap n0 h0 && allNames h0 n0 && !newL n0 args0
def namesH : Heap -> List Nat
 | [] => []
 |(.out m, _) :: r => m :: namesH r
 |(.loc _, _) :: r => namesH r
/-- Newer objects first. -/
def keyN : Name -> Nat
 | .out m => m
 | .loc _ => 0
def insH (x : Name × AObj) : Heap -> Heap
 | [] => [x]
 | y :: r => match Nat.blt (keyN x.1) (keyN y.1) with | true => y :: insH x r | false => x :: y :: r
def sortH : Heap -> Heap
 | [] => []
 | x :: r => insH x (sortH r)
theorem insH_perm (x : Name × AObj) : ∀ l : Heap, (insH x l).Perm (x :: l)
 | [] => .refl _
 | y :: r => by
  simp only [insH]
  split
  ·exact ((insH_perm x r).cons y).trans (.swap x y r)
  exact .refl _
theorem sortH_perm : ∀ l : Heap, (sortH l).Perm l
 | [] => .refl _
 | x :: r => by
  simp only [sortH]
  exact (insH_perm x _).trans ((sortH_perm r).cons x)
theorem ACalls.sorted {g : FuncId} {args : List AVal} {heap : Heap} {next : Nat} {Q : AVal -> Heap -> Nat -> Prop} (h : ACalls P G g args heap next Q) : ACalls P G g args heap next (fun v h m => ∃ h1, Q v h1 m /\ h = sortH h1) := by
 intro w R N cargs bsA bsH bsF ha hh hnd hnx hg hF
 refine (h w R N cargs bsA bsH bsF ha hh hnd hnx hg hF).mono ?_
 rintro e w' ⟨v, cv, h1, next', R', N', bsV, bsH', rfl, hq, hv, hh', hnd', hnx', hk, hN⟩
 obtain ⟨bs2, k1, k2⟩ := hh'.perm (sortH_perm h1).symm
 refine ⟨v, cv, sortH h1, next', R', N', bsV, bs2, rfl, ⟨h1, hq, rfl⟩, hv, k1, ?_, hnx', hk, hN⟩
 exact (List.Perm.nodup_iff (List.Perm.append_left _ (List.Perm.append_right _ k2))).1 hnd'
theorem ACalls.at {g : FuncId} {args0 : List AVal} {h0 : Heap} {n0 : Nat} {Q : AVal -> Heap -> Nat -> Prop} (hc : ACalls P G g args0 h0 n0 Q) (hf : fitsF args0 h0 n0 = true) (ps : List Nat) {args : List AVal} {heap : Heap} {next : Nat}
  (he : args = rnL (rhoL ps) args0) (hg : gotH (namesH (rnH (rhoL ps) h0)) heap = rnH (rhoL ps) h0) (hn : noLocs (gotH (namesH (rnH (rhoL ps) h0)) heap) = true) :
  ACalls P G g args heap next (fun v h m => ∃ v0 h1 n1, Q v0 h1 n1 /\ v = rnV (liftN (rhoL ps) n0 next) v0 /\ h = sortH (rnH (liftN (rhoL ps) n0 next) h1 ++ restH (namesH (rnH (rhoL ps) h0)) heap) /\ m = next + (n1 - n0)) := by
 unfold fitsF at hf
 simp only [Bool.and_eq_true, Bool.not_eq_true'] at hf
 obtain ⟨⟨⟨f1, f2⟩, f3⟩, f4⟩ := hf
 subst he
 have hp := got_perm hn
 have hp2 : heap.Perm (rnH (rhoL ps) h0 ++ restH (namesH (rnH (rhoL ps) h0)) heap) := by
  have e : gotH (namesH (rnH (rhoL ps) h0)) heap ++ restH (namesH (rnH (rhoL ps) h0)) heap = rnH (rhoL ps) h0 ++ restH (namesH (rnH (rhoL ps) h0)) heap := congrArg (· ++ _) hg
  rw [← e]; exact hp
 refine (hc.frame (rhoL ps) hp2 f1 f2 f3 f4).sorted.mono ?_
 rintro v h m ⟨h1, ⟨v0, h2, n1, hq, rfl, rfl, rfl⟩, rfl⟩
 exact ⟨v0, h2, n1, hq, rfl, rfl, rfl⟩
end Go.Tp

namespace Go.Tp
section
variable {P : Program} {E : TEnv} {G : Globs}
theorem ACalls.gcQ {f : FuncId} {args : List AVal} {heap : Heap} {next : Nat} {Q : AVal -> Heap -> Nat -> Prop} (h : ACalls P G f args heap next Q) : ACalls P G f args heap next (fun v h m => ∃ r : XRes, Q r.val r.heap r.next /\ (⟨v, h, m⟩ : XRes) = gcR next r) := by
 intro w R N cargs bsA bsH bsF ha hh hnd hnx hg hF
 refine (h w R N cargs bsA bsH bsF ha hh hnd hnx hg hF).mono ?_
 rintro e w' ⟨val, cv, heap', next', R', N', bsV, bsH', rfl, hq, hv', hh', hnd', hnx', hk, hN⟩
 have key : ∀ r : XRes, r = gcR next ⟨val, heap', next'⟩ -> ∃ R2 N2 bsV2 bsH2, RepV w' R2 (outs N2) r.val cv bsV2 /\ RepObjs w' R2 (outs N2) r.heap bsH2 /\ (bsV2 ++ (bsH2 ++ bsF)).Nodup /\ (∀ o b, N2 (.out o) = some b -> o < r.next) /\ Keep w R w' R2 bsF /\ (∀ o b, N (.out o) = some b -> N2 (.out o) = some b) := by
  intro r hr
  unfold gcR at hr
  dsimp only at hr
  split at hr
  ·rename_i hnew
   subst hr
   simp only [Bool.or_eq_false_iff] at hnew
   obtain ⟨bs', k1, k2⟩ := oldObjs_rep next hh'
   let N2 : Name -> Option Nat := fun m => match m with | .loc i => N' (.loc i) | .out o => if o < next then N' (.out o) else none
   have hM : ∀ o b, o < next -> outs N' (.out o) = some b -> outs N2 (.out o) = some b := by
    intro o b ho hb
    simp only [outs] at hb ⊢
    simp only [N2]
    rw [if_pos ho]; exact hb
   refine ⟨R', N2, bsV, bs', hv'.low hM hnew.1, k1.low hM (oldObjs_old next heap') hnew.2, ?_, ?_, hk, ?_⟩
   ·exact List.Nodup.sublist (List.Sublist.append (.refl _) (List.Sublist.append k2 (.refl _))) hnd'
   ·intro o b hb
    simp only [N2] at hb
    split at hb
    ·assumption
    simp at hb
   intro o b hb
   simp only [N2]
   rw [if_pos (hnx o b hb)]
   exact hN o b hb
  subst hr
  obtain ⟨bs', k1, k2⟩ := keepObjs_rep next (closeL next heap' 3 (outsV val)) hh'
  exact ⟨R', N', bsV, bs', hv', k1, List.Nodup.sublist (List.Sublist.append (.refl _) (List.Sublist.append k2 (.refl _))) hnd', hnx', hk, hN⟩
 obtain ⟨R2, N2, bsV2, bsH2, k⟩ := key _ rfl
 exact ⟨_, cv, _, _, R2, N2, bsV2, bsH2, rfl, ⟨⟨val, heap', next'⟩, hq, rfl⟩, k⟩
theorem aret_mono {rs : List ResultVar} {Q Q' : AVal -> List (Name × AObj) -> Nat -> Prop} {s : AState} (hq : ∀ v h n, Q v h n -> Q' v h n) (h : aret E rs Q s) : aret E rs Q' s := by
 unfold aret at h ⊢
 generalize retVals E s rs = rv at h ⊢
 cases rv with
 | none => exact h
 | some vs =>
  dsimp only at h ⊢
  by_cases hn : noLocL (tidyL vs) = true
  ·rw [if_pos hn] at h ⊢
   exact hq _ _ _ h
  rw [if_neg hn] at h ⊢
  generalize expAll (repeatL s.locs.length (locNames s.locs)) s (tidyL vs) = x at h ⊢
  obtain ⟨s', vs'⟩ := x
  dsimp only at h ⊢
  by_cases hn2 : noLocL vs' = true
  ·rw [if_pos hn2] at h ⊢
   exact hq _ _ _ h
  rw [if_neg hn2] at h ⊢
  exact h
/-- A function's contract. -/
theorem qfun_ok {A B : Nat -> Bool} {moves caps : FuncId -> Bool} {F : FuncId -> Option XFn} (hE : E.Ok P) (hF : FOk P moves caps F) {g : FuncId} {x : XFn} (hx : F g = some x) {args : List AVal} {heap : Heap} {next : Nat} {T : XRes -> Prop}
  (h : bndL args -> bndO heap -> (qfun A B E G moves caps x g args heap next).Ok P G T) : ACalls P G g args heap next (fun v h m => T ⟨v, h, m⟩) := by
 obtain ⟨fn, h1, h2, h3, h4, h5⟩ := hF g x hx
 have h6 : ACalls P G g args heap next (fun v h m => T (gcR next ⟨v, h, m⟩)) := by
  refine acalls_of_acode hE h1 h2 ?_
  intro b1 b2
  have h := (h b1 b2).ok
  rw [h3, h4]
  unfold qfun at h
  split at h
  ·exact h.elim
  rename_i hlen
  have hlen := ble_to hlen
  have hent : (⟨slOf 0 args, [], heap, next⟩ : FState).toA x.ntmps = enter x.ntmps args heap next := by
   simp only [FState.toA, enter]
   congr 1
   apply List.ext_getElem?
   intro i
   rw [mkS_get, Nat.zero_add, slOf_get, if_pos (Nat.zero_le _), Nat.sub_zero, List.getElem?_append]
   split
   ·split
    ·rename_i hi; unfold getT; rw [List.getElem?_eq_getElem hi]
    rename_i hi1 hi
    rw [List.getElem?_replicate, if_pos (by omega)]
    unfold getT
    rw [List.getElem?_eq_none (by omega)]
   rename_i hi
   rw [if_neg (by omega), List.getElem?_replicate, if_neg (by omega)]
  rw [← hent]
  refine (qcode_ok (H := ⟨moves, x.ord, caps, rowsOf caps g⟩) hE x.live x.code _ _ (by rw [chkAll_rows]; exact h5) h).mono ?_
  rintro e s ⟨f', rfl, h'⟩
  have key : (match fret E x.ntmps x.results f' with | some r => (Qy.fin (gcR next r) : Qy XRes) | none => .fail).OkR P G T -> aret E x.results (fun v h m => T (gcR next ⟨v, h, m⟩)) (f'.toA x.ntmps) := by
   intro hh
   split at hh
   ·rename_i r hr
    have := xret_sound (E := E) (rs := x.results) (s := f'.toA x.ntmps) (r := r) (by rw [fret_eq]; exact hr)
    exact aret_mono (by rintro v h m ⟨rfl, rfl, rfl⟩; exact hh) this
   exact hh.elim
  cases e with
  | ret => exact key h'
  | normal => exact key h'
  | _ => exact h'.elim
 refine h6.gcQ.mono ?_
 rintro v h m ⟨r, hr, e⟩
 rw [e]; exact hr
/-! ### Loops -/
/-- A loop: I m s is what holds at the head of a round, m goes down. -/
theorem loopM {c : Code} {T : Exit -> AState -> Prop} (I : Nat -> AState -> Prop)
  (step : ∀ m s, I m s -> ACode P G c (seqQ (fun s' => ∃ m', m' < m /\ I m' s') T) s) {m : Nat} {s : AState} (h : I m s) : ACode P G (.loop c) T s := by
 intro w R N act bsT bsL bsH bsF hr D hd
 refine wpR_loop_ghost (I := fun k a w' => ∃ s1 R' N' bsT' bsL' bsH', I k s1 /\ RelB G w' R' N' a.tmps.toList s1 undef .undef [] bsT' bsL' bsH' bsF /\ a.defers = D /\ Keep w R w' R' bsF /\ (∀ o b, N (.out o) = some b -> N' (.out o) = some b)) (n0 := m) ?_ ?_
 ·exact ⟨s, R, N, bsT, bsL, bsH, h, hr, hd, keep_refl _, fun _ _ h => h⟩
 rintro k a w' ⟨s1, R', N', bsT', bsL', bsH', hI, hr', hd', hk, hN⟩
 refine wpR_mono (step k s1 hI w' R' N' a bsT' bsL' bsH' bsF hr' hd') ?_
 rintro e a2 w2 ⟨s2, R2, N2, bsT2, bsL2, bsH2, hq, hr2, hd2, hk2, hN2⟩
 cases e with
 | normal =>
  obtain ⟨m', hlt, hI'⟩ := hq
  exact ⟨m', hlt, s2, R2, N2, bsT2, bsL2, bsH2, hI', hr2, hd2, hk.trans hk2, fun o b h => hN2 o b (hN o b h)⟩
 | _ => exact ⟨s2, R2, N2, bsT2, bsL2, bsH2, hq, hr2, hd2, hk.trans hk2, fun o b h => hN2 o b (hN o b h)⟩
/-- Code from a run that asks; what is said of the end is said of abstract states. -/
theorem qcode_run {A B : Nat -> Bool} {H : Hints} {n : Nat} (hE : E.Ok P) (live : Nat -> Nat) {c : Code} (hc : chkAll H c = true) {f : FState} {T : Exit -> AState -> Prop}
  (h : (qcode A B E G H n live c f (fun r => .fin r)).Ok P G (fun r => T r.1 (r.2.toA n))) : ACode P G c T (f.toA n) := by
 refine (qcode_ok hE live c f (fun r => .fin r) hc h.ok).mono ?_
 rintro e s ⟨f', rfl, h'⟩
 exact h'
end
/-! ### Answers -/
section
variable {P : Program} {G : Globs} {α : Type} {T : α -> Prop}
def Qy.fin? : Qy α -> Option α
 | .fin a => some a
 | _ => none
def Qy.bool? : Qy α -> Option Bool
 | .bool _ b _ => some b
 | _ => none
def Qy.ofB : Qy α -> Bool -> Qy α
 | .bool _ _ k, b => k b
 | _, _ => .fail
def Qy.out? : Qy α -> Option (Option Out)
 | .out _ o _ => some o
 | _ => none
def Qy.ofO : Qy α -> Out -> Qy α
 | .out _ _ k, x => k x
 | _, _ => .fail
def Qy.fn? : Qy α -> Option FuncId
 | .res g _ _ _ _ => some g
 | _ => none
def Qy.argsR : Qy α -> List AVal
 | .res _ args _ _ _ => args
 | _ => []
def Qy.nextR : Qy α -> Nat
 | .res _ _ _ next _ => next
 | _ => 0
def Qy.heapR : Qy α -> Heap
 | .res _ _ h _ _ => h
 | _ => []
def Qy.ofR : Qy α -> XRes -> Qy α
 | .res _ _ _ _ k, r => k r
 | _, _ => .fail
def Qy.ofS : Qy α -> Qy α
 | .stay _ _ k => k
 | _ => .fail
def Qy.loop? : Qy α -> Option (Nat × Code)
 | .loop n c _ _ => some (n, c)
 | _ => none
def Qy.loopF : Qy α -> FState
 | .loop _ _ f _ => f
 | _ => ⟨[], [], [], 0⟩
def Qy.ofL : Qy α -> Exit × FState -> Qy α
 | .loop _ _ _ k, r => k r
 | _, _ => .fail
theorem ok_fin {q : Qy α} {a : α} (e : q.fin? = some a) (h : T a) : q.Ok P G T := by
 cases q with
 | fin x => simp only [Qy.fin?, Option.some.injEq] at e; subst e; exact ⟨h⟩
 | _ => simp [Qy.fin?] at e
theorem ok_bool {q : Qy α} {c b : Bool} (hc : c = b) (e : q.bool? = some c) (h : (q.ofB b).Ok P G T) : q.Ok P G T := by
 cases q with
 | bool _ x k => simp only [Qy.bool?, Option.some.injEq] at e; subst e; subst hc; exact ⟨h.ok⟩
 | _ => simp [Qy.bool?] at e
theorem ok_out {q : Qy α} {o : Option Out} {x : Out} (ho : o = some x) (e : q.out? = some o) (h : (q.ofO x).Ok P G T) : q.Ok P G T := by
 cases q with
 | out _ y k => simp only [Qy.out?, Option.some.injEq] at e; subst e; exact ⟨⟨x, ho, h.ok⟩⟩
 | _ => simp [Qy.out?] at e
theorem ok_loop {q : Qy α} {n : Nat} {c : Code} {f : FState} {L : Exit -> AState -> Prop} (e : q.loop? = some (n, c)) (hs : q.loopF.toA n = f.toA n) (hl : ACode P G (.loop c) L (f.toA n))
  (h : ∀ ex s, L ex s -> ∃ f', s = f'.toA n /\ (q.ofL (ex, f')).Ok P G T) : q.Ok P G T := by
 cases q with
 | loop n' c' f' k =>
  simp only [Qy.loop?, Option.some.injEq, Prod.mk.injEq] at e
  obtain ⟨rfl, rfl⟩ := e
  simp only [Qy.loopF] at hs
  refine ⟨?_⟩
  show ACode P G (.loop c') _ (f'.toA n')
  rw [hs]
  exact hl.mono (fun e s hL => by obtain ⟨f2, h1, h2⟩ := h e s hL; exact ⟨f2, h1, h2.ok⟩)
 | _ => simp [Qy.loop?] at e
/-! Many answers at once. -/
inductive Ans where
 |b (x : Bool)
 |o (x : Out)
 |s
def Qy.after : List Ans -> Qy α -> Qy α
 | [], q => q
 | .b x :: r, q => (q.ofB x).after r
 | .o x :: r, q => (q.ofO x).after r
 | .s :: r, q => (q.ofS).after r
end
end Go.Tp

namespace Go.Tp
mutual
/-- Every object that is named is one of p. -/
def okV (p : Nat -> Bool) : AVal -> Bool
 | .ptr (.out o) _ => p o
 | .map (.out o) => p o
 | .win (.out o) _ _ _ => p o
 | .fn _ a b => okVs p a && okVs p b
 | .agg cs => okVs p cs
 | .tup cs => okVs p cs
 | _ => true
def okVs (p : Nat -> Bool) : List AVal -> Bool
 | [] => true
 | a :: r => okV p a && okVs p r
end
def okO (p : Nat -> Bool) : AObj -> Bool
 | .cells cs => okVs p cs
 | .map _ => true
def okH (p : Nat -> Bool) : Heap -> Bool
 | [] => true
 |(.out m, o) :: r => p m && okO p o && okH p r
 |(.loc _, o) :: r => okO p o && okH p r
section
variable {w : World} {R : Own} {M M2 : Name -> Option Nat} {ρ : Nat -> Nat} {p : Nat -> Bool}
mutual
theorem RepV.rnP (hL : ∀ i b, M (.loc i) = some b -> M2 (.loc i) = some b) (hM : ∀ o b, p o = true -> M (.out o) = some b -> M2 (.out (ρ o)) = some b) : ∀ {a : AVal} {v : Value} {bs : List Nat}, okV p a = true -> RepV w R M a v bs -> RepV w R M2 (rnV ρ a) v bs
 | .dat _, _, _, _, h => by simp only [rnV, RepV] at h ⊢; exact h
 | .own _, _, _, _, h => by simp only [rnV, RepV] at h ⊢; exact h
 | .ref _, _, _, _, h => by simp only [rnV, RepV] at h ⊢; exact h
 | .undef, _, _, _, h => by simp only [rnV, RepV] at h ⊢; exact h
 | .ptr (.loc i) _, _, _, _, h => by simp only [rnV, RepV] at h ⊢; obtain ⟨h1, b, h2, h3⟩ := h; exact ⟨h1, b, hL _ _ h2, h3⟩
 | .map (.loc i), _, _, _, h => by simp only [rnV, RepV] at h ⊢; obtain ⟨h1, b, h2, h3⟩ := h; exact ⟨h1, b, hL _ _ h2, h3⟩
 | .win (.loc i) _ _ _, _, _, _, h => by simp only [rnV, RepV] at h ⊢; obtain ⟨h1, b, cap, h2, h3⟩ := h; exact ⟨h1, b, cap, hL _ _ h2, h3⟩
 | .ptr (.out o) off, _, _, hp, h => by
  simp only [rnV, RepV] at h ⊢
  obtain ⟨h1, b, h2, h3⟩ := h
  exact ⟨h1, b, hM o b hp h2, h3⟩
 | .map (.out o), _, _, hp, h => by
  simp only [rnV, RepV] at h ⊢
  obtain ⟨h1, b, h2, h3⟩ := h
  exact ⟨h1, b, hM o b hp h2, h3⟩
 | .win (.out o) s off len, _, _, hp, h => by
  simp only [rnV, RepV] at h ⊢
  obtain ⟨h1, b, cap, h2, h3⟩ := h
  exact ⟨h1, b, cap, hM o b hp h2, h3⟩
 | .fn f a b, _, _, hp, h => by
  simp only [okV, Bool.and_eq_true] at hp
  simp only [rnV, RepV] at h ⊢
  obtain ⟨h1, vs, us, e, h2, h3⟩ := h
  exact ⟨h1, vs, us, e, RepVs.rnP hL hM hp.1 h2, RepVs.rnP hL hM hp.2 h3⟩
 | .agg cs, _, _, hp, h => by
  simp only [rnV, RepV] at h ⊢
  obtain ⟨vs, e, h⟩ := h
  exact ⟨vs, e, RepVs.rnP hL hM (by simpa only [okV] using hp) h⟩
 | .tup cs, _, _, hp, h => by
  simp only [rnV, RepV] at h ⊢
  obtain ⟨vs, e, h⟩ := h
  exact ⟨vs, e, RepVs.rnP hL hM (by simpa only [okV] using hp) h⟩
theorem RepVs.rnP (hL : ∀ i b, M (.loc i) = some b -> M2 (.loc i) = some b) (hM : ∀ o b, p o = true -> M (.out o) = some b -> M2 (.out (ρ o)) = some b) : ∀ {as : List AVal} {vs : List Value} {bs : List Nat}, okVs p as = true -> RepVs w R M as vs bs -> RepVs w R M2 (rnL ρ as) vs bs
 | [], _, _, _, h => by simp only [rnL, RepVs] at h ⊢; exact h
 | a :: r, _, _, hp, h => by
  simp only [okVs, Bool.and_eq_true] at hp
  simp only [rnL, RepVs] at h ⊢
  obtain ⟨v, vs', b1, b2, e1, e2, h1, h2⟩ := h
  exact ⟨v, vs', b1, b2, e1, e2, RepV.rnP hL hM hp.1 h1, RepVs.rnP hL hM hp.2 h2⟩
end
theorem okVs_append (l m : List AVal) : okVs p (l ++ m) = (okVs p l && okVs p m) := by
 induction l with
 | nil => simp [okVs]
 | cons a l ih => simp [okVs, ih, Bool.and_assoc]
theorem okVs_undef : ∀ j : Nat, okVs p (List.replicate j .undef) = true
 | 0 => rfl
 | j + 1 => by simp [List.replicate_succ, okVs, okV, okVs_undef j]
theorem RepObj.rnP (hL : ∀ i b, M (.loc i) = some b -> M2 (.loc i) = some b) (hM : ∀ o b, p o = true -> M (.out o) = some b -> M2 (.out (ρ o)) = some b) {o : AObj} {b : Nat} {bs : List Nat} (hp : okO p o = true) (h : RepObj w R M o b bs) : RepObj w R M2 (rnO ρ o) b bs := by
 cases o with
 | map es => simp only [rnO, RepObj] at h ⊢; exact h
 | cells cs =>
  simp only [okO] at hp
  simp only [rnO, RepObj] at h ⊢
  obtain ⟨vs, elem, sp, h1, h2, h3, h4⟩ := h
  refine ⟨vs, elem, sp, h1, ?_, h3, by rw [bldSh_rn]; exact h4⟩
  have := RepVs.rnP (ρ := ρ) hL hM (as := cs ++ List.replicate sp .undef) (by rw [okVs_append, hp, okVs_undef]; rfl) h2
  rwa [rnL_append, rnL_undef] at this
theorem RepObjs.rnP (hL : ∀ i b, M (.loc i) = some b -> M2 (.loc i) = some b) (hM : ∀ o b, p o = true -> M (.out o) = some b -> M2 (.out (ρ o)) = some b) : ∀ {os : Heap} {bs : List Nat}, okH p os = true -> RepObjs w R M os bs -> RepObjs w R M2 (rnH ρ os) bs
 | [], _, _, h => h
 |(.loc i, o) :: r, _, hp, ⟨b, b1, b2, e, h1, h2, h3⟩ => by
  simp only [okH, Bool.and_eq_true] at hp
  exact ⟨b, b1, b2, e, hL i b h1, h2.rnP hL hM hp.1, RepObjs.rnP hL hM hp.2 h3⟩
 |(.out m, o) :: r, _, hp, ⟨b, b1, b2, e, h1, h2, h3⟩ => by
  simp only [okH, Bool.and_eq_true] at hp
  exact ⟨b, b1, b2, e, hM m b hp.1.1 h1, h2.rnP hL hM hp.1.2, RepObjs.rnP hL hM hp.2 h3⟩
end
/-- A step that the program does not take; names from k0 on may be given anew. -/
def GhostK (G : Globs) (k0 : Nat) (s s2 : AState) : Prop :=
 ∀ (w : World) (R : Own) (N : Name -> Option Nat) (tmps : List Value) (bsT bsL bsH bsF : List Nat), RelB G w R N tmps s undef .undef [] bsT bsL bsH bsF ->
  ∃ R' N' bsT' bsL' bsH', RelB G w R' N' tmps s2 undef .undef [] bsT' bsL' bsH' bsF /\ Keep w R w R' bsF /\ (∀ o b, o < k0 -> N (.out o) = some b -> N' (.out o) = some b)
theorem GhostK.refl (G : Globs) (k0 : Nat) (s : AState) : GhostK G k0 s s := fun _ R N _ bsT bsL bsH _ h => ⟨R, N, bsT, bsL, bsH, h, keep_refl _, fun _ _ _ h => h⟩
section
variable {P : Program} {G : Globs}
end
/-- Where a name stands in a list. -/
def idxN (o : Nat) : List Nat -> Nat -> Nat
 | [], _ => o
 | q :: r, k => match Nat.beq q o with | true => k | false => idxN o r (k + 1)
/-- Objects of these names alone. -/
def restrictH (q : Nat -> Bool) : Heap -> Heap
 | [] => []
 |(.out m, o) :: r => (match q m with | true => (.out m, o) :: restrictH q r | false => restrictH q r)
 |(.loc m, o) :: r => (.loc m, o) :: restrictH q r
theorem restrictH_rep {w : World} {R : Own} {M : Name -> Option Nat} (q : Nat -> Bool) : ∀ {os : Heap} {bs : List Nat}, RepObjs w R M os bs -> ∃ bs', RepObjs w R M (restrictH q os) bs' /\ bs'.Sublist bs
 | [], bs, h => ⟨bs, h, .refl _⟩
 |(.out m, o) :: os, _, ⟨b, b1, b2, e, hn, ho, hr⟩ => by
  subst e
  obtain ⟨bs', k1, k2⟩ := restrictH_rep q hr
  simp only [restrictH]
  split
  ·exact ⟨b :: (b1 ++ bs'), ⟨b, b1, bs', rfl, hn, ho, k1⟩, (List.Sublist.append (.refl _) k2).cons_cons _⟩
  exact ⟨bs', k1, k2.trans ((List.sublist_append_right b1 b2).cons _)⟩
 |(.loc m, o) :: os, _, ⟨b, b1, b2, e, hn, ho, hr⟩ => by
  subst e
  obtain ⟨bs', k1, k2⟩ := restrictH_rep q hr
  exact ⟨b :: (b1 ++ bs'), ⟨b, b1, bs', rfl, hn, ho, k1⟩, (List.Sublist.append (.refl _) k2).cons_cons _⟩
theorem idxN_lt {o : Nat} : ∀ {ps : List Nat} {k : Nat}, memN o ps = true -> k <= idxN o ps k /\ idxN o ps k < k + ps.length /\ ps[idxN o ps k - k]? = some o
 | [], k, h => by simp [memN] at h
 | q :: r, k, h => by
  simp only [idxN]
  cases hq : Nat.beq q o with
  | true =>
   have := Nat.eq_of_beq_eq_true hq
   subst this
   dsimp only
   refine ⟨Nat.le_refl _, by simp, by simp⟩
  | false =>
   dsimp only
   have h2 : memN o r = true := by
    simp only [memN, hq] at h
    exact h
   obtain ⟨h3, h4, h5⟩ := idxN_lt (ps := r) (k := k + 1) h2
   refine ⟨by omega, by simp; omega, ?_⟩
   rw [show idxN o r (k + 1) - k = (idxN o r (k + 1) - (k + 1)) + 1 by omega]
   simpa using h5
end Go.Tp

namespace Go.Tp
open Go.Deep
/-! ### Pieces of code -/
section
variable {X : XCalls} {E : TEnv} {G : Globs} {H : Hints} {n : Nat} {live : Nat -> Nat} {fuel : Nat}
end
/-! ### The last step -/
/-- No cell may be written: what a call that comes from outside finds. -/
def noOwn : Own := fun _ _ => False
theorem glob_size {P : Program} {W : World} {name : String} {g n : Nat} {cs : Array Value} (hg : P.globalNamed name = some g) (hvar : W.var? P name = some cs) (hn : cs.size = n) : g < W.heap.size /\ rowSize W g = n := by
 simp only [World.var?, hg, Option.bind_some] at hvar
 unfold rowSize
 split at hvar
 ·rename_i h
  obtain rfl := Option.some.inj hvar
  exact ⟨lt_of_heap h, by rw [h]; exact hn⟩
 simp at hvar
/-- A package-level variable that holds a slice of strings. -/
theorem glob_strs {P : Program} {W : World} {name : String} {g : Nat} {t e : TypeId} {l : List (List UInt8)} (hg : P.globalNamed name = some g) (hty : (P.globals[g]?).map (·.type) = some t) (ht : P.underlying t = some (.slice e)) (he : P.underlying e = some .string) (hc : P.cellsOf e = 1)
  (hlen : l.length <= lim) (h : ∃ g t cs fuel p, P.globalNamed name = some g /\ (P.globals[g]?).map (·.type) = some t /\ W.var? P name = some cs /\ DataW.trod (fun _ => ()) P W 0 (fun _ => true) false fuel t cs.toList = some (.slice (l.map fun b => .lit (.string b)) [], p)) :
  GlobAt W noOwn g [.slice (l.map fun b => .flat (.string ⟨⟨b⟩⟩))] := by
 obtain ⟨g', t', cs, fuel, p, hg', ht', hvar, hd⟩ := h
 obtain rfl := Option.some.inj (hg.symm.trans hg')
 obtain rfl := Option.some.inj (hty.symm.trans ht')
 have hcell := World.var?_cell hg hvar 0
 rcases open_slice1 ht hc hd with ⟨_, h0⟩ | ⟨a, len, cap, m, k, V, D, Pl, hcs, _, hl, hm, hmm, hx, hi⟩
 ·simp at h0
 refine ⟨⟨?_, trivial⟩, glob_size hg hvar (by rw [← Array.length_toList, hcs]; rfl)⟩
 have h0 : cs[0]? = some (.slice (some a) len cap) := by
  have : cs.toList[0]? = some (.slice (some a) len cap) := by rw [hcs]; rfl
  simpa using this
 refine ⟨_, hcell.trans h0, fun h => h, ?_⟩
 simp only [Prod.mk.injEq, DataW.slice.injEq] at hx
 obtain ⟨⟨hx1, _⟩, _⟩ := hx
 have hll : l.length = len := by have := congrArg List.length hx1; simpa using this
 have hlm : len <= m := by rw [hmm]; split <;> omega
 have hel : ∀ (i : Nat) b, l[i]? = some b -> V i = .string ⟨⟨b⟩⟩ /\ b.length <= maxLen := by
  intro i b hb
  have hil : i < len := by rw [← hll]; exact (List.getElem?_eq_some_iff.1 hb).1
  obtain ⟨_, h2⟩ := hi i (by omega)
  obtain ⟨s, e1, e2, e3⟩ := DataW.trod_string he h2
  have h3 : ((List.range len).map D)[i]? = (l.map fun b => (DataW.lit (.string b) : DataW Unit))[i]? := by rw [hx1]
  rw [List.getElem?_map, List.getElem?_map, hb, List.getElem?_range hil] at h3
  simp only [Option.map_some, Option.some.injEq] at h3
  simp only [List.cons.injEq, and_true] at e1
  simp only [Prod.mk.injEq] at e2
  rw [h3] at e2
  simp at e2
  obtain ⟨⟨sl⟩⟩ := s
  simp at e2
  rw [e1, e2.1]
  exact ⟨rfl, e3⟩
 cases hz : len with
 | zero =>
  have : l = [] := List.length_eq_zero_iff.1 (by omega)
  subst this
  exact .nil _ _
 | succ k0 =>
  have hsp : a.spot = none := by
   have := (hi 0 (by omega)).1
   have := World.cell?_spot this
   simpa [Addr.add] using this
  obtain ⟨b, off, spot⟩ := a
  simp only at hsp
  subst hsp
  have e : k0 + 1 = (l.map fun b => (Dat.flat (.string ⟨⟨b⟩⟩) : Dat)).length := by simp; omega
  rw [e]
  refine .slice b off cap 1 _ (fun i _ => V i) (by omega) ?_ (by simp; omega) (by simpa using hlen) ?_ ?_
  ·intro d hd
   obtain ⟨x, _, rfl⟩ := List.mem_map.1 hd
   rfl
  ·intro i j hil hj
   obtain rfl : j = 0 := by omega
   simp at hil
   refine ⟨?_, fun h => h⟩
   have := (hi i (by omega)).1
   simp only [Addr.add] at this
   simp only [Nat.mul_one, Nat.add_zero]
   split at this
   ·rename_i h0; subst h0; exact this
   exact this
  intro i j d c hd hc
  rw [List.getElem?_map] at hd
  cases hb : l[i]? with
  | none => rw [hb] at hd; simp at hd
  | some x =>
   rw [hb] at hd
   simp at hd
   subst hd
   obtain ⟨e1, e2⟩ := hel i x hb
   have : c = .flat (.string ⟨⟨x⟩⟩) := by
    cases j with
    | zero => simp [Dat.cells] at hc; exact hc.symm
    | succ j => simp [Dat.cells] at hc
   subst this
   rw [e1]
   refine .flat ?_
   simp only [isFlat, decide_eq_true_eq]
   have : (ByteArray.mk ⟨x⟩).size = x.length := rfl
   rw [this]
   unfold maxLen at e2
   omega
theorem keptBut_of_step {W W' : World} {R' : Own} (h : Step W noOwn W' R') : W.keptBut W' (fun _ => False) := by
 refine ⟨h.os, h.output, fun i hi => ?_⟩
 rw [(h.block i hi (fun _ h => h)).1]
 split
 ·rename_i e1 e2
  rw [e1] at e2
  simp at e2
  obtain ⟨rfl, rfl, rfl⟩ := e2
  exact ⟨rfl, rfl, rfl, fun _ _ => rfl⟩
 ·rename_i e1 e2
  rw [e1] at e2
  simp at e2
  obtain ⟨rfl, rfl⟩ := e2
  exact .inr ⟨rfl, rfl⟩
 rfl
end Go.Tp

namespace Go.Tp
section
variable {X : XCalls} {E : TEnv} {G : Globs} {H : Hints} {n : Nat}
/-- An element of a row. -/
theorem idx_win {t : TypeId} {ti : TI} {m : Name} {s off len k : Nat} (he : elemOf E t = some ti) (hs : s = ti.size) (hk : k < len) :
  aIndexAddr E t [.win m s off len, .dat (.flat (.int .i64 (Int.ofNat k)))] = some ⟨.ptr m (off + k * s), .keep⟩ := by
 have h1 : Nat.blt k len = true := by rw [Nat.blt_eq]; exact hk
 have h2 : Nat.beq s ti.size = true := by rw [Nat.beq_eq]; exact hs
 simp only [aIndexAddr, he, h1, h2]
 simp
/-! ### Rounds of a loop -/
/-- What the quick run reads of a slice. -/
theorem fast_elt {es : List Dat} {i : Nat} {d : Dat} (h : es[i]? = some d) : Prims.fast.elt es (Int.ofNat i) = some d := by
 show getF es i = some d
 rw [getF_eq]; exact h
end
end Go.Tp

namespace Go.Tp
variable {E : TEnv}
/-- An element, by its number. -/
theorem ans_idx {t : TypeId} {ti : TI} {es : List Dat} {i : Nat} {d : Dat} (he : elemOf E t = some ti) (hp : E.pr = Prims.fast) (h : es[i]? = some d) (hs : d.cells.length = ti.size) (h0 : 0 < ti.size) :
  aIndexAddr E t [.dat (.slice es), .dat (.flat (.int .i64 (Int.ofNat i)))] = some ⟨.ref d.cells, .keep⟩ := by
 have hel : E.pr.elt es (Int.ofNat i) = some d := by rw [hp]; exact fast_elt h
 simp only [aIndexAddr, he, hel]
 rw [if_pos ⟨hs, h0⟩]
theorem sizedB_of {k : Nat} {l : List Dat} (h : ∀ d ∈ l, d.cells.length = k) : sizedB k l = true := sizedB_iff.2 h
theorem ltF_of {i L : Nat} : ltF (Int.ofNat i) (Int.ofNat L) = decide (i < L) := by rw [ltF_eq]; simp
theorem ltF_yes {i L : Nat} (h : i < L) : ltF (Int.ofNat i) (Int.ofNat L) = true := by rw [ltF_of, decide_eq_true h]
theorem ltF_no {i L : Nat} (h : ¬ i < L) : ltF (Int.ofNat i) (Int.ofNat L) = false := by rw [ltF_of, decide_eq_false h]
theorem wrap_of {i : Nat} (h : i < 9223372036854775807) : wrapF .i64 (Int.ofNat i + 1) = Int.ofNat (i + 1) := by
 rw [wrapF_eq]
 exact wrap_i64 (by simp; omega) (by simp; omega)
theorem eqF_of {i L : Nat} : eqF (Int.ofNat i) (Int.ofNat L) = decide (i = L) := by
 rw [eqF_eq]
 by_cases h : i = L
 ·subst h; simp
 rw [decide_eq_false h]
 simp only [beq_eq_false_iff_ne]
 exact fun e => h (Int.ofNat.inj e)
end Go.Tp

namespace Go.Tp
/-- The rounds of the loops in a piece of code, in the order of the text. -/
noncomputable def loopsIn (c : Code) : List Code :=
 Code.rec (motive := fun _ => List Code)
  (skip := []) (region := fun _ _ _ => []) (seq := fun _ _ ix iy => ix ++ iy) (cond := fun _ _ _ ix iy => ix ++ iy) (block := fun _ _ ic => ic) (loop := fun c ic => c :: ic)
  (rangeFunc := fun _ _ _ _ _ _ => []) (exit := fun _ => []) (scope := fun _ ic => ic) (label := fun _ => []) (goto := fun _ => []) (ret := []) (refuse := fun _ => []) c
noncomputable def roundOf (fn : Func) (k : Nat) : Code := match (loopsIn (match fn.body with | some c => c | none => .skip))[k]? with | some c => c | none => .skip
/-- A set of numbers. -/
def inL (l : List Nat) (t : Nat) : Bool := memN t l
/-! ### Pointers that a callee does not look at -/
mutual
def npV : AVal -> AVal
 | .ptr _ _ => .undef
 | .map _ => .undef
 | .win _ _ _ _ => .undef
 | .fn f a b => .fn f (npL a) (npL b)
 | .agg cs => .agg (npL cs)
 | .tup cs => .tup (npL cs)
 | a => a
def npL : List AVal -> List AVal
 | [] => []
 | a :: r => npV a :: npL r
end
section
variable {w : World} {R : Own} {M M2 : Name -> Option Nat}
mutual
theorem RepV.np : ∀ {a : AVal} {v : Value} {bs : List Nat}, RepV w R M a v bs -> RepV w R M2 (npV a) v bs
 | .dat _, _, _, h => by simp only [npV, RepV] at h ⊢; exact h
 | .own _, _, _, h => by simp only [npV, RepV] at h ⊢; exact h
 | .ref _, _, _, h => by simp only [npV, RepV] at h ⊢; exact h
 | .undef, _, _, h => by simp only [npV, RepV] at h ⊢; exact h
 | .ptr _ _, _, _, h => by simp only [npV, RepV] at h ⊢; exact h.1
 | .map _, _, _, h => by simp only [npV, RepV] at h ⊢; exact h.1
 | .win _ _ _ _, _, _, h => by simp only [npV, RepV] at h ⊢; exact h.1
 | .fn f a b, _, _, h => by
  simp only [npV, RepV] at h ⊢
  obtain ⟨h1, vs, us, e, h2, h3⟩ := h
  exact ⟨h1, vs, us, e, RepVs.np h2, RepVs.np h3⟩
 | .agg cs, _, _, h => by
  simp only [npV, RepV] at h ⊢
  obtain ⟨vs, e, h⟩ := h
  exact ⟨vs, e, RepVs.np h⟩
 | .tup cs, _, _, h => by
  simp only [npV, RepV] at h ⊢
  obtain ⟨vs, e, h⟩ := h
  exact ⟨vs, e, RepVs.np h⟩
theorem RepVs.np : ∀ {as : List AVal} {vs : List Value} {bs : List Nat}, RepVs w R M as vs bs -> RepVs w R M2 (npL as) vs bs
 | [], _, _, h => by simp only [npL, RepVs] at h ⊢; exact h
 | a :: r, _, _, h => by
  simp only [npL, RepVs] at h ⊢
  obtain ⟨v, vs', b1, b2, e1, e2, h1, h2⟩ := h
  exact ⟨v, vs', b1, b2, e1, e2, RepV.np h1, RepVs.np h2⟩
end
end
section
variable {P : Program} {G : Globs} {α : Type} {T : α -> Prop}
theorem np_frame {g : FuncId} {args : List AVal} {Q : AVal -> Prop} (hQ : ∀ v, Q v -> nmF v = true) (h : ACalls P G g (npL args) [] 0 (fun v h m => Q v /\ h = [] /\ m = 0)) (heap : Heap) (next : Nat) : ACalls P G g args heap next (fun v h m => Q v /\ h = heap /\ m = next) := by
 intro w R N cargs bsA bsH bsF hargs hheap hnd hnx hglob hF
 have h2 := h w R (fun _ => none) cargs bsA [] (bsH ++ bsF) hargs.np (by simp [RepObjs]) (by simpa using hnd) (by intro o b ho; simp at ho) hglob (by
  intro b hb
  rcases List.mem_append.1 hb with hb | hb
  ·exact hheap.lt b hb
  exact hF b hb)
 refine h2.mono ?_
 rintro e w' ⟨v, cv, heap', next', R', N', bsV, bsH', rfl, ⟨hq, rfl, rfl⟩, hv, hh, hnd', _, hk, _⟩
 have hH' : bsH' = [] := by simpa [RepObjs] using hh
 subst hH'
 exact ⟨_, cv, heap, next, R', N, bsV, bsH, rfl, ⟨hq, rfl, rfl⟩, hv.nm (hQ _ hq), hheap.keep (hk.sub (by intro b hb; simp [hb])), by simpa using hnd', hnx, hk.sub (by intro b hb; simp [hb]), fun _ _ h => h⟩
/-- A call that looks at no object, whatever it is handed. -/
theorem ok_np {q : Qy α} {g : FuncId} {args0 : List AVal} {v : AVal} (hc : ACalls P G g args0 [] 0 (XQ ⟨v, [], 0⟩)) (e : q.fn? = some g) (ha : npL q.argsR = args0) (hm : nmF v = true)
  (h : bndV v -> (q.ofR ⟨v, q.heapR, q.nextR⟩).Ok P G T) : q.Ok P G T := by
 cases q with
 | res g' args' heap next' k =>
  simp only [Qy.fn?, Option.some.injEq] at e
  subst e
  simp only [Qy.heapR, Qy.argsR, Qy.nextR] at ha h
  refine ⟨?_⟩
  show ACalls P G g' _ heap next' _
  subst ha
  have h1 : ACalls P G g' (npL args') [] 0 (fun u h m => u = v /\ h = [] /\ m = 0) := hc.mono (by rintro u h m ⟨rfl, rfl, rfl⟩; exact ⟨rfl, rfl, rfl⟩)
  refine (np_frame (Q := fun u => u = v) (by rintro u rfl; exact hm) h1 heap next').mono ?_
  rintro v' h' m ⟨rfl, rfl, rfl⟩ b1 b2
  exact (h b1).ok
 | _ => simp [Qy.fn?] at e
/-- A call as it stands. -/
theorem ok_here {q : Qy α} {g : FuncId} {args : List AVal} {heap : Heap} {next : Nat} {r : XRes} (hc : ACalls P G g args heap next (XQ r)) (e : q.fn? = some g) (ha : q.argsR = args) (hh : q.heapR = heap) (hn : q.nextR = next)
  (h : (q.ofR r).Ok P G T) : q.Ok P G T := by
 cases q with
 | res g' args' heap' next' k =>
  simp only [Qy.fn?, Option.some.injEq] at e
  simp only [Qy.heapR, Qy.argsR, Qy.nextR] at ha hh hn
  subst e
  subst ha
  subst hh
  subst hn
  refine ⟨?_⟩
  show ACalls P G g' _ heap' next' _
  refine hc.mono ?_
  rintro v h' m ⟨rfl, rfl, rfl⟩ b1 b2
  exact h.ok
 | _ => simp [Qy.fn?] at e
theorem acalls_eq {g : FuncId} {args : List AVal} {heap : Heap} {next : Nat} {r : XRes} (h : ACalls P G g args heap next (fun v h m => (⟨v, h, m⟩ : XRes) = r)) : ACalls P G g args heap next (XQ r) := by
 refine h.mono ?_
 rintro v h m e
 subst e
 exact ⟨rfl, rfl, rfl⟩
def Qy.finE : Qy (Exit × FState) -> Option Exit
 | .fin r => some r.1
 | _ => none
def Qy.finF : Qy (Exit × FState) -> FState
 | .fin r => r.2
 | _ => ⟨[], [], [], 0⟩
/-- The end of a piece of code, its state said slot by slot. -/
theorem ok_end {q : Qy (Exit × FState)} {T : Exit -> AState -> Prop} {n : Nat} {ex : Exit} (f : FState) (e : q.finE = some ex) (hs : q.finF.toA n = f.toA n) (h : T ex (f.toA n)) : q.Ok P G (fun r => T r.1 (r.2.toA n)) := by
 cases q with
 | fin r =>
  simp only [Qy.finE, Option.some.injEq] at e
  simp only [Qy.finF] at hs
  refine ⟨?_⟩
  show T r.1 (r.2.toA n)
  rw [e, hs]; exact h
 | _ => simp [Qy.finE] at e
end
end Go.Tp

namespace Go.Tp
section
variable {P : Program} {G : Globs} {α : Type} {T : α -> Prop}
theorem oh {q : Qy α} {g : FuncId} {args : List AVal} {heap : Heap} {next : Nat} {r : XRes} (hc : ACalls P G g args heap next (XQ r)) (h : (q.ofR r).Ok P G T) (e : q.fn? = some g := by kernel_rfl) (ha : q.argsR = args := by kernel_rfl) (hh : q.heapR = heap := by kernel_rfl) (hn : q.nextR = next := by kernel_rfl) : q.Ok P G T :=
 ok_here hc e ha hh hn h
theorem on {q : Qy α} {g : FuncId} {args0 : List AVal} {v : AVal} (hc : ACalls P G g args0 [] 0 (XQ ⟨v, [], 0⟩)) (h : (q.ofR ⟨v, q.heapR, q.nextR⟩).Ok P G T) (e : q.fn? = some g := by kernel_rfl) (ha : npL q.argsR = args0 := by kernel_rfl) (hm : nmF v = true := by exact rfl) : q.Ok P G T :=
 ok_np hc e ha hm (fun _ => h)
theorem ob {q : Qy α} {c b : Bool} (hc : c = b) (h : (q.ofB b).Ok P G T) (e : q.bool? = some c := by kernel_rfl) : q.Ok P G T := ok_bool hc e h
theorem ox {q : Qy α} {c b : Bool} (hc : c = b) (h : (q.ofB (!b)).Ok P G T) (e : q.bool? = some (!c) := by kernel_rfl) : q.Ok P G T := ok_bool (by rw [hc]) e h
theorem oo {q : Qy α} {o : Option Out} {x : Out} (ho : o = some x) (h : (q.ofO x).Ok P G T) (e : q.out? = some o := by kernel_rfl) : q.Ok P G T := ok_out ho e h
theorem fi {q : Qy α} {a : α} (e : q.fin? = some a := by kernel_rfl) : q.Ok P G (fun y => y = a) := ok_fin e rfl
theorem oe {q : Qy (Exit × FState)} {T : Exit -> AState -> Prop} {n : Nat} {ex : Exit} {f : FState} (h : T ex (f.toA n)) (e : q.finE = some ex := by kernel_rfl) (hs : q.finF.toA n = f.toA n := by kernel_rfl) : q.Ok P G (fun r => T r.1 (r.2.toA n)) := ok_end f e hs h
theorem lo {q : Qy α} {n : Nat} {c : Code} {f : FState} {L : Exit -> AState -> Prop} (hl : ACode P G (.loop c) L (f.toA n)) (h : ∀ e s, L e s -> ∃ f', s = f'.toA n /\ (q.ofL (e, f')).Ok P G T) (e : q.loop? = some (n, c) := by kernel_rfl) (hs : q.loopF.toA n = f.toA n := by kernel_rfl) : q.Ok P G T := ok_loop e hs hl h
end
end Go.Tp

namespace Go.Tp
section
variable {P : Program} {E : TEnv} {G : Globs}
/-- Names in the list become k0, k0 + 1, ..; the others stay. -/
def rhoA (k0 : Nat) (ps : List Nat) (o : Nat) : Nat := match memN o ps with | true => idxN o ps k0 | false => o
def keptA (k0 : Nat) (ps : List Nat) (o : Nat) : Bool := Nat.blt o k0 || memN o ps
theorem ACalls.rn {g : FuncId} {args : List AVal} {heap : Heap} {next : Nat} {Q Q' : AVal -> Heap -> Nat -> Prop} (h : ACalls P G g args heap next Q)
  (hq : ∀ v hp m, Q v hp m -> ∃ ps, okV (keptA next ps) v = true /\ okH (keptA next ps) (restrictH (keptA next ps) hp) = true /\ Q' (rnV (rhoA next ps) v) (rnH (rhoA next ps) (restrictH (keptA next ps) hp)) (next + ps.length)) : ACalls P G g args heap next Q' := by
 intro w R N cargs bsA bsH bsF ha hh hnd hnx hg hF
 refine (h w R N cargs bsA bsH bsF ha hh hnd hnx hg hF).mono ?_
 rintro e w' ⟨v, cv, hp, m, R', N', bsV, bsH', rfl, hq1, hv, hh', hnd', hnx', hk, hN⟩
 obtain ⟨ps, p1, p2, p3⟩ := hq _ _ _ hq1
 let N2 : Name -> Option Nat := fun m => match m with | .loc i => N' (.loc i) | .out x => if x < next then N' (.out x) else (match ps[x - next]? with | some o => N' (.out o) | none => none)
 have hM : ∀ o b, keptA next ps o = true -> outs N' (.out o) = some b -> outs N2 (.out (rhoA next ps o)) = some b := by
  intro o b ho hb
  simp only [outs] at hb ⊢
  unfold rhoA
  cases hm : memN o ps with
  | true =>
   obtain ⟨q1, q2, q3⟩ := idxN_lt (k := next) hm
   dsimp only [N2]
   rw [if_neg (by omega), q3]
   exact hb
  | false =>
   unfold keptA at ho
   rw [hm, Bool.or_false] at ho
   dsimp only [N2]
   rw [if_pos (blt_to ho)]
   exact hb
 have hL : ∀ i b, outs N' (.loc i) = some b -> outs N2 (.loc i) = some b := fun i b h => h
 obtain ⟨bs', k1, k2⟩ := restrictH_rep (keptA next ps) hh'
 refine ⟨_, cv, _, _, R', N2, bsV, bs', rfl, p3, hv.rnP hL hM p1, k1.rnP hL hM p2, ?_, ?_, hk, ?_⟩
 ·exact List.Nodup.sublist (List.Sublist.append (.refl _) (List.Sublist.append k2 (.refl _))) hnd'
 ·intro x b hx
  dsimp only [N2] at hx
  split at hx
  ·omega
  split at hx
  ·rename_i o ho
   have := (List.getElem?_eq_some_iff.1 ho).1
   omega
  simp at hx
 intro o b hb
 dsimp only [N2]
 rw [if_pos (hnx o b hb)]
 exact hN o b hb
end
end Go.Tp
