/- The generic layer: calls and code on a frame's state. -/
import Derived.Test.YteanmfacikjjhaaGreatDoorTpStep
import Derived.Orders
namespace Go.Tp

/-! ### Calls -/

/-- What a call of a function comes to, said of abstract values: it returns, and what it returns meets Q. -/
def ACalls (P : Program) (G : Globs) (f : FuncId) (args : List AVal) (heap : List (Name × AObj)) (next : Nat) (Q : AVal → List (Name × AObj) → Nat → Prop) : Prop :=
  ∀ (w : World) (R : Own) (N : Name → Option Nat) (cargs : List Value) (bsA bsH bsF : List Nat),
    RepVs w R (outs N) args cargs bsA → RepObjs w R (outs N) heap bsH → (bsA ++ (bsH ++ bsF)).Nodup → (∀ o b, N (.out o) = some b → o < next) →
    (∀ g cs, G g = some cs → RepAt w R g 0 cs) → (∀ b ∈ bsF, b < w.heap.size) →
    Calls P f cargs.toArray w fun e w' => ∃ v cv heap' next' R' N' bsV bsH', e = .returned cv ∧ Q v heap' next' ∧ RepV w' R' (outs N') v cv bsV ∧ RepObjs w' R' (outs N') heap' bsH' ∧
      (bsV ++ (bsH' ++ bsF)).Nodup ∧ (∀ o b, N' (.out o) = some b → o < next') ∧ Keep w R w' R' bsF ∧ (∀ o b, N (.out o) = some b → N' (.out o) = some b)

theorem ACalls.mono {P : Program} {G : Globs} {f : FuncId} {args : List AVal} {heap : List (Name × AObj)} {next : Nat} {Q Q' : AVal → List (Name × AObj) → Nat → Prop} (h : ACalls P G f args heap next Q)
    (hq : ∀ v h n, Q v h n → Q' v h n) : ACalls P G f args heap next Q' := by
  intro w R N cargs bsA bsH bsF h1 h2 h3 h4 h5 h6
  refine (h w R N cargs bsA bsH bsF h1 h2 h3 h4 h5 h6).mono ?_
  rintro e w' ⟨v, cv, heap', next', R', N', bsV, bsH', k1, k2, k3⟩
  exact ⟨v, cv, heap', next', R', N', bsV, bsH', k1, hq _ _ _ k2, k3⟩

/-- The operands' values with all that they own, and the state without it. -/
def takeArgs (G : Globs) : AState → List Operand → List AVal × AState
  | s, [] => ([], s)
  | s, x :: r =>
    match takeArgs G (dropOwn s (some 0) [x]) r with
    | (vs, s') => (aeval G s x :: vs, s')

/-! #### Local objects that a callee is handed -/

mutual
/-- Pointers to the object n become pointers to immutable cells. -/
def frz (n : Name) (ds : List Dat) : AVal → AVal
  | .ptr m off => if m = n then .ref (ds.drop off) else .ptr m off
  | .win m s off len => if m = n then .undef else .win m s off len
  | .fn f first captured => .fn f (frzL n ds first) (frzL n ds captured)
  | .agg cs => .agg (frzL n ds cs)
  | .tup cs => .tup (frzL n ds cs)
  | a => a
def frzL (n : Name) (ds : List Dat) : List AVal → List AVal
  | [] => []
  | a :: r => frz n ds a :: frzL n ds r
end

def mapO (f : List AVal → List AVal) : List (Name × AObj) → List (Name × AObj)
  | [] => []
  | (m, .cells cs) :: r => (m, .cells (f cs)) :: mapO f r
  | (m, .map es) :: r => (m, .map es) :: mapO f r

mutual
/-- Another name for the object n. -/
def ren (n m : Name) : AVal → AVal
  | .ptr k off => if k = n then .ptr m off else .ptr k off
  | .map k => if k = n then .map m else .map k
  | .win k s off len => if k = n then .win m s off len else .win k s off len
  | .fn f first captured => .fn f (renL n m first) (renL n m captured)
  | .agg cs => .agg (renL n m cs)
  | .tup cs => .tup (renL n m cs)
  | a => a
def renL (n m : Name) : List AVal → List AVal
  | [] => []
  | a :: r => ren n m a :: renL n m r
end

def viaFn (n : Name) : List AVal → Bool
  | [] => false
  | .fn _ first captured :: r => mentionsL n first || mentionsL n captured || viaFn n r
  | _ :: r => viaFn n r

/-- The cells of a captured variable that holds data. -/
def frzCells (fz : Bool) (n : Name) (args cs : List AVal) : Option (List Dat) := if (fz && viaFn n args) = true then datCells (unOwnL cs) else none

/-- One local object is frozen or handed over. -/
def prep1 (fz : Bool) (n : Name) (s : AState) (args : List AVal) : Option (AState × List AVal) :=
  match n, aget n s.locs with
  | .loc _, some (.cells cs) =>
    match frzCells fz n args cs with
    | some ds => some ({ s with tmps := frzL n ds s.tmps, locs := mapO (frzL n ds) (adel n s.locs) }, frzL n ds args)
    | none => if noLocL (renL n (.out s.next) cs) = true then
      some ({ tmps := renL n (.out s.next) s.tmps, locs := mapO (renL n (.out s.next)) (adel n s.locs), heap := (.out s.next, .cells (renL n (.out s.next) cs)) :: s.heap, next := s.next + 1 }, renL n (.out s.next) args)
    else none
  | .loc _, some (.map es) =>
    some ({ tmps := renL n (.out s.next) s.tmps, locs := mapO (renL n (.out s.next)) (adel n s.locs), heap := (.out s.next, .map es) :: s.heap, next := s.next + 1 }, renL n (.out s.next) args)
  | _, _ => none

def prep (fz : Bool) : List Name → AState → List AVal → AState × List AVal
  | [], s, args => (s, args)
  | n :: ns, s, args =>
    match prep1 fz n s args with
    | some (s', args') => prep fz ns s' args'
    | none => prep fz ns s args

mutual
/-- The frame's own objects that a value names. -/
def namesV : AVal → List Name
  | .ptr (.loc i) _ => [.loc i]
  | .map (.loc i) => [.loc i]
  | .win (.loc i) _ _ _ => [.loc i]
  | .fn _ first captured => namesL first ++ namesL captured
  | .agg cs => namesL cs
  | .tup cs => namesL cs
  | _ => []
def namesL : List AVal → List Name
  | [] => []
  | a :: r => namesV a ++ namesL r
end

def addNew : List Name → List Name → List Name
  | [], l => l
  | n :: ns, l => if l.contains n then addNew ns l else addNew ns (n :: l)

def objNames (locs : List (Name × AObj)) (n : Name) : List Name :=
  match aget n locs with
  | some (.cells cs) => namesL cs
  | _ => []

def closeN (locs : List (Name × AObj)) : Nat → List Name → List Name
  | 0, l => l
  | k + 1, l => closeN locs k (l.foldl (fun a n => addNew (objNames locs n) a) l)

/-- Once more for those that name themselves. -/
def twice (l : List Name) : List Name := l ++ l

/-- What a call's arguments lead to, inner objects first. -/
def needed (s : AState) (args : List AVal) : List Name :=
  match addNew (namesL args) [] with
  | [] => []
  | l => twice (closeN s.locs s.locs.length l)

def locNames : List (Name × AObj) → List Name
  | [] => []
  | (n, _) :: r => n :: locNames r

/-- A region that draws its order: the operations that may go ahead (false) or come up alone (true), in a chosen order; one that makes a variable; loads that take over what a cell owns; the operations behind all these, in their order. -/
structure RHint where
  pre : List (Nat × Bool)
  nw : Option Nat
  tk : List Nat
  tail : List Nat
  deriving Inhabited

/-- What the evaluation is told: the functions that take over what their arguments own; the orders of the regions that draw. -/
structure Hints where
  moves : FuncId → Bool
  ord : Nat → RHint
  /-- functions that are handed captured variables themselves -/
  caps : FuncId → Bool
  /-- what is appended to nothing becomes a row whose cells are known one by one -/
  rows : Bool

/-- A region that does not draw makes no rows if its hint names a variable. -/
def Hints.at (H : Hints) (id : Nat) : Hints := ⟨H.moves, H.ord, H.caps, match (H.ord id).nw with | none => H.rows | some _ => false⟩

def rowsOf (caps : FuncId → Bool) (f : FuncId) : Bool := caps (1000000 + f)

def isAppend : Op → Bool
  | .call { callee := .builtin .append, .. } => true
  | _ => false

/-- The call of a function: its number, its arguments, the state behind the handing over. -/
def acallee (E : TEnv) (G : Globs) (H : Hints) (c : Call) (s : AState) : Option (FuncId × List AVal × AState) :=
  match c.callee with
  | .value f => (match aeval G s f with
    | .fn (.func g) first captured =>
      if E.fn g = true then
        match (if H.moves g = true then takeArgs G s c.args.toList else (evalArgs G s none 0 c.args.toList, s)) with
        | (vs, s1) => (match prep (!H.caps g) (needed s1 (first ++ vs ++ captured)) s1 (first ++ vs ++ captured) with
          | (s2, args) => if noLocL args = true then some (g, args, s2) else none)
      else none
    | _ => none)
  | _ => none

def isCall : Op → Option Call
  | .call c => (match c.callee with | .builtin _ => none | _ => some c)
  | _ => none

/-! ### Code -/

def isTmp (t : Tmp) : Operand → Bool
  | .tmp u => Nat.beq u t
  | _ => false

def takesIn (moves : FuncId → Bool) (ops : List Oper) (d : Option Tmp) : Bool :=
  match d with
  | none => false
  | some t => ops.any fun o => match o.op with
    | .call c => (match c.callee with
      | .builtin .append => (match c.args.toList with | .tmp u :: _ => Nat.beq u t | _ => false)
      | .value (.func g) => moves g && c.args.toList.any (isTmp t)
      | _ => false)
    | _ => false

/-- A slot of the region whose value is read by somebody who takes over what it owns. -/
def wantsIn (moves : FuncId → Bool) (ops : List Oper) (d : Option Tmp) : Bool :=
  match d with
  | none => false
  | some t => ops.any fun o => match o.op with
    | .call c => (match c.callee with
      | .builtin .append => (match c.args.toList with | .tmp u :: _ => Nat.beq u t | _ => false)
      | .value (.func g) => moves g && c.args.toList.any (isTmp t)
      | _ => false)
    | .move x => isTmp t x
    | .assign x => isTmp t x
    | .box _ x => isTmp t x
    | .extract x _ => isTmp t x
    | .store _ _ x => isTmp t x
    | _ => false

def takeFor (moves : FuncId → Bool) (ops : List Oper) (o : Oper) : Bool :=
  match o.op with
  | .load _ _ => takesIn moves ops o.dst
  | _ => false

/-- Whether an operation takes over, or makes a row. -/
def appended (ops : List Oper) (d : Option Tmp) : Bool :=
  match d with
  | none => false
  | some d => ops.any fun o => match o.op with
    | .call c => isAppend o.op && (match c.args.toList with | [_, .tmp u] => Nat.beq u d | _ => false)
    | _ => false

def takeR (H : Hints) (ops : List Oper) (o : Oper) : Bool := match o.op with
  | .buildSlice _ _ _ => H.rows && !appended ops o.dst
  | .makeMap _ _ => H.rows
  | _ => (match isAppend o.op with | true => H.rows | false => takeFor H.moves ops o)

/-- A read of a variable that is no taking over. -/
def readOnly (moves : FuncId → Bool) (ops : List Oper) (o : Oper) : Bool :=
  match o.op with
  | .move _ => !wantsIn moves ops o.dst
  | _ => false

/-- Whether an operation is wanted, its guard read. -/
def wantedA (ops : List Oper) (s : AState) (g : Option (Nat × Bool)) : Option Bool :=
  match g with
  | none => some true
  | some (j, want) => (match ops[j]? with
    | some o => (match o.dst with
      | some t => (match getT s.tmps t with
        | .dat (.flat (.bool b)) => some (b == want)
        | .tup [] => some false
        | _ => none)
      | none => none)
    | none => none)

/-! #### Bounds that every value in a world meets -/
mutual
def bndD : Dat → Prop
  | .flat v => isFlat v = true
  | .slice es => es.length ≤ lim ∧ bndDs es
  | .agg cs => bndDs cs
def bndDs : List Dat → Prop
  | [] => True
  | d :: r => bndD d ∧ bndDs r
end
mutual
def bndV : AVal → Prop
  | .dat d => bndD d
  | .own es => es.length ≤ lim ∧ bndDs es
  | .ref cs => bndDs cs
  | .fn _ a b => bndL a ∧ bndL b
  | .agg cs => bndL cs
  | .tup cs => bndL cs
  | .ptr _ _ => True
  | .map _ => True
  | .win _ _ _ _ => True
  | .undef => True
def bndL : List AVal → Prop
  | [] => True
  | a :: r => bndV a ∧ bndL r
end
def bndM : List (Value × Dat) → Prop
  | [] => True
  | (_, d) :: r => bndD d ∧ bndM r
def bndO : List (Name × AObj) → Prop
  | [] => True
  | (_, .cells cs) :: r => bndL cs ∧ bndO r
  | (_, .map es) :: r => bndM es ∧ bndO r

/-- What is known of calls, and of code that is not run; variables while code is run. -/
abbrev CallsT := FuncId → List AVal → List (Name × AObj) → Nat → (AVal → List (Name × AObj) → Nat → Prop) → Prop
abbrev CodeT := Code → (Exit → AState → Prop) → AState → Prop

section
variable (A : CallsT) (E : TEnv) (G : Globs) (H : Hints)

/-- One operation. -/
def aone (all : List Oper) (o : Oper) (K : AState → Prop) (s : AState) : Prop :=
  match wantedA all s o.guard with
  | none => False
  | some b =>
    if b = true then
      (match isCall o.op with
       | some c => (match acallee E G H c s with
         | some (f, args, s2) => A f args s2.heap s2.next (fun v heap n => bndV v → bndO heap → K (({ s2 with heap := heap, next := n } : AState).put o.dst v))
         | none => False)
       | none => (match astep E G (readOnly H.moves all o) (takeR H all o) o s with
         | some s' => K s'
         | none => False))
    else K (s.put o.dst (.tup []))

/-- A truth value that is new is asked for at once. -/
def askK (d : Option Tmp) (K : AState → Prop) (s : AState) : Prop :=
  match d with
  | none => K s
  | some t => (match s.tmps[t]? with
    | some (.dat (.flat (.bool b))) => (match b with
      | true => K { s with tmps := s.tmps.set t (.dat (.flat (.bool true))) }
      | false => K { s with tmps := s.tmps.set t (.dat (.flat (.bool false))) })
    | _ => K s)

theorem set_self {α : Type} : ∀ {l : List α} {t : Nat} {v : α}, l[t]? = some v → l.set t v = l
  | [], _, _, h => by simp at h
  | _ :: _, 0, _, h => by simp at h; simp [h]
  | _ :: l, t + 1, v, h => by simp at h; simp [set_self h]

theorem askK_eq (d : Option Tmp) (K : AState → Prop) : askK d K = K := by
  funext s
  unfold askK
  cases d with
  | none => rfl
  | some t =>
    dsimp only
    split
    · rename_i b h
      have := set_self h
      cases b <;> simp only [this]
    · rfl

/-- Operations in the order of the text. -/
def aops (all : List Oper) (Q : AState → Prop) : List Oper → AState → Prop
  | [], s => Q s
  | o :: rest, s => aone A E G H all o (askK o.dst (aops all Q rest)) s

/-! #### Regions that draw their order -/

def lookPure (fh : Bool) : Option Name → Bool
  | some (.out _) => fh
  | _ => true

/-- Operations that may go ahead. -/
def quietKind : Op → Bool
  | .move _ | .assign _ | .pick _ _ _ | .binOp _ _ _ _ _ | .unOp _ _ _ | .convert _ _ _ | .nilCheck _ | .fieldAddr _ _ _ | .field _ _ _ | .indexAddr _ _ _ | .index _ _ _ | .slice _ _ _ _ _ | .build _ _
  | .buildSlice _ _ _ | .makeFunc _ _ _ | .extract _ _ | .load _ _ | .lookup _ _ _ _ => true
  | .call c => (match c.callee with | .builtin .len => true | .builtin .max => true | _ => false)
  | _ => false

def isAlloc : Op → Bool
  | .alloc _ => true
  | _ => false

/-- The value of an operation that goes ahead. -/
def stepQ (fh : Bool) (all : List Oper) (o : Oper) (s : AState) : Option AVal :=
  match wantedA all s o.guard with
  | none => none
  | some b =>
    if b = true then
      if isAlloc o.op = true then (match aop E false o.op [] none with | some _ => some .undef | none => none)
      else (match isCall o.op with
        | some _ => none
        | none =>
          if (quietKind o.op && lookPure fh (looks o.op (evalArgs G s none 0 (opsL o.op)))) = true then
            (match aop E false o.op (evalArgs G s none 0 (opsL o.op)) (lookedAt s o.op (evalArgs G s none 0 (opsL o.op))) with
             | some out => (match out.eff with | .keep => some out.val | _ => none)
             | none => none)
          else none)
    else some (.tup [])

/-- A call that hands over no local object. -/
def acalleeD (c : Call) (s : AState) : Option (FuncId × List AVal × AState) :=
  match c.callee with
  | .value f => (match aeval G s f with
    | .fn (.func g) first captured =>
      if E.fn g = true then
        match (if H.moves g = true then takeArgs G s c.args.toList else (evalArgs G s none 0 c.args.toList, s)) with
        | (vs, s1) => if noLocL (first ++ vs ++ captured) = true then some (g, first ++ vs ++ captured, s1) else none
      else none
    | _ => none)
  | _ => none

/-- Objects that nothing in the region changes: the frame's own, and the others where no call is among the operations. -/
def okN (fh : Bool) : Name → Bool
  | .loc _ => true
  | .out _ => fh

def AState.putO (s : AState) (n : Name) (o : AObj) : AState :=
  match n with
  | .loc i => { s with locs := aset (.loc i) o s.locs }
  | .out k => { s with heap := aset (.out k) o s.heap }

/-- What a cell owns goes over to the slot that it was loaded into. -/
def showTk (fh : Bool) (all : List Oper) : List Nat → AState → Option AState
  | [], s => some s
  | i :: r, s =>
    match all[i]? with
    | some o => (match o.op, o.dst, o.guard with
      | .load _ (.tmp u), some t, none => (match getT s.tmps u with
        | .ptr n off => if okN fh n = true then (match s.obj n with
          | some (.cells cs) => (match cs[off]? with
            | some (.own es) => (match getT s.tmps t with
              | .dat (.slice _) => showTk fh all r (({ s with tmps := s.tmps.set t (.own es) } : AState).putO n (.cells (putL off [.dat (.slice es)] cs)))
              | _ => none)
            | _ => none)
          | _ => none) else none
        | _ => none)
      | _, _, _ => none)
    | none => none

/-- The slot that an append appends to. -/
def appSlot : Op → Option Tmp
  | .call c => (match c.callee with
    | .builtin .append => (match c.args.toList with | .tmp t :: _ => some t | _ => none)
    | _ => none)
  | _ => none

/-- The loads that are to own what an append appends to. -/
def tkFor (all : List Oper) (t : Tmp) : List Nat → List Nat
  | [] => []
  | i :: r => match all[i]? with
    | some o => if o.dst = some t then i :: tkFor all t r else tkFor all t r
    | none => tkFor all t r

/-- Nothing is taken over for an append to nil. -/
def tkNil (tk : List Nat) (t : Tmp) (s : AState) : List Nat := if isNilV (getT s.tmps t) = true then [] else tk

theorem tkNil_for {all : List Oper} {t : Tmp} {tk : List Nat} {s : AState} {k : Nat} (h : k ∈ tkFor all t (tkNil tk t s)) : k ∈ tkFor all t tk := by
  unfold tkNil at h
  split at h
  · simp [tkFor] at h
  · exact h

/-- A call of a function that is handed no object. -/
def isPure (o : Oper) : Bool :=
  match o.op with
  | .call c => (match c.callee with | .value (.func g) => H.caps (2000000 + g) | _ => false)
  | _ => false

/-- A call of a function that leaves every object as it is. -/
def isRead (o : Oper) : Bool :=
  match o.op with
  | .call c => (match c.callee with | .value (.func g) => H.caps (3000000 + g) | _ => false)
  | _ => false

/-- All objects of the one heap lie in the other as they are. -/
def Stays (h h' : List (Name × AObj)) : Prop := ∀ n ob, aget n h = some ob → aget n h' = some ob

/-- A copy from slot to slot. -/
def isCopyO (o : Oper) : Bool :=
  match o.op, o.dst with
  | .move (.tmp _), some _ => true
  | _, _ => false

/-- What may come up alone beside calls and appends: a store; a copy from slot to slot. -/
def isStore : Op → Bool
  | .store _ _ _ => true
  | .move (.tmp _) => true
  | _ => false

/-- A call, an append or a store that comes up alone. -/
def opL (fh : Bool) (tk : List Nat) (all : List Oper) (o : Oper) (K : AState → Prop) (s : AState) : Prop :=
  match wantedA all s o.guard with
  | none => False
  | some b =>
    if b = true then
      (match isCall o.op with
       | some c => (match acalleeD E G H c s with
         | some (f, args, s2) => (match isPure H o with
           | true => A f args [] s2.next (fun v heap n => bndV v → bndO heap → heap = [] ∧ K (({ s2 with next := n } : AState).put o.dst v))
           | false => A f args s2.heap s2.next (fun v heap n => bndV v → bndO heap → (isRead H o = true → Stays s2.heap heap) ∧ K (({ s2 with heap := heap, next := n } : AState).put o.dst v)))
         | none => False)
       | none => (match appSlot o.op with
         | some t => (match showTk fh all (tkFor all t (tkNil tk t s)) s with
           | some s1 => (match astep E G false false o s1 with
             | some s' => K s'
             | none => False)
           | none => False)
         | none => (match isStore o.op with
           | true => (match astep E G (readOnly H.moves all o) (takeR H all o) o s with
             | some s' => K s'
             | none => False)
           | false => False)))
    else K (s.put o.dst (.tup []))

/-- No call goes with the operations that go ahead: the heap stays. -/
def quietHeap (all : List Oper) : List (Nat × Bool) → Bool
  | [] => true
  | (i, l) :: r => (!l || (match all[i]? with | some o => (isCall o.op).isNone || isPure H o | none => true)) && quietHeap all r

/-- The operation i waits for j, at the most so many steps off. -/
def reach (all : List Oper) : Nat → Nat → Nat → Bool
  | 0, _, _ => false
  | f + 1, i, j => match all[i]? with
    | some o => o.after.toList.any fun e => Region.binds .any e && (Nat.beq e.on j || reach all f e.on j)
    | none => false

/-- Whichever the order, i stands on the same side of each call. -/
def quietAt (all : List Oper) (pre : List (Nat × Bool)) (i : Nat) : Bool :=
  pre.all fun p => !p.2 || (match all[p.1]? with | some o => (isCall o.op).isNone || isPure H o || isRead H o | none => true) || reach all 6 i p.1 || reach all 6 p.1 i

/-- The operations that go ahead or come up alone. -/
def aordP (tk : List Nat) (fh : Bool) (fq : Nat → Bool) (all : List Oper) (T : AState → Prop) : List (Nat × Bool) → AState → Prop
  | [], s => T s
  | (i, lone) :: r, s =>
    match all[i]? with
    | none => False
    | some o =>
      if lone = true then opL A E G H fh tk all o (askK o.dst (aordP tk fh fq all T r)) s
      else (match stepQ E G (fh || fq i) all o s with
        | some a => askK o.dst (aordP tk fh fq all T r) (s.put o.dst a)
        | none => False)

/-- The new variable comes into sight. -/
def showMk (all : List Oper) (mk : Option Nat) (s : AState) : Option AState :=
  match mk with
  | none => some s
  | some i => (match all[i]? with
    | some o => (match o.op, o.dst, o.guard with
      | .alloc t, some d, none => (match E.ty t with
        | some ti => if okCells (acells (ofConst ti.zero)) = true ∧ mentionsL (.loc d) (acells (ofConst ti.zero)) = false ∧ d < s.tmps.length ∧ mentionsL (.loc d) s.tmps = false then some (newObj s d (.cells (acells (ofConst ti.zero)))) else none
        | none => none)
      | _, _, _ => none)
    | none => none)

def pickOps (all : List Oper) : List Nat → List Oper
  | [] => []
  | i :: r => match all[i]? with | some o => o :: pickOps all r | none => pickOps all r

def setL (l : Array Bool) (i : Nat) : Array Bool := l.setIfInBounds i true

/-- A state that describes whatever the other describes; the names below k stay. -/
def Renm (k : Nat) (s0 s : AState) : Prop :=
  ∀ (w : World) (R : Own) (N : Name → Option Nat) (tmps : List Value) (bsT bsL bsH bsF : List Nat), RelB G w R N tmps s undef .undef [] bsT bsL bsH bsF →
    ∃ N' bsT' bsL' bsH', RelB G w R N' tmps s0 undef .undef [] bsT' bsL' bsH' bsF ∧ ∀ o b, o < k → N (.out o) = some b → N' (.out o) = some b

/-- A small region in each order that the edges allow. -/
def aexpl (all : List Oper) (Q : AState → Prop) : Nat → Array Bool → AState → Prop
  | 0, listed, s => Region.ready .any all.toArray listed = [] ∧ Q s
  | m + 1, listed, s => (Region.ready .any all.toArray listed = [] ∧ Q s) ∨
    (Region.ready .any all.toArray listed ≠ [] ∧ ∀ i ∈ Region.ready .any all.toArray listed, ∃ o, all[i]? = some o ∧ aone A E G H all o (aexpl all Q m (setL listed i)) s)

def explMark (h : RHint) : Bool := match h.tail with | [k] => Nat.beq k 1000000 | _ => false

def preAll : List (Nat × Bool) → Array Bool → Array Bool
  | [], l => l
  | (i, _) :: r, l => preAll r (setL l i)

/-- The part of an order that is quiet. -/
def quietPre : List (Nat × Bool) → List (Nat × Bool)
  | (i, false) :: r => (i, false) :: quietPre r
  | _ => []

/-- A hint whose lone operations come up in each order that the edges allow. -/
def loneMark (h : RHint) : Bool := match h.tail with | k :: _ => Nat.beq k 2000000 | [] => false
def unmark (h : RHint) : RHint := ⟨h.pre, h.nw, h.tk, h.tail.drop 1⟩

/-- Those that come up alone, in each order. -/
def aloneP (h : RHint) (all : List Oper) (p : Array Bool) (K : AState → Prop) : Nat → Array Bool → AState → Prop
  | 0, listed, s => listed = p ∧ K s
  | m + 1, listed, s => listed ≠ p ∧ Region.ready .any all.toArray listed ≠ [] ∧
    ∀ i ∈ Region.ready .any all.toArray listed, (i, true) ∈ h.pre ∧ ∃ o, all[i]? = some o ∧ opL A E G H (quietHeap H all h.pre) h.tk all o (aloneP h all p K m (setL listed i)) s

def adrawL (all : List Oper) (h : RHint) (Q : AState → Prop) (s : AState) : Prop :=
  aordP A E G H h.tk (quietHeap H all h.pre) (quietAt H all h.pre) all
    (aloneP A E G H h all (preAll h.pre (Array.replicate all.length false)) (fun s1 => match showMk E all h.nw s1 with
      | some s2 => aops A E G H all Q (pickOps all h.tail) s2
      | none => False) (h.pre.length - (quietPre h.pre).length) (preAll (quietPre h.pre) (Array.replicate all.length false))) (quietPre h.pre) s

/-- A region that draws its order. -/
def adraw (all : List Oper) (h : RHint) (Q : AState → Prop) (s : AState) : Prop :=
  if explMark h = true then aexpl A E G H all (fun s' => ∃ s0, Q s0 ∧ Renm G s.next s0 s') all.length (Array.replicate all.length false) s else
  if loneMark h = true then adrawL A E G H all (unmark h) Q s else
  aordP A E G H h.tk (quietHeap H all h.pre) (quietAt H all h.pre) all (fun s1 => match showMk E all h.nw s1 with
    | some s2 => aops A E G H all Q (pickOps all h.tail) s2
    | none => False) h.pre s

/-! The static part: the order is one of those that the edges allow. -/

def chkPre (ops : Array Oper) : List (Nat × Bool) → Array Bool → Bool
  | [], _ => true
  | (i, lone) :: r, l => (if lone = true then Region.ready .any ops l == [i] else (Region.ready .any ops l).contains i && Region.free .any ops l i) && chkPre ops r (setL l i)

/-- One of those that have come up waits for i. -/
def waited (ops : Array Oper) (p : Array Bool) (i : Nat) : Bool :=
  (List.range ops.size).any fun d => d != i && p.getD d false && (match ops[d]? with | some o => o.after.any (fun e => Region.binds .any e && e.on == i) | none => false)

def isApp : Op → Bool
  | .call { callee := .builtin .append, .. } => true
  | _ => false

/-- An operation that reads a slot and writes one, both out of sight of the other, which writes none, or is an append. -/
def apartP (o p : Oper) : Bool :=
  o.guard.isNone && p.guard.isNone && (p.dst.isNone || isApp p.op) && (isCall p.op).isNone && (match o.op, o.dst with
    | .extract (.tmp x) _, some d => !(opsL p.op).any (isTmp x) && !(opsL p.op).any (isTmp d) && p.dst != some x && p.dst != some d
    | .move (.tmp x), some d => !(opsL p.op).any (isTmp x) && !(opsL p.op).any (isTmp d) && p.dst != some x && p.dst != some d
    | _, _ => false)

/-- Two that may come up in either order. -/
def pairT (ops : Array Oper) (i j : Nat) (l : Array Bool) : Bool :=
  (Region.ready .any ops l == [i, j] || Region.ready .any ops l == [j, i]) && Region.ready .any ops (setL l i) == [j] && Region.ready .any ops (setL l j) == [i] &&
  (match ops[i]?, ops[j]? with | some o, some p => apartP o p | _, _ => false)

def chkTail (ops : Array Oper) : List Nat → Array Bool → Bool
  | [], l => Region.ready .any ops l == []
  | [i], l => Region.ready .any ops l == [i] && Region.ready .any ops (setL l i) == []
  | i :: j :: r, l => (Region.ready .any ops l == [i] && chkTail ops (j :: r) (setL l i)) || (pairT ops i j l && chkTail ops r (setL (setL l i) j))

/-- The slot of the new variable. -/
def nwSlot (ops : Array Oper) (nw : Option Nat) : Option Tmp := match nw with | some k => (match ops[k]? with | some q => q.dst | none => none) | none => none

/-- The last of those that go ahead may come up behind the first of the others. -/
def lateOk (ops : Array Oper) (h : RHint) (p : Array Bool) (i : Nat) : Bool :=
  match h.tail with
  | [] => false
  | j :: r => (Region.ready .any ops (p.setIfInBounds i false) == [i, j] || Region.ready .any ops (p.setIfInBounds i false) == [j, i]) && Region.ready .any ops (setL (p.setIfInBounds i false) j) == [i] &&
    Region.ready .any ops p == [j] && chkTail ops r (setL p j) && h.pre.all (fun x => x.1 == i || (waited ops (p.setIfInBounds i false) x.1 || !(Region.ready .any ops ((p.setIfInBounds i false).setIfInBounds x.1 false)).contains j)) &&
    !(h.nw.toList.contains i) && !(h.tk.contains i) &&
    (match ops[i]?, ops[j]? with
      | some o, some q => apartP o q && (opsL o.op).all (fun x => !(o.dst.any fun d => isTmp d x) && !((nwSlot ops h.nw).any fun d => isTmp d x)) && nwSlot ops h.nw != o.dst
      | _, _ => false)

/-- Without one of those that go ahead nothing behind them may come up. -/
def chkLast (ops : Array Oper) (h : RHint) (p : Array Bool) : List (Nat × Bool) → Bool
  | [] => true
  | (i, lone) :: r => (lone || (waited ops p i || Region.ready .any ops (p.setIfInBounds i false) == [i]) || lateOk ops h p i) && chkLast ops h p r

/-- The slots of the operations whose work is shown later are written by nobody else. -/
def chkSlots (ops : Array Oper) (h : RHint) : Bool :=
  (h.nw.toList ++ h.tk).all fun i => h.pre.contains (i, false) && (match ops[i]? with
    | some o => (match o.op with | .load _ (.tmp u) => o.dst != some u | _ => true) && h.pre.all fun p => p.1 == i || (match ops[p.1]? with
      | some q => (match o.dst with | some d => q.dst != some d && (p.2 || !(q.looksAt ops).contains d) | none => false) && (match o.op with | .load _ (.tmp u) => q.dst != some u || o.after.any (fun e => Region.binds .any e && e.on == p.1) | _ => true)
      | none => false)
    | none => false)

/-- An append waits for the loads by which it owns. -/
def chkApp (ops : Array Oper) (h : RHint) : Bool :=
  h.pre.all fun p => match ops[p.1]? with
    | some o => (match appSlot o.op with
      | some t => (tkFor ops.toList t h.tk).all fun i => o.after.any fun e => Region.binds .any e && e.on == i
      | none => true)
    | none => true

/-- Stores that come up alone: nothing is shown later, and what goes ahead reads no object or stands on one side. -/
def chkStores (ops : Array Oper) (h : RHint) : Bool :=
  h.pre.all fun p => !p.2 || (match ops[p.1]? with
    | some o => !isStore o.op || (h.nw.isNone && h.tk.isEmpty && o.guard.isNone && h.pre.all fun q => q.2 || (match ops[q.1]? with
      | some oi => isCopyO o || apartP oi o || reach ops.toList 6 q.1 p.1 || reach ops.toList 6 p.1 q.1
      | none => true))
    | none => true)

/-- A region that is not run: its hint leads nowhere. -/
def neverR (ops : Array Oper) (h : RHint) : Bool := h.pre.isEmpty && (match h.nw with | some k => (ops[k]?).isNone | none => false)

def chkRL (ops : Array Oper) (h : RHint) : Bool :=
  chkPre ops (quietPre h.pre) (Array.replicate ops.size false) && chkLast ops h (preAll h.pre (Array.replicate ops.size false)) h.pre &&
  chkTail ops h.tail (preAll h.pre (Array.replicate ops.size false)) && chkSlots ops h && chkApp ops h && chkStores ops h && decide (h.pre.length + h.tail.length ≤ ops.size) && h.pre.all (fun x => decide (x.1 < ops.size))

def chkR (ops : Array Oper) (h : RHint) : Bool :=
  Region.noSelect ops && chkPre ops h.pre (Array.replicate ops.size false) && chkLast ops h (preAll h.pre (Array.replicate ops.size false)) h.pre &&
  chkTail ops h.tail (preAll h.pre (Array.replicate ops.size false)) && chkSlots ops h && chkApp ops h && chkStores ops h && decide (h.pre.length + h.tail.length ≤ ops.size)

end

section
variable (P : Program) (A : CallsT) (C : CodeT) (E : TEnv) (G : Globs) (H : Hints)

/-- Behind a step or a piece of code. -/
def Aft (D : List Deferred) (K : AState → Prop) (w : World) (R : Own) (N : Name → Option Nat) (bsF : List Nat) (act' : Act) (w' : World) : Prop :=
  ∃ s' R' N' bsT bsL bsH, K s' ∧ RelB G w' R' N' act'.tmps.toList s' undef .undef [] bsT bsL bsH bsF ∧ act'.defers = D ∧ Keep w R w' R' bsF ∧ (∀ o b, N (.out o) = some b → N' (.out o) = some b)

/-- Behind a piece of code. -/
def CPost (D : List Deferred) (Q : Exit → AState → Prop) (w : World) (R : Own) (N : Name → Option Nat) (bsF : List Nat) : Exit → Act → World → Prop := fun e act' w' =>
  ∃ s' R' N' bsT bsL bsH, Q e s' ∧ RelB G w' R' N' act'.tmps.toList s' undef .undef [] bsT bsL bsH bsF ∧ act'.defers = D ∧ Keep w R w' R' bsF ∧ (∀ o b, N (.out o) = some b → N' (.out o) = some b)

/-- Code on a frame's state, said of worlds. -/
def ACode (c : Code) (Q : Exit → AState → Prop) (s : AState) : Prop :=
  ∀ (w : World) (R : Own) (N : Name → Option Nat) (act : Act) (bsT bsL bsH bsF : List Nat), RelB G w R N act.tmps.toList s undef .undef [] bsT bsL bsH bsF → ∀ {D : List Deferred}, act.defers = D →
    c.wp P (CPost G D Q w R N bsF) act w

/-- Behind the first of two. -/
def seqQ (K : AState → Prop) (Q : Exit → AState → Prop) (e : Exit) (s : AState) : Prop :=
  match e with
  | .normal => K s
  | e => Q e s

/-- Behind a block. -/
def blockQ (id : Nat) (Q : Exit → AState → Prop) (e : Exit) (s : AState) : Prop :=
  match e with
  | .exit i => if Nat.beq i id = true then Q .normal s else Q (.exit i) s
  | e => Q e s

/-- All orders that are chosen in a piece of code are allowed. -/
def chkAll : Code → Bool
  | .region id ops draw => !draw || (explMark (H.ord id) || (if loneMark (H.ord id) = true then chkRL ops (unmark (H.ord id)) else (chkR ops (H.ord id) || neverR ops (H.ord id))))
  | .seq x y => chkAll x && chkAll y
  | .cond _ x y => chkAll x && chkAll y
  | .block _ c => chkAll c
  | .loop c => chkAll c
  | .scope c => chkAll c
  | _ => true

/-- Code on a frame's state, run. Loops stay as they are. -/
def awp : Code → (Exit → AState → Prop) → AState → Prop
  | .skip, Q, s => Q .normal s
  | .region id ops draw, Q, s => if draw = true then adraw A E G H ops.toList (H.ord id) (Q .normal) s else aops A E G (H.at id) ops.toList (Q .normal) ops.toList s
  | .seq x y, Q, s => awp x (seqQ (fun s' => awp y Q s') Q) s
  | .cond c x y, Q, s => (match aeval G s c with
    | .dat (.flat (.bool b)) => if b = true then awp x Q s else awp y Q s
    | _ => False)
  | .block id c, Q, s => awp c (blockQ id Q) s
  | .exit id, Q, s => Q (.exit id) s
  | .ret, Q, s => Q .ret s
  | c, Q, s => C c Q s
end

/-! ### Functions -/

/-- A struct that is handed back is a copy. -/
def tidy : AVal → AVal
  | .agg cs => unOwn (.agg cs)
  | a => a

def tidyL : List AVal → List AVal
  | [] => []
  | a :: r => tidy a :: tidyL r

/-- The value of a result that lies in memory. -/
def cellVal (E : TEnv) (s : AState) (a : Tmp) (t : TypeId) : Option AVal :=
  match getT s.tmps a with
  | .ptr n off => (match s.obj n, E.ty t with
    | some (.cells cs), some i => loadCells i off cs
    | _, _ => none)
  | _ => none

def retVals (E : TEnv) : AState → List ResultVar → Option (List AVal)
  | _, [] => some []
  | s, .tmp t :: r => (match retVals E (dropOwn s (some 0) [.tmp t]) r with | some vs => some (getT s.tmps t :: vs) | none => none)
  | s, .cell a t :: r => (match cellVal E s a t, retVals E s r with | some v, some vs => some (v :: vs) | _, _ => none)

def pack : List AVal → AVal
  | [v] => v
  | vs => .tup vs

def locsMention (n : Name) : List (Name × AObj) → Bool
  | [] => false
  | (_, .cells cs) :: r => mentionsL n cs || locsMention n r
  | (_, .map _) :: r => locsMention n r

/-- What is handed back takes along the objects that it names. -/
def expAll : List Name → AState → List AVal → AState × List AVal
  | [], s, args => (s, args)
  | n :: ns, s, args =>
    if (mentionsL n args || locsMention n s.locs) = true then
      match prep1 true n s args with
      | some (s', args') => expAll ns s' args'
      | none => expAll ns s args
    else expAll ns s args

def repeatL : Nat → List Name → List Name
  | 0, _ => []
  | k + 1, l => l ++ repeatL k l

/-- The end of a function. -/
def aret (E : TEnv) (rs : List ResultVar) (Q : AVal → List (Name × AObj) → Nat → Prop) (s : AState) : Prop :=
  match retVals E s rs with
  | none => False
  | some vs =>
    if noLocL (tidyL vs) = true then Q (pack (tidyL vs)) s.heap s.next
    else match expAll (repeatL s.locs.length (locNames s.locs)) s (tidyL vs) with
      | (s', vs') => if noLocL vs' = true then Q (pack vs') s'.heap s'.next else False

def bodyQ (E : TEnv) (rs : List ResultVar) (Q : AVal → List (Name × AObj) → Nat → Prop) : Exit → AState → Prop
  | .ret, s => aret E rs Q s
  | .normal, s => aret E rs Q s
  | _, _ => False

def enter (ntmps : Nat) (args : List AVal) (heap : List (Name × AObj)) (next : Nat) : AState := ⟨args ++ List.replicate (ntmps - args.length) .undef, [], heap, next⟩

/-! ### Forgetting -/
def keepT (ts : List Nat) : Nat → List AVal → List AVal
  | _, [] => []
  | k, a :: r => (if ts.contains k = true then a else .undef) :: keepT ts (k + 1) r

def keepO (ls : List Nat) : List (Name × AObj) → List (Name × AObj)
  | [] => []
  | (.loc i, o) :: r => if ls.contains i = true then (.loc i, o) :: keepO ls r else keepO ls r
  | (.out _, _) :: r => keepO ls r

/-- The slots ts and the objects ls alone. -/
def AState.keep (s : AState) (ts ls : List Nat) : AState := { s with tmps := keepT ts 0 s.tmps, locs := keepO ls s.locs }
theorem chkAll_rows {m c : FuncId → Bool} {o : Nat → RHint} {r r' : Bool} : ∀ x : Code, chkAll ⟨m, o, c, r⟩ x = chkAll ⟨m, o, c, r'⟩ x
  | .region _ _ _ => rfl
  | .seq x y => by simp only [chkAll]; rw [chkAll_rows x, chkAll_rows y]
  | .cond _ x y => by simp only [chkAll]; rw [chkAll_rows x, chkAll_rows y]
  | .block _ x => by simp only [chkAll]; rw [chkAll_rows x]
  | .loop x => by simp only [chkAll]; rw [chkAll_rows x]
  | .scope x => by simp only [chkAll]; rw [chkAll_rows x]
  | .skip | .exit _ | .ret | .label .. | .goto .. | .refuse .. | .rangeFunc .. => rfl
end Go.Tp
