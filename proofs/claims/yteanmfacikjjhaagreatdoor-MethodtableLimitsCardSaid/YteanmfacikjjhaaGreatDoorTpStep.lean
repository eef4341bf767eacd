/- The generic layer: a step of a frame's state. -/
import Derived.Test.YteanmfacikjjhaaGreatDoorTpOps
namespace Go.Tp

mutual
def noLoc : AVal → Bool
  | .ptr (.loc _) _ => false
  | .map (.loc _) => false
  | .win (.loc _) _ _ _ => false
  | .fn _ first captured => noLocL first && noLocL captured
  | .agg cs => noLocL cs
  | .tup cs => noLocL cs
  | _ => true
def noLocL : List AVal → Bool
  | [] => true
  | a :: r => noLoc a && noLocL r
end

mutual
def mentions (n : Name) : AVal → Bool
  | .ptr m _ => decide (m = n)
  | .map m => decide (m = n)
  | .win m _ _ _ => decide (m = n)
  | .fn _ first captured => mentionsL n first || mentionsL n captured
  | .agg cs => mentionsL n cs
  | .tup cs => mentionsL n cs
  | _ => false
def mentionsL (n : Name) : List AVal → Bool
  | [] => false
  | a :: r => mentions n a || mentionsL n r
end

/-- What names the object n is forgotten. -/
def purgeL (n : Name) : List AVal → List AVal
  | [] => []
  | a :: r => (if mentions n a = true then .undef else a) :: purgeL n r

def purgeO (n : Name) : List (Name × AObj) → List (Name × AObj)
  | [] => []
  | (m, .cells cs) :: r => if m = n then purgeO n r else (m, .cells (purgeL n cs)) :: purgeO n r
  | (m, .map es) :: r => if m = n then purgeO n r else (m, .map es) :: purgeO n r

def getT (l : List AVal) (t : Nat) : AVal := match l[t]? with | some v => v | none => .undef

def AState.put (s : AState) (dst : Option Tmp) (v : AVal) : AState :=
  match dst with
  | some d => { s with tmps := s.tmps.set d v }
  | none => s

def AState.obj (s : AState) (n : Name) : Option AObj :=
  match n with
  | .loc i => aget (.loc i) s.locs
  | .out o => aget (.out o) s.heap

def noLocO : AObj → Bool
  | .cells cs => noLocL cs
  | .map _ => true

def AState.setObj (s : AState) (n : Name) (o : AObj) : Option AState :=
  match n with
  | .loc i => some { s with locs := aset (.loc i) o s.locs }
  | .out k => if noLocO o = true then some { s with heap := aset (.out k) o s.heap } else none

section
variable (E : TEnv) (G : Globs)

def aeval (s : AState) : Operand → AVal
  | .tmp t => getT s.tmps t
  | .const v => ofConst v
  | .global g => match G g with | some cs => .ref cs | none => .undef
  | .func f => .fn (.func f) [] []

def opsL : Op → List Operand
  | .move x | .assign x | .box _ x | .load _ x | .nilCheck x | .unOp _ _ x | .convert _ _ x | .fieldAddr _ x _ | .field _ x _ | .extract x _ => [x]
  | .pick c a b => [c, a, b]
  | .build _ ps | .buildSlice _ _ ps => ps.toList.map (·.2)
  | .store _ a v | .binOp _ _ a v _ | .indexAddr _ a v | .index _ a v | .lookup _ a v _ => [a, v]
  | .makeFunc _ first captured => first.toList ++ captured.toList
  | .slice _ x l h _ => x :: (l.toList ++ h.toList)
  | .mapUpdate _ m k v => [m, k, v]
  | .makeSlice _ l c => [l, c]
  | .insert _ m k v => [m, k, v]
  | .call c => c.args.toList
  | _ => []

def evalArgs (s : AState) (mv : Option Nat) : Nat → List Operand → List AVal
  | _, [] => []
  | k, x :: r => (if mv = some k then aeval G s x else unOwn (aeval G s x)) :: evalArgs s mv (k + 1) r

/-- The slot that loses its ownership. -/
def dropOwn (s : AState) (mv : Option Nat) (xs : List Operand) : AState :=
  match mv with
  | none => s
  | some k => match xs[k]? with
    | some (.tmp t) => { s with tmps := s.tmps.set t (unOwn (getT s.tmps t)) }
    | _ => s

def newVal (d : Nat) : AObj → AVal
  | .cells _ => .ptr (.loc d) 0
  | .map _ => .map (.loc d)

def newObj (s : AState) (d : Nat) (o : AObj) : AState :=
  { s with tmps := (purgeL (.loc d) s.tmps).set d (newVal d o), locs := (.loc d, o) :: purgeO (.loc d) s.locs }

/-- A local row of a new name. -/
def newRowS (s : AState) (d : Nat) (o : AObj) (sz len : Nat) : AState :=
  { s with tmps := (purgeL (.loc d) s.tmps).set d (.win (.loc d) sz 0 len), locs := (.loc d, o) :: purgeO (.loc d) s.locs }

/-- A new object by a lasting name. -/
def outVal (k : Nat) : AObj → AVal
  | .cells _ => .ptr (.out k) 0
  | .map _ => .map (.out k)

/-- The new object may name no object that goes. -/
def freshFor (d : Nat) : AObj → Bool
  | .cells cs => !mentionsL (.loc d) cs
  | .map _ => true

def mvQ (q : Bool) (o : Op) : Option Nat := if q = true then none else movedOp o

def lookedAt (s : AState) (o : Op) (vals : List AVal) : Option AObj := match looks o vals with | some n => s.obj n | none => none

def astepOut (o : Oper) (n : Option Name) (s : AState) (out : Out) : Option AState :=
  match out.eff with
  | .keep => some (s.put o.dst out.val)
  | .set ob' => (match n with
    | some n => (match s.setObj n ob' with | some s => some (s.put o.dst out.val) | none => none)
    | none => none)
  | .new ob' => (match o.dst with
    | some d => if freshFor d ob' = true then some (newObj s d ob') else none
    | none => none)
  | .fresh ob' => if noLocO ob' = true then some (({ s with heap := (.out s.next, ob') :: s.heap, next := s.next + 1 } : AState).put o.dst (outVal s.next ob')) else none
  | .row ob' sz len => (match o.dst with
    | some d => if freshFor d ob' = true then some (newRowS s d ob' sz len) else none
    | none => none)
  | .grow ob' sz len => (match n with
    | some (.loc k) => if noLocO ob' = true then some (({ s with locs := adel (.loc k) s.locs, heap := (.out s.next, ob') :: s.heap, next := s.next + 1 } : AState).put o.dst (.win (.out s.next) sz 0 len)) else none
    | some (.out k) => if noLocO ob' = true then some (({ s with heap := (.out s.next, ob') :: adel (.out k) s.heap, next := s.next + 1 } : AState).put o.dst (.win (.out s.next) sz 0 len)) else none
    | none => if noLocO ob' = true then some (({ s with heap := (.out s.next, ob') :: s.heap, next := s.next + 1 } : AState).put o.dst (.win (.out s.next) sz 0 len)) else none)

/-- One operation that is no call of a function; q: nothing that is owned is moved. -/
def astep (q take : Bool) (o : Oper) (s : AState) : Option AState :=
  match aop E take o.op (evalArgs G s (mvQ q o.op) 0 (opsL o.op)) (lookedAt s o.op (evalArgs G s (mvQ q o.op) 0 (opsL o.op))) with
  | none => none
  | some out => astepOut o (looks o.op (evalArgs G s (mvQ q o.op) 0 (opsL o.op))) (dropOwn s (mvQ q o.op) (opsL o.op)) out
end
end Go.Tp
