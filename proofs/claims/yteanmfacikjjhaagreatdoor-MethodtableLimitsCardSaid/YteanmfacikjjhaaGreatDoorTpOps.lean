/- The generic layer: what the operations do on abstract values. -/
import Derived.Test.YteanmfacikjjhaaGreatDoorTpCore
namespace Go.Tp

/-! ### Types -/

inductive TD where
  | bool | int (k : IntKind) | string | pointer | slice (elem : TypeId) | map (key elem : TypeId) | func
  | struct (fields : List (Nat × TypeId))
  | array (len : Nat) (elem : TypeId)
  deriving Inhabited

structure TI where
  desc : TD
  size : Nat
  bytes : Nat
  zero : Value
  deriving Inhabited

/-- What is reckoned on data; a variable while code is run. -/
structure Prims where
  wrap : IntKind → Int → Int
  add : IntKind → Int → Int → Int
  dif : IntKind → Int → Int → Int
  mul : IntKind → Int → Int → Int
  lt : Int → Int → Bool
  eq : Int → Int → Bool
  slt : ByteArray → ByteArray → Bool
  seq : ByteArray → ByteArray → Bool
  cat : ByteArray → ByteArray → Option ByteArray
  elt : List Dat → Int → Option Dat
  byte : ByteArray → Int → Option UInt8
  sub : Nat → List Dat → Option Int → Option Int → Option (List Dat)
  ssub : ByteArray → Option Int → Option Int → Option ByteArray
  app : Nat → Nat → List Dat → List Dat → Option (List Dat)
  key : TypeDesc → Value → List (Value × Dat) → Option (Option (Nat × Dat))
  len : List Dat → Nat
  slen : ByteArray → Nat
  rem : Int → Int → Int
  quo : Int → Int → Int
  mx : Int → Int → Int

/-- The types, and the functions that have a body. -/
structure TEnv where
  ty : TypeId → Option TI
  fn : FuncId → Bool
  pr : Prims

def findKey (td : TypeDesc) (k : Value) : List (Value × Dat) → Nat → Option (Option (Nat × Dat))
  | [], _ => some none
  | (x, d) :: es, i =>
    match Instr.sameNow td k x with
    | some true => some (some (i, d))
    | some false => findKey td k es (i + 1)
    | none => none

def natOf (i : Int) : Option Nat := if 0 ≤ i then some i.toNat else none
def boundOf (v : Option Int) (dflt : Nat) : Option Nat :=
  match v with
  | none => some dflt
  | some i => natOf i

def Prims.std : Prims where
  wrap := IntKind.wrap
  add k a b := k.wrap (a + b)
  dif k a b := k.wrap (a - b)
  mul k a b := k.wrap (a * b)
  lt a b := decide (a < b)
  eq a b := a == b
  slt x y := Op.bytesLess x.toList y.toList
  seq x y := x.toList == y.toList
  cat x y := if ((x.size + y.size : Nat) : Int) > IntKind.i64.max then none else some (x ++ y)
  elt es i := if 0 ≤ i then es[i.toNat]? else none
  byte s i := if 0 ≤ i then s[i.toNat]? else none
  sub size es lo hi := if (∀ d ∈ es, d.cells.length = size) ∧ 0 < size then
      (match boundOf hi es.length, boundOf lo 0 with
      | some h, some l => if l ≤ h ∧ h ≤ es.length then some ((es.take h).drop l) else none
      | _, _ => none) else none
  ssub s lo hi := match boundOf hi s.size, boundOf lo 0 with
      | some h, some l => if l ≤ h ∧ h ≤ s.size then some (s.extract l h) else none
      | _, _ => none
  app size bytes es ds := match size with
      | 0 => none
      | _ => if (∀ d ∈ ds, d.cells.length = size) ∧ (∀ d ∈ es, d.cells.length = size) ∧ 0 < bytes ∧ (es.length + ds.length) * bytes ≤ 140737488355328 ∧ es.length + ds.length ≤ lim then some (es ++ ds) else none
  key td k es := findKey td k es 0
  len := List.length
  slen := ByteArray.size
  rem := Int.tmod
  quo := Int.tdiv
  mx x y := if x < y then y else x

def TI.ok (P : Program) (t : TypeId) (i : TI) : Prop :=
  (∃ j, P.info? t = some j ∧ j.size = i.size ∧ j.bytes = i.bytes ∧ j.zero = some i.zero ∧ i.zero.cells.size = i.size) ∧
  match i.desc with
  | .bool => P.underlying t = some .bool
  | .int k => P.underlying t = some (.int k)
  | .string => P.underlying t = some .string
  | .pointer => ∃ e, P.underlying t = some (.pointer e)
  | .slice e => P.underlying t = some (.slice e)
  | .map k e => P.underlying t = some (.map k e)
  | .func => ∃ a b c, P.underlying t = some (.func a b c)
  | .array n e => P.underlying t = some (.array n e)
  | .struct fs => ∃ fields : Array Field, P.underlying t = some (.struct fields) ∧ fields.toList.map (fun f => (f.offset, f.type)) = fs ∧
      ∃ places, fields.toList.mapM (fun f => (P.info? f.type).map fun i => (f.offset, i.size)) = some places

structure TEnv.Ok (E : TEnv) (P : Program) : Prop where
  ty : ∀ t i, E.ty t = some i → i.ok P t
  fn : ∀ f, E.fn f = true → ∃ g, P.funcs[f]? = some g ∧ g.body.isSome = true ∧ (g.name == "runtime.NumGoroutine") = false
  mixed : P.follows .mixedOrders = true
  std : E.pr = Prims.std

/-! ### Values -/

/-- A copy: ownership stays where it is. -/
def unOwnL : List AVal → List AVal
  | [] => []
  | .own es :: r => .dat (.slice es) :: unOwnL r
  | .agg _ :: r => .undef :: unOwnL r
  | .tup _ :: r => .undef :: unOwnL r
  | a :: r => a :: unOwnL r

/-- The cells of data, if all are data of one cell. -/
def datCells : List AVal → Option (List Dat)
  | [] => some []
  | .dat (.flat v) :: r => match datCells r with | some ds => some (.flat v :: ds) | none => none
  | .dat (.slice es) :: r => match datCells r with | some ds => some (.slice es :: ds) | none => none
  | _ :: _ => none

def mkAgg (cs : List AVal) : AVal :=
  match datCells cs with
  | some ds => .dat (.agg ds)
  | none => .agg cs

def unOwnT : List AVal → List AVal
  | [] => []
  | .own es :: r => .dat (.slice es) :: unOwnT r
  | .agg cs :: r => mkAgg (unOwnL cs) :: unOwnT r
  | .tup _ :: r => .undef :: unOwnT r
  | a :: r => a :: unOwnT r

def unOwn : AVal → AVal
  | .own es => .dat (.slice es)
  | .agg cs => mkAgg (unOwnL cs)
  | .tup vs => .tup (unOwnT vs)
  | a => a

/-- As data, ownership given up. -/
def asDat : AVal → Option Dat
  | .dat d => some d
  | .own es => some (.slice es)
  | .agg cs => match datCells (unOwnL cs) with | some ds => some (.agg ds) | none => none
  | _ => none

def acells : AVal → List AVal
  | .agg cs => cs
  | .dat (.agg ds) => ds.map .dat
  | a => [a]

def constL : List Value → List AVal
  | [] => []
  | v :: r => (if isFlat v then .dat (.flat v) else .undef) :: constL r

def ofConst : Value → AVal
  | .agg cs => mkAgg (constL cs.toList)
  | .tuple _ => .undef
  | v => if isFlat v then .dat (.flat v) else .undef

/-- A nil slice is read as an empty one. -/
def nz : AVal → AVal
  | .dat (.flat (.slice none 0 0)) => .dat (.slice [])
  | a => a
def nzL : List AVal → List AVal
  | [] => []
  | a :: r => nz a :: nzL r

/-- .. and appended to as a row of nobody's. -/
def ownz : AVal → AVal
  | .dat (.flat (.slice none 0 0)) => .own []
  | a => a
def apz : List AVal → List AVal
  | [a, x] => [ownz a, nz x]
  | l => l

def isNilV : AVal → Bool
  | .dat (.flat (.slice none 0 0)) => true
  | _ => false

/-! ### Scalars -/

def intBin (pr : Prims) (op : BinOp) (k : IntKind) (a b : Int) : Option Value :=
  match op with
  | .add => some (.int k (pr.add k a b))
  | .sub => some (.int k (pr.dif k a b))
  | .mul => some (.int k (pr.mul k a b))
  | .quo => if pr.eq b 0 = true then none else some (.int k (pr.wrap k (pr.quo a b)))
  | .rem => if pr.eq b 0 = true then none else some (.int k (pr.rem a b))
  | .eql => some (.bool (pr.eq a b))
  | .neq => some (.bool !(pr.eq a b))
  | .lss => some (.bool (pr.lt a b))
  | .leq => some (.bool !(pr.lt b a))
  | .gtr => some (.bool (pr.lt b a))
  | .geq => some (.bool !(pr.lt a b))
  | _ => none

def strBin (pr : Prims) (op : BinOp) (x y : ByteArray) : Option Value :=
  match op with
  | .add => (match pr.cat x y with | some z => some (.string z) | none => none)
  | .eql => some (.bool (pr.seq x y))
  | .neq => some (.bool !(pr.seq x y))
  | .lss => some (.bool (pr.slt x y))
  | .leq => some (.bool (pr.slt x y || pr.seq x y))
  | .gtr => some (.bool !(pr.slt x y || pr.seq x y))
  | .geq => some (.bool !(pr.slt x y))
  | _ => none

def flatBin (pr : Prims) (op : BinOp) (td : Option TD) (x y : Value) : Option Value :=
  match op, x, y with
  | .shl, .int k a, .int _ b => if pr.lt b 0 = true then none else some (.int k (pr.wrap k (a * 2 ^ (min b.toNat k.bits))))
  | .shr, .int k a, .int _ b => if pr.lt b 0 = true then none else some (.int k (a.fdiv (2 ^ (min b.toNat k.bits))))
  | op, .int k a, .int k' b => if k = k' then intBin pr op k a b else none
  | op, .string a, .string b => strBin pr op a b
  | .eql, .bool a, .bool b => match td with | some .bool => some (.bool (a == b)) | _ => none
  | .neq, .bool a, .bool b => match td with | some .bool => some (.bool !(a == b)) | _ => none
  | .eql, .pointer none, .pointer none => match td with | some .pointer => some (.bool true) | _ => none
  | .neq, .pointer none, .pointer none => match td with | some .pointer => some (.bool false) | _ => none
  | _, _, _ => none

def aval (v : Value) : AVal := .dat (.flat v)

def TI.isAgg (i : TI) : Bool := match i.desc with | .struct _ => true | .array _ _ => true | _ => false

/-! ### Operations -/

/-- Which operand's ownership moves. -/
def movedOp : Op → Option Nat
  | .move _ | .assign _ | .box _ _ | .extract _ _ => some 0
  | .store _ _ _ => some 1
  | .call { callee := .builtin .append, .. } => some 0
  | _ => none

/-- What an operation does to the one object that it looks at. -/
inductive Eff where
  | keep
  | set (o : AObj)
  | new (o : AObj)
  /-- a new row in the place of the one that is looked at, and a slice of its first elements -/
  | grow (o : AObj) (s len : Nat)
  /-- a new row of the frame's own, and a slice of its first elements -/
  | row (o : AObj) (s len : Nat)
  /-- a new object that is known by a lasting name -/
  | fresh (o : AObj)

def dropL : Nat → List AVal → List AVal
  | 0, l => l
  | _ + 1, [] => []
  | n + 1, _ :: l => dropL n l

def takeL : Nat → List AVal → List AVal
  | 0, _ => []
  | _ + 1, [] => []
  | n + 1, a :: l => a :: takeL n l

/-- 'new' in the place of the cells from off on. -/
def putL {α : Type} : Nat → List α → List α → List α
  | _, [], l => l
  | _, _ :: _, [] => []
  | 0, n :: ns, _ :: l => n :: putL 0 ns l
  | off + 1, n :: ns, a :: l => a :: putL off (n :: ns) l

/-- The object that an operation looks at. -/
def looks : Op → List AVal → Option Name
  | .load _ _, [.ptr n _] => some n
  | .store _ _ _, [.ptr n _, _] => some n
  | .lookup _ _ _ _, [.map n, _] => some n
  | .mapUpdate _ _ _ _, [.map n, _, _] => some n
  | .insert _ _ _ _, [.map n, _, _] => some n
  | .call { callee := .builtin .len, .. }, [.map n] => some n
  | .call { callee := .builtin .append, .. }, [.win n _ _ _, _] => some n
  | .call { callee := .builtin .delete, .. }, [.map n, _] => some n
  | _, _ => none

def loadCells (i : TI) (off : Nat) (cs : List AVal) : Option AVal :=
  if i.isAgg then
    let part := takeL i.size (dropL off cs)
    if part.length = i.size then some (mkAgg (unOwnL part)) else none
  else match cs[off]? with
    | some (.own es) => some (.dat (.slice es))
    | some .undef => none
    | some (.agg _) => none
    | some (.tup _) => none
    | some a => some a
    | none => none

def loadDats (i : TI) (cs : List Dat) : Option AVal :=
  if i.isAgg then
    let part := cs.take i.size
    if part.length = i.size then some (.dat (.agg part)) else none
  else match cs with
    | .flat v :: _ => some (.dat (.flat v))
    | .slice es :: _ => some (.dat (.slice es))
    | _ => none

/-- Cells that a store takes. -/
def okCell : AVal → Bool
  | .dat (.flat _) | .dat (.slice _) | .own _ | .ref _ | .ptr _ _ | .map _ | .win _ _ _ _ | .fn _ _ _ => true
  | _ => false

def okCells : List AVal → Bool
  | [] => true
  | a :: r => okCell a && okCells r

/-- The parts laid into the zero value's cells. -/
def fillL (place : Nat → Option (Nat × Nat)) : List (Nat × AVal) → List AVal → Option (List AVal)
  | [], cells => some cells
  | (i, v) :: rest, cells =>
    match place i with
    | none => none
    | some (off, size) =>
      let cs := acells (unOwn v)
      if cs.length = size ∧ off + size ≤ cells.length ∧ okCells cs = true then fillL place rest (putL off cs cells) else none

/-- All parts of a slice literal, in order, as data. -/
def sliceParts (size : Nat) : Nat → List (Nat × AVal) → Option (List Dat)
  | _, [] => some []
  | k, (i, v) :: rest =>
    if i = k then
      match asDat v with
      | some d => if d.cells.length = size then match sliceParts size (k + 1) rest with | some ds => some (d :: ds) | none => none else none
      | none => none
    else none

def keyDesc : TD → Option TypeDesc
  | .string => some .string
  | .int k => some (.int k)
  | .bool => some .bool
  | _ => none

def TEnv.desc (E : TEnv) (t : TypeId) : Option TD := match E.ty t with | some i => some i.desc | none => none
def TEnv.key (E : TEnv) (t : TypeId) : Option TypeDesc := match E.ty t with | some i => keyDesc i.desc | none => none

structure Out where
  val : AVal
  eff : Eff

def ofV (v : Option Value) : Option Out := match v with | some v => some ⟨aval v, .keep⟩ | none => none
def ofA (v : Option AVal) : Option Out := match v with | some v => some ⟨v, .keep⟩ | none => none

def appendTo (pr : Prims) (i : TI) (es : List Dat) (x : AVal) : Option (List Dat) :=
  match x with
  | .dat (.slice ds) => pr.app i.size i.bytes es ds
  | _ => none

def bound1 (v : Option AVal) (dflt : Nat) : Option Nat :=
  match v with
  | none => some dflt
  | some (.dat (.flat (.int _ i))) => if 0 ≤ i then some i.toNat else none
  | some _ => none

/-- Bounds of a slice expression. -/
def intArg (v : Option AVal) : Option (Option Int) :=
  match v with
  | none => some none
  | some (.dat (.flat (.int _ i))) => some (some i)
  | some _ => none

def sliceOf (pr : Prims) (size : Nat) (lo hi : Option AVal) (x : AVal) : Option AVal :=
  match intArg lo, intArg hi with
  | some l, some h => (match x with
    | .dat (.flat (.string s)) => (match pr.ssub s l h with | some r => some (aval (.string r)) | none => none)
    | .dat (.slice es) => (match pr.sub size es l h with | some r => some (.dat (.slice r)) | none => none)
    | _ => none)
  | _, _ => none

def optArgs (lo hi : Option Operand) (vals : List AVal) : Option AVal × Option AVal :=
  match lo, hi, vals with
  | some _, some _, [l, h] => (some l, some h)
  | some _, none, [l] => (some l, none)
  | none, some _, [h] => (none, some h)
  | _, _, _ => (none, none)

def isNil (x : AVal) : Option Bool :=
  match x with
  | .ptr _ _ => some false
  | .ref _ => some false
  | .map _ => some false
  | .fn _ _ _ => some false
  | _ => none

def nilBin (op : BinOp) (td : Option TD) (x y : AVal) : Option Value :=
  match td, x, y with
  | some .pointer, .ptr _ _, .dat (.flat (.pointer none)) | some .pointer, .ref _, .dat (.flat (.pointer none)) =>
    (match op with | .eql => some (.bool false) | .neq => some (.bool true) | _ => none)
  | some (.map _ _), .map _, .dat (.flat (.map none)) => (match op with | .eql => some (.bool false) | .neq => some (.bool true) | _ => none)
  | _, _, _ => none

def isNilSlice : Operand → Bool
  | .const (.slice none 0 0) => true
  | _ => false

def notNil : BinOp → Option Out
  | .eql => some ⟨aval (.bool false), .keep⟩
  | .neq => some ⟨aval (.bool true), .keep⟩
  | _ => none

def yesNil : BinOp → Option Out
  | .eql => some ⟨aval (.bool true), .keep⟩
  | .neq => some ⟨aval (.bool false), .keep⟩
  | _ => none

/-- A slice against nil. -/
def aNilSlice (E : TEnv) (op : BinOp) (t : TypeId) : List AVal → Option Out
  | [x, _] => (match E.desc t with
    | some (.slice _) => (match x with
      | .win _ _ _ _ | .dat (.slice (_ :: _)) => notNil op
      | .dat (.flat (.slice none 0 0)) => yesNil op
      | _ => none)
    | _ => none)
  | _ => none

def parts (ps : List (Nat × Operand)) (vals : List AVal) : List (Nat × AVal) := (ps.map (·.1)).zip vals

def setAt (k : Nat) (d : Dat) : List (Value × Dat) → List (Value × Dat)
  | [] => []
  | (x, y) :: r => match k with | 0 => (x, d) :: r | k + 1 => (x, y) :: setAt k d r

def delAt (k : Nat) : List (Value × Dat) → List (Value × Dat)
  | [] => []
  | e :: r => match k with | 0 => r | k + 1 => e :: delAt k r

/-! #### Each kind of operation -/

def aMove : List AVal → Option Out
  | [v] => some ⟨v, .keep⟩
  | _ => none

def aPick : List AVal → Option Out
  | [.dat (.flat (.bool c)), a, b] => some ⟨if c then a else b, .keep⟩
  | _ => none

def aBin (E : TEnv) (op : BinOp) (t : TypeId) : List AVal → Option Out
  | [.dat (.flat x), .dat (.flat y)] => ofV (flatBin E.pr op (E.desc t) x y)
  | [x, y] => ofV (nilBin op (E.desc t) x y)
  | _ => none

def aUn (E : TEnv) (op : UnOp) : List AVal → Option Out
  | [.dat (.flat (.bool b))] => (match op with | .not => some ⟨aval (.bool !b), .keep⟩ | _ => none)
  | [.dat (.flat (.int k n))] => (match op with | .neg => some ⟨aval (.int k (E.pr.dif k 0 n)), .keep⟩ | _ => none)
  | _ => none

/-- Bytes, as numbers. -/
def byteInts : List Dat → Option (List Int)
  | [] => some []
  | .flat (.int .u8 n) :: r => (match byteInts r with | some ns => some (n :: ns) | none => none)
  | _ => none

def pushInts (ns : List Int) : ByteArray := ns.foldl (fun r n => r.push (UInt8.ofNat n.toNat)) ByteArray.empty

def aConvert (E : TEnv) (src d : TypeId) : List AVal → Option Out
  | [.dat (.flat (.int _ n))] => (match E.desc src, E.desc d with | some (.int _), some (.int k) => some ⟨aval (.int k (E.pr.wrap k n)), .keep⟩ | _, _ => none)
  | [.dat (.flat (.string x))] => (match E.desc src, E.desc d with | some .string, some .string => some ⟨aval (.string x), .keep⟩ | _, _ => none)
  | [.dat (.slice es)] => (match E.desc src, E.desc d with
    | some (.slice e), some .string => (match E.desc e, byteInts es with | some (.int .u8), some ns => some ⟨aval (.string (pushInts ns)), .keep⟩ | _, _ => none)
    | _, _ => none)
  | _ => none

def aNil : List AVal → Option Out
  | [.ptr n off] => some ⟨.ptr n off, .keep⟩
  | [.ref cs] => some ⟨.ref cs, .keep⟩
  | _ => none

def fieldOf (E : TEnv) (st : TypeId) (f : Nat) : Option (Nat × TI) :=
  match E.desc st with
  | some (.struct fs) => (match fs[f]? with
    | some (off, ft) => (match E.ty ft with
      | some i => some (off, i)
      | none => none)
    | none => none)
  | _ => none

def aFieldAddr (E : TEnv) (st : TypeId) (f : Nat) : List AVal → Option Out
  | [.ref cs] => (match fieldOf E st f with | some (off, i) => if i.size = 0 then none else some ⟨.ref (cs.drop off), .keep⟩ | none => none)
  | [.ptr n o] => (match fieldOf E st f with | some (off, i) => if i.size = 0 then none else some ⟨.ptr n (o + off), .keep⟩ | none => none)
  | _ => none

def aField (E : TEnv) (st : TypeId) (f : Nat) : List AVal → Option Out
  | [.dat (.agg cs)] => (match fieldOf E st f with | some (off, i) => ofA (loadDats i (cs.drop off)) | none => none)
  | [.agg cs] => (match fieldOf E st f with | some (off, i) => ofA (loadCells i off cs) | none => none)
  | _ => none

def elemOf (E : TEnv) (t : TypeId) : Option TI :=
  match E.desc t with
  | some (.slice e) => E.ty e
  | _ => none

def aIndexAddr (E : TEnv) (t : TypeId) : List AVal → Option Out
  | [.dat (.slice es), .dat (.flat (.int _ i))] =>
    (match elemOf E t with
     | some ti => (match E.pr.elt es i with
         | some d => if d.cells.length = ti.size ∧ 0 < ti.size then some ⟨.ref d.cells, .keep⟩ else none
         | none => none)
     | none => none)
  | [.win n s off len, .dat (.flat (.int _ i))] =>
    (match elemOf E t with
     | some ti => (match i with
       | .ofNat k => if (Nat.blt k len && Nat.beq s ti.size) = true then some ⟨.ptr n (off + k * s), .keep⟩ else none
       | .negSucc _ => none)
     | none => none)
  | [.ptr n off, .dat (.flat (.int _ i))] =>
    (match E.desc t with
     | some (.array len e) => (match E.ty e, i with
       | some ti, .ofNat k => if Nat.blt k len = true then some ⟨.ptr n (off + k * ti.size), .keep⟩ else none
       | _, _ => none)
     | _ => none)
  | _ => none

def aIndex (E : TEnv) (t : TypeId) : List AVal → Option Out
  | [.dat (.flat (.string s)), .dat (.flat (.int _ i))] =>
    (match E.desc t with
     | some .string => (match E.pr.byte s i with | some b => some ⟨aval (.int .u8 b.toNat), .keep⟩ | none => none)
     | _ => none)
  | _ => none

def aSlice (E : TEnv) (t : TypeId) (lo hi mx : Option Operand) : List AVal → Option Out
  | .dat (.flat (.string x)) :: rest =>
    (match mx, E.desc t with
     | none, some .string => ofA (sliceOf E.pr 0 (optArgs lo hi rest).1 (optArgs lo hi rest).2 (.dat (.flat (.string x))))
     | _, _ => none)
  | .dat (.slice es) :: rest =>
    (match mx, elemOf E t with
     | none, some i => ofA (sliceOf E.pr i.size (optArgs lo hi rest).1 (optArgs lo hi rest).2 (.dat (.slice es)))
     | _, _ => none)
  | .win n s off len :: rest =>
    (match mx, elemOf E t with
     | none, some i => (match intArg (optArgs lo hi rest).1, intArg (optArgs lo hi rest).2 with
       | some l, some h => (match boundOf h len, boundOf l 0 with
         | some h, some l => if (Nat.ble l h && Nat.ble h len && Nat.beq s i.size) = true then
             (match l with
              | 0 => some ⟨.win n s off h, .keep⟩
              | l + 1 => if Nat.blt (l + 1) h = true then some ⟨.win n s (off + (l + 1) * s) (h - (l + 1)), .keep⟩ else some ⟨.dat (.slice []), .keep⟩)
           else none
         | _, _ => none)
       | _, _ => none)
     | _, _ => none)
  | _ => none

def placeOf (E : TEnv) (st : TypeId) (k : Nat) : Option (Nat × Nat) := match fieldOf E st k with | some (off, i) => some (off, i.size) | none => none

def aBuild (E : TEnv) (t : TypeId) (ps : List (Nat × Operand)) (vals : List AVal) : Option Out :=
  match E.ty t with
  | some i => (match i.desc with
    | .struct _ => if okCells (acells (ofConst i.zero)) = true ∧ vals.length = ps.length then (match fillL (placeOf E t) (parts ps vals) (acells (ofConst i.zero)) with
      | some cs => some ⟨mkAgg cs, .keep⟩
      | none => none) else none
    | .array _ e => (match E.ty e with
      | some ie => if okCells (acells (ofConst i.zero)) = true ∧ vals.length = ps.length then (match fillL (fun k => some (k * ie.size, ie.size)) (parts ps vals) (acells (ofConst i.zero)) with
        | some cs => some ⟨mkAgg cs, .keep⟩
        | none => none) else none
      | none => none)
    | _ => none)
  | none => none

/-- A slice literal as a row. -/
def aBuildRow (E : TEnv) (t : TypeId) (len : Nat) (ps : List (Nat × Operand)) (vals : List AVal) : Option Out :=
  match elemOf E t with
  | some i => if 0 < i.size ∧ 0 < len ∧ len * i.size ≤ 16777216 ∧ vals.length = ps.length then (match sliceParts i.size 0 (parts ps vals) with
      | some ds => if ds.length = len ∧ bldSh ((ds.flatMap Dat.cells).map .dat) = false then some ⟨.undef, match Nat.beq len 1 with | true => .row (.cells ((ds.flatMap Dat.cells).map .dat)) i.size len | false => .grow (.cells ((ds.flatMap Dat.cells).map .dat)) i.size len⟩ else none
      | none => none) else none
  | none => none

/-- Rows of bytes are of type uint8. -/
def byteOk (E : TEnv) (t : TypeId) (es : List Dat) : Bool :=
  match isBytes es with
  | true => (match E.desc t with | some (.slice e) => Nat.beq e byteId | _ => false)
  | false => true

def aBuildSlice (E : TEnv) (t : TypeId) (len : Nat) (ps : List (Nat × Operand)) (vals : List AVal) : Option Out :=
  match elemOf E t with
  | some i => if 0 < i.size ∧ len * i.size ≤ 16777216 ∧ vals.length = ps.length then (match sliceParts i.size 0 (parts ps vals) with
      | some ds => if ds.length = len ∧ byteOk E t ds = true then some ⟨.own ds, .keep⟩ else none
      | none => none) else none
  | none => none

def aMakeFunc (f : Fn) (k : Nat) (vals : List AVal) : Option Out := some ⟨.fn f (takeL k vals) (dropL k vals), .keep⟩

def aExtract (i : Nat) : List AVal → Option Out
  | [.tup vs] => (match vs[i]? with | some v => some ⟨v, .keep⟩ | none => none)
  | _ => none

def aLoad (E : TEnv) (take : Bool) (t : TypeId) (vals : List AVal) (ob : Option AObj) : Option Out :=
  match vals with
  | [.ref cs] => (match E.ty t with | some i => ofA (loadDats i cs) | none => none)
  | [.ptr _ off] =>
    (match E.ty t, ob with
     | some i, some (.cells cs) =>
       if take && !i.isAgg then (match cs[off]? with
         | some (.own es) => some ⟨.own es, .set (.cells (putL off [.dat (.slice es)] cs))⟩
         | _ => ofA (loadCells i off cs))
       else ofA (loadCells i off cs)
     | _, _ => none)
  | _ => none

def aStore (E : TEnv) (t : TypeId) (vals : List AVal) (ob : Option AObj) : Option Out :=
  match vals with
  | [.ptr _ off, v] =>
    (match E.ty t, ob with
     | some i, some (.cells cs) =>
       if (acells v).length = i.size ∧ off + i.size ≤ cs.length ∧ okCells (acells v) = true ∧ 0 < i.size ∧ (!bldSh (putL off (acells v) cs) || bldSh cs) = true then some ⟨.undef, .set (.cells (putL off (acells v) cs))⟩ else none
     | _, _ => none)
  | _ => none

def aAlloc (E : TEnv) (t : TypeId) : List AVal → Option Out
  | [] => (match E.ty t with | some i => if okCells (acells (ofConst i.zero)) = true ∧ (!bldSh (acells (ofConst i.zero)) || Nat.beq t bldId) = true then some ⟨.undef, .new (.cells (acells (ofConst i.zero)))⟩ else none | none => none)
  | _ => none

def replL (zs : List AVal) : Nat → List AVal
  | 0 => []
  | c + 1 => zs ++ replL zs c

def aMakeSlice (E : TEnv) (t : TypeId) : List AVal → Option Out
  | [.dat (.flat (.int _ l)), .dat (.flat (.int _ c))] =>
    (match elemOf E t, l, c with
     | some i, .ofNat l, .ofNat c =>
       if (Nat.ble l c && Nat.ble (i.bytes * c) 140737488355328 && Nat.ble c lim && Nat.blt 0 i.size && okCells (acells (ofConst i.zero)) && !bldSh (replL (acells (ofConst i.zero)) c)) = true
       then some ⟨.undef, .grow (.cells (replL (acells (ofConst i.zero)) c)) i.size l⟩ else none
     | _, _, _ => none)
  | _ => none

def aBox : List AVal → Option Out
  | [v] => if okCells (acells v) = true ∧ bldSh (acells v) = false then some ⟨.undef, .new (.cells (acells v))⟩ else none
  | _ => none

def aMakeMap (r : Option Operand) : List AVal → Option Out
  | [] => (match r with | none => some ⟨.undef, .new (.map [])⟩ | some _ => none)
  | _ => none

def aFreshMap (r : Option Operand) : List AVal → Option Out
  | [] => (match r with | none => some ⟨.undef, .fresh (.map [])⟩ | some _ => none)
  | _ => none

def mapEntries (m : AVal) (ob : Option AObj) : Option (List (Value × Dat)) :=
  match m with
  | .dat (.flat (.map none)) => some []
  | .map _ => (match ob with | some (.map es) => some es | _ => none)
  | _ => none

def found (ok : Bool) (d : Dat) (b : Bool) : Out := ⟨if ok then .tup [.dat d, aval (.bool b)] else .dat d, .keep⟩

def aLookup (E : TEnv) (t : TypeId) (ok : Bool) (vals : List AVal) (ob : Option AObj) : Option Out :=
  match vals with
  | [m, .dat (.flat k)] =>
    (match E.desc t with
     | some (.map kt et) => (match E.key kt, E.ty et, mapEntries m ob with
       | some td, some ei, some es => (match E.pr.key td k es with
           | some (some (_, d)) => some (found ok d true)
           | some none => (match asDat (ofConst ei.zero) with
             | some z => some (found ok z false)
             | none => none)
           | none => none)
       | _, _, _ => none)
     | _ => none)
  | _ => none

def aMapUpdate (E : TEnv) (t : TypeId) (vals : List AVal) (ob : Option AObj) : Option Out :=
  match vals with
  | [.map _, .dat (.flat k), v] =>
    (match E.desc t, ob with
     | some (.map kt _), some (.map es) => (match E.key kt, asDat v with
       | some td, some d => (match E.pr.key td k es with
         | some (some (i, _)) => some ⟨.undef, .set (.map (setAt i d es))⟩
         | some none => some ⟨.undef, .set (.map (es ++ [(k, d)]))⟩
         | none => none)
       | _, _ => none)
     | _, _ => none)
  | _ => none

def aLen (E : TEnv) (t : TypeId) (vals : List AVal) (ob : Option AObj) : Option Out :=
  match vals with
  | [.dat (.slice es)] => (match E.desc t with | some (.slice _) => some ⟨aval (.int .i64 (E.pr.len es)), .keep⟩ | _ => none)
  | [.dat (.flat (.string s))] => (match E.desc t with | some .string => some ⟨aval (.int .i64 (E.pr.slen s)), .keep⟩ | _ => none)
  | [.win _ _ _ len] => (match E.desc t with | some (.slice _) => if Nat.ble len lim = true then some ⟨aval (.int .i64 (Int.ofNat len)), .keep⟩ else none | _ => none)
  | [.dat (.flat (.map none))] => (match E.desc t with | some (.map _ _) => some ⟨aval (.int .i64 0), .keep⟩ | _ => none)
  | [.map _] => (match E.desc t, ob with | some (.map _ _), some (.map es) => if es.length ≤ lim then some ⟨aval (.int .i64 es.length), .keep⟩ else none | _, _ => none)
  | _ => none

/-- A row of len elements with more behind them. -/
def growRow (E : TEnv) (i : TI) (len : Nat) (cs : List AVal) (x : AVal) : Option Out :=
  match appendTo E.pr i [] x with
  | some ds => if (Nat.ble ((len + ds.length) * i.bytes) 140737488355328 && Nat.ble (len + ds.length) lim && Nat.ble (len * i.size) cs.length && !bldSh (takeL (len * i.size) cs ++ (ds.flatMap Dat.cells).map .dat)) = true
      then some ⟨.undef, .grow (.cells (takeL (len * i.size) cs ++ (ds.flatMap Dat.cells).map .dat)) i.size (len + ds.length)⟩ else none
  | none => none

def isMore : AVal → Bool
  | .dat (.slice (_ :: _)) => true
  | _ => false

def aAppend (E : TEnv) (take : Bool) (t : TypeId) (vals : List AVal) (ob : Option AObj) : Option Out :=
  match vals with
  | [.own es, x] => (match elemOf E t with
    | some i => if (take && es.isEmpty && isMore x) = true then growRow E i 0 [] x
      else (match appendTo E.pr i es x with | some r => if byteOk E t r = true then some ⟨.own r, .keep⟩ else none | none => none)
    | none => none)
  | [.win _ s off len, x] => (match elemOf E t, ob with
    | some i, some (.cells cs) => if (take && Nat.beq s i.size && Nat.beq off 0) = true then growRow E i len cs x else none
    | _, _ => none)
  | _ => none

def byteDs : List UInt8 → List Dat
  | [] => []
  | b :: r => .flat (.int .u8 (Int.ofNat b.toNat)) :: byteDs r

/-- A string's bytes behind a row of bytes. -/
def aAppendStr (E : TEnv) (t t2 : TypeId) (vals : List AVal) : Option Out :=
  match vals with
  | [.own es, .dat (.flat (.string s))] => (match E.desc t2, elemOf E t with
    | some .string, some i => if Nat.beq i.size 1 = true then
        (match appendTo E.pr i es (.dat (.slice (byteDs s.data.toList))) with | some r => if byteOk E t r = true then some ⟨.own r, .keep⟩ else none | none => none) else none
    | _, _ => none)
  | _ => none

def aMax (E : TEnv) : List AVal → Option Out
  | [.dat (.flat (.int k x)), .dat (.flat (.int k' y))] => if k' = k then some ⟨aval (.int k (E.pr.mx x y)), .keep⟩ else none
  | _ => none

def aMin (E : TEnv) : List AVal → Option Out
  | [.dat (.flat (.int k x)), .dat (.flat (.int k' y))] => if k' = k then some ⟨aval (.int k (if E.pr.lt y x = true then y else x)), .keep⟩ else none
  | _ => none

def aDelete (E : TEnv) (t : TypeId) (vals : List AVal) (ob : Option AObj) : Option Out :=
  match vals with
  | [.map _, .dat (.flat k)] =>
    (match E.desc t, ob with
     | some (.map kt _), some (.map es) => (match E.key kt with
       | some td => (match E.pr.key td k es with
         | some (some (i, _)) => some ⟨.tup [], .set (.map (delAt i es))⟩
         | some none => some ⟨.tup [], .set (.map es)⟩
         | none => none)
       | none => none)
     | _, _ => none)
  | _ => none

def aBuiltin (E : TEnv) (take : Bool) (b : Builtin) (argTypes : List TypeId) (vals : List AVal) (ob : Option AObj) : Option Out :=
  match argTypes with
  | [] => none
  | t :: _ => match b with
    | .len => aLen E t (nzL vals) ob
    | .append => (match argTypes with | [_, t2] => if t2 = t then aAppend E take t (apz vals) ob else aAppendStr E t t2 (apz vals) | _ => none)
    | .max => aMax E vals
    | .min => aMin E vals
    | .delete => aDelete E t vals ob
    | _ => none

def aop (E : TEnv) (take : Bool) (o : Op) (vals : List AVal) (ob : Option AObj) : Option Out :=
  match o with
  | .move _ => aMove vals
  | .assign _ => aMove vals
  | .pick _ _ _ => aPick vals
  | .binOp op t _ y _ => if isNilSlice y = true then aNilSlice E op t vals else aBin E op t vals
  | .unOp op _ _ => aUn E op vals
  | .convert s d _ => aConvert E s d (nzL vals)
  | .nilCheck _ => aNil vals
  | .fieldAddr st _ f => aFieldAddr E st f vals
  | .field st _ f => aField E st f vals
  | .indexAddr t _ _ => aIndexAddr E t (nzL vals)
  | .index t _ _ => aIndex E t vals
  | .slice t _ lo hi mx => aSlice E t lo hi mx (nzL vals)
  | .build t ps => aBuild E t ps.toList vals
  | .buildSlice t len ps => if (take && Nat.blt 0 len) = true then aBuildRow E t len ps.toList vals else aBuildSlice E t len ps.toList vals
  | .makeFunc f first _ => aMakeFunc f first.size vals
  | .extract _ i => aExtract i vals
  | .load t _ => aLoad E take t vals ob
  | .store t _ _ => aStore E t vals ob
  | .alloc t => aAlloc E t vals
  | .box _ _ => aBox vals
  | .makeMap _ r => if take = true then aFreshMap r vals else aMakeMap r vals
  | .makeSlice t _ _ => aMakeSlice E t vals
  | .lookup t _ _ ok => aLookup E t ok vals ob
  | .mapUpdate t _ _ _ => aMapUpdate E t vals ob
  | .insert t _ _ _ => aMapUpdate E t vals ob
  | .call c => (match c.callee with | .builtin b => aBuiltin E take b c.argTypes.toList vals ob | _ => none)
  | _ => none
end Go.Tp
