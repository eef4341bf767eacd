/- The generic layer: a frame whose slots are a short list; it does what the other does. -/
import Derived.Test.YteanmfacikjjhaaGreatDoorTpFast
namespace Go.Tp

abbrev Sl := List (Nat × AVal)

structure FState where
  sl : Sl
  locs : Heap
  heap : Heap
  next : Nat

/-- The value of a slot: the newest. -/
noncomputable def getS (l : Sl) (t : Nat) : AVal :=
  @List.rec (Nat × AVal) (fun _ => AVal) .undef (fun p _ ih => @Bool.rec (fun _ => AVal) ih p.2 (Nat.beq p.1 t)) l

theorem getS_nil (t : Nat) : getS [] t = .undef := rfl
theorem getS_cons (d : Nat) (v : AVal) (r : Sl) (t : Nat) : getS ((d, v) :: r) t = if d = t then v else getS r t := by
  have e : getS ((d, v) :: r) t = @Bool.rec (fun _ => AVal) (getS r t) v (Nat.beq d t) := rfl
  rw [e]
  by_cases h : d = t
  · have : Nat.beq d t = true := by rw [Nat.beq_eq]; exact h
    rw [this, if_pos h]
  · have : Nat.beq d t = false := by rw [Bool.eq_false_iff]; intro hc; rw [Nat.beq_eq] at hc; exact h hc
    rw [this, if_neg h]

noncomputable def mkS : Nat → Nat → Sl → List AVal
  | 0, _, _ => []
  | n + 1, k, l => getS l k :: mkS n (k + 1) l

theorem mkS_length : ∀ (n k : Nat) (l : Sl), (mkS n k l).length = n
  | 0, _, _ => rfl
  | n + 1, k, l => by simp [mkS, mkS_length n]
theorem mkS_get : ∀ (n k : Nat) (l : Sl) (t : Nat), (mkS n k l)[t]? = if t < n then some (getS l (k + t)) else none
  | 0, _, _, _ => by simp [mkS]
  | n + 1, k, l, 0 => by simp [mkS]
  | n + 1, k, l, t + 1 => by
    simp only [mkS, List.getElem?_cons_succ, mkS_get n (k + 1) l t]
    rw [show k + 1 + t = k + (t + 1) by omega]
    by_cases h : t < n
    · rw [if_pos h, if_pos (by omega)]
    · rw [if_neg h, if_neg (by omega)]

theorem mkS_set (n : Nat) (l : Sl) (d : Nat) (v : AVal) : (mkS n 0 l).set d v = mkS n 0 ((d, v) :: l) := by
  apply List.ext_getElem?
  intro i
  rw [List.getElem?_set, mkS_length, mkS_get, mkS_get, Nat.zero_add, getS_cons]
  by_cases h : d = i
  · subst h; simp
  · rw [if_neg h, if_neg h]

noncomputable def mapS (f : AVal → AVal) (l : Sl) : Sl := @List.rec (Nat × AVal) (fun _ => Sl) [] (fun p _ ih => (p.1, f p.2) :: ih) l
theorem mapS_get {f : AVal → AVal} (hf : f .undef = .undef) (t : Nat) : ∀ l : Sl, getS (mapS f l) t = f (getS l t)
  | [] => by rw [show mapS f [] = [] from rfl, getS_nil, hf]
  | (d, v) :: r => by
    have e : mapS f ((d, v) :: r) = (d, f v) :: mapS f r := rfl
    rw [e, getS_cons, getS_cons]
    split
    · rfl
    · exact mapS_get hf t r
theorem mkS_map {f : AVal → AVal} (hf : f .undef = .undef) : ∀ (n k : Nat) (l : Sl), (mkS n k l).map f = mkS n k (mapS f l)
  | 0, _, _ => rfl
  | n + 1, k, l => by simp only [mkS, List.map_cons, mapS_get hf, mkS_map hf n]

def purgeV (n : Name) (a : AVal) : AVal := if mentions n a = true then .undef else a
theorem purgeL_map (n : Name) : ∀ l, purgeL n l = l.map (purgeV n)
  | [] => rfl
  | a :: r => by rw [purgeL, purgeL_map n r]; rfl
theorem frzL_map (n : Name) (ds : List Dat) : ∀ l, frzL n ds l = l.map (frz n ds)
  | [] => by simp [frzL]
  | a :: r => by simp [frzL, frzL_map n ds r]
theorem renL_map (n m : Name) : ∀ l, renL n m l = l.map (ren n m)
  | [] => by simp [renL]
  | a :: r => by simp [renL, renL_map n m r]

noncomputable def FState.toA (n : Nat) (f : FState) : AState := ⟨mkS n 0 f.sl, f.locs, f.heap, f.next⟩

section
variable (E : TEnv) (G : Globs) (H : Hints) (n : Nat)

noncomputable def fget (f : FState) (t : Nat) : AVal := @Bool.rec (fun _ => AVal) .undef (getS f.sl t) (Nat.blt t n)
theorem fget_eq (f : FState) (t : Nat) : getT (f.toA n).tmps t = fget n f t := by
  unfold getT fget FState.toA
  rw [mkS_get]
  by_cases h : t < n
  · have : Nat.blt t n = true := by rw [Nat.blt_eq]; exact h
    rw [if_pos h, this, Nat.zero_add]
  · have : Nat.blt t n = false := by rw [Bool.eq_false_iff]; intro hc; rw [Nat.blt_eq] at hc; exact h hc
    rw [if_neg h, this]

def fput (f : FState) (dst : Option Tmp) (v : AVal) : FState :=
  match f, dst with
  | ⟨sl, locs, heap, next⟩, some d => ⟨(d, v) :: sl, locs, heap, next⟩
  | f, none => f
theorem fput_eq (f : FState) (dst : Option Tmp) (v : AVal) : (fput f dst v).toA n = (f.toA n).put dst v := by
  cases dst with
  | none => rfl
  | some d => simp only [fput, FState.toA, AState.put, mkS_set]

noncomputable def feval (f : FState) : Operand → AVal
  | .tmp t => fget n f t
  | .const v => ofConst v
  | .global g => match G g with | some cs => .ref cs | none => .undef
  | .func g => .fn (.func g) [] []
theorem feval_eq (f : FState) (x : Operand) : aeval G (f.toA n) x = feval G n f x := by
  cases x with
  | tmp t => exact fget_eq n f t
  | const v => rfl
  | global g => rfl
  | func g => rfl

def isMv (mv : Option Nat) (k : Nat) : Bool := match mv with | none => false | some j => Nat.beq j k
theorem isMv_eq (mv : Option Nat) (k : Nat) : (isMv mv k = true) ↔ mv = some k := by
  cases mv with
  | none => simp [isMv]
  | some j => simp [isMv]

noncomputable def fargs (f : FState) (mv : Option Nat) : Nat → List Operand → List AVal
  | _, [] => []
  | k, x :: r => (match isMv mv k with | true => feval G n f x | false => unOwn (feval G n f x)) :: fargs f mv (k + 1) r
theorem fargs_eq (f : FState) (mv : Option Nat) : ∀ (xs : List Operand) (k : Nat), evalArgs G (f.toA n) mv k xs = fargs G n f mv k xs
  | [], _ => rfl
  | x :: r, k => by
    simp only [evalArgs, fargs, feval_eq, fargs_eq f mv r (k + 1)]
    by_cases h : mv = some k
    · rw [if_pos h, (isMv_eq mv k).2 h]
    · have : isMv mv k = false := by rw [Bool.eq_false_iff]; intro hc; exact h ((isMv_eq mv k).1 hc)
      rw [if_neg h, this]

noncomputable def fdrop (f : FState) (mv : Option Nat) (xs : List Operand) : FState :=
  match mv with
  | none => f
  | some k => match xs[k]? with
    | some (.tmp t) => fput f (some t) (unOwn (fget n f t))
    | _ => f
theorem fdrop_eq (f : FState) (mv : Option Nat) (xs : List Operand) : (fdrop n f mv xs).toA n = dropOwn (f.toA n) mv xs := by
  unfold fdrop dropOwn
  cases mv with
  | none => rfl
  | some k =>
    dsimp only
    cases h : xs[k]? with
    | none => rfl
    | some x =>
      cases x with
      | tmp t => rw [fput_eq]; simp only [AState.put, fget_eq]
      | _ => rfl

def nameB : Name → Name → Bool
  | .loc i, .loc j => Nat.beq i j
  | .out i, .out j => Nat.beq i j
  | _, _ => false
theorem nameB_iff (a b : Name) : nameB a b = true ↔ a = b := by
  cases a <;> cases b <;> simp [nameB]

def agetF (k : Name) : Heap → Option AObj
  | [] => none
  | (m, o) :: r => match nameB m k with | true => some o | false => agetF k r
theorem agetF_eq (k : Name) : ∀ l, agetF k l = aget k l
  | [] => rfl
  | (m, o) :: r => by
    simp only [agetF, aget, agetF_eq k r]
    by_cases h : m = k
    · rw [if_pos h, (nameB_iff m k).2 h]
    · have : nameB m k = false := by rw [Bool.eq_false_iff]; intro hc; exact h ((nameB_iff m k).1 hc)
      rw [if_neg h, this]

def asetF (k : Name) (o' : AObj) : Heap → Heap
  | [] => []
  | (m, o) :: r => match nameB m k with | true => (m, o') :: r | false => (m, o) :: asetF k o' r
def adelF (k : Name) : Heap → Heap
  | [] => []
  | (m, o) :: r => match nameB m k with | true => adelF k r | false => (m, o) :: adelF k r
theorem asetF_eq (k : Name) (o' : AObj) : ∀ l, asetF k o' l = aset k o' l
  | [] => rfl
  | (m, o) :: r => by
    simp only [asetF, aset, asetF_eq k o' r]
    by_cases h : m = k
    · rw [if_pos h, (nameB_iff m k).2 h]
    · have : nameB m k = false := by rw [Bool.eq_false_iff]; intro hc; exact h ((nameB_iff m k).1 hc)
      rw [if_neg h, this]
theorem adelF_eq (k : Name) : ∀ l, adelF k l = adel k l
  | [] => rfl
  | (m, o) :: r => by
    simp only [adelF, adel, adelF_eq k r]
    by_cases h : m = k
    · rw [if_pos h, (nameB_iff m k).2 h]
    · have : nameB m k = false := by rw [Bool.eq_false_iff]; intro hc; exact h ((nameB_iff m k).1 hc)
      rw [if_neg h, this]

def fobj (f : FState) (k : Name) : Option AObj :=
  match k with
  | .loc i => agetF (.loc i) f.locs
  | .out o => agetF (.out o) f.heap
theorem fobj_eq (f : FState) (k : Name) : (f.toA n).obj k = fobj f k := by
  cases k <;> simp [AState.obj, fobj, FState.toA, agetF_eq]

def flooked (f : FState) (o : Op) (vals : List AVal) : Option AObj := match looks o vals with | some k => fobj f k | none => none
theorem flooked_eq (f : FState) (o : Op) (vals : List AVal) : lookedAt (f.toA n) o vals = flooked f o vals := by
  unfold lookedAt flooked
  cases looks o vals with
  | none => rfl
  | some k => exact fobj_eq n f k

def fsetObj (f : FState) (k : Name) (o : AObj) : Option FState :=
  match f, k with
  | ⟨sl, locs, heap, next⟩, .loc i => some ⟨sl, asetF (.loc i) o locs, heap, next⟩
  | ⟨sl, locs, heap, next⟩, .out i => if noLocO o = true then some ⟨sl, locs, asetF (.out i) o heap, next⟩ else none
theorem fsetObj_eq (f : FState) (k : Name) (o : AObj) : (f.toA n).setObj k o = (fsetObj f k o).map (·.toA n) := by
  obtain ⟨sl, locs, heap, next⟩ := f
  cases k with
  | loc i => simp [AState.setObj, fsetObj, FState.toA, asetF_eq]
  | out i =>
    simp only [AState.setObj, fsetObj, FState.toA, asetF_eq]
    split <;> simp [FState.toA]

noncomputable def fnew (f : FState) (d : Nat) (o : AObj) : FState :=
  match f with
  | ⟨sl, locs, heap, next⟩ => ⟨(d, newVal d o) :: mapS (purgeV (.loc d)) sl, (.loc d, o) :: purgeO (.loc d) locs, heap, next⟩
theorem fnew_eq (f : FState) (d : Nat) (o : AObj) : (fnew f d o).toA n = newObj (f.toA n) d o := by
  obtain ⟨sl, locs, heap, next⟩ := f
  simp only [fnew, newObj, FState.toA, purgeL_map]
  rw [mkS_map (f := purgeV (.loc d)) (by simp [purgeV, mentions]), mkS_set]

noncomputable def fnewRow (f : FState) (d : Nat) (o : AObj) (sz len : Nat) : FState :=
  match f with
  | ⟨sl, locs, heap, next⟩ => ⟨(d, .win (.loc d) sz 0 len) :: mapS (purgeV (.loc d)) sl, (.loc d, o) :: purgeO (.loc d) locs, heap, next⟩
theorem fnewRow_eq (f : FState) (d : Nat) (o : AObj) (sz len : Nat) : (fnewRow f d o sz len).toA n = newRowS (f.toA n) d o sz len := by
  obtain ⟨sl, locs, heap, next⟩ := f
  simp only [fnewRow, newRowS, FState.toA, purgeL_map]
  rw [mkS_map (f := purgeV (.loc d)) (by simp [purgeV, mentions]), mkS_set]

noncomputable def fstepOut (o : Oper) (k : Option Name) (f : FState) (out : Out) : Option FState :=
  match out with
  | ⟨val, eff⟩ => match eff with
    | .keep => some (fput f o.dst val)
    | .set ob' => (match k with
      | some k => (match fsetObj f k ob' with | some f => some (fput f o.dst val) | none => none)
      | none => none)
    | .new ob' => (match o.dst with
      | some d => if freshFor d ob' = true then some (fnew f d ob') else none
      | none => none)
    | .row ob' sz len => (match o.dst with
      | some d => if freshFor d ob' = true then some (fnewRow f d ob' sz len) else none
      | none => none)
    | .fresh ob' => (match f with
      | ⟨sl, locs, heap, next⟩ => if noLocO ob' = true then some (fput ⟨sl, locs, (.out next, ob') :: heap, next + 1⟩ o.dst (outVal next ob')) else none)
    | .grow ob' sz len => (match f with
      | ⟨sl, locs, heap, next⟩ => match k with
        | some (.loc j) => if noLocO ob' = true then some (fput ⟨sl, adelF (.loc j) locs, (.out next, ob') :: heap, next + 1⟩ o.dst (.win (.out next) sz 0 len)) else none
        | some (.out j) => if noLocO ob' = true then some (fput ⟨sl, locs, (.out next, ob') :: adelF (.out j) heap, next + 1⟩ o.dst (.win (.out next) sz 0 len)) else none
        | none => if noLocO ob' = true then some (fput ⟨sl, locs, (.out next, ob') :: heap, next + 1⟩ o.dst (.win (.out next) sz 0 len)) else none)
theorem fstepOut_eq (o : Oper) (k : Option Name) (f : FState) (out : Out) : astepOut o k (f.toA n) out = (fstepOut o k f out).map (·.toA n) := by
  obtain ⟨val, eff⟩ := out
  unfold astepOut fstepOut
  cases eff with
  | keep => simp [fput_eq]
  | set ob' =>
    cases k with
    | none => rfl
    | some k =>
      dsimp only
      rw [fsetObj_eq]
      cases fsetObj f k ob' with
      | none => rfl
      | some f' => simp [fput_eq]
  | new ob' =>
    dsimp only
    cases o.dst with
    | none => rfl
    | some d => dsimp only; split <;> simp [fnew_eq]
  | row ob' sz len =>
    dsimp only
    cases o.dst with
    | none => rfl
    | some d => dsimp only; split <;> simp [fnewRow_eq]
  | fresh ob' =>
    obtain ⟨sl, locs, heap, next⟩ := f
    dsimp only
    split
    · simp only [Option.map_some, fput_eq]; rfl
    · rfl
  | grow ob' sz len =>
    obtain ⟨sl, locs, heap, next⟩ := f
    dsimp only
    cases k with
    | none =>
      dsimp only
      split
      · simp only [Option.map_some, fput_eq, adelF_eq]; rfl
      · rfl
    | some k =>
      cases k with
      | loc j =>
        dsimp only
        split
        · simp only [Option.map_some, fput_eq, adelF_eq]; rfl
        · rfl
      | out j =>
        dsimp only
        split
        · simp only [Option.map_some, fput_eq, adelF_eq]; rfl
        · rfl

noncomputable def fstep1 (o : Oper) (mv : Option Nat) (xs : List Operand) (take : Bool) (f : FState) (vals : List AVal) : Option FState :=
  match aop E take o.op vals (flooked f o.op vals) with
  | none => none
  | some out => fstepOut o (looks o.op vals) (fdrop n f mv xs) out

noncomputable def fstep (q take : Bool) (o : Oper) (f : FState) : Option FState :=
  fstep1 E n o (mvQ q o.op) (opsL o.op) take f (fargs G n f (mvQ q o.op) 0 (opsL o.op))
theorem fstep_eq (q take : Bool) (o : Oper) (f : FState) : astep E G q take o (f.toA n) = (fstep E G n q take o f).map (·.toA n) := by
  unfold astep fstep fstep1
  rw [fargs_eq, flooked_eq]
  split
  · rename_i h; rw [h]; rfl
  · rename_i out h
    rw [h]
    dsimp only
    rw [← fdrop_eq, fstepOut_eq]

/-! Calls -/
noncomputable def ftake : FState → List Operand → List AVal × FState
  | f, [] => ([], f)
  | f, x :: r =>
    match ftake (fdrop n f (some 0) [x]) r with
    | (vs, f') => (feval G n f x :: vs, f')
theorem ftake_eq : ∀ (xs : List Operand) (f : FState), takeArgs G (f.toA n) xs = ((ftake G n f xs).1, (ftake G n f xs).2.toA n)
  | [], f => rfl
  | x :: r, f => by
    simp only [takeArgs, ftake, ← fdrop_eq, ftake_eq r, feval_eq]

noncomputable def fprep1 (fz : Bool) (k : Name) (f : FState) (args : List AVal) : Option (FState × List AVal) :=
  match f with
  | ⟨sl, locs, heap, next⟩ => match k, agetF k locs with
    | .loc _, some (.cells cs) =>
      match frzCells fz k args cs with
      | some ds => some (⟨mapS (frz k ds) sl, mapO (frzL k ds) (adel k locs), heap, next⟩, frzL k ds args)
      | none => if noLocL (renL k (.out next) cs) = true then
        some (⟨mapS (ren k (.out next)) sl, mapO (renL k (.out next)) (adel k locs), (.out next, .cells (renL k (.out next) cs)) :: heap, next + 1⟩, renL k (.out next) args)
      else none
    | .loc _, some (.map es) =>
      some (⟨mapS (ren k (.out next)) sl, mapO (renL k (.out next)) (adel k locs), (.out next, .map es) :: heap, next + 1⟩, renL k (.out next) args)
    | _, _ => none
theorem fprep1_eq (fz : Bool) (k : Name) (f : FState) (args : List AVal) : prep1 fz k (f.toA n) args = (fprep1 fz k f args).map (fun x => (x.1.toA n, x.2)) := by
  obtain ⟨sl, locs, heap, next⟩ := f
  unfold prep1 fprep1
  simp only [FState.toA, agetF_eq]
  cases k with
  | out i => rfl
  | loc i =>
    cases aget (.loc i) locs with
    | none => rfl
    | some ob =>
      cases ob with
      | cells cs =>
        dsimp only
        cases frzCells fz (.loc i) args cs with
        | some ds => simp only [frzL_map, Option.map_some, FState.toA]; rw [mkS_map (by simp [frz])]
        | none =>
          dsimp only
          by_cases hno : noLocL (renL (.loc i) (.out next) cs) = true
          · refine (if_pos hno).trans ?_
            rw [if_pos hno]
            simp only [renL_map, Option.map_some, FState.toA]; rw [mkS_map (by simp [ren])]
          · refine (if_neg hno).trans ?_
            rw [if_neg hno]; rfl
      | map es => simp only [renL_map, Option.map_some, FState.toA]; rw [mkS_map (by simp [ren])]

noncomputable def fprep (fz : Bool) : List Name → FState → List AVal → FState × List AVal
  | [], f, args => (f, args)
  | k :: ks, f, args =>
    match fprep1 fz k f args with
    | some (f', args') => fprep fz ks f' args'
    | none => fprep fz ks f args
theorem fprep_eq (fz : Bool) : ∀ (ks : List Name) (f : FState) (args : List AVal), prep fz ks (f.toA n) args = ((fprep fz ks f args).1.toA n, (fprep fz ks f args).2)
  | [], _, _ => rfl
  | k :: ks, f, args => by
    simp only [prep, fprep, fprep1_eq]
    cases fprep1 fz k f args with
    | none => exact fprep_eq fz ks f args
    | some x => exact fprep_eq fz ks x.1 x.2

/-- What a call's arguments lead to. -/
def fneeded (f : FState) (args : List AVal) : List Name :=
  match addNew (namesL args) [] with
  | [] => []
  | l => twice (closeN f.locs f.locs.length l)
theorem fneeded_eq (f : FState) (args : List AVal) : needed (f.toA n) args = fneeded f args := rfl

noncomputable def fcallee (c : Call) (f : FState) : Option (FuncId × List AVal × FState) :=
  match c.callee with
  | .value x => (match feval G n f x with
    | .fn (.func g) first captured =>
      if E.fn g = true then
        match (match H.moves g with | true => ftake G n f c.args.toList | false => (fargs G n f none 0 c.args.toList, f)) with
        | (vs, f1) => (match fprep (!H.caps g) (fneeded f1 (first ++ vs ++ captured)) f1 (first ++ vs ++ captured) with
          | (f2, args) => if noLocL args = true then some (g, args, f2) else none)
      else none
    | _ => none)
  | _ => none
theorem fcallee_eq (c : Call) (f : FState) : acallee E G H c (f.toA n) = (fcallee E G H n c f).map (fun x => (x.1, x.2.1, x.2.2.toA n)) := by
  unfold acallee fcallee
  cases c.callee with
  | builtin b => rfl
  | invoke a b => rfl
  | value x =>
    dsimp only
    rw [feval_eq]
    cases feval G n f x with
    | fn fo first captured =>
      cases fo with
      | func g =>
        dsimp only
        by_cases hfn : E.fn g = true
        · rw [if_pos hfn, if_pos hfn]
          have e : (if H.moves g = true then takeArgs G (f.toA n) c.args.toList else (evalArgs G (f.toA n) none 0 c.args.toList, f.toA n)) =
              ((match H.moves g with | true => ftake G n f c.args.toList | false => (fargs G n f none 0 c.args.toList, f)).1, (match H.moves g with | true => ftake G n f c.args.toList | false => (fargs G n f none 0 c.args.toList, f)).2.toA n) := by
            cases hm : H.moves g with
            | true => rw [if_pos rfl, ftake_eq]
            | false => rw [if_neg (by simp), fargs_eq]
          rw [e]
          generalize (match H.moves g with | true => ftake G n f c.args.toList | false => (fargs G n f none 0 c.args.toList, f)) = pr
          obtain ⟨vs, f1⟩ := pr
          dsimp only
          rw [fneeded_eq, fprep_eq]
          generalize fprep (!H.caps g) (fneeded f1 (first ++ vs ++ captured)) f1 (first ++ vs ++ captured) = pr
          obtain ⟨f2, args⟩ := pr
          dsimp only
          by_cases hno : noLocL args = true
          · rw [if_pos hno, if_pos hno]; rfl
          · rw [if_neg hno, if_neg hno]; rfl
        · rw [if_neg hfn, if_neg hfn]; rfl
      | _ => rfl
    | _ => rfl

noncomputable def fcalleeD (c : Call) (f : FState) : Option (FuncId × List AVal × FState) :=
  match c.callee with
  | .value x => (match feval G n f x with
    | .fn (.func g) first captured =>
      if E.fn g = true then
        match (match H.moves g with | true => ftake G n f c.args.toList | false => (fargs G n f none 0 c.args.toList, f)) with
        | (vs, f1) => if noLocL (first ++ vs ++ captured) = true then some (g, first ++ vs ++ captured, f1) else none
      else none
    | _ => none)
  | _ => none
theorem fcalleeD_eq (c : Call) (f : FState) : acalleeD E G H c (f.toA n) = (fcalleeD E G H n c f).map (fun x => (x.1, x.2.1, x.2.2.toA n)) := by
  unfold acalleeD fcalleeD
  cases c.callee with
  | builtin b => rfl
  | invoke a b => rfl
  | value x =>
    dsimp only
    rw [feval_eq]
    cases feval G n f x with
    | fn fo first captured =>
      cases fo with
      | func g =>
        dsimp only
        by_cases hfn : E.fn g = true
        · rw [if_pos hfn, if_pos hfn]
          have e : (if H.moves g = true then takeArgs G (f.toA n) c.args.toList else (evalArgs G (f.toA n) none 0 c.args.toList, f.toA n)) =
              ((match H.moves g with | true => ftake G n f c.args.toList | false => (fargs G n f none 0 c.args.toList, f)).1, (match H.moves g with | true => ftake G n f c.args.toList | false => (fargs G n f none 0 c.args.toList, f)).2.toA n) := by
            cases hm : H.moves g with
            | true => rw [if_pos rfl, ftake_eq]
            | false => rw [if_neg (by simp), fargs_eq]
          rw [e]
          generalize (match H.moves g with | true => ftake G n f c.args.toList | false => (fargs G n f none 0 c.args.toList, f)) = pr
          obtain ⟨vs, f1⟩ := pr
          dsimp only
          by_cases hno : noLocL (first ++ vs ++ captured) = true
          · rw [if_pos hno, if_pos hno]; rfl
          · rw [if_neg hno, if_neg hno]; rfl
        · rw [if_neg hfn, if_neg hfn]; rfl
      | _ => rfl
    | _ => rfl

noncomputable def fwanted (ops : List Oper) (f : FState) (g : Option (Nat × Bool)) : Option Bool :=
  match g with
  | none => some true
  | some (j, want) => (match ops[j]? with
    | some o => (match o.dst with
      | some t => (match fget n f t with
        | .dat (.flat (.bool b)) => some (b == want)
        | .tup [] => some false
        | _ => none)
      | none => none)
    | none => none)
theorem fwanted_eq (ops : List Oper) (f : FState) (g : Option (Nat × Bool)) : wantedA ops (f.toA n) g = fwanted n ops f g := by
  unfold wantedA fwanted
  cases g with
  | none => rfl
  | some p =>
    obtain ⟨j, want⟩ := p
    dsimp only
    cases ops[j]? with
    | none => rfl
    | some o =>
      dsimp only
      cases o.dst with
      | none => rfl
      | some t => dsimp only; rw [fget_eq]; rfl

noncomputable def fstepQ (fh : Bool) (all : List Oper) (o : Oper) (f : FState) : Option AVal :=
  match fwanted n all f o.guard with
  | none => none
  | some b =>
    if b = true then
      if isAlloc o.op = true then (match aop E false o.op [] none with | some _ => some .undef | none => none)
      else (match isCall o.op with
        | some _ => none
        | none =>
          if (quietKind o.op && lookPure fh (looks o.op (fargs G n f none 0 (opsL o.op)))) = true then
            (match aop E false o.op (fargs G n f none 0 (opsL o.op)) (flooked f o.op (fargs G n f none 0 (opsL o.op))) with
             | some out => (match out.eff with | .keep => some out.val | _ => none)
             | none => none)
          else none)
    else some (.tup [])
theorem fstepQ_eq (fh : Bool) (all : List Oper) (o : Oper) (f : FState) : stepQ E G fh all o (f.toA n) = fstepQ E G n fh all o f := by
  unfold stepQ fstepQ
  rw [fwanted_eq, fargs_eq, flooked_eq]
  rfl

def fputO (f : FState) (k : Name) (o : AObj) : FState :=
  match f, k with
  | ⟨sl, locs, heap, next⟩, .loc i => ⟨sl, asetF (.loc i) o locs, heap, next⟩
  | ⟨sl, locs, heap, next⟩, .out i => ⟨sl, locs, asetF (.out i) o heap, next⟩
theorem fputO_eq (f : FState) (k : Name) (o : AObj) : (fputO f k o).toA n = (f.toA n).putO k o := by
  obtain ⟨sl, locs, heap, next⟩ := f
  cases k <;> simp [fputO, FState.toA, AState.putO, asetF_eq]

noncomputable def fshowTk (fh : Bool) (all : List Oper) : List Nat → FState → Option FState
  | [], f => some f
  | i :: r, f =>
    match all[i]? with
    | some o => (match o.op, o.dst, o.guard with
      | .load _ (.tmp u), some t, none => (match fget n f u with
        | .ptr k off => if okN fh k = true then (match fobj f k with
          | some (.cells cs) => (match cs[off]? with
            | some (.own es) => (match fget n f t with
              | .dat (.slice _) => fshowTk fh all r (fputO (fput f (some t) (.own es)) k (.cells (putL off [.dat (.slice es)] cs)))
              | _ => none)
            | _ => none)
          | _ => none) else none
        | _ => none)
      | _, _, _ => none)
    | none => none
theorem fshowTk_some (fh : Bool) (all : List Oper) : ∀ (tk : List Nat) (f f' : FState), fshowTk n fh all tk f = some f' → showTk fh all tk (f.toA n) = some (f'.toA n)
  | [], f, f', h => by simp [fshowTk] at h; subst h; rfl
  | i :: r, f, f', h => by
    simp only [fshowTk] at h
    split at h
    · rename_i o ho
      split at h
      · rename_i T u t hop hd hg
        split at h
        · rename_i k off hu
          split at h
          · rename_i hok
            split at h
            · rename_i cs hob
              split at h
              · rename_i es hes
                split at h
                · rename_i es2 ht
                  have ih := fshowTk_some fh all r _ _ h
                  rw [fputO_eq, fput_eq] at ih
                  simp only [showTk, ho, hop, hd, hg]
                  rw [fget_eq, hu]
                  dsimp only
                  rw [if_pos hok, fobj_eq, hob]
                  dsimp only
                  rw [hes]
                  dsimp only
                  rw [fget_eq, ht]
                  exact ih
                · simp at h
              · simp at h
            · simp at h
          · simp at h
        · simp at h
      · simp at h
    · simp at h

noncomputable def menS (m : Name) (l : Sl) : Bool := @List.rec (Nat × AVal) (fun _ => Bool) false (fun p _ ih => mentions m p.2 || ih) l
theorem menS_get {m : Name} (t : Nat) : ∀ {l : Sl}, menS m l = false → mentions m (getS l t) = false
  | [], _ => by rw [getS_nil]; simp [mentions]
  | (d, v) :: r, h => by
    have e : menS m ((d, v) :: r) = (mentions m v || menS m r) := rfl
    rw [e, Bool.or_eq_false_iff] at h
    rw [getS_cons]
    split
    · exact h.1
    · exact menS_get t h.2
theorem menS_mk {m : Name} {l : Sl} (h : menS m l = false) : ∀ n k : Nat, mentionsL m (mkS n k l) = false
  | 0, _ => by simp [mkS, mentionsL]
  | n + 1, k => by simp only [mkS, mentionsL, menS_get k h, menS_mk h n (k + 1), Bool.or_self]

noncomputable def fshowMk (all : List Oper) (mk : Option Nat) (f : FState) : Option FState :=
  match mk with
  | none => some f
  | some i => (match all[i]? with
    | some o => (match o.op, o.dst, o.guard with
      | .alloc t, some d, none => (match E.ty t with
        | some ti => if okCells (acells (ofConst ti.zero)) = true ∧ mentionsL (.loc d) (acells (ofConst ti.zero)) = false ∧ d < n ∧ menS (.loc d) f.sl = false then some (fnew f d (.cells (acells (ofConst ti.zero)))) else none
        | none => none)
      | _, _, _ => none)
    | none => none)
theorem fshowMk_some (all : List Oper) (mk : Option Nat) (f f' : FState) (h : fshowMk E n all mk f = some f') : showMk E all mk (f.toA n) = some (f'.toA n) := by
  unfold fshowMk at h
  unfold showMk
  have hl : (f.toA n).tmps.length = n := mkS_length n 0 f.sl
  cases mk with
  | none => simp at h; subst h; rfl
  | some i =>
    dsimp only at h ⊢
    cases hi : all[i]? with
    | none => rw [hi] at h; simp at h
    | some o =>
      rw [hi] at h
      dsimp only at h ⊢
      split at h
      · rename_i t d hop hd hg
        rw [hop, hd, hg]
        dsimp only
        cases hty : E.ty t with
        | none => rw [hty] at h; simp at h
        | some ti =>
          rw [hty] at h
          dsimp only at h ⊢
          rw [hl]
          split at h
          · rename_i hc
            rw [if_pos ⟨hc.1, hc.2.1, hc.2.2.1, menS_mk hc.2.2.2 n 0⟩]
            simp at h
            subst h
            rw [fnew_eq]
          · simp at h
      · simp at h
end
end Go.Tp
