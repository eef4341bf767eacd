/- IrLimits: the loop of hasFreeCycle. -/
import Derived.Test.YtgodfnboklbiiacGreatDoorV
namespace Go.Proofs.YtgodfnboklbiiacGreatDoor
open Go.Tp
set_option maxRecDepth 100000
def thenC : Code → Code
  | .cond _ a _ => a
  | c => c
def elseC : Code → Code
  | .cond _ _ b => b
  | c => c
def blkC : Code → Code
  | .block _ c => c
  | c => c
def loopC : Code → Code
  | .loop c => c
  | c => c
/-! body18 = r3 ; if(skip|exit 0) ; blk1 { r4 ; r5 ; blk2 { loop { (r6 ; if) ; blk3 { r7 ; (r8! ; r9 ; if(r10 ; r11 ; exit 3)) ; rest } } } } ; r23 -/
noncomputable def w3 : Code := fstC body18
noncomputable def wIf : Code := fstC (sndC body18)
noncomputable def wB1 : Code := blkC (fstC (sndC (sndC body18)))
noncomputable def w23 : Code := sndC (sndC (sndC body18))
noncomputable def w4 : Code := fstC wB1
noncomputable def w5 : Code := fstC (sndC wB1)
noncomputable def wIn : Code := loopC (blkC (sndC (sndC wB1)))
noncomputable def w6 : Code := fstC wIn
noncomputable def wB3 : Code := blkC (sndC wIn)
noncomputable def w7 : Code := fstC wB3
noncomputable def wT : Code := fstC (sndC wB3)
noncomputable def w8 : Code := fstC wT
noncomputable def w9 : Code := fstC (sndC wT)
noncomputable def wC : Code := sndC (sndC wT)
noncomputable def w10 : Code := fstC (thenC wC)
noncomputable def w11 : Code := sndC (thenC wC)
noncomputable def wR : Code := sndC (sndC wB3)
theorem body18_eq' : body18 = .seq w3 (.seq wIf (.seq (.block 1 wB1) w23)) := by kernel_rfl
theorem wB1_eq : wB1 = .seq w4 (.seq w5 (.block 2 (.loop wIn))) := by kernel_rfl
theorem wIn_eq : wIn = .seq w6 (.block 3 wB3) := by kernel_rfl
theorem wB3_eq : wB3 = .seq w7 (.seq (.seq w8 (.seq w9 wC)) wR) := by kernel_rfl
theorem wC_eq : wC = .cond (.tmp 63) (.seq w10 w11) .skip := by kernel_rfl

noncomputable def H18 : Hints := ⟨xmoves, ord18, xcaps, rowsOf xcaps 18⟩
def nthO (l : List Oper) (k : Nat) : Oper := match l[k]? with | some o => o | none => default
noncomputable def ops8 : List Oper := (regOps w8).toList
noncomputable def ops9 : List Oper := (regOps w9).toList
noncomputable def ops10 : List Oper := (regOps w10).toList
theorem w8_eq : w8 = .region 8 (regOps w8) true := by kernel_rfl
theorem w9_eq : w9 = .region 9 (regOps w9) false := by kernel_rfl
theorem w10_eq : w10 = .region 10 (regOps w10) false := by kernel_rfl

def codeC (es : List Dat) : AObj := .cells [iv 0, iv 1, .dat (.slice es), .dat (.flat (.slice none 0 0))]
def lo0 (es : List Dat) : Heap := [(.loc 1, codeC es)]
def lo1 (es : List Dat) (i : Int) : Heap := [(.loc 23, .cells [iv i, iv 0]), (.loc 1, codeC es)]
def lo1b (es : List Dat) (i : Int) : Heap := [(.loc 23, .cells [iv i, iv 0]), (.loc 7, .cells shapeC), (.loc 1, codeC es)]
def lo2 (es : List Dat) (i : Int) : Heap := [(.loc 7, .cells shapeC), (.loc 23, .cells [iv i, iv 0]), (.loc 1, codeC es)]
def Q (pre : List (Nat × AVal)) (L : Nat) (i : Int) (lo : Heap) (st : List AVal) : FState := ⟨pre ++ [(18, iv i), (17, iv (Int.ofNat L)), (3, .win (.out 0) 1 0 L), (1, .ptr (.loc 1) 0)], lo, [(.out 0, .cells st)], 1⟩
def win1 : Nat × AVal := (5, .win (.loc 23) 2 0 1)
def win0 : Nat × AVal := (5, .win (.loc 23) 2 0 0)
def ptr6 : Nat × AVal := (6, .ptr (.loc 23) 0)
theorem e_w3 (L : Nat) (i : Int) (lo : Heap) (st : List AVal) : rl18 w3 (Q [] L i lo st) = some (.normal, Q [(19, bv (ltF i (Int.ofNat L)))] L i lo st) := by kernel_rfl
theorem e_if (L : Nat) (i : Int) (lo : Heap) (st : List AVal) : rl18 wIf (Q [(19, bv true)] L i lo st) = some (.normal, Q [(19, bv true)] L i lo st) := by kernel_rfl
theorem e_if0 (L : Nat) (i : Int) (lo : Heap) (st : List AVal) : rl18 wIf (Q [(19, bv false)] L i lo st) = some (.exit 0, Q [(19, bv false)] L i lo st) := by kernel_rfl
theorem e_w4 (L : Nat) (i : Int) (lo : Heap) (st : List AVal) : rl18 w4 (Q [(19, bv true)] L i lo st) = some (.normal, Q [(4, iv i)] L i lo st) := by kernel_rfl
theorem e_w5a (es : List Dat) (L : Nat) (i : Int) (st : List AVal) : rl18 w5 (Q [(4, iv i)] L i (lo0 es) st) = some (.normal, Q [win1] L i (lo1 es i) st) := by kernel_rfl
theorem e_w5b (es : List Dat) (L : Nat) (i j : Int) (st : List AVal) : rl18 w5 (Q [(4, iv i)] L i (lo2 es j) st) = some (.normal, Q [win1] L i (lo1b es i) st) := by kernel_rfl
theorem e_w6 (L : Nat) (i : Int) (lo : Heap) (st : List AVal) : rl18 w6 (Q [win1] L i lo st) = some (.normal, Q [(26, bv true), win1] L i lo st) := by kernel_rfl
theorem e_w6e (L : Nat) (i : Int) (lo : Heap) (st : List AVal) : rl18 w6 (Q [win0] L i lo st) = some (.exit 2, Q [(26, bv false), win0] L i lo st) := by kernel_rfl
theorem e_w7a (es : List Dat) (L : Nat) (i : Int) (st : List AVal) : rl18 w7 (Q [(26, bv true), win1] L i (lo1 es i) st) = some (.normal, Q [ptr6, win1] L i (lo1 es i) st) := by kernel_rfl
theorem e_w7b (es : List Dat) (L : Nat) (i : Int) (st : List AVal) : rl18 w7 (Q [(26, bv true), win1] L i (lo1b es i) st) = some (.normal, Q [ptr6, win1] L i (lo1b es i) st) := by kernel_rfl
theorem e_w11 (es : List Dat) (L : Nat) (i : Int) (st : List AVal) : rl18 w11 (Q [win1] L i (lo2 es i) st) = some (.exit 3, Q [win0] L i (lo2 es i) st) := by kernel_rfl
theorem e_w23 (es : List Dat) (L : Nat) (i : Int) (st : List AVal) : rl18 w23 (Q [(26, bv false), win0] L i (lo2 es i) st) = some (.normal, Q [] L (wrapF .i64 (i + 1)) (lo2 es i) st) := by kernel_rfl

/-! ### Region 8 -/
noncomputable def h8 : RHint := H18.ord 8
noncomputable def fo8 (l : List (Nat × Bool)) (f : FState) : Option FState := ford XL (env Prims.fast) xglobs H18 135 h8.tk (quietHeap H18 ops8 h8.pre) (quietAt H18 ops8 h8.pre) ops8 l f
noncomputable def get (f : Option FState) : FState := match f with | some f => f | none => ⟨[], [], [], 0⟩
noncomputable def q8 (f : FState) : FState := get (fo8 (h8.pre.take 6) f)
noncomputable def end8 (f : FState) : Option FState := match fo8 (h8.pre.drop 7) f with
  | some f1 => (match fshowMk (env Prims.fast) 135 ops8 h8.nw f1 with
    | some f2 => (match fops XL (env Prims.fast) xglobs H18 135 ops8 (pickOps ops8 h8.tail) f2 with | some f3 => some (fprune f3 (fun l => pruneS l (live18 8))) | none => none)
    | none => none)
  | none => none
theorem pre8_eq : h8.pre = h8.pre.take 6 ++ ((6, false) :: h8.pre.drop 7) := by kernel_rfl
theorem e_w8 {d : Dat} {es : List Dat} {i : Nat} {f f2 : FState} (hd : d.cells.length = 15) (hes : es[i]? = some d) (hq : fo8 (h8.pre.take 6) f = some (q8 f))
    (ha : fargs xglobs 135 (q8 f) none 0 (opsL (nthO ops8 6).op) = [.dat (.slice es), iv (Int.ofNat i)])
    (he : end8 (fput (q8 f) (nthO ops8 6).dst (.ref d.cells)) = some f2) : rl18 w8 f = some (.normal, f2) := by
  have hop : (nthO ops8 6).op = .indexAddr 32 (.tmp 34) (.tmp 38) := by kernel_rfl
  have hsz : ti32.size = 15 := by kernel_rfl
  have hti : Go.Tp.elemOf (env Prims.fast) 32 = some ti32 := by kernel_rfl
  have h6 : ops8[6]? = some (nthO ops8 6) := by kernel_rfl
  unfold end8 at he
  split at he
  · rename_i f1 hf1
    split at he
    · rename_i f3 hf3
      split at he
      · rename_i f4 hf4
        simp at he
        subst he
        rw [w8_eq]
        refine fregion_draw ?_
        show fdraw XL (env Prims.fast) xglobs H18 135 ops8 h8 f = _
        refine (fdraw_of (f1 := f1) (f2 := f3) ?_ hf3).trans hf4
        have e : ∀ l, l = h8.pre → ford XL (env Prims.fast) xglobs H18 135 h8.tk (quietHeap H18 ops8 h8.pre) (quietAt H18 ops8 h8.pre) ops8 h8.pre f = fo8 l f := by rintro l rfl; rfl
        rw [e _ pre8_eq.symm]
        unfold fo8
        refine (ford_append hq).trans ?_
        refine (ford_quiet h6 (a := .ref d.cells) ?_).trans hf1
        refine fstepQ_val (vals := [.dat (.slice es), iv (Int.ofNat i)]) (ob := none) (by kernel_rfl) (by rw [hop]; rfl) (by rw [hop]; rfl) (by rw [hop]; rfl) ha (by rw [hop]; rfl) (by rw [hop]; rfl) ?_
        rw [hop]
        exact idx_dat (E := env Prims.fast) (es := es) (i := Int.ofNat i) (ti := ti32) (d := d) hti (fast_elt hes) (hd.trans hsz.symm) (by rw [hsz]; decide)
      · simp at he
    · simp at he
  · simp at he
def out8 (es : List Dat) (L : Nat) (i : Int) (st : List AVal) : FState := Q [(7, .ptr (.loc 7) 0), ptr6, win1] L i (lo2 es i) st
theorem e_w8a {es : List Dat} {L i : Nat} {st : List AVal} (h : es[i]? = some (instrD 14)) : rl18 w8 (Q [ptr6, win1] L (Int.ofNat i) (lo1 es (Int.ofNat i)) st) = some (.normal, out8 es L (Int.ofNat i) st) :=
  e_w8 (d15 14) h (by kernel_rfl) (by kernel_rfl) (by kernel_rfl)
theorem e_w8b {es : List Dat} {L i : Nat} {st : List AVal} (h : es[i]? = some (instrD 14)) : rl18 w8 (Q [ptr6, win1] L (Int.ofNat i) (lo1b es (Int.ofNat i)) st) = some (.normal, out8 es L (Int.ofNat i) st) :=
  e_w8 (d15 14) h (by kernel_rfl) (by kernel_rfl) (by kernel_rfl)
end Go.Proofs.YtgodfnboklbiiacGreatDoor
namespace Go.Proofs.YtgodfnboklbiiacGreatDoor
open Go.Tp
set_option maxRecDepth 100000

/-! ### The cells of the state -/
def stL (L i : Nat) : List AVal := reps (iv 2) i (reps (iv 0) (L - i) [])
theorem reps_length (v : AVal) (l : List AVal) : ∀ n, (reps v n l).length = n + l.length
  | 0 => by simp [reps]
  | n + 1 => by simp [reps, reps_length v l n]; omega
theorem reps_get (v : AVal) (l : List AVal) : ∀ n k, (reps v n l)[n + k]? = l[k]?
  | 0, k => by simp [reps]
  | n + 1, k => by
    rw [show n + 1 + k = (n + k) + 1 by omega]
    show (reps v n l)[n + k]? = _
    exact reps_get v l n k
theorem reps_put (v x : AVal) (l : List AVal) : ∀ n k, putL (n + k) [x] (reps v n l) = reps v n (putL k [x] l)
  | 0, k => by simp [reps]
  | n + 1, k => by
    rw [show n + 1 + k = (n + k) + 1 by omega]
    show v :: putL (n + k) [x] (reps v n l) = _
    rw [reps_put v x l n k]; rfl
theorem reps_snoc (v : AVal) (l : List AVal) : ∀ n, reps v n (v :: l) = reps v (n + 1) l
  | 0 => rfl
  | n + 1 => by
    show v :: reps v n (v :: l) = v :: reps v (n + 1) l
    rw [reps_snoc v l n]
theorem reps_noLoc {v : AVal} {l : List AVal} (hv : noLoc v = true) (hl : noLocL l = true) : ∀ n, noLocL (reps v n l) = true
  | 0 => hl
  | n + 1 => by show (noLoc v && noLocL (reps v n l)) = true; rw [hv, reps_noLoc hv hl n]; rfl
theorem stL_length {L i : Nat} (h : i ≤ L) : (stL L i).length = L := by
  unfold stL
  rw [reps_length, reps_length]
  simp; omega
theorem stL_get {L i : Nat} (h : i < L) : (stL L i)[i]? = some (iv 0) := by
  unfold stL
  have := reps_get (iv 2) (reps (iv 0) (L - i) []) i 0
  rw [Nat.add_zero] at this
  rw [this]
  obtain ⟨k, hk⟩ : ∃ k, L - i = k + 1 := ⟨L - i - 1, by omega⟩
  rw [hk]; rfl
theorem stL_put {L i : Nat} (h : i < L) : putL i [iv 2] (stL L i) = stL L (i + 1) := by
  unfold stL
  have := reps_put (iv 2) (iv 2) (reps (iv 0) (L - i) []) i 0
  rw [Nat.add_zero] at this
  rw [this]
  obtain ⟨k, hk⟩ : ∃ k, L - i = k + 1 := ⟨L - i - 1, by omega⟩
  rw [hk, show L - (i + 1) = k by omega]
  show reps (iv 2) i (iv 2 :: putL 0 [] (reps (iv 0) k [])) = _
  have : putL 0 ([] : List AVal) (reps (iv 0) k []) = reps (iv 0) k [] := by cases (reps (iv 0) k []) <;> rfl
  rw [this, reps_snoc]
theorem stL_noLoc (L i : Nat) : noLocL (stL L i) = true := reps_noLoc rfl (reps_noLoc rfl rfl _) _
theorem bldSh_int (k : Int) (l : List AVal) : bldSh (iv k :: l) = false := by
  unfold bldSh
  split <;> first | rfl | (rename_i h; simp only [List.cons.injEq] at h; rw [← h.1]; rfl)
theorem stL_bld {L i : Nat} : bldSh (stL L (i + 1)) = false := bldSh_int 2 _

/-! ### Region 9 -/
noncomputable def fo9 (l : List Oper) (f : FState) : Option FState := fops XL (env Prims.fast) xglobs (H18.at 9) 135 ops9 l f
noncomputable def q9 (es : List Dat) (L : Nat) (i : Int) (st : List AVal) : FState := get (fo9 (ops9.take 11) (out8 es L i st))
theorem ops9_eq : ops9 = ops9.take 11 ++ (nthO ops9 11 :: nthO ops9 12 :: ops9.drop 13) := by kernel_rfl
noncomputable def ti23 : TI := match Go.Tp.elemOf (env Prims.fast) 23 with | some t => t | none => default
noncomputable def q9a (es : List Dat) (L : Nat) (i : Nat) (st : List AVal) : FState := fput (q9 es L (Int.ofNat i) st) (nthO ops9 11).dst (.ptr (.out 0) i)
noncomputable def q9b (es : List Dat) (L : Nat) (i : Nat) (st : List AVal) : FState := fput (q9a es L i st) (nthO ops9 12).dst (iv 0)
noncomputable def end9 (f : FState) : Option FState := match fo9 (ops9.drop 13) f with | some f => some (fprune f (fun l => pruneS l (live18 9))) | none => none
def out9 (es : List Dat) (L : Nat) (i : Int) (st : List AVal) : FState := Q [(63, bv true), ptr6, win1] L i (lo2 es i) st
theorem e_q9 (es : List Dat) (L : Nat) (i : Int) (st : List AVal) : fo9 (ops9.take 11) (out8 es L i st) = some (q9 es L i st) := by kernel_rfl
theorem e_op11 {es : List Dat} {L i : Nat} {st : List AVal} (hi : i < L) : fone XL (env Prims.fast) xglobs (H18.at 9) 135 ops9 (nthO ops9 11) (q9 es L (Int.ofNat i) st) = some (q9a es L i st) := by
  have hop : (nthO ops9 11).op = .indexAddr 23 (.tmp 51) (.tmp 55) := by kernel_rfl
  have hti : Go.Tp.elemOf (env Prims.fast) 23 = some ti23 := by kernel_rfl
  refine fone_keep (vals := [.win (.out 0) 1 0 L, iv (Int.ofNat i)]) (ob := none) (f1 := q9 es L (Int.ofNat i) st) (by kernel_rfl) (by rw [hop]; rfl) (by kernel_rfl) (by rw [hop]; rfl) (by kernel_rfl) ?_
  rw [hop]
  have := idx_win (E := env Prims.fast) (t := 23) (ti := ti23) (m := .out 0) (s := 1) (off := 0) (len := L) (k := i) hti (by kernel_rfl) hi
  rw [show 0 + i * 1 = i by omega] at this
  exact this
theorem e_op12 {es : List Dat} {L i : Nat} {st : List AVal} (h : st[i]? = some (iv 0)) : fone XL (env Prims.fast) xglobs (H18.at 9) 135 ops9 (nthO ops9 12) (q9a es L i st) = some (q9b es L i st) := by
  have hop : (nthO ops9 12).op = .load 3 (.tmp 56) := by kernel_rfl
  refine fone_keep (vals := [.ptr (.out 0) i]) (ob := some (.cells st)) (f1 := q9a es L i st) (by kernel_rfl) (by rw [hop]; rfl) (by kernel_rfl) (by rw [hop]; kernel_rfl) (by kernel_rfl) ?_
  rw [hop]
  exact load_flat (E := env Prims.fast) (m := .out 0) (take := takeR (H18.at 9) ops9 (nthO ops9 12)) (t := 3) (i := match (env Prims.fast).ty 3 with | some t => t | none => default) (by kernel_rfl) (by kernel_rfl) h
theorem e_end9 (es : List Dat) (L i : Nat) (st : List AVal) : end9 (q9b es L i st) = some (out9 es L (Int.ofNat i) st) := by kernel_rfl
theorem e_w9 {es : List Dat} {L i : Nat} {st : List AVal} (hi : i < L) (h : st[i]? = some (iv 0)) : rl18 w9 (out8 es L (Int.ofNat i) st) = some (.normal, out9 es L (Int.ofNat i) st) := by
  have he := e_end9 es L i st
  unfold end9 at he
  split at he
  · rename_i f hf
    have he := Option.some.inj he
    rw [w9_eq, ← he]
    refine fregion_ops ?_
    show fo9 ops9 (out8 es L (Int.ofNat i) st) = _
    have e : fo9 ops9 (out8 es L (Int.ofNat i) st) = fo9 (ops9.take 11 ++ (nthO ops9 11 :: nthO ops9 12 :: ops9.drop 13)) (out8 es L (Int.ofNat i) st) := congrArg (fun l => fo9 l (out8 es L (Int.ofNat i) st)) ops9_eq
    rw [e]
    unfold fo9
    refine (fops_append (e_q9 es L (Int.ofNat i) st)).trans ?_
    refine (fops_cons (e_op11 hi)).trans ?_
    exact (fops_cons (e_op12 h)).trans hf
  · simp at he

/-! ### Region 10 -/
noncomputable def fo10 (l : List Oper) (f : FState) : Option FState := fops XL (env Prims.fast) xglobs (H18.at 10) 135 ops10 l f
noncomputable def q10 (es : List Dat) (L : Nat) (i : Int) (st : List AVal) : FState := get (fo10 (ops10.take 5) (out9 es L i st))
theorem ops10_eq : ops10 = ops10.take 5 ++ (nthO ops10 5 :: nthO ops10 6 :: []) := by kernel_rfl
noncomputable def q10a (es : List Dat) (L : Nat) (i : Nat) (st : List AVal) : FState := fput (q10 es L (Int.ofNat i) st) (nthO ops10 5).dst (.ptr (.out 0) i)
theorem e_q10 (es : List Dat) (L : Nat) (i : Int) (st : List AVal) : fo10 (ops10.take 5) (out9 es L i st) = some (q10 es L i st) := by kernel_rfl
theorem e_op5 {es : List Dat} {L i : Nat} {st : List AVal} (hi : i < L) : fone XL (env Prims.fast) xglobs (H18.at 10) 135 ops10 (nthO ops10 5) (q10 es L (Int.ofNat i) st) = some (q10a es L i st) := by
  have hop : (nthO ops10 5).op = .indexAddr 23 (.tmp 64) (.tmp 68) := by kernel_rfl
  have hti : Go.Tp.elemOf (env Prims.fast) 23 = some ti23 := by kernel_rfl
  refine fone_keep (vals := [.win (.out 0) 1 0 L, iv (Int.ofNat i)]) (ob := none) (f1 := q10 es L (Int.ofNat i) st) (by kernel_rfl) (by rw [hop]; rfl) (by kernel_rfl) (by rw [hop]; rfl) (by kernel_rfl) ?_
  rw [hop]
  have := idx_win (E := env Prims.fast) (t := 23) (ti := ti23) (m := .out 0) (s := 1) (off := 0) (len := L) (k := i) hti (by kernel_rfl) hi
  rw [show 0 + i * 1 = i by omega] at this
  exact this
def setSt (st : List AVal) : FState → FState
  | ⟨sl, lo, _, n⟩ => ⟨sl, lo, [(.out 0, .cells st)], n⟩
theorem e_op6 {es : List Dat} {L i : Nat} {st st' : List AVal} (hi : i < st.length) (hp : putL i [iv 2] st = st') (hb : bldSh st' = false) (hn : noLocL st' = true) :
    fone XL (env Prims.fast) xglobs (H18.at 10) 135 ops10 (nthO ops10 6) (q10a es L i st) = some (setSt st' (q10a es L i st)) := by
  have hop : (nthO ops10 6).op = .store 3 (.tmp 69) (.const (.int .i64 2)) := by kernel_rfl
  have hd : (nthO ops10 6).dst = none := by kernel_rfl
  subst hp
  have := fone_set (X := XL) (E := env Prims.fast) (G := xglobs) (H := H18.at 10) (n := 135) (all := ops10) (o := nthO ops10 6) (f := q10a es L i st) (f2 := setSt (putL i [iv 2] st) (q10a es L i st)) (vals := [.ptr (.out 0) i, iv 2]) (k := .out 0) (ob := some (.cells st)) (v := .undef) (o' := .cells (putL i [iv 2] st)) (f1 := q10a es L i st) (by kernel_rfl) (by rw [hop]; rfl) (by kernel_rfl) (by rw [hop]; rfl) (by rw [hop]; kernel_rfl) (by kernel_rfl)
    (by rw [hop]; exact store_flat (E := env Prims.fast) (m := .out 0) (t := 3) (i := match (env Prims.fast).ty 3 with | some t => t | none => default) (by kernel_rfl) (by kernel_rfl) hi hb)
    (by
      show (if noLocL (putL i [iv 2] st) = true then _ else _) = _
      rw [if_pos hn]; kernel_rfl)
  rw [hd] at this
  exact this
theorem e_end10 (es : List Dat) (L i : Nat) (st st' : List AVal) : fprune (setSt st' (q10a es L i st)) (fun l => pruneS l (live18 10)) = Q [win1] L (Int.ofNat i) (lo2 es (Int.ofNat i)) st' := by kernel_rfl
theorem e_w10 {es : List Dat} {L i : Nat} {st st' : List AVal} (hi : i < L) (hl : i < st.length) (hp : putL i [iv 2] st = st') (hb : bldSh st' = false) (hn : noLocL st' = true) :
    rl18 w10 (out9 es L (Int.ofNat i) st) = some (.normal, Q [win1] L (Int.ofNat i) (lo2 es (Int.ofNat i)) st') := by
  rw [w10_eq, ← e_end10 es L i st st']
  refine fregion_ops ?_
  show fo10 ops10 (out9 es L (Int.ofNat i) st) = _
  have e : fo10 ops10 (out9 es L (Int.ofNat i) st) = fo10 (ops10.take 5 ++ (nthO ops10 5 :: nthO ops10 6 :: [])) (out9 es L (Int.ofNat i) st) := congrArg (fun l => fo10 l (out9 es L (Int.ofNat i) st)) ops10_eq
  rw [e]
  unfold fo10
  refine (fops_append (e_q10 es L (Int.ofNat i) st)).trans ?_
  refine (fops_cons (e_op5 hi)).trans ?_
  exact (fops_cons (e_op6 hl hp hb hn)).trans rfl
end Go.Proofs.YtgodfnboklbiiacGreatDoor
namespace Go.Proofs.YtgodfnboklbiiacGreatDoor
open Go.Tp
set_option maxRecDepth 100000

theorem f_true {x y : Code} {f : FState} (h : feval xglobs 135 f (.tmp 63) = bv true) : rl18 (.cond (.tmp 63) x y) f = rl18 x f := by
  unfold rl18
  rw [fcode_cond, h]
theorem e_wC {es : List Dat} {L i : Nat} {st st' : List AVal} (hi : i < L) (hl : i < st.length) (hp : putL i [iv 2] st = st') (hb : bldSh st' = false) (hn : noLocL st' = true) :
    rl18 wC (out9 es L (Int.ofNat i) st) = some (.exit 3, Q [win0] L (Int.ofNat i) (lo2 es (Int.ofNat i)) st') := by
  rw [wC_eq, f_true (by kernel_rfl)]
  exact (fseq_norm (e_w10 hi hl hp hb hn)).trans (e_w11 es L (Int.ofNat i) st')

/-- Regions 8 to the end of the inner round, for a tick. -/
theorem e_wB3 {es : List Dat} {L i : Nat} {st st' : List AVal} {f f1 : FState} (h7 : rl18 w7 f = some (.normal, f1)) (h8 : rl18 w8 f1 = some (.normal, out8 es L (Int.ofNat i) st))
    (hi : i < L) (hl : i < st.length) (h0 : st[i]? = some (iv 0)) (hp : putL i [iv 2] st = st') (hb : bldSh st' = false) (hn : noLocL st' = true) :
    rl18 (.block 3 wB3) f = some (.normal, Q [win0] L (Int.ofNat i) (lo2 es (Int.ofNat i)) st') := by
  refine fblock_exit ?_
  rw [wB3_eq]
  refine (fseq_norm h7).trans ?_
  refine fseq_exit ?_
  refine (fseq_norm h8).trans ?_
  exact (fseq_norm (e_w9 hi h0)).trans (e_wC hi hl hp hb hn)

theorem e_inner {es : List Dat} {L i : Nat} {st st' : List AVal} {lo : Heap} (h7 : rl18 w7 (Q [(26, bv true), win1] L (Int.ofNat i) lo st) = some (.normal, Q [ptr6, win1] L (Int.ofNat i) lo st)) (h8 : rl18 w8 (Q [ptr6, win1] L (Int.ofNat i) lo st) = some (.normal, out8 es L (Int.ofNat i) st))
    (hi : i < L) (hl : i < st.length) (h0 : st[i]? = some (iv 0)) (hp : putL i [iv 2] st = st') (hb : bldSh st' = false) (hn : noLocL st' = true) :
    rl18 (.block 2 (.loop wIn)) (Q [win1] L (Int.ofNat i) lo st) = some (.normal, Q [(26, bv false), win0] L (Int.ofNat i) (lo2 es (Int.ofNat i)) st') := by
  refine fblock_exit ?_
  rw [fcode_loop]
  change floop (rl18 wIn) (2998 + 2) _ = _
  have h1 : rl18 wIn (Q [win1] L (Int.ofNat i) lo st) = some (.normal, Q [win0] L (Int.ofNat i) (lo2 es (Int.ofNat i)) st') := by
    rw [wIn_eq]
    exact (fseq_norm (e_w6 L (Int.ofNat i) lo st)).trans (e_wB3 h7 h8 hi hl h0 hp hb hn)
  have h2 : rl18 wIn (Q [win0] L (Int.ofNat i) (lo2 es (Int.ofNat i)) st') = some (.exit 2, Q [(26, bv false), win0] L (Int.ofNat i) (lo2 es (Int.ofNat i)) st') := by
    rw [wIn_eq]
    exact fseq_exit (e_w6e L (Int.ofNat i) _ st')
  rw [floop_step h1, floop_exit h2]

theorem e_round {es : List Dat} {L i : Nat} {st st' : List AVal} {lo lo' : Heap} (h5 : rl18 w5 (Q [(4, iv (Int.ofNat i))] L (Int.ofNat i) lo st) = some (.normal, Q [win1] L (Int.ofNat i) lo' st))
    (h7 : rl18 w7 (Q [(26, bv true), win1] L (Int.ofNat i) lo' st) = some (.normal, Q [ptr6, win1] L (Int.ofNat i) lo' st)) (h8 : rl18 w8 (Q [ptr6, win1] L (Int.ofNat i) lo' st) = some (.normal, out8 es L (Int.ofNat i) st))
    (hL : L < 3000) (hi : i < L) (hl : i < st.length) (h0 : st[i]? = some (iv 0)) (hp : putL i [iv 2] st = st') (hb : bldSh st' = false) (hn : noLocL st' = true) :
    rl18 body18 (Q [] L (Int.ofNat i) lo st) = some (.normal, Q [] L (Int.ofNat (i + 1)) (lo2 es (Int.ofNat i)) st') := by
  have e3 := e_w3 L (Int.ofNat i) lo st
  rw [ltF_nat, decide_eq_true hi] at e3
  have e23 := e_w23 es L (Int.ofNat i) st'
  rw [wrap_nat (by omega)] at e23
  have eb : rl18 (.block 1 wB1) (Q [(19, bv true)] L (Int.ofNat i) lo st) = some (.normal, Q [(26, bv false), win0] L (Int.ofNat i) (lo2 es (Int.ofNat i)) st') := by
    refine fblock_norm ?_
    rw [wB1_eq]
    exact (fseq_norm (e_w4 L (Int.ofNat i) lo st)).trans ((fseq_norm h5).trans (e_inner h7 h8 hi hl h0 hp hb hn))
  rw [body18_eq']
  exact (fseq_norm e3).trans ((fseq_norm (e_if L (Int.ofNat i) lo st)).trans ((fseq_norm eb).trans e23))

def loR (es : List Dat) : Nat → Heap
  | 0 => lo0 es
  | i + 1 => lo2 es (Int.ofNat i)
noncomputable def SR (k i : Nat) : FState := Q [] (k + 1) (Int.ofNat i) (loR (esN k) i) (stL (k + 1) i)
theorem e_tick {k i : Nat} (hk : k < 2900) (hi : i < k) : rl18 body18 (SR k i) = some (.normal, SR k (i + 1)) := by
  have hl : i < (stL (k + 1) i).length := by rw [stL_length (by omega)]; omega
  cases i with
  | zero => exact e_round (e_w5a _ _ _ _) (e_w7a _ _ _ _) (e_w8a (esN_get hi)) (by omega) (by omega) hl (stL_get (by omega)) (stL_put (by omega)) stL_bld (stL_noLoc _ _)
  | succ i => exact e_round (e_w5b _ _ _ _ _) (e_w7b _ _ _ _) (e_w8b (esN_get hi)) (by omega) (by omega) hl (stL_get (by omega)) (stL_put (by omega)) stL_bld (stL_noLoc _ _)
theorem e_loop {k : Nat} (hk : k < 2900) : floop (rl18 body18) 3000 (SR k 0) = floop (rl18 body18) (3000 - k) (SR k k) := by
  have := floop_rounds (body := rl18 body18) (S := SR k) (m := k) (fuel := 3000) (fun i hi => e_tick hk hi) (by omega) 0 (by omega)
  rw [Nat.sub_zero] at this
  exact this
end Go.Proofs.YtgodfnboklbiiacGreatDoor
