/- IrLimits: the loop of validate. -/
import Derived.Test.YtgodfnboklbiiacGreatDoorL
import Derived.Test.YtgodfnboklbiiacGreatDoorTpChain
namespace Go.Proofs.YtgodfnboklbiiacGreatDoor
open Go.Tp
set_option maxRecDepth 100000
/-- A list of ticks and a return: how many ticks. -/
def esOf : List Dat → Option Nat
  | [] => none
  | d :: r => (match isTick d with
    | true => (match esOf r with | some k => some (k + 1) | none => none)
    | false => (match r with
      | [] => (match d with
        | .agg [.flat (.int .i64 (.ofNat a)), .flat (.int .i64 (.ofNat 0)), .flat (.int .i64 (.ofNat 0)), .flat (.int .i64 (.ofNat 0)), .flat (.int .i64 (.ofNat 0)), .flat (.string ⟨⟨[]⟩⟩), .flat (.slice none 0 0), .flat (.int .i64 (.ofNat 0)), .flat (.string ⟨⟨[]⟩⟩),
          .flat (.int .i64 (.ofNat 0)), .flat (.slice none 0 0), .flat (.int .i64 (.ofNat 0)), .flat (.int .i64 (.ofNat 0)), .flat (.string ⟨⟨[]⟩⟩), .flat (.slice none 0 0)] => (match Nat.beq a 19 with | true => some 0 | false => none)
        | _ => none)
      | _ :: _ => none))
def esN (k : Nat) : List Dat := ticks k ++ [instrD 19]
theorem esOf_eq : ∀ {es : List Dat} {k : Nat}, esOf es = some k → es = esN k
  | [], k, h => by simp [esOf] at h
  | d :: r, k, h => by
    unfold esOf at h
    split at h
    · rename_i ht
      obtain rfl := isTick_eq ht
      split at h
      · rename_i k' hk
        simp at h
        subst h
        rw [esOf_eq hk]
        rfl
      · simp at h
    · split at h
      · split at h
        · rename_i a
          split at h
          · rename_i hb
            obtain rfl := Nat.eq_of_beq_eq_true hb
            simp at h
            subst h
            rfl
          · simp at h
        · simp at h
      · simp at h
/-- hasFreeCycle of such code. -/
def knownV : XCalls := fun g args heap next =>
  match g, args, heap, next with
  | 18, [c], [], 0 => (match codeOf c with
    | some es => (match esOf es with
      | some k => (match Nat.beq k 1998 || Nat.beq k 1999 with | true => some ⟨bv false, [], 0⟩ | false => none)
      | none => none)
    | none => none)
  | _, _, _, _ => none
noncomputable def XV : XCalls := fun g args heap next => match knownV g args heap next with | some r => some r | none => XL g args heap next
noncomputable def rv10 (c : Code) (f : FState) : Option (Exit × FState) := fcode XV (env Prims.fast) xglobs ⟨xmoves, ord10, xcaps, rowsOf xcaps 10⟩ 109 live10 3000 c f
/-- r0 ; blk0 ; r5 -/
noncomputable def pre10 : Code := .seq (fstC code10) (.seq (fstC (sndC code10)) (fstC (fstC (sndC (sndC code10)))))
noncomputable def blk10 : Code := sndC (fstC (sndC (sndC code10)))
noncomputable def body10 : Code := fstC (fstC blk10)
noncomputable def post10 : Code := sndC (sndC (sndC code10))
theorem code10_eq : code10 = .seq (fstC code10) (.seq (fstC (sndC code10)) (.seq (.seq (fstC (fstC (sndC (sndC code10)))) (.block 1 (.loop body10))) post10)) := by kernel_rfl
noncomputable def b10r6 : Code := fstC body10
noncomputable def b10if : Code := fstC (sndC body10)
noncomputable def b10blk : Code := fstC (sndC (sndC body10))
noncomputable def b10r10 : Code := sndC (sndC (sndC body10))
noncomputable def b10r7 : Code := fstC (fstC b10blk)
noncomputable def b10rest : Code := sndC (fstC b10blk)
theorem body10_eq : body10 = .seq b10r6 (.seq b10if (.seq (.block 2 (.seq b10r7 b10rest)) b10r10)) := by kernel_rfl

noncomputable def H10 : Hints := ⟨xmoves, ord10, xcaps, rowsOf xcaps 10⟩
def regOps : Code → Array Oper
  | .region _ ops _ => ops
  | _ => #[]
def hdO : List Oper → Oper
  | o :: _ => o
  | [] => default
noncomputable def ops7 : Array Oper := regOps b10r7
theorem b10r7_eq : b10r7 = .region 7 ops7 false := by kernel_rfl
theorem ops7_eq : ops7.toList = hdO ops7.toList :: ops7.toList.tail := by kernel_rfl

/-- The cells of the code, and what a round leaves. -/
def codeO (es : List Dat) : Name × AObj := (.loc 2, .cells [iv 0, iv 1, .dat (.slice es), .dat (.flat (.slice none 0 0))])
def tickO (op : Int) : Name × AObj := (.loc 6, .cells [iv op, iv 0, iv 0, iv 0, iv 0, .dat (strD []), .dat (.flat (.slice none 0 0)), iv 0, .dat (strD []), iv 0, .dat (.flat (.slice none 0 0)), iv 0, iv 0, .dat (strD []), .dat (.flat (.slice none 0 0))])
def V (es : List Dat) (L i : Int) (lo : Heap) : FState := ⟨[(59, iv i), (58, iv L), (57, .dat (.slice es)), (2, .ptr (.loc 2) 0), (1, iv 1)], lo, [], 0⟩
def V6 (es : List Dat) (L i : Int) (b : Bool) (lo : Heap) : FState := ⟨[(60, bv b), (59, iv i), (58, iv L), (57, .dat (.slice es)), (2, .ptr (.loc 2) 0), (1, iv 1)], lo, [], 0⟩
def V7 (es : List Dat) (L i : Int) (lo : Heap) : FState := ⟨[(6, .ptr (.loc 6) 0), (59, iv i), (58, iv L), (57, .dat (.slice es)), (2, .ptr (.loc 2) 0), (1, iv 1)], lo, [], 0⟩
def V66 (es : List Dat) (L i : Int) (lo : Heap) : FState := ⟨[(66, bv false), (59, iv i), (58, iv L), (57, .dat (.slice es)), (2, .ptr (.loc 2) 0), (1, iv 1)], lo, [], 0⟩
theorem fseq_exit {X : XCalls} {E : TEnv} {G : Globs} {H : Hints} {n : Nat} {live : Nat → Nat} {fuel id : Nat} {x y : Code} {f f1 : FState} (h : fcode X E G H n live fuel x f = some (.exit id, f1)) : fcode X E G H n live fuel (.seq x y) f = some (.exit id, f1) := by
  rw [fcode_seq, h]
theorem v_r6 (es : List Dat) (L i : Int) (lo : Heap) : rv10 b10r6 (V es L i lo) = some (.normal, V6 es L i (ltF i L) lo) := by kernel_rfl
theorem v_if (es : List Dat) (L i : Int) (lo : Heap) : rv10 b10if (V6 es L i true lo) = some (.normal, V6 es L i true lo) := by kernel_rfl
theorem v_out (es : List Dat) (L i : Int) (lo : Heap) : rv10 b10if (V6 es L i false lo) = some (.exit 1, V6 es L i false lo) := by kernel_rfl
noncomputable def f70 (d : Dat) (es : List Dat) (L i : Int) (lo : Heap) : FState := fput (V6 es L i true lo) (hdO ops7.toList).dst (.ref d.cells)
noncomputable def ti32 : TI := match Go.Tp.elemOf (env Prims.fast) 32 with | some t => t | none => default
theorem v_op0 (d : Dat) (hd : d.cells.length = 15) (es : List Dat) (L : Int) (i : Nat) (lo : Heap) (h : es[i]? = some d) :
    fone XV (env Prims.fast) xglobs (H10.at 7) 109 ops7.toList (hdO ops7.toList) (V6 es L (Int.ofNat i) true lo) = some (f70 d es L (Int.ofNat i) lo) := by
  have hop : (hdO ops7.toList).op = .indexAddr 32 (.tmp 57) (.tmp 59) := by kernel_rfl
  have hsz : ti32.size = 15 := by kernel_rfl
  have hti : Go.Tp.elemOf (env Prims.fast) 32 = some ti32 := by kernel_rfl
  refine fone_keep (vals := [.dat (.slice es), iv (Int.ofNat i)]) (ob := none) (f1 := V6 es L (Int.ofNat i) true lo) (by kernel_rfl) (by rw [hop]; rfl) (by kernel_rfl) (by rw [hop]; rfl) (by kernel_rfl) ?_
  rw [hop]
  exact idx_dat (E := env Prims.fast) (es := es) (i := Int.ofNat i) (ti := ti32) (d := d) hti (fast_elt h) (hd.trans hsz.symm) (by rw [hsz]; decide)
noncomputable def end7 (f : FState) : Option FState := match fops XV (env Prims.fast) xglobs (H10.at 7) 109 ops7.toList ops7.toList.tail f with | some f => some (fprune f (fun l => pruneS l (live10 7))) | none => none
theorem v_r7 {d : Dat} {es : List Dat} {L : Int} {i : Nat} {lo : Heap} {f : FState} (hd : d.cells.length = 15) (h : es[i]? = some d) (h2 : end7 (f70 d es L (Int.ofNat i) lo) = some f) :
    rv10 b10r7 (V6 es L (Int.ofNat i) true lo) = some (.normal, f) := by
  unfold end7 at h2
  split at h2
  · rename_i f' hf
    simp at h2
    subst h2
    rw [b10r7_eq]
    refine fregion_ops ?_
    show fops XV (env Prims.fast) xglobs (H10.at 7) 109 ops7.toList ops7.toList _ = _
    have e : fops XV (env Prims.fast) xglobs (H10.at 7) 109 ops7.toList ops7.toList (V6 es L (Int.ofNat i) true lo) = fops XV (env Prims.fast) xglobs (H10.at 7) 109 ops7.toList (hdO ops7.toList :: ops7.toList.tail) (V6 es L (Int.ofNat i) true lo) := congrArg (fun l => fops XV (env Prims.fast) xglobs (H10.at 7) 109 ops7.toList l (V6 es L (Int.ofNat i) true lo)) ops7_eq
    rw [e, fops_cons (v_op0 d hd es L i lo h)]
    exact hf
  · simp at h2
theorem v_rest0 (es : List Dat) (L i : Int) : end7 (f70 (instrD 14) es L i [codeO es]) = some (V7 es L i [tickO 14, codeO es]) := by kernel_rfl
theorem v_rest1 (es : List Dat) (L i : Int) : end7 (f70 (instrD 14) es L i [tickO 14, codeO es]) = some (V7 es L i [tickO 14, codeO es]) := by kernel_rfl
theorem v_rest2 (es : List Dat) (L i : Int) : end7 (f70 (instrD 19) es L i [tickO 14, codeO es]) = some (V7 es L i [tickO 19, codeO es]) := by kernel_rfl
theorem v_last (es : List Dat) (L i : Int) : rv10 b10rest (V7 es L i [tickO 14, codeO es]) = some (.normal, V66 es L i [tickO 14, codeO es]) := by kernel_rfl
theorem v_last2 (es : List Dat) (L i : Int) : rv10 b10rest (V7 es L i [tickO 19, codeO es]) = some (.normal, V66 es L i [tickO 19, codeO es]) := by kernel_rfl
theorem v_r10 (es : List Dat) (L i : Int) (lo : Heap) : rv10 b10r10 (V66 es L i lo) = some (.normal, V es L (wrapF .i64 (i + 1)) lo) := by kernel_rfl

theorem fblock_norm {X : XCalls} {E : TEnv} {G : Globs} {H : Hints} {n : Nat} {live : Nat → Nat} {fuel id : Nat} {c : Code} {f f1 : FState} (h : fcode X E G H n live fuel c f = some (.normal, f1)) : fcode X E G H n live fuel (.block id c) f = some (.normal, f1) := by
  rw [fcode_block, h]
theorem wrap_nat {i : Nat} (h : i < 3000) : wrapF .i64 (Int.ofNat i + 1) = Int.ofNat (i + 1) := by
  rw [wrapF_eq]
  exact wrap_i64 (by simp; omega) (by simp; omega)
theorem ltF_nat {i L : Nat} : ltF (Int.ofNat i) (Int.ofNat L) = decide (i < L) := by
  rw [ltF_eq]; simp
theorem v_round {d : Dat} {es : List Dat} {L i : Nat} {lo lo' : Heap} (hd : d.cells.length = 15) (hL : L < 3000) (hi : i < L) (h : es[i]? = some d)
    (h1 : end7 (f70 d es (Int.ofNat L) (Int.ofNat i) lo) = some (V7 es (Int.ofNat L) (Int.ofNat i) lo')) (h2 : rv10 b10rest (V7 es (Int.ofNat L) (Int.ofNat i) lo') = some (.normal, V66 es (Int.ofNat L) (Int.ofNat i) lo')) :
    rv10 body10 (V es (Int.ofNat L) (Int.ofNat i) lo) = some (.normal, V es (Int.ofNat L) (Int.ofNat (i + 1)) lo') := by
  have e6 := v_r6 es (Int.ofNat L) (Int.ofNat i) lo
  rw [ltF_nat, decide_eq_true hi] at e6
  have e7 := v_r7 hd h h1
  have eb : rv10 (.block 2 (.seq b10r7 b10rest)) (V6 es (Int.ofNat L) (Int.ofNat i) true lo) = some (.normal, V66 es (Int.ofNat L) (Int.ofNat i) lo') := fblock_norm ((fseq_norm e7).trans h2)
  have e10 := v_r10 es (Int.ofNat L) (Int.ofNat i) lo'
  rw [wrap_nat (by omega)] at e10
  rw [body10_eq]
  exact (fseq_norm e6).trans ((fseq_norm (v_if es _ _ lo)).trans ((fseq_norm eb).trans e10))

/-- Where round i finds the loop. -/
noncomputable def SV (es : List Dat) (L : Nat) : Nat → FState
  | 0 => V es (Int.ofNat L) (Int.ofNat 0) [codeO es]
  | i + 1 => V es (Int.ofNat L) (Int.ofNat (i + 1)) [tickO 14, codeO es]
theorem ticks_length : ∀ k, (ticks k).length = k
  | 0 => rfl
  | k + 1 => by simp [ticks, ticks_length k]
theorem ticks_get : ∀ {k i : Nat}, i < k → (ticks k)[i]? = some (instrD 14)
  | 0, _, h => by omega
  | k + 1, 0, _ => rfl
  | k + 1, i + 1, h => by
    show (ticks k)[i]? = _
    exact ticks_get (by omega)
theorem esN_get {k i : Nat} (h : i < k) : (esN k)[i]? = some (instrD 14) := by
  unfold esN
  rw [List.getElem?_append_left (by rw [ticks_length]; exact h)]
  exact ticks_get h
theorem esN_last (k : Nat) : (esN k)[k]? = some (instrD 19) := by
  unfold esN
  rw [List.getElem?_append_right (by rw [ticks_length]; omega), ticks_length, Nat.sub_self]
  rfl
theorem d15 (op : Int) : (instrD op).cells.length = 15 := rfl
theorem v_ticks {k i : Nat} (hk : k < 2999) (hi : i < k) : rv10 body10 (SV (esN k) (k + 1) i) = some (.normal, SV (esN k) (k + 1) (i + 1)) := by
  cases i with
  | zero => exact v_round (d15 14) (by omega) (by omega) (esN_get hi) (v_rest0 _ _ _) (v_last _ _ _)
  | succ i => exact v_round (d15 14) (by omega) (by omega) (esN_get hi) (v_rest1 _ _ _) (v_last _ _ _)
/-- The loop, whole. -/
theorem v_loop {k : Nat} (h0 : 0 < k) (hk : k < 2900) : rv10 (.block 1 (.loop body10)) (SV (esN k) (k + 1) 0) = some (.normal, V6 (esN k) (Int.ofNat (k + 1)) (Int.ofNat (k + 1)) false [tickO 19, codeO (esN k)]) := by
  have ek : SV (esN k) (k + 1) k = V (esN k) (Int.ofNat (k + 1)) (Int.ofNat k) [tickO 14, codeO (esN k)] := by
    obtain ⟨j, rfl⟩ : ∃ j, k = j + 1 := ⟨k - 1, by omega⟩
    rfl
  have hl := floop_rounds (body := rv10 body10) (S := SV (esN k) (k + 1)) (m := k) (fuel := 3000) (fun i hi => v_ticks (by omega) hi) (by omega) 0 (by omega)
  have e1 : rv10 body10 (SV (esN k) (k + 1) k) = some (.normal, V (esN k) (Int.ofNat (k + 1)) (Int.ofNat (k + 1)) [tickO 19, codeO (esN k)]) := by
    rw [ek]
    exact v_round (d15 19) (by omega) (by omega) (esN_last k) (v_rest2 _ _ _) (v_last2 _ _ _)
  have e6 := v_r6 (esN k) (Int.ofNat (k + 1)) (Int.ofNat (k + 1)) [tickO 19, codeO (esN k)]
  rw [ltF_nat, decide_eq_false (by omega)] at e6
  have e2 : rv10 body10 (V (esN k) (Int.ofNat (k + 1)) (Int.ofNat (k + 1)) [tickO 19, codeO (esN k)]) = some (.exit 1, V6 (esN k) (Int.ofNat (k + 1)) (Int.ofNat (k + 1)) false [tickO 19, codeO (esN k)]) := by
    rw [body10_eq]
    refine (fseq_norm e6).trans ?_
    exact fseq_exit (v_out (esN k) (Int.ofNat (k + 1)) (Int.ofNat (k + 1)) [tickO 19, codeO (esN k)])
  refine fblock_exit ?_
  rw [fcode_loop]
  change floop (rv10 body10) 3000 _ = _
  obtain ⟨j, hj⟩ : ∃ j, 3000 - k = j + 2 := ⟨3000 - k - 2, by omega⟩
  rw [Nat.sub_zero] at hl
  rw [hl, hj, floop_step e1, floop_exit e2]
end Go.Proofs.YtgodfnboklbiiacGreatDoor
