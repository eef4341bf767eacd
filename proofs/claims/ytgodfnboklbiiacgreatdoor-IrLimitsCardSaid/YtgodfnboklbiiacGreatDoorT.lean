/- IrLimits: long code is built. -/
import Derived.Test.YtgodfnboklbiiacGreatDoorW5
import Derived.Test.YtgodfnboklbiiacGreatDoorM
namespace Go.Proofs.YtgodfnboklbiiacGreatDoor
open Go.Tp
set_option maxRecDepth 100000

theorem fast_app {s bytes : Nat} {es ds : List Dat} (h1 : ∀ d ∈ es, d.cells.length = s + 1) (h2 : ∀ d ∈ ds, d.cells.length = s + 1) (hb : 0 < bytes) (hl : (es.length + ds.length) * bytes ≤ 140737488355328) (hm : es.length + ds.length ≤ lim) :
    Prims.fast.app (s + 1) bytes es ds = some (es ++ ds) := by
  show (match sizedB (s + 1) ds, sizedB (s + 1) es, Nat.blt 0 bytes, Nat.ble ((es.length + ds.length) * bytes) 140737488355328, Nat.ble (es.length + ds.length) lim with
        | true, true, true, true, true => some (es ++ ds)
        | _, _, _, _, _ => none) = _
  rw [sizedB_iff.2 h2, sizedB_iff.2 h1, show Nat.blt 0 bytes = true by rw [Nat.blt_eq]; exact hb, show Nat.ble ((es.length + ds.length) * bytes) 140737488355328 = true by rw [Nat.ble_eq]; exact hl, show Nat.ble (es.length + ds.length) lim = true by rw [Nat.ble_eq]; exact hm]

/-- Calls of f3: Mod, and Validate of long code. -/
def knownT : XCalls := fun g args heap next =>
  match g, args, heap, next with
  | 6, [c], [], 0 => (match codeOf c with
    | some es => (match esOf es with
      | some k => (match answer k with | some a => some ⟨iv a, [], 0⟩ | none => none)
      | none => none)
    | none => none)
  | _, _, _, _ => none
theorem knownT_ok : XOk Tryz.prog xglobs knownT := by
  intro f args heap next r h
  unfold knownT at h
  split at h
  · split at h
    · rename_i es hc
      split at h
      · rename_i k hk
        obtain rfl := codeOf_eq hc
        obtain rfl := esOf_eq hk
        split at h
        · rename_i a ha
          simp at h
          subst h
          unfold answer at ha
          split at ha
          · rename_i hb
            have ha := Option.some.inj ha
            subst ha
            rw [Bool.or_eq_true, Nat.beq_eq, Nat.beq_eq] at hb
            rcases hb with rfl | rfl
            · exact c_Val r6_8
            · exact c_Val r6_9
          · split at ha
            · rename_i hb
              have ha := Option.some.inj ha
              subst ha
              rw [Nat.beq_eq] at hb
              subst hb
              exact c_Val r6_0
            · simp at ha
        · simp at h
      · simp at h
    · simp at h
  · simp at h
noncomputable def XT : XCalls := fun g args heap next => match knownT g args heap next with | some r => some r | none => XM g args heap next
noncomputable def rt3 (c : Code) (f : FState) : Option (Exit × FState) := fcode XT (env Prims.fast) xglobs ⟨xmoves, ord3, xcaps, rowsOf xcaps 3⟩ 88 live3 3000 c f
noncomputable def H3 : Hints := ⟨xmoves, ord3, xcaps, rowsOf xcaps 3⟩

noncomputable def sw1 : Code := blkC cSw
noncomputable def cA : Code := thenC (sndC (elseC (sndC sw1)))
noncomputable def a14 : Code := fstC cA
noncomputable def a15 : Code := fstC (fstC (sndC cA))
noncomputable def aBlk : Code := sndC (fstC (sndC cA))
noncomputable def a19 : Code := sndC (sndC cA)
noncomputable def aBody : Code := fstC (fstC aBlk)
noncomputable def a16 : Code := fstC aBody
noncomputable def a18 : Code := blkC (fstC (sndC aBody))
noncomputable def a17 : Code := sndC (sndC aBody)
theorem cSw_eq : cSw = .block 0 (.seq (fstC sw1) (.cond (.tmp 38) (thenC (sndC sw1)) (.seq (fstC (elseC (sndC sw1))) (.cond (.tmp 43) cA (elseC (sndC (elseC (sndC sw1)))))))) := by kernel_rfl
theorem cA_eq : cA = .seq a14 (.seq (.seq a15 (.block 3 (.loop aBody))) a19) := by kernel_rfl
theorem aBody_eq : aBody = .seq a16 (.seq (.block 4 a18) a17) := by kernel_rfl
theorem a18_eq : a18 = .region 18 (regOps a18) false := by kernel_rfl
theorem a19_eq : a19 = .region 19 (regOps a19) false := by kernel_rfl

/-- i ticks are built. -/
def cellT : Nat → AVal
  | 0 => .dat (.flat (.slice none 0 0))
  | i + 1 => .own (ticks (i + 1))
def PB (pre : List (Nat × AVal)) (n : Int) (cell : AVal) : FState := ⟨pre ++ [(6, iv 4), (5, .ptr (.loc 5) 0), (1, iv n)], [(.loc 5, .cells [iv 0, iv 1, cell, .dat (.flat (.slice none 0 0))])], [], 0⟩
theorem a16_eq : a16 = .seq (fstC a16) (sndC a16) := by kernel_rfl
theorem t_16a (n : Int) (j : Int) (cell : AVal) : rt3 (fstC a16) (PB [(7, iv j)] n cell) = some (.normal, PB [(49, bv (ltF j (wrapF .i64 (2000 + n)))), (7, iv j)] n cell) := by kernel_rfl
theorem t_16t (n : Int) (j : Int) (cell : AVal) : rt3 (sndC a16) (PB [(49, bv true), (7, iv j)] n cell) = some (.normal, PB [(49, bv true), (7, iv j)] n cell) := by kernel_rfl
theorem t_16f (n : Int) (j : Int) (cell : AVal) : rt3 (sndC a16) (PB [(49, bv false), (7, iv j)] n cell) = some (.exit 3, PB [(49, bv false), (7, iv j)] n cell) := by kernel_rfl
theorem t_18 (n j : Int) : rt3 a18 (PB [(49, bv true), (7, iv j)] n (cellT 0)) = some (.normal, PB [(7, iv j)] n (cellT 1)) := by kernel_rfl
theorem t_17 (n j : Int) (cell : AVal) : rt3 a17 (PB [(7, iv j)] n cell) = some (.normal, PB [(7, iv (wrapF .i64 (j + 1)))] n cell) := by kernel_rfl
theorem t_sw (n : Int) : rt3 (fstC sw1) (SP n 1) = some (.normal, ⟨[(38, bv false), (16, iv 1), (6, iv 4), (5, .ptr (.loc 5) 0), (1, iv n)], [(.loc 5, .cells [iv 0, iv 1, .dat (.slice [instrD 19]), .dat (.flat (.slice none 0 0))])], [], 0⟩) := by kernel_rfl

/-! ### The append -/
noncomputable def ops18 : List Oper := (regOps a18).toList
noncomputable def ops19 : List Oper := (regOps a19).toList
noncomputable def fo18 (l : List Oper) (f : FState) : Option FState := fops XT (env Prims.fast) xglobs (H3.at 18) 88 ops18 l f
noncomputable def fo19 (l : List Oper) (f : FState) : Option FState := fops XT (env Prims.fast) xglobs (H3.at 19) 88 ops19 l f
theorem ops18_eq : ops18 = ops18.take 4 ++ (nthO ops18 4 :: ops18.drop 5) := by kernel_rfl
theorem ops19_eq : ops19 = ops19.take 4 ++ (nthO ops19 4 :: ops19.drop 5) := by kernel_rfl
noncomputable def q18 (n j : Int) (es : List Dat) : FState := get (fo18 (ops18.take 4) (PB [(49, bv true), (7, iv j)] n (.own es)))
noncomputable def q19 (n j : Int) (es : List Dat) : FState := get (fo19 (ops19.take 4) (PB [(49, bv false), (7, iv j)] n (.own es)))
theorem e_q18 (n j : Int) (es : List Dat) : fo18 (ops18.take 4) (PB [(49, bv true), (7, iv j)] n (.own es)) = some (q18 n j es) := by kernel_rfl
theorem e_q19 (n j : Int) (es : List Dat) : fo19 (ops19.take 4) (PB [(49, bv false), (7, iv j)] n (.own es)) = some (q19 n j es) := by kernel_rfl
noncomputable def d18 (n j : Int) (es : List Dat) : FState := fdrop 88 (q18 n j es) (some 0) (opsL (nthO ops18 4).op)
noncomputable def d19 (n j : Int) (es : List Dat) : FState := fdrop 88 (q19 n j es) (some 0) (opsL (nthO ops19 4).op)
theorem app_own {E : TEnv} {take : Bool} {t : TypeId} {i : TI} {es ds r : List Dat} {e : Dat} {es' : List Dat} (he : es = e :: es') (ht : Go.Tp.elemOf E t = some i) (ha : E.pr.app i.size i.bytes es ds = some r) (hb : byteOk E t r = true) :
    aAppend E take t [.own es, .dat (.slice ds)] none = some ⟨.own r, .keep⟩ := by
  subst he
  simp [aAppend, ht, appendTo, ha, hb]
theorem t_op18 (n j : Int) {es r : List Dat} {e : Dat} {es' : List Dat} (he : es = e :: es') (ha : Prims.fast.app ti32.size ti32.bytes es [instrD 14] = some r) (hb : isBytes r = false) :
    fone XT (env Prims.fast) xglobs (H3.at 18) 88 ops18 (nthO ops18 4) (q18 n j es) = some (fput (d18 n j es) (nthO ops18 4).dst (.own r)) := by
  have hti : Go.Tp.elemOf (env Prims.fast) 32 = some ti32 := by kernel_rfl
  have hop : (nthO ops18 4).op = .call ⟨.builtin .append, #[.tmp 53, .tmp 55], #[32, 32]⟩ := by kernel_rfl
  have hl : ∀ v, flooked (q18 n j es) (.call ⟨.builtin .append, #[.tmp 53, .tmp 55], #[32, 32]⟩) [.own es, v] = none := by intro v; rfl
  refine fone_keep (vals := [.own es, .dat (.slice [instrD 14])]) (ob := none) (f1 := d18 n j es) (by kernel_rfl) (by rw [hop]; rfl) (by kernel_rfl) (by rw [hop]; exact hl _) (by kernel_rfl) ?_
  rw [hop]
  refine Eq.trans (b := aAppend (env Prims.fast) (takeR (H3.at 18) ops18 (nthO ops18 4)) 32 [.own es, .dat (.slice [instrD 14])] none) (by kernel_rfl) ?_
  exact app_own (take := takeR (H3.at 18) ops18 (nthO ops18 4)) (ds := [instrD 14]) he hti ha (by unfold byteOk; rw [hb])
theorem t_op19 (n j : Int) {es r : List Dat} {e : Dat} {es' : List Dat} (he : es = e :: es') (ha : Prims.fast.app ti32.size ti32.bytes es [instrD 19] = some r) (hb : isBytes r = false) :
    fone XT (env Prims.fast) xglobs (H3.at 19) 88 ops19 (nthO ops19 4) (q19 n j es) = some (fput (d19 n j es) (nthO ops19 4).dst (.own r)) := by
  have hti : Go.Tp.elemOf (env Prims.fast) 32 = some ti32 := by kernel_rfl
  have hop : (nthO ops19 4).op = .call ⟨.builtin .append, #[.tmp 59, .tmp 61], #[32, 32]⟩ := by kernel_rfl
  have hl : ∀ v, flooked (q19 n j es) (.call ⟨.builtin .append, #[.tmp 59, .tmp 61], #[32, 32]⟩) [.own es, v] = none := by intro v; rfl
  refine fone_keep (vals := [.own es, .dat (.slice [instrD 19])]) (ob := none) (f1 := d19 n j es) (by kernel_rfl) (by rw [hop]; rfl) (by kernel_rfl) (by rw [hop]; exact hl _) (by kernel_rfl) ?_
  rw [hop]
  refine Eq.trans (b := aAppend (env Prims.fast) (takeR (H3.at 19) ops19 (nthO ops19 4)) 32 [.own es, .dat (.slice [instrD 19])] none) (by kernel_rfl) ?_
  exact app_own (take := takeR (H3.at 19) ops19 (nthO ops19 4)) (ds := [instrD 19]) he hti ha (by unfold byteOk; rw [hb])
noncomputable def end18 (f : FState) : Option FState := match fo18 (ops18.drop 5) f with | some f => some (fprune f (fun l => pruneS l (live3 18))) | none => none
noncomputable def end19 (f : FState) : Option FState := match fo19 (ops19.drop 5) f with | some f => some (fprune f (fun l => pruneS l (live3 19))) | none => none
theorem e_end18 (n j : Int) (es r : List Dat) : end18 (fput (d18 n j es) (nthO ops18 4).dst (.own r)) = some (PB [(7, iv j)] n (.own r)) := by kernel_rfl
theorem e_end19 (n j : Int) (es r : List Dat) : end19 (fput (d19 n j es) (nthO ops19 4).dst (.own r)) = some (PB [] n (.own r)) := by kernel_rfl
theorem t_18r (n j : Int) {es r : List Dat} {e : Dat} {es' : List Dat} (he : es = e :: es') (ha : Prims.fast.app ti32.size ti32.bytes es [instrD 14] = some r) (hb : isBytes r = false) :
    rt3 a18 (PB [(49, bv true), (7, iv j)] n (.own es)) = some (.normal, PB [(7, iv j)] n (.own r)) := by
  have hx := e_end18 n j es r
  unfold end18 at hx
  split at hx
  · rename_i f hf
    have hx := Option.some.inj hx
    rw [a18_eq, ← hx]
    refine fregion_ops ?_
    show fo18 ops18 _ = _
    have e : fo18 ops18 (PB [(49, bv true), (7, iv j)] n (.own es)) = fo18 (ops18.take 4 ++ (nthO ops18 4 :: ops18.drop 5)) (PB [(49, bv true), (7, iv j)] n (.own es)) := congrArg (fun l => fo18 l (PB [(49, bv true), (7, iv j)] n (.own es))) ops18_eq
    rw [e]
    unfold fo18
    exact (fops_append (e_q18 n j es)).trans ((fops_cons (t_op18 n j he ha hb)).trans hf)
  · simp at hx
theorem t_19r (n j : Int) {es r : List Dat} {e : Dat} {es' : List Dat} (he : es = e :: es') (ha : Prims.fast.app ti32.size ti32.bytes es [instrD 19] = some r) (hb : isBytes r = false) :
    rt3 a19 (PB [(49, bv false), (7, iv j)] n (.own es)) = some (.normal, PB [] n (.own r)) := by
  have hx := e_end19 n j es r
  unfold end19 at hx
  split at hx
  · rename_i f hf
    have hx := Option.some.inj hx
    rw [a19_eq, ← hx]
    refine fregion_ops ?_
    show fo19 ops19 _ = _
    have e : fo19 ops19 (PB [(49, bv false), (7, iv j)] n (.own es)) = fo19 (ops19.take 4 ++ (nthO ops19 4 :: ops19.drop 5)) (PB [(49, bv false), (7, iv j)] n (.own es)) := congrArg (fun l => fo19 l (PB [(49, bv false), (7, iv j)] n (.own es))) ops19_eq
    rw [e]
    unfold fo19
    exact (fops_append (e_q19 n j es)).trans ((fops_cons (t_op19 n j he ha hb)).trans hf)
  · simp at hx

/-! ### The lists -/
theorem ticks_all : ∀ k, ∀ d ∈ ticks k, d.cells.length = 15
  | 0, d, h => by simp [ticks] at h
  | k + 1, d, h => by
    simp only [ticks, List.mem_cons] at h
    rcases h with rfl | h
    · rfl
    · exact ticks_all k d h
theorem ticks_snoc : ∀ k, ticks k ++ [instrD 14] = ticks (k + 1)
  | 0 => rfl
  | k + 1 => by show instrD 14 :: (ticks k ++ [instrD 14]) = instrD 14 :: ticks (k + 1); rw [ticks_snoc k]
theorem app_tick {k : Nat} (hk : k < 3000) (op : Int) : Prims.fast.app ti32.size ti32.bytes (ticks k) [instrD op] = some (ticks k ++ [instrD op]) := by
  have hs : ti32.size = 14 + 1 := by kernel_rfl
  have hb : ti32.bytes < 1000 := of_decide_eq_true (by kernel_rfl)
  have hb0 : 0 < ti32.bytes := of_decide_eq_true (by kernel_rfl)
  rw [hs]
  refine fast_app (ticks_all k) (by intro d hd; simp at hd; subst hd; rfl) hb0 ?_ ?_
  · rw [ticks_length]
    show (k + 1) * ti32.bytes ≤ _
    have : (k + 1) * ti32.bytes ≤ 3000 * 1000 := Nat.mul_le_mul (by omega) (by omega)
    omega
  · rw [ticks_length]
    show k + 1 ≤ lim
    unfold lim; omega
noncomputable def ST (n : Int) (i : Nat) : FState := PB [(7, iv (Int.ofNat (i + 1)))] n (cellT i)
theorem t_tick {n : Int} {m i : Nat} (hn : wrapF .i64 (2000 + n) = Int.ofNat (m + 1)) (hm : m < 2500) (hi : i < m) : rt3 aBody (ST n i) = some (.normal, ST n (i + 1)) := by
  have e1 := t_16a n (Int.ofNat (i + 1)) (cellT i)
  rw [hn, ltF_nat, decide_eq_true (by omega)] at e1
  have e2 : rt3 a16 (ST n i) = some (.normal, PB [(49, bv true), (7, iv (Int.ofNat (i + 1)))] n (cellT i)) := by
    rw [a16_eq]
    exact (fseq_norm e1).trans (t_16t n _ _)
  have e3 : rt3 a18 (PB [(49, bv true), (7, iv (Int.ofNat (i + 1)))] n (cellT i)) = some (.normal, PB [(7, iv (Int.ofNat (i + 1)))] n (cellT (i + 1))) := by
    cases i with
    | zero => exact t_18 n _
    | succ i =>
      have := t_18r n (Int.ofNat (i + 1 + 1)) (es := ticks (i + 1)) (r := ticks (i + 1 + 1)) rfl (by rw [app_tick (by omega), ticks_snoc]) rfl
      exact this
  have e4 := t_17 n (Int.ofNat (i + 1)) (cellT (i + 1))
  rw [wrap_nat (by omega)] at e4
  rw [aBody_eq]
  exact (fseq_norm e2).trans ((fseq_norm (fblock_norm e3)).trans e4)
theorem t_loop {n : Int} {m : Nat} (hn : wrapF .i64 (2000 + n) = Int.ofNat (m + 1)) (hm : m < 2500) : rt3 (.block 3 (.loop aBody)) (ST n 0) = some (.normal, PB [(49, bv false), (7, iv (Int.ofNat (m + 1)))] n (cellT m)) := by
  have hl := floop_rounds (body := rt3 aBody) (S := ST n) (m := m) (fuel := 3000) (fun i hi => t_tick hn hm hi) (by omega) 0 (by omega)
  rw [Nat.sub_zero] at hl
  have e1 := t_16a n (Int.ofNat (m + 1)) (cellT m)
  rw [hn, ltF_nat, decide_eq_false (by omega)] at e1
  have e2 : rt3 aBody (ST n m) = some (.exit 3, PB [(49, bv false), (7, iv (Int.ofNat (m + 1)))] n (cellT m)) := by
    rw [aBody_eq, a16_eq]
    refine fseq_exit ?_
    exact (fseq_norm e1).trans (t_16f n _ _)
  refine fblock_exit ?_
  rw [fcode_loop]
  change floop (rt3 aBody) 3000 _ = _
  obtain ⟨j, hj⟩ : ∃ j, 3000 - m = j + 1 := ⟨3000 - m - 1, by omega⟩
  rw [hl, hj, floop_exit e2]
theorem t_cA0 (n : Int) : rt3 (.seq a14 a15) ⟨[(43, bv true), (16, iv 1), (6, iv 4), (5, .ptr (.loc 5) 0), (1, iv n)], [(.loc 5, .cells [iv 0, iv 1, .dat (.slice [instrD 19]), .dat (.flat (.slice none 0 0))])], [], 0⟩ = some (.normal, ST n 0) := by kernel_rfl
end Go.Proofs.YtgodfnboklbiiacGreatDoor
