/- IrLimits returns true for every two numbers, and changes nothing. -/
import Derived.Test.YtgodfnboklbiiacGreatDoorJ
import Derived.Test.YtgodfnboklbiiacGreatDoorC0
import Derived.Test.YtgodfnboklbiiacGreatDoorCards
import Derived.Test.YtgodfnboklbiiacGreatDoorTie
import Derived.WalkKit
import Derived.ProofKit
import Derived.OpenShut
import Derived.Deep.DeepHandedRow
import Derived.Deep.DeepWitnessRowRef
namespace Go.Proofs.YtgodfnboklbiiacGreatDoor
open Go.ChangeShapes Go.WideShapes Go.ChangeAt Go.RowKit Go.Tp

/-! ### The call -/
theorem okR_val {r : XRes} (h : okR (some r) = some true) : r.val = bv true := by
  have h' : (match r.val with | .dat (.flat (.bool b)) => b | _ => false) = true := Option.some.inj h
  split at h'
  · rename_i b hb; rw [hb, h']
  · simp at h'
theorem gc_val {k : Nat} {r : XRes} (h : r.val = bv true) : (gcR k r).val = bv true := by
  obtain ⟨v, h1, k1⟩ := r
  dsimp only at h
  subst h
  unfold gcR
  dsimp only
  split <;> rfl

theorem call_of {X : XCalls} (hX : XOk Tryz.prog xglobs X) {which n : Int} {S f : FState} {r : XRes} (h1 : fcode X (env Prims.fast) xglobs ⟨xmoves, ord3, xcaps, rowsOf xcaps 3⟩ 88 live3 3000 cPre ⟨[(0, iv which), (1, iv n)], [], [], 0⟩ = some (.normal, S))
    (h2 : fcode X (env Prims.fast) xglobs ⟨xmoves, ord3, xcaps, rowsOf xcaps 3⟩ 88 live3 3000 (.seq cSw cPost) S = some (.ret, f)) (h3 : fret (env Prims.fast) 88 Tryz.f3.results.toList f = some r) (h4 : r.val = bv true) :
    ∃ r, r.val = bv true ∧ ACalls Tryz.prog xglobs 3 [iv which, iv n] [] 0 (XQ r) := by
  refine ⟨gcR 0 r, gc_val h4, acalls_of_run (fn := Tryz.f3) (c := code3) (moves := xmoves) (caps := xcaps) (ord := ord3) (live := live3) (fuel := 3000) envF hX Tryz.func3 (by kernel_rfl) (by kernel_rfl) (of_decide_eq_true (by kernel_rfl)) ?_ h3⟩
  have hs : (⟨slOf 0 [iv which, iv n], [], [], 0⟩ : FState) = ⟨[(0, iv which), (1, iv n)], [], [], 0⟩ := rfl
  have e : ∀ (a b c d e x y : Code) (f : FState), fcode X (env Prims.fast) xglobs ⟨xmoves, ord3, xcaps, rowsOf xcaps 3⟩ Tryz.f3.ntmps live3 3000 (.seq a (.seq b (.seq c (.seq d (.seq (.seq e x) y))))) f =
      fcode X (env Prims.fast) xglobs ⟨xmoves, ord3, xcaps, rowsOf xcaps 3⟩ Tryz.f3.ntmps live3 3000 (.seq (.seq a (.seq b (.seq c (.seq d e)))) (.seq x y)) f := by
    intro a b c d e x y f
    rw [fseq_assoc]
    refine fseq_congr (fun f => ?_) f
    rw [fseq_assoc]
    refine fseq_congr (fun f => ?_) f
    rw [fseq_assoc]
    refine fseq_congr (fun f => ?_) f
    rw [fseq_assoc]
    refine fseq_congr (fun f => ?_) f
    exact fseq_assoc _ _ _ f
  rw [hs, code3_eq, e]
  exact (fseq_norm h1).trans h2

theorem call_small {which n a w : Int} (ha : wrapF .i64 (modZ n 3 - 1) = a) (hw : modZ which 4 = w) (hc : okR (ending (.seq cSw cPost) (SP a w)) = some true) : ∃ r, r.val = bv true ∧ ACalls Tryz.prog xglobs 3 [iv which, iv n] [] 0 (XQ r) := by
  have h1 := pre_run which n
  rw [ha, hw] at h1
  cases he : ending (.seq cSw cPost) (SP a w) with
  | none => rw [he] at hc; simp [okR] at hc
  | some r =>
    rw [he] at hc
    unfold ending at he
    split at he
    · rename_i f hf
      exact call_of XM_ok h1 hf he (okR_val hc)
    · simp at he

theorem call_long {which n a : Int} {m : Nat} (ha : wrapF .i64 (modZ n 3 - 1) = a) (hw : modZ which 4 = 1) (hn : wrapF .i64 (2000 + a) = Int.ofNat (m + 1 + 1)) (hm : m + 1 < 2500) (hc : okR (endT (PB [] a (.own (esN (m + 1))))) = some true) : ∃ r, r.val = bv true ∧ ACalls Tryz.prog xglobs 3 [iv which, iv n] [] 0 (XQ r) := by
  have h1 := t_pre which n
  rw [ha, hw] at h1
  cases he : endT (PB [] a (.own (esN (m + 1)))) with
  | none => rw [he] at hc; simp [okR] at hc
  | some r =>
    rw [he] at hc
    unfold endT at he
    split at he
    · rename_i f hf
      exact call_of XT_ok h1 ((fseq_norm (t_sw1 hn hm)).trans hf) he (okR_val hc)
    · simp at he

theorem full_call (which n : Int) : ∃ r, r.val = bv true ∧ ACalls Tryz.prog xglobs 3 [iv which, iv n] [] 0 (XQ r) := by
  have hw : modZ which 4 = 0 ∨ modZ which 4 = 1 ∨ modZ which 4 = 2 ∨ modZ which 4 = 3 := by rw [modZ_eq4]; omega
  have hn : wrapF .i64 (modZ n 3 - 1) = -1 ∨ wrapF .i64 (modZ n 3 - 1) = 0 ∨ wrapF .i64 (modZ n 3 - 1) = 1 := by
    rw [wrapF_eq, modZ_eq3, wrap_i64 (by omega) (by omega)]; omega
  rcases hw with hw | hw | hw | hw <;> rcases hn with hn | hn | hn
  · exact call_small hn hw case0_0
  · exact call_small hn hw case0_1
  · exact call_small hn hw case0_2
  · exact call_long (m := 1997) hn hw (by kernel_rfl) (by decide) t_end8
  · exact call_long (m := 1998) hn hw (by kernel_rfl) (by decide) t_end9
  · exact call_long (m := 1999) hn hw (by kernel_rfl) (by decide) t_end0
  · exact call_small hn hw case2_0
  · exact call_small hn hw case2_1
  · exact call_small hn hw case2_2
  · exact call_small hn hw case3_0
  · exact call_small hn hw case3_1
  · exact call_small hn hw case3_2

theorem own : ownKnob Tryz.prog.godebug = none := by kernel_rfl
theorem gP : Tryz.prog.globalNamed "telpher/ir.primitives" = some 0 := by kernel_rfl
theorem gT : Tryz.prog.globalNamed "telpher/typeterm.reserved" = some 3 := by kernel_rfl
theorem globs_ok {W : World} (h : laidMetH Tryz.prog Rows.irLimitsRow.laid W) : ∀ g cs, xglobs g = some cs → RepAt W noOwn g 0 cs := by
  have h' : laidMet Tryz.prog Rows.irLimitsRow.laid W := h
  obtain ⟨ps, ⟨_, _, _, _, _, _, _, _, _, _, ⟨_, _, _, _, _, _, _, _, _, _, ⟨_, _, _, _, _, _, _, _, _, _, ⟨g1, t1, cs1, fuel1, p1, q1, a1, a2, a3, a4, ⟨g0, t0, cs0, fuel0, p0, q0, b1, b2, b3, b4, _, _⟩, _⟩, _⟩, _⟩, _⟩, _⟩ := h'
  intro g cs hg
  unfold xglobs at hg
  split at hg
  · obtain rfl := Option.some.inj hg
    exact glob_strs (l := prims) gP (by kernel_rfl) Tryz.underlying70 Tryz.underlying9 (by kernel_rfl) (by decide) ⟨g0, t0, cs0, fuel0, p0, b1, b2, b3, b4⟩
  · obtain rfl := Option.some.inj hg
    exact glob_strs (l := resv) gT (by kernel_rfl) Tryz.underlying70 Tryz.underlying9 (by kernel_rfl) (by decide) ⟨g1, t1, cs1, fuel1, p1, a1, a2, a3, a4⟩
  · simp at hg

set_option maxRecDepth 100000 in
theorem contract (H : Type) (enc : TypeId × Value → H) (W : World) (base : Nat) (args : Array Value) (ds gs : List (DataW H)) (before : List MemPlace)
    (hval : ∀ (j : Nat) t v, Tryz.f3.params[j]? = some t → args[j]? = some v → Value.okWide Tryz.prog W .any base t v)
    (hW : DataW.Whole enc Tryz.prog Tryz.f3.params.toList Rows.irLimitsSpec.vars false W args.toList ds gs before) (hL : laidMetH Tryz.prog Rows.irLimitsRow.laid W) :
    Calls Tryz.prog 3 args W fun e W' => ∃ v, e = .returned v ∧ Rows.irLimitsSpec.post enc Tryz.prog Tryz.f3 false true false false W args v W' := by
  have hW' := hW
  obtain ⟨p, q, hA0, hV, rfl, hfz, hnd⟩ := hW
  have hA : DataW.TrodAll enc Tryz.prog W 0 (fun _ => true) true Tryz.f3.params.toList args.toList ds p := hA0
  rw [Tryz.params3] at hA hval
  obtain ⟨v0, v1, d0, d1, p0, p1, rfl, rfl, rfl, h0, h1⟩ := trodAll_two hA
  obtain ⟨n0, rfl, rfl, rfl, hw0⟩ := open_int Tryz.underlying3 (hval 0 3 v0 rfl rfl) h0
  obtain ⟨n1, rfl, rfl, rfl, hw1⟩ := open_int Tryz.underlying3 (hval 1 3 v1 rfl rfl) h1
  obtain ⟨rfl, rfl⟩ := trodVars_none hV
  obtain ⟨r, hr, hcall⟩ := full_call n0 n1
  have hf0 : isFlat (.int .i64 n0) = true := hw0
  have hf1 : isFlat (.int .i64 n1) = true := hw1
  refine (calls_of_acalls (args := [.int .i64 n0, .int .i64 n1]) (by intro v hv; simp at hv; rcases hv with rfl | rfl <;> assumption) hcall hr W (globs_ok hL)).mono ?_
  rintro e W' ⟨rfl, hk⟩
  refine ⟨_, rfl, ?_⟩
  simp only [List.append_nil] at hW'
  refine ⟨_, _, _, [], [], [], hW', ?_, ?_, rfl, World.keptBut_mono (fun p hp => hp.elim) hk, fun h => by cases h⟩
  · exact trodAll_cons_mk (shut_bool Tryz.underlying4 _) trodAll_mk0
  · exact trodAll_cons_mk (shut_int Tryz.underlying3 hw0) (trodAll_cons_mk (shut_int Tryz.underlying3 hw1) trodAll_mk0)

/-- A world for the witness. -/
def tab32 : List Int := [0, 1, 28, 2, 29, 14, 24, 3, 30, 22, 20, 15, 25, 17, 4, 8, 31, 27, 13, 23, 21, 19, 16, 7, 26, 12, 18, 6, 11, 5, 10, 9]
def tab64 : List Int := [0, 1, 56, 2, 57, 49, 28, 3, 61, 58, 42, 50, 38, 29, 17, 4, 62, 47, 59, 36, 45, 43, 51, 22, 53, 39, 33, 30, 24, 18, 12, 5, 63, 55, 48, 27, 60, 41, 37, 16, 46, 35, 44, 21, 52, 32, 23, 11, 54, 26, 40, 15, 34, 20, 31, 10, 25, 14, 19, 9, 13, 8, 7, 6]
def pow10s : Nat → Int → List Int
  | 0, _ => []
  | n + 1, k => k :: pow10s n (k * 10)
noncomputable def laidWorld (os : Os) : World :=
  let N := (World.settled Tryz.prog os).heap.size
  let strs (l : List (List UInt8)) : Array Value := (l.map fun b => Value.string ⟨⟨b⟩⟩).toArray
  let ints (k : IntKind) (l : List Int) : Array Value := (l.map fun i => Value.int k i).toArray
  let w0 := World.holding Tryz.prog os ⟨#[.cells (strs prims) 9, .cells (strs resv) 9], #[], []⟩
  let put (h : Array Obj) (g : Nat) (cs : Array Value) : Array Obj := h.modify g fun
    | .cells _ t frozen => .cells cs t frozen
    | o => o
  let h1 := put w0.heap 0 #[.slice (some ⟨N, 0, none⟩) 8 8]
  let h2 := put h1 3 #[.slice (some ⟨N + 1, 0, none⟩) 5 5]
  let h3 := put h2 1 (ints .u64 (pow10s 20 1))
  let h4 := put h3 4 (ints .u8 tab32)
  let h5 := put h4 5 (ints .u8 tab64)
  { w0 with heap := h5 }
theorem laid_met (os : Os) (args : Array Value) : laidMet Tryz.prog Rows.irLimitsRow.laid ((laidWorld os).forCall (fun _ _ => 0) ⟨#[], args, []⟩).memory :=
  laidMet_of_run' 8 (by kernel_rfl) (by kernel_rfl)
theorem reads (os : Os) {H : Type} (enc : TypeId × Value → H) : ∃ places, DataW.whole enc Tryz.prog ((laidWorld os).forCall (fun _ _ => 0) ⟨#[], #[.int .i64 0, .int .i64 0], []⟩).memory Tryz.f3.params.toList Rows.irLimitsSpec.vars false #[Value.int .i64 0, Value.int .i64 0].toList 8 = some ([.lit (.int .i64 0), .lit (.int .i64 0)], [], places) :=
  ⟨[], by kernel_rfl⟩

set_option maxRecDepth 100000 in
theorem lifted (os : Os) (started : os.Started) (H : Type) (enc : TypeId × Value → H) (F : Stop.Interp) :
    ReturnsInHanded {} Tryz.checked os 3 .any ((OpenSpec.ofChange Rows.irLimitsSpec).preRow enc Tryz.prog Tryz.f3 Rows.irLimitsRow.domain false Rows.irLimitsRow.laid) (((OpenSpec.ofChange Rows.irLimitsSpec).at F).post enc Tryz.prog Tryz.f3 false true false false) := by
  obtain ⟨places, hx⟩ := reads os enc
  refine returnsInHanded_of_row (C := Tryz.checked) (s := OpenSpec.ofChange Rows.irLimitsSpec) own started (by kernel_rfl) Tryz.func3
    (witness_row_atRef (enc := enc) (C := Tryz.checked) false (laidWorld os) #[.int .i64 0, .int .i64 0] rfl (by kernel_rfl) (by kernel_rfl) (by kernel_rfl)
      (OpenSpec.preRow_of_cond 8 hx (by kernel_rfl) (fun k hk => by cases hk) (by kernel_rfl) (laid_met os _))) ?_
  intro W base args ds gs before hval hW _ _ _ hL _ _
  exact contract H enc W base args ds gs before hval hW hL

set_option maxRecDepth 100000 in
theorem said : Rows.IrLimitsSaid :=
  OpenClaim.holds_of_cond 3 Tryz.f3 rfl rfl rfl rfl rfl rfl rfl ⟨rfl, rfl, rfl, rfl, rfl⟩ rfl rfl rfl rfl rfl (by kernel_rfl) Tryz.func3 (by kernel_rfl)
    (of_decide_eq_true (by kernel_rfl)) (by unfold Func.isWrapper; first | (rw [if_pos (by decide +kernel)]; kernel_rfl) | (rw [if_neg (by decide +kernel)]; exact ⟨rfl, rfl⟩))
    (fun os started H enc _ F => by rw [OpenClaim.pre_eq_preRow]; exact lifted os started H enc F)

theorem plain (f : FuncId) (fn : Func) (hf : Tryz.pinned.checked.prog.funcNamed "telpher/tellaw13.IrLimits" = some f) (hfn : Tryz.pinned.checked.prog.funcs[f]? = some fn) :
    false = Tryz.pinned.checked.prog.looks [] ∧ ∀ (j : Nat) t, fn.params[j]? = some t → Tryz.pinned.checked.prog.wantsStandIn t = false := by
  obtain rfl : f = 3 := Option.some.inj ((show Tryz.prog.funcNamed "telpher/tellaw13.IrLimits" = some 3 by kernel_rfl).symm.trans hf) |>.symm
  obtain rfl : fn = Tryz.f3 := (Option.some.inj (Tryz.func3.symm.trans hfn)).symm
  refine ⟨by kernel_rfl, fun j t ht => ?_⟩
  rw [Tryz.params3] at ht
  obtain rfl : t = 3 := by simpa using Array.mem_of_getElem? ht
  exact (show Tryz.prog.wantsStandIn 3 = false by kernel_rfl)

/-- The card. -/
theorem irLimits_card : Rows.IrLimitsCardSaid :=
  Claim7.holds_tied_plain_at .later [] _ _ _ _ said (fun _ h => by cases h) (by kernel_rfl) (fun _ h => by cases h) irLimits_row_tie rfl ⟨rfl, rfl⟩ (by kernel_rfl) rfl plain (by kernel_rfl)
end Go.Proofs.YtgodfnboklbiiacGreatDoor
#print axioms Go.Proofs.YtgodfnboklbiiacGreatDoor.irLimits_card
