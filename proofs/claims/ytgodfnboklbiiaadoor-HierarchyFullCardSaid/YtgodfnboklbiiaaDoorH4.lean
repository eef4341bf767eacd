/- HierarchyFull returns true for every number, and changes nothing. -/
import Derived.Test.YtgodfnboklbiiaaDoorH3
import Derived.Test.YtgodfnboklbiiaaDoorCards
import Derived.Test.YtgodfnboklbiiaaDoorTie
import Derived.WalkKit
import Derived.ProofKit
import Derived.OpenShut
import Derived.Deep.DeepHandedRow
import Derived.Deep.DeepWitnessRowRef
namespace Go.Proofs.YtgodfnboklbiiaaDoor
open Go.ChangeShapes Go.WideShapes Go.ChangeAt Go.RowKit Go.Tp

theorem own : ownKnob Tryd.prog.godebug = none := by kernel_rfl
theorem gH : Tryd.prog.globalNamed "telpher/hierarchy.reserved" = some 0 := by kernel_rfl
theorem gT : Tryd.prog.globalNamed "telpher/typeterm.reserved" = some 1 := by kernel_rfl
def words : List (List UInt8) := [[65, 110, 121], [78, 101, 118, 101, 114], [116, 117, 112, 108, 101], [117, 110, 105, 111, 110], [101, 120, 105, 115, 116, 115]]
theorem globs_ok {W : World} (h : laidMetH Tryd.prog Rows.hierarchyFullRow.laid W) : ∀ g cs, xglobs g = some cs → RepAt W noOwn g 0 cs := by
  have h' : laidMet Tryd.prog Rows.hierarchyFullRow.laid W := h
  obtain ⟨ps, ⟨g1, t1, cs1, fuel1, p1, q1, a1, a2, a3, a4, ⟨g0, t0, cs0, fuel0, p0, q0, b1, b2, b3, b4, _, _⟩, _⟩, _⟩ := h'
  intro g cs hg
  unfold xglobs at hg
  split at hg
  · obtain rfl := Option.some.inj hg
    exact glob_strs (l := words) gH (by kernel_rfl) Tryd.underlying41 Tryd.underlying9 (by kernel_rfl) (by decide) ⟨g0, t0, cs0, fuel0, p0, b1, b2, b3, b4⟩
  · obtain rfl := Option.some.inj hg
    exact glob_strs (l := words) gT (by kernel_rfl) Tryd.underlying41 Tryd.underlying9 (by kernel_rfl) (by decide) ⟨g1, t1, cs1, fuel1, p1, a1, a2, a3, a4⟩
  · simp at hg

set_option maxRecDepth 100000 in
theorem contract (H : Type) (enc : TypeId × Value → H) (W : World) (base : Nat) (args : Array Value) (ds gs : List (DataW H)) (before : List MemPlace)
    (hval : ∀ (j : Nat) t v, Tryd.f3.params[j]? = some t → args[j]? = some v → Value.okWide Tryd.prog W .any base t v)
    (hW : DataW.Whole enc Tryd.prog Tryd.f3.params.toList Rows.hierarchyFullSpec.vars false W args.toList ds gs before) (hL : laidMetH Tryd.prog Rows.hierarchyFullRow.laid W) :
    Calls Tryd.prog 3 args W fun e W' => ∃ v, e = .returned v ∧ Rows.hierarchyFullSpec.post enc Tryd.prog Tryd.f3 false true false false W args v W' := by
  have hW' := hW
  obtain ⟨p, q, hA0, hV, rfl, hfz, hnd⟩ := hW
  have hA : DataW.TrodAll enc Tryd.prog W 0 (fun _ => true) true Tryd.f3.params.toList args.toList ds p := hA0
  rw [Tryd.params3] at hA hval
  obtain ⟨v0, d0, rfl, rfl, h0⟩ := trodAll_one hA
  obtain ⟨n, rfl, rfl, rfl, hwn⟩ := open_int Tryd.underlying3 (hval 0 3 v0 rfl rfl) h0
  obtain ⟨rfl, rfl⟩ := trodVars_none hV
  obtain ⟨r, hr, hcall⟩ := full_call n
  have hfl : isFlat (.int .i64 n) = true := hwn
  refine (calls_of_acalls (args := [.int .i64 n]) (by intro v hv; simp at hv; subst hv; exact hfl) hcall hr W (globs_ok hL)).mono ?_
  rintro e W' ⟨rfl, hk⟩
  refine ⟨_, rfl, ?_⟩
  simp only [List.append_nil] at hW'
  refine ⟨_, _, _, [], [], [], hW', ?_, ?_, rfl, World.keptBut_mono (fun p hp => hp.elim) hk, fun h => by cases h⟩
  · exact trodAll_cons_mk (shut_bool Tryd.underlying4 _) trodAll_mk0
  · exact trodAll_cons_mk (shut_int Tryd.underlying3 hwn) trodAll_mk0

/-- A world for the witness. -/
noncomputable def laidWorld (os : Os) : World :=
  let N := (World.settled Tryd.prog os).heap.size
  let strs : Array Value := (words.map fun b => Value.string ⟨⟨b⟩⟩).toArray
  let w0 := World.holding Tryd.prog os ⟨#[.cells strs 9, .cells strs 9], #[], []⟩
  let put (h : Array Obj) (g : Nat) (cs : Array Value) : Array Obj := h.modify g fun
    | .cells _ t frozen => .cells cs t frozen
    | o => o
  let h1 := put w0.heap 0 #[.slice (some ⟨N, 0, none⟩) 5 5]
  let h2 := put h1 1 #[.slice (some ⟨N + 1, 0, none⟩) 5 5]
  { w0 with heap := h2 }
theorem laid_met (os : Os) (args : Array Value) : laidMet Tryd.prog Rows.hierarchyFullRow.laid ((laidWorld os).forCall (fun _ _ => 0) ⟨#[], args, []⟩).memory :=
  laidMet_of_run' 8 (by kernel_rfl) (by kernel_rfl)
theorem reads (os : Os) {H : Type} (enc : TypeId × Value → H) : ∃ places, DataW.whole enc Tryd.prog ((laidWorld os).forCall (fun _ _ => 0) ⟨#[], #[.int .i64 0], []⟩).memory Tryd.f3.params.toList Rows.hierarchyFullSpec.vars false #[Value.int .i64 0].toList 8 = some ([.lit (.int .i64 0)], [], places) :=
  ⟨[], by kernel_rfl⟩

set_option maxRecDepth 100000 in
theorem lifted (os : Os) (started : os.Started) (H : Type) (enc : TypeId × Value → H) (F : Stop.Interp) :
    ReturnsInHanded {} Tryd.checked os 3 .any ((OpenSpec.ofChange Rows.hierarchyFullSpec).preRow enc Tryd.prog Tryd.f3 Rows.hierarchyFullRow.domain false Rows.hierarchyFullRow.laid) (((OpenSpec.ofChange Rows.hierarchyFullSpec).at F).post enc Tryd.prog Tryd.f3 false true false false) := by
  obtain ⟨places, hx⟩ := reads os enc
  refine returnsInHanded_of_row (C := Tryd.checked) (s := OpenSpec.ofChange Rows.hierarchyFullSpec) own started (by kernel_rfl) Tryd.func3
    (witness_row_atRef (enc := enc) (C := Tryd.checked) false (laidWorld os) #[.int .i64 0] rfl (by kernel_rfl) (by kernel_rfl) (by kernel_rfl)
      (OpenSpec.preRow_of_cond 8 hx (by kernel_rfl) (fun k hk => by cases hk) (by kernel_rfl) (laid_met os _))) ?_
  intro W base args ds gs before hval hW _ _ _ hL _ _
  exact contract H enc W base args ds gs before hval hW hL

set_option maxRecDepth 100000 in
theorem said : Rows.HierarchyFullSaid :=
  OpenClaim.holds_of_cond 3 Tryd.f3 rfl rfl rfl rfl rfl rfl rfl ⟨rfl, rfl, rfl, rfl, rfl⟩ rfl rfl rfl rfl rfl (by kernel_rfl) Tryd.func3 (by kernel_rfl)
    (of_decide_eq_true (by kernel_rfl)) (by unfold Func.isWrapper; first | (rw [if_pos (by decide +kernel)]; kernel_rfl) | (rw [if_neg (by decide +kernel)]; exact ⟨rfl, rfl⟩))
    (fun os started H enc _ F => by rw [OpenClaim.pre_eq_preRow]; exact lifted os started H enc F)

theorem plain (f : FuncId) (fn : Func) (hf : Tryd.pinned.checked.prog.funcNamed "telpher/tellaw3.HierarchyFull" = some f) (hfn : Tryd.pinned.checked.prog.funcs[f]? = some fn) :
    false = Tryd.pinned.checked.prog.looks [] ∧ ∀ (j : Nat) t, fn.params[j]? = some t → Tryd.pinned.checked.prog.wantsStandIn t = false := by
  obtain rfl : f = 3 := Option.some.inj ((show Tryd.prog.funcNamed "telpher/tellaw3.HierarchyFull" = some 3 by kernel_rfl).symm.trans hf) |>.symm
  obtain rfl : fn = Tryd.f3 := (Option.some.inj (Tryd.func3.symm.trans hfn)).symm
  refine ⟨by kernel_rfl, fun j t ht => ?_⟩
  rw [Tryd.params3] at ht
  obtain rfl : t = 3 := by simpa using Array.mem_of_getElem? ht
  exact (show Tryd.prog.wantsStandIn 3 = false by kernel_rfl)

/-- The card. -/
theorem hierarchyFull_card : Rows.HierarchyFullCardSaid :=
  Claim7.holds_tied_plain_at .later [] _ _ _ _ said (fun _ h => by cases h) (by kernel_rfl) (fun _ h => by cases h) hierarchyFull_row_tie rfl ⟨rfl, rfl⟩ (by kernel_rfl) rfl plain (by kernel_rfl)
end Go.Proofs.YtgodfnboklbiiaaDoor
#print axioms Go.Proofs.YtgodfnboklbiiaaDoor.hierarchyFull_card
