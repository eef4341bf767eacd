/- MethodtableLimits returns true, and changes nothing. -/
import Derived.Test.YteanmfacikjjhaaGreatDoorS8
import Derived.Test.YteanmfacikjjhaaGreatDoorCards
import Derived.Test.YteanmfacikjjhaaGreatDoorTie
import Derived.Test.YteanmfacikjjhaaGreatDoorTpLast
import Derived.WalkKit
import Derived.ProofKit
import Derived.OpenShut
import Derived.Deep.DeepHandedRow
import Derived.Deep.DeepWitnessRowRef
namespace Go.Proofs.YteanmfacikjjhaaGreatDoor
open Go.ChangeShapes Go.WideShapes Go.ChangeAt Go.RowKit Go.Tp

/-! ### The call -/
theorem full_call (n : Int) : ∃ r, r.val = bv true ∧ ACalls Tryz.prog xglobs 3 [iv n] [] 0 (XQ r) := ⟨_, rfl, law_ok n⟩

theorem own : ownKnob Tryz.prog.godebug = none := by kernel_rfl
theorem gP : Tryz.prog.globalNamed "telpher/hierarchy.reserved" = some 0 := by kernel_rfl
theorem gT : Tryz.prog.globalNamed "telpher/typeterm.reserved" = some 1 := by kernel_rfl
theorem globs_ok {W : World} (h : laidMetH Tryz.prog Rows.methodtableLimitsRow.laid W) : ∀ g cs, xglobs g = some cs → RepAt W noOwn g 0 cs := by
  have h' : laidMet Tryz.prog Rows.methodtableLimitsRow.laid W := h
  obtain ⟨ps, ⟨_, _, _, _, _, _, _, _, _, _, ⟨_, _, _, _, _, _, _, _, _, _, ⟨_, _, _, _, _, _, _, _, _, _, ⟨_, _, _, _, _, _, _, _, _, _, ⟨_, _, _, _, _, _, _, _, _, _, ⟨g1, t1, cs1, fuel1, p1, q1, a1, a2, a3, a4, ⟨g0, t0, cs0, fuel0, p0, q0, b1, b2, b3, b4, _, _⟩, _⟩, _⟩, _⟩, _⟩, _⟩, _⟩, _⟩ := h'
  intro g cs hg
  unfold xglobs at hg
  split at hg
  · obtain rfl := Option.some.inj hg
    exact glob_strs (l := resv) gP (by kernel_rfl) Tryz.underlying78 Tryz.underlying9 (by kernel_rfl) (by decide) ⟨g0, t0, cs0, fuel0, p0, b1, b2, b3, b4⟩
  · obtain rfl := Option.some.inj hg
    exact glob_strs (l := resv) gT (by kernel_rfl) Tryz.underlying78 Tryz.underlying9 (by kernel_rfl) (by decide) ⟨g1, t1, cs1, fuel1, p1, a1, a2, a3, a4⟩
  · simp at hg

set_option maxRecDepth 100000 in
theorem contract (H : Type) (enc : TypeId × Value → H) (W : World) (base : Nat) (args : Array Value) (ds gs : List (DataW H)) (before : List MemPlace)
    (hval : ∀ (j : Nat) t v, Tryz.f3.params[j]? = some t → args[j]? = some v → Value.okWide Tryz.prog W .any base t v)
    (hW : DataW.Whole enc Tryz.prog Tryz.f3.params.toList Rows.methodtableLimitsSpec.vars false W args.toList ds gs before) (hL : laidMetH Tryz.prog Rows.methodtableLimitsRow.laid W) :
    Calls Tryz.prog 3 args W fun e W' => ∃ v, e = .returned v ∧ Rows.methodtableLimitsSpec.post enc Tryz.prog Tryz.f3 false true false false W args v W' := by
  have hW' := hW
  obtain ⟨p, q, hA0, hV, rfl, hfz, hnd⟩ := hW
  have hA : DataW.TrodAll enc Tryz.prog W 0 (fun _ => true) true Tryz.f3.params.toList args.toList ds p := hA0
  rw [Tryz.params3] at hA hval
  obtain ⟨v0, d0, rfl, rfl, h0⟩ := trodAll_one hA
  obtain ⟨n, rfl, rfl, rfl, hwn⟩ := open_int Tryz.underlying3 (hval 0 3 v0 rfl rfl) h0
  obtain ⟨rfl, rfl⟩ := trodVars_none hV
  obtain ⟨r, hr, hcall⟩ := full_call n
  have hfl : isFlat (.int .i64 n) = true := hwn
  refine (calls_of_acalls (args := [.int .i64 n]) (by intro v hv; simp at hv; subst hv; exact hfl) hcall hr W (globs_ok hL)).mono ?_
  rintro e W' ⟨rfl, hk⟩
  refine ⟨_, rfl, ?_⟩
  simp only [List.append_nil] at hW'
  refine ⟨_, _, _, [], [], [], hW', ?_, ?_, rfl, World.keptBut_mono (fun p hp => hp.elim) hk, fun h => by cases h⟩
  · exact trodAll_cons_mk (shut_bool Tryz.underlying4 _) trodAll_mk0
  · exact trodAll_cons_mk (shut_int Tryz.underlying3 hwn) trodAll_mk0

/-- A world for the witness. -/
def tab32 : List Int := [0, 1, 28, 2, 29, 14, 24, 3, 30, 22, 20, 15, 25, 17, 4, 8, 31, 27, 13, 23, 21, 19, 16, 7, 26, 12, 18, 6, 11, 5, 10, 9]
def tab64 : List Int := [0, 1, 56, 2, 57, 49, 28, 3, 61, 58, 42, 50, 38, 29, 17, 4, 62, 47, 59, 36, 45, 43, 51, 22, 53, 39, 33, 30, 24, 18, 12, 5, 63, 55, 48, 27, 60, 41, 37, 16, 46, 35, 44, 21, 52, 32, 23, 11, 54, 26, 40, 15, 34, 20, 31, 10, 25, 14, 19, 9, 13, 8, 7, 6]
def pow10s : Nat → Int → List Int
  | 0, _ => []
  | n + 1, k => k :: pow10s n (k * 10)
noncomputable def laidWorld (os : Os) : World :=
  let N := (World.settled Tryz.prog os).heap.size
  let strs (l : List (List UInt8)) : Array Value := (l.map fun b => Value.string ⟨⟨b⟩⟩).toArray
  let ints (k : IntKind) (l : List Int) : Array Value := (l.map fun i => Value.int k i).toArray
  let w0 := World.holding Tryz.prog os ⟨#[.cells (strs resv) 9, .cells (strs resv) 9, .cells (strs [[105, 110, 118, 97, 108, 105, 100, 32, 115, 121, 110, 116, 97, 120]]) 295, .cells (strs [[118, 97, 108, 117, 101, 32, 111, 117, 116, 32, 111, 102, 32, 114, 97, 110, 103, 101]]) 295], #[], []⟩
  let put (h : Array Obj) (g : Nat) (cs : Array Value) : Array Obj := h.modify g fun
    | .cells _ t frozen => .cells cs t frozen
    | o => o
  let h1 := put w0.heap 0 #[.slice (some ⟨N, 0, none⟩) 5 5]
  let h2 := put h1 1 #[.slice (some ⟨N + 1, 0, none⟩) 5 5]
  let h3 := put h2 2 #[.iface 293 (.pointer (some ⟨N + 2, 0, none⟩))]
  let h4 := put h3 3 #[.iface 293 (.pointer (some ⟨N + 3, 0, none⟩))]
  let h5 := put h4 4 (ints .u64 (pow10s 20 1))
  let h6 := put h5 5 (ints .u8 tab32)
  let h7 := put h6 6 (ints .u8 tab64)
  { w0 with heap := h7 }
theorem laid_met (os : Os) (args : Array Value) : laidMet Tryz.prog Rows.methodtableLimitsRow.laid ((laidWorld os).forCall (fun _ _ => 0) ⟨#[], args, []⟩).memory :=
  laidMet_of_run' 8 (by kernel_rfl) (by kernel_rfl)
theorem reads (os : Os) {H : Type} (enc : TypeId × Value → H) : ∃ places, DataW.whole enc Tryz.prog ((laidWorld os).forCall (fun _ _ => 0) ⟨#[], #[.int .i64 0], []⟩).memory Tryz.f3.params.toList Rows.methodtableLimitsSpec.vars false #[Value.int .i64 0].toList 8 = some ([.lit (.int .i64 0)], [], places) :=
  ⟨[], by kernel_rfl⟩

set_option maxRecDepth 100000 in
theorem lifted (os : Os) (started : os.Started) (H : Type) (enc : TypeId × Value → H) (F : Stop.Interp) :
    ReturnsInHanded {} Tryz.checked os 3 .any ((OpenSpec.ofChange Rows.methodtableLimitsSpec).preRow enc Tryz.prog Tryz.f3 Rows.methodtableLimitsRow.domain false Rows.methodtableLimitsRow.laid) (((OpenSpec.ofChange Rows.methodtableLimitsSpec).at F).post enc Tryz.prog Tryz.f3 false true false false) := by
  obtain ⟨places, hx⟩ := reads os enc
  refine returnsInHanded_of_row (C := Tryz.checked) (s := OpenSpec.ofChange Rows.methodtableLimitsSpec) own started (by kernel_rfl) Tryz.func3
    (witness_row_atRef (enc := enc) (C := Tryz.checked) false (laidWorld os) #[.int .i64 0] rfl (by kernel_rfl) (by kernel_rfl) (by kernel_rfl)
      (OpenSpec.preRow_of_cond 8 hx (by kernel_rfl) (fun k hk => by cases hk) (by kernel_rfl) (laid_met os _))) ?_
  intro W base args ds gs before hval hW _ _ _ hL _ _
  exact contract H enc W base args ds gs before hval hW hL

end Go.Proofs.YteanmfacikjjhaaGreatDoor
