/- HierarchySupertype returns true and changes nothing, for arguments of bulk at most 1048576 (the card of the second form; conditions: those of the given row). Names are shortened by a program, for the claim's bound. Part 7. -/
import Derived.Test.YtiihadmgkoamoaaGreatDoorCards
import Derived.Test.YtiihadmgkoamoaaGreatDoorTie
import Derived.WalkKit
import Derived.ProofKit
import Derived.OpenShut
import Derived.Deep.DeepHandedRow
import Derived.Deep.DeepWitnessRowRef
import Derived.Test.YtiihadmgkoamoaaGreatDoorQ06
set_option linter.unusedVariables false
set_option linter.unusedSimpArgs false
set_option maxRecDepth 100000
set_option maxHeartbeats 4000000
namespace Go.Proofs.YtiihadmgkoamoaaGreatDoor
open Go.ChangeShapes Go.WideShapes Go.ChangeAt Go.RowKit Go.Tp
open Go.ChangeMaps (open_string shut_string)
theorem own : ownKnob Tryz.prog.godebug = none := by kernel_rfl
theorem kids : Kids Tryz.prog (· < Tryz.prog.types.size) := kids_rows (by kernel_rfl) (by kernel_rfl)
theorem full : ∀ t e, t < Tryz.prog.types.size -> Tryz.prog.underlying t = some (.slice e) -> 0 < Tryz.prog.cellsOf e := slices_full_of Tryz.prog (by kernel_rfl)
theorem gE : Tryz.prog.globalNamed "telpher/telmake.extraNames" = some 0 := by kernel_rfl
theorem gL : Tryz.prog.globalNamed "telpher/telmake.leafNames" = some 1 := by kernel_rfl
theorem gP : Tryz.prog.globalNamed "telpher/hierarchy.reserved" = some 2 := by kernel_rfl
theorem gT : Tryz.prog.globalNamed "telpher/typeterm.reserved" = some 4 := by kernel_rfl
theorem NU {W : World} (h : laidMetH Tryz.prog Rows.hierarchySupertypeUptoRow.laid W) : ∀ g cs, cN g = some cs -> dE W uC g 0 cs := by
 have h' : laidMet Tryz.prog Rows.hierarchySupertypeUptoRow.laid W := h
 obtain ⟨ps, ⟨g1, t1, cs1, fuel1, p1, q1, a1, a2, a3, a4, ⟨g2, t2, cs2, fuel2, p2, q2, b1, b2, b3, b4, ⟨g3, t3, cs3, fuel3, p3, q3, c1, c2, c3, c4, ⟨g4, t4, cs4, fuel4, p4, q4, d1, d2, d3, d4, _, _⟩, _⟩, _⟩, _⟩, _⟩ := h'
 intro g cs hg
 unfold cN at hg
 split at hg
 ·obtain rfl := Option.some.inj hg
  exact pa (l := gS) gE (by kernel_rfl) Tryz.underlying60 Tryz.underlying9 (by kernel_rfl) (by decide) ⟨g3, t3, cs3, fuel3, p3, c1, c2, c3, c4⟩
 ·obtain rfl := Option.some.inj hg
  exact pa (l := fO) gL (by kernel_rfl) Tryz.underlying60 Tryz.underlying9 (by kernel_rfl) (by decide) ⟨g4, t4, cs4, fuel4, p4, d1, d2, d3, d4⟩
 ·obtain rfl := Option.some.inj hg
  exact pa (l := mV) gP (by kernel_rfl) Tryz.underlying60 Tryz.underlying9 (by kernel_rfl) (by decide) ⟨g2, t2, cs2, fuel2, p2, b1, b2, b3, b4⟩
 ·obtain rfl := Option.some.inj hg
  exact pa (l := mV) gT (by kernel_rfl) Tryz.underlying60 Tryz.underlying9 (by kernel_rfl) (by decide) ⟨g1, t1, cs1, fuel1, p1, a1, a2, a3, a4⟩
 simp at hg
/-! ### The bound -/
theorem one_le {H : Type} (d : DataW H) : 1 <= Rows.uptoBulk d := by
 cases d with
 | lit l => cases l <;> simp [Rows.uptoBulk]
 | nil => simp [Rows.uptoBulk]
 | ptr d => simp [Rows.uptoBulk]
 | slice elems spare => simp [Rows.uptoBulk]
 | agg parts => simp [Rows.uptoBulk]
 | iface t d => simp [Rows.uptoBulk]
 | map entries => simp [Rows.uptoBulk]
 | held h => simp [Rows.uptoBulk]
theorem DN {H : Type} : ∀ l : List (DataW H), l.length <= Rows.uptoBulkAll l
 | [] => by simp [Rows.uptoBulkAll]
 | x :: r => by
  have h1 := one_le x
  have h2 := DN r
  simp only [Rows.uptoBulkAll, List.length_cons]
  omega
theorem zX {H : Type} {d : DataW H} : ∀ {l : List (DataW H)}, d ∈ l -> Rows.uptoBulk d <= Rows.uptoBulkAll l
 | [], h => by cases h
 | x :: r, h => by
  simp only [Rows.uptoBulkAll]
  rcases List.mem_cons.1 h with e | h
  ·subst e; omega
  have := zX h; omega
theorem IG {H : Type} {l els rest : List (DataW H)} (hk : Rows.uptoSmall H l = true) (hm : DataW.slice els rest ∈ l) : els.length <= 1048576 := by
 have h : Rows.uptoBulkAll l <= 1048576 := of_decide_eq_true hk
 have h1 := zX hm
 have h2 := DN els
 simp only [Rows.uptoBulk] at h1
 omega
theorem P1 {W : World} {R : Own} {N : Name -> Option Nat} {s : ByteArray} (h : s.size <= maxLen) : ak W R N (.dat (sb s.data.toList)) (.string s) [] := by
 have e : (ByteArray.mk ⟨s.data.toList⟩) = s := by cases s; rfl
 unfold sb
 rw [e]
 refine bD (v := .string s) ?_
 simp only [bV, decide_eq_true_eq]
 unfold maxLen at h
 omega
set_option maxRecDepth 100000 in
theorem OI (H : Type) (enc : TypeId × Value -> H) (W : World) (base : Nat) (args : Array Value) (ds gs : List (DataW H)) (before : List MemPlace)
  (hval : ∀ (j : Nat) t v, Tryz.f6.params[j]? = some t -> args[j]? = some v -> Value.okWide Tryz.prog W .any base t v)
  (hW : DataW.Whole enc Tryz.prog Tryz.f6.params.toList Rows.hierarchySupertypeSpec.vars false W args.toList ds gs before) (hL : laidMetH Tryz.prog Rows.hierarchySupertypeUptoRow.laid W) (hk : Rows.uptoSmall H (ds ++ gs) = true) :
  Calls Tryz.prog 6 args W fun e W' => ∃ v, e = .returned v /\ Rows.hierarchySupertypeSpec.post enc Tryz.prog Tryz.f6 false true false false W args v W' := by
 have hW' := hW
 obtain ⟨p, q, hA0, hV, rfl, hfz, hnd⟩ := hW
 have hA : DataW.TrodAll enc Tryz.prog W 0 (fun _ => true) true Tryz.f6.params.toList args.toList ds p := hA0
 have hAk := hA
 rw [Tryz.params6] at hA hval
 obtain ⟨v0, vs0, d0, ds0, p0, q0, hargs, rfl, rfl, h0, r0⟩ := trodAll_cons hA
 obtain ⟨v1, vs1, d1, ds1, p1, q1, rfl, rfl, rfl, h1, r1⟩ := trodAll_cons r0
 obtain ⟨v2, vs2, d2, ds2, p2, q2, rfl, rfl, rfl, h2, r2⟩ := trodAll_cons r1
 obtain ⟨v3, vs3, d3, ds3, p3, q3, rfl, rfl, rfl, h3, r3⟩ := trodAll_cons r2
 obtain ⟨rfl, rfl, rfl⟩ := trodAll_nil r3
 obtain rfl : args = #[v0, v1, v2, v3] := by cases args; simp_all
 obtain ⟨rfl, rfl⟩ := trodVars_none hV
 obtain ⟨a0, len0, cap0, hv0⟩ := okWide_slice Tryz.underlying22 (hval 0 22 v0 rfl rfl)
 obtain ⟨l0, hd0, hr0⟩ := EN (outs fun _ => none) Tryz.underlying22 Tryz.underlying3 (by kernel_rfl) (by rw [hv0]; rfl) h0
 obtain ⟨a1, len1, cap1, hv1⟩ := okWide_slice Tryz.underlying22 (hval 1 22 v1 rfl rfl)
 obtain ⟨l1, hd1, hr1⟩ := EN (outs fun _ => none) Tryz.underlying22 Tryz.underlying3 (by kernel_rfl) (by rw [hv1]; rfl) h1
 obtain ⟨n2, rfl, rfl, rfl, hw2⟩ := open_int Tryz.underlying3 (hval 2 3 v2 rfl rfl) h2
 obtain ⟨s3, rfl, rfl, rfl, hm3⟩ := open_string Tryz.underlying9 (hval 3 9 v3 rfl rfl) h3
 have hb0 : l0.length <= 1048576 := by
  rcases hd0 with ⟨_, e⟩ | ⟨els, rest, e, e2⟩
  ·rw [e]; simp
  rw [← e2]
  exact IG (rest := rest) hk (by rw [← e]; simp)
 have hb1 : l1.length <= 1048576 := by
  rcases hd1 with ⟨_, e⟩ | ⟨els, rest, e, e2⟩
  ·rw [e]; simp
  rw [← e2]
  exact IG (rest := rest) hk (by rw [← e]; simp)
 obtain ⟨r, hr, hcall⟩ := IU (by omega : l0.length < 10000000) (by omega : l1.length < 10000000) n2 s3.data.toList
 refine (tD W (args := [v0, v1, .int .i64 n2, .string s3]) (aH (b1 := []) (b2 := []) (hr0 (by unfold jv; omega)) (aH (b1 := []) (b2 := []) (hr1 (by unfold jv; omega)) (aH (b1 := []) (b2 := []) (bD (v := .int .i64 n2) hw2) (aH (b1 := []) (b2 := []) (P1 hm3) aT)))) hcall hr (NU hL)).mono ?_
 rintro e W' ⟨rfl, hkp, hB⟩
 refine ⟨_, rfl, ?_⟩
 simp only [List.append_nil] at hW' hAk
 have hargs := DataW.TrodAll.respare (spare' := fun b => decide (b < W.heap.size)) kids full (by rw [Tryz.params6]; decide) (wm hB hAk) (fun p hp => by simpa using hW'.lt p hp)
 refine ⟨_, _, _, [], _, [], hW', ?_, hargs, rfl, World.keptBut_mono (fun p hp => hp.elim) hkp, fun h => by cases h⟩
 exact trodAll_cons_mk (shut_bool Tryz.underlying4 _) trodAll_mk0
/-- A world for the witness. -/
noncomputable def sZ (os : Os) : World :=
 let N := (World.settled Tryz.prog os).heap.size
 let strs (l : List (List UInt8)) : Array Value := (l.map fun b => Value.string ⟨⟨b⟩⟩).toArray
 let w0 := World.holding Tryz.prog os ⟨#[.cells (strs gS) 9, .cells (strs fO) 9, .cells (strs mV) 9, .cells (strs mV) 9], #[], []⟩
 let put (h : Array Obj) (g : Nat) (cs : Array Value) : Array Obj := h.modify g fun
  | .cells _ t frozen => .cells cs t frozen
  | o => o
 let h1 := put w0.heap 0 #[.slice (some ⟨N, 0, none⟩) 4 4]
 let h2 := put h1 1 #[.slice (some ⟨N + 1, 0, none⟩) 4 4]
 let h3 := put h2 2 #[.slice (some ⟨N + 2, 0, none⟩) 5 5]
 let h4 := put h3 4 #[.slice (some ⟨N + 3, 0, none⟩) 5 5]
 {w0 with heap := h4 }
theorem ND (os : Os) (args : Array Value) : laidMet Tryz.prog Rows.hierarchySupertypeUptoRow.laid ((sZ os).forCall (fun _ _ => 0) ⟨#[], args, []⟩).memory :=
 laidMet_of_run' 8 (by kernel_rfl) (by kernel_rfl)
noncomputable def KA : Array Value := #[.slice none 0 0, .slice none 0 0, .int .i64 0, .string .empty]
theorem reads (os : Os) {H : Type} (enc : TypeId × Value -> H) : ∃ places, DataW.whole enc Tryz.prog ((sZ os).forCall (fun _ _ => 0) ⟨#[], KA, []⟩).memory Tryz.f6.params.toList Rows.hierarchySupertypeSpec.vars false KA.toList 8 = some ([.nil, .nil, .lit (.int .i64 0), .lit (.string [])], [], places) :=
 ⟨[], by kernel_rfl⟩
set_option maxRecDepth 100000 in
theorem lifted (os : Os) (started : os.Started) (H : Type) (enc : TypeId × Value -> H) (F : Stop.Interp) :
  ReturnsInHanded {} Tryz.checked os 6 .any ((Rows.OpenSpec.upto Rows.hierarchySupertypeSpec).preRow enc Tryz.prog Tryz.f6 Rows.hierarchySupertypeUptoRow.domain false Rows.hierarchySupertypeUptoRow.laid) (((Rows.OpenSpec.upto Rows.hierarchySupertypeSpec).at F).post enc Tryz.prog Tryz.f6 false true false false) := by
 obtain ⟨places, hx⟩ := reads os enc
 refine returnsInHanded_of_row (C := Tryz.checked) (s := (Rows.OpenSpec.upto Rows.hierarchySupertypeSpec)) own started (by kernel_rfl) Tryz.func6
  (witness_row_atRef (enc := enc) (C := Tryz.checked) false (sZ os) KA rfl (by kernel_rfl) (by kernel_rfl) (by kernel_rfl)
   (OpenSpec.preRow_of_cond 8 hx (by kernel_rfl) (fun k hk => by cases hk; kernel_rfl) (by kernel_rfl) (ND os _))) ?_
 intro W base args ds gs before hval hW _ hcond _ hL _ _
 exact OI H enc W base args ds gs before hval hW hL (hcond _ rfl)
end Go.Proofs.YtiihadmgkoamoaaGreatDoor

namespace Go.Proofs.YtiihadmgkoamoaaGreatDoor
open Go.ChangeShapes Go.WideShapes Go.ChangeAt Go.RowKit Go.Tp
set_option maxHeartbeats 4000000 in
set_option maxRecDepth 100000 in
theorem said : Rows.HierarchySupertypeUptoSaid :=
 OpenClaim.holds_of_cond 6 Tryz.f6 rfl rfl rfl rfl rfl rfl rfl ⟨rfl, rfl, rfl, rfl, rfl⟩ rfl rfl rfl rfl rfl (by as_aux_lemma => kernel_rfl) Tryz.func6 (by as_aux_lemma => kernel_rfl)
  (of_decide_eq_true (by as_aux_lemma => kernel_rfl)) (by unfold Func.isWrapper; first | (rw [if_pos (by decide +kernel)]; kernel_rfl) | (rw [if_neg (by decide +kernel)]; exact ⟨rfl, rfl⟩))
  (fun os started H enc _ F => by rw [OpenClaim.pre_eq_preRow]; exact lifted os started H enc F)
set_option maxRecDepth 100000 in
theorem plain (f : FuncId) (fn : Func) (hf : Tryz.pinned.checked.prog.funcNamed "telpher/tellaw3.HierarchySupertype" = some f) (hfn : Tryz.pinned.checked.prog.funcs[f]? = some fn) :
  true = Tryz.pinned.checked.prog.looks [] /\ ∀ (j : Nat) t, fn.params[j]? = some t -> Tryz.pinned.checked.prog.wantsStandIn t = false := by
 obtain rfl : f = 6 := Option.some.inj ((show Tryz.prog.funcNamed "telpher/tellaw3.HierarchySupertype" = some 6 by kernel_rfl).symm.trans hf) |>.symm
 obtain rfl : fn = Tryz.f6 := (Option.some.inj (Tryz.func6.symm.trans hfn)).symm
 refine ⟨by kernel_rfl, fun j t ht => ?_⟩
 rw [Tryz.params6] at ht
 have w3 : Tryz.prog.wantsStandIn 3 = false := by kernel_rfl
 have w9 : Tryz.prog.wantsStandIn 9 = false := by kernel_rfl
 have w22 : Tryz.prog.wantsStandIn 22 = false := by kernel_rfl
 have hm := Array.mem_of_getElem? ht
 have key : ∀ x ∈ ([22, 22, 3, 9] : List Nat), x = 22 ∨ x = 3 ∨ x = 9 := by decide
 have h3 := key t (by simpa using hm)
 rcases h3 with rfl | rfl | rfl
 ·exact w22
 ·exact w3
 exact w9
/-- The card. -/
theorem hierarchySupertype_card : Rows.HierarchySupertypeUptoCardSaid :=
 Claim7.holds_tied_plain_at .later [] _ _ _ _ said (fun _ h => by cases h) (by kernel_rfl) (fun _ h => by cases h) hierarchySupertypeUpto_row_tie rfl ⟨rfl, rfl⟩ (by kernel_rfl) rfl plain (by kernel_rfl)
end Go.Proofs.YtiihadmgkoamoaaGreatDoor
#print axioms Go.Proofs.YtiihadmgkoamoaaGreatDoor.hierarchySupertype_card
