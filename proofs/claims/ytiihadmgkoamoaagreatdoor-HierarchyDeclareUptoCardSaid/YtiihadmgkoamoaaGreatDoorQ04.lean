/- HierarchyDeclare returns true and changes nothing, for arguments of bulk at most 1048576 (the card of the second form; conditions: those of the given row). Part 4. -/
import Derived.Test.YtiihadmgkoamoaaGreatDoorProg
import Derived.KernelRfl
import Derived.Shelf.SlMaps.Clone
import Derived.Shelf.SlicesE.Clone
import Derived.Shelf.SlicesE.Delete
import Derived.Ground.Names2Prog
import Derived.Shelf.Lays2
import Derived.Shelf.Slices.SearchI
import Derived.Shelf.Spec.SlicesInsert
import Derived.Shelf.Spec.SlicesInsertGrow
import Derived.Test.YtiihadmgkoamoaaGreatDoorQ03
set_option linter.unusedVariables false
set_option linter.unusedSimpArgs false
set_option maxRecDepth 100000
set_option maxHeartbeats 4000000
namespace Go.Proofs.YtiihadmgkoamoaaGreatDoor
open Go.Tp

theorem tok3 : TI.ok Tryz.prog 3 ⟨.int .i64, 1, 8, .int .i64 0⟩ := ⟨⟨Tryz.t3, by kernel_rfl, rfl, rfl, rfl, rfl⟩, Tryz.underlying3⟩
theorem tok4 : TI.ok Tryz.prog 4 ⟨.bool, 1, 1, .bool false⟩ := ⟨⟨Tryz.t4, by kernel_rfl, rfl, rfl, rfl, rfl⟩, Tryz.underlying4⟩
theorem tok5 : TI.ok Tryz.prog 5 ⟨.int .u8, 1, 1, .int .u8 0⟩ := ⟨⟨Tryz.t5, by kernel_rfl, rfl, rfl, rfl, rfl⟩, Tryz.underlying5⟩
theorem tok9 : TI.ok Tryz.prog 9 ⟨.string, 1, 16, .string ⟨#[]⟩⟩ := ⟨⟨Tryz.t9, by kernel_rfl, rfl, rfl, rfl, rfl⟩, Tryz.underlying9⟩
theorem tok22 : TI.ok Tryz.prog 22 ⟨.slice 3, 1, 24, .slice none 0 0⟩ := ⟨⟨Tryz.t22, by kernel_rfl, rfl, rfl, rfl, rfl⟩, Tryz.underlying22⟩
theorem tok23 : TI.ok Tryz.prog 23 ⟨.slice 35, 1, 24, .slice none 0 0⟩ := ⟨⟨Tryz.t23, by kernel_rfl, rfl, rfl, rfl, rfl⟩, Tryz.underlying23⟩
theorem tok25 : TI.ok Tryz.prog 25 ⟨.pointer, 1, 8, .pointer none⟩ := ⟨⟨Tryz.t25, by kernel_rfl, rfl, rfl, rfl, rfl⟩, ⟨_, Tryz.underlying25⟩⟩
theorem tok26 : TI.ok Tryz.prog 26 ⟨.pointer, 1, 8, .pointer none⟩ := ⟨⟨Tryz.t26, by kernel_rfl, rfl, rfl, rfl, rfl⟩, ⟨_, Tryz.underlying26⟩⟩
theorem tok30 : TI.ok Tryz.prog 30 ⟨.slice 32, 1, 24, .slice none 0 0⟩ := ⟨⟨Tryz.t30, by kernel_rfl, rfl, rfl, rfl, rfl⟩, Tryz.underlying30⟩
theorem tok32 : TI.ok Tryz.prog 32 ⟨.struct [(0, 3), (1, 9), (2, 3), (3, 30)], 4, 56, .agg #[.int .i64 0, .string ⟨#[]⟩, .int .i64 0, .slice none 0 0]⟩ := ⟨⟨Tryz.t32, by kernel_rfl, rfl, rfl, rfl, rfl⟩, ⟨_, Tryz.underlying32, rfl, [(0, 1), (1, 1), (2, 1), (3, 1)], by kernel_rfl⟩⟩
theorem tok33 : TI.ok Tryz.prog 33 ⟨.slice 75, 1, 24, .slice none 0 0⟩ := ⟨⟨Tryz.t33, by kernel_rfl, rfl, rfl, rfl, rfl⟩, Tryz.underlying33⟩
theorem tok35 : TI.ok Tryz.prog 35 ⟨.struct [(0, 9), (1, 3), (2, 32), (6, 4), (7, 33)], 8, 112, .agg #[.string ⟨#[]⟩, .int .i64 0, .int .i64 0, .string ⟨#[]⟩, .int .i64 0, .slice none 0 0, .bool false, .slice none 0 0]⟩ := ⟨⟨Tryz.t35, by kernel_rfl, rfl, rfl, rfl, rfl⟩, ⟨_, Tryz.underlying35, rfl, [(0, 1), (1, 1), (2, 4), (6, 1), (7, 1)], by kernel_rfl⟩⟩
theorem tok39 : TI.ok Tryz.prog 39 ⟨.pointer, 1, 8, .pointer none⟩ := ⟨⟨Tryz.t39, by kernel_rfl, rfl, rfl, rfl, rfl⟩, ⟨_, Tryz.underlying39⟩⟩
theorem tok41 : TI.ok Tryz.prog 41 ⟨.int .i64, 1, 8, .int .i64 0⟩ := ⟨⟨Tryz.t41, by kernel_rfl, rfl, rfl, rfl, rfl⟩, Tryz.underlying41⟩
theorem tok60 : TI.ok Tryz.prog 60 ⟨.slice 9, 1, 24, .slice none 0 0⟩ := ⟨⟨Tryz.t60, by kernel_rfl, rfl, rfl, rfl, rfl⟩, Tryz.underlying60⟩
theorem tok67 : TI.ok Tryz.prog 67 ⟨.func, 1, 8, .nilFunc⟩ := ⟨⟨Tryz.t67, by kernel_rfl, rfl, rfl, rfl, rfl⟩, ⟨_, _, _, Tryz.underlying67⟩⟩
theorem tok75 : TI.ok Tryz.prog 75 ⟨.struct [(0, 9), (1, 32)], 5, 72, .agg #[.string ⟨#[]⟩, .int .i64 0, .string ⟨#[]⟩, .int .i64 0, .slice none 0 0]⟩ := ⟨⟨Tryz.t75, by kernel_rfl, rfl, rfl, rfl, rfl⟩, ⟨_, Tryz.underlying75, rfl, [(0, 1), (1, 4)], by kernel_rfl⟩⟩
theorem tok78 : TI.ok Tryz.prog 78 ⟨.struct [(0, 22), (1, 3)], 2, 32, .agg #[.slice none 0 0, .int .i64 0]⟩ := ⟨⟨Tryz.t78, by kernel_rfl, rfl, rfl, rfl, rfl⟩, ⟨_, Tryz.underlying78, rfl, [(0, 1), (1, 1)], by kernel_rfl⟩⟩
theorem tok80 : TI.ok Tryz.prog 80 ⟨.map 9 3, 1, 8, .map none⟩ := ⟨⟨Tryz.t80, by kernel_rfl, rfl, rfl, rfl, rfl⟩, Tryz.underlying80⟩
theorem tok82 : TI.ok Tryz.prog 82 ⟨.struct [(0, 23), (1, 80)], 2, 32, .agg #[.slice none 0 0, .map none]⟩ := ⟨⟨Tryz.t82, by kernel_rfl, rfl, rfl, rfl, rfl⟩, ⟨_, Tryz.underlying82, rfl, [(0, 1), (1, 1)], by kernel_rfl⟩⟩
theorem tok86 : TI.ok Tryz.prog 86 ⟨.func, 1, 8, .nilFunc⟩ := ⟨⟨Tryz.t86, by kernel_rfl, rfl, rfl, rfl, rfl⟩, ⟨_, _, _, Tryz.underlying86⟩⟩
theorem tok88 : TI.ok Tryz.prog 88 ⟨.struct [(0, 23)], 1, 24, .agg #[.slice none 0 0]⟩ := ⟨⟨Tryz.t88, by kernel_rfl, rfl, rfl, rfl, rfl⟩, ⟨_, Tryz.underlying88, rfl, [(0, 1)], by kernel_rfl⟩⟩
theorem tok97 : TI.ok Tryz.prog 97 ⟨.map 9 4, 1, 8, .map none⟩ := ⟨⟨Tryz.t97, by kernel_rfl, rfl, rfl, rfl, rfl⟩, Tryz.underlying97⟩
theorem tok125 : TI.ok Tryz.prog 125 ⟨.func, 1, 8, .nilFunc⟩ := ⟨⟨Tryz.t125, by kernel_rfl, rfl, rfl, rfl, rfl⟩, ⟨_, _, _, Tryz.underlying125⟩⟩
theorem tok128 : TI.ok Tryz.prog 128 ⟨.pointer, 1, 8, .pointer none⟩ := ⟨⟨Tryz.t128, by kernel_rfl, rfl, rfl, rfl, rfl⟩, ⟨_, Tryz.underlying128⟩⟩
theorem tok129 : TI.ok Tryz.prog 129 ⟨.func, 1, 8, .nilFunc⟩ := ⟨⟨Tryz.t129, by kernel_rfl, rfl, rfl, rfl, rfl⟩, ⟨_, _, _, Tryz.underlying129⟩⟩
theorem tok141 : TI.ok Tryz.prog 141 ⟨.func, 1, 8, .nilFunc⟩ := ⟨⟨Tryz.t141, by kernel_rfl, rfl, rfl, rfl, rfl⟩, ⟨_, _, _, Tryz.underlying141⟩⟩
theorem tok147 : TI.ok Tryz.prog 147 ⟨.func, 1, 8, .nilFunc⟩ := ⟨⟨Tryz.t147, by kernel_rfl, rfl, rfl, rfl, rfl⟩, ⟨_, _, _, Tryz.underlying147⟩⟩
theorem tok157 : TI.ok Tryz.prog 157 ⟨.int .u64, 1, 8, .int .u64 0⟩ := ⟨⟨Tryz.t157, by kernel_rfl, rfl, rfl, rfl, rfl⟩, Tryz.underlying157⟩
theorem tok165 : TI.ok Tryz.prog 165 ⟨.struct [(0, 22)], 1, 24, .agg #[.slice none 0 0]⟩ := ⟨⟨Tryz.t165, by kernel_rfl, rfl, rfl, rfl, rfl⟩, ⟨_, Tryz.underlying165, rfl, [(0, 1)], by kernel_rfl⟩⟩
theorem tok167 : TI.ok Tryz.prog 167 ⟨.pointer, 1, 8, .pointer none⟩ := ⟨⟨Tryz.t167, by kernel_rfl, rfl, rfl, rfl, rfl⟩, ⟨_, Tryz.underlying167⟩⟩
def tyTab : Tr := (.node (.node (.node (.node (.node .nil 3 ⟨.int .i64, 1, 8, .int .i64 0⟩ .nil) 4 ⟨.bool, 1, 1, .bool false⟩ (.node .nil 5 ⟨.int .u8, 1, 1, .int .u8 0⟩ .nil)) 9 ⟨.string, 1, 16, .string ⟨#[]⟩⟩ (.node (.node .nil 22 ⟨.slice 3, 1, 24, .slice none 0 0⟩ .nil) 23 ⟨.slice 35, 1, 24, .slice none 0 0⟩ (.node .nil 25 ⟨.pointer, 1, 8, .pointer none⟩ .nil))) 26 ⟨.pointer, 1, 8, .pointer none⟩ (.node (.node (.node .nil 30 ⟨.slice 32, 1, 24, .slice none 0 0⟩ .nil) 32 ⟨.struct [(0, 3), (1, 9), (2, 3), (3, 30)], 4, 56, .agg #[.int .i64 0, .string ⟨#[]⟩, .int .i64 0, .slice none 0 0]⟩ (.node .nil 33 ⟨.slice 75, 1, 24, .slice none 0 0⟩ .nil)) 35 ⟨.struct [(0, 9), (1, 3), (2, 32), (6, 4), (7, 33)], 8, 112, .agg #[.string ⟨#[]⟩, .int .i64 0, .int .i64 0, .string ⟨#[]⟩, .int .i64 0, .slice none 0 0, .bool false, .slice none 0 0]⟩ (.node (.node .nil 39 ⟨.pointer, 1, 8, .pointer none⟩ .nil) 41 ⟨.int .i64, 1, 8, .int .i64 0⟩ (.node .nil 60 ⟨.slice 9, 1, 24, .slice none 0 0⟩ .nil)))) 67 ⟨.func, 1, 8, .nilFunc⟩ (.node (.node (.node (.node .nil 75 ⟨.struct [(0, 9), (1, 32)], 5, 72, .agg #[.string ⟨#[]⟩, .int .i64 0, .string ⟨#[]⟩, .int .i64 0, .slice none 0 0]⟩ .nil) 78 ⟨.struct [(0, 22), (1, 3)], 2, 32, .agg #[.slice none 0 0, .int .i64 0]⟩ (.node .nil 80 ⟨.map 9 3, 1, 8, .map none⟩ .nil)) 82 ⟨.struct [(0, 23), (1, 80)], 2, 32, .agg #[.slice none 0 0, .map none]⟩ (.node (.node .nil 86 ⟨.func, 1, 8, .nilFunc⟩ .nil) 88 ⟨.struct [(0, 23)], 1, 24, .agg #[.slice none 0 0]⟩ (.node .nil 97 ⟨.map 9 4, 1, 8, .map none⟩ .nil))) 125 ⟨.func, 1, 8, .nilFunc⟩ (.node (.node (.node .nil 128 ⟨.pointer, 1, 8, .pointer none⟩ .nil) 129 ⟨.func, 1, 8, .nilFunc⟩ (.node .nil 141 ⟨.func, 1, 8, .nilFunc⟩ .nil)) 147 ⟨.func, 1, 8, .nilFunc⟩ (.node (.node .nil 157 ⟨.int .u64, 1, 8, .int .u64 0⟩ .nil) 165 ⟨.struct [(0, 22)], 1, 24, .agg #[.slice none 0 0]⟩ (.node .nil 167 ⟨.pointer, 1, 8, .pointer none⟩ .nil)))))
theorem tyTab_ok : tyTab.All Tryz.prog := (Tr.all_node (Tr.all_node (Tr.all_node (Tr.all_node (Tr.all_node Tr.all_nil tok3 Tr.all_nil) tok4 (Tr.all_node Tr.all_nil tok5 Tr.all_nil)) tok9 (Tr.all_node (Tr.all_node Tr.all_nil tok22 Tr.all_nil) tok23 (Tr.all_node Tr.all_nil tok25 Tr.all_nil))) tok26 (Tr.all_node (Tr.all_node (Tr.all_node Tr.all_nil tok30 Tr.all_nil) tok32 (Tr.all_node Tr.all_nil tok33 Tr.all_nil)) tok35 (Tr.all_node (Tr.all_node Tr.all_nil tok39 Tr.all_nil) tok41 (Tr.all_node Tr.all_nil tok60 Tr.all_nil)))) tok67 (Tr.all_node (Tr.all_node (Tr.all_node (Tr.all_node Tr.all_nil tok75 Tr.all_nil) tok78 (Tr.all_node Tr.all_nil tok80 Tr.all_nil)) tok82 (Tr.all_node (Tr.all_node Tr.all_nil tok86 Tr.all_nil) tok88 (Tr.all_node Tr.all_nil tok97 Tr.all_nil))) tok125 (Tr.all_node (Tr.all_node (Tr.all_node Tr.all_nil tok128 Tr.all_nil) tok129 (Tr.all_node Tr.all_nil tok141 Tr.all_nil)) tok147 (Tr.all_node (Tr.all_node Tr.all_nil tok157 Tr.all_nil) tok165 (Tr.all_node Tr.all_nil tok167 Tr.all_nil)))))
def efn (f : Nat) : Bool := Nat.ble 0 f && Nat.ble f 206 && !(match f with | 0 => true | 1 => true | 97 => true | 132 => true | 194 => true | 201 => true | _ => false)
def ety (t : Nat) : Option TI := match t with
  | 0 => none
  | t => tyTab.find t
def env (pr : Prims) : TEnv := ⟨ety, efn, pr⟩
theorem fns_ok : (List.range 207).all (fun k => !(efn (0 + k)) || fnOk Tryz.prog (0 + k)) = true := by kernel_rfl
theorem efn_range (f : Nat) (h : efn f = true) : 0 ≤ f ∧ f ≤ 206 := by
  unfold efn at h
  simp only [Bool.and_eq_true, Nat.ble_eq] at h
  exact h.1
theorem fn_ok (f : Nat) (h : efn f = true) : fnOk Tryz.prog f = true := by
  have hb := efn_range f h
  have h1 := List.all_eq_true.1 fns_ok (f - 0) (List.mem_range.2 (by omega))
  rw [show 0 + (f - 0) = f by omega] at h1
  rw [h, Bool.not_true, Bool.false_or] at h1
  exact h1
theorem env_ok : (env Prims.std).Ok Tryz.prog where
  ty t i h := by
    have h : ety t = some i := h
    unfold ety at h
    split at h
    · simp at h
    · exact Tr.find_ok tyTab_ok h
  fn f h := by
    have h1 := fn_ok f h
    unfold fnOk at h1
    split at h1
    · rename_i g hg
      simp at h1
      exact ⟨g, hg, by simp [h1.1], by simpa using h1.2⟩
    · simp at h1
  mixed := by kernel_rfl
  std := rfl

def xmoves : FuncId → Bool := fun f => match f with | 28 => true | 180 => true | 191 => true | _ => false
def xcaps : FuncId → Bool := fun f => match f with | 4000000 => true | 1000052 => true | 1000151 => true | 1000170 => true | 2000024 => true | 2000075 => true | 2000082 => true | 3000019 => true | 3000062 => true | _ => false
def ord3 : Nat → RHint := fun n => match n with | 5 => ⟨[(0, false), (1, false), (2, false), (3, false), (7, false), (8, false), (9, false), (10, false), (12, false), (13, false), (17, false), (4, true), (5, false), (6, false), (11, true), (14, true), (15, true), (16, true)], some 17, [], [18]⟩ | 8 => ⟨[(0, false), (1, false), (3, false), (4, false), (2, true), (5, true), (6, false), (7, false), (8, false), (10, false), (9, true)], none, [], [11, 12, 13, 14]⟩ | _ => default
def live3 : Nat → Nat := fun n => match n with | 0 => 127 | 1 => 32894 | 2 => 491646 | 3 => 8590164094 | 4 => 16384 | 5 => 720912 | 6 => 9007199255461888 | 7 => 720896 | 8 => 16384 | _ => 0
theorem fok3 : fnOkX Tryz.prog xmoves xcaps 3 Tryz.f3 ord3 := fnOkX_mk Tryz.func3 (by kernel_rfl)
def ord9 : Nat → RHint := fun _ => default
def live9 : Nat → Nat := fun n => match n with | 0 => 1 | 1 => 4 | _ => 0
theorem fok9 : fnOkX Tryz.prog xmoves xcaps 9 Tryz.f9 ord9 := fnOkX_mk Tryz.func9 (by kernel_rfl)
def ord10 : Nat → RHint := fun n => match n with | 7 => ⟨[(0, false), (1, false), (2, false), (3, false), (4, false), (6, false), (7, false), (8, false), (9, false), (10, false), (5, true)], none, [], [11, 12]⟩ | _ => default
def live10 : Nat → Nat := fun n => match n with | 0 => 1 | 1 => 97 | 2 => 2145 | 3 => 28 | 4 => 225 | 5 => 65761 | 6 => 225 | 7 => 2147483873 | 8 => 28 | 9 => 28 | _ => 0
theorem fok10 : fnOkX Tryz.prog xmoves xcaps 10 Tryz.f10 ord10 := fnOkX_mk Tryz.func10 (by kernel_rfl)
def ord11 : Nat → RHint := fun n => match n with | 5 => ⟨[(0, false), (1, false), (2, false), (3, true), (4, false), (5, true)], none, [], [6, 7, 8, 9, 10, 11, 12, 13, 14]⟩ | _ => default
def live11 : Nat → Nat := fun n => match n with | 0 => 0 | 1 => 2 | 2 => 2097154 | 3 => 1 | 4 => 14 | 5 => 1 | _ => 0
theorem fok11 : fnOkX Tryz.prog xmoves xcaps 11 Tryz.f11 ord11 := fnOkX_mk Tryz.func11 (by kernel_rfl)
def ord12 : Nat → RHint := fun n => match n with | 11 => ⟨[(0, false), (1, false), (2, false), (4, false), (5, false), (6, false), (7, false), (3, true), (8, true)], none, [], [2000000, 9, 10]⟩ | 13 => ⟨[(0, false), (1, false), (2, false), (4, false), (5, false), (3, true), (6, true)], none, [], [2000000, 7, 8]⟩ | _ => default
def live12 : Nat → Nat := fun n => match n with | 0 => 1582 | 1 => 5676 | 2 => 13868 | 3 => 1056 | 4 => 136748 | 5 => 1056 | 6 => 2102828 | 7 => 1056 | 8 => 33560108 | 9 => 1056 | 10 => 2147489324 | 11 => 1056 | 12 => 8796093027876 | 13 => 1056 | 14 => 9007199254746660 | 15 => 1056 | 16 => 576460752303424548 | 17 => 1056 | 18 => 1024 | _ => 0
theorem fok12 : fnOkX Tryz.prog xmoves xcaps 12 Tryz.f12 ord12 := fnOkX_mk Tryz.func12 (by kernel_rfl)
def ord13 : Nat → RHint := fun _ => default
def live13 : Nat → Nat := fun n => match n with | 0 => 3 | 1 => 3 | 2 => 515 | 3 => 1 | 4 => 16 | _ => 0
theorem fok13 : fnOkX Tryz.prog xmoves xcaps 13 Tryz.f13 ord13 := fnOkX_mk Tryz.func13 (by kernel_rfl)
def ord14 : Nat → RHint := fun _ => default
def live14 : Nat → Nat := fun n => match n with | 0 => 71 | 1 => 64 | _ => 0
theorem fok14 : fnOkX Tryz.prog xmoves xcaps 14 Tryz.f14 ord14 := fnOkX_mk Tryz.func14 (by kernel_rfl)
def ord15 : Nat → RHint := fun _ => default
def live15 : Nat → Nat := fun n => match n with | 0 => 1 | 1 => 4 | _ => 0
theorem fok15 : fnOkX Tryz.prog xmoves xcaps 15 Tryz.f15 ord15 := fnOkX_mk Tryz.func15 (by kernel_rfl)
def ord16 : Nat → RHint := fun n => match n with | 14 => ⟨[(0, false), (1, false), (2, true)], none, [], [3]⟩ | _ => default
def live16 : Nat → Nat := fun n => match n with | 0 => 12 | 1 => 108 | 2 => 65644 | 3 => 16 | 4 => 1048684 | 5 => 16 | 6 => 1073741900 | 7 => 16 | 8 => 137438953484 | 9 => 16 | 10 => 549755813900 | 11 => 16 | 12 => 70368744177676 | 13 => 16 | 14 => 12 | 15 => 576460752303423500 | 16 => 0 | 17 => 16 | 18 => 140 | 19 => 151115727451828646838276 | 20 => 0 | 21 => 16 | 22 => 16 | _ => 0
theorem fok16 : fnOkX Tryz.prog xmoves xcaps 16 Tryz.f16 ord16 := fnOkX_mk Tryz.func16 (by kernel_rfl)
def ord17 : Nat → RHint := fun n => match n with | 11 => ⟨[(0, false), (2, false), (3, false), (1, true)], none, [], [4, 5, 6, 7]⟩ | _ => default
def live17 : Nat → Nat := fun n => match n with | 0 => 9 | 1 => 41 | 2 => 32809 | 3 => 16 | 4 => 201 | 5 => 16777289 | 6 => 134217728 | 7 => 16 | 8 => 16 | 9 => 8589934601 | 10 => 16 | 11 => 265 | 12 => 35184372089097 | 13 => 16 | 14 => 777 | 15 => 1125899906843401 | 16 => 777 | 17 => 2305843009213694729 | 18 => 16 | 19 => 3329 | 20 => 18889465931478580855041 | 21 => 16 | 22 => 0 | 23 => 16 | _ => 0
theorem fok17 : fnOkX Tryz.prog xmoves xcaps 17 Tryz.f17 ord17 := fnOkX_mk Tryz.func17 (by kernel_rfl)
def ord18 : Nat → RHint := fun n => match n with | 6 => ⟨[(0, false), (1, false), (2, false), (3, false), (4, false), (5, false), (6, false), (7, false)], none, [], [8, 9]⟩ | _ => default
def live18 : Nat → Nat := fun n => match n with | 0 => 3 | 1 => 1027 | 2 => 16 | 3 => 35 | 4 => 16419 | 5 => 35 | 6 => 67108899 | 7 => 16 | 8 => 16 | _ => 0
theorem fok18 : fnOkX Tryz.prog xmoves xcaps 18 Tryz.f18 ord18 := fnOkX_mk Tryz.func18 (by kernel_rfl)
def ord19 : Nat → RHint := fun _ => default
def live19 : Nat → Nat := fun n => match n with | 0 => 1 | 1 => 9 | 2 => 3592 | 3 => 7688 | 4 => 3624 | 5 => 3592 | 6 => 3592 | 7 => 4 | _ => 0
theorem fok19 : fnOkX Tryz.prog xmoves xcaps 19 Tryz.f19 ord19 := fnOkX_mk Tryz.func19 (by kernel_rfl)
def ord20 : Nat → RHint := fun _ => default
def live20 : Nat → Nat := fun n => match n with | 0 => 1 | 1 => 4 | _ => 0
theorem fok20 : fnOkX Tryz.prog xmoves xcaps 20 Tryz.f20 ord20 := fnOkX_mk Tryz.func20 (by kernel_rfl)
def ord23 : Nat → RHint := fun _ => default
def live23 : Nat → Nat := fun n => match n with | 0 => 85 | 1 => 4181 | 2 => 65621 | 3 => 192 | 4 => 4194389 | 5 => 341 | 6 => 85 | 7 => 192 | _ => 0
theorem fok23 : fnOkX Tryz.prog xmoves xcaps 23 Tryz.f23 ord23 := fnOkX_mk Tryz.func23 (by kernel_rfl)
def ord24 : Nat → RHint := fun _ => default
def live24 : Nat → Nat := fun n => match n with | 0 => 12 | 1 => 16 | _ => 0
theorem fok24 : fnOkX Tryz.prog xmoves xcaps 24 Tryz.f24 ord24 := fnOkX_mk Tryz.func24 (by kernel_rfl)
def ord28 : Nat → RHint := fun n => match n with | 5 => ⟨[(0, false), (1, false), (2, false), (3, false), (4, false), (6, false), (10, false), (5, true), (7, true), (8, false), (9, false)], some 10, [], [11]⟩ | 18 => ⟨[(0, false), (1, false), (2, false), (3, false), (4, false), (5, false), (6, false), (7, true), (8, false), (9, true), (10, false), (11, false)], none, [2], [12]⟩ | _ => default
def live28 : Nat → Nat := fun n => match n with | 0 => 3 | 1 => 35 | 2 => 99 | 3 => 65635 | 4 => 99 | 5 => 227 | 6 => 2147483875 | 7 => 483 | 8 => 995 | 9 => 34359739363 | 10 => 995 | 11 => 8796093023203 | 12 => 995 | 13 => 1251 | 14 => 1251 | 15 => 3299 | 16 => 36893488147419106531 | 17 => 3299 | 18 => 3299 | 19 => 77371252455336267181195491 | 20 => 227 | 21 => 99 | 22 => 16 | _ => 0
theorem fok28 : fnOkX Tryz.prog xmoves xcaps 28 Tryz.f28 ord28 := fnOkX_mk Tryz.func28 (by kernel_rfl)
def ord36 : Nat → RHint := fun _ => default
def live36 : Nat → Nat := fun n => match n with | 0 => 19 | 1 => 83 | 2 => 8275 | 3 => 83 | 4 => 33554515 | 5 => 48 | 6 => 48 | _ => 0
theorem fok36 : fnOkX Tryz.prog xmoves xcaps 36 Tryz.f36 ord36 := fnOkX_mk Tryz.func36 (by kernel_rfl)
def ord37 : Nat → RHint := fun n => match n with | 6 => ⟨[(0, false), (1, false), (2, false), (3, false), (4, false), (5, false), (6, false), (7, false), (8, false), (9, false), (10, false), (11, false), (12, false), (13, false), (14, false), (15, false), (16, false), (17, false), (18, false), (19, false), (20, false), (21, false), (22, false), (23, false), (24, false), (25, false)], none, [], [26, 27, 28]⟩ | _ => default
def live37 : Nat → Nat := fun n => match n with | 0 => 12 | 1 => 2199023255564 | 2 => 16 | 3 => 44 | 4 => 70368744177708 | 5 => 44 | 6 => 151115727451828646838316 | 7 => 16 | 8 => 16 | _ => 0
theorem fok37 : fnOkX Tryz.prog xmoves xcaps 37 Tryz.f37 ord37 := fnOkX_mk Tryz.func37 (by kernel_rfl)
def ord39 : Nat → RHint := fun _ => default
def live39 : Nat → Nat := fun n => match n with | 0 => 12 | 1 => 8204 | 2 => 16 | 3 => 16 | _ => 0
theorem fok39 : fnOkX Tryz.prog xmoves xcaps 39 Tryz.f39 ord39 := fnOkX_mk Tryz.func39 (by kernel_rfl)
def ord40 : Nat → RHint := fun _ => default
def live40 : Nat → Nat := fun n => match n with | 0 => 9 | 1 => 1033 | 2 => 105 | 3 => 134217737 | 4 => 16 | 5 => 137 | 6 => 4294967433 | 7 => 137 | 8 => 4398046511241 | 9 => 16 | 10 => 16 | _ => 0
theorem fok40 : fnOkX Tryz.prog xmoves xcaps 40 Tryz.f40 ord40 := fnOkX_mk Tryz.func40 (by kernel_rfl)
def ord43 : Nat → RHint := fun n => match n with | 2 => ⟨[(0, false), (1, false), (2, false), (4, false), (5, false), (6, false), (15, false), (23, false), (24, false), (29, false), (30, false), (34, false), (35, false), (3, true), (7, false), (8, true), (9, false), (10, true), (11, true), (12, false), (13, false), (14, false), (16, true), (17, false), (18, true), (19, true), (20, false), (21, false), (22, false), (25, true), (26, false), (27, false), (28, false), (31, true), (32, false), (33, true), (36, true), (37, false), (38, false), (39, false), (40, false)], none, [], [41]⟩ | _ => default
def live43 : Nat → Nat := fun n => match n with | 0 => 0 | 1 => 2 | 2 => 1 | _ => 0
theorem fok43 : fnOkX Tryz.prog xmoves xcaps 43 Tryz.f43 ord43 := fnOkX_mk Tryz.func43 (by kernel_rfl)
def ord44 : Nat → RHint := fun _ => default
def live44 : Nat → Nat := fun n => match n with | 0 => 0 | 1 => 2 | 2 => 898 | 3 => 1922 | 4 => 906 | 5 => 898 | 6 => 898 | 7 => 1 | _ => 0
theorem fok44 : fnOkX Tryz.prog xmoves xcaps 44 Tryz.f44 ord44 := fnOkX_mk Tryz.func44 (by kernel_rfl)
def ord45 : Nat → RHint := fun _ => default
def live45 : Nat → Nat := fun n => match n with | 0 => 0 | 1 => 2 | 2 => 450 | 3 => 962 | 4 => 458 | 5 => 450 | 6 => 450 | 7 => 1 | _ => 0
theorem fok45 : fnOkX Tryz.prog xmoves xcaps 45 Tryz.f45 ord45 := fnOkX_mk Tryz.func45 (by kernel_rfl)
def ord46 : Nat → RHint := fun _ => default
def live46 : Nat → Nat := fun n => match n with | 0 => 19 | 1 => 16 | _ => 0
theorem fok46 : fnOkX Tryz.prog xmoves xcaps 46 Tryz.f46 ord46 := fnOkX_mk Tryz.func46 (by kernel_rfl)
def ord47 : Nat → RHint := fun _ => default
def live47 : Nat → Nat := fun n => match n with | 0 => 5 | 1 => 4 | _ => 0
theorem fok47 : fnOkX Tryz.prog xmoves xcaps 47 Tryz.f47 ord47 := fnOkX_mk Tryz.func47 (by kernel_rfl)
def ord48 : Nat → RHint := fun n => match n with | 7 => ⟨[(0, false), (1, false), (2, true), (3, false), (4, false)], none, [], [5, 6]⟩ | 29 => ⟨[(0, false), (1, false), (2, false), (3, false), (4, false), (5, false), (6, false), (7, true), (8, false), (9, true), (10, false)], none, [1], [11]⟩ | 35 => ⟨[(0, false), (1, false), (2, false), (3, false), (4, false), (5, false), (6, false), (7, true)], none, [], [8, 9]⟩ | _ => default
def live48 : Nat → Nat := fun n => match n with | 0 => 271 | 1 => 783 | 2 => 2097935 | 3 => 783 | 4 => 4194575 | 5 => 12583183 | 6 => 12583183 | 7 => 256 | 8 => 4299161871 | 9 => 256 | 10 => 34363932943 | 11 => 34363932943 | 12 => 549755814159 | 13 => 256 | 14 => 256 | 15 => 562949957615887 | 16 => 562949957615887 | 17 => 562949957615887 | 18 => 256 | 19 => 288230376155906319 | 20 => 288230376155906319 | 21 => 256 | 22 => 37778931862957165904143 | 23 => 37778931862957165904143 | 24 => 1295 | 25 => 3343 | 26 => 7439 | 27 => 9671406556917033397656847 | 28 => 7439 | 29 => 7439 | 30 => 256 | 31 => 316912650057057350374175801615 | 32 => 8463 | 33 => 10141204801825835211973625651471 | 34 => 8463 | 35 => 256 | 36 => 332306998946228968225951765070086400 | 37 => 256 | 38 => 256 | _ => 0
theorem fok48 : fnOkX Tryz.prog xmoves xcaps 48 Tryz.f48 ord48 := fnOkX_mk Tryz.func48 (by kernel_rfl)
def ord49 : Nat → RHint := fun _ => default
def live49 : Nat → Nat := fun n => match n with | 0 => 19 | 1 => 209 | 2 => 262225 | 3 => 48 | 4 => 48 | _ => 0
theorem fok49 : fnOkX Tryz.prog xmoves xcaps 49 Tryz.f49 ord49 := fnOkX_mk Tryz.func49 (by kernel_rfl)
def ord50 : Nat → RHint := fun _ => default
def live50 : Nat → Nat := fun n => match n with | 0 => 2 | 1 => 2147483650 | 2 => 4 | 3 => 562949953421314 | 4 => 4 | 5 => 10 | 6 => 31525197391593482 | 7 => 67553994410557450 | 8 => 31525197391593514 | 9 => 37778963388154553303082 | 10 => 4 | 11 => 31525197391593482 | 12 => 31525197391593482 | 13 => 4 | _ => 0
theorem fok50 : fnOkX Tryz.prog xmoves xcaps 50 Tryz.f50 ord50 := fnOkX_mk Tryz.func50 (by kernel_rfl)
def ord51 : Nat → RHint := fun _ => default
def live51 : Nat → Nat := fun n => match n with | 0 => 12 | 1 => 44 | 2 => 16 | _ => 0
theorem fok51 : fnOkX Tryz.prog xmoves xcaps 51 Tryz.f51 ord51 := fnOkX_mk Tryz.func51 (by kernel_rfl)
def ord52 : Nat → RHint := fun n => match n with | 1 => ⟨[(0, false), (1, false), (2, false), (3, false), (4, false), (5, false), (6, false), (7, false), (8, false), (9, false), (10, false)], none, [], [11]⟩ | 2 => ⟨[(0, false), (1, false), (2, false), (3, false), (4, false), (5, false), (6, false)], none, [4], [7, 8, 9, 10]⟩ | _ => default
def live52 : Nat → Nat := fun n => match n with | 0 => 9 | 1 => 9 | 2 => 0 | _ => 0
theorem fok52 : fnOkX Tryz.prog xmoves xcaps 52 Tryz.f52 ord52 := fnOkX_mk Tryz.func52 (by kernel_rfl)
def ord53 : Nat → RHint := fun n => match n with | 7 => ⟨[(0, false), (1, false), (2, false), (3, false), (4, false), (5, false), (6, true), (7, false), (8, false), (9, true), (10, false)], none, [1], [11]⟩ | _ => default
def live53 : Nat → Nat := fun n => match n with | 0 => 6 | 1 => 14 | 2 => 14 | 3 => 14 | 4 => 57356 | 5 => 122892 | 6 => 57388 | 7 => 57356 | 8 => 57356 | 9 => 4 | _ => 0
theorem fok53 : fnOkX Tryz.prog xmoves xcaps 53 Tryz.f53 ord53 := fnOkX_mk Tryz.func53 (by kernel_rfl)
def ord54 : Nat → RHint := fun _ => default
def live54 : Nat → Nat := fun n => match n with | 0 => 3 | 1 => 16 | _ => 0
theorem fok54 : fnOkX Tryz.prog xmoves xcaps 54 Tryz.f54 ord54 := fnOkX_mk Tryz.func54 (by kernel_rfl)
def ord55 : Nat → RHint := fun _ => default
def live55 : Nat → Nat := fun n => match n with | 0 => 6 | 1 => 8 | _ => 0
theorem fok55 : fnOkX Tryz.prog xmoves xcaps 55 Tryz.f55 ord55 := fnOkX_mk Tryz.func55 (by kernel_rfl)
def ord56 : Nat → RHint := fun n => match n with | 1 => ⟨[(0, false), (1, false), (2, false), (3, false), (4, false), (5, false), (6, false), (7, false), (8, false), (9, false), (10, false), (11, false)], none, [], [12]⟩ | _ => default
def live56 : Nat → Nat := fun n => match n with | 0 => 5 | 1 => 5 | 2 => 0 | _ => 0
theorem fok56 : fnOkX Tryz.prog xmoves xcaps 56 Tryz.f56 ord56 := fnOkX_mk Tryz.func56 (by kernel_rfl)
def ord57 : Nat → RHint := fun _ => default
def live57 : Nat → Nat := fun n => match n with | 0 => 2 | 1 => 34 | 2 => 4 | 3 => 16384 | 4 => 4 | 5 => 4 | _ => 0
theorem fok57 : fnOkX Tryz.prog xmoves xcaps 57 Tryz.f57 ord57 := fnOkX_mk Tryz.func57 (by kernel_rfl)
def ord58 : Nat → RHint := fun _ => default
def live58 : Nat → Nat := fun n => match n with | 0 => 6 | 1 => 4 | _ => 0
theorem fok58 : fnOkX Tryz.prog xmoves xcaps 58 Tryz.f58 ord58 := fnOkX_mk Tryz.func58 (by kernel_rfl)
def ord59 : Nat → RHint := fun _ => default
def live59 : Nat → Nat := fun n => match n with | 0 => 9 | 1 => 104 | 2 => 16 | _ => 0
theorem fok59 : fnOkX Tryz.prog xmoves xcaps 59 Tryz.f59 ord59 := fnOkX_mk Tryz.func59 (by kernel_rfl)
def ord60 : Nat → RHint := fun _ => default
def live60 : Nat → Nat := fun n => match n with | 0 => 28 | 1 => 16 | _ => 0
theorem fok60 : fnOkX Tryz.prog xmoves xcaps 60 Tryz.f60 ord60 := fnOkX_mk Tryz.func60 (by kernel_rfl)
def ord61 : Nat → RHint := fun n => match n with | 12 => ⟨[(0, false), (1, false), (2, false), (3, false), (4, false), (5, false), (6, false), (7, false), (8, false), (9, false)], none, [], [10, 11]⟩ | _ => default
def live61 : Nat → Nat := fun n => match n with | 0 => 12 | 1 => 140 | 2 => 16 | 3 => 524300 | 4 => 16 | 5 => 2147483660 | 6 => 16 | 7 => 8796093022220 | 8 => 16 | 9 => 44 | 10 => 9223372036854775852 | 11 => 44 | 12 => 108 | 13 => 302231454903657293676652 | 14 => 16 | 15 => 16 | _ => 0
theorem fok61 : fnOkX Tryz.prog xmoves xcaps 61 Tryz.f61 ord61 := fnOkX_mk Tryz.func61 (by kernel_rfl)
def ord64 : Nat → RHint := fun n => match n with | 1 => ⟨[(0, false), (1, false), (2, false), (3, false), (4, false), (5, false), (6, false), (7, false), (8, false), (9, false)], none, [], []⟩ | 4 => ⟨[(0, false), (1, false), (2, false), (3, false), (4, false), (5, false), (6, false), (7, false), (8, false), (9, false), (10, false), (11, false)], none, [], [12, 13]⟩ | _ => default
def live64 : Nat → Nat := fun n => match n with | 0 => 3 | 1 => 16387 | 2 => 16 | 3 => 3 | 4 => 16 | _ => 0
theorem fok64 : fnOkX Tryz.prog xmoves xcaps 64 Tryz.f64 ord64 := fnOkX_mk Tryz.func64 (by kernel_rfl)
def ord65 : Nat → RHint := fun n => match n with | 5 => ⟨[(0, false), (1, false), (2, true), (3, false), (4, false)], none, [], [5, 6]⟩ | _ => default
def live65 : Nat → Nat := fun n => match n with | 0 => 271 | 1 => 783 | 2 => 4879 | 3 => 256 | 4 => 8389391 | 5 => 256 | 6 => 4294967567 | 7 => 256 | 8 => 256 | _ => 0
theorem fok65 : fnOkX Tryz.prog xmoves xcaps 65 Tryz.f65 ord65 := fnOkX_mk Tryz.func65 (by kernel_rfl)
def ord67 : Nat → RHint := fun _ => default
def live67 : Nat → Nat := fun n => match n with | 0 => 3 | 1 => 387 | 2 => 899 | 3 => 419 | 4 => 65955 | 5 => 16 | 6 => 387 | 7 => 16 | _ => 0
theorem fok67 : fnOkX Tryz.prog xmoves xcaps 67 Tryz.f67 ord67 := fnOkX_mk Tryz.func67 (by kernel_rfl)
def ord69 : Nat → RHint := fun _ => default
def live69 : Nat → Nat := fun n => match n with | 0 => 3 | 1 => 16 | _ => 0
theorem fok69 : fnOkX Tryz.prog xmoves xcaps 69 Tryz.f69 ord69 := fnOkX_mk Tryz.func69 (by kernel_rfl)
def ord70 : Nat → RHint := fun _ => default
def live70 : Nat → Nat := fun n => match n with | 0 => 6 | 1 => 8 | _ => 0
theorem fok70 : fnOkX Tryz.prog xmoves xcaps 70 Tryz.f70 ord70 := fnOkX_mk Tryz.func70 (by kernel_rfl)
def ord82 : Nat → RHint := fun _ => default
def live82 : Nat → Nat := fun n => match n with | 0 => 1 | 1 => 1 | _ => 0
theorem fok82 : fnOkX Tryz.prog xmoves xcaps 82 Tryz.f82 ord82 := fnOkX_mk Tryz.func82 (by kernel_rfl)
def ord83 : Nat → RHint := fun n => match n with | 9 => ⟨[(0, false), (1, false), (2, false), (3, false), (4, false), (5, false), (6, false), (7, true), (8, false), (9, true), (10, false)], none, [1], [11]⟩ | _ => default
def live83 : Nat → Nat := fun n => match n with | 0 => 271 | 1 => 783 | 2 => 525071 | 3 => 256 | 4 => 1295 | 5 => 3343 | 6 => 7439 | 7 => 68719484175 | 8 => 7439 | 9 => 7439 | 10 => 256 | _ => 0
theorem fok83 : fnOkX Tryz.prog xmoves xcaps 83 Tryz.f83 ord83 := fnOkX_mk Tryz.func83 (by kernel_rfl)
def ord84 : Nat → RHint := fun _ => default
def live84 : Nat → Nat := fun n => match n with | 0 => 5 | 1 => 4 | _ => 0
theorem fok84 : fnOkX Tryz.prog xmoves xcaps 84 Tryz.f84 ord84 := fnOkX_mk Tryz.func84 (by kernel_rfl)
def ord85 : Nat → RHint := fun _ => default
def live85 : Nat → Nat := fun n => match n with | 0 => 28 | 1 => 16 | _ => 0
theorem fok85 : fnOkX Tryz.prog xmoves xcaps 85 Tryz.f85 ord85 := fnOkX_mk Tryz.func85 (by kernel_rfl)
def ord86 : Nat → RHint := fun _ => default
def live86 : Nat → Nat := fun n => match n with | 0 => 1 | 1 => 1 | _ => 0
theorem fok86 : fnOkX Tryz.prog xmoves xcaps 86 Tryz.f86 ord86 := fnOkX_mk Tryz.func86 (by kernel_rfl)
def ord87 : Nat → RHint := fun _ => default
def live87 : Nat → Nat := fun n => match n with | 0 => 1 | 1 => 4 | _ => 0
theorem fok87 : fnOkX Tryz.prog xmoves xcaps 87 Tryz.f87 ord87 := fnOkX_mk Tryz.func87 (by kernel_rfl)
def ord88 : Nat → RHint := fun _ => default
def live88 : Nat → Nat := fun n => match n with | 0 => 3 | 1 => 16 | _ => 0
theorem fok88 : fnOkX Tryz.prog xmoves xcaps 88 Tryz.f88 ord88 := fnOkX_mk Tryz.func88 (by kernel_rfl)
def ord89 : Nat → RHint := fun _ => default
def live89 : Nat → Nat := fun n => match n with | 0 => 12 | 1 => 16 | _ => 0
theorem fok89 : fnOkX Tryz.prog xmoves xcaps 89 Tryz.f89 ord89 := fnOkX_mk Tryz.func89 (by kernel_rfl)
def ord90 : Nat → RHint := fun _ => default
def live90 : Nat → Nat := fun n => match n with | 0 => 12 | 1 => 16 | _ => 0
theorem fok90 : fnOkX Tryz.prog xmoves xcaps 90 Tryz.f90 ord90 := fnOkX_mk Tryz.func90 (by kernel_rfl)
def ord91 : Nat → RHint := fun _ => default
def live91 : Nat → Nat := fun n => match n with | 0 => 12 | 1 => 16 | _ => 0
theorem fok91 : fnOkX Tryz.prog xmoves xcaps 91 Tryz.f91 ord91 := fnOkX_mk Tryz.func91 (by kernel_rfl)
def ord92 : Nat → RHint := fun _ => default
def live92 : Nat → Nat := fun n => match n with | 0 => 7 | 1 => 16391 | 2 => 64 | 3 => 229382 | 4 => 491526 | 5 => 229766 | 6 => 230150 | 7 => 1073971206 | 8 => 64 | 9 => 229382 | 10 => 64 | _ => 0
theorem fok92 : fnOkX Tryz.prog xmoves xcaps 92 Tryz.f92 ord92 := fnOkX_mk Tryz.func92 (by kernel_rfl)
def ord93 : Nat → RHint := fun n => match n with | 3 => ⟨[(0, false), (1, false), (2, false), (3, false), (4, false), (5, false), (6, false), (7, true), (8, true), (9, false), (10, false), (11, false), (12, false), (13, false), (14, false), (15, false)], none, [], [16, 17, 18]⟩ | 8 => ⟨[(0, false), (1, false), (2, false), (3, false), (4, false), (5, false), (6, true), (7, false), (8, false), (9, false), (10, false), (11, false), (12, false), (13, false), (14, false), (15, false), (16, false)], none, [], [17, 18, 19]⟩ | 13 => ⟨[(0, false), (1, false), (2, false), (3, false), (4, false), (5, false), (6, false), (7, false), (8, false), (9, false), (10, false), (11, false), (12, false)], none, [], []⟩ | _ => default
def live93 : Nat → Nat := fun n => match n with | 0 => 2 | 1 => 536870914 | 2 => 4 | 3 => 281474976710658 | 4 => 4 | 5 => 10 | 6 => 9007199254741002 | 7 => 10 | 8 => 37778931862957161709578 | 9 => 4 | 10 => 26 | 11 => 302231454903657293676570 | 12 => 26 | 13 => 9903520314283042199192993818 | 14 => 4 | 15 => 4 | _ => 0
theorem fok93 : fnOkX Tryz.prog xmoves xcaps 93 Tryz.f93 ord93 := fnOkX_mk Tryz.func93 (by kernel_rfl)
def ord94 : Nat → RHint := fun n => match n with | 11 => ⟨[(0, false), (1, false), (2, false), (3, false), (4, false), (5, false), (8, false), (6, true), (7, false), (9, true), (10, false), (11, true), (12, false)], none, [1], [13]⟩ | _ => default
def live94 : Nat → Nat := fun n => match n with | 0 => 78 | 1 => 206 | 2 => 206 | 3 => 65742 | 4 => 974 | 5 => 67109838 | 6 => 64 | 7 => 206 | 8 => 120259084494 | 9 => 257698037966 | 10 => 120259087566 | 11 => 120259084494 | 12 => 120259084494 | 13 => 64 | _ => 0
theorem fok94 : fnOkX Tryz.prog xmoves xcaps 94 Tryz.f94 ord94 := fnOkX_mk Tryz.func94 (by kernel_rfl)
def ord95 : Nat → RHint := fun _ => default
def live95 : Nat → Nat := fun n => match n with | 0 => 7 | 1 => 135 | 2 => 524421 | 3 => 96 | 4 => 96 | _ => 0
theorem fok95 : fnOkX Tryz.prog xmoves xcaps 95 Tryz.f95 ord95 := fnOkX_mk Tryz.func95 (by kernel_rfl)
def ord96 : Nat → RHint := fun _ => default
def live96 : Nat → Nat := fun n => match n with | 0 => 1 | 1 => 8 | 2 => 4 | 3 => 4 | _ => 0
theorem fok96 : fnOkX Tryz.prog xmoves xcaps 96 Tryz.f96 ord96 := fnOkX_mk Tryz.func96 (by kernel_rfl)
def ord99 : Nat → RHint := fun _ => default
def live99 : Nat → Nat := fun n => match n with | 0 => 3 | 1 => 387 | 2 => 899 | 3 => 419 | 4 => 65955 | 5 => 16 | 6 => 387 | 7 => 16 | _ => 0
theorem fok99 : fnOkX Tryz.prog xmoves xcaps 99 Tryz.f99 ord99 := fnOkX_mk Tryz.func99 (by kernel_rfl)
def ord111 : Nat → RHint := fun _ => default
def live111 : Nat → Nat := fun n => match n with | 0 => 1 | 1 => 4 | _ => 0
theorem fok111 : fnOkX Tryz.prog xmoves xcaps 111 Tryz.f111 ord111 := fnOkX_mk Tryz.func111 (by kernel_rfl)
def ord112 : Nat → RHint := fun _ => default
def live112 : Nat → Nat := fun n => match n with | 0 => 3 | 1 => 35 | 2 => 547 | 3 => 35 | 4 => 131107 | 5 => 16 | 6 => 16 | _ => 0
theorem fok112 : fnOkX Tryz.prog xmoves xcaps 112 Tryz.f112 ord112 := fnOkX_mk Tryz.func112 (by kernel_rfl)
def ord113 : Nat → RHint := fun _ => default
def live113 : Nat → Nat := fun n => match n with | 0 => 1 | 1 => 4 | _ => 0
theorem fok113 : fnOkX Tryz.prog xmoves xcaps 113 Tryz.f113 ord113 := fnOkX_mk Tryz.func113 (by kernel_rfl)
def ord114 : Nat → RHint := fun _ => default
def live114 : Nat → Nat := fun n => match n with | 0 => 1 | 1 => 4 | _ => 0
theorem fok114 : fnOkX Tryz.prog xmoves xcaps 114 Tryz.f114 ord114 := fnOkX_mk Tryz.func114 (by kernel_rfl)
def ord115 : Nat → RHint := fun _ => default
def live115 : Nat → Nat := fun n => match n with | 0 => 3 | 1 => 387 | 2 => 899 | 3 => 419 | 4 => 65955 | 5 => 16 | 6 => 387 | 7 => 16 | _ => 0
theorem fok115 : fnOkX Tryz.prog xmoves xcaps 115 Tryz.f115 ord115 := fnOkX_mk Tryz.func115 (by kernel_rfl)
def ord116 : Nat → RHint := fun _ => default
def live116 : Nat → Nat := fun n => match n with | 0 => 2 | 1 => 10 | 2 => 4 | 3 => 4096 | 4 => 4 | 5 => 4 | _ => 0
theorem fok116 : fnOkX Tryz.prog xmoves xcaps 116 Tryz.f116 ord116 := fnOkX_mk Tryz.func116 (by kernel_rfl)
def ord117 : Nat → RHint := fun _ => default
def live117 : Nat → Nat := fun n => match n with | 0 => 2 | 1 => 4 | _ => 0
theorem fok117 : fnOkX Tryz.prog xmoves xcaps 117 Tryz.f117 ord117 := fnOkX_mk Tryz.func117 (by kernel_rfl)
def ord118 : Nat → RHint := fun _ => default
def live118 : Nat → Nat := fun n => match n with | 0 => 3 | 1 => 16 | _ => 0
theorem fok118 : fnOkX Tryz.prog xmoves xcaps 118 Tryz.f118 ord118 := fnOkX_mk Tryz.func118 (by kernel_rfl)
def ord119 : Nat → RHint := fun _ => default
def live119 : Nat → Nat := fun n => match n with | 0 => 2 | 1 => 10 | 2 => 8 | 3 => 4 | _ => 0
theorem fok119 : fnOkX Tryz.prog xmoves xcaps 119 Tryz.f119 ord119 := fnOkX_mk Tryz.func119 (by kernel_rfl)
def ord120 : Nat → RHint := fun _ => default
def live120 : Nat → Nat := fun n => match n with | 0 => 3 | 1 => 8 | _ => 0
theorem fok120 : fnOkX Tryz.prog xmoves xcaps 120 Tryz.f120 ord120 := fnOkX_mk Tryz.func120 (by kernel_rfl)
def ord121 : Nat → RHint := fun n => match n with | 1 => ⟨[(0, false), (1, false), (2, false), (3, false), (5, false), (6, false), (7, false), (8, false), (10, false), (11, false), (12, false), (13, false), (15, false), (16, false), (17, false), (18, false), (19, false), (20, false), (4, true), (9, true), (14, true)], none, [], [21, 22, 23, 24]⟩ | 5 => ⟨[(0, false), (1, false), (2, false), (3, false), (4, false), (5, false), (6, false), (7, false), (8, false), (9, false)], none, [], [10, 11]⟩ | _ => default
def live121 : Nat → Nat := fun n => match n with | 0 => 12 | 1 => 44 | 2 => 108 | 3 => 549755813996 | 4 => 108 | 5 => 108 | 6 => 16 | _ => 0
theorem fok121 : fnOkX Tryz.prog xmoves xcaps 121 Tryz.f121 ord121 := fnOkX_mk Tryz.func121 (by kernel_rfl)
def ord122 : Nat → RHint := fun _ => default
def live122 : Nat → Nat := fun n => match n with | 0 => 1 | 1 => 131073 | 2 => 4 | 3 => 9 | 4 => 2097161 | 5 => 9 | 6 => 17179869193 | 7 => 4 | 8 => 4 | _ => 0
theorem fok122 : fnOkX Tryz.prog xmoves xcaps 122 Tryz.f122 ord122 := fnOkX_mk Tryz.func122 (by kernel_rfl)
def ord123 : Nat → RHint := fun _ => default
def live123 : Nat → Nat := fun n => match n with | 0 => 1 | 1 => 4 | _ => 0
theorem fok123 : fnOkX Tryz.prog xmoves xcaps 123 Tryz.f123 ord123 := fnOkX_mk Tryz.func123 (by kernel_rfl)
def ord124 : Nat → RHint := fun _ => default
def live124 : Nat → Nat := fun n => match n with | 0 => 6 | 1 => 38 | 2 => 16 | _ => 0
theorem fok124 : fnOkX Tryz.prog xmoves xcaps 124 Tryz.f124 ord124 := fnOkX_mk Tryz.func124 (by kernel_rfl)
def ord125 : Nat → RHint := fun n => match n with | 6 => ⟨[(0, false), (1, false), (2, false), (3, true), (4, false), (5, true), (6, false)], none, [1], [7]⟩ | _ => default
def live125 : Nat → Nat := fun n => match n with | 0 => 6 | 1 => 14 | 2 => 14 | 3 => 3596 | 4 => 7692 | 5 => 3628 | 6 => 3596 | 7 => 3596 | 8 => 4 | _ => 0
theorem fok125 : fnOkX Tryz.prog xmoves xcaps 125 Tryz.f125 ord125 := fnOkX_mk Tryz.func125 (by kernel_rfl)
def ord126 : Nat → RHint := fun _ => default
def live126 : Nat → Nat := fun n => match n with | 0 => 6 | 1 => 2048 | 2 => 16 | 3 => 16 | _ => 0
theorem fok126 : fnOkX Tryz.prog xmoves xcaps 126 Tryz.f126 ord126 := fnOkX_mk Tryz.func126 (by kernel_rfl)
def ord127 : Nat → RHint := fun _ => default
def live127 : Nat → Nat := fun n => match n with | 0 => 6 | 1 => 2048 | 2 => 16 | 3 => 16 | _ => 0
theorem fok127 : fnOkX Tryz.prog xmoves xcaps 127 Tryz.f127 ord127 := fnOkX_mk Tryz.func127 (by kernel_rfl)
def ord135 : Nat → RHint := fun _ => default
def live135 : Nat → Nat := fun n => match n with | 0 => 1 | 1 => 4 | _ => 0
theorem fok135 : fnOkX Tryz.prog xmoves xcaps 135 Tryz.f135 ord135 := fnOkX_mk Tryz.func135 (by kernel_rfl)
def ord136 : Nat → RHint := fun _ => default
def live136 : Nat → Nat := fun n => match n with | 0 => 2 | 1 => 10 | 2 => 904 | 3 => 1928 | 4 => 936 | 5 => 904 | 6 => 904 | 7 => 4 | _ => 0
theorem fok136 : fnOkX Tryz.prog xmoves xcaps 136 Tryz.f136 ord136 := fnOkX_mk Tryz.func136 (by kernel_rfl)
def ord137 : Nat → RHint := fun _ => default
def live137 : Nat → Nat := fun n => match n with | 0 => 2 | 1 => 10 | 2 => 904 | 3 => 1928 | 4 => 936 | 5 => 904 | 6 => 904 | 7 => 4 | _ => 0
theorem fok137 : fnOkX Tryz.prog xmoves xcaps 137 Tryz.f137 ord137 := fnOkX_mk Tryz.func137 (by kernel_rfl)
def ord138 : Nat → RHint := fun _ => default
def live138 : Nat → Nat := fun n => match n with | 0 => 2 | 1 => 4 | _ => 0
theorem fok138 : fnOkX Tryz.prog xmoves xcaps 138 Tryz.f138 ord138 := fnOkX_mk Tryz.func138 (by kernel_rfl)
def ord139 : Nat → RHint := fun n => match n with | 6 => ⟨[(0, false), (1, false), (2, false), (3, false), (4, true), (5, false)], none, [], [6, 7]⟩ | _ => default
def live139 : Nat → Nat := fun n => match n with | 0 => 6 | 1 => 32774 | 2 => 16 | 3 => 917510 | 4 => 1966086 | 5 => 917606 | 6 => 2148401158 | 7 => 16 | 8 => 917510 | 9 => 16 | _ => 0
theorem fok139 : fnOkX Tryz.prog xmoves xcaps 139 Tryz.f139 ord139 := fnOkX_mk Tryz.func139 (by kernel_rfl)
def ord140 : Nat → RHint := fun _ => default
def live140 : Nat → Nat := fun n => match n with | 0 => 2 | 1 => 4 | _ => 0
theorem fok140 : fnOkX Tryz.prog xmoves xcaps 140 Tryz.f140 ord140 := fnOkX_mk Tryz.func140 (by kernel_rfl)
def ord141 : Nat → RHint := fun _ => default
def live141 : Nat → Nat := fun n => match n with | 0 => 3 | 1 => 387 | 2 => 899 | 3 => 419 | 4 => 65955 | 5 => 16 | 6 => 387 | 7 => 16 | _ => 0
theorem fok141 : fnOkX Tryz.prog xmoves xcaps 141 Tryz.f141 ord141 := fnOkX_mk Tryz.func141 (by kernel_rfl)
def ord142 : Nat → RHint := fun n => match n with | 6 => ⟨[(0, false), (1, false), (2, false), (3, false), (6, false), (4, true), (5, false)], none, [], [7]⟩ | _ => default
def live142 : Nat → Nat := fun n => match n with | 0 => 14 | 1 => 65550 | 2 => 14 | 3 => 117440526 | 4 => 251658254 | 5 => 117440718 | 6 => 117440526 | 7 => 117440526 | _ => 0
theorem fok142 : fnOkX Tryz.prog xmoves xcaps 142 Tryz.f142 ord142 := fnOkX_mk Tryz.func142 (by kernel_rfl)
def ord143 : Nat → RHint := fun _ => default
def live143 : Nat → Nat := fun n => match n with | 0 => 1 | 1 => 9 | 2 => 456 | 3 => 968 | 4 => 488 | 5 => 16872 | 6 => 4 | 7 => 456 | 8 => 4 | _ => 0
theorem fok143 : fnOkX Tryz.prog xmoves xcaps 143 Tryz.f143 ord143 := fnOkX_mk Tryz.func143 (by kernel_rfl)
def ord144 : Nat → RHint := fun _ => default
def live144 : Nat → Nat := fun n => match n with | 0 => 3 | 1 => 35 | 2 => 99 | 3 => 2115 | 4 => 4096 | 5 => 16 | 6 => 16 | 7 => 8195 | 8 => 16 | 9 => 65539 | 10 => 16 | 11 => 524288 | 12 => 16 | 13 => 16 | _ => 0
theorem fok144 : fnOkX Tryz.prog xmoves xcaps 144 Tryz.f144 ord144 := fnOkX_mk Tryz.func144 (by kernel_rfl)
def ord145 : Nat → RHint := fun _ => default
def live145 : Nat → Nat := fun n => match n with | 0 => 3 | 1 => 35 | 2 => 99 | 3 => 2115 | 4 => 4096 | 5 => 16 | 6 => 16 | 7 => 8195 | 8 => 16 | 9 => 65539 | 10 => 16 | 11 => 524288 | 12 => 16 | 13 => 16 | _ => 0
theorem fok145 : fnOkX Tryz.prog xmoves xcaps 145 Tryz.f145 ord145 := fnOkX_mk Tryz.func145 (by kernel_rfl)
def ord146 : Nat → RHint := fun _ => default
def live146 : Nat → Nat := fun n => match n with | 0 => 1 | 1 => 4 | _ => 0
theorem fok146 : fnOkX Tryz.prog xmoves xcaps 146 Tryz.f146 ord146 := fnOkX_mk Tryz.func146 (by kernel_rfl)
def ord147 : Nat → RHint := fun _ => default
def live147 : Nat → Nat := fun n => match n with | 0 => 1 | 1 => 4 | _ => 0
theorem fok147 : fnOkX Tryz.prog xmoves xcaps 147 Tryz.f147 ord147 := fnOkX_mk Tryz.func147 (by kernel_rfl)
def ord148 : Nat → RHint := fun _ => default
def live148 : Nat → Nat := fun n => match n with | 0 => 2 | 1 => 4 | _ => 0
theorem fok148 : fnOkX Tryz.prog xmoves xcaps 148 Tryz.f148 ord148 := fnOkX_mk Tryz.func148 (by kernel_rfl)
def ord149 : Nat → RHint := fun _ => default
def live149 : Nat → Nat := fun n => match n with | 0 => 2 | 1 => 10 | 2 => 4 | 3 => 4096 | 4 => 4 | 5 => 4 | _ => 0
theorem fok149 : fnOkX Tryz.prog xmoves xcaps 149 Tryz.f149 ord149 := fnOkX_mk Tryz.func149 (by kernel_rfl)
def ord150 : Nat → RHint := fun _ => default
def live150 : Nat → Nat := fun n => match n with | 0 => 2 | 1 => 1026 | 2 => 4 | 3 => 10 | 4 => 32778 | 5 => 10 | 6 => 16777226 | 7 => 4 | 8 => 4 | _ => 0
theorem fok150 : fnOkX Tryz.prog xmoves xcaps 150 Tryz.f150 ord150 := fnOkX_mk Tryz.func150 (by kernel_rfl)
def ord167 : Nat → RHint := fun _ => default
def live167 : Nat → Nat := fun n => match n with | 0 => 2 | 1 => 1048578 | 2 => 4 | 3 => 4194306 | 4 => 12582914 | 5 => 12582914 | 6 => 4 | 7 => 1077936130 | 8 => 4 | 9 => 4503599631564802 | 10 => 4 | 11 => 288230376155906050 | 12 => 4 | 13 => 18446744073713745922 | 14 => 4 | 15 => 1208925819614629174706178 | 16 => 4 | 17 => 4 | _ => 0
theorem fok167 : fnOkX Tryz.prog xmoves xcaps 167 Tryz.f167 ord167 := fnOkX_mk Tryz.func167 (by kernel_rfl)
def ord168 : Nat → RHint := fun _ => default
def live168 : Nat → Nat := fun n => match n with | 0 => 2 | 1 => 4 | _ => 0
theorem fok168 : fnOkX Tryz.prog xmoves xcaps 168 Tryz.f168 ord168 := fnOkX_mk Tryz.func168 (by kernel_rfl)
def ord169 : Nat → RHint := fun _ => default
def live169 : Nat → Nat := fun n => match n with | 0 => 2 | 1 => 4 | _ => 0
theorem fok169 : fnOkX Tryz.prog xmoves xcaps 169 Tryz.f169 ord169 := fnOkX_mk Tryz.func169 (by kernel_rfl)
def ord170 : Nat → RHint := fun _ => default
def live170 : Nat → Nat := fun n => match n with | 0 => 51 | 1 => 65555 | 2 => 0 | _ => 0
theorem fok170 : fnOkX Tryz.prog xmoves xcaps 170 Tryz.f170 ord170 := fnOkX_mk Tryz.func170 (by kernel_rfl)
def ord171 : Nat → RHint := fun _ => default
def live171 : Nat → Nat := fun n => match n with | 0 => 1 | 1 => 4 | _ => 0
theorem fok171 : fnOkX Tryz.prog xmoves xcaps 171 Tryz.f171 ord171 := fnOkX_mk Tryz.func171 (by kernel_rfl)
def ord172 : Nat → RHint := fun _ => default
def live172 : Nat → Nat := fun n => match n with | 0 => 1 | 1 => 4 | _ => 0
theorem fok172 : fnOkX Tryz.prog xmoves xcaps 172 Tryz.f172 ord172 := fnOkX_mk Tryz.func172 (by kernel_rfl)
def ord173 : Nat → RHint := fun _ => default
def live173 : Nat → Nat := fun n => match n with | 0 => 1 | 1 => 4 | _ => 0
theorem fok173 : fnOkX Tryz.prog xmoves xcaps 173 Tryz.f173 ord173 := fnOkX_mk Tryz.func173 (by kernel_rfl)
def ord174 : Nat → RHint := fun n => match n with | 6 => ⟨[(0, false), (1, false), (2, false), (3, false), (4, false), (5, false), (6, false), (7, false), (10, false), (8, true), (9, false)], none, [], [11, 12]⟩ | _ => default
def live174 : Nat → Nat := fun n => match n with | 0 => 14 | 1 => 65550 | 2 => 14 | 3 => 142 | 4 => 134217870 | 5 => 142 | 6 => 142 | 7 => 64 | _ => 0
theorem fok174 : fnOkX Tryz.prog xmoves xcaps 174 Tryz.f174 ord174 := fnOkX_mk Tryz.func174 (by kernel_rfl)
def ord175 : Nat → RHint := fun _ => default
def live175 : Nat → Nat := fun n => match n with | 0 => 2 | 1 => 10 | 2 => 26 | 3 => 538 | 4 => 26 | 5 => 26 | 6 => 4 | _ => 0
theorem fok175 : fnOkX Tryz.prog xmoves xcaps 175 Tryz.f175 ord175 := fnOkX_mk Tryz.func175 (by kernel_rfl)
def ord176 : Nat → RHint := fun _ => default
def live176 : Nat → Nat := fun n => match n with | 0 => 2 | 1 => 10 | 2 => 26 | 3 => 538 | 4 => 26 | 5 => 26 | 6 => 4 | _ => 0
theorem fok176 : fnOkX Tryz.prog xmoves xcaps 176 Tryz.f176 ord176 := fnOkX_mk Tryz.func176 (by kernel_rfl)
def ord177 : Nat → RHint := fun _ => default
def live177 : Nat → Nat := fun n => match n with | 0 => 2 | 1 => 10 | 2 => 67108874 | 3 => 4 | 4 => 268435466 | 5 => 4 | 6 => 805306378 | 7 => 805306378 | 8 => 4 | 9 => 17448304650 | 10 => 4 | 11 => 281475245146122 | 12 => 4611686018427387914 | 13 => 4 | 14 => 26 | 15 => 36893488147419103258 | 16 => 26 | 17 => 18889465931478580854810 | 18 => 4 | 19 => 37778931862957430145034 | 20 => 302231454903657293676554 | 21 => 4 | 22 => 604462909807314855788554 | 23 => 4835703278458516698824714 | 24 => 4 | 25 => 9671406556917033397649418 | 26 => 19807040628566084398385987594 | 27 => 4 | 28 => 42 | 29 => 158456325028528675187087900714 | 30 => 42 | 31 => 81129638414606681695789005144106 | 32 => 4 | 33 => 4 | _ => 0
theorem fok177 : fnOkX Tryz.prog xmoves xcaps 177 Tryz.f177 ord177 := fnOkX_mk Tryz.func177 (by kernel_rfl)
def ord178 : Nat → RHint := fun _ => default
def live178 : Nat → Nat := fun n => match n with | 0 => 2 | 1 => 4 | _ => 0
theorem fok178 : fnOkX Tryz.prog xmoves xcaps 178 Tryz.f178 ord178 := fnOkX_mk Tryz.func178 (by kernel_rfl)
def ord190 : Nat → RHint := fun _ => default
def live190 : Nat → Nat := fun n => match n with | 0 => 3 | 1 => 67 | 2 => 451 | 3 => 33219 | 4 => 963 | 5 => 134218691 | 6 => 451 | 7 => 451 | 8 => 48 | _ => 0
theorem fok190 : fnOkX Tryz.prog xmoves xcaps 190 Tryz.f190 ord190 := fnOkX_mk Tryz.func190 (by kernel_rfl)
def ord191 : Nat → RHint := fun n => match n with | 11 => ⟨[(0, false), (1, false), (2, false), (3, false), (4, false), (5, false), (6, false), (7, false)], none, [], [8]⟩ | 15 => ⟨[(0, false), (1, false), (2, false), (3, false), (4, false), (5, false), (6, false), (7, false)], none, [], [8]⟩ | _ => default
def live191 : Nat → Nat := fun n => match n with | 0 => 7 | 1 => 7 | 2 => 135 | 3 => 65671 | 4 => 64 | 5 => 391 | 6 => 4194695 | 7 => 64 | 8 => 2147484039 | 9 => 647 | 10 => 643 | 11 => 512 | 12 => 64 | 13 => 391 | 14 => 295147905179352826247 | 15 => 7 | 16 => 1 | 17 => 64 | 18 => 131 | 19 => 1 | 20 => 64 | _ => 0
theorem fok191 : fnOkX Tryz.prog xmoves xcaps 191 Tryz.f191 ord191 := fnOkX_mk Tryz.func191 (by kernel_rfl)
def ord192 : Nat → RHint := fun n => match n with | 6 => ⟨[(0, false), (1, false), (2, false), (3, false), (5, false), (6, false), (8, false), (9, false), (10, false), (4, true), (7, true)], none, [], [2000000, 11, 12]⟩ | _ => default
def live192 : Nat → Nat := fun n => match n with | 0 => 3 | 1 => 35 | 2 => 131107 | 3 => 35 | 4 => 2147483683 | 5 => 16 | 6 => 16 | _ => 0
theorem fok192 : fnOkX Tryz.prog xmoves xcaps 192 Tryz.f192 ord192 := fnOkX_mk Tryz.func192 (by kernel_rfl)
def ord199 : Nat → RHint := fun _ => default
def live199 : Nat → Nat := fun n => match n with | 0 => 3 | 1 => 16 | _ => 0
theorem fok199 : fnOkX Tryz.prog xmoves xcaps 199 Tryz.f199 ord199 := fnOkX_mk Tryz.func199 (by kernel_rfl)
def ord200 : Nat → RHint := fun _ => default
def live200 : Nat → Nat := fun n => match n with | 0 => 1 | 1 => 4 | _ => 0
theorem fok200 : fnOkX Tryz.prog xmoves xcaps 200 Tryz.f200 ord200 := fnOkX_mk Tryz.func200 (by kernel_rfl)
def ord202 : Nat → RHint := fun _ => default
def live202 : Nat → Nat := fun n => match n with | 0 => 0 | _ => 0
theorem fok202 : fnOkX Tryz.prog xmoves xcaps 202 Tryz.f202 ord202 := fnOkX_mk Tryz.func202 (by kernel_rfl)
def ord204 : Nat → RHint := fun _ => default
def live204 : Nat → Nat := fun n => match n with | 0 => 3 | 1 => 1 | 2 => 0 | _ => 0
theorem fok204 : fnOkX Tryz.prog xmoves xcaps 204 Tryz.f204 ord204 := fnOkX_mk Tryz.func204 (by kernel_rfl)
def ord206 : Nat → RHint := fun n => match n with | 3 => ⟨[(0, false), (1, false), (2, false), (3, false), (4, false), (5, false), (6, false), (7, false), (8, false), (9, false), (10, false), (11, false), (12, false), (13, true), (14, false), (15, true)], none, [], []⟩ | _ => default
def live206 : Nat → Nat := fun n => match n with | 0 => 13 | 1 => 525 | 2 => 13 | 3 => 13 | _ => 0
theorem fok206 : fnOkX Tryz.prog xmoves xcaps 206 Tryz.f206 ord206 := fnOkX_mk Tryz.func206 (by kernel_rfl)
noncomputable def ftab : FTr := (.node (.node (.node (.node (.node (.node (.node .nil 3 Tryz.f3 ord3 live3 .nil) 9 Tryz.f9 ord9 live9 (.node .nil 10 Tryz.f10 ord10 live10 .nil)) 11 Tryz.f11 ord11 live11 (.node (.node .nil 12 Tryz.f12 ord12 live12 .nil) 13 Tryz.f13 ord13 live13 (.node .nil 14 Tryz.f14 ord14 live14 .nil))) 15 Tryz.f15 ord15 live15 (.node (.node (.node .nil 16 Tryz.f16 ord16 live16 .nil) 17 Tryz.f17 ord17 live17 (.node .nil 18 Tryz.f18 ord18 live18 .nil)) 19 Tryz.f19 ord19 live19 (.node (.node .nil 20 Tryz.f20 ord20 live20 .nil) 23 Tryz.f23 ord23 live23 .nil))) 24 Tryz.f24 ord24 live24 (.node (.node (.node (.node .nil 28 Tryz.f28 ord28 live28 .nil) 36 Tryz.f36 ord36 live36 (.node .nil 37 Tryz.f37 ord37 live37 .nil)) 39 Tryz.f39 ord39 live39 (.node (.node .nil 40 Tryz.f40 ord40 live40 .nil) 43 Tryz.f43 ord43 live43 .nil)) 44 Tryz.f44 ord44 live44 (.node (.node (.node .nil 45 Tryz.f45 ord45 live45 .nil) 46 Tryz.f46 ord46 live46 (.node .nil 47 Tryz.f47 ord47 live47 .nil)) 48 Tryz.f48 ord48 live48 (.node (.node .nil 49 Tryz.f49 ord49 live49 .nil) 50 Tryz.f50 ord50 live50 .nil)))) 51 Tryz.f51 ord51 live51 (.node (.node (.node (.node (.node .nil 52 Tryz.f52 ord52 live52 .nil) 53 Tryz.f53 ord53 live53 (.node .nil 54 Tryz.f54 ord54 live54 .nil)) 55 Tryz.f55 ord55 live55 (.node (.node .nil 56 Tryz.f56 ord56 live56 .nil) 57 Tryz.f57 ord57 live57 .nil)) 58 Tryz.f58 ord58 live58 (.node (.node (.node .nil 59 Tryz.f59 ord59 live59 .nil) 60 Tryz.f60 ord60 live60 (.node .nil 61 Tryz.f61 ord61 live61 .nil)) 64 Tryz.f64 ord64 live64 (.node (.node .nil 65 Tryz.f65 ord65 live65 .nil) 67 Tryz.f67 ord67 live67 .nil))) 69 Tryz.f69 ord69 live69 (.node (.node (.node (.node .nil 70 Tryz.f70 ord70 live70 .nil) 82 Tryz.f82 ord82 live82 (.node .nil 83 Tryz.f83 ord83 live83 .nil)) 84 Tryz.f84 ord84 live84 (.node (.node .nil 85 Tryz.f85 ord85 live85 .nil) 86 Tryz.f86 ord86 live86 .nil)) 87 Tryz.f87 ord87 live87 (.node (.node (.node .nil 88 Tryz.f88 ord88 live88 .nil) 89 Tryz.f89 ord89 live89 (.node .nil 90 Tryz.f90 ord90 live90 .nil)) 91 Tryz.f91 ord91 live91 (.node (.node .nil 92 Tryz.f92 ord92 live92 .nil) 93 Tryz.f93 ord93 live93 .nil))))) 94 Tryz.f94 ord94 live94 (.node (.node (.node (.node (.node (.node .nil 95 Tryz.f95 ord95 live95 .nil) 96 Tryz.f96 ord96 live96 (.node .nil 99 Tryz.f99 ord99 live99 .nil)) 111 Tryz.f111 ord111 live111 (.node (.node .nil 112 Tryz.f112 ord112 live112 .nil) 113 Tryz.f113 ord113 live113 (.node .nil 114 Tryz.f114 ord114 live114 .nil))) 115 Tryz.f115 ord115 live115 (.node (.node (.node .nil 116 Tryz.f116 ord116 live116 .nil) 117 Tryz.f117 ord117 live117 (.node .nil 118 Tryz.f118 ord118 live118 .nil)) 119 Tryz.f119 ord119 live119 (.node (.node .nil 120 Tryz.f120 ord120 live120 .nil) 121 Tryz.f121 ord121 live121 .nil))) 122 Tryz.f122 ord122 live122 (.node (.node (.node (.node .nil 123 Tryz.f123 ord123 live123 .nil) 124 Tryz.f124 ord124 live124 (.node .nil 125 Tryz.f125 ord125 live125 .nil)) 126 Tryz.f126 ord126 live126 (.node (.node .nil 127 Tryz.f127 ord127 live127 .nil) 135 Tryz.f135 ord135 live135 .nil)) 136 Tryz.f136 ord136 live136 (.node (.node (.node .nil 137 Tryz.f137 ord137 live137 .nil) 138 Tryz.f138 ord138 live138 (.node .nil 139 Tryz.f139 ord139 live139 .nil)) 140 Tryz.f140 ord140 live140 (.node (.node .nil 141 Tryz.f141 ord141 live141 .nil) 142 Tryz.f142 ord142 live142 .nil)))) 143 Tryz.f143 ord143 live143 (.node (.node (.node (.node (.node .nil 144 Tryz.f144 ord144 live144 .nil) 145 Tryz.f145 ord145 live145 (.node .nil 146 Tryz.f146 ord146 live146 .nil)) 147 Tryz.f147 ord147 live147 (.node (.node .nil 148 Tryz.f148 ord148 live148 .nil) 149 Tryz.f149 ord149 live149 .nil)) 150 Tryz.f150 ord150 live150 (.node (.node (.node .nil 167 Tryz.f167 ord167 live167 .nil) 168 Tryz.f168 ord168 live168 (.node .nil 169 Tryz.f169 ord169 live169 .nil)) 170 Tryz.f170 ord170 live170 (.node (.node .nil 171 Tryz.f171 ord171 live171 .nil) 172 Tryz.f172 ord172 live172 .nil))) 173 Tryz.f173 ord173 live173 (.node (.node (.node (.node .nil 174 Tryz.f174 ord174 live174 .nil) 175 Tryz.f175 ord175 live175 (.node .nil 176 Tryz.f176 ord176 live176 .nil)) 177 Tryz.f177 ord177 live177 (.node (.node .nil 178 Tryz.f178 ord178 live178 .nil) 190 Tryz.f190 ord190 live190 .nil)) 191 Tryz.f191 ord191 live191 (.node (.node (.node .nil 192 Tryz.f192 ord192 live192 .nil) 199 Tryz.f199 ord199 live199 (.node .nil 200 Tryz.f200 ord200 live200 .nil)) 202 Tryz.f202 ord202 live202 (.node (.node .nil 204 Tryz.f204 ord204 live204 .nil) 206 Tryz.f206 ord206 live206 .nil))))))
theorem ftab_ok : FOk Tryz.prog xmoves xcaps ftab.find := FTr.ok (FTr.all_node (FTr.all_node (FTr.all_node (FTr.all_node (FTr.all_node (FTr.all_node (FTr.all_node FTr.all_nil fok3 FTr.all_nil) fok9 (FTr.all_node FTr.all_nil fok10 FTr.all_nil)) fok11 (FTr.all_node (FTr.all_node FTr.all_nil fok12 FTr.all_nil) fok13 (FTr.all_node FTr.all_nil fok14 FTr.all_nil))) fok15 (FTr.all_node (FTr.all_node (FTr.all_node FTr.all_nil fok16 FTr.all_nil) fok17 (FTr.all_node FTr.all_nil fok18 FTr.all_nil)) fok19 (FTr.all_node (FTr.all_node FTr.all_nil fok20 FTr.all_nil) fok23 FTr.all_nil))) fok24 (FTr.all_node (FTr.all_node (FTr.all_node (FTr.all_node FTr.all_nil fok28 FTr.all_nil) fok36 (FTr.all_node FTr.all_nil fok37 FTr.all_nil)) fok39 (FTr.all_node (FTr.all_node FTr.all_nil fok40 FTr.all_nil) fok43 FTr.all_nil)) fok44 (FTr.all_node (FTr.all_node (FTr.all_node FTr.all_nil fok45 FTr.all_nil) fok46 (FTr.all_node FTr.all_nil fok47 FTr.all_nil)) fok48 (FTr.all_node (FTr.all_node FTr.all_nil fok49 FTr.all_nil) fok50 FTr.all_nil)))) fok51 (FTr.all_node (FTr.all_node (FTr.all_node (FTr.all_node (FTr.all_node FTr.all_nil fok52 FTr.all_nil) fok53 (FTr.all_node FTr.all_nil fok54 FTr.all_nil)) fok55 (FTr.all_node (FTr.all_node FTr.all_nil fok56 FTr.all_nil) fok57 FTr.all_nil)) fok58 (FTr.all_node (FTr.all_node (FTr.all_node FTr.all_nil fok59 FTr.all_nil) fok60 (FTr.all_node FTr.all_nil fok61 FTr.all_nil)) fok64 (FTr.all_node (FTr.all_node FTr.all_nil fok65 FTr.all_nil) fok67 FTr.all_nil))) fok69 (FTr.all_node (FTr.all_node (FTr.all_node (FTr.all_node FTr.all_nil fok70 FTr.all_nil) fok82 (FTr.all_node FTr.all_nil fok83 FTr.all_nil)) fok84 (FTr.all_node (FTr.all_node FTr.all_nil fok85 FTr.all_nil) fok86 FTr.all_nil)) fok87 (FTr.all_node (FTr.all_node (FTr.all_node FTr.all_nil fok88 FTr.all_nil) fok89 (FTr.all_node FTr.all_nil fok90 FTr.all_nil)) fok91 (FTr.all_node (FTr.all_node FTr.all_nil fok92 FTr.all_nil) fok93 FTr.all_nil))))) fok94 (FTr.all_node (FTr.all_node (FTr.all_node (FTr.all_node (FTr.all_node (FTr.all_node FTr.all_nil fok95 FTr.all_nil) fok96 (FTr.all_node FTr.all_nil fok99 FTr.all_nil)) fok111 (FTr.all_node (FTr.all_node FTr.all_nil fok112 FTr.all_nil) fok113 (FTr.all_node FTr.all_nil fok114 FTr.all_nil))) fok115 (FTr.all_node (FTr.all_node (FTr.all_node FTr.all_nil fok116 FTr.all_nil) fok117 (FTr.all_node FTr.all_nil fok118 FTr.all_nil)) fok119 (FTr.all_node (FTr.all_node FTr.all_nil fok120 FTr.all_nil) fok121 FTr.all_nil))) fok122 (FTr.all_node (FTr.all_node (FTr.all_node (FTr.all_node FTr.all_nil fok123 FTr.all_nil) fok124 (FTr.all_node FTr.all_nil fok125 FTr.all_nil)) fok126 (FTr.all_node (FTr.all_node FTr.all_nil fok127 FTr.all_nil) fok135 FTr.all_nil)) fok136 (FTr.all_node (FTr.all_node (FTr.all_node FTr.all_nil fok137 FTr.all_nil) fok138 (FTr.all_node FTr.all_nil fok139 FTr.all_nil)) fok140 (FTr.all_node (FTr.all_node FTr.all_nil fok141 FTr.all_nil) fok142 FTr.all_nil)))) fok143 (FTr.all_node (FTr.all_node (FTr.all_node (FTr.all_node (FTr.all_node FTr.all_nil fok144 FTr.all_nil) fok145 (FTr.all_node FTr.all_nil fok146 FTr.all_nil)) fok147 (FTr.all_node (FTr.all_node FTr.all_nil fok148 FTr.all_nil) fok149 FTr.all_nil)) fok150 (FTr.all_node (FTr.all_node (FTr.all_node FTr.all_nil fok167 FTr.all_nil) fok168 (FTr.all_node FTr.all_nil fok169 FTr.all_nil)) fok170 (FTr.all_node (FTr.all_node FTr.all_nil fok171 FTr.all_nil) fok172 FTr.all_nil))) fok173 (FTr.all_node (FTr.all_node (FTr.all_node (FTr.all_node FTr.all_nil fok174 FTr.all_nil) fok175 (FTr.all_node FTr.all_nil fok176 FTr.all_nil)) fok177 (FTr.all_node (FTr.all_node FTr.all_nil fok178 FTr.all_nil) fok190 FTr.all_nil)) fok191 (FTr.all_node (FTr.all_node (FTr.all_node FTr.all_nil fok192 FTr.all_nil) fok199 (FTr.all_node FTr.all_nil fok200 FTr.all_nil)) fok202 (FTr.all_node (FTr.all_node FTr.all_nil fok204 FTr.all_nil) fok206 FTr.all_nil))))))
end Go.Proofs.YtiihadmgkoamoaaGreatDoor

namespace Go.Tp
open Go.Proofs Go.Shelf Go.RowKit Go.Maps
/-! ### What they do -/
section
variable {P : Program} {ρ : Ren} {G : Globs}
theorem setN_ext {N : Name -> Option Nat} {next b : Nat} (hnx : ∀ o b, N (.out o) = some b -> o < next) : ∀ m c, N m = some c -> setN N (.out next) b m = some c := fun m c hm => by
 have hne : m ≠ .out next := by
  rintro rfl
  have := hnx next c hm
  omega
 simp [setN, hne, hm]
theorem outs_ext {N N' : Name -> Option Nat} (h : ∀ m c, N m = some c -> N' m = some c) : ∀ m c, outs N m = some c -> outs N' m = some c := fun m c hm => by
 cases m with
 | loc i => simp [outs] at hm
 | out o => exact h _ _ hm
/-! ### slices.Delete of all from i on -/
end
end Go.Tp

namespace Go.Proofs.YtiihadmgkoamoaaGreatDoor
open Go.Tp Go.Shelf
def encS (l : List (List UInt8)) : List Dat := l.map fun b => .flat (.string ⟨⟨b⟩⟩)
def resv : List (List UInt8) := [[65, 110, 121], [78, 101, 118, 101, 114], [116, 117, 112, 108, 101], [117, 110, 105, 111, 110], [101, 120, 105, 115, 116, 115]]
/-- Xa, Xb, Xc, Xd -/
def extraN : List (List UInt8) := [[88, 97], [88, 98], [88, 99], [88, 100]]
/-- Int, Bool, String, Nil -/
def leafN : List (List UInt8) := [[73, 110, 116], [66, 111, 111, 108], [83, 116, 114, 105, 110, 103], [78, 105, 108]]
def xglobs : Globs := fun g => match g with | 0 => some [.slice (encS extraN)] | 1 => some [.slice (encS leafN)] | 2 => some [.slice (encS resv)] | 4 => some [.slice (encS resv)] | _ => none
theorem envF : (env Prims.fast).Ok Tryz.prog := by rw [fast_std]; exact env_ok
def libX : XCalls := fun _ _ _ _ => none
theorem libX_ok : XOk Tryz.prog xglobs libX := by intro f args heap next r h; simp [libX] at h
noncomputable def X : XCalls := fcall (env Prims.fast) xglobs xmoves xcaps ftab.find libX 3000 60
theorem X_ok : XOk Tryz.prog xglobs X := fun f args heap next r h => fcall_sound 3000 envF ftab_ok (M := libX) libX_ok 60 f args heap next r h
theorem call_of (ls bs : List Nat) {g : FuncId} {x : XFn} (hx : ftab.find g = some x) {args : List AVal} {heap : Heap} {next : Nat} {r : XRes} (h : (qfun (inL ls) (inL bs) (env Prims.fast) xglobs xmoves xcaps x g args heap next).Ok Tryz.prog xglobs (fun y => y = r)) :
  ACalls Tryz.prog xglobs g args heap next (XQ r) := acalls_eq (qfun_ok envF ftab_ok hx (fun _ _ => h))
abbrev KD := ACode Tryz.prog xglobs
abbrev KC := ACalls Tryz.prog xglobs
theorem co (ls bs : List Nat) {g : FuncId} {x : XFn} {args : List AVal} {heap : Heap} {next : Nat} {r : XRes} (h : (qfun (inL ls) (inL bs) (env Prims.fast) xglobs xmoves xcaps x g args heap next).Ok Tryz.prog xglobs (fun y => y = r)) (hx : ftab.find g = some x := by kernel_rfl) : ACalls Tryz.prog xglobs g args heap next (XQ r) := call_of ls bs hx h
theorem run_of (ls bs : List Nat) {H : Hints} {n : Nat} {live : Nat -> Nat} {c : Code} (hc : chkAll H c = true) {f : FState} {T : Exit -> AState -> Prop}
  (h : (qcode (inL ls) (inL bs) (env Prims.fast) xglobs H n live c f (fun r => .fin r)).Ok Tryz.prog xglobs (fun r => T r.1 (r.2.toA n))) : ACode Tryz.prog xglobs c T (f.toA n) := qcode_run envF live hc h
theorem ok_boolN {α : Type} {T : α -> Prop} {q : Qy α} {c b : Bool} (hc : c = b) (e : q.bool? = some (!c)) (h : (q.ofB (!b)).Ok Tryz.prog xglobs T) : q.Ok Tryz.prog xglobs T := ok_bool (by rw [hc]) e h
abbrev Calls1 (g : FuncId) (args : List AVal) (v : AVal) : Prop := ACalls Tryz.prog xglobs g args [] 0 (XQ ⟨v, [], 0⟩)
def i64 (n : Int) : Dat := .flat (.int .i64 n)
def sb (b : List UInt8) : Dat := .flat (.string ⟨⟨b⟩⟩)
def nl : Dat := .flat (.slice none 0 0)
/-- A slice, nil where it is empty. -/
def sl : List Dat -> Dat
 | [] => nl
 | d :: r => .slice (d :: r)
inductive Ty where
 |mk (k : Int) (nm : List UInt8) (ix : Int) (args : List Ty)
mutual
def Ty.cells : Ty -> List Dat
 | .mk k nm ix args => [i64 k, sb nm, i64 ix, sl (encL args)]
def encL : List Ty -> List Dat
 | [] => []
 | t :: r => .agg t.cells :: encL r
end
def Ty.enc (t : Ty) : Dat := .agg t.cells
def Ty.args : Ty -> List Ty
 | .mk _ _ _ a => a
theorem encL_map : ∀ l : List Ty, encL l = l.map Ty.enc
 | [] => by simp [encL]
 | t :: r => by simp [encL, encL_map r, Ty.enc]
theorem encL_length (l : List Ty) : (encL l).length = l.length := by simp [encL_map]
theorem encL_get {l : List Ty} {i : Nat} {t : Ty} (h : l[i]? = some t) : (encL l)[i]? = some t.enc := by simp [encL_map, h]
mutual
def Ty.size : Ty -> Nat
 | .mk _ _ _ args => sizeL args + 1
def sizeL : List Ty -> Nat
 | [] => 0
 | t :: r => t.size + sizeL r
end
theorem sizeL_take {l : List Ty} {i : Nat} {t : Ty} (h : l[i]? = some t) : sizeL (l.take (i + 1)) = sizeL (l.take i) + t.size := by
 induction l generalizing i with
 | nil => simp at h
 | cons x r ih =>
  cases i with
  | zero => simp at h; subst h; simp [sizeL]
  | succ i =>
   simp at h
   simp only [List.take_succ_cons, sizeL]
   rw [ih h]; omega
theorem sizeL_le {l : List Ty} (i : Nat) : sizeL (l.take i) <= sizeL l := by
 induction l generalizing i with
 | nil => simp [sizeL]
 | cons x r ih =>
  cases i with
  | zero => simp [sizeL]
  | succ i => simp only [List.take_succ_cons, sizeL]; have := ih i; omega
theorem wrap_add {n m : Nat} (h : n + m < 9223372036854775808) : wrapF .i64 (Int.ofNat n + Int.ofNat m) = Int.ofNat (n + m) := by
 rw [wrapF_eq]
 exact wrap_i64 (by simp; omega) (by simp; omega)
noncomputable def tiT : TI := match Go.Tp.elemOf (env Prims.fast) 30 with | some t => t | none => default
theorem tiT_eq : Go.Tp.elemOf (env Prims.fast) 30 = some tiT := by kernel_rfl
theorem tiT_size : tiT.size = 4 := by kernel_rfl
theorem idxT {l : List Ty} {i : Nat} {t : Ty} (h : l[i]? = some t) : aIndexAddr (env Prims.fast) 30 [.dat (.slice (encL l)), .dat (.flat (.int .i64 (Int.ofNat i)))] = some ⟨.ref t.cells, .keep⟩ :=
 ans_idx tiT_eq rfl (encL_get h) (by rw [tiT_size]; cases t; rfl) (by rw [tiT_size]; decide)
theorem get_mem {l : List Ty} {i : Nat} (h : i < (encL l).length) : ∃ t, l[i]? = some t /\ t ∈ l := by
 rw [encL_length] at h
 exact ⟨l[i], List.getElem?_eq_getElem h, List.getElem_mem h⟩
/-! ### Size -/
noncomputable def hSize : Hints := ⟨xmoves, ord136, xcaps, rowsOf xcaps 136⟩
def stSize (l : List Ty) (i n : Int) : FState := ⟨[(9, iv i), (8, iv (Int.ofNat (encL l).length)), (7, .dat (.slice (encL l))), (3, iv n)], [], [], 0⟩
def stSizeX (l : List Ty) (n : Int) : FState := ⟨[(10, bv false), (9, iv (Int.ofNat (encL l).length)), (8, iv (Int.ofNat (encL l).length)), (7, .dat (.slice (encL l))), (3, iv n)], [], [], 0⟩
theorem size_sl {k : Int} {nm : List UInt8} {ix : Int} {l : List Ty} (ih : ∀ t ∈ l, Calls1 136 [.dat t.enc] (iv (Int.ofNat t.size))) (hb : sizeL l < 1000000000) :
  Calls1 136 [.dat (.agg [i64 k, sb nm, i64 ix, .slice (encL l)])] (iv (Int.ofNat (sizeL l + 1))) := by
 have hlen : l.length <= sizeL l := by
  clear ih hb
  induction l with
  | nil => simp [sizeL]
  | cons t r ih => cases t; simp only [List.length_cons, sizeL, Ty.size]; omega
 refine co [] [] (x := .of Tryz.f136 ord136 live136) ?_; refine ok_loop (n := Tryz.f136.ntmps) (c := roundOf Tryz.f136 0) (f := stSize l (Int.ofNat 0) (Int.ofNat (1 + sizeL (l.take 0)))) (L := fun e s => e = .exit 0 /\ s = (stSizeX l (Int.ofNat (1 + sizeL l))).toA Tryz.f136.ntmps) (by kernel_rfl) (by kernel_rfl) ?_ ?_
 ·refine loop_count (St := fun i => (stSize l (Int.ofNat i) (Int.ofNat (1 + sizeL (l.take i)))).toA Tryz.f136.ntmps) (encL l).length ?_ ?_ (i := 0) (Nat.zero_le _)
  ·intro i hi
   obtain ⟨t, ht, hm⟩ := get_mem hi
   have hs := sizeL_take ht
   have hle := sizeL_le (l := l) (i + 1)
   rw [encL_length] at hi
   have hi' : i < (encL l).length := by rw [encL_length]; exact hi
   have e : seqQ (fun s => s = (stSize l (Int.ofNat (i + 1)) (Int.ofNat (1 + sizeL (l.take (i + 1))))).toA Tryz.f136.ntmps) (fun e s => e = .exit 0 /\ s = (stSizeX l (Int.ofNat (1 + sizeL l))).toA Tryz.f136.ntmps) .normal
     ((stSize l (wrapF .i64 (Int.ofNat i + 1)) (wrapF .i64 (Int.ofNat (1 + sizeL (l.take i)) + Int.ofNat t.size))).toA Tryz.f136.ntmps) := by
    rw [wrap_of (by omega), wrap_add (by omega), hs]
    show _ = _
    rw [Nat.add_assoc]
   have hc := ih t hm
   clear hs hle ih hb hlen
   obtain ⟨k2, nm2, ix2, a2⟩ := t
   rcases a2 with _ | ⟨b, c⟩ <;>
   ·refine run_of [10] [11] (H := hSize) (live := live136) (by kernel_rfl) ?_; refine ok_bool (b := true) (ltF_yes hi') (by kernel_rfl) ?_; refine oo (idxT ht) ?_; refine on hc ?_
    exact ok_end (ex := .normal) (stSize l (wrapF .i64 (Int.ofNat i + 1)) (wrapF .i64 (Int.ofNat (1 + sizeL (l.take i)) + Int.ofNat (Ty.size _)))) (by kernel_rfl) (by kernel_rfl) e
  refine run_of [10] [11] (H := hSize) (live := live136) (by kernel_rfl) ?_; refine ok_bool (b := false) (ltF_no (i := (encL l).length) (L := (encL l).length) (by omega)) (by kernel_rfl) ?_
  refine ok_end (ex := .exit 0) (stSizeX l (Int.ofNat (1 + sizeL (l.take (encL l).length)))) (by kernel_rfl) (by kernel_rfl) ⟨rfl, ?_⟩
  rw [encL_length, List.take_length]
 rintro e s ⟨rfl, rfl⟩
 refine ⟨_, rfl, ok_fin (a := ⟨iv (Int.ofNat (1 + sizeL l)), [], 0⟩) (by kernel_rfl) ?_⟩
 rw [Nat.add_comm]
theorem size_nil {k : Int} {nm : List UInt8} {ix : Int} : Calls1 136 [.dat (.agg [i64 k, sb nm, i64 ix, nl])] (iv (Int.ofNat 1)) := X_ok _ _ _ _ _ (by kernel_rfl)
mutual
theorem c_size : ∀ t : Ty, t.size < 1000000000 -> Calls1 136 [.dat t.enc] (iv (Int.ofNat t.size))
 | .mk k nm ix [], _ => size_nil
 | .mk k nm ix (t :: r), h => by
  have h2 : sizeL (t :: r) < 1000000000 := by simp only [Ty.size] at h; omega
  have := size_sl (k := k) (nm := nm) (ix := ix) (l := t :: r) (c_sizeL (t :: r) h2) h2
  exact this
theorem c_sizeL : ∀ l : List Ty, sizeL l < 1000000000 -> ∀ t ∈ l, Calls1 136 [.dat t.enc] (iv (Int.ofNat t.size))
 | [], _, t, ht => by simp at ht
 | u :: r, h, t, ht => by
  simp only [sizeL] at h
  rcases List.mem_cons.1 ht with h1 | ht
  ·rw [h1]; exact c_size u (by omega)
  exact c_sizeL r (by omega) t ht
end
/-! ### Depth -/
mutual
def Ty.depth : Ty -> Nat
 | .mk _ _ _ args => depthL args + 1
def depthL : List Ty -> Nat
 | [] => 0
 | t :: r => max t.depth (depthL r)
end
theorem depthL_take {l : List Ty} {i : Nat} {t : Ty} (h : l[i]? = some t) : depthL (l.take (i + 1)) = max (depthL (l.take i)) t.depth := by
 induction l generalizing i with
 | nil => simp at h
 | cons x r ih =>
  cases i with
  | zero => simp at h; subst h; simp [depthL]
  | succ i =>
   simp at h
   simp only [List.take_succ_cons, depthL]
   rw [ih h, Nat.max_assoc]
mutual
theorem depth_size : ∀ t : Ty, t.depth <= t.size
 | .mk _ _ _ args => by simp only [Ty.depth, Ty.size]; have := depth_sizeL args; omega
theorem depth_sizeL : ∀ l : List Ty, depthL l <= sizeL l
 | [] => by simp [depthL, sizeL]
 | t :: r => by simp only [depthL, sizeL]; have := depth_size t; have := depth_sizeL r; omega
end
theorem mx_of {n m : Nat} : Prims.fast.mx (Int.ofNat n) (Int.ofNat m) = Int.ofNat (max n m) := by
 show (match ltF (Int.ofNat n) (Int.ofNat m) with | true => Int.ofNat m | false => Int.ofNat n) = _
 rw [ltF_of]
 by_cases h : n < m
 ·rw [decide_eq_true h]; simp; omega
 rw [decide_eq_false h]; simp; omega
theorem len_size (l : List Ty) : l.length <= sizeL l := by
 induction l with
 | nil => simp [sizeL]
 | cons t r ih => cases t; simp only [List.length_cons, sizeL, Ty.size]; omega
noncomputable def hDepth : Hints := ⟨xmoves, ord137, xcaps, rowsOf xcaps 137⟩
theorem depth_sl {k : Int} {nm : List UInt8} {ix : Int} {l : List Ty} (ih : ∀ t ∈ l, Calls1 137 [.dat t.enc] (iv (Int.ofNat t.depth))) (hb : sizeL l < 1000000000) :
  Calls1 137 [.dat (.agg [i64 k, sb nm, i64 ix, .slice (encL l)])] (iv (Int.ofNat (depthL l + 1))) := by
 have hlen := len_size l
 have hdl := depth_sizeL l
 rw [← wrap_of (by omega)]
 refine co [] [] (x := .of Tryz.f137 ord137 live137) ?_; refine ok_loop (n := Tryz.f137.ntmps) (c := roundOf Tryz.f137 0) (f := stSize l (Int.ofNat 0) (Int.ofNat (depthL (l.take 0)))) (L := fun e s => e = .exit 0 /\ s = (stSizeX l (Int.ofNat (depthL l))).toA Tryz.f137.ntmps) (by kernel_rfl) (by kernel_rfl) ?_ ?_
 ·refine loop_count (St := fun i => (stSize l (Int.ofNat i) (Int.ofNat (depthL (l.take i)))).toA Tryz.f137.ntmps) (encL l).length ?_ ?_ (i := 0) (Nat.zero_le _)
  ·intro i hi
   obtain ⟨t, ht, hm⟩ := get_mem hi
   have e : seqQ (fun s => s = (stSize l (Int.ofNat (i + 1)) (Int.ofNat (depthL (l.take (i + 1))))).toA Tryz.f137.ntmps) (fun e s => e = .exit 0 /\ s = (stSizeX l (Int.ofNat (depthL l))).toA Tryz.f137.ntmps) .normal
     ((stSize l (wrapF .i64 (Int.ofNat i + 1)) (Prims.fast.mx (Int.ofNat (depthL (l.take i))) (Int.ofNat t.depth))).toA Tryz.f137.ntmps) := by
    rw [encL_length] at hi
    rw [wrap_of (by omega), mx_of, depthL_take ht]
    rfl
   have hc := ih t hm
   clear ih hb hlen hdl
   obtain ⟨k2, nm2, ix2, a2⟩ := t
   rcases a2 with _ | ⟨b, c⟩ <;>
   ·refine run_of [10] [11] (H := hDepth) (live := live137) (by kernel_rfl) ?_; refine ok_bool (b := true) (ltF_yes hi) (by kernel_rfl) ?_; refine oo (idxT ht) ?_; refine on hc ?_
    exact ok_end (ex := .normal) (stSize l (wrapF .i64 (Int.ofNat i + 1)) (Prims.fast.mx (Int.ofNat (depthL (l.take i))) (Int.ofNat (Ty.depth _)))) (by kernel_rfl) (by kernel_rfl) e
  refine run_of [10] [11] (H := hDepth) (live := live137) (by kernel_rfl) ?_; refine ok_bool (b := false) (ltF_no (i := (encL l).length) (L := (encL l).length) (by omega)) (by kernel_rfl) ?_
  refine ok_end (ex := .exit 0) (stSizeX l (Int.ofNat (depthL (l.take (encL l).length)))) (by kernel_rfl) (by kernel_rfl) ⟨rfl, ?_⟩
  rw [encL_length, List.take_length]
 rintro e s ⟨rfl, rfl⟩
 exact ⟨_, rfl, ok_fin (by kernel_rfl) rfl⟩
theorem depth_nil {k : Int} {nm : List UInt8} {ix : Int} : Calls1 137 [.dat (.agg [i64 k, sb nm, i64 ix, nl])] (iv (Int.ofNat 1)) := X_ok _ _ _ _ _ (by kernel_rfl)
mutual
theorem c_depth : ∀ t : Ty, t.size < 1000000000 -> Calls1 137 [.dat t.enc] (iv (Int.ofNat t.depth))
 | .mk k nm ix [], _ => depth_nil
 | .mk k nm ix (t :: r), h => by
  have h2 : sizeL (t :: r) < 1000000000 := by simp only [Ty.size] at h; omega
  have := depth_sl (k := k) (nm := nm) (ix := ix) (l := t :: r) (c_depthL (t :: r) h2) h2
  exact this
theorem c_depthL : ∀ l : List Ty, sizeL l < 1000000000 -> ∀ t ∈ l, Calls1 137 [.dat t.enc] (iv (Int.ofNat t.depth))
 | [], _, t, ht => by simp at ht
 | u :: r, h, t, ht => by
  simp only [sizeL] at h
  rcases List.mem_cons.1 ht with h1 | ht
  ·rw [h1]; exact c_depth u (by omega)
  exact c_depthL r (by omega) t ht
end
/-! ### Closed terms -/
def bindN (k : Int) (i : Nat) : Nat := if eqF k 6 = true /\ i = 1 then 1 else 0
mutual
def Ty.closed : Ty -> Nat -> Bool
 | .mk k _ ix args, u => !(eqF k 5 && !ltF ix (Int.ofNat u)) && closedL k 0 args u
def closedL (k : Int) : Nat -> List Ty -> Nat -> Bool
 | _, [], _ => true
 | i, t :: r, u => t.closed (u + bindN k i) && closedL k (i + 1) r u
end
theorem c_binders (k : Int) (nm : List UInt8) (ix : Int) (a : Dat) (ha : a = nl ∨ ∃ es, a = .slice es) (i : Nat) : Calls1 126 [.dat (.agg [i64 k, sb nm, i64 ix, a]), iv (Int.ofNat i)] (iv (Int.ofNat (bindN k i))) := by
 rcases ha with rfl | ⟨es, rfl⟩ <;>
 ·refine co [7, 10] [] (x := .of Tryz.f126 ord126 live126) ?_
  refine ok_cases (c := eqF k 6) (by kernel_rfl) (fun h6 => ?_) (fun h6 => ?_)
  ·refine ok_cases (c := eqF (Int.ofNat i) (Int.ofNat 1)) (by kernel_rfl) (fun h1 => ?_) (fun h1 => ?_)
   ·rw [eqF_of, decide_eq_true_eq] at h1
    have : bindN k i = 1 := by unfold bindN; rw [if_pos ⟨h6, h1⟩]
    rw [this]
    exact fi
   rw [eqF_of, decide_eq_false_iff_not] at h1
   have : bindN k i = 0 := by unfold bindN; rw [if_neg (fun h => h1 h.2)]
   rw [this]
   exact fi
  have : bindN k i = 0 := by unfold bindN; rw [if_neg (fun h => by rw [h6] at h; simp at h)]
  rw [this]
  exact fi
noncomputable def hClosed : Hints := ⟨xmoves, ord139, xcaps, rowsOf xcaps 139⟩
def loCl (k : Int) (nm : List UInt8) (ix : Int) (l : List Ty) : Heap := [(.loc 2, .cells [iv k, .dat (sb nm), iv ix, .dat (.slice (encL l))])]
def stCl (k : Int) (nm : List UInt8) (ix : Int) (l : List Ty) (u : Nat) (i : Int) : FState := ⟨[(19, iv i), (18, iv (Int.ofNat (encL l).length)), (17, .dat (.slice (encL l))), (2, .ptr (.loc 2) 0), (1, iv (Int.ofNat u))], loCl k nm ix l, [], 0⟩
def stClX (k : Int) (nm : List UInt8) (ix : Int) (l : List Ty) (u : Nat) : FState := ⟨[(20, bv false), (19, iv (Int.ofNat (encL l).length)), (18, iv (Int.ofNat (encL l).length)), (17, .dat (.slice (encL l))), (2, .ptr (.loc 2) 0), (1, iv (Int.ofNat u))], loCl k nm ix l, [], 0⟩
def stClR : FState := ⟨[(4, bv false)], [], [], 0⟩
theorem drop_get {l : List Ty} {i : Nat} {t : Ty} (h : l[i]? = some t) : l.drop i = t :: l.drop (i + 1) := by
 obtain ⟨hi, rfl⟩ := List.getElem?_eq_some_iff.1 h
 exact List.drop_eq_getElem_cons hi
theorem closed_loop {k : Int} {nm : List UInt8} {ix : Int} {l : List Ty} {u : Nat} (ih : ∀ t ∈ l, ∀ v, v <= u + 1 -> Calls1 139 [.dat t.enc, iv (Int.ofNat v)] (bv (t.closed v))) (hb : sizeL l < 1000000000) (hu : u < 2000000000) :
  KD (.loop (roundOf Tryz.f139 0)) (fun e s => (e = .exit 0 /\ closedL k 0 l u = true /\ s = (stClX k nm ix l u).toA Tryz.f139.ntmps) ∨ (e = .ret /\ closedL k 0 l u = false /\ s = stClR.toA Tryz.f139.ntmps)) ((stCl k nm ix l u (Int.ofNat 0)).toA Tryz.f139.ntmps) := by
 have hlen := len_size l
 refine loop_inv (St := fun i => (stCl k nm ix l u (Int.ofNat i)).toA Tryz.f139.ntmps) (fun i => closedL k 0 l u = closedL k i (l.drop i) u) (encL l).length ?_ ?_ (i := 0) (Nat.zero_le _) rfl
 ·intro i hi hI
  obtain ⟨t, ht, hm⟩ := get_mem hi
  have hcl : closedL k i (l.drop i) u = (t.closed (u + bindN k i) && closedL k (i + 1) (l.drop (i + 1)) u) := by rw [drop_get ht]; rfl
  have hbn : bindN k i <= 1 := by unfold bindN; split <;> omega
  have hc : Calls1 139 [.dat t.enc, iv (wrapF .i64 (Int.ofNat u + Int.ofNat (bindN k i)))] (bv (t.closed (u + bindN k i))) := by
   rw [wrap_add (by omega)]; exact ih t hm _ (by omega)
  have hw : wrapF .i64 (Int.ofNat i + 1) = Int.ofNat (i + 1) := wrap_of (by rw [encL_length] at hi; omega)
  have hbi := c_binders k nm ix (.slice (encL l)) (.inr ⟨_, rfl⟩) i
  generalize ht2 : t.closed (u + bindN k i) = tc at hc hcl
  clear ih hb hlen hu hbn ht2
  obtain ⟨k2, nm2, ix2, a2⟩ := t
  rcases a2 with _ | ⟨b, c⟩ <;> cases tc <;>
  ·refine run_of [20] [22] (H := hClosed) (live := live139) (by kernel_rfl) ?_; refine ok_bool (b := true) (ltF_yes hi) (by kernel_rfl) ?_; refine oo (idxT ht) ?_; refine on hbi ?_; refine on hc ?_
   first
    |exact ok_end (ex := .normal) (stCl k nm ix l u (wrapF .i64 (Int.ofNat i + 1))) (by kernel_rfl) (by kernel_rfl) ⟨by rw [hw], by rw [hI, hcl]; rfl⟩
    |exact ok_end (ex := .ret) stClR (by kernel_rfl) (by kernel_rfl) (.inr ⟨rfl, by rw [hI, hcl]; rfl, rfl⟩)
 intro hI
 have h1 : closedL k 0 l u = true := by
  rw [hI, encL_length, List.drop_length]; rfl
 refine run_of [20] [22] (H := hClosed) (live := live139) (by kernel_rfl) ?_; refine ok_bool (b := false) (ltF_no (i := (encL l).length) (L := (encL l).length) (by omega)) (by kernel_rfl) ?_
 exact ok_end (ex := .exit 0) (stClX k nm ix l u) (by kernel_rfl) (by kernel_rfl) (.inl ⟨rfl, h1, rfl⟩)
theorem ty_closed (k : Int) (nm : List UInt8) (ix : Int) (l : List Ty) (u : Nat) : (Ty.mk k nm ix l).closed u = (!(eqF k 5 && !ltF ix (Int.ofNat u)) && closedL k 0 l u) := by rw [Ty.closed]
theorem closed_sl {k : Int} {nm : List UInt8} {ix : Int} {l : List Ty} {u : Nat} (ih : ∀ t ∈ l, ∀ v, v <= u + 1 -> Calls1 139 [.dat t.enc, iv (Int.ofNat v)] (bv (t.closed v))) (hb : sizeL l < 1000000000) (hu : u < 2000000000) :
  Calls1 139 [.dat (.agg [i64 k, sb nm, i64 ix, .slice (encL l)]), iv (Int.ofNat u)] (bv ((Ty.mk k nm ix l).closed u)) := by
 have hl := closed_loop (k := k) (nm := nm) (ix := ix) ih hb hu
 rw [ty_closed]
 clear ih hb hu
 have key : ∀ c5 : Bool, c5 = eqF k 5 -> ∀ cu : Bool, cu = !ltF ix (Int.ofNat u) -> Calls1 139 [.dat (.agg [i64 k, sb nm, i64 ix, .slice (encL l)]), iv (Int.ofNat u)] (bv (!(c5 && cu) && closedL k 0 l u)) := by
  intro c5 h5 cu hcu
  refine co [9, 14] [] (x := .of Tryz.f139 ord139 live139) ?_; refine ok_bool (b := c5) h5.symm (by kernel_rfl) ?_
  have go : ∀ {q : Qy XRes} (hs : q.loopF.toA Tryz.f139.ntmps = (stCl k nm ix l u (Int.ofNat 0)).toA Tryz.f139.ntmps) (e : q.loop? = some (Tryz.f139.ntmps, roundOf Tryz.f139 0))
    (e1 : (q.ofL (.exit 0, stClX k nm ix l u)).fin? = some ⟨bv true, [], 0⟩) (e2 : (q.ofL (.ret, stClR)).fin? = some ⟨bv false, [], 0⟩), q.Ok Tryz.prog xglobs (fun y => y = ⟨bv (closedL k 0 l u), [], 0⟩) := by
   intro q hs e e1 e2
   refine ok_loop (n := Tryz.f139.ntmps) e hs hl ?_
   rintro ex s (⟨rfl, hc, rfl⟩ | ⟨rfl, hc, rfl⟩)
   ·rw [hc]; exact ⟨_, rfl, ok_fin e1 rfl⟩
   rw [hc]; exact ⟨_, rfl, ok_fin e2 rfl⟩
  cases c5 with
  | false => exact go (by kernel_rfl) (by kernel_rfl) (by kernel_rfl) (by kernel_rfl)
  | true =>
   refine ok_bool (b := cu) hcu.symm (by kernel_rfl) ?_
   cases cu
   ·exact go (by kernel_rfl) (by kernel_rfl) (by kernel_rfl) (by kernel_rfl)
   exact fi
 exact key _ rfl _ rfl
def stClN (k : Int) (nm : List UInt8) (ix : Int) (u : Nat) : FState := ⟨[(19, iv 0), (18, iv 0), (17, .dat nl), (2, .ptr (.loc 2) 0), (1, iv (Int.ofNat u))], [(.loc 2, .cells [iv k, .dat (sb nm), iv ix, .dat nl])], [], 0⟩
def stClNX (k : Int) (nm : List UInt8) (ix : Int) (u : Nat) : FState := ⟨[(20, bv false), (19, iv 0), (18, iv 0), (17, .dat nl), (2, .ptr (.loc 2) 0), (1, iv (Int.ofNat u))], [(.loc 2, .cells [iv k, .dat (sb nm), iv ix, .dat nl])], [], 0⟩
theorem closed_nrun (k : Int) (nm : List UInt8) (ix : Int) (u : Nat) : fcode X (env Prims.fast) xglobs hClosed Tryz.f139.ntmps live139 3000 (.loop (roundOf Tryz.f139 0)) (stClN k nm ix u) = some (.exit 0, stClNX k nm ix u) := by kernel_rfl
theorem closed_nil (k : Int) (nm : List UInt8) (ix : Int) (u : Nat) : Calls1 139 [.dat (.agg [i64 k, sb nm, i64 ix, nl]), iv (Int.ofNat u)] (bv ((Ty.mk k nm ix []).closed u)) := by
 rw [ty_closed]
 have key : ∀ c5 : Bool, c5 = eqF k 5 -> ∀ cu : Bool, cu = !ltF ix (Int.ofNat u) -> Calls1 139 [.dat (.agg [i64 k, sb nm, i64 ix, nl]), iv (Int.ofNat u)] (bv (!(c5 && cu) && closedL k 0 [] u)) := by
  intro c5 h5 cu hcu
  refine co [9, 14] [] (x := .of Tryz.f139 ord139 live139) ?_; refine ok_bool (b := c5) h5.symm (by kernel_rfl) ?_
  have go : ∀ {q : Qy XRes} (hs : q.loopF.toA Tryz.f139.ntmps = (stClN k nm ix u).toA Tryz.f139.ntmps) (e : q.loop? = some (Tryz.f139.ntmps, roundOf Tryz.f139 0))
    (e1 : (q.ofL (.exit 0, stClNX k nm ix u)).fin? = some ⟨bv true, [], 0⟩), q.Ok Tryz.prog xglobs (fun y => y = ⟨bv true, [], 0⟩) := by
   intro q hs e e1
   refine ok_loop (n := Tryz.f139.ntmps) e hs (code_run envF X_ok 3000 (by kernel_rfl) (closed_nrun k nm ix u)) ?_; rintro ex s ⟨rfl, rfl⟩
   exact ⟨_, rfl, ok_fin e1 rfl⟩
  cases c5 with
  | false => exact go (by kernel_rfl) (by kernel_rfl) (by kernel_rfl)
  | true =>
   refine ok_bool (b := cu) hcu.symm (by kernel_rfl) ?_
   cases cu
   ·exact go (by kernel_rfl) (by kernel_rfl) (by kernel_rfl)
   exact fi
 exact key _ rfl _ rfl
mutual
theorem c_closed : ∀ (t : Ty) (u : Nat), t.size < 1000000000 -> u + t.depth < 2000000000 -> Calls1 139 [.dat t.enc, iv (Int.ofNat u)] (bv (t.closed u))
 | .mk k nm ix [], u, _, _ => closed_nil k nm ix u
 | .mk k nm ix (t :: r), u, h, hu => by
  have h2 : sizeL (t :: r) < 1000000000 := by simp only [Ty.size] at h; omega
  have h3 : u + 1 + depthL (t :: r) < 2000000000 := by simp only [Ty.depth] at hu; omega
  exact closed_sl (l := t :: r) (fun x hx v hv => c_closedL (t :: r) v h2 (by omega) x hx) h2 (by omega)
theorem c_closedL : ∀ (l : List Ty) (u : Nat), sizeL l < 1000000000 -> u + depthL l < 2000000000 -> ∀ t ∈ l, Calls1 139 [.dat t.enc, iv (Int.ofNat u)] (bv (t.closed u))
 | [], _, _, _, t, ht => by simp at ht
 | x :: r, u, h, hu, t, ht => by
  simp only [sizeL] at h
  simp only [depthL] at hu
  rcases List.mem_cons.1 ht with h1 | ht
  ·rw [h1]; exact c_closed x u (by omega) (by omega)
  exact c_closedL r u (by omega) (by omega) t ht
end
theorem call_ofQ (ls bs : List Nat) {g : FuncId} {x : XFn} (hx : ftab.find g = some x) {args : List AVal} {heap : Heap} {next : Nat} {T : XRes -> Prop} (h : (qfun (inL ls) (inL bs) (env Prims.fast) xglobs xmoves xcaps x g args heap next).Ok Tryz.prog xglobs T) :
  KC g args heap next (fun v h m => T ⟨v, h, m⟩) := qfun_ok envF ftab_ok hx (fun _ _ => h)
/-- The values below which a search stops. -/
def FoundQ (b : Bool) (v : AVal) : Prop := ∃ j : Int, v = iv j /\ ltF j (Int.ofNat 0) = !b
theorem any_drop {l : List Ty} {p : Ty -> Bool} {i : Nat} {t : Ty} (h : l[i]? = some t) : (l.drop i).any p = (p t || (l.drop (i + 1)).any p) := by rw [drop_get h]; rfl
noncomputable def hIndexT : Hints := ⟨xmoves, ord99, xcaps, rowsOf xcaps 99⟩
/-! ### plainArgsF -/
def fnplainArgsF : AVal := .fn (.func 169) [] []
def stIplainArgsF (l : List Ty) (i : Int) : FState := ⟨[(8, iv i), (7, iv (Int.ofNat (encL l).length)), (0, .dat (.slice (encL l))), (1, fnplainArgsF)], [], [], 0⟩
def stIXplainArgsF (l : List Ty) : FState := ⟨[(9, bv false), (8, iv (Int.ofNat (encL l).length)), (7, iv (Int.ofNat (encL l).length)), (0, .dat (.slice (encL l))), (1, fnplainArgsF)], [], [], 0⟩
def stIRplainArgsF (i : Nat) : FState := ⟨[(4, iv (Int.ofNat i))], [], [], 0⟩
theorem indexplainArgsF {l : List Ty} {p : Ty -> Bool} (hp : ∀ t ∈ l, Calls1 169 [.dat t.enc] (bv (p t))) (hb : l.length < 1000000000) :
  KC 99 [.dat (.slice (encL l)), fnplainArgsF] [] 0 (fun v h m => FoundQ (l.any p) v /\ h = [] /\ m = 0) := by
 have hl : KD (.loop (roundOf Tryz.f99 0)) (fun e s => (e = .exit 0 /\ l.any p = false /\ s = (stIXplainArgsF l).toA Tryz.f99.ntmps) ∨ (e = .ret /\ l.any p = true /\ ∃ i : Nat, s = (stIRplainArgsF i).toA Tryz.f99.ntmps)) ((stIplainArgsF l (Int.ofNat 0)).toA Tryz.f99.ntmps) := by
  refine loop_inv (St := fun i => (stIplainArgsF l (Int.ofNat i)).toA Tryz.f99.ntmps) (fun i => l.any p = (l.drop i).any p) (encL l).length ?_ ?_ (i := 0) (Nat.zero_le _) rfl
  ·intro i hi hI
   obtain ⟨t, ht, hm⟩ := get_mem hi
   have ha := any_drop (p := p) ht
   have hw : wrapF .i64 (Int.ofNat i + 1) = Int.ofNat (i + 1) := wrap_of (by rw [encL_length] at hi; omega)
   have hc := hp t hm
   generalize ht2 : p t = tc at hc ha
   clear hp hb ht2
   obtain ⟨k2, nm2, ix2, a2⟩ := t
   rcases a2 with _ | ⟨b, c⟩ <;> cases tc <;>
   ·refine run_of [9] [14] (H := hIndexT) (live := live99) (by kernel_rfl) ?_; refine ok_bool (b := true) (ltF_yes hi) (by kernel_rfl) ?_; refine oo (idxT ht) ?_; refine on hc ?_
    first
     |exact ok_end (ex := .normal) (stIplainArgsF l (wrapF .i64 (Int.ofNat i + 1))) (by kernel_rfl) (by kernel_rfl) ⟨by rw [hw], by rw [hI, ha]; rfl⟩
     |exact ok_end (ex := .ret) (stIRplainArgsF i) (by kernel_rfl) (by kernel_rfl) (.inr ⟨rfl, by rw [hI, ha]; rfl, i, rfl⟩)
  intro hI
  have h1 : l.any p = false := by rw [hI, encL_length, List.drop_length]; rfl
  refine run_of [9] [14] (H := hIndexT) (live := live99) (by kernel_rfl) ?_; refine ok_bool (b := false) (ltF_no (i := (encL l).length) (L := (encL l).length) (by omega)) (by kernel_rfl) ?_
  exact ok_end (ex := .exit 0) (stIXplainArgsF l) (by kernel_rfl) (by kernel_rfl) (.inl ⟨rfl, h1, rfl⟩)
 clear hp hb
 refine call_ofQ [] [] (x := XFn.of Tryz.f99 ord99 live99) (T := fun r => FoundQ (l.any p) r.val /\ r.heap = [] /\ r.next = 0) (by kernel_rfl) ?_
 refine ok_loop (n := Tryz.f99.ntmps) (c := roundOf Tryz.f99 0) (f := stIplainArgsF l (Int.ofNat 0)) (by kernel_rfl) (by kernel_rfl) hl ?_
 rintro ex s (⟨rfl, hc, rfl⟩ | ⟨rfl, hc, i, rfl⟩)
 ·rw [hc]; exact ⟨_, rfl, ok_fin (a := ⟨iv (-1), [], 0⟩) (by kernel_rfl) ⟨⟨_, rfl, rfl⟩, rfl, rfl⟩⟩
 rw [hc]; exact ⟨_, rfl, ok_fin (a := ⟨iv (Int.ofNat i), [], 0⟩) (by kernel_rfl) ⟨⟨_, rfl, ltF_no (by omega)⟩, rfl, rfl⟩⟩
theorem anyplainArgsF {l : List Ty} {p : Ty -> Bool} (hp : ∀ t ∈ l, Calls1 169 [.dat t.enc] (bv (p t))) (hb : l.length < 1000000000) :
  Calls1 69 [.dat (sl (encL l)), fnplainArgsF] (bv (l.any p)) := by
 cases l with
 | nil => exact X_ok _ _ _ _ _ (by kernel_rfl)
 | cons t r =>
  have h := indexplainArgsF hp hb
  generalize (t :: r).any p = c at h
  show Calls1 69 [.dat (.slice (encL (t :: r))), fnplainArgsF] (bv c)
  refine co [8] [] (x := .of Tryz.f69 ord69 live69) ?_; refine ok_npQ (Q := FoundQ c) h (by kernel_rfl) (by kernel_rfl) (by rintro v ⟨j, rfl, _⟩; rfl) ?_
  rintro v ⟨j, rfl, hj⟩ _
  refine ok_bool (b := c) (c := !ltF j (Int.ofNat 0)) (by rw [hj]; simp) (by kernel_rfl) ?_
  exact ok_fin (a := ⟨bv c, [], 0⟩) (by cases c <;> kernel_rfl) rfl
/-! ### validNodesF -/
def fnvalidNodesF : AVal := .fn (.func 168) [] []
def stIvalidNodesF (l : List Ty) (i : Int) : FState := ⟨[(8, iv i), (7, iv (Int.ofNat (encL l).length)), (0, .dat (.slice (encL l))), (1, fnvalidNodesF)], [], [], 0⟩
def stIXvalidNodesF (l : List Ty) : FState := ⟨[(9, bv false), (8, iv (Int.ofNat (encL l).length)), (7, iv (Int.ofNat (encL l).length)), (0, .dat (.slice (encL l))), (1, fnvalidNodesF)], [], [], 0⟩
def stIRvalidNodesF (i : Nat) : FState := ⟨[(4, iv (Int.ofNat i))], [], [], 0⟩
theorem indexvalidNodesF {l : List Ty} {p : Ty -> Bool} (hp : ∀ t ∈ l, Calls1 168 [.dat t.enc] (bv (p t))) (hb : l.length < 1000000000) :
  KC 99 [.dat (.slice (encL l)), fnvalidNodesF] [] 0 (fun v h m => FoundQ (l.any p) v /\ h = [] /\ m = 0) := by
 have hl : KD (.loop (roundOf Tryz.f99 0)) (fun e s => (e = .exit 0 /\ l.any p = false /\ s = (stIXvalidNodesF l).toA Tryz.f99.ntmps) ∨ (e = .ret /\ l.any p = true /\ ∃ i : Nat, s = (stIRvalidNodesF i).toA Tryz.f99.ntmps)) ((stIvalidNodesF l (Int.ofNat 0)).toA Tryz.f99.ntmps) := by
  refine loop_inv (St := fun i => (stIvalidNodesF l (Int.ofNat i)).toA Tryz.f99.ntmps) (fun i => l.any p = (l.drop i).any p) (encL l).length ?_ ?_ (i := 0) (Nat.zero_le _) rfl
  ·intro i hi hI
   obtain ⟨t, ht, hm⟩ := get_mem hi
   have ha := any_drop (p := p) ht
   have hw : wrapF .i64 (Int.ofNat i + 1) = Int.ofNat (i + 1) := wrap_of (by rw [encL_length] at hi; omega)
   have hc := hp t hm
   generalize ht2 : p t = tc at hc ha
   clear hp hb ht2
   obtain ⟨k2, nm2, ix2, a2⟩ := t
   rcases a2 with _ | ⟨b, c⟩ <;> cases tc <;>
   ·refine run_of [9] [14] (H := hIndexT) (live := live99) (by kernel_rfl) ?_; refine ok_bool (b := true) (ltF_yes hi) (by kernel_rfl) ?_; refine oo (idxT ht) ?_; refine on hc ?_
    first
     |exact ok_end (ex := .normal) (stIvalidNodesF l (wrapF .i64 (Int.ofNat i + 1))) (by kernel_rfl) (by kernel_rfl) ⟨by rw [hw], by rw [hI, ha]; rfl⟩
     |exact ok_end (ex := .ret) (stIRvalidNodesF i) (by kernel_rfl) (by kernel_rfl) (.inr ⟨rfl, by rw [hI, ha]; rfl, i, rfl⟩)
  intro hI
  have h1 : l.any p = false := by rw [hI, encL_length, List.drop_length]; rfl
  refine run_of [9] [14] (H := hIndexT) (live := live99) (by kernel_rfl) ?_; refine ok_bool (b := false) (ltF_no (i := (encL l).length) (L := (encL l).length) (by omega)) (by kernel_rfl) ?_
  exact ok_end (ex := .exit 0) (stIXvalidNodesF l) (by kernel_rfl) (by kernel_rfl) (.inl ⟨rfl, h1, rfl⟩)
 clear hp hb
 refine call_ofQ [] [] (x := XFn.of Tryz.f99 ord99 live99) (T := fun r => FoundQ (l.any p) r.val /\ r.heap = [] /\ r.next = 0) (by kernel_rfl) ?_
 refine ok_loop (n := Tryz.f99.ntmps) (c := roundOf Tryz.f99 0) (f := stIvalidNodesF l (Int.ofNat 0)) (by kernel_rfl) (by kernel_rfl) hl ?_
 rintro ex s (⟨rfl, hc, rfl⟩ | ⟨rfl, hc, i, rfl⟩)
 ·rw [hc]; exact ⟨_, rfl, ok_fin (a := ⟨iv (-1), [], 0⟩) (by kernel_rfl) ⟨⟨_, rfl, rfl⟩, rfl, rfl⟩⟩
 rw [hc]; exact ⟨_, rfl, ok_fin (a := ⟨iv (Int.ofNat i), [], 0⟩) (by kernel_rfl) ⟨⟨_, rfl, ltF_no (by omega)⟩, rfl, rfl⟩⟩
theorem anyvalidNodesF {l : List Ty} {p : Ty -> Bool} (hp : ∀ t ∈ l, Calls1 168 [.dat t.enc] (bv (p t))) (hb : l.length < 1000000000) :
  Calls1 69 [.dat (sl (encL l)), fnvalidNodesF] (bv (l.any p)) := by
 cases l with
 | nil => exact X_ok _ _ _ _ _ (by kernel_rfl)
 | cons t r =>
  have h := indexvalidNodesF hp hb
  generalize (t :: r).any p = c at h
  show Calls1 69 [.dat (.slice (encL (t :: r))), fnvalidNodesF] (bv c)
  refine co [8] [] (x := .of Tryz.f69 ord69 live69) ?_; refine ok_npQ (Q := FoundQ c) h (by kernel_rfl) (by kernel_rfl) (by rintro v ⟨j, rfl, _⟩; rfl) ?_
  rintro v ⟨j, rfl, hj⟩ _
  refine ok_bool (b := c) (c := !ltF j (Int.ofNat 0)) (by rw [hj]; simp) (by kernel_rfl) ?_
  exact ok_fin (a := ⟨bv c, [], 0⟩) (by cases c <;> kernel_rfl) rfl
/-! ### Plain terms -/
mutual
def Ty.plain : Ty -> Bool
 | .mk k nm ix args => eqF k 5 || (Ty.mk k nm ix args).closed 0 || (eqF k 2 && !anyNP args)
def anyNP : List Ty -> Bool
 | [] => false
 | t :: r => !t.plain || anyNP r
end
theorem anyNP_any : ∀ l : List Ty, anyNP l = l.any (fun t => !t.plain)
 | [] => by simp [anyNP]
 | t :: r => by simp [anyNP, anyNP_any r]
theorem c_plainArgs {k : Int} {nm : List UInt8} {ix : Int} {l : List Ty} (hp : ∀ t ∈ l, Calls1 117 [.dat t.enc] (bv t.plain)) (hb : l.length < 1000000000) : Calls1 140 [.dat (Ty.mk k nm ix l).enc] (bv (!anyNP l)) := by
 have h1 : ∀ t ∈ l, Calls1 169 [.dat t.enc] (bv (!t.plain)) := by
  intro t ht
  have hc := hp t ht
  generalize t.plain = c at hc
  obtain ⟨k2, nm2, ix2, a2⟩ := t
  rcases a2 with _ | ⟨b, d⟩ <;> cases c <;>
  ·refine co [] [] (x := .of Tryz.f169 ord169 live169) ?_; refine on hc ?_; exact fi
 have h2 := anyplainArgsF h1 hb
 rw [anyNP_any]
 generalize l.any (fun t => !t.plain) = c at h2
 rcases l with _ | ⟨b, d⟩ <;> cases c <;>
 ·refine co [] [] (x := .of Tryz.f140 ord140 live140) ?_; refine on h2 ?_; exact fi
theorem plain_step {k : Int} {nm : List UInt8} {ix : Int} {l : List Ty} (hp : ∀ t ∈ l, Calls1 117 [.dat t.enc] (bv t.plain)) (hs : (Ty.mk k nm ix l).size < 1000000000) : Calls1 117 [.dat (Ty.mk k nm ix l).enc] (bv (Ty.mk k nm ix l).plain) := by
 have hb : l.length < 1000000000 := by have := len_size l; simp only [Ty.size] at hs; omega
 have h1 := c_closed (Ty.mk k nm ix l) 0 hs (by have := depth_size (Ty.mk k nm ix l); omega)
 have h2 := c_plainArgs (k := k) (nm := nm) (ix := ix) hp hb
 have e : (Ty.mk k nm ix l).plain = (eqF k 5 || (Ty.mk k nm ix l).closed 0 || (eqF k 2 && !anyNP l)) := by rw [Ty.plain]
 rw [e]
 clear e hp hs hb
 generalize (Ty.mk k nm ix l).closed 0 = cc at h1
 generalize (!anyNP l) = ca at h2
 generalize h5 : eqF k 5 = c5
 generalize h6 : eqF k 2 = c2
 rcases l with _ | ⟨b, d⟩ <;>
 ·refine co [5, 13] [] (x := .of Tryz.f117 ord117 live117) ?_; refine ob h5 ?_
  cases c5
  ·refine on h1 ?_
   cases cc
   ·refine ob h6 ?_
    cases c2 with
    | false => exact fi
    | true =>
     refine on h2 ?_
     cases ca <;> exact fi
   exact fi
  exact fi
mutual
theorem c_plain : ∀ t : Ty, t.size < 1000000000 -> Calls1 117 [.dat t.enc] (bv t.plain)
 | .mk k nm ix l, h => plain_step (c_plainL l (by simp only [Ty.size] at h; omega)) h
theorem c_plainL : ∀ l : List Ty, sizeL l < 1000000000 -> ∀ t ∈ l, Calls1 117 [.dat t.enc] (bv t.plain)
 | [], _, t, ht => by simp at ht
 | x :: r, h, t, ht => by
  simp only [sizeL] at h
  rcases List.mem_cons.1 ht with h1 | ht
  ·rw [h1]; exact c_plain x (by omega)
  exact c_plainL r (by omega) t ht
end
def letterN (n : Nat) : Bool := (Nat.ble 97 n && Nat.ble n 122) || (Nat.ble 65 n && Nat.ble n 90)
def wordN (n : Nat) : Bool := letterN n || (Nat.ble 48 n && Nat.ble n 57) || Nat.beq n 95 || Nat.beq n 45
def identN (n : Nat) : Bool := !Nat.beq n 45 && wordN n
def isIdent : List UInt8 -> Bool
 | [] => false
 | c :: r => Nat.ble (r.length + 1) 24 && letterN c.toNat && (c :: r).all (fun c => identN c.toNat)
def iv8 (n : Nat) : AVal := .dat (.flat (.int .u8 (Int.ofNat n)))
def allN (p : Nat -> Bool) : Nat -> Bool
 | 0 => true
 | k + 1 => p k && allN p k
theorem allN_lt {p : Nat -> Bool} : ∀ {k : Nat}, allN p k = true -> ∀ i, i < k -> p i = true
 | 0, _, i, hi => by omega
 | k + 1, h, i, hi => by
  simp only [allN, Bool.and_eq_true] at h
  rcases Nat.lt_or_ge i k with h1 | h1
  ·exact allN_lt h.2 i h1
  have : i = k := by omega
  subst this; exact h.1
def boolR (c : Bool) : Option XRes -> Bool
 | some ⟨.dat (.flat (.bool b)), [], 0⟩ => match b with | true => c | false => !c
 | _ => false
theorem boolR_eq {c : Bool} {r : Option XRes} (h : boolR c r = true) : r = some ⟨bv c, [], 0⟩ := by
 unfold boolR at h
 split at h
 ·rename_i b
  cases b <;> simp at h <;> subst h <;> rfl
 simp at h
theorem letter_run : allN (fun n => boolR (letterN n) (X 111 [iv8 n] [] 0)) 256 = true := by kernel_rfl
theorem c_isLetter (c : UInt8) : Calls1 111 [iv8 c.toNat] (bv (letterN c.toNat)) := X_ok _ _ _ _ _ (boolR_eq (allN_lt letter_run _ c.toNat_lt))
theorem ident_run : allN (fun n => boolR (identN n) (X 113 [iv8 n] [] 0)) 256 = true := by kernel_rfl
theorem c_identF (c : UInt8) : Calls1 113 [iv8 c.toNat] (bv (identN c.toNat)) := X_ok _ _ _ _ _ (boolR_eq (allN_lt ident_run _ c.toNat_lt))
theorem descS : (env Prims.fast).desc 9 = some .string := by kernel_rfl
theorem ans_byte {b : List UInt8} {i : Nat} {c : UInt8} (h : b[i]? = some c) : aIndex (env Prims.fast) 9 [.dat (sb b), .dat (.flat (.int .i64 (Int.ofNat i)))] = some ⟨iv8 c.toNat, .keep⟩ := by
 have hg : Prims.fast.byte ⟨⟨b⟩⟩ (Int.ofNat i) = some c := getF_of h
 have hp : (env Prims.fast).pr = Prims.fast := rfl
 simp only [aIndex, sb, descS, hp, hg]
 rfl
def fnI : AVal := .fn (.func 113) [] []
noncomputable def hEvery : Hints := ⟨xmoves, ord112, xcaps, rowsOf xcaps 112⟩
def stEv (b : List UInt8) (i : Int) : FState := ⟨[(5, iv i), (0, .dat (sb b)), (1, fnI)], [], [], 0⟩
def stEvX (b : List UInt8) : FState := ⟨[(9, bv false), (5, iv (Int.ofNat b.length)), (0, .dat (sb b)), (1, fnI)], [], [], 0⟩
def stEvR : FState := ⟨[(4, bv false)], [], [], 0⟩
theorem c_every {b : List UInt8} (hb : b.length < 1000000000) : Calls1 112 [.dat (sb b), fnI] (bv (b.all (fun c => identN c.toNat))) := by
 have hl : KD (.loop (roundOf Tryz.f112 0)) (fun e s => (e = .exit 0 /\ b.all (fun c => identN c.toNat) = true /\ s = (stEvX b).toA Tryz.f112.ntmps) ∨ (e = .ret /\ b.all (fun c => identN c.toNat) = false /\ s = stEvR.toA Tryz.f112.ntmps)) ((stEv b (Int.ofNat 0)).toA Tryz.f112.ntmps) := by
  refine loop_inv (St := fun i => (stEv b (Int.ofNat i)).toA Tryz.f112.ntmps) (fun i => b.all (fun c => identN c.toNat) = (b.drop i).all (fun c => identN c.toNat)) b.length ?_ ?_ (i := 0) (Nat.zero_le _) rfl
  ·intro i hi hI
   have hg : b[i]? = some b[i] := List.getElem?_eq_getElem hi
   have hd : (b.drop i).all (fun c => identN c.toNat) = (identN b[i].toNat && (b.drop (i + 1)).all (fun c => identN c.toNat)) := by rw [List.drop_eq_getElem_cons hi]; rfl
   have hw : wrapF .i64 (Int.ofNat i + 1) = Int.ofNat (i + 1) := wrap_of (by omega)
   have hc := c_identF b[i]
   generalize b[i] = c at hg hd hc
   generalize identN c.toNat = tc at hd hc
   refine run_of [9] [15] (H := hEvery) (live := live112) (by kernel_rfl) ?_; refine ok_bool (b := true) (ltF_yes hi) (by kernel_rfl) ?_; refine oo (ans_byte hg) ?_; refine on hc ?_
   cases tc
   ·exact ok_end (ex := .ret) stEvR (by kernel_rfl) (by kernel_rfl) (.inr ⟨rfl, by rw [hI, hd]; rfl, rfl⟩)
   exact ok_end (ex := .normal) (stEv b (wrapF .i64 (Int.ofNat i + 1))) (by kernel_rfl) (by kernel_rfl) ⟨by rw [hw], by rw [hI, hd]; rfl⟩
  intro hI
  have h1 : b.all (fun c => identN c.toNat) = true := by rw [hI, List.drop_length]; rfl
  refine run_of [9] [15] (H := hEvery) (live := live112) (by kernel_rfl) ?_; refine ok_bool (b := false) (ltF_no (i := b.length) (L := b.length) (by omega)) (by kernel_rfl) ?_
  exact ok_end (ex := .exit 0) (stEvX b) (by kernel_rfl) (by kernel_rfl) (.inl ⟨rfl, h1, rfl⟩)
 generalize b.all (fun c => identN c.toNat) = c at hl
 refine co [] [] (x := .of Tryz.f112 ord112 live112) ?_; refine ok_loop (n := Tryz.f112.ntmps) (c := roundOf Tryz.f112 0) (f := stEv b (Int.ofNat 0)) (by kernel_rfl) (by kernel_rfl) hl ?_
 rintro ex s (⟨rfl, rfl, rfl⟩ | ⟨rfl, rfl, rfl⟩) <;>
 ·exact ⟨_, rfl, ok_fin (by kernel_rfl) rfl⟩
theorem c_isIdent (b : List UInt8) : Calls1 87 [.dat (sb b)] (bv (isIdent b)) := by
 cases b with
 | nil => exact X_ok _ _ _ _ _ (by kernel_rfl)
 | cons c r =>
  have hev : Nat.ble (r.length + 1) 24 = true -> Calls1 112 [.dat (sb (c :: r)), fnI] (bv ((c :: r).all (fun c => identN c.toNat))) := fun h => c_every (by have := ble_to h; simp; omega)
  have hle := c_isLetter c
  have e : isIdent (c :: r) = (Nat.ble (r.length + 1) 24 && letterN c.toNat && (c :: r).all (fun c => identN c.toNat)) := rfl
  rw [e]
  generalize (c :: r).all (fun c => identN c.toNat) = ca at hev
  generalize letterN c.toNat = cl at hle
  have hlt : ltF (Int.ofNat 24) (Int.ofNat (r.length + 1)) = !Nat.ble (r.length + 1) 24 := by
   rw [ltF_of]
   by_cases h : 24 < r.length + 1
   ·rw [decide_eq_true h, show Nat.ble (r.length + 1) 24 = false from by rw [Bool.eq_false_iff]; intro e; have := ble_to e; omega]; rfl
   rw [decide_eq_false h, ble_mk (by omega)]; rfl
  generalize Nat.ble (r.length + 1) 24 = cb at hlt hev
  refine co [8] [12] (x := .of Tryz.f87 ord87 live87) ?_; refine ok_bool (b := cb) (c := !ltF (Int.ofNat 24) (Int.ofNat (r.length + 1))) (by rw [hlt]; simp) (by kernel_rfl) ?_
  cases cb with
  | false => exact fi
  | true =>
   refine oo (ans_byte (b := c :: r) (i := 0) rfl) ?_; refine on hle ?_
   cases cl with
   | false => exact fi
   | true =>
    refine on (hev rfl) ?_
    cases ca <;> exact fi
/-! ### The reserved words -/
def isResv (b : List UInt8) : Bool := resv.any (fun r => eqB b r)
noncomputable def hIndexS : Hints := ⟨xmoves, ord115, xcaps, rowsOf xcaps 115⟩
def stIS (b : List UInt8) (i : Int) : FState := ⟨[(8, iv i), (7, iv 5), (0, .dat (.slice (encS resv))), (1, .dat (sb b))], [], [], 0⟩
def stISX (b : List UInt8) : FState := ⟨[(9, bv false), (8, iv 5), (7, iv 5), (0, .dat (.slice (encS resv))), (1, .dat (sb b))], [], [], 0⟩
def stISR (i : Nat) : FState := ⟨[(4, iv (Int.ofNat i))], [], [], 0⟩
theorem c_indexS (b : List UInt8) : KC 115 [.dat (.slice (encS resv)), .dat (sb b)] [] 0 (fun v h m => FoundQ (isResv b) v /\ h = [] /\ m = 0) := by
 have hl : KD (.loop (roundOf Tryz.f115 0)) (fun e s => (e = .exit 0 /\ isResv b = false /\ s = (stISX b).toA Tryz.f115.ntmps) ∨ (e = .ret /\ isResv b = true /\ ∃ i : Nat, s = (stISR i).toA Tryz.f115.ntmps)) ((stIS b (Int.ofNat 0)).toA Tryz.f115.ntmps) := by
  refine loop_inv (St := fun i => (stIS b (Int.ofNat i)).toA Tryz.f115.ntmps) (fun i => isResv b = (resv.drop i).any (fun r => eqB b r)) 5 ?_ ?_ (i := 0) (Nat.zero_le _) rfl
  ·intro i hi hI
   have hcases : i = 0 ∨ i = 1 ∨ i = 2 ∨ i = 3 ∨ i = 4 := by omega
   have hd : (resv.drop i).any (fun r => eqB b r) = (eqB b (resv.getD i []) || (resv.drop (i + 1)).any (fun r => eqB b r)) := by rcases hcases with rfl | rfl | rfl | rfl | rfl <;> rfl
   rw [hd] at hI
   clear hd
   generalize hcw : eqB b (resv.getD i []) = cw at hI
   rcases hcases with rfl | rfl | rfl | rfl | rfl
   ·refine run_of [16] [] (H := hIndexS) (live := live115) (by kernel_rfl) ?_; refine ob hcw ?_
    cases cw
    ·exact ok_end (ex := .normal) (stIS b (Int.ofNat (0 + 1))) (by kernel_rfl) (by kernel_rfl) ⟨rfl, hI⟩
    exact ok_end (ex := .ret) (stISR 0) (by kernel_rfl) (by kernel_rfl) (.inr ⟨rfl, hI, 0, rfl⟩)
   ·refine run_of [16] [] (H := hIndexS) (live := live115) (by kernel_rfl) ?_; refine ob hcw ?_
    cases cw
    ·exact ok_end (ex := .normal) (stIS b (Int.ofNat (1 + 1))) (by kernel_rfl) (by kernel_rfl) ⟨rfl, hI⟩
    exact ok_end (ex := .ret) (stISR 1) (by kernel_rfl) (by kernel_rfl) (.inr ⟨rfl, hI, 1, rfl⟩)
   ·refine run_of [16] [] (H := hIndexS) (live := live115) (by kernel_rfl) ?_; refine ob hcw ?_
    cases cw
    ·exact ok_end (ex := .normal) (stIS b (Int.ofNat (2 + 1))) (by kernel_rfl) (by kernel_rfl) ⟨rfl, hI⟩
    exact ok_end (ex := .ret) (stISR 2) (by kernel_rfl) (by kernel_rfl) (.inr ⟨rfl, hI, 2, rfl⟩)
   ·refine run_of [16] [] (H := hIndexS) (live := live115) (by kernel_rfl) ?_; refine ob hcw ?_
    cases cw
    ·exact ok_end (ex := .normal) (stIS b (Int.ofNat (3 + 1))) (by kernel_rfl) (by kernel_rfl) ⟨rfl, hI⟩
    exact ok_end (ex := .ret) (stISR 3) (by kernel_rfl) (by kernel_rfl) (.inr ⟨rfl, hI, 3, rfl⟩)
   refine run_of [16] [] (H := hIndexS) (live := live115) (by kernel_rfl) ?_; refine ob hcw ?_
   cases cw
   ·exact ok_end (ex := .normal) (stIS b (Int.ofNat (4 + 1))) (by kernel_rfl) (by kernel_rfl) ⟨rfl, hI⟩
   exact ok_end (ex := .ret) (stISR 4) (by kernel_rfl) (by kernel_rfl) (.inr ⟨rfl, hI, 4, rfl⟩)
  intro hI
  have h1 : isResv b = false := by rw [hI]; rfl
  refine run_of [16] [] (H := hIndexS) (live := live115) (by kernel_rfl) ?_
  exact ok_end (ex := .exit 0) (stISX b) (by kernel_rfl) (by kernel_rfl) (.inl ⟨rfl, h1, rfl⟩)
 generalize isResv b = c at hl
 refine call_ofQ [] [] (x := XFn.of Tryz.f115 ord115 live115) (T := fun r => FoundQ c r.val /\ r.heap = [] /\ r.next = 0) (by kernel_rfl) ?_
 refine ok_loop (n := Tryz.f115.ntmps) (c := roundOf Tryz.f115 0) (f := stIS b (Int.ofNat 0)) (by kernel_rfl) (by kernel_rfl) hl ?_
 rintro ex s (⟨rfl, rfl, rfl⟩ | ⟨rfl, rfl, i, rfl⟩)
 ·exact ⟨_, rfl, ok_fin (a := ⟨iv (-1), [], 0⟩) (by kernel_rfl) ⟨⟨_, rfl, rfl⟩, rfl, rfl⟩⟩
 exact ⟨_, rfl, ok_fin (a := ⟨iv (Int.ofNat i), [], 0⟩) (by kernel_rfl) ⟨⟨_, rfl, ltF_no (by omega)⟩, rfl, rfl⟩⟩
theorem c_containsS (b : List UInt8) : Calls1 88 [.dat (.slice (encS resv)), .dat (sb b)] (bv (isResv b)) := by
 have h := c_indexS b
 generalize isResv b = c at h
 refine co [8] [] (x := .of Tryz.f88 ord88 live88) ?_; refine ok_npQ (Q := FoundQ c) h (by kernel_rfl) (by kernel_rfl) (by rintro v ⟨j, rfl, _⟩; rfl) ?_
 rintro v ⟨j, rfl, hj⟩ _
 refine ok_bool (b := c) (c := !ltF j (Int.ofNat 0)) (by rw [hj]; simp) (by kernel_rfl) ?_
 cases c <;> exact fi
def cmpI (x y : Int) : Int := match ltF x y with | true => -1 | false => (match ltF y x with | true => 1 | false => 0)
def cmpS (x y : List UInt8) : Int := match ltB x y with | true => -1 | false => (match !(ltB x y || eqB x y) with | true => 1 | false => 0)
def orI : List Int -> Int
 | [] => 0
 | x :: r => match eqF x 0 with | true => orI r | false => x
theorem eqF_self (x : Int) : eqF x x = true := by rw [eqF_eq]; simp
theorem eqB_self (x : List UInt8) : eqB x x = true := by rw [eqB_eq]; simp
theorem c_NaNI (x : Int) : Calls1 171 [iv x] (bv false) := by
 refine co [5] [] (x := .of Tryz.f171 ord171 live171) ?_; refine ok_bool (b := false) (c := !eqF x x) (by rw [eqF_self]; rfl) (by kernel_rfl) ?_
 exact fi
theorem c_NaNS (x : List UInt8) : Calls1 172 [.dat (sb x)] (bv false) := by
 refine co [5] [] (x := .of Tryz.f172 ord172 live172) ?_; refine ok_bool (b := false) (c := !eqB x x) (by rw [eqB_self]; rfl) (by kernel_rfl) ?_
 exact fi
theorem c_cmpI (x y : Int) : Calls1 144 [iv x, iv y] (iv (cmpI x y)) := by
 unfold cmpI
 generalize h1 : ltF x y = a
 generalize h2 : ltF y x = b
 refine co [16, 19] [] (x := .of Tryz.f144 ord144 live144) ?_; refine on (c_NaNI x) ?_; refine on (c_NaNI y) ?_; refine ob h1 ?_
 cases a
 ·refine ob h2 ?_
  cases b <;> exact fi
 exact fi
theorem c_cmpS (x y : List UInt8) : Calls1 145 [.dat (sb x), .dat (sb y)] (iv (cmpS x y)) := by
 unfold cmpS
 generalize h2 : (!(ltB x y || eqB x y)) = b
 generalize h1 : ltB x y = a
 refine co [16, 19] [] (x := .of Tryz.f145 ord145 live145) ?_; refine on (c_NaNS x) ?_; refine on (c_NaNS y) ?_; refine ob h1 ?_
 cases a
 ·refine ob h2 ?_
  cases b <;> exact fi
 exact fi
/-! ### The first that is not 0 -/
noncomputable def hOr : Hints := ⟨xmoves, ord143, xcaps, rowsOf xcaps 143⟩
def stOr (a b c d : Int) (i : Int) : FState := ⟨[(8, iv i), (7, iv 4), (6, .dat (.slice [i64 a, i64 b, i64 c, i64 d])), (3, iv 0)], [], [], 0⟩
def stOrX (a b c d : Int) : FState := ⟨[(9, bv false), (8, iv 4), (7, iv 4), (6, .dat (.slice [i64 a, i64 b, i64 c, i64 d])), (3, iv 0)], [], [], 0⟩
def stOrR (a : Int) : FState := ⟨[(2, iv a)], [], [], 0⟩
theorem c_or (a b c d : Int) : Calls1 143 [.dat (.slice [i64 a, i64 b, i64 c, i64 d])] (iv (orI [a, b, c, d])) := by
 have hl : KD (.loop (roundOf Tryz.f143 0)) (fun e s => (e = .exit 0 /\ orI [a, b, c, d] = 0 /\ s = (stOrX a b c d).toA Tryz.f143.ntmps) ∨ (e = .ret /\ s = (stOrR (orI [a, b, c, d])).toA Tryz.f143.ntmps)) ((stOr a b c d (Int.ofNat 0)).toA Tryz.f143.ntmps) := by
  refine loop_inv (St := fun i => (stOr a b c d (Int.ofNat i)).toA Tryz.f143.ntmps) (fun i => orI [a, b, c, d] = orI ([a, b, c, d].drop i)) 4 ?_ ?_ (i := 0) (Nat.zero_le _) rfl
  ·intro i hi hI
   have hcases : i = 0 ∨ i = 1 ∨ i = 2 ∨ i = 3 := by omega
   have hd : orI ([a, b, c, d].drop i) = (match eqF ([a, b, c, d].getD i 0) 0 with | true => orI ([a, b, c, d].drop (i + 1)) | false => [a, b, c, d].getD i 0) := by rcases hcases with rfl | rfl | rfl | rfl <;> rfl
   rw [hd] at hI
   clear hd
   generalize hcw : eqF ([a, b, c, d].getD i 0) 0 = cw at hI
   rcases hcases with rfl | rfl | rfl | rfl
   ·refine run_of [14] [] (H := hOr) (live := live143) (by kernel_rfl) ?_; refine ok_bool (b := !cw) (c := !eqF ([a, b, c, d].getD 0 0) 0) (by rw [hcw]) (by kernel_rfl) ?_
    cases cw with
    | false => exact ok_end (ex := .ret) (stOrR ([a, b, c, d].getD 0 0)) (by kernel_rfl) (by kernel_rfl) (.inr ⟨rfl, by rw [hI]⟩)
    | true => exact ok_end (ex := .normal) (stOr a b c d (Int.ofNat (0 + 1))) (by kernel_rfl) (by kernel_rfl) ⟨rfl, hI⟩
   ·refine run_of [14] [] (H := hOr) (live := live143) (by kernel_rfl) ?_; refine ok_bool (b := !cw) (c := !eqF ([a, b, c, d].getD 1 0) 0) (by rw [hcw]) (by kernel_rfl) ?_
    cases cw with
    | false => exact ok_end (ex := .ret) (stOrR ([a, b, c, d].getD 1 0)) (by kernel_rfl) (by kernel_rfl) (.inr ⟨rfl, by rw [hI]⟩)
    | true => exact ok_end (ex := .normal) (stOr a b c d (Int.ofNat (1 + 1))) (by kernel_rfl) (by kernel_rfl) ⟨rfl, hI⟩
   ·refine run_of [14] [] (H := hOr) (live := live143) (by kernel_rfl) ?_; refine ok_bool (b := !cw) (c := !eqF ([a, b, c, d].getD 2 0) 0) (by rw [hcw]) (by kernel_rfl) ?_
    cases cw with
    | false => exact ok_end (ex := .ret) (stOrR ([a, b, c, d].getD 2 0)) (by kernel_rfl) (by kernel_rfl) (.inr ⟨rfl, by rw [hI]⟩)
    | true => exact ok_end (ex := .normal) (stOr a b c d (Int.ofNat (2 + 1))) (by kernel_rfl) (by kernel_rfl) ⟨rfl, hI⟩
   refine run_of [14] [] (H := hOr) (live := live143) (by kernel_rfl) ?_; refine ok_bool (b := !cw) (c := !eqF ([a, b, c, d].getD 3 0) 0) (by rw [hcw]) (by kernel_rfl) ?_
   cases cw with
   | false => exact ok_end (ex := .ret) (stOrR ([a, b, c, d].getD 3 0)) (by kernel_rfl) (by kernel_rfl) (.inr ⟨rfl, by rw [hI]⟩)
   | true => exact ok_end (ex := .normal) (stOr a b c d (Int.ofNat (3 + 1))) (by kernel_rfl) (by kernel_rfl) ⟨rfl, hI⟩
  intro hI
  have h1 : orI [a, b, c, d] = 0 := by rw [hI]; rfl
  refine run_of [14] [] (H := hOr) (live := live143) (by kernel_rfl) ?_
  exact ok_end (ex := .exit 0) (stOrX a b c d) (by kernel_rfl) (by kernel_rfl) (.inl ⟨rfl, h1, rfl⟩)
 generalize orI [a, b, c, d] = r at hl
 refine co [] [] (x := .of Tryz.f143 ord143 live143) ?_; refine ok_loop (n := Tryz.f143.ntmps) (c := roundOf Tryz.f143 0) (f := stOr a b c d (Int.ofNat 0)) (by kernel_rfl) (by kernel_rfl) hl ?_
 rintro ex s (⟨rfl, rfl, rfl⟩ | ⟨rfl, rfl⟩)
 ·exact ⟨_, rfl, ok_fin (by kernel_rfl) rfl⟩
 exact ⟨_, rfl, ok_fin (by kernel_rfl) rfl⟩
/-! ### Terms -/
mutual
def cmpT : Ty -> Ty -> Int
 | .mk k nm ix l, .mk k2 nm2 ix2 l2 => match eqF (orI [cmpI k k2, cmpS nm nm2, cmpI ix ix2, cmpI (Int.ofNat (encL l).length) (Int.ofNat (encL l2).length)]) 0 with
  | true => cmpL l l2
  | false => orI [cmpI k k2, cmpS nm nm2, cmpI ix ix2, cmpI (Int.ofNat (encL l).length) (Int.ofNat (encL l2).length)]
def cmpL : List Ty -> List Ty -> Int
 | t :: r, u :: v => match eqF (cmpT t u) 0 with | true => cmpL r v | false => cmpT t u
 | _, _ => 0
end
def headT (k : Int) (nm : List UInt8) (ix : Int) (l : List Ty) (k2 : Int) (nm2 : List UInt8) (ix2 : Int) (l2 : List Ty) : Int := orI [cmpI k k2, cmpS nm nm2, cmpI ix ix2, cmpI (Int.ofNat (encL l).length) (Int.ofNat (encL l2).length)]
theorem eqF_zero {x : Int} (h : eqF x 0 = true) : x = 0 := by rw [eqF_eq] at h; simpa using h
theorem orI_zero : ∀ {l : List Int}, orI l = 0 -> ∀ x ∈ l, x = 0
 | [], _, x, hx => by simp at hx
 | y :: r, h, x, hx => by
  unfold orI at h
  split at h
  ·rename_i hy
   rcases List.mem_cons.1 hx with h1 | hx
   ·rw [h1]; exact eqF_zero hy
   exact orI_zero h x hx
  rename_i hy
  subst h
  rw [eqF_self] at hy
  simp at hy
theorem cmpI_zero {x y : Int} (h : cmpI x y = 0) : x = y := by
 unfold cmpI at h
 cases h1 : ltF x y with
 | true => rw [h1] at h; simp at h
 | false =>
  rw [h1] at h
  cases h2 : ltF y x with
  | true => rw [h2] at h; simp at h
  | false =>
   rw [ltF_eq] at h1 h2
   simp at h1 h2
   omega
theorem head_len {k : Int} {nm : List UInt8} {ix : Int} {l : List Ty} {k2 : Int} {nm2 : List UInt8} {ix2 : Int} {l2 : List Ty} (h : eqF (headT k nm ix l k2 nm2 ix2 l2) 0 = true) : l.length = l2.length := by
 have h1 := orI_zero (eqF_zero h) (cmpI (Int.ofNat (encL l).length) (Int.ofNat (encL l2).length)) (by simp)
 have h2 := cmpI_zero h1
 rw [encL_length, encL_length] at h2
 exact Int.ofNat.inj h2
/-- What has been found after i rounds. -/
def cmpAt (l l2 : List Ty) (c0 : Int) : Nat -> Int
 | 0 => c0
 | i + 1 => match l[i]?, l2[i]? with | some t, some u => cmpT t u | _, _ => 0
noncomputable def hCompare : Hints := ⟨xmoves, ord121, xcaps, rowsOf xcaps 121⟩
def loCmp (k : Int) (nm : List UInt8) (ix : Int) (l : List Ty) (k2 : Int) (nm2 : List UInt8) (ix2 : Int) (l2 : List Ty) : Heap := [(.loc 3, .cells [iv k2, .dat (sb nm2), iv ix2, .dat (.slice (encL l2))]), (.loc 2, .cells [iv k, .dat (sb nm), iv ix, .dat (.slice (encL l))])]
def stCmp (lo : Heap) (i c : Int) : FState := ⟨[(6, iv i), (5, iv c), (3, .ptr (.loc 3) 0), (2, .ptr (.loc 2) 0)], lo, [], 0⟩
def stCmpX (lo : Heap) (i c : Int) : FState := ⟨[(39, bv false), (6, iv i), (5, iv c), (3, .ptr (.loc 3) 0), (2, .ptr (.loc 2) 0)], lo, [], 0⟩
theorem cmp_loop {k : Int} {nm : List UInt8} {ix : Int} {l : List Ty} {k2 : Int} {nm2 : List UInt8} {ix2 : Int} {l2 : List Ty} {c0 : Int} (hlen : eqF c0 0 = true -> l.length = l2.length)
  (ih : ∀ t ∈ l, ∀ u ∈ l2, Calls1 121 [.dat t.enc, .dat u.enc] (iv (cmpT t u))) (hb : l.length < 1000000000) :
  KD (.loop (roundOf Tryz.f121 0)) (fun e s => e = .exit 0 /\ ∃ i : Nat, s = (stCmpX (loCmp k nm ix l k2 nm2 ix2 l2) (Int.ofNat i) (match eqF c0 0 with | true => cmpL l l2 | false => c0)).toA Tryz.f121.ntmps) ((stCmp (loCmp k nm ix l k2 nm2 ix2 l2) (Int.ofNat 0) c0).toA Tryz.f121.ntmps) := by
 generalize hfin : (match eqF c0 0 with | true => cmpL l l2 | false => c0) = fin
 refine loop_inv (St := fun i => (stCmp (loCmp k nm ix l k2 nm2 ix2 l2) (Int.ofNat i) (cmpAt l l2 c0 i)).toA Tryz.f121.ntmps) (fun i => (0 < i -> eqF c0 0 = true) /\ fin = (match eqF (cmpAt l l2 c0 i) 0 with | true => cmpL (l.drop i) (l2.drop i) | false => cmpAt l l2 c0 i)) (encL l).length ?_ ?_ (i := 0) (Nat.zero_le _) ⟨fun h => absurd h (Nat.lt_irrefl 0), hfin.symm⟩
 ·rintro i hi ⟨hz, hI⟩
  have hz2 : eqF (cmpAt l l2 c0 i) 0 = true -> eqF c0 0 = true := by
   intro h
   cases i with
   | zero => exact h
   | succ i => exact hz (Nat.succ_pos i)
  obtain ⟨t, ht, hm⟩ := get_mem hi
  have hi2 := hi
  rw [encL_length] at hi2
  have hw : wrapF .i64 (Int.ofNat i + 1) = Int.ofNat (i + 1) := wrap_of (by omega)
  generalize hca : cmpAt l l2 c0 i = ca at hI hz2
  generalize hcz : eqF ca 0 = cz at hI hz2
  cases cz with
  | false =>
   refine run_of [32, 38] [45, 50] (H := hCompare) (live := live121) (by kernel_rfl) ?_; refine ob hcz ?_
   refine ok_end (ex := .exit 0) (stCmpX (loCmp k nm ix l k2 nm2 ix2 l2) (Int.ofNat i) ca) (by kernel_rfl) (by kernel_rfl) ⟨rfl, i, ?_⟩
   rw [hI]
  | true =>
   have hle := hlen (hz2 rfl)
   have hu : l2[i]? = some l2[i] := List.getElem?_eq_getElem (by omega)
   have hmu : l2[i] ∈ l2 := List.getElem_mem _
   generalize l2[i] = u at hu hmu
   have hc := ih t hm u hmu
   have hat : cmpAt l l2 c0 (i + 1) = cmpT t u := by simp only [cmpAt, ht, hu]
   have hnew : fin = (match eqF (cmpAt l l2 c0 (i + 1)) 0 with | true => cmpL (l.drop (i + 1)) (l2.drop (i + 1)) | false => cmpAt l l2 c0 (i + 1)) := by
    rw [hI, hat]
    show cmpL (l.drop i) (l2.drop i) = _
    rw [drop_get ht, drop_get hu, cmpL]
   have hz3 := hz2 rfl
   rw [hat] at hnew
   have e : seqQ (fun s => s = (stCmp (loCmp k nm ix l k2 nm2 ix2 l2) (Int.ofNat (i + 1)) (cmpAt l l2 c0 (i + 1))).toA Tryz.f121.ntmps /\ (0 < i + 1 -> eqF c0 0 = true) /\ fin = (match eqF (cmpAt l l2 c0 (i + 1)) 0 with | true => cmpL (l.drop (i + 1)) (l2.drop (i + 1)) | false => cmpAt l l2 c0 (i + 1)))
     (fun e s => e = .exit 0 /\ ∃ i : Nat, s = (stCmpX (loCmp k nm ix l k2 nm2 ix2 l2) (Int.ofNat i) fin).toA Tryz.f121.ntmps) .normal ((stCmp (loCmp k nm ix l k2 nm2 ix2 l2) (wrapF .i64 (Int.ofNat i + 1)) (cmpT t u)).toA Tryz.f121.ntmps) := by
    rw [hw, hat]
    exact ⟨rfl, fun _ => hz3, hnew⟩
   generalize cmpT t u = cc at hc e
   have hx1 := idxT ht
   have hx2 := idxT hu
   clear ih hlen hI hat hnew hz hz2 hu hmu ht hm
   obtain ⟨k3, nm3, ix3, a3⟩ := t
   obtain ⟨k4, nm4, ix4, a4⟩ := u
   rcases a3 with _ | ⟨b3, d3⟩ <;> rcases a4 with _ | ⟨b4, d4⟩ <;>
   ·refine run_of [32, 38] [45, 50] (H := hCompare) (live := live121) (by kernel_rfl) ?_; refine ob hcz ?_; refine ok_bool (b := true) (ltF_yes hi) (by kernel_rfl) ?_; refine oo hx1 ?_; refine oo hx2 ?_; refine on hc ?_
    exact ok_end (ex := .normal) (stCmp (loCmp k nm ix l k2 nm2 ix2 l2) (wrapF .i64 (Int.ofNat i + 1)) cc) (by kernel_rfl) (by kernel_rfl) e
 rintro ⟨hz, hI⟩
 generalize hca : cmpAt l l2 c0 (encL l).length = ca at hI
 generalize hcz : eqF ca 0 = cz at hI
 refine run_of [32, 38] [45, 50] (H := hCompare) (live := live121) (by kernel_rfl) ?_; refine ob hcz ?_
 cases cz with
 | false =>
  refine ok_end (ex := .exit 0) (stCmpX (loCmp k nm ix l k2 nm2 ix2 l2) (Int.ofNat (encL l).length) ca) (by kernel_rfl) (by kernel_rfl) ⟨rfl, (encL l).length, ?_⟩
  rw [hI]
 | true =>
  have h0 : ca = fin := by
   rw [hI, encL_length, List.drop_length]
   exact eqF_zero hcz
  refine ok_bool (b := false) (ltF_no (i := (encL l).length) (L := (encL l).length) (by omega)) (by kernel_rfl) ?_
  refine ok_end (ex := .exit 0) (stCmpX (loCmp k nm ix l k2 nm2 ix2 l2) (Int.ofNat (encL l).length) ca) (by kernel_rfl) (by kernel_rfl) ⟨rfl, (encL l).length, ?_⟩
  rw [h0]
def loCmpD (k : Int) (nm : List UInt8) (ix : Int) (a : Dat) (k2 : Int) (nm2 : List UInt8) (ix2 : Int) (a2 : Dat) : Heap := [(.loc 3, .cells [iv k2, .dat (sb nm2), iv ix2, .dat a2]), (.loc 2, .cells [iv k, .dat (sb nm), iv ix, .dat a])]
/-- Where the first has no arguments no round is made. -/
theorem cmp_nil (k : Int) (nm : List UInt8) (ix : Int) (k2 : Int) (nm2 : List UInt8) (ix2 : Int) (a2 : Dat) (ha : a2 = nl ∨ ∃ es, a2 = .slice es) (c0 : Int) :
  KD (.loop (roundOf Tryz.f121 0)) (fun e s => e = .exit 0 /\ ∃ i : Nat, s = (stCmpX (loCmpD k nm ix nl k2 nm2 ix2 a2) (Int.ofNat i) c0).toA Tryz.f121.ntmps) ((stCmp (loCmpD k nm ix nl k2 nm2 ix2 a2) (Int.ofNat 0) c0).toA Tryz.f121.ntmps) := by
 refine loop_count (St := fun _ => (stCmp (loCmpD k nm ix nl k2 nm2 ix2 a2) (Int.ofNat 0) c0).toA Tryz.f121.ntmps) 0 (fun i hi => absurd hi (Nat.not_lt_zero i)) ?_ (i := 0) (Nat.le_refl _)
 generalize hcz : eqF c0 0 = cz
 rcases ha with rfl | ⟨es, rfl⟩ <;>
 ·refine run_of [32, 38] [45, 50] (H := hCompare) (live := live121) (by kernel_rfl) ?_; refine ob hcz ?_
  cases cz with
  | false => exact ok_end (ex := .exit 0) (stCmpX (loCmpD k nm ix nl k2 nm2 ix2 _) (Int.ofNat 0) c0) (by kernel_rfl) (by kernel_rfl) ⟨rfl, 0, rfl⟩
  | true =>
   refine ok_bool (b := false) (c := ltF (Int.ofNat 0) (Int.ofNat 0)) rfl (by kernel_rfl) ?_
   exact ok_end (ex := .exit 0) (stCmpX (loCmpD k nm ix nl k2 nm2 ix2 _) (Int.ofNat 0) c0) (by kernel_rfl) (by kernel_rfl) ⟨rfl, 0, rfl⟩
/-- .. where the two differ before. -/
theorem cmp_far (k : Int) (nm : List UInt8) (ix : Int) (es : List Dat) (k2 : Int) (nm2 : List UInt8) (ix2 : Int) (c0 : Int) (hcz : eqF c0 0 = false) :
  KD (.loop (roundOf Tryz.f121 0)) (fun e s => e = .exit 0 /\ ∃ i : Nat, s = (stCmpX (loCmpD k nm ix (.slice es) k2 nm2 ix2 nl) (Int.ofNat i) c0).toA Tryz.f121.ntmps) ((stCmp (loCmpD k nm ix (.slice es) k2 nm2 ix2 nl) (Int.ofNat 0) c0).toA Tryz.f121.ntmps) := by
 refine loop_count (St := fun _ => (stCmp (loCmpD k nm ix (.slice es) k2 nm2 ix2 nl) (Int.ofNat 0) c0).toA Tryz.f121.ntmps) 0 (fun i hi => absurd hi (Nat.not_lt_zero i)) ?_ (i := 0) (Nat.le_refl _)
 refine run_of [32, 38] [45, 50] (H := hCompare) (live := live121) (by kernel_rfl) ?_; refine ob hcz ?_
 exact ok_end (ex := .exit 0) (stCmpX (loCmpD k nm ix (.slice es) k2 nm2 ix2 nl) (Int.ofNat 0) c0) (by kernel_rfl) (by kernel_rfl) ⟨rfl, 0, rfl⟩
theorem cmp_of {k : Int} {nm : List UInt8} {ix : Int} {a : Dat} {k2 : Int} {nm2 : List UInt8} {ix2 : Int} {a2 : Dat} (ha : a = nl ∨ ∃ es, a = .slice es) (ha2 : a2 = nl ∨ ∃ es, a2 = .slice es) {n m : Nat} {r : Int}
  (hn : a = nl /\ n = 0 ∨ ∃ es, a = .slice es /\ n = es.length) (hm : a2 = nl /\ m = 0 ∨ ∃ es, a2 = .slice es /\ m = es.length)
  (hl : KD (.loop (roundOf Tryz.f121 0)) (fun e s => e = .exit 0 /\ ∃ i : Nat, s = (stCmpX (loCmpD k nm ix a k2 nm2 ix2 a2) (Int.ofNat i) r).toA Tryz.f121.ntmps)
   ((stCmp (loCmpD k nm ix a k2 nm2 ix2 a2) (Int.ofNat 0) (orI [cmpI k k2, cmpS nm nm2, cmpI ix ix2, cmpI (Int.ofNat n) (Int.ofNat m)])).toA Tryz.f121.ntmps)) :
  Calls1 121 [.dat (.agg [i64 k, sb nm, i64 ix, a]), .dat (.agg [i64 k2, sb nm2, i64 ix2, a2])] (iv r) := by
 have h1 := c_cmpI k k2
 have h2 := c_cmpS nm nm2
 have h3 := c_cmpI ix ix2
 have h4 := c_cmpI (Int.ofNat n) (Int.ofNat m)
 generalize cmpI k k2 = x1 at h1 hl
 generalize cmpS nm nm2 = x2 at h2 hl
 generalize cmpI ix ix2 = x3 at h3 hl
 generalize cmpI (Int.ofNat n) (Int.ofNat m) = x4 at h4 hl
 have h5 := c_or x1 x2 x3 x4
 generalize orI [x1, x2, x3, x4] = c0 at h5 hl
 clear ha ha2
 rcases hn with ⟨rfl, rfl⟩ | ⟨es, rfl, rfl⟩ <;> rcases hm with ⟨rfl, rfl⟩ | ⟨es2, rfl, rfl⟩ <;>
 ·refine co [] [] (x := .of Tryz.f121 ord121 live121) ?_; refine on h1 ?_; refine on h2 ?_; refine on h3 ?_; refine on h4 ?_; refine on h5 ?_; refine ok_loop (n := Tryz.f121.ntmps) (c := roundOf Tryz.f121 0) (f := stCmp (loCmpD k nm ix _ k2 nm2 ix2 _) (Int.ofNat 0) c0) (by kernel_rfl) (by kernel_rfl) hl ?_; rintro ex s ⟨rfl, i, rfl⟩
  exact ⟨_, rfl, ok_fin (by kernel_rfl) rfl⟩
theorem compare_step {k : Int} {nm : List UInt8} {ix : Int} {l : List Ty} {k2 : Int} {nm2 : List UInt8} {ix2 : Int} {l2 : List Ty} (ih : ∀ t ∈ l, ∀ u ∈ l2, Calls1 121 [.dat t.enc, .dat u.enc] (iv (cmpT t u))) (hb : l.length < 1000000000) :
  Calls1 121 [.dat (Ty.mk k nm ix l).enc, .dat (Ty.mk k2 nm2 ix2 l2).enc] (iv (cmpT (.mk k nm ix l) (.mk k2 nm2 ix2 l2))) := by
 rw [cmpT]
 cases l with
 | nil =>
  have hr : (match eqF (orI [cmpI k k2, cmpS nm nm2, cmpI ix ix2, cmpI (Int.ofNat (encL []).length) (Int.ofNat (encL l2).length)]) 0 with | true => cmpL [] l2 | false => orI [cmpI k k2, cmpS nm nm2, cmpI ix ix2, cmpI (Int.ofNat (encL []).length) (Int.ofNat (encL l2).length)]) = orI [cmpI k k2, cmpS nm nm2, cmpI ix ix2, cmpI (Int.ofNat (encL []).length) (Int.ofNat (encL l2).length)] := by
   split
   ·rename_i h; rw [eqF_zero h, cmpL]; simp
   rfl
  rw [hr]
  cases l2 with
  | nil => exact cmp_of (a := nl) (a2 := nl) (n := 0) (m := 0) (.inl rfl) (.inl rfl) (.inl ⟨rfl, rfl⟩) (.inl ⟨rfl, rfl⟩) (cmp_nil k nm ix k2 nm2 ix2 nl (.inl rfl) _)
  | cons u v => exact cmp_of (a := nl) (a2 := .slice (encL (u :: v))) (n := 0) (m := (encL (u :: v)).length) (.inl rfl) (.inr ⟨_, rfl⟩) (.inl ⟨rfl, rfl⟩) (.inr ⟨_, rfl, rfl⟩) (cmp_nil k nm ix k2 nm2 ix2 _ (.inr ⟨_, rfl⟩) _)
 | cons t r =>
  cases l2 with
  | nil =>
   have hcz : eqF (orI [cmpI k k2, cmpS nm nm2, cmpI ix ix2, cmpI (Int.ofNat (encL (t :: r)).length) (Int.ofNat (encL []).length)]) 0 = false := by
    rw [Bool.eq_false_iff]
    intro h
    have := head_len (l := t :: r) (l2 := []) h
    simp at this
   rw [hcz]
   exact cmp_of (a := .slice (encL (t :: r))) (a2 := nl) (n := (encL (t :: r)).length) (m := 0) (.inr ⟨_, rfl⟩) (.inl rfl) (.inr ⟨_, rfl, rfl⟩) (.inl ⟨rfl, rfl⟩) (cmp_far k nm ix _ k2 nm2 ix2 _ hcz)
  | cons u v =>
   exact cmp_of (a := .slice (encL (t :: r))) (a2 := .slice (encL (u :: v))) (n := (encL (t :: r)).length) (m := (encL (u :: v)).length) (.inr ⟨_, rfl⟩) (.inr ⟨_, rfl⟩) (.inr ⟨_, rfl, rfl⟩) (.inr ⟨_, rfl, rfl⟩)
    (cmp_loop (l := t :: r) (l2 := u :: v) (fun h => head_len (l := t :: r) (l2 := u :: v) h) ih hb)
mutual
theorem c_compare : ∀ (t u : Ty), t.size < 1000000000 -> Calls1 121 [.dat t.enc, .dat u.enc] (iv (cmpT t u))
 | .mk k nm ix l, .mk k2 nm2 ix2 l2, h => by
  have h2 : sizeL l < 1000000000 := by simp only [Ty.size] at h; omega
  exact compare_step (fun t ht u _ => c_compareL l h2 t ht u) (by have := len_size l; omega)
theorem c_compareL : ∀ (l : List Ty), sizeL l < 1000000000 -> ∀ t ∈ l, ∀ u : Ty, Calls1 121 [.dat t.enc, .dat u.enc] (iv (cmpT t u))
 | [], _, t, ht, _ => by simp at ht
 | x :: r, h, t, ht, u => by
  simp only [sizeL] at h
  rcases List.mem_cons.1 ht with h1 | ht
  ·rw [h1]; exact c_compare x u (by omega)
  exact c_compareL r (by omega) t ht u
end
def eqT (t u : Ty) : Bool := eqF (cmpT t u) 0
theorem c_equal (t u : Ty) (h : t.size < 1000000000) : Calls1 91 [.dat t.enc, .dat u.enc] (bv (eqT t u)) := by
 have hc := c_compare t u h
 unfold eqT
 generalize cmpT t u = c at hc
 generalize hcz : eqF c 0 = cz
 clear h
 obtain ⟨k3, nm3, ix3, a3⟩ := t
 obtain ⟨k4, nm4, ix4, a4⟩ := u
 rcases a3 with _ | ⟨b3, d3⟩ <;> rcases a4 with _ | ⟨b4, d4⟩ <;>
 ·refine co [8] [] (x := .of Tryz.f91 ord91 live91) ?_; refine on hc ?_; refine ob hcz ?_
  cases cz <;> exact fi
/-- Terms that are being gathered. -/
def ownT : List Ty -> AVal
 | [] => .dat nl
 | t :: r => .own (encL (t :: r))
theorem encL_mem {l : List Ty} {d : Dat} (h : d ∈ encL l) : ∃ t, d = Ty.enc t := by
 rw [encL_map] at h
 obtain ⟨t, _, rfl⟩ := List.mem_map.1 h
 exact ⟨t, rfl⟩
theorem encL_app (a b : List Ty) : encL (a ++ b) = encL a ++ encL b := by simp [encL_map]
theorem enc_cells (t : Ty) : t.enc.cells.length = 4 := by cases t; rfl
theorem encL_sized (l : List Ty) : sizedB 4 (encL l) = true := sizedB_of (fun d hd => by obtain ⟨t, rfl⟩ := encL_mem hd; exact enc_cells t)
theorem encL_bytes (l : List Ty) : isBytes (encL l) = false := by
 cases l with
 | nil => rfl
 | cons t r => cases t; rfl
theorem appT {pre : List Ty} {t : Ty} (hl : pre.length < 1000000000) : aAppend (env Prims.fast) false 30 [.own (encL pre), .dat (.slice [t.enc])] none = some ⟨.own (encL (pre ++ [t])), .keep⟩ := by
 rw [encL_app]
 refine ans_app (i := tiT) (ds := [t.enc]) (k := 3) tiT_eq rfl tiT_size ?_ ?_ (by kernel_rfl) ?_ ?_ ?_ (by simp)
 ·exact encL_sized [t]
 ·exact encL_sized pre
 ·have h1 : tiT.bytes <= 1000 := ble_to (by kernel_rfl)
  rw [encL_length]
  calc (pre.length + 1) * tiT.bytes <= 1000000000 * 1000 := Nat.mul_le_mul (by omega) h1
   _ <= 140737488355328 := by decide
 ·rw [encL_length]; simp [lim]; omega
 unfold byteOk
 rw [show encL pre ++ [t.enc] = encL (pre ++ [t]) by rw [encL_app]; rfl, encL_bytes]
theorem take_get {α : Type} {l : List α} {i : Nat} {t : α} (h : l[i]? = some t) : l.take (i + 1) = l.take i ++ [t] := by rw [List.take_add_one, h]; rfl
/-- What stands for variable ix under u binders. -/
def instAt (ls : List Ty) (ix : Int) (u : Nat) : Option Ty := match ltF ix (Int.ofNat u) with
 | true => none
 | false => ls[(ix - Int.ofNat u).toNat]?
mutual
def Ty.inst (ls : List Ty) : Ty -> Nat -> Ty
 | .mk k nm ix args, u => match eqF k 5, instAt ls ix u with
  | true, some t => t
  | _, _ => .mk k nm ix (instL ls k 0 args u)
def instL (ls : List Ty) (k : Int) : Nat -> List Ty -> Nat -> List Ty
 | _, [], _ => []
 | i, t :: r, u => t.inst ls (u + bindN k i) :: instL ls k (i + 1) r u
end
theorem wrap_sub {u j : Nat} (h : u + j < 9223372036854775808) : wrapF .i64 (Int.ofNat (u + j) - Int.ofNat u) = Int.ofNat j := by
 rw [wrapF_eq]
 rw [show (Int.ofNat (u + j) - Int.ofNat u : Int) = Int.ofNat j by simp; omega]
 exact wrap_i64 (by simp <;> omega) (by simp <;> omega)
def nilP : Dat := .flat (.pointer none)
theorem inst1_lo {ls : List Ty} {ix : Int} {u : Nat} (h : ltF ix (Int.ofNat u) = true) : Calls1 95 [iv ix, iv (Int.ofNat u), .ref [sl (encL ls)]] (.tup [.dat nilP, iv ix]) := by
 refine co [13] [] (x := .of Tryz.f95 ord95 live95) ?_; refine ox h ?_; exact fi
theorem inst1_hi {ls : List Ty} {j : Nat} {u : Nat} (hb : u + j < 1000000000) (h : ¬ j < (encL ls).length) : Calls1 95 [iv (Int.ofNat (u + j)), iv (Int.ofNat u), .ref [sl (encL ls)]] (.tup [.dat nilP, iv (Int.ofNat (u + j))]) := by
 have h1 := ltF_no (i := u + j) (L := u) (by omega)
 have h2 := ltF_no h
 have h4 : ltF (wrapF .i64 (Int.ofNat (u + j) - Int.ofNat u)) (Int.ofNat (encL ls).length) = false := by rw [wrap_sub (by omega)]; exact h2
 clear h
 refine co [13, 18] [] (x := .of Tryz.f95 ord95 live95) ?_; refine ox h1 ?_
 rcases ls with _ | ⟨v0, v1⟩ <;>
 ·refine ob h4 ?_; exact fi
theorem inst1_in {ls : List Ty} {j : Nat} {u : Nat} {t : Ty} (hb : u + j < 1000000000) (h : ls[j]? = some t) : Calls1 95 [iv (Int.ofNat (u + j)), iv (Int.ofNat u), .ref [sl (encL ls)]] (.tup [.ref t.cells, iv 0]) := by
 have h1 := ltF_no (i := u + j) (L := u) (by omega)
 have hj : j < (encL ls).length := by rw [encL_length]; exact (List.getElem?_eq_some_iff.1 h).1
 have h2 := ltF_yes hj
 have h4 : ltF (wrapF .i64 (Int.ofNat (u + j) - Int.ofNat u)) (Int.ofNat (encL ls).length) = true := by rw [wrap_sub (by omega)]; exact h2
 have h5 : aIndexAddr (env Prims.fast) 30 [.dat (.slice (encL ls)), .dat (.flat (.int .i64 (wrapF .i64 (Int.ofNat (u + j) - Int.ofNat u))))] = some ⟨.ref t.cells, .keep⟩ := by rw [wrap_sub (by omega)]; exact idxT h
 clear h hj
 refine co [13, 18] [22] (x := .of Tryz.f95 ord95 live95) ?_; refine ox h1 ?_
 rcases ls with _ | ⟨v0, v1⟩ <;>
 ·refine ob h4 ?_; refine oo h5 ?_; exact fi
noncomputable def hRepl : Hints := ⟨xmoves, ord94, xcaps, rowsOf xcaps 94⟩
def fnInst (ls : List Ty) : AVal := .fn (.func 95) [] [.ref [sl (encL ls)]]
def loRepl (k : Int) (nm : List UInt8) (ix : Int) (a : Dat) (pre : List Ty) : Heap := [(.loc 7, .cells [iv k, .dat (sb nm), iv ix, ownT pre]), (.loc 6, .cells [iv 0, .dat (sb []), iv 0, .dat nl]), (.loc 3, .cells [iv k, .dat (sb nm), iv ix, .dat a])]
def stRepl (ls : List Ty) (u : Nat) (k : Int) (nm : List UInt8) (ix : Int) (a : Dat) (n : Nat) (pre : List Ty) (i : Int) : FState := ⟨[(36, iv i), (35, iv (Int.ofNat n)), (34, .dat a), (7, .ptr (.loc 7) 0), (6, .ptr (.loc 6) 0), (3, .ptr (.loc 3) 0), (1, iv (Int.ofNat u)), (2, fnInst ls)], loRepl k nm ix a pre, [], 0⟩
def stReplX (ls : List Ty) (u : Nat) (k : Int) (nm : List UInt8) (ix : Int) (a : Dat) (n : Nat) (pre : List Ty) (i : Int) : FState := ⟨[(37, bv false), (36, iv i), (35, iv (Int.ofNat n)), (34, .dat a), (7, .ptr (.loc 7) 0), (6, .ptr (.loc 6) 0), (3, .ptr (.loc 3) 0), (1, iv (Int.ofNat u)), (2, fnInst ls)], loRepl k nm ix a pre, [], 0⟩
theorem repl_round {ls : List Ty} {u : Nat} {k : Int} {nm : List UInt8} {ix : Int} {l pre : List Ty} {i : Nat} {t t2 : Ty} (hi : i < (encL l).length) (ht : l[i]? = some t) (hc : Calls1 94 [.dat t.enc, iv (wrapF .i64 (Int.ofNat u + Int.ofNat (bindN k i))), fnInst ls] (.dat t2.enc)) (hp : pre.length < 1000000000) {T : Exit -> AState -> Prop}
  (e : T .normal ((stRepl ls u k nm ix (.slice (encL l)) (encL l).length (pre ++ [t2]) (wrapF .i64 (Int.ofNat i + 1))).toA Tryz.f94.ntmps)) :
  KD (roundOf Tryz.f94 0) T ((stRepl ls u k nm ix (.slice (encL l)) (encL l).length pre (Int.ofNat i)).toA Tryz.f94.ntmps) := by
 have h1 := ltF_yes hi
 have h2 := idxT ht
 have h3 := appT (t := t2) hp
 have h4 := c_binders k nm ix (.slice (encL l)) (.inr ⟨_, rfl⟩) i
 clear ht hi hp
 rcases pre with _ | ⟨d, r⟩ <;>
 ·refine run_of [37] [39, 52] (H := hRepl) (live := live94) (by kernel_rfl) ?_; refine ob h1 ?_; refine oo h2 ?_
  obtain ⟨v0, v1, v2, v3⟩ := t
  rcases v3 with _ | ⟨v8, v9⟩
  ·refine on h4 ?_; refine on hc ?_
   obtain ⟨v4, v5, v6, v7⟩ := t2
   refine oo h3 ?_; exact oe e
  refine on h4 ?_; refine on hc ?_
  obtain ⟨v10, v11, v12, v13⟩ := t2
  refine oo h3 ?_; exact oe e
theorem repl_last {ls : List Ty} {u : Nat} {k : Int} {nm : List UInt8} {ix : Int} {a : Dat} {n : Nat} {pre : List Ty} {T : Exit -> AState -> Prop}
  (e : T (.exit 0) ((stReplX ls u k nm ix a n pre (Int.ofNat n)).toA Tryz.f94.ntmps)) :
  KD (roundOf Tryz.f94 0) T ((stRepl ls u k nm ix a n pre (Int.ofNat n)).toA Tryz.f94.ntmps) := by
 have h1 := ltF_no (i := n) (L := n) (by omega)
 rcases pre with _ | ⟨d, r⟩ <;>
 ·refine run_of [37] [] (H := hRepl) (live := live94) (by kernel_rfl) ?_; refine ob h1 ?_; exact oe e
mutual
def Ty.ixOk : Ty -> Prop
 | .mk k _ ix args => (eqF k 5 = true -> ltF ix 500000000 = true) /\ ixOkL args
def ixOkL : List Ty -> Prop
 | [] => True
 | t :: r => t.ixOk /\ ixOkL r
end
theorem instL_get {ls : List Ty} {k : Int} {u : Nat} : ∀ {l : List Ty} {i j : Nat} {t : Ty}, l[i]? = some t -> (instL ls k j l u)[i]? = some (t.inst ls (u + bindN k (j + i)))
 | [], i, j, t, h => by simp at h
 | x :: r, 0, j, t, h => by simp at h; subst h; simp [instL]
 | x :: r, i + 1, j, t, h => by
  simp only [instL, List.getElem?_cons_succ] at h ⊢
  rw [instL_get h, show j + 1 + i = j + (i + 1) by omega]
theorem instL_length {ls : List Ty} {k : Int} {u : Nat} : ∀ {l : List Ty} {j : Nat}, (instL ls k j l u).length = l.length
 | [], _ => by simp [instL]
 | x :: r, _ => by simp [instL, instL_length]
theorem bindN_le (k : Int) (i : Nat) : bindN k i <= 1 := by unfold bindN; split <;> omega
theorem repl_loop {ls : List Ty} {u : Nat} {k : Int} {nm : List UInt8} {ix : Int} {l : List Ty} {a : Dat} (ha : a = sl (encL l)) (hu : u < 500000000) (hb : l.length < 1000000000)
  (ih : ∀ t ∈ l, ∀ v, v <= u + 1 -> Calls1 94 [.dat t.enc, iv (Int.ofNat v), fnInst ls] (.dat (t.inst ls v).enc)) :
  KD (.loop (roundOf Tryz.f94 0)) (fun e s => e = .exit 0 /\ s = (stReplX ls u k nm ix a (encL l).length (instL ls k 0 l u) (Int.ofNat (encL l).length)).toA Tryz.f94.ntmps)
   ((stRepl ls u k nm ix a (encL l).length [] (Int.ofNat 0)).toA Tryz.f94.ntmps) := by
 refine loop_count (St := fun i => (stRepl ls u k nm ix a (encL l).length ((instL ls k 0 l u).take i) (Int.ofNat i)).toA Tryz.f94.ntmps) (encL l).length ?_ ?_ (i := 0) (Nat.zero_le _)
 ·intro i hi
  obtain ⟨t, ht, hm⟩ := get_mem hi
  have hbn := bindN_le k i
  have hg := instL_get (ls := ls) (k := k) (u := u) (j := 0) ht
  rw [Nat.zero_add] at hg
  have ha2 : a = .slice (encL l) := by
   rw [ha]
   cases l with
   | nil => simp at ht
   | cons x r => rfl
  subst ha2
  refine repl_round (t2 := t.inst ls (u + bindN k i)) hi ht ?_ (by rw [List.length_take, instL_length]; omega) ?_
  ·rw [wrap_add (by omega)]; exact ih t hm _ (by omega)
  rw [encL_length] at hi
  rw [wrap_of (by omega), ← take_get hg]
  rfl
 refine repl_last ⟨rfl, ?_⟩
 rw [encL_length, show l.length = (instL ls k 0 l u).length by rw [instL_length], List.take_length]
theorem repl_none {ls : List Ty} {u : Nat} {k : Int} {nm : List UInt8} {ix : Int} {l : List Ty} {ck : Bool} (hk : eqF k 5 = ck) (hc : ck = true -> Calls1 95 [iv ix, iv (Int.ofNat u), .ref [sl (encL ls)]] (.tup [.dat nilP, iv ix])) {r : List Ty}
  (hl : KD (.loop (roundOf Tryz.f94 0)) (fun e s => e = .exit 0 /\ s = (stReplX ls u k nm ix (sl (encL l)) (encL l).length r (Int.ofNat (encL l).length)).toA Tryz.f94.ntmps)
   ((stRepl ls u k nm ix (sl (encL l)) (encL l).length [] (Int.ofNat 0)).toA Tryz.f94.ntmps)) :
  Calls1 94 [.dat (Ty.mk k nm ix l).enc, iv (Int.ofNat u), fnInst ls] (.dat (Ty.mk k nm ix r).enc) := by
 refine co [16] [] (x := .of Tryz.f94 ord94 live94) ?_
 rcases l with _ | ⟨v4, v5⟩
 ·refine ob hk ?_
  cases ck
  ·refine lo hl ?_; rintro ex s ⟨rfl, rfl⟩; refine ⟨_, rfl, ?_⟩
   rcases r with _ | ⟨v2, v3⟩ <;>
   ·exact fi
  refine on (hc rfl) ?_; refine lo hl ?_; rintro ex s ⟨rfl, rfl⟩; refine ⟨_, rfl, ?_⟩
  rcases r with _ | ⟨v0, v1⟩ <;>
  ·exact fi
 refine ob hk ?_
 cases ck
 ·refine lo hl ?_; rintro ex s ⟨rfl, rfl⟩; refine ⟨_, rfl, ?_⟩
  rcases r with _ | ⟨v8, v9⟩ <;>
  ·exact fi
 refine on (hc rfl) ?_; refine lo hl ?_; rintro ex s ⟨rfl, rfl⟩; refine ⟨_, rfl, ?_⟩
 rcases r with _ | ⟨v6, v7⟩ <;>
 ·exact fi
theorem repl_some {ls : List Ty} {u : Nat} {k : Int} {nm : List UInt8} {ix : Int} {l : List Ty} {t : Ty} (hk : eqF k 5 = true) (hc : Calls1 95 [iv ix, iv (Int.ofNat u), .ref [sl (encL ls)]] (.tup [.ref t.cells, iv 0])) (hcl : Calls1 125 [.dat t.enc] (.dat t.enc)) :
  Calls1 94 [.dat (Ty.mk k nm ix l).enc, iv (Int.ofNat u), fnInst ls] (.dat t.enc) := by
 refine co [16] [] (x := .of Tryz.f94 ord94 live94) ?_
 rcases l with _ | ⟨v6, v7⟩
 ·refine ob hk ?_; refine on hc ?_
  obtain ⟨v0, v1, v2, v3⟩ := t
  refine on hcl ?_
  rcases v3 with _ | ⟨v4, v5⟩ <;>
  ·exact fi
 refine ob hk ?_; refine on hc ?_
 obtain ⟨v8, v9, v10, v11⟩ := t
 refine on hcl ?_
 rcases v11 with _ | ⟨v12, v13⟩ <;>
 ·exact fi
theorem instAt_lo {ls : List Ty} {ix : Int} {u : Nat} (h : ltF ix (Int.ofNat u) = true) : instAt ls ix u = none := by unfold instAt; rw [h]
theorem instAt_at {ls : List Ty} {u j : Nat} : instAt ls (Int.ofNat (u + j)) u = ls[j]? := by
 unfold instAt
 rw [ltF_no (by omega)]
 show ls[(Int.ofNat (u + j) - Int.ofNat u).toNat]? = _
 rw [show (Int.ofNat (u + j) - Int.ofNat u : Int) = Int.ofNat j by simp; omega]
 rfl
theorem inst_none {ls : List Ty} {k : Int} {nm : List UInt8} {ix : Int} {l : List Ty} {u : Nat} (h : eqF k 5 = false ∨ instAt ls ix u = none) : (Ty.mk k nm ix l).inst ls u = .mk k nm ix (instL ls k 0 l u) := by
 rw [Ty.inst]
 rcases h with h | h
 ·rw [h]
 rw [h]; cases eqF k 5 <;> rfl
theorem inst_some {ls : List Ty} {k : Int} {nm : List UInt8} {ix : Int} {l : List Ty} {u : Nat} {t : Ty} (hk : eqF k 5 = true) (h : instAt ls ix u = some t) : (Ty.mk k nm ix l).inst ls u = t := by
 rw [Ty.inst, hk, h]
theorem ltF_split {ix : Int} {u : Nat} (h : ltF ix (Int.ofNat u) = false) (h2 : ltF ix 500000000 = true) : ∃ j : Nat, ix = Int.ofNat (u + j) /\ u + j < 500000000 := by
 rw [ltF_eq] at h h2
 simp only [decide_eq_false_iff_not, decide_eq_true_eq] at h h2
 refine ⟨(ix - u).toNat, ?_, ?_⟩
 ·simp only [Int.ofNat_eq_natCast] at h ⊢; omega
 simp only [Int.ofNat_eq_natCast] at h; omega
mutual
theorem c_replace {ls : List Ty} (hls : ∀ t ∈ ls, Calls1 125 [.dat t.enc] (.dat t.enc)) : ∀ (t : Ty) (u : Nat), t.size < 1000000000 -> t.ixOk -> u + t.depth < 500000000 -> Calls1 94 [.dat t.enc, iv (Int.ofNat u), fnInst ls] (.dat (t.inst ls u).enc)
 | .mk k nm ix l, u, hs, hx, hd => by
  have hsl : sizeL l < 1000000000 := by simp only [Ty.size] at hs; omega
  have hlen := len_size l
  simp only [Ty.depth] at hd
  simp only [Ty.ixOk] at hx
  have ih := c_replaceL hls l u hsl hx.2 (by omega)
  have hl := repl_loop (ls := ls) (u := u) (k := k) (nm := nm) (ix := ix) (l := l) (a := sl (encL l)) rfl (by omega) (by omega) ih
  cases hk : eqF k 5 with
  | false =>
   rw [inst_none (.inl hk)]
   exact repl_none hk (fun h => by simp at h) hl
  | true =>
   cases hlo : ltF ix (Int.ofNat u) with
   | true =>
    rw [inst_none (.inr (instAt_lo hlo))]
    exact repl_none hk (fun _ => inst1_lo hlo) hl
   | false =>
    obtain ⟨j, rfl, hj⟩ := ltF_split hlo (hx.1 hk)
    by_cases hin : j < ls.length
    ·have hg : ls[j]? = some ls[j] := List.getElem?_eq_getElem hin
     rw [inst_some hk (instAt_at.trans hg)]
     exact repl_some hk (inst1_in (by omega) hg) (hls _ (List.getElem_mem hin))
    rw [inst_none (.inr (instAt_at.trans (List.getElem?_eq_none (by omega))))]
    exact repl_none hk (fun _ => inst1_hi (by omega) (by rw [encL_length]; exact hin)) hl
theorem c_replaceL {ls : List Ty} (hls : ∀ t ∈ ls, Calls1 125 [.dat t.enc] (.dat t.enc)) : ∀ (l : List Ty) (u : Nat), sizeL l < 1000000000 -> ixOkL l -> u + depthL l + 1 < 500000000 -> ∀ t ∈ l, ∀ v, v <= u + 1 -> Calls1 94 [.dat t.enc, iv (Int.ofNat v), fnInst ls] (.dat (t.inst ls v).enc)
 | [], _, _, _, _, t, ht, _, _ => by simp at ht
 | x :: r, u, hs, hx, hd, t, ht, v, hv => by
  simp only [sizeL] at hs
  simp only [depthL] at hd
  simp only [ixOkL] at hx
  rcases List.mem_cons.1 ht with h1 | ht
  ·rw [h1]; exact c_replace hls x v (by omega) hx.1 (by omega)
  exact c_replaceL hls r u (by omega) hx.2 (by omega) t ht v hv
end
theorem c_Inst {t : Ty} {ls : List Ty} (hls : ∀ t ∈ ls, Calls1 125 [.dat t.enc] (.dat t.enc)) (hs : t.size < 1000000000) (hx : t.ixOk) (hd : t.depth < 500000000) : Calls1 60 [.dat t.enc, .dat (sl (encL ls))] (.dat (t.inst ls 0).enc) := by
 have h := c_replace hls t 0 hs hx (by omega)
 generalize t.inst ls 0 = r at h
 clear hls hs hx hd
 refine co [] [] (x := .of Tryz.f60 ord60 live60) ?_
 obtain ⟨v0, v1, v2, v3⟩ := t
 rcases v3 with _ | ⟨v18, v19⟩
 ·rcases ls with _ | ⟨v10, v11⟩
  ·refine on h ?_
   obtain ⟨v4, v5, v6, v7⟩ := r
   rcases v7 with _ | ⟨v8, v9⟩ <;>
   ·exact fi
  refine on h ?_
  obtain ⟨v12, v13, v14, v15⟩ := r
  rcases v15 with _ | ⟨v16, v17⟩ <;>
  ·exact fi
 rcases ls with _ | ⟨v26, v27⟩
 ·refine on h ?_
  obtain ⟨v20, v21, v22, v23⟩ := r
  rcases v23 with _ | ⟨v24, v25⟩ <;>
  ·exact fi
 refine on h ?_
 obtain ⟨v28, v29, v30, v31⟩ := r
 rcases v31 with _ | ⟨v32, v33⟩ <;>
 ·exact fi
mutual
theorem inst_nil : ∀ (t : Ty) (u : Nat), t.inst [] u = t
 | .mk k nm ix l, u => by
  have h : instAt [] ix u = none := by unfold instAt; split <;> simp
  rw [inst_none (.inr h), instL_nil l]
theorem instL_nil : ∀ (l : List Ty) {k : Int} {i u : Nat}, instL [] k i l u = l
 | [], _, _, _ => by rw [instL]
 | t :: r, k, i, u => by rw [instL, inst_nil t, instL_nil r]
end
theorem c_cloneTerm {t : Ty} (hs : t.size < 1000000000) (hx : t.ixOk) (hd : t.depth < 500000000) : Calls1 58 [.dat t.enc] (.dat t.enc) := by
 have h := c_Inst (t := t) (ls := []) (fun t ht => by simp at ht) hs hx hd
 rw [inst_nil] at h
 clear hs hx hd
 refine co [] [] (x := .of Tryz.f58 ord58 live58) ?_
 obtain ⟨v0, v1, v2, v3⟩ := t
 rcases v3 with _ | ⟨v4, v5⟩ <;>
 ·refine on h ?_; exact fi
structure Fld where
 nm : List UInt8
 ty : Ty
structure Dcl where
 nm : List UInt8
 ar : Int
 sup : Ty
 con : Bool
 fl : List Fld
def bl (b : Bool) : Dat := .flat (.bool b)
def Fld.cells (f : Fld) : List Dat := sb f.nm :: f.ty.cells
def Fld.enc (f : Fld) : Dat := .agg f.cells
def encF : List Fld -> List Dat
 | [] => []
 | f :: r => f.enc :: encF r
def Dcl.cells (d : Dcl) : List Dat := sb d.nm :: i64 d.ar :: (d.sup.cells ++ [bl d.con, sl (encF d.fl)])
def Dcl.enc (d : Dcl) : Dat := .agg d.cells
def Dcl.zero : Dcl := ⟨[], 0, .mk 0 [] 0 [], false, []⟩
def av (l : List Dat) : List AVal := l.map .dat
def rowC : List Dcl -> List Dat
 | [] => []
 | d :: r => d.cells ++ rowC r
def ent (d : Dcl) (i : Nat) : Go.Value × Dat := (.string ⟨⟨d.nm⟩⟩, i64 (Int.ofNat i))
def idxD : List Dcl -> Nat -> List (Go.Value × Dat)
 | [], _ => []
 | d :: r, i => ent d i :: idxD r (i + 1)
def hP : AVal := .ptr (.out 1) 0
/-- A hierarchy: the row, the object, the index. -/
def hG (r : Nat) (cs : List AVal) (es : List (Go.Value × Dat)) (n : Nat) : Heap := [(.out r, .cells cs), (.out 1, .cells [.win (.out r) 8 0 n, .map (.out 0)]), (.out 0, .map es)]
theorem newL_av (k : Nat) : ∀ cs : List Dat, newL k (av cs) = false
 | [] => rfl
 | d :: r => by show (newV k (.dat d) || newL k (av r)) = false; rw [newL_av k r]; rfl
theorem rnL_av (ρ : Nat -> Nat) : ∀ cs : List Dat, rnL ρ (av cs) = av cs
 | [] => rfl
 | d :: r => by show rnV ρ (.dat d) :: rnL ρ (av r) = _; rw [rnL_av ρ r]; rfl
theorem gcG {v : AVal} {r m n : Nat} {cs : List Dat} {es : List (Go.Value × Dat)} (hv : newV m v = false) (hr : Nat.blt r m = true) (hm : Nat.blt 1 m = true) : gcR m ⟨v, hG r (av cs) es n, m⟩ = ⟨v, hG r (av cs) es n, m⟩ := by
 have h0 : Nat.blt 0 m = true := by simp [Nat.blt_eq] at *; omega
 have hr2 : Nat.ble m r = false := by rw [Nat.blt_eq] at hr; rw [Bool.eq_false_iff, ne_eq, Nat.ble_eq]; omega
 have hr3 : Nat.ble m 0 = false := by rw [Nat.blt_eq] at h0; rw [Bool.eq_false_iff, ne_eq, Nat.ble_eq]; omega
 have h1 : oldObjs m (hG r (av cs) es n) = hG r (av cs) es n := by simp [oldObjs, hG, oldName, h0, hr, hm]
 have h2 : newHeap m (hG r (av cs) es n) = false := by simp [newHeap, hG, newO, newL_av, newL, newV, hr2, hr3]
 unfold gcR
 dsimp only
 rw [h1, h2, hv]
 rfl
def dRaw (nm : List UInt8) (ar k : Int) (nm2 : List UInt8) (ix : Int) (la : List Dat) (con : Bool) (lb : List Dat) : Dat := .agg [sb nm, i64 ar, i64 k, sb nm2, i64 ix, sl la, bl con, sl lb]
theorem find_yes {cs : List Dat} {es : List (Go.Value × Dat)} {n i : Nat} {nm nm1 nm2 : List UInt8} {ar k ix : Int} {con : Bool} {la lb : List Dat}
  (h1 : aLookup (env Prims.fast) 80 true [.map (.out 0), .dat (sb nm)] (some (.map es)) = some ⟨.tup [.dat (i64 (Int.ofNat i)), bv true], .keep⟩)
  (h2 : aIndexAddr (env Prims.fast) 23 [.win (.out 2) 8 0 n, iv (Int.ofNat i)] = some ⟨.ptr (.out 2) (0 + i * 8), .keep⟩)
  (h3 : aLoad (env Prims.fast) false 35 [.ptr (.out 2) (0 + i * 8)] (some (.cells (av cs))) = some ⟨.dat (dRaw nm1 ar k nm2 ix la con lb), .keep⟩)
  : KC 49 [hP, .dat (sb nm)] (hG 2 (av cs) es n) 3 (XQ ⟨.tup [.dat (dRaw nm1 ar k nm2 ix la con lb), bv true], hG 2 (av cs) es n, 3⟩) := by
 have hg := gcG (v := .tup [.dat (dRaw nm1 ar k nm2 ix la con lb), bv true]) (r := 2) (m := 3) (n := n) (cs := cs) (es := es) rfl rfl rfl
 rcases la with _ | ⟨x, la⟩ <;>
 ·rcases lb with _ | ⟨y, lb⟩ <;>
  ·refine co [] [14, 25, 26] (x := .of Tryz.f49 ord49 live49) ?_; refine oo h1 ?_; refine oo h2 ?_; refine oo h3 ?_
   exact ok_fin (by kernel_rfl) hg
theorem find_no {cs : List Dat} {es : List (Go.Value × Dat)} {n : Nat} {nm : List UInt8} 
  (h1 : aLookup (env Prims.fast) 80 true [.map (.out 0), .dat (sb nm)] (some (.map es)) = some ⟨.tup [.dat (i64 0), bv false], .keep⟩)
  : KC 49 [hP, .dat (sb nm)] (hG 2 (av cs) es n) 3 (XQ ⟨.tup [.dat Dcl.zero.enc, bv false], hG 2 (av cs) es n, 3⟩) := by
 have hg := gcG (v := .tup [.dat Dcl.zero.enc, bv false]) (r := 2) (m := 3) (n := n) (cs := cs) (es := es) rfl rfl rfl
 refine co [] [14] (x := .of Tryz.f49 ord49 live49) ?_; refine oo h1 ?_
 exact ok_fin (by kernel_rfl) hg
def posD : List Dcl -> List UInt8 -> Option Nat
 | [], _ => none
 | d :: r, nm => match eqB nm d.nm with | true => some 0 | false => (posD r nm).map (· + 1)
def findD : List Dcl -> List UInt8 -> Option Dcl
 | [], _ => none
 | d :: r, nm => match eqB nm d.nm with | true => some d | false => findD r nm
theorem posD_get : ∀ {ds : List Dcl} {nm : List UInt8} {k : Nat}, posD ds nm = some k -> ∃ d, ds[k]? = some d /\ findD ds nm = some d /\ eqB nm d.nm = true
 | [], nm, k, h => by simp [posD] at h
 | d :: r, nm, k, h => by
  unfold posD at h
  unfold findD
  cases he : eqB nm d.nm with
  | true => rw [he] at h; simp at h; subst h; exact ⟨d, rfl, rfl, he⟩
  | false =>
   rw [he] at h
   simp only [Option.map_eq_some_iff] at h
   obtain ⟨j, hj, rfl⟩ := h
   exact posD_get hj
theorem posD_none : ∀ {ds : List Dcl} {nm : List UInt8}, posD ds nm = none -> findD ds nm = none
 | [], nm, h => rfl
 | d :: r, nm, h => by
  unfold posD at h
  unfold findD
  cases he : eqB nm d.nm with
  | true => rw [he] at h; simp at h
  | false =>
   rw [he] at h
   simp only [Option.map_eq_none_iff] at h
   exact posD_none h
theorem findF_idx : ∀ (ds : List Dcl) (nm : List UInt8) (i j : Nat), findF .string (.string ⟨⟨nm⟩⟩) (idxD ds i) j = some ((posD ds nm).map fun k => (j + k, i64 (Int.ofNat (i + k))))
 | [], nm, i, j => rfl
 | d :: r, nm, i, j => by
  show (match sameF .string (.string ⟨⟨nm⟩⟩) (.string ⟨⟨d.nm⟩⟩) with | some true => some (some (j, i64 (Int.ofNat i))) | some false => findF .string (.string ⟨⟨nm⟩⟩) (idxD r (i + 1)) (j + 1) | none => none) = _
  rw [show sameF .string (.string ⟨⟨nm⟩⟩) (.string ⟨⟨d.nm⟩⟩) = some (eqB nm d.nm) from rfl]
  unfold posD
  cases he : eqB nm d.nm with
  | true => rfl
  | false =>
   dsimp only
   rw [findF_idx r nm (i + 1) (j + 1)]
   cases posD r nm with
   | none => rfl
   | some k => simp only [Option.map_some]; rw [show j + 1 + k = j + (k + 1) by omega, show i + 1 + k = i + (k + 1) by omega]
theorem look_some {ds : List Dcl} {nm : List UInt8} {k : Nat} (h : posD ds nm = some k) : aLookup (env Prims.fast) 80 true [.map (.out 0), .dat (sb nm)] (some (.map (idxD ds 0))) = some ⟨.tup [.dat (i64 (Int.ofNat k)), bv true], .keep⟩ := by
 have h1 : aLookup (env Prims.fast) 80 true [.map (.out 0), .dat (sb nm)] (some (.map (idxD ds 0))) = (match findF .string (.string ⟨⟨nm⟩⟩) (idxD ds 0) 0 with
  | some (some (_, d)) => some (found true d true) | some none => some ⟨.tup [.dat (i64 0), bv false], .keep⟩ | none => none) := by kernel_rfl
 rw [h1, findF_idx, h]
 simp only [Option.map_some, Nat.zero_add]
 rfl
theorem look_none {ds : List Dcl} {nm : List UInt8} (h : posD ds nm = none) : aLookup (env Prims.fast) 80 true [.map (.out 0), .dat (sb nm)] (some (.map (idxD ds 0))) = some ⟨.tup [.dat (i64 0), bv false], .keep⟩ := by
 have h1 : aLookup (env Prims.fast) 80 true [.map (.out 0), .dat (sb nm)] (some (.map (idxD ds 0))) = (match findF .string (.string ⟨⟨nm⟩⟩) (idxD ds 0) 0 with
  | some (some (_, d)) => some (found true d true) | some none => some ⟨.tup [.dat (i64 0), bv false], .keep⟩ | none => none) := by kernel_rfl
 rw [h1, findF_idx, h]
 rfl
theorem idx_win {r n k : Nat} (h : k < n) : aIndexAddr (env Prims.fast) 23 [.win (.out r) 8 0 n, iv (Int.ofNat k)] = some ⟨.ptr (.out r) (0 + k * 8), .keep⟩ := by
 have h1 : aIndexAddr (env Prims.fast) 23 [.win (.out r) 8 0 n, iv (Int.ofNat k)] = (if (Nat.blt k n && Nat.beq 8 8) = true then some ⟨.ptr (.out r) (0 + k * 8), .keep⟩ else none) := by kernel_rfl
 rw [h1, if_pos]
 simp [Nat.blt_eq, h]
theorem rowC_length : ∀ ds : List Dcl, (rowC ds).length = ds.length * 8
 | [] => rfl
 | d :: r => by
  have : d.cells.length = 8 := by obtain ⟨a, b, ⟨e, f, g, h⟩, i, j⟩ := d; rfl
  simp only [rowC, List.length_append, this, rowC_length r, List.length_cons]
  omega
theorem rowC_part : ∀ {ds : List Dcl} {k : Nat} {d : Dcl} {tl : List Dat}, ds[k]? = some d -> ((rowC ds ++ tl).drop (0 + k * 8)).take 8 = d.cells
 | [], k, d, tl, h => by simp at h
 | x :: r, k, d, tl, h => by
  have h8 : x.cells.length = 8 := by obtain ⟨a, b, ⟨e, f, g, h⟩, i, j⟩ := x; rfl
  cases k with
  | zero =>
   simp at h; subst h
   simp only [rowC, Nat.zero_mul, Nat.add_zero, List.drop_zero, List.append_assoc]
   rw [List.take_append_of_le_length (by omega), List.take_of_length_le (by omega)]
  | succ k =>
   simp at h
   have := rowC_part (tl := tl) h
   rw [← this]
   simp only [rowC, List.append_assoc]
   rw [show 0 + (k + 1) * 8 = x.cells.length + (0 + k * 8) by omega, List.drop_length_add_append]
theorem takeL_av (n : Nat) : ∀ l : List Dat, takeL n (av l) = av (l.take n) := by
 intro l; induction l generalizing n with
 | nil => cases n <;> rfl
 | cons x r ih => cases n with | zero => rfl | succ n => show AVal.dat x :: takeL n (av r) = _; rw [ih]; rfl
theorem dropL_av (n : Nat) : ∀ l : List Dat, dropL n (av l) = av (l.drop n) := by
 intro l; induction l generalizing n with
 | nil => cases n <;> rfl
 | cons x r ih => cases n with | zero => rfl | succ n => show dropL n (av r) = _; rw [ih]; rfl
theorem load_row {ds : List Dcl} {k r : Nat} {d : Dcl} {tl : List Dat} (h : ds[k]? = some d) : aLoad (env Prims.fast) false 35 [.ptr (.out r) (0 + k * 8)] (some (.cells (av (rowC ds ++ tl)))) = some ⟨.dat d.enc, .keep⟩ := by
 have h1 : ∀ cs, aLoad (env Prims.fast) false 35 [.ptr (.out r) (0 + k * 8)] (some (.cells cs)) = ofA (if (takeL 8 (dropL (0 + k * 8) cs)).length = 8 then some (mkAgg (unOwnL (takeL 8 (dropL (0 + k * 8) cs)))) else none) := fun cs => by kernel_rfl
 rw [h1, dropL_av, takeL_av, rowC_part h]
 obtain ⟨a, b, ⟨e, f, g, i⟩, j, l⟩ := d
 rcases i with _ | ⟨x, i⟩ <;> rcases l with _ | ⟨y, l⟩ <;> rfl
def dOf (o : Option Dcl) : Dcl := match o with | some d => d | none => Dcl.zero
def isS {α : Type} (o : Option α) : Bool := match o with | some _ => true | none => false
def hH (r : Nat) (ds : List Dcl) (tl : List Dat) : Heap := hG r (av (rowC ds ++ tl)) (idxD ds 0) ds.length
theorem c_find2 (ds : List Dcl) (tl : List Dat) (nm : List UInt8) : KC 49 [hP, .dat (sb nm)] (hH 2 ds tl) 3 (XQ ⟨.tup [.dat (dOf (findD ds nm)).enc, bv (isS (findD ds nm))], hH 2 ds tl, 3⟩) := by
 cases h : posD ds nm with
 | none =>
  rw [posD_none h]
  exact find_no (look_none h)
 | some k =>
  obtain ⟨d, hd, hf, _⟩ := posD_get h
  rw [hf]
  have hk : k < ds.length := by
   rcases Nat.lt_or_ge k ds.length with h | h
   ·exact h
   rw [List.getElem?_eq_none h] at hd; simp at hd
  have h3 := load_row (r := 2) (tl := tl) hd
  obtain ⟨a, b, ⟨e, f, g, i⟩, j, l⟩ := d
  exact find_yes (look_some h) (idx_win hk) h3
theorem ACalls.reheap {g : FuncId} {args : List AVal} {heap : Heap} {next : Nat} {Q Q' : AVal -> Heap -> Nat -> Prop} (h : KC g args heap next Q) (hq : ∀ v h m, Q v h m -> ∃ h2, h.Perm h2 /\ Q' v h2 m) : KC g args heap next Q' := by
 intro w R N cargs bsA bsH bsF ha hh hnd hnx hg hF
 refine (h w R N cargs bsA bsH bsF ha hh hnd hnx hg hF).mono ?_
 rintro e w' ⟨v, cv, h1, next', R', N', bsV, bsH', rfl, hq1, hv, hh', hnd', hnx', hk, hN⟩
 obtain ⟨h2, hp, hq2⟩ := hq _ _ _ hq1
 obtain ⟨bs2, k1, k2⟩ := hh'.perm hp
 refine ⟨v, cv, h2, next', R', N', bsV, bs2, rfl, hq2, hv, k1, ?_, hnx', hk, hN⟩
 exact (List.Perm.nodup_iff (List.Perm.append_left _ (List.Perm.append_right _ k2))).1 hnd'
def toR (r o : Nat) : Nat := match Nat.beq o 2 with | true => r | false => o
abbrev CallsR (g : FuncId) (args : List AVal) (cs : List Dat) (es : List (Go.Value × Dat)) (n : Nat) (v : AVal) : Prop := KC g args (hG 2 (av cs) es n) 3 (XQ ⟨v, hG 2 (av cs) es n, 3⟩)
/-- What only reads serves under another name of the row, beside other objects. -/
theorem ro_move {g : FuncId} {args : List AVal} {v : AVal} {cs : List Dat} {es : List (Go.Value × Dat)} {n r m : Nat} (ha : newL 3 args = false) (he : rnL (toR r) args = args) (hv : rnV (liftN (toR r) 3 m) v = v) (pre : Heap) (h : CallsR g args cs es n v) :
  KC g args (pre ++ hG r (av cs) es n) m (XQ ⟨v, pre ++ hG r (av cs) es n, m⟩) := by
 have e1 : ∀ ρ : Nat -> Nat, ρ 0 = 0 -> ρ 1 = 1 -> ρ 2 = r -> rnH ρ (hG 2 (av cs) es n) = hG r (av cs) es n := by
  intro ρ h0 h1 h2
  simp [hG, rnH, rnO, rnN, rnL_av, rnL, rnV, h0, h1, h2]
 have hf := ACalls.frame h (toR r) (heap := pre ++ hG r (av cs) es n) (rest := pre) (next := m) (by rw [e1 _ rfl rfl rfl]; exact List.perm_append_comm) (by rfl) (by simp [newHeap, hG, newO, newL_av, newL, newV]; exact ⟨rfl, rfl⟩) (by rfl) ha
 rw [he] at hf
 refine ACalls.reheap hf ?_
 rintro v' h' m' ⟨v0, h1, n1, ⟨rfl, rfl, rfl⟩, rfl, rfl, rfl⟩
 rw [hv, e1 _ rfl rfl rfl]
 exact ⟨_, List.perm_append_comm, rfl, rfl, rfl⟩
theorem c_find (r m : Nat) (pre : Heap) (ds : List Dcl) (tl : List Dat) (nm : List UInt8) : KC 49 [hP, .dat (sb nm)] (pre ++ hH r ds tl) m (XQ ⟨.tup [.dat (dOf (findD ds nm)).enc, bv (isS (findD ds nm))], pre ++ hH r ds tl, m⟩) :=
 ro_move rfl rfl rfl pre (c_find2 ds tl nm)
theorem gcB (v : AVal) (cs : List Dat) (es : List (Go.Value × Dat)) (n : Nat) (hv : newV 3 v = false) : gcR 3 ⟨v, hG 2 (av cs) es n, 3⟩ = ⟨v, hG 2 (av cs) es n, 3⟩ := gcG hv rfl rfl
theorem declares_yes {cs : List Dat} {es : List (Go.Value × Dat)} {n : Nat} {nm : List UInt8} {k ix : Int} {l : List Dat} {nm1 nm2 : List UInt8} {ar k1 ix1 : Int} {con c : Bool} {la lb : List Dat}
  (hf : CallsR 49 [hP, .dat (sb nm)] cs es n (.tup [.dat (dRaw nm1 ar k1 nm2 ix1 la con lb), bv true])) (hc : eqF ar (Int.ofNat l.length) = c) :
  CallsR 59 [hP, .dat (.agg [i64 k, sb nm, i64 ix, sl l])] cs es n (bv c) := by
 have hg := fun b => gcB (bv b) cs es n rfl
 have hg1 := hg true
 have hg2 := hg false
 rcases l with _ | ⟨z, l⟩ <;>
 ·rcases la with _ | ⟨x, la⟩ <;>
  ·rcases lb with _ | ⟨y, lb⟩ <;>
   ·refine co [21] [] (x := .of Tryz.f59 ord59 live59) ?_; refine oh hf ?_; refine ob hc ?_
    cases c
    ·exact ok_fin (by kernel_rfl) hg2
    exact ok_fin (by kernel_rfl) hg1
theorem declares_no {cs : List Dat} {es : List (Go.Value × Dat)} {n : Nat} {nm : List UInt8} {k ix : Int} {l : List Dat}
  (hf : CallsR 49 [hP, .dat (sb nm)] cs es n (.tup [.dat Dcl.zero.enc, bv false])) :
  CallsR 59 [hP, .dat (.agg [i64 k, sb nm, i64 ix, sl l])] cs es n (bv false) := by
 have hg := gcB (bv false) cs es n rfl
 rcases l with _ | ⟨z, l⟩ <;>
 ·refine co [] [] (x := .of Tryz.f59 ord59 live59) ?_; refine oh hf ?_
  exact ok_fin (by kernel_rfl) hg
/-! ### A search below a closure that reads the hierarchy -/
def box : Name × AObj := (.out 3, .cells [hP])
def hB (cs : List Dat) (es : List (Go.Value × Dat)) (n : Nat) : Heap := box :: hG 2 (av cs) es n
def bP : AVal := .ptr (.out 3) 0
theorem gcC (v : AVal) (cs : List Dat) (es : List (Go.Value × Dat)) (n : Nat) (hv : newV 4 v = false) : gcR 4 ⟨v, hB cs es n, 4⟩ = ⟨v, hB cs es n, 4⟩ := by
 have h1 : oldObjs 4 (hB cs es n) = hB cs es n := rfl
 have h2 : newHeap 4 (hB cs es n) = false := by simp [newHeap, hB, hG, newO, newL_av, newL, newV, box, hP]; exact ⟨rfl, rfl, rfl⟩
 unfold gcR
 dsimp only
 rw [h1, h2, hv]
 rfl
theorem gcD (v : AVal) (cs : List Dat) (es : List (Go.Value × Dat)) (n : Nat) (hv : newV 3 v = false) : gcR 3 ⟨v, hB cs es n, 4⟩ = ⟨v, hG 2 (av cs) es n, 3⟩ := by
 have h1 : oldObjs 3 (hB cs es n) = hG 2 (av cs) es n := rfl
 have h2 : newHeap 3 (hG 2 (av cs) es n) = false := by simp [newHeap, hG, newO, newL_av, newL, newV]; exact ⟨rfl, rfl⟩
 unfold gcR
 dsimp only
 rw [h1, h2, hv]
 rfl
abbrev CallsB (g : FuncId) (args : List AVal) (cs : List Dat) (es : List (Go.Value × Dat)) (n : Nat) (v : AVal) : Prop := KC g args (hB cs es n) 4 (XQ ⟨v, hB cs es n, 4⟩)
theorem knowsF_of {cs : List Dat} {es : List (Go.Value × Dat)} {n : Nat} {k ix : Int} {nm : List UInt8} {l : List Dat} {c : Bool} (h : CallsB 39 [hP, .dat (.agg [i64 k, sb nm, i64 ix, sl l])] cs es n (bv c)) :
  CallsB 70 [.dat (.agg [i64 k, sb nm, i64 ix, sl l]), bP] cs es n (bv (!c)) := by
 have hg := gcC (bv (!c)) cs es n rfl
 rcases l with _ | ⟨z, l⟩ <;>
 ·refine co [] [] (x := .of Tryz.f70 ord70 live70) ?_; refine oh h ?_
  exact ok_fin (by kernel_rfl) hg
theorem dropA_get {α : Type} {l : List α} {i : Nat} {t : α} (h : l[i]? = some t) : l.drop i = t :: l.drop (i + 1) := by
 obtain ⟨hi, rfl⟩ := List.getElem?_eq_some_iff.1 h
 exact List.drop_eq_getElem_cons hi
def ix0 {α : Type} (p : α -> Bool) : List α -> Nat -> Int
 | [], _ => -1
 | x :: r, i => match p x with | true => Int.ofNat i | false => ix0 p r (i + 1)
theorem ix0_lt {α : Type} {p : α -> Bool} : ∀ {l : List α} {i : Nat}, ltF (ix0 p l i) 0 = !(l.any p)
 | [], _ => rfl
 | x :: r, i => by
  simp only [ix0, List.any_cons]
  cases p x with
  | true => exact ltF_no (i := i) (L := 0) (by omega)
  | false => rw [ix0_lt, Bool.false_or]
theorem ix0_drop {α : Type} {p : α -> Bool} {l : List α} {i : Nat} {t : α} (h : l[i]? = some t) : ix0 p (l.drop i) i = match p t with | true => Int.ofNat i | false => ix0 p (l.drop (i + 1)) (i + 1) := by rw [dropA_get h]; rfl
noncomputable def hIxT : Hints := ⟨xmoves, ord99, xcaps, rowsOf xcaps 99⟩
def fnK : AVal := .fn (.func 70) [] [bP]
def stI (H : Heap) (nx : Nat) (l : List Dat) (i : Int) : FState := ⟨[(8, iv i), (7, iv (Int.ofNat l.length)), (0, .dat (.slice l)), (1, fnK)], [], H, nx⟩
def stIX (H : Heap) (nx : Nat) (l : List Dat) : FState := ⟨[(9, bv false), (8, iv (Int.ofNat l.length)), (7, iv (Int.ofNat l.length)), (0, .dat (.slice l)), (1, fnK)], [], H, nx⟩
def stIR (H : Heap) (nx : Nat) (i : Nat) : FState := ⟨[(4, iv (Int.ofNat i))], [], H, nx⟩
def stIn (H : Heap) (nx : Nat) : FState := ⟨[(8, iv 0), (7, iv 0), (0, .dat nl), (1, fnK)], [], H, nx⟩
def stIXn (H : Heap) (nx : Nat) : FState := ⟨[(9, bv false), (8, iv 0), (7, iv 0), (0, .dat nl), (1, fnK)], [], H, nx⟩
theorem index_round {l : List Ty} {t : Ty} {H : Heap} {nx i : Nat} {c : Bool} {T : Exit -> AState -> Prop} (hi : i < (encL l).length) (ht : l[i]? = some t) (hc : KC 70 [.dat t.enc, bP] H nx (XQ ⟨bv c, H, nx⟩))
  (e1 : c = false -> T .normal ((stI H nx (encL l) (wrapF .i64 (Int.ofNat i + 1))).toA Tryz.f99.ntmps)) (e2 : c = true -> T .ret ((stIR H nx i).toA Tryz.f99.ntmps)) :
  KD (roundOf Tryz.f99 0) T ((stI H nx (encL l) (Int.ofNat i)).toA Tryz.f99.ntmps) := by
 have h1 := ltF_yes hi
 have h2 := idxT ht
 generalize encL l = es at *
 clear ht hi
 obtain ⟨k2, nm2, ix2, a2⟩ := t
 rcases a2 with _ | ⟨b, d⟩ <;>
 ·cases c
  ·refine run_of [9] [14] (H := hIxT) (live := live99) (by kernel_rfl) ?_; refine ob h1 ?_; refine oo h2 ?_; refine oh hc ?_; exact oe (e1 rfl)
  refine run_of [9] [14] (H := hIxT) (live := live99) (by kernel_rfl) ?_; refine ob h1 ?_; refine oo h2 ?_; refine oh hc ?_; exact oe (e2 rfl)
theorem index_end {l : List Dat} {H : Heap} {nx : Nat} {T : Exit -> AState -> Prop} (e1 : T (.exit 0) ((stIX H nx l).toA Tryz.f99.ntmps)) :
  KD (roundOf Tryz.f99 0) T ((stI H nx l (Int.ofNat l.length)).toA Tryz.f99.ntmps) := by
 have h1 := ltF_no (i := l.length) (L := l.length) (by omega)
 refine run_of [9] [] (H := hIxT) (live := live99) (by kernel_rfl) ?_; refine ob h1 ?_; exact oe e1
theorem index_none {H : Heap} {nx : Nat} {T : Exit -> AState -> Prop} (e1 : T (.exit 0) ((stIXn H nx).toA Tryz.f99.ntmps)) :
  KD (roundOf Tryz.f99 0) T ((stIn H nx).toA Tryz.f99.ntmps) := by
 refine run_of [] [] (H := hIxT) (live := live99) (by kernel_rfl) ?_; exact oe e1
theorem index_cons {l : List Ty} {p : Ty -> Bool} {H : Heap} {nx : Nat} {x : Dat} {r : List Dat} (hl0 : encL l = x :: r) (hg : ∀ v, newV nx v = false -> gcR nx ⟨v, H, nx⟩ = ⟨v, H, nx⟩) (hp : ∀ t ∈ l, KC 70 [.dat t.enc, bP] H nx (XQ ⟨bv (p t), H, nx⟩)) (hb : l.length < 1000000000) :
  KC 99 [.dat (.slice (x :: r)), fnK] H nx (XQ ⟨iv (ix0 p l 0), H, nx⟩) := by
 have hl : KD (.loop (roundOf Tryz.f99 0)) (fun e s => (e = .exit 0 /\ ix0 p l 0 = -1 /\ s = (stIX H nx (x :: r)).toA Tryz.f99.ntmps) ∨ (e = .ret /\ ∃ i : Nat, ix0 p l 0 = Int.ofNat i /\ s = (stIR H nx i).toA Tryz.f99.ntmps)) ((stI H nx (x :: r) (Int.ofNat 0)).toA Tryz.f99.ntmps) := by
  rw [← hl0]
  refine loop_inv (St := fun i => (stI H nx (encL l) (Int.ofNat i)).toA Tryz.f99.ntmps) (fun i => ix0 p l 0 = ix0 p (l.drop i) i) (encL l).length ?_ ?_ (i := 0) (Nat.zero_le _) rfl
  ·intro i hi hI
   obtain ⟨t, ht, hm⟩ := get_mem hi
   have ha := ix0_drop (p := p) ht
   have hw : wrapF .i64 (Int.ofNat i + 1) = Int.ofNat (i + 1) := wrap_of (by rw [encL_length] at hi; omega)
   have hc := hp t hm
   rw [← hI] at ha
   generalize p t = c at hc ha
   refine index_round hi ht hc ?_ ?_
   ·rintro rfl
    rw [hw]
    exact ⟨rfl, ha⟩
   rintro rfl
   exact .inr ⟨rfl, i, ha, rfl⟩
  intro hI
  refine index_end (.inl ⟨rfl, ?_, rfl⟩)
  rw [hI, encL_length, List.drop_length]
  rfl
 have hg1 := hg (iv (ix0 p l 0)) rfl
 clear hp hb hg
 generalize hj : ix0 p l 0 = j at hg1 hl
 clear hj hl0
 refine co [] [] (x := .of Tryz.f99 ord99 live99) ?_; refine lo hl ?_
 rintro ex s (⟨rfl, rfl, rfl⟩ | ⟨rfl, ⟨x0, rfl, rfl⟩⟩) <;>
 ·refine ⟨_, rfl, ?_⟩
  exact ok_fin (by kernel_rfl) hg1
theorem any_sl {l : List Ty} {p : Ty -> Bool} {H : Heap} {nx : Nat} (hg : ∀ v, newV nx v = false -> gcR nx ⟨v, H, nx⟩ = ⟨v, H, nx⟩) (hp : ∀ t ∈ l, KC 70 [.dat t.enc, bP] H nx (XQ ⟨bv (p t), H, nx⟩)) (hb : l.length < 1000000000) :
  KC 69 [.dat (sl (encL l)), fnK] H nx (XQ ⟨bv (l.any p), H, nx⟩) := by
 cases l with
 | nil =>
  have h0 : KC 99 [.dat nl, fnK] H nx (XQ ⟨iv (-1), H, nx⟩) := by
   have hg1 := hg (iv (-1)) rfl
   have hl : KD (.loop (roundOf Tryz.f99 0)) (fun e s => (e = .exit 0 /\ s = (stIXn H nx).toA Tryz.f99.ntmps)) ((stIn H nx).toA Tryz.f99.ntmps) := by
    refine loop_count (St := fun _ => (stIn H nx).toA Tryz.f99.ntmps) 0 (fun i hi => absurd hi (Nat.not_lt_zero i)) ?_ (i := 0) (Nat.le_refl _)
    exact index_none ⟨rfl, rfl⟩
   clear hg hp hb
   refine co [] [] (x := .of Tryz.f99 ord99 live99) ?_; refine lo hl ?_; rintro ex s ⟨rfl, rfl⟩; refine ⟨_, rfl, ?_⟩
   exact ok_fin (by kernel_rfl) hg1
  have hg1 := hg (bv false) rfl
  clear hg hp hb
  refine co [] [] (x := .of Tryz.f69 ord69 live69) ?_; refine oh h0 ?_
  exact ok_fin (by kernel_rfl) hg1
 | cons t r =>
  have h := index_cons (l := t :: r) (x := t.enc) (r := encL r) rfl hg hp hb
  have h3 := ix0_lt (p := p) (l := t :: r) (i := 0)
  have hg1 := hg (bv (!(!((t :: r).any p)))) rfl
  generalize (t :: r).any p = c at h3 hg1
  have hg2 : gcR nx ⟨bv (!(!c)), H, nx⟩ = ⟨bv c, H, nx⟩ := by rw [hg1, Bool.not_not]
  clear hg1
  generalize ix0 p (t :: r) 0 = j at h3 h
  show KC 69 [.dat (.slice (t.enc :: encL r)), fnK] H nx _
  generalize t.enc = x at h
  generalize encL r = xs at h
  clear hp hb hg
  refine co [8] [] (x := .of Tryz.f69 ord69 live69) ?_; refine oh h ?_; refine ox h3 ?_
  exact ok_fin (by kernel_rfl) hg2
theorem knows_of {cs : List Dat} {es : List (Go.Value × Dat)} {n : Nat} {k ix : Int} {nm : List UInt8} {l : List Dat} {c kn d : Bool} (hk : eqF k 2 = kn) (hd : CallsR 59 [hP, .dat (.agg [i64 k, sb nm, i64 ix, sl l])] cs es n (bv d))
  (h : CallsB 69 [.dat (sl l), fnK] cs es n (bv c)) :
  CallsR 39 [hP, .dat (.agg [i64 k, sb nm, i64 ix, sl l])] cs es n (bv (!(kn && !d) && !c)) := by
 have hg1 := gcD (bv (!c)) cs es n rfl
 have hg3 := gcB (bv false) cs es n rfl
 rcases l with _ | ⟨z, l⟩
 ·refine co [7] [] (x := .of Tryz.f39 ord39 live39) ?_; refine ob hk ?_
  cases kn
  ·refine oh h ?_
   exact ok_fin (by kernel_rfl) hg1
  refine oh hd ?_
  cases d
  ·exact ok_fin (by kernel_rfl) hg3
  refine oh h ?_
  exact ok_fin (by kernel_rfl) hg1
 refine co [7] [] (x := .of Tryz.f39 ord39 live39) ?_; refine ob hk ?_
 cases kn
 ·refine oh h ?_
  exact ok_fin (by kernel_rfl) hg1
 refine oh hd ?_
 cases d
 ·exact ok_fin (by kernel_rfl) hg3
 refine oh h ?_
 exact ok_fin (by kernel_rfl) hg1
/-! ### The contracts -/
def declT (ds : List Dcl) (t : Ty) : Bool := match t with | .mk _ nm _ l => (match findD ds nm with | some d => eqF d.ar (Int.ofNat (encL l).length) | none => false)
mutual
def knowT (ds : List Dcl) : Ty -> Bool
 | .mk k nm ix l => !(eqF k 2 && !declT ds (.mk k nm ix l)) && !notAll ds l
def notAll (ds : List Dcl) : List Ty -> Bool
 | [] => false
 | t :: r => !knowT ds t || notAll ds r
end
theorem notAll_any (ds : List Dcl) : ∀ l : List Ty, notAll ds l = l.any (fun t => !knowT ds t)
 | [] => by simp [notAll]
 | t :: r => by simp [notAll, notAll_any ds r]
abbrev CallsH (g : FuncId) (args : List AVal) (ds : List Dcl) (tl : List Dat) (v : AVal) : Prop := CallsR g args (rowC ds ++ tl) (idxD ds 0) ds.length v
theorem c_declares (ds : List Dcl) (tl : List Dat) (t : Ty) : CallsH 59 [hP, .dat t.enc] ds tl (bv (declT ds t)) := by
 obtain ⟨k, nm, ix, l⟩ := t
 have h := c_find2 ds tl nm
 have e : declT ds (.mk k nm ix l) = (match findD ds nm with | some d => eqF d.ar (Int.ofNat (encL l).length) | none => false) := rfl
 rw [e]
 clear e
 cases hf : findD ds nm with
 | none => rw [hf] at h; exact declares_no h
 | some d =>
  rw [hf] at h
  obtain ⟨a, b, ⟨k2, nm2, ix2, l2⟩, j, fl⟩ := d
  exact declares_yes h rfl
mutual
theorem c_knows (ds : List Dcl) (tl : List Dat) : ∀ t : Ty, t.size < 1000000000 -> CallsH 39 [hP, .dat t.enc] ds tl (bv (knowT ds t))
 | .mk k nm ix l, hs => by
  have hsl : sizeL l < 1000000000 := by simp only [Ty.size] at hs; omega
  have hlen := len_size l
  have ih := c_knowsL ds tl l hsl
  have h1 : ∀ t ∈ l, CallsB 70 [.dat t.enc, bP] (rowC ds ++ tl) (idxD ds 0) ds.length (bv (!knowT ds t)) := by
   intro t ht
   have h2 := ro_move (r := 2) (m := 4) rfl rfl rfl [box] (ih t ht)
   obtain ⟨k2, nm2, ix2, l2⟩ := t
   exact knowsF_of h2
  have h3 := any_sl (p := fun t => !knowT ds t) (fun v hv => gcC v _ _ _ hv) h1 (by omega)
  rw [← notAll_any] at h3
  have h4 := knows_of rfl (c_declares ds tl (.mk k nm ix l)) h3
  rw [knowT]
  exact h4
theorem c_knowsL (ds : List Dcl) (tl : List Dat) : ∀ l : List Ty, sizeL l < 1000000000 -> ∀ t ∈ l, CallsH 39 [hP, .dat t.enc] ds tl (bv (knowT ds t))
 | [], _, t, ht => by simp at ht
 | x :: r, h, t, ht => by
  simp only [sizeL] at h
  rcases List.mem_cons.1 ht with h1 | ht
  ·rw [h1]; exact c_knows ds tl x (by omega)
  exact c_knowsL ds tl r (by omega) t ht
end
noncomputable def tiF : TI := match Go.Tp.elemOf (env Prims.fast) 33 with | some t => t | none => default
theorem tiF_eq : Go.Tp.elemOf (env Prims.fast) 33 = some tiF := by kernel_rfl
theorem tiF_size : tiF.size = 5 := by kernel_rfl
theorem encF_map : ∀ l : List Fld, encF l = l.map Fld.enc
 | [] => by simp [encF]
 | t :: r => by simp [encF, encF_map r]
theorem encF_length (l : List Fld) : (encF l).length = l.length := by simp [encF_map]
theorem encF_get {l : List Fld} {i : Nat} {t : Fld} (h : l[i]? = some t) : (encF l)[i]? = some t.enc := by simp [encF_map, h]
theorem fcells (f : Fld) : f.enc.cells.length = 5 := by obtain ⟨a, ⟨b, c, d, e⟩⟩ := f; rfl
theorem idxF {l : List Fld} {i : Nat} {t : Fld} (h : l[i]? = some t) : aIndexAddr (env Prims.fast) 33 [.dat (.slice (encF l)), .dat (.flat (.int .i64 (Int.ofNat i)))] = some ⟨.ref t.cells, .keep⟩ :=
 ans_idx tiF_eq rfl (encF_get h) (by rw [tiF_size]; exact fcells t) (by rw [tiF_size]; decide)
theorem getF_mem {l : List Fld} {i : Nat} (h : i < (encF l).length) : ∃ t, l[i]? = some t /\ t ∈ l := by
 rw [encF_length] at h
 exact ⟨l[i], List.getElem?_eq_getElem h, List.getElem_mem h⟩
def ownF : List Fld -> AVal
 | [] => .dat nl
 | t :: r => .own (encF (t :: r))
theorem encF_mem {l : List Fld} {d : Dat} (h : d ∈ encF l) : ∃ t, d = Fld.enc t := by
 rw [encF_map] at h
 obtain ⟨t, _, rfl⟩ := List.mem_map.1 h
 exact ⟨t, rfl⟩
theorem encF_app (a b : List Fld) : encF (a ++ b) = encF a ++ encF b := by simp [encF_map]
theorem encF_sized (l : List Fld) : sizedB 5 (encF l) = true := sizedB_of (fun d hd => by obtain ⟨t, rfl⟩ := encF_mem hd; exact fcells t)
theorem encF_bytes (l : List Fld) : isBytes (encF l) = false := by
 cases l with
 | nil => rfl
 | cons t r => rfl
theorem appF {pre : List Fld} {t : Fld} (hl : pre.length < 1000000000) : aAppend (env Prims.fast) false 33 [.own (encF pre), .dat (.slice [t.enc])] none = some ⟨.own (encF (pre ++ [t])), .keep⟩ := by
 rw [encF_app]
 refine ans_app (i := tiF) (ds := [t.enc]) (k := 4) tiF_eq rfl tiF_size ?_ ?_ (by kernel_rfl) ?_ ?_ ?_ (by simp)
 ·exact encF_sized [t]
 ·exact encF_sized pre
 ·have h1 : tiF.bytes <= 1000 := ble_to (by kernel_rfl)
  rw [encF_length]
  calc (pre.length + 1) * tiF.bytes <= 1000000000 * 1000 := Nat.mul_le_mul (by omega) h1
   _ <= 140737488355328 := by decide
 ·rw [encF_length]; simp [lim]; omega
 unfold byteOk
 rw [show encF pre ++ [t.enc] = encF (pre ++ [t]) by rw [encF_app]; rfl, encF_bytes]
noncomputable def hCloneD : Hints := ⟨xmoves, ord53, xcaps, rowsOf xcaps 53⟩
def loCD (nm : List UInt8) (ar k : Int) (nm2 : List UInt8) (ix : Int) (a : AVal) (con : Bool) (b : AVal) : Heap := [(.loc 3, .cells [.dat (sb nm), iv ar, iv k, .dat (sb nm2), iv ix, a, .dat (bl con), b]), (.loc 2, .cells [.dat (sb []), iv 0, iv 0, .dat (sb []), iv 0, .dat nl, .dat (bl false), .dat nl])]
def stCD (lo : Heap) (a : Dat) (n : Nat) (i : Int) : FState := ⟨[(15, iv i), (14, iv (Int.ofNat n)), (13, .dat a), (3, .ptr (.loc 3) 0), (2, .ptr (.loc 2) 0)], lo, [], 0⟩
def stCDX (lo : Heap) (a : Dat) (n : Nat) (i : Int) : FState := ⟨[(16, bv false), (15, iv i), (14, iv (Int.ofNat n)), (13, .dat a), (3, .ptr (.loc 3) 0), (2, .ptr (.loc 2) 0)], lo, [], 0⟩
theorem cd_round {nm : List UInt8} {ar k : Int} {nm2 : List UInt8} {ix : Int} {la : List Dat} {con : Bool} {l pre : List Fld} {i : Nat} {t : Fld} (hi : i < (encF l).length) (ht : l[i]? = some t) (hc : Calls1 58 [.dat t.ty.enc] (.dat t.ty.enc)) (hp : pre.length < 1000000000) {T : Exit -> AState -> Prop}
  (e : T .normal ((stCD (loCD nm ar k nm2 ix (.dat (sl la)) con (ownF (pre ++ [t]))) (.slice (encF l)) (encF l).length (wrapF .i64 (Int.ofNat i + 1))).toA Tryz.f53.ntmps)) :
  KD (roundOf Tryz.f53 0) T ((stCD (loCD nm ar k nm2 ix (.dat (sl la)) con (ownF pre)) (.slice (encF l)) (encF l).length (Int.ofNat i)).toA Tryz.f53.ntmps) := by
 have h1 := ltF_yes hi
 have h2 := idxF ht
 have h3 := appF (t := t) hp
 clear ht hi hp
 obtain ⟨fn, k2, fnm, fix, fl⟩ := t
 generalize encF l = es at *
 rcases pre with _ | ⟨d, r⟩ <;>
 ·rcases la with _ | ⟨x, la⟩ <;>
  ·rcases fl with _ | ⟨y, fl⟩ <;>
   ·refine run_of [16] [17, 28] (H := hCloneD) (live := live53) (by kernel_rfl) ?_; refine ob h1 ?_; refine oo h2 ?_; refine on hc ?_; refine oo h3 ?_; exact oe e
theorem cd_last {nm : List UInt8} {ar k : Int} {nm2 : List UInt8} {ix : Int} {la : List Dat} {con : Bool} {pre : List Fld} {a : Dat} {n : Nat} {T : Exit -> AState -> Prop}
  (e : T (.exit 0) ((stCDX (loCD nm ar k nm2 ix (.dat (sl la)) con (ownF pre)) a n (Int.ofNat n)).toA Tryz.f53.ntmps)) :
  KD (roundOf Tryz.f53 0) T ((stCD (loCD nm ar k nm2 ix (.dat (sl la)) con (ownF pre)) a n (Int.ofNat n)).toA Tryz.f53.ntmps) := by
 have h1 := ltF_no (i := n) (L := n) (by omega)
 rcases pre with _ | ⟨d, r⟩ <;>
 ·refine run_of [16] [] (H := hCloneD) (live := live53) (by kernel_rfl) ?_; refine ob h1 ?_; exact oe e
theorem cd_loop {nm : List UInt8} {ar k : Int} {nm2 : List UInt8} {ix : Int} {la : List Dat} {con : Bool} {l : List Fld} {a : Dat} (ha : a = sl (encF l)) (ih : ∀ t ∈ l, Calls1 58 [.dat t.ty.enc] (.dat t.ty.enc)) (hb : l.length < 1000000000) :
  KD (.loop (roundOf Tryz.f53 0)) (fun e s => e = .exit 0 /\ s = (stCDX (loCD nm ar k nm2 ix (.dat (sl la)) con (ownF l)) a (encF l).length (Int.ofNat (encF l).length)).toA Tryz.f53.ntmps)
   ((stCD (loCD nm ar k nm2 ix (.dat (sl la)) con (ownF [])) a (encF l).length (Int.ofNat 0)).toA Tryz.f53.ntmps) := by
 refine loop_count (St := fun i => (stCD (loCD nm ar k nm2 ix (.dat (sl la)) con (ownF (l.take i))) a (encF l).length (Int.ofNat i)).toA Tryz.f53.ntmps) (encF l).length ?_ ?_ (i := 0) (Nat.zero_le _)
 ·intro i hi
  obtain ⟨t, ht, hm⟩ := getF_mem hi
  have ha2 : a = .slice (encF l) := by
   rw [ha]
   cases l with
   | nil => simp at ht
   | cons x r => rfl
  subst ha2
  refine cd_round hi ht (ih t hm) (by rw [List.length_take]; omega) ?_
  rw [encF_length] at hi
  rw [wrap_of (by omega), ← take_get ht]
  rfl
 refine cd_last ⟨rfl, ?_⟩
 rw [encF_length, List.take_length]
theorem cd_all {nm : List UInt8} {ar k ix : Int} {nm2 : List UInt8} {la : List Dat} {con : Bool} {l : List Fld} (hs : Calls1 58 [.dat (.agg [i64 k, sb nm2, i64 ix, sl la])] (.dat (.agg [i64 k, sb nm2, i64 ix, sl la])))
  (ih : ∀ t ∈ l, Calls1 58 [.dat t.ty.enc] (.dat t.ty.enc)) (hb : l.length < 1000000000) :
  Calls1 53 [.dat (dRaw nm ar k nm2 ix la con (encF l))] (.dat (dRaw nm ar k nm2 ix la con (encF l))) := by
 have hl := cd_loop (nm := nm) (ar := ar) (k := k) (nm2 := nm2) (ix := ix) (la := la) (con := con) (l := l) rfl ih hb
 clear ih hb
 rcases l with _ | ⟨f, l⟩ <;>
 ·rcases la with _ | ⟨x, la⟩ <;>
  ·refine co [] [] (x := .of Tryz.f53 ord53 live53) ?_; refine on hs ?_; refine lo hl ?_; rintro ex s ⟨rfl, rfl⟩; refine ⟨_, rfl, ?_⟩; exact fi
/-- Bounds under which a term can be reckoned with. -/
def Ty.fine (t : Ty) : Prop := t.size < 100000000 /\ t.ixOk
def Dcl.fine (d : Dcl) : Prop := d.sup.fine /\ (∀ f ∈ d.fl, f.ty.fine) /\ d.fl.length < 1000000000
theorem c_cloneT {t : Ty} (h : t.fine) : Calls1 58 [.dat t.enc] (.dat t.enc) := c_cloneTerm (by have := h.1; omega) h.2 (by have := h.1; have := depth_size t; omega)
theorem c_cloneDecl {d : Dcl} (h : d.fine) : Calls1 53 [.dat d.enc] (.dat d.enc) := by
 obtain ⟨h1, h2, h3⟩ := h
 obtain ⟨a, b, ⟨k2, nm2, ix2, l2⟩, j, fl⟩ := d
 exact cd_all (c_cloneT h1) (fun t ht => c_cloneT (h2 t ht)) h3
theorem eqDF {nm nm2 : List UInt8} {t u : Ty} {c d : Bool} (h1 : eqB nm nm2 = c) (h : Calls1 91 [.dat t.enc, .dat u.enc] (bv d)) :
  Calls1 90 [.dat (Fld.enc ⟨nm, t⟩), .dat (Fld.enc ⟨nm2, u⟩)] (bv (c && d)) := by
 obtain ⟨k, tn, ix, l⟩ := t
 obtain ⟨k2, tn2, ix2, l2⟩ := u
 rcases l with _ | ⟨x, l⟩ <;>
 ·rcases l2 with _ | ⟨x2, l2⟩ <;>
  ·refine co [9] [] (x := .of Tryz.f90 ord90 live90) ?_; refine ob h1 ?_
   cases c
   ·exact fi
   refine on h ?_; exact fi
def fnE : AVal := .fn (.func 90) [] []
noncomputable def hEqF : Hints := ⟨xmoves, ord92, xcaps, rowsOf xcaps 92⟩
def stE (a b : Dat) (n : Nat) (i : Int) : FState := ⟨[(17, iv i), (16, iv (Int.ofNat n)), (15, .dat a), (1, .dat b), (2, fnE)], [], [], 0⟩
def stEX (a b : Dat) (n : Nat) (i : Int) : FState := ⟨[(18, bv false), (17, iv i), (16, iv (Int.ofNat n)), (15, .dat a), (1, .dat b), (2, fnE)], [], [], 0⟩
def stER (c : Bool) : FState := ⟨[(6, bv c)], [], [], 0⟩
def Fld.eq (f g : Fld) : Bool := eqB f.nm g.nm && eqT f.ty g.ty
def eqFL : List Fld -> List Fld -> Bool
 | f :: r, g :: s => f.eq g && eqFL r s
 | _, _ => true
theorem ef_round {l l2 : List Fld} {t u : Fld} {i : Nat} {c : Bool} {T : Exit -> AState -> Prop} (hi : i < (encF l).length) (ht : l[i]? = some t) (hu : l2[i]? = some u) (hc : Calls1 90 [.dat t.enc, .dat u.enc] (bv c))
  (e1 : c = true -> T .normal ((stE (.slice (encF l)) (.slice (encF l2)) (encF l).length (wrapF .i64 (Int.ofNat i + 1))).toA Tryz.f92.ntmps)) (e2 : c = false -> T .ret ((stER false).toA Tryz.f92.ntmps)) :
  KD (roundOf Tryz.f92 0) T ((stE (.slice (encF l)) (.slice (encF l2)) (encF l).length (Int.ofNat i)).toA Tryz.f92.ntmps) := by
 have h1 := ltF_yes hi
 have h2 := idxF ht
 have h3 := idxF hu
 generalize encF l = es at *
 generalize encF l2 = es2 at *
 clear ht hi hu
 obtain ⟨nm, k, tn, ix, a⟩ := t
 obtain ⟨nm2, k2, tn2, ix2, b⟩ := u
 rcases a with _ | ⟨x, a⟩ <;>
 ·rcases b with _ | ⟨y, b⟩ <;>
  ·cases c
   ·refine run_of [18] [20, 24] (H := hEqF) (live := live92) (by kernel_rfl) ?_; refine ob h1 ?_; refine oo h2 ?_; refine oo h3 ?_; refine on hc ?_; exact oe (e2 rfl)
   refine run_of [18] [20, 24] (H := hEqF) (live := live92) (by kernel_rfl) ?_; refine ob h1 ?_; refine oo h2 ?_; refine oo h3 ?_; refine on hc ?_; exact oe (e1 rfl)
theorem ef_last {a b : Dat} {n : Nat} {T : Exit -> AState -> Prop} (e : T (.exit 0) ((stEX a b n (Int.ofNat n)).toA Tryz.f92.ntmps)) :
  KD (roundOf Tryz.f92 0) T ((stE a b n (Int.ofNat n)).toA Tryz.f92.ntmps) := by
 have h1 := ltF_no (i := n) (L := n) (by omega)
 refine run_of [18] [] (H := hEqF) (live := live92) (by kernel_rfl) ?_; refine ob h1 ?_; exact oe e
theorem eqFL_drop {l l2 : List Fld} {i : Nat} {t u : Fld} (ht : l[i]? = some t) (hu : l2[i]? = some u) : eqFL (l.drop i) (l2.drop i) = (t.eq u && eqFL (l.drop (i + 1)) (l2.drop (i + 1))) := by rw [dropA_get ht, dropA_get hu]; rfl
theorem ef_loop {l l2 : List Fld} {a b : Dat} (ha : a = sl (encF l)) (hb : b = sl (encF l2)) (hlen : l.length = l2.length) (hn : l.length < 1000000000) (hc : ∀ t ∈ l, ∀ u ∈ l2, Calls1 90 [.dat t.enc, .dat u.enc] (bv (t.eq u))) :
  KD (.loop (roundOf Tryz.f92 0)) (fun e s => (e = .exit 0 /\ eqFL l l2 = true /\ s = (stEX a b (encF l).length (Int.ofNat (encF l).length)).toA Tryz.f92.ntmps) ∨ (e = .ret /\ eqFL l l2 = false /\ s = (stER false).toA Tryz.f92.ntmps)) ((stE a b (encF l).length (Int.ofNat 0)).toA Tryz.f92.ntmps) := by
 refine loop_inv (St := fun i => (stE a b (encF l).length (Int.ofNat i)).toA Tryz.f92.ntmps) (fun i => eqFL l l2 = eqFL (l.drop i) (l2.drop i)) (encF l).length ?_ ?_ (i := 0) (Nat.zero_le _) rfl
 ·intro i hi hI
  obtain ⟨t, ht, hm⟩ := getF_mem hi
  have hi2 := hi
  rw [encF_length] at hi2
  have hu : l2[i]? = some l2[i] := List.getElem?_eq_getElem (by omega)
  have hm2 : l2[i] ∈ l2 := List.getElem_mem _
  generalize l2[i] = u at hu hm2
  have h := hc t hm u hm2
  have hd := eqFL_drop ht hu
  rw [← hI] at hd
  have hw : wrapF .i64 (Int.ofNat i + 1) = Int.ofNat (i + 1) := wrap_of (by omega)
  have ha2 : a = .slice (encF l) := by
   rw [ha]
   cases l with
   | nil => simp at ht
   | cons x r => rfl
  have hb2 : b = .slice (encF l2) := by
   rw [hb]
   cases l2 with
   | nil => simp at hu
   | cons x r => rfl
  subst ha2
  subst hb2
  generalize t.eq u = c at h hd
  refine ef_round hi ht hu h ?_ ?_
  ·rintro rfl
   rw [hw]
   exact ⟨rfl, hd⟩
  rintro rfl
  exact .inr ⟨rfl, hd, rfl⟩
 intro hI
 refine ef_last (.inl ⟨rfl, ?_, rfl⟩)
 rw [hI, encF_length, List.drop_length]
 cases l2.drop l.length <;> rfl
def eqFs (l l2 : List Fld) : Bool := eqF (Int.ofNat (encF l).length) (Int.ofNat (encF l2).length) && eqFL l l2
theorem eqF_len {l l2 : List Fld} {c : Bool} (h : eqF (Int.ofNat (encF l).length) (Int.ofNat (encF l2).length) = c) : c = true -> l.length = l2.length := by
 rintro rfl
 rw [eqF_of, encF_length, encF_length] at h
 simpa using h
theorem ef_all {a b : Dat} {la lb : List Dat} (ha : a = sl la) (hb : b = sl lb) {c d : Bool} (h : eqF (Int.ofNat la.length) (Int.ofNat lb.length) = c)
  (hl : c = true -> KD (.loop (roundOf Tryz.f92 0)) (fun e s => (e = .exit 0 /\ d = true /\ s = (stEX a b la.length (Int.ofNat la.length)).toA Tryz.f92.ntmps) ∨ (e = .ret /\ d = false /\ s = (stER false).toA Tryz.f92.ntmps)) ((stE a b la.length (Int.ofNat 0)).toA Tryz.f92.ntmps)) :
  Calls1 92 [.dat a, .dat b, fnE] (bv (c && d)) := by
 subst ha
 subst hb
 rcases la with _ | ⟨x, la⟩
 ·rcases lb with _ | ⟨y, lb⟩
  ·cases c
   ·exact Bool.noConfusion (show true = false from h)
   have hl2 := hl rfl
   clear hl
   refine co [] [] (x := .of Tryz.f92 ord92 live92) ?_; refine lo hl2 ?_
   rintro ex s (⟨rfl, rfl, rfl⟩ | ⟨rfl, rfl, rfl⟩) <;>
   ·refine ⟨_, rfl, ?_⟩; exact fi
  cases c
  ·refine co [] [] (x := .of Tryz.f92 ord92 live92) ?_; exact fi
  exact Bool.noConfusion (show false = true from h)
 rcases lb with _ | ⟨y, lb⟩
 ·cases c
  ·refine co [] [] (x := .of Tryz.f92 ord92 live92) ?_; exact fi
  exact Bool.noConfusion (show false = true from h)
 cases c
 ·refine co [14] [] (x := .of Tryz.f92 ord92 live92) ?_; refine ox h ?_; exact fi
 have hl2 := hl rfl
 clear hl
 refine co [14] [] (x := .of Tryz.f92 ord92 live92) ?_; refine ox h ?_; refine lo hl2 ?_
 rintro ex s (⟨rfl, rfl, rfl⟩ | ⟨rfl, rfl, rfl⟩) <;>
 ·refine ⟨_, rfl, ?_⟩; exact fi
def Dcl.eq (a b : Dcl) : Bool := eqB a.nm b.nm && (eqF a.ar b.ar && ((a.con == b.con) && (eqT a.sup b.sup && eqFs a.fl b.fl)))
theorem eqD_all {nm nm2 : List UInt8} {ar ar2 : Int} {con con2 : Bool} {k ix k2 ix2 : Int} {tn tn2 : List UInt8} {la la2 lb lb2 : List Dat} {c1 c2 c4 c5 : Bool} (h1 : eqB nm nm2 = c1) (h2 : eqF ar ar2 = c2)
  (h4 : Calls1 91 [.dat (.agg [i64 k, sb tn, i64 ix, sl la]), .dat (.agg [i64 k2, sb tn2, i64 ix2, sl la2])] (bv c4)) (h5 : Calls1 92 [.dat (sl lb), .dat (sl lb2), fnE] (bv c5)) :
  Calls1 51 [.dat (dRaw nm ar k tn ix la con lb), .dat (dRaw nm2 ar2 k2 tn2 ix2 la2 con2 lb2)] (bv (c1 && (c2 && ((con == con2) && (c4 && c5))))) := by
 rcases la with _ | ⟨x, la⟩ <;>
 ·rcases la2 with _ | ⟨x2, la2⟩ <;>
  ·rcases lb with _ | ⟨y, lb⟩ <;>
   ·rcases lb2 with _ | ⟨y2, lb2⟩ <;>
    ·refine co [10, 16] [] (x := .of Tryz.f51 ord51 live51) ?_; refine ob h1 ?_
     cases c1
     ·exact fi
     refine ob h2 ?_
     cases c2
     ·exact fi
     cases con
     ·cases con2
      ·refine on h4 ?_
       cases c4
       ·exact fi
       refine on h5 ?_; exact fi
      exact fi
     cases con2
     ·exact fi
     refine on h4 ?_
     cases c4
     ·exact fi
     refine on h5 ?_; exact fi
theorem c_equalDecls {a b : Dcl} (ha : a.fine) (hb : b.fine) : Calls1 51 [.dat a.enc, .dat b.enc] (bv (a.eq b)) := by
 obtain ⟨a1, a2, a3⟩ := ha
 obtain ⟨b1, b2, b3⟩ := hb
 have h4 : Calls1 91 [.dat a.sup.enc, .dat b.sup.enc] (bv (eqT a.sup b.sup)) := c_equal _ _ (by have := a1.1; omega)
 have hf : ∀ t ∈ a.fl, ∀ u ∈ b.fl, Calls1 90 [.dat t.enc, .dat u.enc] (bv (t.eq u)) := by
  intro t ht u hu
  exact eqDF rfl (c_equal _ _ (by have := (a2 t ht).1; omega))
 have h5 : Calls1 92 [.dat (sl (encF a.fl)), .dat (sl (encF b.fl)), fnE] (bv (eqFs a.fl b.fl)) :=
  ef_all rfl rfl rfl (fun h => ef_loop rfl rfl (eqF_len rfl h) a3 hf)
 obtain ⟨anm, aar, ⟨k, tn, ix, la⟩, acon, afl⟩ := a
 obtain ⟨bnm, bar, ⟨k2, tn2, ix2, la2⟩, bcon, bfl⟩ := b
 exact eqD_all rfl rfl h4 h5
end Go.Proofs.YtiihadmgkoamoaaGreatDoor

namespace Go.Proofs
open Go.Shelf
def Tryz.ins21_ren : Go.Shelf.Ren := ⟨fun | 21 => 191 | 27 => 201 | 28 => 202 | 35 => 204 | 39 => 206 | n => n, fun | 22 => 22 | 3 => 3 | 4 => 4 | 0 => 0 | n => n, fun | n => n⟩
theorem Tryz.ins21 : Go.Proofs.Lays2.n21 Tryz.prog Tryz.ins21_ren := {
 mixed := by kernel_rfl
 f21 := Tryz.func191.trans (congrArg some (by kernel_rfl))
 f27 := Tryz.func201.trans (congrArg some (by kernel_rfl))
 f28 := Tryz.func202.trans (congrArg some (by kernel_rfl))
 f35 := Tryz.func204.trans (congrArg some (by kernel_rfl))
 f39 := Tryz.func206.trans (congrArg some (by kernel_rfl))
 t0 := Tryz.underlying0
 a0 := Tryz.isAgg0
 z0 := Tryz.sizeOf0
 v0 := Tryz.zeroValue0
 t3 := Tryz.underlying3
 a3 := Tryz.isAgg3
 z3 := Tryz.sizeOf3
 v3 := Tryz.zeroValue3
 t4 := Tryz.underlying4
 a4 := Tryz.isAgg4
 z4 := Tryz.sizeOf4
 v4 := Tryz.zeroValue4
 t22 := Tryz.underlying22
 a22 := Tryz.isAgg22
 z22 := Tryz.sizeOf22
 v22 := Tryz.zeroValue22
 i3 := by kernel_rfl }
def Tryz.bs25_ren : Go.Shelf.Ren := ⟨fun | 25 => 190 | 31 => 199 | 32 => 200 | 37 => 171 | n => n, fun | 22 => 22 | 3 => 3 | 4 => 4 | 40 => 157 | 0 => 0 | n => n, fun | n => n⟩
theorem Tryz.bs25 : Go.Proofs.Lays2.n25 Tryz.prog Tryz.bs25_ren := {
 mixed := by kernel_rfl
 f25 := Tryz.func190.trans (congrArg some (by kernel_rfl))
 f31 := Tryz.func199.trans (congrArg some (by kernel_rfl))
 f32 := Tryz.func200.trans (congrArg some (by kernel_rfl))
 f37 := Tryz.func171.trans (congrArg some (by kernel_rfl))
 t0 := Tryz.underlying0
 a0 := Tryz.isAgg0
 z0 := Tryz.sizeOf0
 v0 := Tryz.zeroValue0
 t3 := Tryz.underlying3
 a3 := Tryz.isAgg3
 z3 := Tryz.sizeOf3
 v3 := Tryz.zeroValue3
 t4 := Tryz.underlying4
 a4 := Tryz.isAgg4
 z4 := Tryz.sizeOf4
 v4 := Tryz.zeroValue4
 t22 := Tryz.underlying22
 a22 := Tryz.isAgg22
 z22 := Tryz.sizeOf22
 v22 := Tryz.zeroValue22
 t40 := Tryz.underlying157
 a40 := Tryz.isAgg157
 z40 := Tryz.sizeOf157
 v40 := Tryz.zeroValue157 }
end Go.Proofs

namespace Go.Tp
open Go.Proofs Go.Shelf Go.RowKit
def ivs (l : List Int) : List AVal := l.map iv
def ints (l : List Int) : List Value := l.map (Value.int .i64)
section
variable {w : World} {R : Own} {N : Name -> Option Nat}
theorem ivs_inv : ∀ {l : List Int} {us : List Value} {bs : List Nat}, RepVs w R N (ivs l) us bs -> us = ints l /\ bs = [] /\ ∀ x ∈ l, isFlat (.int .i64 x) = true
 | [], us, bs, h => by obtain ⟨rfl, rfl⟩ := repVs_nil_inv h; simp [ints]
 | x :: l, us, bs, h => by
  have h : RepVs w R N (iv x :: ivs l) us bs := h
  obtain ⟨v, vs', b1, b2, rfl, rfl, h1, h2⟩ := repVs_cons_inv h
  obtain ⟨rfl, rfl, h3⟩ := ivs_inv h2
  simp only [RepV] at h1
  obtain ⟨rfl, h1⟩ := h1
  have h1 : RepC w R v (.flat (.int .i64 x)) := h1
  cases h1 with
  | flat hf => exact ⟨rfl, rfl, by rintro y hy; rcases List.mem_cons.1 hy with rfl | hy; exact hf; exact h3 y hy⟩
theorem ivs_mk : ∀ {l : List Int}, (∀ x ∈ l, isFlat (.int .i64 x) = true) -> RepVs w R N (ivs l) (ints l) []
 | [], _ => repVs_nil
 | x :: l, h => by
  have h1 : RepV w R N (iv x) (.int .i64 x) [] := by
   simp only [RepV]
   exact ⟨trivial, .flat (h x (by simp))⟩
  exact repVs_cons (b1 := []) (b2 := []) h1 (ivs_mk (l := l) (fun y hy => h y (by simp [hy])))
theorem ints_one {l : List Int} : ∀ v ∈ ints l, v.oneCell' = true := by
 intro v hv
 obtain ⟨x, _, rfl⟩ := List.mem_map.1 hv
 rfl
theorem ints_get {l : List Int} {j : Nat} {v : Value} (h : (ints l)[j]? = some v) : ∃ x, l[j]? = some x /\ v = .int .i64 x := by
 simp only [ints, List.getElem?_map, Option.map_eq_some_iff] at h
 obtain ⟨x, h1, h2⟩ := h
 exact ⟨x, h1, h2.symm⟩
theorem cell_row {b off : Nat} {vs : Array Value} {e : TypeId} {fr : Nat × Nat} (hb : w.heap[b]? = some (.cells vs e fr)) {v : Value} (h : vs.toList[off]? = some v) : w.cell? ⟨b, off, none⟩ = some v := by
 rw [Array.getElem?_toList] at h
 simp [World.cell?, hb, h]
theorem setCells_row (b o : Nat) (e : TypeId) (news : List Value) (cur : Array Value) (hg : w.heap[b]? = some (.cells cur e (0, 0))) (hfit : o + news.length <= cur.size) (h1 : ∀ u ∈ news, u.oneCell' = true) :
  w.setCells b o news = w.setRow b (cur.toList.take o ++ news ++ cur.toList.drop (o + news.length)).toArray := by
 have hc : ∀ j, j < news.length -> (w.cell? ⟨b, o + 0 + j, none⟩).isSome = true := by
  intro j hj
  rw [cell_row hg (v := cur.toList[o + 0 + j]'(by simp; omega)) (by simp)]
  rfl
 have hf : ∀ j, j < news.length -> w.frozen? ⟨b, o + 0 + j, none⟩ = false := by
  intro j _
  simp [World.frozen?, hg]
 have a1 := run_storeCells_cells (P := default) b o news 0 w hc hf h1
 have a2 := run_storeCells_at default b o e news 0 cur w hg (by simpa using hfit) h1
 rw [a1] at a2
 simp only [Nat.add_zero, Result.ok.injEq] at a2
 exact a2.2
end
section
variable {P : Program} {ρ : Ren} {G : Globs}
theorem keep_row {w : World} {R : Own} {g : Nat} {cur : Array Value} {t : TypeId} (hg : w.heap[g]? = some (.cells cur t (0, 0))) (arr : Array Value) (hsz : arr.size = cur.size) (hRv : ∀ j, j < cur.size -> R g j) (hpos : 0 < cur.size) (bs : List Nat) (hb : g ∉ bs) : Keep w R (w.setRow g arr) R bs :=
 step_setRow hg arr hsz (fun _ _ h => h) (fun _ _ _ h => h) (fun off hno => by
  rw [Array.getElem?_eq_none (by
   rcases Nat.lt_or_ge off cur.size with h' | h'
   ·exact (hno (hRv off h')).elim
   ·omega), Array.getElem?_eq_none (by
   rcases Nat.lt_or_ge off cur.size with h' | h'
   ·exact (hno (hRv off h')).elim
   omega)]) ⟨0, hRv 0 hpos⟩ bs hb
theorem keep_drew {w w' : World} {R R' : Own} {bs : List Nat} (k : Keep w.drew R w' R' bs) : Keep w R w' R' bs :=
 ⟨⟨k.step.os, k.step.tape, k.step.output, k.step.size, k.step.block, k.step.cell, k.step.sizes⟩, k.same⟩
theorem keep_drewN {w : World} {R : Own} (q : Nat) (bs : List Nat) : Keep w R (w.drewN q) R bs :=
 ⟨⟨rfl, rfl, rfl, Nat.le_refl _, fun b _ h => ⟨rfl, h⟩, fun b off _ h => ⟨h, rfl⟩, fun b _ => rfl⟩, fun b _ _ => ⟨rfl, fun _ h => h⟩⟩
/-- slices.BinarySearch at []int. -/
theorem c_search (L : Lays2.n25 P ρ) {l : List Int} {x : Int} (hs : l.Pairwise (· <= ·)) (hn : l.length < 1000000000) :
  ACalls P G (ρ.f 25) [.win (.out 0) 1 0 l.length, iv x] [(.out 0, .cells (ivs l))] 1 (XQ ⟨.tup [iv (Int.ofNat (l.countP (· < x))), bv (l.contains x)], [(.out 0, .cells (ivs l))], 1⟩) := by
 intro w R N cargs bsA bsH bsF hargs hheap hnd hnx hglob hF
 obtain ⟨v0, r1, c0, d1, rfl, rfl, h0, hr1⟩ := repVs_cons_inv hargs
 obtain ⟨v1, r2, c1, d2, rfl, rfl, h1, hr2⟩ := repVs_cons_inv hr1
 obtain ⟨rfl, rfl⟩ := repVs_nil_inv hr2
 have hheap0 := hheap
 obtain ⟨b, b1, b2, rfl, hb, hobj, hrest⟩ := hheap
 have hrest : b2 = [] := hrest
 subst hrest
 obtain ⟨vs, elem, sp, hblk, hrv, hRv, _⟩ := hobj
 simp only [RepV] at h0 h1
 obtain ⟨rfl, b', cap, hb', rfl, hcap, _, hblt, hrow⟩ := h0
 have : b' = b := by rw [hb] at hb'; simpa using hb'.symm
 subst this
 obtain ⟨rfl, h1⟩ := h1
 have h1 : RepC w R v1 (.flat (.int .i64 x)) := h1
 have e1 : v1 = .int .i64 x := by cases h1 with | flat _ => rfl
 have hfx : isFlat (.int .i64 x) = true := by cases h1 with | flat h => exact h
 subst e1
 obtain ⟨us1, us2, q1, q2, hus, rfl, hr1, _⟩ := repVs_split hrv
 obtain ⟨rfl, rfl, hfl⟩ := ivs_inv hr1
 have hcell : ∀ j, j < l.length -> w.cell? ⟨b', 0 + j, none⟩ = some (.int .i64 (l.getD j 0)) := by
  intro j hj
  refine cell_row hblk ?_
  rw [hus, Nat.zero_add, List.getElem?_append_left (by simp [ints]; exact hj)]
  simp [ints, hj]
 refine (Any.slices_BinarySearch_int L b' 0 l.length cap l x w (Nat.le_refl _) (by omega) hcell (by rw [List.take_length]; exact hs)).mono ?_
 rintro e w' ⟨rfl, q, rfl⟩
 rw [List.take_length]
 have hk : ∀ bs, Keep w R (w.drewN q) R bs := keep_drewN q
 refine ⟨_, _, _, 1, R, N, [], _, rfl, ⟨rfl, rfl, rfl⟩, ?_, hheap0.keep (hk _), by simpa using hnd, hnx, hk _, fun _ _ h => h⟩
 have hi : ∀ n : Nat, n < 9223372036854775808 -> isFlat (.int .i64 (Int.ofNat n)) = true := by
  intro n hn
  simp [isFlat, IntKind.min, IntKind.max, IntKind.signed, IntKind.bits]
  omega
 have hcnt : l.countP (· < x) <= l.length := List.countP_le_length
 simp only [RepV]
 refine ⟨[.int .i64 (Int.ofNat (l.countP (· < x))), .bool (l.contains x)], rfl, ?_⟩
 refine repVs_cons (b1 := []) (b2 := []) ?_ (repVs_cons (b1 := []) (b2 := []) ?_ repVs_nil)
 ·simp only [RepV]; exact ⟨trivial, .flat (hi _ (by omega))⟩
 simp only [RepV]; exact ⟨trivial, .flat rfl⟩
/-- The row with one more. -/
def insAt (l : List Int) (i : Nat) (x : Int) : List Int := l.take i ++ x :: l.drop i
theorem insAt_length {l : List Int} {i : Nat} {x : Int} (h : i <= l.length) : (insAt l i x).length = l.length + 1 := by simp [insAt]; omega
theorem insAt_ints {l : List Int} {i : Nat} {x : Int} : ints (insAt l i x) = (ints l).take i ++ .int .i64 x :: (ints l).drop i := by simp [insAt, ints, List.map_take, List.map_drop]
theorem insAt_flat {l : List Int} {i : Nat} {x : Int} (h : ∀ y ∈ l, isFlat (.int .i64 y) = true) (hx : isFlat (.int .i64 x) = true) : ∀ y ∈ insAt l i x, isFlat (.int .i64 y) = true := by
 intro y hy
 simp only [insAt, List.mem_append, List.mem_cons] at hy
 rcases hy with hy | rfl | hy
 ·exact h y (List.mem_of_mem_take hy)
 ·exact hx
 exact h y (List.mem_of_mem_drop hy)
theorem ivs_bld (l : List Int) : bldSh (ivs l) = false := by
 rcases l with _ | ⟨a, _ | ⟨b, _ | ⟨c, r⟩⟩⟩ <;> rfl
theorem undefs_bs {w : World} {R : Own} {N : Name -> Option Nat} : ∀ {n : Nat} {us : List Value} {bs : List Nat}, RepVs w R N (List.replicate n .undef) us bs -> bs = [] /\ us.length = n
 | 0, us, bs, h => by obtain ⟨rfl, rfl⟩ := repVs_nil_inv h; exact ⟨rfl, rfl⟩
 | n + 1, us, bs, h => by
  have h : RepVs w R N (.undef :: List.replicate n .undef) us bs := h
  obtain ⟨v, vs', b1, b2, rfl, rfl, h1, h2⟩ := repVs_cons_inv h
  obtain ⟨rfl, h3⟩ := undefs_bs h2
  simp only [RepV] at h1
  subst h1
  exact ⟨rfl, by simp [h3]⟩
/-- What is behind: the block g holds the row. -/
theorem ins_end {w w' : World} {R R' : Own} {N : Name -> Option Nat} {vb g cap : Nat} {elem : TypeId} {arr rest : List Value} {l2 : List Int} {x : Int} {bsF : List Nat}
  (hnx : ∀ o b, N (.out o) = some b -> o < 2) (hk : ∀ bs, g ∉ bs -> Keep w R w' R' bs) (hgF : g ∉ bsF) (hgv : g ≠ vb) (hnd : (vb :: bsF).Nodup)
  (hg : w'.heap[g]? = some (.cells arr.toArray elem (0, 0))) (harr : arr = ints l2 ++ rest) (hfl : ∀ y ∈ l2, isFlat (.int .i64 y) = true) (hR' : ∀ j, j < arr.length -> R' g j) (hcap : arr.length = cap) (hcm : cap <= capMax) (hl2 : l2.length <= cap)
  (hv : RepObjs w R (outs N) [(.out 1, .cells [iv x])] [vb]) (cv : Value) (hcv : cv = .slice (some ⟨g, 0, none⟩) l2.length cap) :
  ∃ v cv' heap' next' R2 N' bsV bsH', Ending.returned cv = .returned cv' /\ XQ ⟨.win (.out 2) 1 0 l2.length, [(.out 2, .cells (ivs l2)), (.out 1, .cells [iv x])], 3⟩ v heap' next' /\ RepV w' R2 (outs N') v cv' bsV /\ RepObjs w' R2 (outs N') heap' bsH' ∧
   (bsV ++ (bsH' ++ bsF)).Nodup /\ (∀ o b, N' (.out o) = some b -> o < next') /\ Keep w R w' R2 bsF /\ (∀ o b, N (.out o) = some b -> N' (.out o) = some b) := by
 have hext := setN_ext (N := N) (b := g) hnx
 have hlt : g < w'.heap.size := lt_of_heap hg
 refine ⟨_, cv, _, 3, R', setN N (.out 2) g, [], [g, vb], rfl, ⟨rfl, rfl, rfl⟩, ?_, ?_, ?_, ?_, hk bsF hgF, fun o b h => hext _ _ h⟩
 ·simp only [RepV]
  refine ⟨trivial, g, cap, by simp [outs, setN], hcv, hl2, ⟨by decide, hcm⟩, hlt, ?_⟩
  rw [rowSize_of hg]
  simp [hcap]
 ·refine ⟨g, [], [vb], rfl, by simp [outs, setN], ?_, (hv.keep (hk _ (by simpa using hgv))).ext (outs_ext hext)⟩
  refine ⟨arr.toArray, elem, rest.length, hg, ?_, fun j hj => hR' j (by simpa using hj), fun h => by rw [ivs_bld] at h; simp at h⟩
  have h1 : RepVs w' R' (outs (setN N (.out 2) g)) (ivs l2) (ints l2) [] := ivs_mk hfl
  have h2 := repVs_undefs (w := w') (R := R') (N := outs (setN N (.out 2) g)) rest
  simpa [harr] using repVs_append h1 h2
 ·simp only [List.nil_append, List.cons_append]
  refine List.nodup_cons.2 ⟨?_, hnd⟩
  simp only [List.mem_cons, not_or]
  exact ⟨hgv, hgF⟩
 intro o c ho
 by_cases hne : o = 2
 ·omega
 have : N (.out o) = some c := by simpa [setN, hne] using ho
 have := hnx o c this
 omega
theorem ins_new (B z1 z2 : List Value) (x zz : Value) (i : Nat) (h : B.length = i) : (B ++ zz :: z1 ++ z2).take i ++ [x] ++ (B ++ zz :: z1 ++ z2).drop (i + 1) = B ++ x :: (z1 ++ z2) := by
 subst h
 have e1 : (B ++ zz :: z1 ++ z2).take B.length = B := by simp
 have e2 : (B ++ zz :: z1 ++ z2).drop (B.length + 1) = z1 ++ z2 := by
  rw [List.append_assoc, List.drop_length_add_append]
  rfl
 rw [e1, e2]
 simp
theorem ins_cells (A : List Value) (u0 x : Value) (us3 : List Value) (i : Nat) (h : i <= A.length) :
  ((A ++ u0 :: us3).take (i + 1) ++ A.drop i ++ (A ++ u0 :: us3).drop (i + 1 + (A.drop i).length)).take i ++ [x] ++ ((A ++ u0 :: us3).take (i + 1) ++ A.drop i ++ (A ++ u0 :: us3).drop (i + 1 + (A.drop i).length)).drop (i + 1) = A.take i ++ x :: A.drop i ++ us3 := by
 obtain ⟨A1, A2, rfl, h1⟩ : ∃ A1 A2, A = A1 ++ A2 /\ A1.length = i := ⟨A.take i, A.drop i, (List.take_append_drop i A).symm, by simp; omega⟩
 subst h1
 have e1 : (A1 ++ A2).drop A1.length = A2 := by simp
 have e2 : (A1 ++ A2).take A1.length = A1 := by simp
 rw [e1, e2]
 obtain ⟨y, t, ht⟩ : ∃ y t, A2 ++ u0 :: us3 = y :: t := by cases A2 with | nil => exact ⟨_, _, rfl⟩ | cons a r => exact ⟨_, _, rfl⟩
 have e3 : (A1 ++ A2 ++ u0 :: us3).take (A1.length + 1) = A1 ++ [y] := by rw [List.append_assoc, ht]; simp [List.take_append]; exact List.take_of_length_le (by omega)
 have e4 : (A1 ++ A2 ++ u0 :: us3).drop (A1.length + 1 + A2.length) = us3 := by
  have : A1.length + 1 + A2.length = (A1 ++ A2).length + 1 := by simp; omega
  rw [this, List.drop_length_add_append]
  rfl
 rw [e3, e4]
 simp [List.take_append, List.drop_append]
/-- slices.Insert at []int. -/
theorem c_insert (L : Lays2.n21 P ρ) {l : List Int} {x : Int} {i : Nat} (hi : i <= l.length) (hn : l.length < 1000000000) :
  ACalls P G (ρ.f 21) [.win (.out 0) 1 0 l.length, iv (Int.ofNat i), .win (.out 1) 1 0 1] [(.out 0, .cells (ivs l)), (.out 1, .cells [iv x])] 2
   (XQ ⟨.win (.out 2) 1 0 (insAt l i x).length, [(.out 2, .cells (ivs (insAt l i x))), (.out 1, .cells [iv x])], 3⟩) := by
 intro w R N cargs bsA bsH bsF hargs hheap hnd hnx hglob hF
 obtain ⟨v0, r1, c0, d1, rfl, rfl, h0, hr1⟩ := repVs_cons_inv hargs
 obtain ⟨v1, r2, c1, d2, rfl, rfl, h1, hr2⟩ := repVs_cons_inv hr1
 obtain ⟨v2, r3, c2, d3, rfl, rfl, h2, hr3⟩ := repVs_cons_inv hr2
 obtain ⟨rfl, rfl⟩ := repVs_nil_inv hr3
 obtain ⟨b, b1, b2, rfl, hb, hobj, hrest⟩ := hheap
 have hrest0 := hrest
 obtain ⟨vb, b3, b4, rfl, hvb, hobjv, hrest⟩ := hrest
 have hrest : b4 = [] := hrest
 subst hrest
 obtain ⟨vs, elem, sp, hblk, hrv, hRv, _⟩ := hobj
 obtain ⟨vs2, elem2, sp2, hblk2, hrv2, hRv2, _⟩ := hobjv
 simp only [RepV] at h0 h1 h2
 obtain ⟨rfl, b', cap, hb', rfl, hcap, ⟨_, hcm⟩, hblt, hrow⟩ := h0
 have : b' = b := by rw [hb] at hb'; simpa using hb'.symm
 subst this
 obtain ⟨rfl, vb', vc, hvb', rfl, hvc, _, hvlt, hvrow⟩ := h2
 have : vb' = vb := by rw [hvb] at hvb'; simpa using hvb'.symm
 subst this
 obtain ⟨rfl, h1⟩ := h1
 have h1 : RepC w R v1 (.flat (.int .i64 (Int.ofNat i))) := h1
 have e1 : v1 = .int .i64 (Int.ofNat i) := by cases h1 with | flat _ => rfl
 subst e1
 obtain ⟨us1, us2, q1, q2, hus, rfl, hr1, hq2⟩ := repVs_split hrv
 obtain ⟨rfl, rfl, hfl⟩ := ivs_inv hr1
 obtain ⟨ws1, ws2, q3, q4, hws, rfl, hr2, hq4⟩ := repVs_split hrv2
 obtain ⟨rfl, rfl, hfx⟩ := ivs_inv (l := [x]) hr2
 have hfx := hfx x (by simp)
 obtain ⟨rfl, _⟩ := undefs_bs hq2
 obtain ⟨rfl, _⟩ := undefs_bs hq4
 simp only [List.nil_append, List.append_nil, List.cons_append] at hnd
 have hvb0 : b' ≠ vb' := by
  have := (List.nodup_cons.1 hnd).1
  simp only [List.mem_cons, not_or] at this
  exact this.1
 have hbF : b' ∉ bsF := by
  have := (List.nodup_cons.1 hnd).1
  simp only [List.mem_cons, not_or] at this
  exact this.2
 have hnd2 : (vb' :: bsF).Nodup := (List.nodup_cons.1 hnd).2
 have hsz : vs.size = cap := by rw [rowSize_of hblk] at hrow; omega
 have hlen : (ints l).length = l.length := by simp [ints]
 have hl2 : (insAt l i x).length = l.length + 1 := insAt_length hi
 have hfl2 := insAt_flat (i := i) hfl hfx
 have hvs : ∀ j v, [Value.int .i64 x][j]? = some v -> w.cell? ⟨vb', 0 + j, none⟩ = some v := by
  intro j v hj
  refine cell_row hblk2 ?_
  rw [hws]
  cases j with
  | zero => simpa [ints] using hj
  | succ j => simp at hj
 have hcs : ∀ j v, (ints l)[j]? = some v -> w.cell? ⟨b', 0 + j, none⟩ = some v := by
  intro j v hj
  refine cell_row hblk ?_
  have : j < (ints l).length := (List.getElem?_eq_some_iff.1 hj).1
  rw [hus, Nat.zero_add, List.getElem?_append_left this]
  exact hj
 have h1v : ∀ v ∈ [Value.int .i64 x], v.oneCell' = true := by intro v hv; simp at hv; subst hv; rfl
 have hsome : ∀ j, j < cap -> (w.cell? ⟨b', 0 + j, none⟩).isSome = true := by
  intro j hj
  have hj2 : j < vs.toList.length := by simp; omega
  rw [cell_row hblk (v := vs.toList[j]) (by rw [Nat.zero_add]; exact List.getElem?_eq_getElem hj2)]
  rfl
 have hfroz : ∀ j, w.frozen? ⟨b', j, none⟩ = false := by intro j; simp [World.frozen?, hblk]
 have hus2 : us2.length = cap - l.length := by
  have := congrArg List.length hus
  simp [hlen] at this
  omega
 by_cases hroom : l.length + 1 <= cap
 ·
  obtain ⟨u0, us3, rfl⟩ : ∃ u0 us3, us2 = u0 :: us3 := by
   cases us2 with
   | nil => simp at hus2; omega
   | cons a r => exact ⟨a, r, rfl⟩
  rcases Nat.lt_or_ge i l.length with hlt | hge
  ·refine (Any2.slices_Insert_int_shift L b' 0 l.length cap i vb' 0 1 vc (ints l) [.int .i64 x] w hlt (by decide) hroom ?_ (Ne.symm hvb0) hlen rfl hcs (fun j hj => hsome j (by omega)) (fun j _ => hfroz _) hvs ints_one h1v elem2 elem vs2.size vs.size ?_ ?_ ?_ ?_ ?_).mono ?_
   ·exact hcm
   ·simp [World.shape?, hblk2]
   ·simp [World.shape?, hblk]
   ·omega
   ·simp [World.frozen?, hblk2]
   ·simp [World.frozen?, hblk2]
   rintro e w' ⟨rfl, rfl⟩
   have hg1 : (w.drew).heap[b']? = some (.cells vs elem (0, 0)) := hblk
   have hd : ((ints l).drop i).length = l.length - i := by simp [hlen]
   rw [setCells_row (w := w.drew) b' (0 + (i + 1)) elem ((ints l).drop i) vs hg1 (by rw [hd]; omega) (fun u hu => ints_one u (List.mem_of_mem_drop hu))]
   obtain ⟨ar1, har1⟩ : ∃ ar1, ar1 = vs.toList.take (0 + (i + 1)) ++ (ints l).drop i ++ vs.toList.drop (0 + (i + 1) + ((ints l).drop i).length) := ⟨_, rfl⟩
   rw [← har1]
   have hl1 : ar1.length = cap := by
    rw [har1]
    simp [hlen]
    omega
   have hg2 := setRow_heap w.drew b' vs ar1.toArray elem (0, 0) hg1
   rw [setCells_row (w := w.drew.setRow b' ar1.toArray) b' (0 + i) elem [.int .i64 x] ar1.toArray hg2 (by simp [hl1]; omega) h1v]
   obtain ⟨ar2, har2⟩ : ∃ ar2, ar2 = ar1.toArray.toList.take (0 + i) ++ [.int .i64 x] ++ ar1.toArray.toList.drop (0 + i + [Value.int .i64 x].length) := ⟨_, rfl⟩
   rw [← har2]
   have hl3 : ar2.length = cap := by
    rw [har2]
    simp [hl1]
    omega
   have hg3 := setRow_heap (w.drew.setRow b' ar1.toArray) b' ar1.toArray ar2.toArray elem (0, 0) hg2
   refine ins_end (g := b') (vb := vb') (cap := cap) (arr := ar2) (rest := us3) (R' := R) hnx (fun bs hb => ?_) hbF hvb0 hnd2 hg3 ?_ hfl2 (fun j hj => hRv j (by omega)) hl3 hcm (by rw [hl2]; exact hroom) hrest0 _ (by rw [hl2])
   ·refine keep_drew (Keep.trans (keep_row hg1 ar1.toArray (by simp [hl1, hsz]) hRv (by omega) bs hb) (keep_row hg2 ar2.toArray (by simp [hl1, hl3]) (fun j hj => hRv j (by simp [hl1] at hj; omega)) (by simp [hl1]; omega) bs hb))
   -- the cells
   have hv : vs.toList = ints l ++ (u0 :: us3) := hus
   rw [har2, har1, hv, insAt_ints]
   simp only [Nat.zero_add, List.toList_toArray, List.length_singleton]
   exact ins_cells (ints l) u0 (.int .i64 x) us3 i (by rw [hlen]; omega)
  have hil : i = l.length := by omega
  subst hil
  refine (Any2.slices_Insert_int_end_room L b' 0 l.length cap vb' 0 1 vc [.int .i64 x] w (by decide) hroom hcm rfl (fun j hj => ?_) (fun j _ => hfroz _) hvs h1v).mono ?_
  ·rw [Nat.add_assoc]; exact hsome _ (by omega)
  rintro e w' ⟨rfl, rfl⟩
  rw [setCells_row (w := w) b' (0 + l.length) elem [.int .i64 x] vs hblk (by simp; omega) h1v]
  obtain ⟨ar2, har2⟩ : ∃ ar2, ar2 = vs.toList.take (0 + l.length) ++ [.int .i64 x] ++ vs.toList.drop (0 + l.length + [Value.int .i64 x].length) := ⟨_, rfl⟩
  rw [← har2]
  have hl3 : ar2.length = cap := by
   rw [har2]
   simp
   omega
  have hg3 := setRow_heap w b' vs ar2.toArray elem (0, 0) hblk
  refine ins_end (g := b') (vb := vb') (cap := cap) (arr := ar2) (rest := us3) (R' := R) hnx (fun bs hb => keep_row hblk ar2.toArray (by simp [hl3, hsz]) hRv (by omega) bs hb) hbF hvb0 hnd2 hg3 ?_ hfl2 (fun j hj => hRv j (by omega)) hl3 hcm (by rw [hl2]; exact hroom) hrest0 _ (by rw [hl2])
  have hv : vs.toList = ints l ++ (u0 :: us3) := hus
  rw [har2, hv, insAt_ints, Nat.zero_add, ← hlen, List.take_left, List.take_length, List.drop_length, List.length_singleton, List.drop_length_add_append]
  simp
 -- a new row
 have hcl : cap = l.length := by omega
 subst hcl
 have hge := grownCap_ge w (l.length + 1) l.length (ρ.t 3)
 have hgm : grownCap w (l.length + 1) l.length (ρ.t 3) <= capMax := Nat.le_trans (grownCap_le_maxLen w (l.length + 1) l.length (ρ.t 3) (by unfold maxLen; omega)) (by decide)
 generalize hgc : grownCap w (l.length + 1) l.length (ρ.t 3) = gc at hge hgm
 have hltb : b' < w.heap.size := lt_of_heap hblk
 have hltv : vb' < w.heap.size := lt_of_heap hblk2
 have hzs : ∀ n, (Builtin.zeroCells (Value.int .i64 0).cells n).toList.length = n := fun n => by simp [Builtin.zeroCells, Value.cells]
 have hF2 : w.heap.size ∉ bsF := fun h => by have := hF _ h; omega
 have hRm : ∀ j, R.more w.heap.size w.heap.size j := fun j => .inl rfl
 rcases Nat.lt_or_ge i l.length with hlt | hge2
 ·refine (Any2.slices_Insert_int_grow L b' 0 l.length l.length i vb' 0 1 vc (ints l) [.int .i64 x] w hlt (by decide) (Nat.le_refl _) (by omega) (by omega) hlen rfl hcs hvs ints_one h1v).mono ?_
  rw [hgc]
  rintro e w' ⟨rfl, rfl⟩
  obtain ⟨z1, hz1⟩ : ∃ z1, z1 = (Builtin.zeroCells (Value.int .i64 0).cells (l.length + 1 - i)).toList := ⟨_, rfl⟩
  obtain ⟨z2, hz2⟩ : ∃ z2, z2 = (Builtin.zeroCells (Value.int .i64 0).cells (gc - (l.length + 1))).toList := ⟨_, rfl⟩
  have hl1 : z1.length = l.length + 1 - i := by rw [hz1, hzs]
  have hl2' : z2.length = gc - (l.length + 1) := by rw [hz2, hzs]
  obtain ⟨ar0, har0⟩ : ∃ ar0, ar0 = (ints l).take i ++ z1 ++ z2 := ⟨_, rfl⟩
  have hc0 : (((ints l).take i).toArray ++ Builtin.zeroCells (Value.int .i64 0).cells (l.length + 1 - i) ++ Builtin.zeroCells (Value.int .i64 0).cells (gc - (l.length + 1))) = ar0.toArray := by rw [har0, hz1, hz2]; simp
  rw [hc0]
  have hl0 : ar0.length = gc := by rw [har0]; simp [hl1, hl2', hlen]; omega
  have hg0 : ((w.alloc (.cells ar0.toArray (ρ.t 3))).drew).heap[w.heap.size]? = some (.cells ar0.toArray (ρ.t 3) (0, 0)) := heap_alloc_new w _
  rw [setCells_row (w := (w.alloc (.cells ar0.toArray (ρ.t 3))).drew) w.heap.size i (ρ.t 3) [.int .i64 x] ar0.toArray hg0 (by simp [hl0]; omega) h1v]
  obtain ⟨ar1, har1⟩ : ∃ ar1, ar1 = ar0.toArray.toList.take i ++ [.int .i64 x] ++ ar0.toArray.toList.drop (i + [Value.int .i64 x].length) := ⟨_, rfl⟩
  rw [← har1]
  have hl3 : ar1.length = gc := by rw [har1]; simp [hl0]; omega
  have hg1 := setRow_heap (w.alloc (.cells ar0.toArray (ρ.t 3))).drew w.heap.size ar0.toArray ar1.toArray (ρ.t 3) (0, 0) hg0
  have hg1' : (((w.alloc (.cells ar0.toArray (ρ.t 3))).drew.setRow w.heap.size ar1.toArray).drew).heap[w.heap.size]? = some (.cells ar1.toArray (ρ.t 3) (0, 0)) := hg1
  have hd : ((ints l).drop i).length = l.length - i := by simp [hlen]
  rw [setCells_row (w := ((w.alloc (.cells ar0.toArray (ρ.t 3))).drew.setRow w.heap.size ar1.toArray).drew) w.heap.size (i + 1) (ρ.t 3) ((ints l).drop i) ar1.toArray hg1' (by rw [hd]; simp [hl3]; omega) (fun u hu => ints_one u (List.mem_of_mem_drop hu))]
  obtain ⟨ar2, har2⟩ : ∃ ar2, ar2 = ar1.toArray.toList.take (i + 1) ++ (ints l).drop i ++ ar1.toArray.toList.drop (i + 1 + ((ints l).drop i).length) := ⟨_, rfl⟩
  rw [← har2]
  have hl4 : ar2.length = gc := by rw [har2]; simp [hl3, hlen]; omega
  have hg2 := setRow_heap ((w.alloc (.cells ar0.toArray (ρ.t 3))).drew.setRow w.heap.size ar1.toArray).drew w.heap.size ar1.toArray ar2.toArray (ρ.t 3) (0, 0) hg1'
  refine ins_end (g := w.heap.size) (vb := vb') (cap := gc) (arr := ar2) (rest := z2) (R' := R.more w.heap.size) hnx (fun bs hb => ?_) hF2 (by omega) hnd2 hg2 ?_ hfl2 (fun j _ => hRm j) hl4 hgm (by rw [hl2]; exact hge) hrest0 _ (by rw [hl2])
  ·have k1 : Keep w R (w.alloc (.cells ar0.toArray (ρ.t 3))) (R.more w.heap.size) bs := keep_alloc _ (fun b off hb => Own.more_iff hb) bs
   have k2 := keep_row (R := R.more w.heap.size) hg0 ar1.toArray (by simp [hl0, hl3]) (fun j _ => hRm j) (by simp [hl0]; omega) bs hb
   have k3 := keep_row (R := R.more w.heap.size) hg1' ar2.toArray (by simp [hl4, hl3]) (fun j _ => hRm j) (by simp [hl3]; omega) bs hb
   exact k1.trans (keep_drew (k2.trans (keep_drew k3)))
  have e0 : ((ints l).take i).length = i := by simp [hlen]; omega
  obtain ⟨zz, z1', hz⟩ : ∃ zz z1', z1 = zz :: z1' := by
   cases z1 with
   | nil => simp at hl1; omega
   | cons a r => exact ⟨a, r, rfl⟩
  have hl5 : z1'.length = l.length - i := by rw [hz] at hl1; simp at hl1; omega
  have e1 : ar1 = (ints l).take i ++ .int .i64 x :: (z1' ++ z2) := by
   rw [har1, har0, hz]
   simp only [List.toList_toArray, List.length_singleton]
   exact ins_new _ z1' z2 (.int .i64 x) zz i e0
  rw [har2, e1, insAt_ints]
  simp only [List.toList_toArray]
  have e2 : ((ints l).take i ++ .int .i64 x :: (z1' ++ z2)).take (i + 1) = (ints l).take i ++ [.int .i64 x] := by
   rw [List.take_append, e0]
   simp [List.take_take]
  have e3 : ((ints l).take i ++ .int .i64 x :: (z1' ++ z2)).drop (i + 1 + ((ints l).drop i).length) = z2 := by
   have : i + 1 + ((ints l).drop i).length = ((ints l).take i).length + (1 + z1'.length) := by rw [e0, hd, hl5]; omega
   rw [this, List.drop_length_add_append, Nat.add_comm 1, List.drop_succ_cons, List.drop_left]
  rw [e2, e3]
  simp
 have hil : i = l.length := by omega
 subst hil
 refine (Any2.slices_Insert_int_end_grow L (some ⟨b', 0, none⟩) l.length l.length vb' 0 1 vc (ints l) [.int .i64 x] w (by decide) (Nat.le_refl _) (by omega) (by omega) hlen rfl (by simp) (fun a ha j v hj => ?_) hvs h1v).mono ?_
 ·simp only [Option.some.injEq] at ha
  subst ha
  rw [add_plain]
  exact hcs j v hj
 rw [hgc]
 rintro e w' ⟨rfl, rfl⟩
 obtain ⟨ar2, har2⟩ : ∃ ar2, ar2 = (ints l ++ [.int .i64 x]) ++ (Builtin.zeroCells (Value.int .i64 0).cells (gc - (l.length + 1))).toList := ⟨_, rfl⟩
 have hcells : ((ints l ++ [Value.int .i64 x]).toArray ++ Builtin.zeroCells (Value.int .i64 0).cells (gc - (l.length + 1))) = ar2.toArray := by rw [har2]; simp
 rw [hcells]
 have hl3 : ar2.length = gc := by rw [har2, List.length_append, hzs]; simp [hlen]; omega
 have hg3 : (w.drew.alloc (.cells ar2.toArray (ρ.t 3))).heap[w.heap.size]? = some (.cells ar2.toArray (ρ.t 3) (0, 0)) := heap_alloc_new w.drew _
 refine ins_end (g := w.heap.size) (vb := vb') (cap := gc) (arr := ar2) (rest := (Builtin.zeroCells (Value.int .i64 0).cells (gc - (l.length + 1))).toList) (R' := R.more w.heap.size) hnx (fun bs hb => keep_drew_alloc _ (fun b off hb => Own.more_iff hb) bs) hF2 (by omega) hnd2 hg3 ?_ hfl2 (fun j _ => hRm j) hl3 hgm (by rw [hl2]; exact hge) hrest0 _ (by rw [hl2])
 rw [har2, insAt_ints, ← hlen, List.take_length, List.drop_length]
/-- .. on nothing. -/
theorem c_insert_nil (L : Lays2.n21 P ρ) {x : Int} :
  ACalls P G (ρ.f 21) [.dat (.flat (.slice none 0 0)), iv (Int.ofNat 0), .win (.out 0) 1 0 1] [(.out 0, .cells [iv x])] 1
   (XQ ⟨.win (.out 1) 1 0 1, [(.out 1, .cells [iv x]), (.out 0, .cells [iv x])], 2⟩) := by
 intro w R N cargs bsA bsH bsF hargs hheap hnd hnx hglob hF
 obtain ⟨v0, r1, c0, d1, rfl, rfl, h0, hr1⟩ := repVs_cons_inv hargs
 obtain ⟨v1, r2, c1, d2, rfl, rfl, h1, hr2⟩ := repVs_cons_inv hr1
 obtain ⟨v2, r3, c2, d3, rfl, rfl, h2, hr3⟩ := repVs_cons_inv hr2
 obtain ⟨rfl, rfl⟩ := repVs_nil_inv hr3
 have hheap0 := hheap
 obtain ⟨vb, b3, b4, rfl, hvb, hobjv, hrest⟩ := hheap
 have hrest : b4 = [] := hrest
 subst hrest
 obtain ⟨vs2, elem2, sp2, hblk2, hrv2, hRv2, _⟩ := hobjv
 simp only [RepV] at h0 h1 h2
 obtain ⟨rfl, h0⟩ := h0
 have hv : v0 = .slice none 0 0 := by
  have h0 : RepC w R v0 (.flat (.slice none 0 0)) := h0
  cases h0 with | flat _ => rfl
 subst hv
 obtain ⟨rfl, vb', vc, hvb', rfl, hvc, _, hvlt, hvrow⟩ := h2
 have : vb' = vb := by rw [hvb] at hvb'; simpa using hvb'.symm
 subst this
 obtain ⟨rfl, h1⟩ := h1
 have h1 : RepC w R v1 (.flat (.int .i64 (Int.ofNat 0))) := h1
 have e1 : v1 = .int .i64 (Int.ofNat 0) := by cases h1 with | flat _ => rfl
 subst e1
 obtain ⟨ws1, ws2, q3, q4, hws, rfl, hr2, hq4⟩ := repVs_split hrv2
 obtain ⟨rfl, rfl, hfx⟩ := ivs_inv (l := [x]) hr2
 obtain ⟨rfl, _⟩ := undefs_bs hq4
 simp only [List.nil_append, List.append_nil] at hnd
 have hvs : ∀ j v, [Value.int .i64 x][j]? = some v -> w.cell? ⟨vb', 0 + j, none⟩ = some v := by
  intro j v hj
  refine cell_row hblk2 ?_
  rw [hws]
  cases j with
  | zero => simpa [ints] using hj
  | succ j => simp at hj
 have h1v : ∀ v ∈ [Value.int .i64 x], v.oneCell' = true := by intro v hv; simp at hv; subst hv; rfl
 have hltv : vb' < w.heap.size := lt_of_heap hblk2
 have hF2 : w.heap.size ∉ bsF := fun h => by have := hF _ h; omega
 refine (Any2.slices_Insert_int_end_grow L none 0 0 vb' 0 1 vc [] [.int .i64 x] w (by decide) (Nat.le_refl _) (by omega) (by omega) rfl rfl (by simp) (by simp) hvs h1v).mono ?_
 have hge := grownCap_ge w (0 + 1) 0 (ρ.t 3)
 have hgm : grownCap w (0 + 1) 0 (ρ.t 3) <= capMax := Nat.le_trans (grownCap_le_maxLen w (0 + 1) 0 (ρ.t 3) (by unfold maxLen; omega)) (by decide)
 generalize hgc : grownCap w (0 + 1) 0 (ρ.t 3) = gc at hge hgm
 have hzs : ∀ n, (Builtin.zeroCells (Value.int .i64 0).cells n).toList.length = n := fun n => by simp [Builtin.zeroCells, Value.cells]
 rintro e w' ⟨rfl, rfl⟩
 obtain ⟨ar2, har2⟩ : ∃ ar2, ar2 = Value.int .i64 x :: (Builtin.zeroCells (Value.int .i64 0).cells (gc - (0 + 1))).toList := ⟨_, rfl⟩
 have hcells : (([] ++ [Value.int .i64 x]).toArray ++ Builtin.zeroCells (Value.int .i64 0).cells (gc - (0 + 1))) = ar2.toArray := by
  apply Array.toList_inj.1
  rw [har2]
  simp
 rw [hcells]
 have hl3 : ar2.length = gc := by rw [har2, List.length_cons, hzs]; omega
 have hg3 : (w.drew.alloc (.cells ar2.toArray (ρ.t 3))).heap[w.heap.size]? = some (.cells ar2.toArray (ρ.t 3) (0, 0)) := heap_alloc_new w.drew _
 have hk : ∀ bs, Keep w R (w.drew.alloc (.cells ar2.toArray (ρ.t 3))) (R.more w.heap.size) bs := fun bs => keep_drew_alloc _ (fun b off hb => Own.more_iff hb) bs
 have hext := setN_ext (N := N) (b := w.heap.size) hnx
 refine ⟨_, _, _, 2, R.more w.heap.size, setN N (.out 1) w.heap.size, [], [w.heap.size, vb'], rfl, ⟨rfl, rfl, rfl⟩, ?_, ?_, ?_, ?_, hk bsF, fun o b h => hext _ _ h⟩
 ·simp only [RepV]
  refine ⟨trivial, w.heap.size, gc, by simp [outs, setN], rfl, hge, ⟨by decide, hgm⟩, lt_of_heap hg3, ?_⟩
  rw [rowSize_of hg3]
  simp [hl3]
 ·refine ⟨w.heap.size, [], [vb'], rfl, by simp [outs, setN], ?_, ((by simpa using hheap0 : RepObjs w R (outs N) _ [vb']).keep (hk _)).ext (outs_ext hext)⟩
  refine ⟨ar2.toArray, ρ.t 3, (Builtin.zeroCells (Value.int .i64 0).cells (gc - (0 + 1))).toList.length, hg3, ?_, fun j _ => .inl rfl, fun h => by simp [bldSh] at h⟩
  have h2 := repVs_undefs (w := w.drew.alloc (.cells ar2.toArray (ρ.t 3))) (R := R.more w.heap.size) (N := outs (setN N (.out 1) w.heap.size)) (Builtin.zeroCells (Value.int .i64 0).cells (gc - (0 + 1))).toList
  have h3 : RepVs (w.drew.alloc (.cells ar2.toArray (ρ.t 3))) (R.more w.heap.size) (outs (setN N (.out 1) w.heap.size)) (ivs [x]) (ints [x]) [] := ivs_mk hfx
  have h4 := repVs_append h3 h2
  have e : ar2.toArray.toList = ints [x] ++ (Builtin.zeroCells (Value.int .i64 0).cells (gc - (0 + 1))).toList := by rw [har2]; rfl
  rw [e]
  exact h4
 ·simp only [List.nil_append, List.cons_append]
  refine List.nodup_cons.2 ⟨?_, hnd⟩
  simp only [List.mem_cons, not_or]
  exact ⟨by omega, hF2⟩
 intro o c ho
 by_cases hne : o = 1
 ·omega
 have : N (.out o) = some c := by simpa [setN, hne] using ho
 have := hnx o c this
 omega
/-- A row that nobody changes any more is data. -/
theorem ACalls.freeze0 {g : FuncId} {args : List AVal} {r m : Nat} {l : List Int} {rest : Heap} (h : ACalls P G g args [] 0 (XQ ⟨.win (.out r) 1 0 l.length, (.out r, .cells (ivs l)) :: rest, m⟩)) (hn : l.length <= lim) :
  ACalls P G g args [] 0 (XQ ⟨.dat (.slice (l.map fun x => .flat (.int .i64 x))), [], 0⟩) := by
 intro w R N cargs bsA bsH bsF ha hh hnd hnx hg hF
 refine (h w R N cargs bsA bsH bsF ha hh hnd hnx hg hF).mono ?_
 rintro e w' ⟨v, cv, hp, m', R', N', bsV, bsH', rfl, ⟨rfl, rfl, rfl⟩, hv, hh', hnd', hnx', hk, hN⟩
 simp only [RepV] at hv
 obtain ⟨rfl, b, cap, hb, rfl, hcap, _, hblt, hrow⟩ := hv
 obtain ⟨b', b1, b2, rfl, hb', hobj, hrest⟩ := hh'
 have : b' = b := by rw [hb] at hb'; simpa using hb'.symm
 subst this
 obtain ⟨vs, elem, sp, hblk, hrv, hRv, _⟩ := hobj
 obtain ⟨us1, us2, q1, q2, hus, rfl, hr1, _⟩ := repVs_split hrv
 obtain ⟨rfl, rfl, hfl⟩ := ivs_inv hr1
 have hbF : b' ∉ bsF := by
  intro hm
  have h1 : (b' :: ((([] ++ q2) ++ b2) ++ bsF)).Nodup := by simpa using hnd'
  exact (List.nodup_cons.1 h1).1 (List.mem_append_right _ hm)
 let R2 : Own := fun c off => c ≠ b' /\ R' c off
 have hk2 : Keep w' R' w' R2 bsF := ⟨⟨rfl, rfl, rfl, Nat.le_refl _, fun c _ hno => ⟨rfl, fun off h => hno off h.2⟩, fun c off _ hno => ⟨fun h => hno h.2, rfl⟩, fun _ _ => rfl⟩, fun c hc _ => ⟨rfl, fun off h => ⟨fun e => hbF (e ▸ hc), h⟩⟩⟩
 refine ⟨_, _, _, 0, R2, fun m => match m with | .loc i => N' (.loc i) | .out _ => none, [], [], rfl, ⟨rfl, rfl, rfl⟩, ?_, rfl, ?_, by intro o c ho; simp at ho, hk.trans hk2, ?_⟩
 ·simp only [RepV]
  refine ⟨trivial, ?_⟩
  have hl : l.length = (l.map fun x => Dat.flat (.int .i64 x)).length := by simp
  rw [hl]
  refine RepC.slice b' 0 cap 1 _ (fun i _ => .int .i64 (l.getD i 0)) (by decide) ?_ (by simpa using hcap) (by simpa using hn) ?_ ?_
  ·intro e he
   obtain ⟨x, _, rfl⟩ := List.mem_map.1 he
   rfl
  ·intro i j hi hj
   have : j = 0 := by omega
   subst this
   simp only [List.length_map] at hi
   refine ⟨?_, fun h => h.1 rfl⟩
   refine cell_row hblk ?_
   rw [hus, show 0 + i * 1 + 0 = i by omega, List.getElem?_append_left (by simp [ints]; exact hi)]
   simp [ints, hi]
  intro i j e c he hc
  simp only [List.getElem?_map, Option.map_eq_some_iff] at he
  obtain ⟨x, hx, rfl⟩ := he
  have hc2 : c = .flat (.int .i64 x) := by
   have hc : [Dat.flat (.int .i64 x)][j]? = some c := hc
   cases j with
   | zero => simpa using hc.symm
   | succ j => simp at hc
  subst hc2
  obtain ⟨hi, rfl⟩ := List.getElem?_eq_some_iff.1 hx
  have : l.getD i 0 = l[i] := by simp [hi]
  rw [this]
  exact .flat (hfl _ (List.getElem_mem hi))
 ·have h1 : (b' :: ((([] ++ q2) ++ b2) ++ bsF)).Nodup := by simpa using hnd'
  have h2 := (List.nodup_cons.1 h1).2
  simpa using (List.nodup_append.1 h2).2.1
 intro o c ho
 have := hnx o c ho
 omega
end
end Go.Tp
