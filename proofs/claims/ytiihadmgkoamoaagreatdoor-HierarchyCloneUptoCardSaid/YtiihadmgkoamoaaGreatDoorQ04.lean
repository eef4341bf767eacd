/- HierarchyClone returns true and changes nothing, for arguments of bulk at most 1048576 (the card of the second form; conditions: those of the given row). Names are shortened by a program, for the claim's bound. Part 4. -/
import Derived.Test.YtiihadmgkoamoaaGreatDoorProg
import Derived.KernelRfl
import Derived.Shelf.SlMaps.Clone
import Derived.Shelf.SlicesE.Clone
import Derived.Shelf.SlicesE.Delete
import Derived.Ground.Names2Prog
import Derived.Shelf.Lays2
import Derived.Shelf.Slices.SearchI
import Derived.Shelf.Spec.SlicesInsert
import Derived.Shelf.Spec.SlicesInsertGrow
import Derived.Test.YtiihadmgkoamoaaGreatDoorQ03
set_option linter.unusedVariables false
set_option linter.unusedSimpArgs false
set_option maxRecDepth 100000
set_option maxHeartbeats 4000000
namespace Go.Proofs.YtiihadmgkoamoaaGreatDoor
open Go.Tp

theorem Wu : TI.ok Tryz.prog 3 ⟨.int .i64, 1, 8, .int .i64 0⟩ := ⟨⟨Tryz.t3, by kernel_rfl, rfl, rfl, rfl, rfl⟩, Tryz.underlying3⟩
theorem Wt : TI.ok Tryz.prog 4 ⟨.bool, 1, 1, .bool false⟩ := ⟨⟨Tryz.t4, by kernel_rfl, rfl, rfl, rfl, rfl⟩, Tryz.underlying4⟩
theorem Ws : TI.ok Tryz.prog 5 ⟨.int .u8, 1, 1, .int .u8 0⟩ := ⟨⟨Tryz.t5, by kernel_rfl, rfl, rfl, rfl, rfl⟩, Tryz.underlying5⟩
theorem Wr : TI.ok Tryz.prog 9 ⟨.string, 1, 16, .string ⟨#[]⟩⟩ := ⟨⟨Tryz.t9, by kernel_rfl, rfl, rfl, rfl, rfl⟩, Tryz.underlying9⟩
theorem Uf : TI.ok Tryz.prog 22 ⟨.slice 3, 1, 24, .slice none 0 0⟩ := ⟨⟨Tryz.t22, by kernel_rfl, rfl, rfl, rfl, rfl⟩, Tryz.underlying22⟩
theorem Ue : TI.ok Tryz.prog 23 ⟨.slice 35, 1, 24, .slice none 0 0⟩ := ⟨⟨Tryz.t23, by kernel_rfl, rfl, rfl, rfl, rfl⟩, Tryz.underlying23⟩
theorem Ud : TI.ok Tryz.prog 25 ⟨.pointer, 1, 8, .pointer none⟩ := ⟨⟨Tryz.t25, by kernel_rfl, rfl, rfl, rfl, rfl⟩, ⟨_, Tryz.underlying25⟩⟩
theorem Uc : TI.ok Tryz.prog 26 ⟨.pointer, 1, 8, .pointer none⟩ := ⟨⟨Tryz.t26, by kernel_rfl, rfl, rfl, rfl, rfl⟩, ⟨_, Tryz.underlying26⟩⟩
theorem Ub : TI.ok Tryz.prog 30 ⟨.slice 32, 1, 24, .slice none 0 0⟩ := ⟨⟨Tryz.t30, by kernel_rfl, rfl, rfl, rfl, rfl⟩, Tryz.underlying30⟩
theorem Ua : TI.ok Tryz.prog 32 ⟨.struct [(0, 3), (1, 9), (2, 3), (3, 30)], 4, 56, .agg #[.int .i64 0, .string ⟨#[]⟩, .int .i64 0, .slice none 0 0]⟩ := ⟨⟨Tryz.t32, by kernel_rfl, rfl, rfl, rfl, rfl⟩, ⟨_, Tryz.underlying32, rfl, [(0, 1), (1, 1), (2, 1), (3, 1)], by kernel_rfl⟩⟩
theorem T9 : TI.ok Tryz.prog 33 ⟨.slice 75, 1, 24, .slice none 0 0⟩ := ⟨⟨Tryz.t33, by kernel_rfl, rfl, rfl, rfl, rfl⟩, Tryz.underlying33⟩
theorem T8 : TI.ok Tryz.prog 35 ⟨.struct [(0, 9), (1, 3), (2, 32), (6, 4), (7, 33)], 8, 112, .agg #[.string ⟨#[]⟩, .int .i64 0, .int .i64 0, .string ⟨#[]⟩, .int .i64 0, .slice none 0 0, .bool false, .slice none 0 0]⟩ := ⟨⟨Tryz.t35, by kernel_rfl, rfl, rfl, rfl, rfl⟩, ⟨_, Tryz.underlying35, rfl, [(0, 1), (1, 1), (2, 4), (6, 1), (7, 1)], by kernel_rfl⟩⟩
theorem T7 : TI.ok Tryz.prog 39 ⟨.pointer, 1, 8, .pointer none⟩ := ⟨⟨Tryz.t39, by kernel_rfl, rfl, rfl, rfl, rfl⟩, ⟨_, Tryz.underlying39⟩⟩
theorem T6 : TI.ok Tryz.prog 41 ⟨.int .i64, 1, 8, .int .i64 0⟩ := ⟨⟨Tryz.t41, by kernel_rfl, rfl, rfl, rfl, rfl⟩, Tryz.underlying41⟩
theorem T5 : TI.ok Tryz.prog 60 ⟨.slice 9, 1, 24, .slice none 0 0⟩ := ⟨⟨Tryz.t60, by kernel_rfl, rfl, rfl, rfl, rfl⟩, Tryz.underlying60⟩
theorem T4 : TI.ok Tryz.prog 66 ⟨.func, 1, 8, .nilFunc⟩ := ⟨⟨Tryz.t66, by kernel_rfl, rfl, rfl, rfl, rfl⟩, ⟨_, _, _, Tryz.underlying66⟩⟩
theorem T3 : TI.ok Tryz.prog 67 ⟨.func, 1, 8, .nilFunc⟩ := ⟨⟨Tryz.t67, by kernel_rfl, rfl, rfl, rfl, rfl⟩, ⟨_, _, _, Tryz.underlying67⟩⟩
theorem T2 : TI.ok Tryz.prog 75 ⟨.struct [(0, 9), (1, 32)], 5, 72, .agg #[.string ⟨#[]⟩, .int .i64 0, .string ⟨#[]⟩, .int .i64 0, .slice none 0 0]⟩ := ⟨⟨Tryz.t75, by kernel_rfl, rfl, rfl, rfl, rfl⟩, ⟨_, Tryz.underlying75, rfl, [(0, 1), (1, 4)], by kernel_rfl⟩⟩
theorem T1 : TI.ok Tryz.prog 78 ⟨.struct [(0, 22), (1, 3)], 2, 32, .agg #[.slice none 0 0, .int .i64 0]⟩ := ⟨⟨Tryz.t78, by kernel_rfl, rfl, rfl, rfl, rfl⟩, ⟨_, Tryz.underlying78, rfl, [(0, 1), (1, 1)], by kernel_rfl⟩⟩
theorem T0 : TI.ok Tryz.prog 80 ⟨.map 9 3, 1, 8, .map none⟩ := ⟨⟨Tryz.t80, by kernel_rfl, rfl, rfl, rfl, rfl⟩, Tryz.underlying80⟩
theorem TZ : TI.ok Tryz.prog 82 ⟨.struct [(0, 23), (1, 80)], 2, 32, .agg #[.slice none 0 0, .map none]⟩ := ⟨⟨Tryz.t82, by kernel_rfl, rfl, rfl, rfl, rfl⟩, ⟨_, Tryz.underlying82, rfl, [(0, 1), (1, 1)], by kernel_rfl⟩⟩
theorem TY : TI.ok Tryz.prog 86 ⟨.func, 1, 8, .nilFunc⟩ := ⟨⟨Tryz.t86, by kernel_rfl, rfl, rfl, rfl, rfl⟩, ⟨_, _, _, Tryz.underlying86⟩⟩
theorem TX : TI.ok Tryz.prog 88 ⟨.struct [(0, 23)], 1, 24, .agg #[.slice none 0 0]⟩ := ⟨⟨Tryz.t88, by kernel_rfl, rfl, rfl, rfl, rfl⟩, ⟨_, Tryz.underlying88, rfl, [(0, 1)], by kernel_rfl⟩⟩
theorem TW : TI.ok Tryz.prog 97 ⟨.map 9 4, 1, 8, .map none⟩ := ⟨⟨Tryz.t97, by kernel_rfl, rfl, rfl, rfl, rfl⟩, Tryz.underlying97⟩
theorem Rh : TI.ok Tryz.prog 125 ⟨.func, 1, 8, .nilFunc⟩ := ⟨⟨Tryz.t125, by kernel_rfl, rfl, rfl, rfl, rfl⟩, ⟨_, _, _, Tryz.underlying125⟩⟩
theorem Rg : TI.ok Tryz.prog 128 ⟨.pointer, 1, 8, .pointer none⟩ := ⟨⟨Tryz.t128, by kernel_rfl, rfl, rfl, rfl, rfl⟩, ⟨_, Tryz.underlying128⟩⟩
theorem Rf : TI.ok Tryz.prog 129 ⟨.func, 1, 8, .nilFunc⟩ := ⟨⟨Tryz.t129, by kernel_rfl, rfl, rfl, rfl, rfl⟩, ⟨_, _, _, Tryz.underlying129⟩⟩
theorem Re : TI.ok Tryz.prog 141 ⟨.func, 1, 8, .nilFunc⟩ := ⟨⟨Tryz.t141, by kernel_rfl, rfl, rfl, rfl, rfl⟩, ⟨_, _, _, Tryz.underlying141⟩⟩
theorem Rd : TI.ok Tryz.prog 147 ⟨.func, 1, 8, .nilFunc⟩ := ⟨⟨Tryz.t147, by kernel_rfl, rfl, rfl, rfl, rfl⟩, ⟨_, _, _, Tryz.underlying147⟩⟩
theorem Rc : TI.ok Tryz.prog 157 ⟨.int .u64, 1, 8, .int .u64 0⟩ := ⟨⟨Tryz.t157, by kernel_rfl, rfl, rfl, rfl, rfl⟩, Tryz.underlying157⟩
theorem Rb : TI.ok Tryz.prog 165 ⟨.struct [(0, 22)], 1, 24, .agg #[.slice none 0 0]⟩ := ⟨⟨Tryz.t165, by kernel_rfl, rfl, rfl, rfl, rfl⟩, ⟨_, Tryz.underlying165, rfl, [(0, 1)], by kernel_rfl⟩⟩
theorem Ra : TI.ok Tryz.prog 167 ⟨.pointer, 1, 8, .pointer none⟩ := ⟨⟨Tryz.t167, by kernel_rfl, rfl, rfl, rfl, rfl⟩, ⟨_, Tryz.underlying167⟩⟩
def Qm : Tr := (.node (.node (.node (.node (.node (.node .nil 3 ⟨.int .i64, 1, 8, .int .i64 0⟩ .nil) 4 ⟨.bool, 1, 1, .bool false⟩ .nil) 5 ⟨.int .u8, 1, 1, .int .u8 0⟩ (.node .nil 9 ⟨.string, 1, 16, .string ⟨#[]⟩⟩ .nil)) 22 ⟨.slice 3, 1, 24, .slice none 0 0⟩ (.node (.node .nil 23 ⟨.slice 35, 1, 24, .slice none 0 0⟩ .nil) 25 ⟨.pointer, 1, 8, .pointer none⟩ (.node .nil 26 ⟨.pointer, 1, 8, .pointer none⟩ .nil))) 30 ⟨.slice 32, 1, 24, .slice none 0 0⟩ (.node (.node (.node .nil 32 ⟨.struct [(0, 3), (1, 9), (2, 3), (3, 30)], 4, 56, .agg #[.int .i64 0, .string ⟨#[]⟩, .int .i64 0, .slice none 0 0]⟩ .nil) 33 ⟨.slice 75, 1, 24, .slice none 0 0⟩ (.node .nil 35 ⟨.struct [(0, 9), (1, 3), (2, 32), (6, 4), (7, 33)], 8, 112, .agg #[.string ⟨#[]⟩, .int .i64 0, .int .i64 0, .string ⟨#[]⟩, .int .i64 0, .slice none 0 0, .bool false, .slice none 0 0]⟩ .nil)) 39 ⟨.pointer, 1, 8, .pointer none⟩ (.node (.node .nil 41 ⟨.int .i64, 1, 8, .int .i64 0⟩ .nil) 60 ⟨.slice 9, 1, 24, .slice none 0 0⟩ (.node .nil 66 ⟨.func, 1, 8, .nilFunc⟩ .nil)))) 67 ⟨.func, 1, 8, .nilFunc⟩ (.node (.node (.node (.node .nil 75 ⟨.struct [(0, 9), (1, 32)], 5, 72, .agg #[.string ⟨#[]⟩, .int .i64 0, .string ⟨#[]⟩, .int .i64 0, .slice none 0 0]⟩ .nil) 78 ⟨.struct [(0, 22), (1, 3)], 2, 32, .agg #[.slice none 0 0, .int .i64 0]⟩ (.node .nil 80 ⟨.map 9 3, 1, 8, .map none⟩ .nil)) 82 ⟨.struct [(0, 23), (1, 80)], 2, 32, .agg #[.slice none 0 0, .map none]⟩ (.node (.node .nil 86 ⟨.func, 1, 8, .nilFunc⟩ .nil) 88 ⟨.struct [(0, 23)], 1, 24, .agg #[.slice none 0 0]⟩ (.node .nil 97 ⟨.map 9 4, 1, 8, .map none⟩ .nil))) 125 ⟨.func, 1, 8, .nilFunc⟩ (.node (.node (.node .nil 128 ⟨.pointer, 1, 8, .pointer none⟩ .nil) 129 ⟨.func, 1, 8, .nilFunc⟩ (.node .nil 141 ⟨.func, 1, 8, .nilFunc⟩ .nil)) 147 ⟨.func, 1, 8, .nilFunc⟩ (.node (.node .nil 157 ⟨.int .u64, 1, 8, .int .u64 0⟩ .nil) 165 ⟨.struct [(0, 22)], 1, 24, .agg #[.slice none 0 0]⟩ (.node .nil 167 ⟨.pointer, 1, 8, .pointer none⟩ .nil)))))
theorem JQ : Qm.D2 Tryz.prog := (Tr.aj (Tr.aj (Tr.aj (Tr.aj (Tr.aj (Tr.aj Tr.all_nil Wu Tr.all_nil) Wt Tr.all_nil) Ws (Tr.aj Tr.all_nil Wr Tr.all_nil)) Uf (Tr.aj (Tr.aj Tr.all_nil Ue Tr.all_nil) Ud (Tr.aj Tr.all_nil Uc Tr.all_nil))) Ub (Tr.aj (Tr.aj (Tr.aj Tr.all_nil Ua Tr.all_nil) T9 (Tr.aj Tr.all_nil T8 Tr.all_nil)) T7 (Tr.aj (Tr.aj Tr.all_nil T6 Tr.all_nil) T5 (Tr.aj Tr.all_nil T4 Tr.all_nil)))) T3 (Tr.aj (Tr.aj (Tr.aj (Tr.aj Tr.all_nil T2 Tr.all_nil) T1 (Tr.aj Tr.all_nil T0 Tr.all_nil)) TZ (Tr.aj (Tr.aj Tr.all_nil TY Tr.all_nil) TX (Tr.aj Tr.all_nil TW Tr.all_nil))) Rh (Tr.aj (Tr.aj (Tr.aj Tr.all_nil Rg Tr.all_nil) Rf (Tr.aj Tr.all_nil Re Tr.all_nil)) Rd (Tr.aj (Tr.aj Tr.all_nil Rc Tr.all_nil) Rb (Tr.aj Tr.all_nil Ra Tr.all_nil)))))
def V5 (f : Nat) : Bool := Nat.ble 0 f && Nat.ble f 206 && !(match f with | 0 => true | 1 => true | 97 => true | 132 => true | 194 => true | 201 => true | _ => false)
def WI (t : Nat) : Option TI := match t with
  | 0 => none
  | t => Qm.find t
def env (pr : ap) : bp := ⟨WI, V5, pr⟩
theorem S7 : (List.range 207).all (fun k => !(V5 (0 + k)) || S8 Tryz.prog (0 + k)) = true := by kernel_rfl
theorem I8 (f : Nat) (h : V5 f = true) : 0 ≤ f ∧ f ≤ 206 := by
  unfold V5 at h
  simp only [Bool.and_eq_true, Nat.ble_eq] at h
  exact h.1
theorem V1 (f : Nat) (h : V5 f = true) : S8 Tryz.prog f = true := by
  have hb := I8 f h
  have h1 := List.all_eq_true.1 S7 (f - 0) (List.mem_range.2 (by omega))
  rw [show 0 + (f - 0) = f by omega] at h1
  rw [h, Bool.not_true, Bool.false_or] at h1
  exact h1
theorem Tk : (env ap.ld).Ok Tryz.prog where
  ty t i h := by
    have h : WI t = some i := h
    unfold WI at h
    split at h
    · simp at h
    · exact Tr.Bg JQ h
  fn f h := by
    have h1 := V1 f h
    unfold S8 at h1
    split at h1
    · rename_i g hg
      simp at h1
      exact ⟨g, hg, by simp [h1.1], by simpa using h1.2⟩
    · simp at h1
  mixed := by kernel_rfl
  ld := rfl

def au : FuncId → Bool := fun f => match f with | 28 => true | 180 => true | 191 => true | _ => false
def ax : FuncId → Bool := fun f => match f with | 4000000 => true | 1000052 => true | 1000151 => true | 1000170 => true | 2000024 => true | 2000075 => true | 2000082 => true | 3000019 => true | 3000062 => true | _ => false
def RK : Nat → aB := fun _ => default
def QS : Nat → Nat := fun n => match n with | 0 => 3 | 1 => 162 | 2 => 1440 | 3 => 68719477024 | 4 => 16 | 5 => 2336 | 6 => 9223372036854777888 | 7 => 16 | 8 => 6176 | 9 => 16 | _ => 0
theorem WG : aM Tryz.prog au ax 5 Tryz.f5 RK := ao Tryz.func5 (by kernel_rfl)
def RJ : Nat → aB := fun _ => default
def QR : Nat → Nat := fun n => match n with | 0 => 1 | 1 => 4 | _ => 0
theorem WE : aM Tryz.prog au ax 9 Tryz.f9 RJ := ao Tryz.func9 (by kernel_rfl)
def GY : Nat → aB := fun n => match n with | 7 => ⟨[(0, false), (1, false), (2, false), (3, false), (4, false), (6, false), (7, false), (8, false), (9, false), (10, false), (5, true)], none, [], [11, 12]⟩ | _ => default
def AX : Nat → Nat := fun n => match n with | 0 => 1 | 1 => 97 | 2 => 2145 | 3 => 28 | 4 => 225 | 5 => 65761 | 6 => 225 | 7 => 2147483873 | 8 => 28 | 9 => 28 | _ => 0
theorem V0 : aM Tryz.prog au ax 10 Tryz.f10 GY := ao Tryz.func10 (by kernel_rfl)
def QP : Nat → aB := fun n => match n with | 5 => ⟨[(0, false), (1, false), (2, false), (3, true), (4, false), (5, true)], none, [], [6, 7, 8, 9, 10, 11, 12, 13, 14]⟩ | _ => default
def RZ : Nat → Nat := fun n => match n with | 0 => 0 | 1 => 2 | 2 => 2097154 | 3 => 1 | 4 => 14 | 5 => 1 | _ => 0
theorem VZ : aM Tryz.prog au ax 11 Tryz.f11 QP := ao Tryz.func11 (by kernel_rfl)
def LH : Nat → aB := fun _ => default
def Ms : Nat → Nat := fun n => match n with | 0 => 3 | 1 => 3 | 2 => 515 | 3 => 1 | 4 => 16 | _ => 0
theorem VY : aM Tryz.prog au ax 13 Tryz.f13 LH := ao Tryz.func13 (by kernel_rfl)
def LC : Nat → aB := fun _ => default
def Mr : Nat → Nat := fun n => match n with | 0 => 1 | 1 => 4 | _ => 0
theorem VX : aM Tryz.prog au ax 15 Tryz.f15 LC := ao Tryz.func15 (by kernel_rfl)
def GX : Nat → aB := fun n => match n with | 14 => ⟨[(0, false), (1, false), (2, true)], none, [], [3]⟩ | _ => default
def Fb : Nat → Nat := fun n => match n with | 0 => 12 | 1 => 108 | 2 => 65644 | 3 => 16 | 4 => 1048684 | 5 => 16 | 6 => 1073741900 | 7 => 16 | 8 => 137438953484 | 9 => 16 | 10 => 549755813900 | 11 => 16 | 12 => 70368744177676 | 13 => 16 | 14 => 12 | 15 => 576460752303423500 | 16 => 0 | 17 => 16 | 18 => 140 | 19 => 151115727451828646838276 | 20 => 0 | 21 => 16 | 22 => 16 | _ => 0
theorem VW : aM Tryz.prog au ax 16 Tryz.f16 GX := ao Tryz.func16 (by kernel_rfl)
def CH : Nat → aB := fun n => match n with | 11 => ⟨[(0, false), (2, false), (3, false), (1, true)], none, [], [4, 5, 6, 7]⟩ | _ => default
def sB : Nat → Nat := fun n => match n with | 0 => 9 | 1 => 41 | 2 => 32809 | 3 => 16 | 4 => 201 | 5 => 16777289 | 6 => 134217728 | 7 => 16 | 8 => 16 | 9 => 8589934601 | 10 => 16 | 11 => 265 | 12 => 35184372089097 | 13 => 16 | 14 => 777 | 15 => 1125899906843401 | 16 => 777 | 17 => 2305843009213694729 | 18 => 16 | 19 => 3329 | 20 => 18889465931478580855041 | 21 => 16 | 22 => 0 | 23 => 16 | _ => 0
theorem VV : aM Tryz.prog au ax 17 Tryz.f17 CH := ao Tryz.func17 (by kernel_rfl)
def GW : Nat → aB := fun n => match n with | 6 => ⟨[(0, false), (1, false), (2, false), (3, false), (4, false), (5, false), (6, false), (7, false)], none, [], [8, 9]⟩ | _ => default
def AU : Nat → Nat := fun n => match n with | 0 => 3 | 1 => 1027 | 2 => 16 | 3 => 35 | 4 => 16419 | 5 => 35 | 6 => 67108899 | 7 => 16 | 8 => 16 | _ => 0
theorem VU : aM Tryz.prog au ax 18 Tryz.f18 GW := ao Tryz.func18 (by kernel_rfl)
def zq : Nat → aB := fun _ => default
def dJ : Nat → Nat := fun n => match n with | 0 => 1 | 1 => 9 | 2 => 3592 | 3 => 7688 | 4 => 3624 | 5 => 3592 | 6 => 3592 | 7 => 4 | _ => 0
theorem VT : aM Tryz.prog au ax 19 Tryz.f19 zq := ao Tryz.func19 (by kernel_rfl)
def Lw : Nat → aB := fun _ => default
def Mq : Nat → Nat := fun n => match n with | 0 => 1 | 1 => 4 | _ => 0
theorem VS : aM Tryz.prog au ax 20 Tryz.f20 Lw := ao Tryz.func20 (by kernel_rfl)
def QO : Nat → aB := fun _ => default
def RY : Nat → Nat := fun n => match n with | 0 => 85 | 1 => 4181 | 2 => 65621 | 3 => 192 | 4 => 4194389 | 5 => 341 | 6 => 85 | 7 => 192 | _ => 0
theorem VR : aM Tryz.prog au ax 23 Tryz.f23 QO := ao Tryz.func23 (by kernel_rfl)
def Lr : Nat → aB := fun _ => default
def Mp : Nat → Nat := fun n => match n with | 0 => 12 | 1 => 16 | _ => 0
theorem VQ : aM Tryz.prog au ax 24 Tryz.f24 Lr := ao Tryz.func24 (by kernel_rfl)
def Lq : Nat → aB := fun n => match n with | 1 => ⟨[(0, false), (2, false), (3, false), (4, false), (5, false), (1, true)], none, [], [6, 7, 8, 9]⟩ | _ => default
def Mo : Nat → Nat := fun n => match n with | 0 => 1 | 1 => 4 | _ => 0
theorem VP : aM Tryz.prog au ax 26 Tryz.f26 Lq := ao Tryz.func26 (by kernel_rfl)
def Lp : Nat → aB := fun n => match n with | 1 => ⟨[(0, false), (1, false), (2, false), (3, false), (4, false), (5, false), (6, false), (7, false)], none, [], [8, 9]⟩ | _ => default
def Mn : Nat → Nat := fun n => match n with | 0 => 3 | 1 => 16 | _ => 0
theorem VO : aM Tryz.prog au ax 27 Tryz.f27 Lp := ao Tryz.func27 (by kernel_rfl)
def GV : Nat → aB := fun n => match n with | 5 => ⟨[(0, false), (1, false), (2, false), (3, false), (4, false), (6, false), (10, false), (5, true), (7, true), (8, false), (9, false)], some 10, [], [11]⟩ | 18 => ⟨[(0, false), (1, false), (2, false), (3, false), (4, false), (5, false), (6, false), (7, true), (8, false), (9, true), (10, false), (11, false)], none, [2], [12]⟩ | _ => default
def ig : Nat → Nat := fun n => match n with | 0 => 3 | 1 => 35 | 2 => 99 | 3 => 65635 | 4 => 99 | 5 => 227 | 6 => 2147483875 | 7 => 483 | 8 => 995 | 9 => 34359739363 | 10 => 995 | 11 => 8796093023203 | 12 => 995 | 13 => 1251 | 14 => 1251 | 15 => 3299 | 16 => 36893488147419106531 | 17 => 3299 | 18 => 3299 | 19 => 77371252455336267181195491 | 20 => 227 | 21 => 99 | 22 => 16 | _ => 0
theorem VN : aM Tryz.prog au ax 28 Tryz.f28 GV := ao Tryz.func28 (by kernel_rfl)
def GU : Nat → aB := fun _ => default
def AT : Nat → Nat := fun n => match n with | 0 => 19 | 1 => 83 | 2 => 8275 | 3 => 83 | 4 => 33554515 | 5 => 48 | 6 => 48 | _ => 0
theorem VM : aM Tryz.prog au ax 36 Tryz.f36 GU := ao Tryz.func36 (by kernel_rfl)
def wO : Nat → aB := fun n => match n with | 6 => ⟨[(0, false), (1, false), (2, false), (3, false), (4, false), (5, false), (6, false), (7, false), (8, false), (9, false), (10, false), (11, false), (12, false), (13, false), (14, false), (15, false), (16, false), (17, false), (18, false), (19, false), (20, false), (21, false), (22, false), (23, false), (24, false), (25, false)], none, [], [26, 27, 28]⟩ | _ => default
def ny : Nat → Nat := fun n => match n with | 0 => 12 | 1 => 2199023255564 | 2 => 16 | 3 => 44 | 4 => 70368744177708 | 5 => 44 | 6 => 151115727451828646838316 | 7 => 16 | 8 => 16 | _ => 0
theorem VL : aM Tryz.prog au ax 37 Tryz.f37 wO := ao Tryz.func37 (by kernel_rfl)
def GS : Nat → aB := fun _ => default
def Fa : Nat → Nat := fun n => match n with | 0 => 12 | 1 => 8204 | 2 => 16 | 3 => 16 | _ => 0
theorem VK : aM Tryz.prog au ax 39 Tryz.f39 GS := ao Tryz.func39 (by kernel_rfl)
def GQ : Nat → aB := fun _ => default
def xf : Nat → Nat := fun n => match n with | 0 => 9 | 1 => 1033 | 2 => 105 | 3 => 134217737 | 4 => 16 | 5 => 137 | 6 => 4294967433 | 7 => 137 | 8 => 4398046511241 | 9 => 16 | 10 => 16 | _ => 0
theorem VJ : aM Tryz.prog au ax 40 Tryz.f40 GQ := ao Tryz.func40 (by kernel_rfl)
def QN : Nat → aB := fun n => match n with | 2 => ⟨[(0, false), (1, false), (2, false), (4, false), (5, false), (6, false), (15, false), (23, false), (24, false), (29, false), (30, false), (34, false), (35, false), (3, true), (7, false), (8, true), (9, false), (10, true), (11, true), (12, false), (13, false), (14, false), (16, true), (17, false), (18, true), (19, true), (20, false), (21, false), (22, false), (25, true), (26, false), (27, false), (28, false), (31, true), (32, false), (33, true), (36, true), (37, false), (38, false), (39, false), (40, false)], none, [], [41]⟩ | _ => default
def RX : Nat → Nat := fun n => match n with | 0 => 0 | 1 => 2 | 2 => 1 | _ => 0
theorem VI : aM Tryz.prog au ax 43 Tryz.f43 QN := ao Tryz.func43 (by kernel_rfl)
def QM : Nat → aB := fun _ => default
def RW : Nat → Nat := fun n => match n with | 0 => 0 | 1 => 2 | 2 => 898 | 3 => 1922 | 4 => 906 | 5 => 898 | 6 => 898 | 7 => 1 | _ => 0
theorem VH : aM Tryz.prog au ax 44 Tryz.f44 QM := ao Tryz.func44 (by kernel_rfl)
def QL : Nat → aB := fun _ => default
def RV : Nat → Nat := fun n => match n with | 0 => 0 | 1 => 2 | 2 => 450 | 3 => 962 | 4 => 458 | 5 => 450 | 6 => 450 | 7 => 1 | _ => 0
theorem VG : aM Tryz.prog au ax 45 Tryz.f45 QL := ao Tryz.func45 (by kernel_rfl)
def GP : Nat → aB := fun _ => default
def E9 : Nat → Nat := fun n => match n with | 0 => 19 | 1 => 16 | _ => 0
theorem VF : aM Tryz.prog au ax 46 Tryz.f46 GP := ao Tryz.func46 (by kernel_rfl)
def Lo : Nat → aB := fun _ => default
def Mm : Nat → Nat := fun n => match n with | 0 => 5 | 1 => 4 | _ => 0
theorem VE : aM Tryz.prog au ax 47 Tryz.f47 Lo := ao Tryz.func47 (by kernel_rfl)
def eU : Nat → aB := fun n => match n with | 7 => ⟨[(0, false), (1, false), (2, true), (3, false), (4, false)], none, [], [5, 6]⟩ | 29 => ⟨[(0, false), (1, false), (2, false), (3, false), (4, false), (5, false), (6, false), (7, true), (8, false), (9, true), (10, false)], none, [1], [11]⟩ | 35 => ⟨[(0, false), (1, false), (2, false), (3, false), (4, false), (5, false), (6, false), (7, true)], none, [], [8, 9]⟩ | _ => default
def dz : Nat → Nat := fun n => match n with | 0 => 271 | 1 => 783 | 2 => 2097935 | 3 => 783 | 4 => 4194575 | 5 => 12583183 | 6 => 12583183 | 7 => 256 | 8 => 4299161871 | 9 => 256 | 10 => 34363932943 | 11 => 34363932943 | 12 => 549755814159 | 13 => 256 | 14 => 256 | 15 => 562949957615887 | 16 => 562949957615887 | 17 => 562949957615887 | 18 => 256 | 19 => 288230376155906319 | 20 => 288230376155906319 | 21 => 256 | 22 => 37778931862957165904143 | 23 => 37778931862957165904143 | 24 => 1295 | 25 => 3343 | 26 => 7439 | 27 => 9671406556917033397656847 | 28 => 7439 | 29 => 7439 | 30 => 256 | 31 => 316912650057057350374175801615 | 32 => 8463 | 33 => 10141204801825835211973625651471 | 34 => 8463 | 35 => 256 | 36 => 332306998946228968225951765070086400 | 37 => 256 | 38 => 256 | _ => 0
theorem VD : aM Tryz.prog au ax 48 Tryz.f48 eU := ao Tryz.func48 (by kernel_rfl)
def GO : Nat → aB := fun _ => default
def E8 : Nat → Nat := fun n => match n with | 0 => 19 | 1 => 209 | 2 => 262225 | 3 => 48 | 4 => 48 | _ => 0
theorem VC : aM Tryz.prog au ax 49 Tryz.f49 GO := ao Tryz.func49 (by kernel_rfl)
def CG : Nat → aB := fun _ => default
def xe : Nat → Nat := fun n => match n with | 0 => 2 | 1 => 2147483650 | 2 => 4 | 3 => 562949953421314 | 4 => 4 | 5 => 10 | 6 => 31525197391593482 | 7 => 67553994410557450 | 8 => 31525197391593514 | 9 => 37778963388154553303082 | 10 => 4 | 11 => 31525197391593482 | 12 => 31525197391593482 | 13 => 4 | _ => 0
theorem VB : aM Tryz.prog au ax 50 Tryz.f50 CG := ao Tryz.func50 (by kernel_rfl)
def Ln : Nat → aB := fun _ => default
def Ml : Nat → Nat := fun n => match n with | 0 => 12 | 1 => 44 | 2 => 16 | _ => 0
theorem VA : aM Tryz.prog au ax 51 Tryz.f51 Ln := ao Tryz.func51 (by kernel_rfl)
def Lm : Nat → aB := fun n => match n with | 1 => ⟨[(0, false), (1, false), (2, false), (3, false), (4, false), (5, false), (6, false), (7, false), (8, false), (9, false), (10, false)], none, [], [11]⟩ | 2 => ⟨[(0, false), (1, false), (2, false), (3, false), (4, false), (5, false), (6, false)], none, [4], [7, 8, 9, 10]⟩ | _ => default
def Mk : Nat → Nat := fun n => match n with | 0 => 9 | 1 => 9 | 2 => 0 | _ => 0
theorem Vz : aM Tryz.prog au ax 52 Tryz.f52 Lm := ao Tryz.func52 (by kernel_rfl)
def GN : Nat → aB := fun n => match n with | 7 => ⟨[(0, false), (1, false), (2, false), (3, false), (4, false), (5, false), (6, true), (7, false), (8, false), (9, true), (10, false)], none, [1], [11]⟩ | _ => default
def AS : Nat → Nat := fun n => match n with | 0 => 6 | 1 => 14 | 2 => 14 | 3 => 14 | 4 => 57356 | 5 => 122892 | 6 => 57388 | 7 => 57356 | 8 => 57356 | 9 => 4 | _ => 0
theorem Vy : aM Tryz.prog au ax 53 Tryz.f53 GN := ao Tryz.func53 (by kernel_rfl)
def GM : Nat → aB := fun _ => default
def E7 : Nat → Nat := fun n => match n with | 0 => 3 | 1 => 16 | _ => 0
theorem Vx : aM Tryz.prog au ax 54 Tryz.f54 GM := ao Tryz.func54 (by kernel_rfl)
def Ll : Nat → aB := fun _ => default
def Mj : Nat → Nat := fun n => match n with | 0 => 6 | 1 => 8 | _ => 0
theorem Vw : aM Tryz.prog au ax 55 Tryz.f55 Ll := ao Tryz.func55 (by kernel_rfl)
def Lk : Nat → aB := fun n => match n with | 1 => ⟨[(0, false), (1, false), (2, false), (3, false), (4, false), (5, false), (6, false), (7, false), (8, false), (9, false), (10, false), (11, false)], none, [], [12]⟩ | _ => default
def Mi : Nat → Nat := fun n => match n with | 0 => 5 | 1 => 5 | 2 => 0 | _ => 0
theorem Vv : aM Tryz.prog au ax 56 Tryz.f56 Lk := ao Tryz.func56 (by kernel_rfl)
def GL : Nat → aB := fun _ => default
def E6 : Nat → Nat := fun n => match n with | 0 => 2 | 1 => 34 | 2 => 4 | 3 => 16384 | 4 => 4 | 5 => 4 | _ => 0
theorem Vu : aM Tryz.prog au ax 57 Tryz.f57 GL := ao Tryz.func57 (by kernel_rfl)
def Lj : Nat → aB := fun _ => default
def Mh : Nat → Nat := fun n => match n with | 0 => 6 | 1 => 4 | _ => 0
theorem Vt : aM Tryz.prog au ax 58 Tryz.f58 Lj := ao Tryz.func58 (by kernel_rfl)
def GK : Nat → aB := fun _ => default
def E5 : Nat → Nat := fun n => match n with | 0 => 9 | 1 => 104 | 2 => 16 | _ => 0
theorem Vs : aM Tryz.prog au ax 59 Tryz.f59 GK := ao Tryz.func59 (by kernel_rfl)
def Li : Nat → aB := fun _ => default
def Mg : Nat → Nat := fun n => match n with | 0 => 28 | 1 => 16 | _ => 0
theorem Vr : aM Tryz.prog au ax 60 Tryz.f60 Li := ao Tryz.func60 (by kernel_rfl)
def tQ : Nat → aB := fun n => match n with | 12 => ⟨[(0, false), (1, false), (2, false), (3, false), (4, false), (5, false), (6, false), (7, false), (8, false), (9, false)], none, [], [10, 11]⟩ | _ => default
def lU : Nat → Nat := fun n => match n with | 0 => 12 | 1 => 140 | 2 => 16 | 3 => 524300 | 4 => 16 | 5 => 2147483660 | 6 => 16 | 7 => 8796093022220 | 8 => 16 | 9 => 44 | 10 => 9223372036854775852 | 11 => 44 | 12 => 108 | 13 => 302231454903657293676652 | 14 => 16 | 15 => 16 | _ => 0
theorem Vq : aM Tryz.prog au ax 61 Tryz.f61 tQ := ao Tryz.func61 (by kernel_rfl)
def QK : Nat → aB := fun _ => default
def RU : Nat → Nat := fun n => match n with | 0 => 1 | 1 => 17 | 2 => 4 | 3 => 4 | _ => 0
theorem Vp : aM Tryz.prog au ax 62 Tryz.f62 QK := ao Tryz.func62 (by kernel_rfl)
def CE : Nat → aB := fun _ => default
def xd : Nat → Nat := fun n => match n with | 0 => 7 | 1 => 16391 | 2 => 64 | 3 => 229382 | 4 => 491526 | 5 => 229766 | 6 => 230150 | 7 => 1073971206 | 8 => 64 | 9 => 229382 | 10 => 64 | _ => 0
theorem Vo : aM Tryz.prog au ax 63 Tryz.f63 CE := ao Tryz.func63 (by kernel_rfl)
def Lh : Nat → aB := fun n => match n with | 1 => ⟨[(0, false), (1, false), (2, false), (3, false), (4, false), (5, false), (6, false), (7, false), (8, false), (9, false)], none, [], []⟩ | 4 => ⟨[(0, false), (1, false), (2, false), (3, false), (4, false), (5, false), (6, false), (7, false), (8, false), (9, false), (10, false), (11, false)], none, [], [12, 13]⟩ | _ => default
def Mf : Nat → Nat := fun n => match n with | 0 => 3 | 1 => 16387 | 2 => 16 | 3 => 3 | 4 => 16 | _ => 0
theorem Vn : aM Tryz.prog au ax 64 Tryz.f64 Lh := ao Tryz.func64 (by kernel_rfl)
def tP : Nat → aB := fun n => match n with | 5 => ⟨[(0, false), (1, false), (2, true), (3, false), (4, false)], none, [], [5, 6]⟩ | _ => default
def pU : Nat → Nat := fun n => match n with | 0 => 271 | 1 => 783 | 2 => 4879 | 3 => 256 | 4 => 8389391 | 5 => 256 | 6 => 4294967567 | 7 => 256 | 8 => 256 | _ => 0
theorem Vm : aM Tryz.prog au ax 65 Tryz.f65 tP := ao Tryz.func65 (by kernel_rfl)
def CD : Nat → aB := fun _ => default
def pT : Nat → Nat := fun n => match n with | 0 => 3 | 1 => 387 | 2 => 899 | 3 => 419 | 4 => 65955 | 5 => 16 | 6 => 387 | 7 => 16 | _ => 0
theorem Vl : aM Tryz.prog au ax 67 Tryz.f67 CD := ao Tryz.func67 (by kernel_rfl)
def zp : Nat → aB := fun _ => default
def xc : Nat → Nat := fun n => match n with | 0 => 3 | 1 => 16 | _ => 0
theorem Vk : aM Tryz.prog au ax 69 Tryz.f69 zp := ao Tryz.func69 (by kernel_rfl)
def Lg : Nat → aB := fun _ => default
def Me : Nat → Nat := fun n => match n with | 0 => 6 | 1 => 8 | _ => 0
theorem Vj : aM Tryz.prog au ax 70 Tryz.f70 Lg := ao Tryz.func70 (by kernel_rfl)
def Lf : Nat → aB := fun _ => default
def Md : Nat → Nat := fun n => match n with | 0 => 1 | 1 => 1 | _ => 0
theorem Vi : aM Tryz.prog au ax 82 Tryz.f82 Lf := ao Tryz.func82 (by kernel_rfl)
def CC : Nat → aB := fun n => match n with | 9 => ⟨[(0, false), (1, false), (2, false), (3, false), (4, false), (5, false), (6, false), (7, true), (8, false), (9, true), (10, false)], none, [1], [11]⟩ | _ => default
def xb : Nat → Nat := fun n => match n with | 0 => 271 | 1 => 783 | 2 => 525071 | 3 => 256 | 4 => 1295 | 5 => 3343 | 6 => 7439 | 7 => 68719484175 | 8 => 7439 | 9 => 7439 | 10 => 256 | _ => 0
theorem Vh : aM Tryz.prog au ax 83 Tryz.f83 CC := ao Tryz.func83 (by kernel_rfl)
def Le : Nat → aB := fun _ => default
def Mc : Nat → Nat := fun n => match n with | 0 => 5 | 1 => 4 | _ => 0
theorem Vg : aM Tryz.prog au ax 84 Tryz.f84 Le := ao Tryz.func84 (by kernel_rfl)
def Ld : Nat → aB := fun _ => default
def Mb : Nat → Nat := fun n => match n with | 0 => 28 | 1 => 16 | _ => 0
theorem Vf : aM Tryz.prog au ax 85 Tryz.f85 Ld := ao Tryz.func85 (by kernel_rfl)
def Lc : Nat → aB := fun _ => default
def Ma : Nat → Nat := fun n => match n with | 0 => 1 | 1 => 1 | _ => 0
theorem Ve : aM Tryz.prog au ax 86 Tryz.f86 Lc := ao Tryz.func86 (by kernel_rfl)
def Lb : Nat → aB := fun _ => default
def L9 : Nat → Nat := fun n => match n with | 0 => 1 | 1 => 4 | _ => 0
theorem Vd : aM Tryz.prog au ax 87 Tryz.f87 Lb := ao Tryz.func87 (by kernel_rfl)
def La : Nat → aB := fun _ => default
def L8 : Nat → Nat := fun n => match n with | 0 => 3 | 1 => 16 | _ => 0
theorem Vc : aM Tryz.prog au ax 88 Tryz.f88 La := ao Tryz.func88 (by kernel_rfl)
def K9 : Nat → aB := fun _ => default
def L7 : Nat → Nat := fun n => match n with | 0 => 12 | 1 => 16 | _ => 0
theorem Vb : aM Tryz.prog au ax 89 Tryz.f89 K9 := ao Tryz.func89 (by kernel_rfl)
def K8 : Nat → aB := fun _ => default
def L6 : Nat → Nat := fun n => match n with | 0 => 12 | 1 => 16 | _ => 0
theorem Va : aM Tryz.prog au ax 90 Tryz.f90 K8 := ao Tryz.func90 (by kernel_rfl)
def K7 : Nat → aB := fun _ => default
def L5 : Nat → Nat := fun n => match n with | 0 => 12 | 1 => 16 | _ => 0
theorem U9 : aM Tryz.prog au ax 91 Tryz.f91 K7 := ao Tryz.func91 (by kernel_rfl)
def tO : Nat → aB := fun _ => default
def lT : Nat → Nat := fun n => match n with | 0 => 7 | 1 => 16391 | 2 => 64 | 3 => 229382 | 4 => 491526 | 5 => 229766 | 6 => 230150 | 7 => 1073971206 | 8 => 64 | 9 => 229382 | 10 => 64 | _ => 0
theorem U8 : aM Tryz.prog au ax 92 Tryz.f92 tO := ao Tryz.func92 (by kernel_rfl)
def CB : Nat → aB := fun n => match n with | 3 => ⟨[(0, false), (1, false), (2, false), (3, false), (4, false), (5, false), (6, false), (7, true), (8, true), (9, false), (10, false), (11, false), (12, false), (13, false), (14, false), (15, false)], none, [], [16, 17, 18]⟩ | 8 => ⟨[(0, false), (1, false), (2, false), (3, false), (4, false), (5, false), (6, true), (7, false), (8, false), (9, false), (10, false), (11, false), (12, false), (13, false), (14, false), (15, false), (16, false)], none, [], [17, 18, 19]⟩ | 13 => ⟨[(0, false), (1, false), (2, false), (3, false), (4, false), (5, false), (6, false), (7, false), (8, false), (9, false), (10, false), (11, false), (12, false)], none, [], []⟩ | _ => default
def nv : Nat → Nat := fun n => match n with | 0 => 2 | 1 => 536870914 | 2 => 4 | 3 => 281474976710658 | 4 => 4 | 5 => 10 | 6 => 9007199254741002 | 7 => 10 | 8 => 37778931862957161709578 | 9 => 4 | 10 => 26 | 11 => 302231454903657293676570 | 12 => 26 | 13 => 9903520314283042199192993818 | 14 => 4 | 15 => 4 | _ => 0
theorem U7 : aM Tryz.prog au ax 93 Tryz.f93 CB := ao Tryz.func93 (by kernel_rfl)
def CA : Nat → aB := fun n => match n with | 11 => ⟨[(0, false), (1, false), (2, false), (3, false), (4, false), (5, false), (8, false), (6, true), (7, false), (9, true), (10, false), (11, true), (12, false)], none, [1], [13]⟩ | _ => default
def xa : Nat → Nat := fun n => match n with | 0 => 78 | 1 => 206 | 2 => 206 | 3 => 65742 | 4 => 974 | 5 => 67109838 | 6 => 64 | 7 => 206 | 8 => 120259084494 | 9 => 257698037966 | 10 => 120259087566 | 11 => 120259084494 | 12 => 120259084494 | 13 => 64 | _ => 0
theorem U6 : aM Tryz.prog au ax 94 Tryz.f94 CA := ao Tryz.func94 (by kernel_rfl)
def Cz : Nat → aB := fun _ => default
def AR : Nat → Nat := fun n => match n with | 0 => 7 | 1 => 135 | 2 => 524421 | 3 => 96 | 4 => 96 | _ => 0
theorem U5 : aM Tryz.prog au ax 95 Tryz.f95 Cz := ao Tryz.func95 (by kernel_rfl)
def QJ : Nat → aB := fun _ => default
def RT : Nat → Nat := fun n => match n with | 0 => 1 | 1 => 8 | 2 => 4 | 3 => 4 | _ => 0
theorem U4 : aM Tryz.prog au ax 96 Tryz.f96 QJ := ao Tryz.func96 (by kernel_rfl)
def tN : Nat → aB := fun _ => default
def ib : Nat → Nat := fun n => match n with | 0 => 3 | 1 => 387 | 2 => 899 | 3 => 419 | 4 => 65955 | 5 => 16 | 6 => 387 | 7 => 16 | _ => 0
theorem U3 : aM Tryz.prog au ax 99 Tryz.f99 tN := ao Tryz.func99 (by kernel_rfl)
def LL : Nat → aB := fun _ => default
def Pd : Nat → Nat := fun n => match n with | 0 => 1 | 1 => 4 | _ => 0
theorem S6 : aM Tryz.prog au ax 111 Tryz.f111 LL := ao Tryz.func111 (by kernel_rfl)
def AK : Nat → aB := fun _ => default
def vn : Nat → Nat := fun n => match n with | 0 => 3 | 1 => 35 | 2 => 547 | 3 => 35 | 4 => 131107 | 5 => 16 | 6 => 16 | _ => 0
theorem S5 : aM Tryz.prog au ax 112 Tryz.f112 AK := ao Tryz.func112 (by kernel_rfl)
def LK : Nat → aB := fun _ => default
def Pc : Nat → Nat := fun n => match n with | 0 => 1 | 1 => 4 | _ => 0
theorem S4 : aM Tryz.prog au ax 113 Tryz.f113 LK := ao Tryz.func113 (by kernel_rfl)
def LJ : Nat → aB := fun _ => default
def Pb : Nat → Nat := fun n => match n with | 0 => 1 | 1 => 4 | _ => 0
theorem S3 : aM Tryz.prog au ax 114 Tryz.f114 LJ := ao Tryz.func114 (by kernel_rfl)
def AJ : Nat → aB := fun _ => default
def kl : Nat → Nat := fun n => match n with | 0 => 3 | 1 => 387 | 2 => 899 | 3 => 419 | 4 => 65955 | 5 => 16 | 6 => 387 | 7 => 16 | _ => 0
theorem S2 : aM Tryz.prog au ax 115 Tryz.f115 AJ := ao Tryz.func115 (by kernel_rfl)
def EW : Nat → aB := fun _ => default
def Hm : Nat → Nat := fun n => match n with | 0 => 2 | 1 => 10 | 2 => 4 | 3 => 4096 | 4 => 4 | 5 => 4 | _ => 0
theorem S1 : aM Tryz.prog au ax 116 Tryz.f116 EW := ao Tryz.func116 (by kernel_rfl)
def EV : Nat → aB := fun _ => default
def Hl : Nat → Nat := fun n => match n with | 0 => 2 | 1 => 4 | _ => 0
theorem S0 : aM Tryz.prog au ax 117 Tryz.f117 EV := ao Tryz.func117 (by kernel_rfl)
def EU : Nat → aB := fun _ => default
def Hk : Nat → Nat := fun n => match n with | 0 => 3 | 1 => 16 | _ => 0
theorem SZ : aM Tryz.prog au ax 118 Tryz.f118 EU := ao Tryz.func118 (by kernel_rfl)
def AI : Nat → aB := fun _ => default
def AW : Nat → Nat := fun n => match n with | 0 => 2 | 1 => 10 | 2 => 8 | 3 => 4 | _ => 0
theorem SY : aM Tryz.prog au ax 119 Tryz.f119 AI := ao Tryz.func119 (by kernel_rfl)
def ET : Nat → aB := fun _ => default
def Hj : Nat → Nat := fun n => match n with | 0 => 3 | 1 => 8 | _ => 0
theorem SX : aM Tryz.prog au ax 120 Tryz.f120 ET := ao Tryz.func120 (by kernel_rfl)
def AH : Nat → aB := fun n => match n with | 1 => ⟨[(0, false), (1, false), (2, false), (3, false), (5, false), (6, false), (7, false), (8, false), (10, false), (11, false), (12, false), (13, false), (15, false), (16, false), (17, false), (18, false), (19, false), (20, false), (4, true), (9, true), (14, true)], none, [], [21, 22, 23, 24]⟩ | 5 => ⟨[(0, false), (1, false), (2, false), (3, false), (4, false), (5, false), (6, false), (7, false), (8, false), (9, false)], none, [], [10, 11]⟩ | _ => default
def lX : Nat → Nat := fun n => match n with | 0 => 12 | 1 => 44 | 2 => 108 | 3 => 549755813996 | 4 => 108 | 5 => 108 | 6 => 16 | _ => 0
theorem SW : aM Tryz.prog au ax 121 Tryz.f121 AH := ao Tryz.func121 (by kernel_rfl)
def wS : Nat → aB := fun _ => default
def qU : Nat → Nat := fun n => match n with | 0 => 1 | 1 => 131073 | 2 => 4 | 3 => 9 | 4 => 2097161 | 5 => 9 | 6 => 17179869193 | 7 => 4 | 8 => 4 | _ => 0
theorem SV : aM Tryz.prog au ax 122 Tryz.f122 wS := ao Tryz.func122 (by kernel_rfl)
def ES : Nat → aB := fun _ => default
def Hi : Nat → Nat := fun n => match n with | 0 => 1 | 1 => 4 | _ => 0
theorem SU : aM Tryz.prog au ax 123 Tryz.f123 ES := ao Tryz.func123 (by kernel_rfl)
def AG : Nat → aB := fun _ => default
def AV : Nat → Nat := fun n => match n with | 0 => 6 | 1 => 38 | 2 => 16 | _ => 0
theorem SS : aM Tryz.prog au ax 124 Tryz.f124 AG := ao Tryz.func124 (by kernel_rfl)
def LI : Nat → aB := fun n => match n with | 6 => ⟨[(0, false), (1, false), (2, false), (3, true), (4, false), (5, true), (6, false)], none, [1], [7]⟩ | _ => default
def O9 : Nat → Nat := fun n => match n with | 0 => 6 | 1 => 14 | 2 => 14 | 3 => 3596 | 4 => 7692 | 5 => 3628 | 6 => 3596 | 7 => 3596 | 8 => 4 | _ => 0
theorem SR : aM Tryz.prog au ax 125 Tryz.f125 LI := ao Tryz.func125 (by kernel_rfl)
def ER : Nat → aB := fun _ => default
def Hh : Nat → Nat := fun n => match n with | 0 => 6 | 1 => 2048 | 2 => 16 | 3 => 16 | _ => 0
theorem SQ : aM Tryz.prog au ax 126 Tryz.f126 ER := ao Tryz.func126 (by kernel_rfl)
def EQ : Nat → aB := fun _ => default
def Hg : Nat → Nat := fun n => match n with | 0 => 6 | 1 => 2048 | 2 => 16 | 3 => 16 | _ => 0
theorem SP : aM Tryz.prog au ax 127 Tryz.f127 EQ := ao Tryz.func127 (by kernel_rfl)
def LG : Nat → aB := fun _ => default
def O8 : Nat → Nat := fun n => match n with | 0 => 1 | 1 => 4 | _ => 0
theorem SO : aM Tryz.prog au ax 135 Tryz.f135 LG := ao Tryz.func135 (by kernel_rfl)
def AF : Nat → aB := fun _ => default
def vm : Nat → Nat := fun n => match n with | 0 => 2 | 1 => 10 | 2 => 904 | 3 => 1928 | 4 => 936 | 5 => 904 | 6 => 904 | 7 => 4 | _ => 0
theorem SN : aM Tryz.prog au ax 136 Tryz.f136 AF := ao Tryz.func136 (by kernel_rfl)
def AE : Nat → aB := fun _ => default
def vl : Nat → Nat := fun n => match n with | 0 => 2 | 1 => 10 | 2 => 904 | 3 => 1928 | 4 => 936 | 5 => 904 | 6 => 904 | 7 => 4 | _ => 0
theorem SM : aM Tryz.prog au ax 137 Tryz.f137 AE := ao Tryz.func137 (by kernel_rfl)
def EP : Nat → aB := fun _ => default
def Hf : Nat → Nat := fun n => match n with | 0 => 2 | 1 => 4 | _ => 0
theorem SL : aM Tryz.prog au ax 138 Tryz.f138 EP := ao Tryz.func138 (by kernel_rfl)
def wR : Nat → aB := fun n => match n with | 6 => ⟨[(0, false), (1, false), (2, false), (3, false), (4, true), (5, false)], none, [], [6, 7]⟩ | _ => default
def oE : Nat → Nat := fun n => match n with | 0 => 6 | 1 => 32774 | 2 => 16 | 3 => 917510 | 4 => 1966086 | 5 => 917606 | 6 => 2148401158 | 7 => 16 | 8 => 917510 | 9 => 16 | _ => 0
theorem SK : aM Tryz.prog au ax 139 Tryz.f139 wR := ao Tryz.func139 (by kernel_rfl)
def EO : Nat → aB := fun _ => default
def He : Nat → Nat := fun n => match n with | 0 => 2 | 1 => 4 | _ => 0
theorem SJ : aM Tryz.prog au ax 140 Tryz.f140 EO := ao Tryz.func140 (by kernel_rfl)
def AD : Nat → aB := fun _ => default
def qT : Nat → Nat := fun n => match n with | 0 => 3 | 1 => 387 | 2 => 899 | 3 => 419 | 4 => 65955 | 5 => 16 | 6 => 387 | 7 => 16 | _ => 0
theorem SI : aM Tryz.prog au ax 141 Tryz.f141 AD := ao Tryz.func141 (by kernel_rfl)
def sv : Nat → aB := fun n => match n with | 6 => ⟨[(0, false), (1, false), (2, false), (3, false), (6, false), (4, true), (5, false)], none, [], [7]⟩ | _ => default
def oD : Nat → Nat := fun n => match n with | 0 => 14 | 1 => 65550 | 2 => 14 | 3 => 117440526 | 4 => 251658254 | 5 => 117440718 | 6 => 117440526 | 7 => 117440526 | _ => 0
theorem SH : aM Tryz.prog au ax 142 Tryz.f142 sv := ao Tryz.func142 (by kernel_rfl)
def AB : Nat → aB := fun _ => default
def lW : Nat → Nat := fun n => match n with | 0 => 1 | 1 => 9 | 2 => 456 | 3 => 968 | 4 => 488 | 5 => 16872 | 6 => 4 | 7 => 456 | 8 => 4 | _ => 0
theorem SG : aM Tryz.prog au ax 143 Tryz.f143 AB := ao Tryz.func143 (by kernel_rfl)
def EN : Nat → aB := fun _ => default
def Hd : Nat → Nat := fun n => match n with | 0 => 3 | 1 => 35 | 2 => 99 | 3 => 2115 | 4 => 4096 | 5 => 16 | 6 => 16 | 7 => 8195 | 8 => 16 | 9 => 65539 | 10 => 16 | 11 => 524288 | 12 => 16 | 13 => 16 | _ => 0
theorem SF : aM Tryz.prog au ax 144 Tryz.f144 EN := ao Tryz.func144 (by kernel_rfl)
def EM : Nat → aB := fun _ => default
def Hc : Nat → Nat := fun n => match n with | 0 => 3 | 1 => 35 | 2 => 99 | 3 => 2115 | 4 => 4096 | 5 => 16 | 6 => 16 | 7 => 8195 | 8 => 16 | 9 => 65539 | 10 => 16 | 11 => 524288 | 12 => 16 | 13 => 16 | _ => 0
theorem SE : aM Tryz.prog au ax 145 Tryz.f145 EM := ao Tryz.func145 (by kernel_rfl)
def LF : Nat → aB := fun _ => default
def O7 : Nat → Nat := fun n => match n with | 0 => 1 | 1 => 4 | _ => 0
theorem SD : aM Tryz.prog au ax 146 Tryz.f146 LF := ao Tryz.func146 (by kernel_rfl)
def LD : Nat → aB := fun _ => default
def O6 : Nat → Nat := fun n => match n with | 0 => 1 | 1 => 4 | _ => 0
theorem SC : aM Tryz.prog au ax 147 Tryz.f147 LD := ao Tryz.func147 (by kernel_rfl)
def EL : Nat → aB := fun _ => default
def Hb : Nat → Nat := fun n => match n with | 0 => 2 | 1 => 4 | _ => 0
theorem SB : aM Tryz.prog au ax 148 Tryz.f148 EL := ao Tryz.func148 (by kernel_rfl)
def EK : Nat → aB := fun _ => default
def Ha : Nat → Nat := fun n => match n with | 0 => 2 | 1 => 10 | 2 => 4 | 3 => 4096 | 4 => 4 | 5 => 4 | _ => 0
theorem SA : aM Tryz.prog au ax 149 Tryz.f149 EK := ao Tryz.func149 (by kernel_rfl)
def AA : Nat → aB := fun _ => default
def qS : Nat → Nat := fun n => match n with | 0 => 2 | 1 => 1026 | 2 => 4 | 3 => 10 | 4 => 32778 | 5 => 10 | 6 => 16777226 | 7 => 4 | 8 => 4 | _ => 0
theorem Sz : aM Tryz.prog au ax 150 Tryz.f150 AA := ao Tryz.func150 (by kernel_rfl)
def EJ : Nat → aB := fun _ => default
def G9 : Nat → Nat := fun n => match n with | 0 => 2 | 1 => 1048578 | 2 => 4 | 3 => 4194306 | 4 => 12582914 | 5 => 12582914 | 6 => 4 | 7 => 1077936130 | 8 => 4 | 9 => 4503599631564802 | 10 => 4 | 11 => 288230376155906050 | 12 => 4 | 13 => 18446744073713745922 | 14 => 4 | 15 => 1208925819614629174706178 | 16 => 4 | 17 => 4 | _ => 0
theorem Sy : aM Tryz.prog au ax 167 Tryz.f167 EJ := ao Tryz.func167 (by kernel_rfl)
def EI : Nat → aB := fun _ => default
def G8 : Nat → Nat := fun n => match n with | 0 => 2 | 1 => 4 | _ => 0
theorem Sx : aM Tryz.prog au ax 168 Tryz.f168 EI := ao Tryz.func168 (by kernel_rfl)
def EH : Nat → aB := fun _ => default
def G7 : Nat → Nat := fun n => match n with | 0 => 2 | 1 => 4 | _ => 0
theorem Sw : aM Tryz.prog au ax 169 Tryz.f169 EH := ao Tryz.func169 (by kernel_rfl)
def wQ : Nat → aB := fun _ => default
def vk : Nat → Nat := fun n => match n with | 0 => 51 | 1 => 65555 | 2 => 0 | _ => 0
theorem Sv : aM Tryz.prog au ax 170 Tryz.f170 wQ := ao Tryz.func170 (by kernel_rfl)
def EG : Nat → aB := fun _ => default
def G6 : Nat → Nat := fun n => match n with | 0 => 1 | 1 => 4 | _ => 0
theorem Su : aM Tryz.prog au ax 171 Tryz.f171 EG := ao Tryz.func171 (by kernel_rfl)
def EF : Nat → aB := fun _ => default
def G5 : Nat → Nat := fun n => match n with | 0 => 1 | 1 => 4 | _ => 0
theorem Ss : aM Tryz.prog au ax 172 Tryz.f172 EF := ao Tryz.func172 (by kernel_rfl)
def LB : Nat → aB := fun _ => default
def O5 : Nat → Nat := fun n => match n with | 0 => 1 | 1 => 4 | _ => 0
theorem Sr : aM Tryz.prog au ax 173 Tryz.f173 LB := ao Tryz.func173 (by kernel_rfl)
def ss : Nat → aB := fun n => match n with | 6 => ⟨[(0, false), (1, false), (2, false), (3, false), (4, false), (5, false), (6, false), (7, false), (10, false), (8, true), (9, false)], none, [], [11, 12]⟩ | _ => default
def lV : Nat → Nat := fun n => match n with | 0 => 14 | 1 => 65550 | 2 => 14 | 3 => 142 | 4 => 134217870 | 5 => 142 | 6 => 142 | 7 => 64 | _ => 0
theorem Sq : aM Tryz.prog au ax 174 Tryz.f174 ss := ao Tryz.func174 (by kernel_rfl)
def Az : Nat → aB := fun _ => default
def qR : Nat → Nat := fun n => match n with | 0 => 2 | 1 => 10 | 2 => 26 | 3 => 538 | 4 => 26 | 5 => 26 | 6 => 4 | _ => 0
theorem Sp : aM Tryz.prog au ax 175 Tryz.f175 Az := ao Tryz.func175 (by kernel_rfl)
def Ay : Nat → aB := fun _ => default
def qQ : Nat → Nat := fun n => match n with | 0 => 2 | 1 => 10 | 2 => 26 | 3 => 538 | 4 => 26 | 5 => 26 | 6 => 4 | _ => 0
theorem Sn : aM Tryz.prog au ax 176 Tryz.f176 Ay := ao Tryz.func176 (by kernel_rfl)
def eF : Nat → aB := fun _ => default
def cT : Nat → Nat := fun n => match n with | 0 => 2 | 1 => 10 | 2 => 67108874 | 3 => 4 | 4 => 268435466 | 5 => 4 | 6 => 805306378 | 7 => 805306378 | 8 => 4 | 9 => 17448304650 | 10 => 4 | 11 => 281475245146122 | 12 => 4611686018427387914 | 13 => 4 | 14 => 26 | 15 => 36893488147419103258 | 16 => 26 | 17 => 18889465931478580854810 | 18 => 4 | 19 => 37778931862957430145034 | 20 => 302231454903657293676554 | 21 => 4 | 22 => 604462909807314855788554 | 23 => 4835703278458516698824714 | 24 => 4 | 25 => 9671406556917033397649418 | 26 => 19807040628566084398385987594 | 27 => 4 | 28 => 42 | 29 => 158456325028528675187087900714 | 30 => 42 | 31 => 81129638414606681695789005144106 | 32 => 4 | 33 => 4 | _ => 0
theorem Sm : aM Tryz.prog au ax 177 Tryz.f177 eF := ao Tryz.func177 (by kernel_rfl)
def EE : Nat → aB := fun _ => default
def G4 : Nat → Nat := fun n => match n with | 0 => 2 | 1 => 4 | _ => 0
theorem Sk : aM Tryz.prog au ax 178 Tryz.f178 EE := ao Tryz.func178 (by kernel_rfl)
def LA : Nat → aB := fun _ => default
def O4 : Nat → Nat := fun n => match n with | 0 => 3 | 1 => 67 | 2 => 451 | 3 => 33219 | 4 => 963 | 5 => 134218691 | 6 => 451 | 7 => 451 | 8 => 48 | _ => 0
theorem Sj : aM Tryz.prog au ax 190 Tryz.f190 LA := ao Tryz.func190 (by kernel_rfl)
def Ly : Nat → aB := fun n => match n with | 11 => ⟨[(0, false), (1, false), (2, false), (3, false), (4, false), (5, false), (6, false), (7, false)], none, [], [8]⟩ | 15 => ⟨[(0, false), (1, false), (2, false), (3, false), (4, false), (5, false), (6, false), (7, false)], none, [], [8]⟩ | _ => default
def O3 : Nat → Nat := fun n => match n with | 0 => 7 | 1 => 7 | 2 => 135 | 3 => 65671 | 4 => 64 | 5 => 391 | 6 => 4194695 | 7 => 64 | 8 => 2147484039 | 9 => 647 | 10 => 643 | 11 => 512 | 12 => 64 | 13 => 391 | 14 => 295147905179352826247 | 15 => 7 | 16 => 1 | 17 => 64 | 18 => 131 | 19 => 1 | 20 => 64 | _ => 0
theorem Si : aM Tryz.prog au ax 191 Tryz.f191 Ly := ao Tryz.func191 (by kernel_rfl)
def wP : Nat → aB := fun n => match n with | 6 => ⟨[(0, false), (1, false), (2, false), (3, false), (5, false), (6, false), (8, false), (9, false), (10, false), (4, true), (7, true)], none, [], [2000000, 11, 12]⟩ | _ => default
def qP : Nat → Nat := fun n => match n with | 0 => 3 | 1 => 35 | 2 => 131107 | 3 => 35 | 4 => 2147483683 | 5 => 16 | 6 => 16 | _ => 0
theorem Sh : aM Tryz.prog au ax 192 Tryz.f192 wP := ao Tryz.func192 (by kernel_rfl)
def Lx : Nat → aB := fun _ => default
def O2 : Nat → Nat := fun n => match n with | 0 => 3 | 1 => 16 | _ => 0
theorem Sg : aM Tryz.prog au ax 199 Tryz.f199 Lx := ao Tryz.func199 (by kernel_rfl)
def Lv : Nat → aB := fun _ => default
def O1 : Nat → Nat := fun n => match n with | 0 => 1 | 1 => 4 | _ => 0
theorem Sf : aM Tryz.prog au ax 200 Tryz.f200 Lv := ao Tryz.func200 (by kernel_rfl)
def Lu : Nat → aB := fun _ => default
def O0 : Nat → Nat := fun n => match n with | 0 => 0 | _ => 0
theorem Se : aM Tryz.prog au ax 202 Tryz.f202 Lu := ao Tryz.func202 (by kernel_rfl)
def Lt : Nat → aB := fun _ => default
def OZ : Nat → Nat := fun n => match n with | 0 => 3 | 1 => 1 | 2 => 0 | _ => 0
theorem Sd : aM Tryz.prog au ax 204 Tryz.f204 Lt := ao Tryz.func204 (by kernel_rfl)
def Ls : Nat → aB := fun n => match n with | 3 => ⟨[(0, false), (1, false), (2, false), (3, false), (4, false), (5, false), (6, false), (7, false), (8, false), (9, false), (10, false), (11, false), (12, false), (13, true), (14, false), (15, true)], none, [], []⟩ | _ => default
def OY : Nat → Nat := fun n => match n with | 0 => 13 | 1 => 525 | 2 => 13 | 3 => 13 | _ => 0
theorem Sc : aM Tryz.prog au ax 206 Tryz.f206 Ls := ao Tryz.func206 (by kernel_rfl)
noncomputable def Fw : aY := (.node (.node (.node (.node (.node (.node (.node .nil 5 Tryz.f5 RK QS .nil) 9 Tryz.f9 RJ QR (.node .nil 10 Tryz.f10 GY AX .nil)) 11 Tryz.f11 QP RZ (.node (.node .nil 13 Tryz.f13 LH Ms .nil) 15 Tryz.f15 LC Mr (.node .nil 16 Tryz.f16 GX Fb .nil))) 17 Tryz.f17 CH sB (.node (.node (.node .nil 18 Tryz.f18 GW AU .nil) 19 Tryz.f19 zq dJ (.node .nil 20 Tryz.f20 Lw Mq .nil)) 23 Tryz.f23 QO RY (.node (.node .nil 24 Tryz.f24 Lr Mp .nil) 26 Tryz.f26 Lq Mo .nil))) 27 Tryz.f27 Lp Mn (.node (.node (.node (.node .nil 28 Tryz.f28 GV ig .nil) 36 Tryz.f36 GU AT (.node .nil 37 Tryz.f37 wO ny .nil)) 39 Tryz.f39 GS Fa (.node (.node .nil 40 Tryz.f40 GQ xf .nil) 43 Tryz.f43 QN RX .nil)) 44 Tryz.f44 QM RW (.node (.node (.node .nil 45 Tryz.f45 QL RV .nil) 46 Tryz.f46 GP E9 (.node .nil 47 Tryz.f47 Lo Mm .nil)) 48 Tryz.f48 eU dz (.node (.node .nil 49 Tryz.f49 GO E8 .nil) 50 Tryz.f50 CG xe .nil)))) 51 Tryz.f51 Ln Ml (.node (.node (.node (.node (.node .nil 52 Tryz.f52 Lm Mk .nil) 53 Tryz.f53 GN AS (.node .nil 54 Tryz.f54 GM E7 .nil)) 55 Tryz.f55 Ll Mj (.node (.node .nil 56 Tryz.f56 Lk Mi .nil) 57 Tryz.f57 GL E6 (.node .nil 58 Tryz.f58 Lj Mh .nil))) 59 Tryz.f59 GK E5 (.node (.node (.node .nil 60 Tryz.f60 Li Mg .nil) 61 Tryz.f61 tQ lU (.node .nil 62 Tryz.f62 QK RU .nil)) 63 Tryz.f63 CE xd (.node (.node .nil 64 Tryz.f64 Lh Mf .nil) 65 Tryz.f65 tP pU .nil))) 67 Tryz.f67 CD pT (.node (.node (.node (.node .nil 69 Tryz.f69 zp xc .nil) 70 Tryz.f70 Lg Me (.node .nil 82 Tryz.f82 Lf Md .nil)) 83 Tryz.f83 CC xb (.node (.node .nil 84 Tryz.f84 Le Mc .nil) 85 Tryz.f85 Ld Mb .nil)) 86 Tryz.f86 Lc Ma (.node (.node (.node .nil 87 Tryz.f87 Lb L9 .nil) 88 Tryz.f88 La L8 (.node .nil 89 Tryz.f89 K9 L7 .nil)) 90 Tryz.f90 K8 L6 (.node (.node .nil 91 Tryz.f91 K7 L5 .nil) 92 Tryz.f92 tO lT .nil))))) 93 Tryz.f93 CB nv (.node (.node (.node (.node (.node (.node .nil 94 Tryz.f94 CA xa .nil) 95 Tryz.f95 Cz AR (.node .nil 96 Tryz.f96 QJ RT .nil)) 99 Tryz.f99 tN ib (.node (.node .nil 111 Tryz.f111 LL Pd .nil) 112 Tryz.f112 AK vn (.node .nil 113 Tryz.f113 LK Pc .nil))) 114 Tryz.f114 LJ Pb (.node (.node (.node .nil 115 Tryz.f115 AJ kl .nil) 116 Tryz.f116 EW Hm (.node .nil 117 Tryz.f117 EV Hl .nil)) 118 Tryz.f118 EU Hk (.node (.node .nil 119 Tryz.f119 AI AW .nil) 120 Tryz.f120 ET Hj .nil))) 121 Tryz.f121 AH lX (.node (.node (.node (.node .nil 122 Tryz.f122 wS qU .nil) 123 Tryz.f123 ES Hi (.node .nil 124 Tryz.f124 AG AV .nil)) 125 Tryz.f125 LI O9 (.node (.node .nil 126 Tryz.f126 ER Hh .nil) 127 Tryz.f127 EQ Hg .nil)) 135 Tryz.f135 LG O8 (.node (.node (.node .nil 136 Tryz.f136 AF vm .nil) 137 Tryz.f137 AE vl (.node .nil 138 Tryz.f138 EP Hf .nil)) 139 Tryz.f139 wR oE (.node (.node .nil 140 Tryz.f140 EO He .nil) 141 Tryz.f141 AD qT .nil)))) 142 Tryz.f142 sv oD (.node (.node (.node (.node (.node .nil 143 Tryz.f143 AB lW .nil) 144 Tryz.f144 EN Hd (.node .nil 145 Tryz.f145 EM Hc .nil)) 146 Tryz.f146 LF O7 (.node (.node .nil 147 Tryz.f147 LD O6 .nil) 148 Tryz.f148 EL Hb (.node .nil 149 Tryz.f149 EK Ha .nil))) 150 Tryz.f150 AA qS (.node (.node (.node .nil 167 Tryz.f167 EJ G9 .nil) 168 Tryz.f168 EI G8 (.node .nil 169 Tryz.f169 EH G7 .nil)) 170 Tryz.f170 wQ vk (.node (.node .nil 171 Tryz.f171 EG G6 .nil) 172 Tryz.f172 EF G5 .nil))) 173 Tryz.f173 LB O5 (.node (.node (.node (.node .nil 174 Tryz.f174 ss lV .nil) 175 Tryz.f175 Az qR (.node .nil 176 Tryz.f176 Ay qQ .nil)) 177 Tryz.f177 eF cT (.node (.node .nil 178 Tryz.f178 EE G4 .nil) 190 Tryz.f190 LA O4 .nil)) 191 Tryz.f191 Ly O3 (.node (.node (.node .nil 192 Tryz.f192 wP qP .nil) 199 Tryz.f199 Lx O2 (.node .nil 200 Tryz.f200 Lv O1 .nil)) 202 Tryz.f202 Lu O0 (.node (.node .nil 204 Tryz.f204 Lt OZ .nil) 206 Tryz.f206 Ls OY .nil))))))
theorem qZ : TT Tryz.prog au ax Fw.find := aY.ok (aY.aj (aY.aj (aY.aj (aY.aj (aY.aj (aY.aj (aY.aj aY.all_nil WG aY.all_nil) WE (aY.aj aY.all_nil V0 aY.all_nil)) VZ (aY.aj (aY.aj aY.all_nil VY aY.all_nil) VX (aY.aj aY.all_nil VW aY.all_nil))) VV (aY.aj (aY.aj (aY.aj aY.all_nil VU aY.all_nil) VT (aY.aj aY.all_nil VS aY.all_nil)) VR (aY.aj (aY.aj aY.all_nil VQ aY.all_nil) VP aY.all_nil))) VO (aY.aj (aY.aj (aY.aj (aY.aj aY.all_nil VN aY.all_nil) VM (aY.aj aY.all_nil VL aY.all_nil)) VK (aY.aj (aY.aj aY.all_nil VJ aY.all_nil) VI aY.all_nil)) VH (aY.aj (aY.aj (aY.aj aY.all_nil VG aY.all_nil) VF (aY.aj aY.all_nil VE aY.all_nil)) VD (aY.aj (aY.aj aY.all_nil VC aY.all_nil) VB aY.all_nil)))) VA (aY.aj (aY.aj (aY.aj (aY.aj (aY.aj aY.all_nil Vz aY.all_nil) Vy (aY.aj aY.all_nil Vx aY.all_nil)) Vw (aY.aj (aY.aj aY.all_nil Vv aY.all_nil) Vu (aY.aj aY.all_nil Vt aY.all_nil))) Vs (aY.aj (aY.aj (aY.aj aY.all_nil Vr aY.all_nil) Vq (aY.aj aY.all_nil Vp aY.all_nil)) Vo (aY.aj (aY.aj aY.all_nil Vn aY.all_nil) Vm aY.all_nil))) Vl (aY.aj (aY.aj (aY.aj (aY.aj aY.all_nil Vk aY.all_nil) Vj (aY.aj aY.all_nil Vi aY.all_nil)) Vh (aY.aj (aY.aj aY.all_nil Vg aY.all_nil) Vf aY.all_nil)) Ve (aY.aj (aY.aj (aY.aj aY.all_nil Vd aY.all_nil) Vc (aY.aj aY.all_nil Vb aY.all_nil)) Va (aY.aj (aY.aj aY.all_nil U9 aY.all_nil) U8 aY.all_nil))))) U7 (aY.aj (aY.aj (aY.aj (aY.aj (aY.aj (aY.aj aY.all_nil U6 aY.all_nil) U5 (aY.aj aY.all_nil U4 aY.all_nil)) U3 (aY.aj (aY.aj aY.all_nil S6 aY.all_nil) S5 (aY.aj aY.all_nil S4 aY.all_nil))) S3 (aY.aj (aY.aj (aY.aj aY.all_nil S2 aY.all_nil) S1 (aY.aj aY.all_nil S0 aY.all_nil)) SZ (aY.aj (aY.aj aY.all_nil SY aY.all_nil) SX aY.all_nil))) SW (aY.aj (aY.aj (aY.aj (aY.aj aY.all_nil SV aY.all_nil) SU (aY.aj aY.all_nil SS aY.all_nil)) SR (aY.aj (aY.aj aY.all_nil SQ aY.all_nil) SP aY.all_nil)) SO (aY.aj (aY.aj (aY.aj aY.all_nil SN aY.all_nil) SM (aY.aj aY.all_nil SL aY.all_nil)) SK (aY.aj (aY.aj aY.all_nil SJ aY.all_nil) SI aY.all_nil)))) SH (aY.aj (aY.aj (aY.aj (aY.aj (aY.aj aY.all_nil SG aY.all_nil) SF (aY.aj aY.all_nil SE aY.all_nil)) SD (aY.aj (aY.aj aY.all_nil SC aY.all_nil) SB (aY.aj aY.all_nil SA aY.all_nil))) Sz (aY.aj (aY.aj (aY.aj aY.all_nil Sy aY.all_nil) Sx (aY.aj aY.all_nil Sw aY.all_nil)) Sv (aY.aj (aY.aj aY.all_nil Su aY.all_nil) Ss aY.all_nil))) Sr (aY.aj (aY.aj (aY.aj (aY.aj aY.all_nil Sq aY.all_nil) Sp (aY.aj aY.all_nil Sn aY.all_nil)) Sm (aY.aj (aY.aj aY.all_nil Sk aY.all_nil) Sj aY.all_nil)) Si (aY.aj (aY.aj (aY.aj aY.all_nil Sh aY.all_nil) Sg (aY.aj aY.all_nil Sf aY.all_nil)) Se (aY.aj (aY.aj aY.all_nil Sd aY.all_nil) Sc aY.all_nil))))))
end Go.Proofs.YtiihadmgkoamoaaGreatDoor

namespace Go.Tp
open Go.Proofs Go.Shelf Go.RowKit Go.Maps
/-! ### What they do -/
def HB (args : List ac) (heap : Heap) (next : Nat) : Option eu :=
 match args with
 | [.map (.out m)] => (match rN (.out m) heap with
  | some (.map es) => some ⟨.map (.out next), (.out next, .map es) :: heap, next + 1⟩
  | _ => none)
 | _ => none
section
variable {P : Program} {ρ : Ren} {G : bD}
theorem we {N : Name -> Option Nat} {next b : Nat} (hnx : ∀ o b, N (.out o) = some b -> o < next) : ∀ m c, N m = some c -> bS N (.out next) b m = some c := fun m c hm => by
 have hne : m ≠ .out next := by
  rintro rfl
  have := hnx next c hm
  omega
 simp [bS, hne, hm]
theorem wN {N N' : Name -> Option Nat} (h : ∀ m c, N m = some c -> N' m = some c) : ∀ m c, outs N m = some c -> outs N' m = some c := fun m c hm => by
 cases m with
 | loc i => simp [outs] at hm
 | out o => exact h _ _ hm
theorem NC (L : SlLaysW.n5 P ρ) {args : List ac} {heap : Heap} {next : Nat} {r : eu} (h : HB args heap next = some r) : ay P G (ρ.f 5) args heap next (XQ r) := by
 unfold HB at h
 split at h
 rotate_left
 ·simp at h
 rename_i m
 split at h
 rotate_left
 ·simp at h
 rename_i es hm
 simp only [Option.some.injEq] at h
 subst h
 rw [lE] at hm
 intro w R N cargs bsA bsH bsF hargs hheap hnd hnx hglob hF
 obtain ⟨v0, r1, c0, d1, rfl, rfl, h0, hr1⟩ := aD hargs
 obtain ⟨rfl, rfl⟩ := aV hr1
 simp only [ak] at h0
 obtain ⟨rfl, b, hb, rfl⟩ := h0
 obtain ⟨pre, b', b1, post, rfl, hb', hobj, _⟩ := al.split hheap hm
 have : b' = b := by rw [hb] at hb'; simpa using hb'.symm
 subst this
 obtain ⟨rfl, hRb, ents, clock, hblk, hrm, hbo⟩ := hobj
 refine (AnyW.maps_Clone L b' ents clock w hblk).mono ?_
 rintro e w' ⟨rfl, rfl⟩
 have hk : ∀ bs, bz w R (w.alloc (.map ents clock)) (R.more w.heap.size) bs := fun bs => eH (w := w) (R := R) (.map ents clock) (R' := R.more w.heap.size) (fun b off hb => Own.lj hb) bs
 have hext := we (N := N) (b := w.heap.size) hnx
 have hltH : ∀ q ∈ pre ++ ([b'] ++ post), q < w.heap.size := by
  intro q hq
  exact hheap.lt q (by simpa using hq)
 refine ⟨_, _, _, next + 1, R.more w.heap.size, bS N (.out next) w.heap.size, [], w.heap.size :: ([] ++ (pre ++ b' :: [] ++ post)), rfl, ⟨rfl, rfl, rfl⟩, ?_, ?_, ?_, ?_, hk bsF, fun o b h => hext _ _ h⟩
 ·simp only [ak]
  exact ⟨trivial, w.heap.size, by simp [outs, bS], rfl⟩
 ·refine ⟨w.heap.size, [], _, rfl, by simp [outs, bS], ⟨rfl, .inl rfl, ents, clock, heap_alloc_new w _, hrm.step (hk []).step, hbo⟩, (hheap.keep (hk _)).ext (wN hext)⟩
 ·have h1 : (pre ++ (b' :: post) ++ bsF).Nodup := by simpa using hnd
  have h2 : w.heap.size ∉ pre ++ (b' :: post) ++ bsF := by
   intro hm
   rcases List.mem_append.1 hm with hm | hm
   ·have := hltH _ (by simpa using hm); omega
   have := hF _ hm; omega
  simpa using List.nodup_cons.2 ⟨h2, h1⟩
 intro o c ho
 by_cases hne : o = next
 ·omega
 have : N (.out o) = some c := by simpa [bS, hne] using ho
 have := hnx o c this
 omega
/-! ### slices.Delete of all from i on -/
end
end Go.Tp

namespace Go.Proofs.YtiihadmgkoamoaaGreatDoor
open Go.Tp Go.Shelf
def iP (l : List (List UInt8)) : List aq := l.map fun b => .flat (.string ⟨⟨b⟩⟩)
def mN : List (List UInt8) := [[65, 110, 121], [78, 101, 118, 101, 114], [116, 117, 112, 108, 101], [117, 110, 105, 111, 110], [101, 120, 105, 115, 116, 115]]
/-- Xa, Xb, Xc, Xd -/
def gK : List (List UInt8) := [[88, 97], [88, 98], [88, 99], [88, 100]]
/-- Int, Bool, String, Nil -/
def fQ : List (List UInt8) := [[73, 110, 116], [66, 111, 111, 108], [83, 116, 114, 105, 110, 103], [78, 105, 108]]
def cI : bD := fun g => match g with | 0 => some [.slice (iP gK)] | 1 => some [.slice (iP fQ)] | 2 => some [.slice (iP mN)] | 4 => some [.slice (iP mN)] | _ => none
theorem Dx : (env ap.aK).Ok Tryz.prog := by rw [MQ]; exact Tk
def Pf : iu := fun _ _ _ _ => none
theorem Pe : D0 Tryz.prog cI Pf := by intro f args heap next r h; simp [Pf] at h
noncomputable def X : iu := xB (env ap.aK) cI au ax Fw.find Pf 3000 60
theorem pf : D0 Tryz.prog cI X := fun f args heap next r h => nH 3000 Dx qZ (M := Pf) Pe 60 f args heap next r h
theorem P2 (ls bs : List Nat) {g : FuncId} {x : kD} (hx : Fw.find g = some x) {args : List ac} {heap : Heap} {next : Nat} {r : eu} (h : (KT (JH ls) (JH bs) (env ap.aK) cI au ax x g args heap next).Ok Tryz.prog cI (fun y => y = r)) :
  ay Tryz.prog cI g args heap next (XQ r) := to (GF Dx qZ hx (fun _ _ => h))
abbrev KD := db Tryz.prog cI
abbrev KC := ay Tryz.prog cI
theorem co (ls bs : List Nat) {g : FuncId} {x : kD} {args : List ac} {heap : Heap} {next : Nat} {r : eu} (h : (KT (JH ls) (JH bs) (env ap.aK) cI au ax x g args heap next).Ok Tryz.prog cI (fun y => y = r)) (hx : Fw.find g = some x := by kernel_rfl) : ay Tryz.prog cI g args heap next (XQ r) := P2 ls bs hx h
theorem az (ls bs : List Nat) {H : Hints} {n : Nat} {live : Nat -> Nat} {c : Code} (hc : cJ H c = true) {f : ab} {T : Exit -> aa -> Prop}
  (h : (qC (JH ls) (JH bs) (env ap.aK) cI H n live c f (fun r => .fin r)).Ok Tryz.prog cI (fun r => T r.1 (r.2.aw n))) : db Tryz.prog cI c T (f.aw n) := Ir Dx live hc h
theorem UJ {α : Type} {T : α -> Prop} {q : Qy α} {c b : Bool} (hc : c = b) (e : q.xV = some (!c)) (h : (q.TQ (!b)).Ok Tryz.prog cI T) : q.Ok Tryz.prog cI T := bh (by rw [hc]) e h
abbrev ae (g : FuncId) (args : List ac) (v : ac) : Prop := ay Tryz.prog cI g args [] 0 (XQ ⟨v, [], 0⟩)
def i64 (n : Int) : aq := .flat (.int .i64 n)
def sb (b : List UInt8) : aq := .flat (.string ⟨⟨b⟩⟩)
def nl : aq := .flat (.slice none 0 0)
/-- A slice, nil where it is empty. -/
def sl : List aq -> aq
 | [] => nl
 | d :: r => .slice (d :: r)
inductive Ty where
 |mk (k : Int) (nm : List UInt8) (ix : Int) (args : List Ty)
mutual
def Ty.cells : Ty -> List aq
 | .mk k nm ix args => [i64 k, sb nm, i64 ix, sl (an args)]
def an : List Ty -> List aq
 | [] => []
 | t :: r => .agg t.cells :: an r
end
def Ty.enc (t : Ty) : aq := .agg t.cells
def Ty.args : Ty -> List Ty
 | .mk _ _ _ a => a
theorem nM : ∀ l : List Ty, an l = l.map Ty.enc
 | [] => by simp [an]
 | t :: r => by simp [an, nM r, Ty.enc]
theorem aE (l : List Ty) : (an l).length = l.length := by simp [nM]
theorem M0 {l : List Ty} {i : Nat} {t : Ty} (h : l[i]? = some t) : (an l)[i]? = some t.enc := by simp [nM, h]
mutual
def Ty.size : Ty -> Nat
 | .mk _ _ _ args => aR args + 1
def aR : List Ty -> Nat
 | [] => 0
 | t :: r => t.size + aR r
end
theorem jC {l : List Ty} {i : Nat} {t : Ty} (h : l[i]? = some t) : aR (l.take (i + 1)) = aR (l.take i) + t.size := by
 induction l generalizing i with
 | nil => simp at h
 | cons x r ih =>
  cases i with
  | zero => simp at h; subst h; simp [aR]
  | succ i =>
   simp at h
   simp only [List.take_succ_cons, aR]
   rw [ih h]; omega
theorem qq {l : List Ty} (i : Nat) : aR (l.take i) <= aR l := by
 induction l generalizing i with
 | nil => simp [aR]
 | cons x r ih =>
  cases i with
  | zero => simp [aR]
  | succ i => simp only [List.take_succ_cons, aR]; have := ih i; omega
theorem wrap_add {n m : Nat} (h : n + m < 9223372036854775808) : aG .i64 (Int.ofNat n + Int.ofNat m) = Int.ofNat (n + m) := by
 rw [dx]
 exact wrap_i64 (by simp; omega) (by simp; omega)
noncomputable def Ug : TI := match Go.Tp.elemOf (env ap.aK) 30 with | some t => t | none => default
theorem JT : Go.Tp.elemOf (env ap.aK) 30 = some Ug := by kernel_rfl
theorem vH : Ug.size = 4 := by kernel_rfl
theorem jT {l : List Ty} {i : Nat} {t : Ty} (h : l[i]? = some t) : aC (env ap.aK) 30 [.dat (.slice (an l)), .dat (.flat (.int .i64 (Int.ofNat i)))] = some ⟨.ref t.cells, .keep⟩ :=
 rI JT rfl (M0 h) (by rw [vH]; cases t; rfl) (by rw [vH]; decide)
theorem get_mem {l : List Ty} {i : Nat} (h : i < (an l).length) : ∃ t, l[i]? = some t /\ t ∈ l := by
 rw [aE] at h
 exact ⟨l[i], List.getElem?_eq_getElem h, List.getElem_mem h⟩
/-! ### Size -/
noncomputable def QZ : Hints := ⟨au, AF, ax, rowsOf ax 136⟩
def kE (l : List Ty) (i n : Int) : ab := ⟨[(9, iv i), (8, iv (Int.ofNat (an l).length)), (7, .dat (.slice (an l))), (3, iv n)], [], [], 0⟩
def ou (l : List Ty) (n : Int) : ab := ⟨[(10, bv false), (9, iv (Int.ofNat (an l).length)), (8, iv (Int.ofNat (an l).length)), (7, .dat (.slice (an l))), (3, iv n)], [], [], 0⟩
theorem Om {k : Int} {nm : List UInt8} {ix : Int} {l : List Ty} (ih : ∀ t ∈ l, ae 136 [.dat t.enc] (iv (Int.ofNat t.size))) (hb : aR l < 1000000000) :
  ae 136 [.dat (.agg [i64 k, sb nm, i64 ix, .slice (an l)])] (iv (Int.ofNat (aR l + 1))) := by
 have hlen : l.length <= aR l := by
  clear ih hb
  induction l with
  | nil => simp [aR]
  | cons t r ih => cases t; simp only [List.length_cons, aR, Ty.size]; omega
 refine co [] [] (x := .of Tryz.f136 AF vm) ?_; refine gD (n := Tryz.f136.ntmps) (c := roundOf Tryz.f136 0) (f := kE l (Int.ofNat 0) (Int.ofNat (1 + aR (l.take 0)))) (L := fun e s => e = .exit 0 /\ s = (ou l (Int.ofNat (1 + aR l))).aw Tryz.f136.ntmps) (by kernel_rfl) (by kernel_rfl) ?_ ?_
 ·refine bG (St := fun i => (kE l (Int.ofNat i) (Int.ofNat (1 + aR (l.take i)))).aw Tryz.f136.ntmps) (an l).length ?_ ?_ (i := 0) (Nat.zero_le _)
  ·intro i hi
   obtain ⟨t, ht, hm⟩ := get_mem hi
   have hs := jC ht
   have hle := qq (l := l) (i + 1)
   rw [aE] at hi
   have hi' : i < (an l).length := by rw [aE]; exact hi
   have e : qv (fun s => s = (kE l (Int.ofNat (i + 1)) (Int.ofNat (1 + aR (l.take (i + 1))))).aw Tryz.f136.ntmps) (fun e s => e = .exit 0 /\ s = (ou l (Int.ofNat (1 + aR l))).aw Tryz.f136.ntmps) .normal
     ((kE l (aG .i64 (Int.ofNat i + 1)) (aG .i64 (Int.ofNat (1 + aR (l.take i)) + Int.ofNat t.size))).aw Tryz.f136.ntmps) := by
    rw [bi (by omega), wrap_add (by omega), hs]
    show _ = _
    rw [Nat.add_assoc]
   have hc := ih t hm
   clear hs hle ih hb hlen
   obtain ⟨k2, nm2, ix2, a2⟩ := t
   rcases a2 with _ | ⟨b, c⟩ <;>
   ·refine az [10] [11] (H := QZ) (live := vm) (by kernel_rfl) ?_; refine bh (b := true) (bN hi') (by kernel_rfl) ?_; refine oo (jT ht) ?_; refine on hc ?_
    exact bK (ex := .normal) (kE l (aG .i64 (Int.ofNat i + 1)) (aG .i64 (Int.ofNat (1 + aR (l.take i)) + Int.ofNat (Ty.size _)))) (by kernel_rfl) (by kernel_rfl) e
  refine az [10] [11] (H := QZ) (live := vm) (by kernel_rfl) ?_; refine bh (b := false) (bO (i := (an l).length) (L := (an l).length) (by omega)) (by kernel_rfl) ?_
  refine bK (ex := .exit 0) (ou l (Int.ofNat (1 + aR (l.take (an l).length)))) (by kernel_rfl) (by kernel_rfl) ⟨rfl, ?_⟩
  rw [aE, List.take_length]
 rintro e s ⟨rfl, rfl⟩
 refine ⟨_, rfl, cj (a := ⟨iv (Int.ofNat (1 + aR l)), [], 0⟩) (by kernel_rfl) ?_⟩
 rw [Nat.add_comm]
theorem Km {k : Int} {nm : List UInt8} {ix : Int} : ae 136 [.dat (.agg [i64 k, sb nm, i64 ix, nl])] (iv (Int.ofNat 1)) := pf _ _ _ _ _ (by kernel_rfl)
mutual
theorem Nv : ∀ t : Ty, t.size < 1000000000 -> ae 136 [.dat t.enc] (iv (Int.ofNat t.size))
 | .mk k nm ix [], _ => Km
 | .mk k nm ix (t :: r), h => by
  have h2 : aR (t :: r) < 1000000000 := by simp only [Ty.size] at h; omega
  have := Om (k := k) (nm := nm) (ix := ix) (l := t :: r) (HE (t :: r) h2) h2
  exact this
theorem HE : ∀ l : List Ty, aR l < 1000000000 -> ∀ t ∈ l, ae 136 [.dat t.enc] (iv (Int.ofNat t.size))
 | [], _, t, ht => by simp at ht
 | u :: r, h, t, ht => by
  simp only [aR] at h
  rcases List.mem_cons.1 ht with h1 | ht
  ·rw [h1]; exact Nv u (by omega)
  exact HE r (by omega) t ht
end
/-! ### Depth -/
mutual
def Ty.depth : Ty -> Nat
 | .mk _ _ _ args => cB args + 1
def cB : List Ty -> Nat
 | [] => 0
 | t :: r => max t.depth (cB r)
end
theorem uj {l : List Ty} {i : Nat} {t : Ty} (h : l[i]? = some t) : cB (l.take (i + 1)) = max (cB (l.take i)) t.depth := by
 induction l generalizing i with
 | nil => simp at h
 | cons x r ih =>
  cases i with
  | zero => simp at h; subst h; simp [cB]
  | succ i =>
   simp at h
   simp only [List.take_succ_cons, cB]
   rw [ih h, Nat.max_assoc]
mutual
theorem jO : ∀ t : Ty, t.depth <= t.size
 | .mk _ _ _ args => by simp only [Ty.depth, Ty.size]; have := iQ args; omega
theorem iQ : ∀ l : List Ty, cB l <= aR l
 | [] => by simp [cB, aR]
 | t :: r => by simp only [cB, aR]; have := jO t; have := iQ r; omega
end
theorem UN {n m : Nat} : ap.aK.mx (Int.ofNat n) (Int.ofNat m) = Int.ofNat (max n m) := by
 show (match ba (Int.ofNat n) (Int.ofNat m) with | true => Int.ofNat m | false => Int.ofNat n) = _
 rw [fZ]
 by_cases h : n < m
 ·rw [decide_eq_true h]; simp; omega
 rw [decide_eq_false h]; simp; omega
theorem eg (l : List Ty) : l.length <= aR l := by
 induction l with
 | nil => simp [aR]
 | cons t r ih => cases t; simp only [List.length_cons, aR, Ty.size]; omega
noncomputable def ME : Hints := ⟨au, AE, ax, rowsOf ax 137⟩
theorem Na {k : Int} {nm : List UInt8} {ix : Int} {l : List Ty} (ih : ∀ t ∈ l, ae 137 [.dat t.enc] (iv (Int.ofNat t.depth))) (hb : aR l < 1000000000) :
  ae 137 [.dat (.agg [i64 k, sb nm, i64 ix, .slice (an l)])] (iv (Int.ofNat (cB l + 1))) := by
 have hlen := eg l
 have hdl := iQ l
 rw [← bi (by omega)]
 refine co [] [] (x := .of Tryz.f137 AE vl) ?_; refine gD (n := Tryz.f137.ntmps) (c := roundOf Tryz.f137 0) (f := kE l (Int.ofNat 0) (Int.ofNat (cB (l.take 0)))) (L := fun e s => e = .exit 0 /\ s = (ou l (Int.ofNat (cB l))).aw Tryz.f137.ntmps) (by kernel_rfl) (by kernel_rfl) ?_ ?_
 ·refine bG (St := fun i => (kE l (Int.ofNat i) (Int.ofNat (cB (l.take i)))).aw Tryz.f137.ntmps) (an l).length ?_ ?_ (i := 0) (Nat.zero_le _)
  ·intro i hi
   obtain ⟨t, ht, hm⟩ := get_mem hi
   have e : qv (fun s => s = (kE l (Int.ofNat (i + 1)) (Int.ofNat (cB (l.take (i + 1))))).aw Tryz.f137.ntmps) (fun e s => e = .exit 0 /\ s = (ou l (Int.ofNat (cB l))).aw Tryz.f137.ntmps) .normal
     ((kE l (aG .i64 (Int.ofNat i + 1)) (ap.aK.mx (Int.ofNat (cB (l.take i))) (Int.ofNat t.depth))).aw Tryz.f137.ntmps) := by
    rw [aE] at hi
    rw [bi (by omega), UN, uj ht]
    rfl
   have hc := ih t hm
   clear ih hb hlen hdl
   obtain ⟨k2, nm2, ix2, a2⟩ := t
   rcases a2 with _ | ⟨b, c⟩ <;>
   ·refine az [10] [11] (H := ME) (live := vl) (by kernel_rfl) ?_; refine bh (b := true) (bN hi) (by kernel_rfl) ?_; refine oo (jT ht) ?_; refine on hc ?_
    exact bK (ex := .normal) (kE l (aG .i64 (Int.ofNat i + 1)) (ap.aK.mx (Int.ofNat (cB (l.take i))) (Int.ofNat (Ty.depth _)))) (by kernel_rfl) (by kernel_rfl) e
  refine az [10] [11] (H := ME) (live := vl) (by kernel_rfl) ?_; refine bh (b := false) (bO (i := (an l).length) (L := (an l).length) (by omega)) (by kernel_rfl) ?_
  refine bK (ex := .exit 0) (ou l (Int.ofNat (cB (l.take (an l).length)))) (by kernel_rfl) (by kernel_rfl) ⟨rfl, ?_⟩
  rw [aE, List.take_length]
 rintro e s ⟨rfl, rfl⟩
 exact ⟨_, rfl, cj (by kernel_rfl) rfl⟩
theorem Jl {k : Int} {nm : List UInt8} {ix : Int} : ae 137 [.dat (.agg [i64 k, sb nm, i64 ix, nl])] (iv (Int.ofNat 1)) := pf _ _ _ _ _ (by kernel_rfl)
mutual
theorem HH : ∀ t : Ty, t.size < 1000000000 -> ae 137 [.dat t.enc] (iv (Int.ofNat t.depth))
 | .mk k nm ix [], _ => Jl
 | .mk k nm ix (t :: r), h => by
  have h2 : aR (t :: r) < 1000000000 := by simp only [Ty.size] at h; omega
  have := Na (k := k) (nm := nm) (ix := ix) (l := t :: r) (DO (t :: r) h2) h2
  exact this
theorem DO : ∀ l : List Ty, aR l < 1000000000 -> ∀ t ∈ l, ae 137 [.dat t.enc] (iv (Int.ofNat t.depth))
 | [], _, t, ht => by simp at ht
 | u :: r, h, t, ht => by
  simp only [aR] at h
  rcases List.mem_cons.1 ht with h1 | ht
  ·rw [h1]; exact HH u (by omega)
  exact DO r (by omega) t ht
end
/-! ### Closed terms -/
def cW (k : Int) (i : Nat) : Nat := if bj k 6 = true /\ i = 1 then 1 else 0
mutual
def Ty.closed : Ty -> Nat -> Bool
 | .mk k _ ix args, u => !(bj k 5 && !ba ix (Int.ofNat u)) && dY k 0 args u
def dY (k : Int) : Nat -> List Ty -> Nat -> Bool
 | _, [], _ => true
 | i, t :: r, u => t.closed (u + cW k i) && dY k (i + 1) r u
end
theorem sW (k : Int) (nm : List UInt8) (ix : Int) (a : aq) (ha : a = nl ∨ ∃ es, a = .slice es) (i : Nat) : ae 126 [.dat (.agg [i64 k, sb nm, i64 ix, a]), iv (Int.ofNat i)] (iv (Int.ofNat (cW k i))) := by
 rcases ha with rfl | ⟨es, rfl⟩ <;>
 ·refine co [7, 10] [] (x := .of Tryz.f126 ER Hh) ?_
  refine CL (c := bj k 6) (by kernel_rfl) (fun h6 => ?_) (fun h6 => ?_)
  ·refine CL (c := bj (Int.ofNat i) (Int.ofNat 1)) (by kernel_rfl) (fun h1 => ?_) (fun h1 => ?_)
   ·rw [qa, decide_eq_true_eq] at h1
    have : cW k i = 1 := by unfold cW; rw [if_pos ⟨h6, h1⟩]
    rw [this]
    exact fi
   rw [qa, decide_eq_false_iff_not] at h1
   have : cW k i = 0 := by unfold cW; rw [if_neg (fun h => h1 h.2)]
   rw [this]
   exact fi
  have : cW k i = 0 := by unfold cW; rw [if_neg (fun h => by rw [h6] at h; simp at h)]
  rw [this]
  exact fi
noncomputable def A5 : Hints := ⟨au, wR, ax, rowsOf ax 139⟩
def UR (k : Int) (nm : List UInt8) (ix : Int) (l : List Ty) : Heap := [(.loc 2, .cells [iv k, .dat (sb nm), iv ix, .dat (.slice (an l))])]
def Oj (k : Int) (nm : List UInt8) (ix : Int) (l : List Ty) (u : Nat) (i : Int) : ab := ⟨[(19, iv i), (18, iv (Int.ofNat (an l).length)), (17, .dat (.slice (an l))), (2, .ptr (.loc 2) 0), (1, iv (Int.ofNat u))], UR k nm ix l, [], 0⟩
def Kg (k : Int) (nm : List UInt8) (ix : Int) (l : List Ty) (u : Nat) : ab := ⟨[(20, bv false), (19, iv (Int.ofNat (an l).length)), (18, iv (Int.ofNat (an l).length)), (17, .dat (.slice (an l))), (2, .ptr (.loc 2) 0), (1, iv (Int.ofNat u))], UR k nm ix l, [], 0⟩
def Kh : ab := ⟨[(4, bv false)], [], [], 0⟩
theorem gM {l : List Ty} {i : Nat} {t : Ty} (h : l[i]? = some t) : l.drop i = t :: l.drop (i + 1) := by
 obtain ⟨hi, rfl⟩ := List.getElem?_eq_some_iff.1 h
 exact List.drop_eq_getElem_cons hi
theorem DI {k : Int} {nm : List UInt8} {ix : Int} {l : List Ty} {u : Nat} (ih : ∀ t ∈ l, ∀ v, v <= u + 1 -> ae 139 [.dat t.enc, iv (Int.ofNat v)] (bv (t.closed v))) (hb : aR l < 1000000000) (hu : u < 2000000000) :
  KD (.loop (roundOf Tryz.f139 0)) (fun e s => (e = .exit 0 /\ dY k 0 l u = true /\ s = (Kg k nm ix l u).aw Tryz.f139.ntmps) ∨ (e = .ret /\ dY k 0 l u = false /\ s = Kh.aw Tryz.f139.ntmps)) ((Oj k nm ix l u (Int.ofNat 0)).aw Tryz.f139.ntmps) := by
 have hlen := eg l
 refine ct (St := fun i => (Oj k nm ix l u (Int.ofNat i)).aw Tryz.f139.ntmps) (fun i => dY k 0 l u = dY k i (l.drop i) u) (an l).length ?_ ?_ (i := 0) (Nat.zero_le _) rfl
 ·intro i hi hI
  obtain ⟨t, ht, hm⟩ := get_mem hi
  have hcl : dY k i (l.drop i) u = (t.closed (u + cW k i) && dY k (i + 1) (l.drop (i + 1)) u) := by rw [gM ht]; rfl
  have hbn : cW k i <= 1 := by unfold cW; split <;> omega
  have hc : ae 139 [.dat t.enc, iv (aG .i64 (Int.ofNat u + Int.ofNat (cW k i)))] (bv (t.closed (u + cW k i))) := by
   rw [wrap_add (by omega)]; exact ih t hm _ (by omega)
  have hw : aG .i64 (Int.ofNat i + 1) = Int.ofNat (i + 1) := bi (by rw [aE] at hi; omega)
  have hbi := sW k nm ix (.slice (an l)) (.inr ⟨_, rfl⟩) i
  generalize ht2 : t.closed (u + cW k i) = tc at hc hcl
  clear ih hb hlen hu hbn ht2
  obtain ⟨k2, nm2, ix2, a2⟩ := t
  rcases a2 with _ | ⟨b, c⟩ <;> cases tc <;>
  ·refine az [20] [22] (H := A5) (live := oE) (by kernel_rfl) ?_; refine bh (b := true) (bN hi) (by kernel_rfl) ?_; refine oo (jT ht) ?_; refine on hbi ?_; refine on hc ?_
   first
    |exact bK (ex := .normal) (Oj k nm ix l u (aG .i64 (Int.ofNat i + 1))) (by kernel_rfl) (by kernel_rfl) ⟨by rw [hw], by rw [hI, hcl]; rfl⟩
    |exact bK (ex := .ret) Kh (by kernel_rfl) (by kernel_rfl) (.inr ⟨rfl, by rw [hI, hcl]; rfl, rfl⟩)
 intro hI
 have h1 : dY k 0 l u = true := by
  rw [hI, aE, List.drop_length]; rfl
 refine az [20] [22] (H := A5) (live := oE) (by kernel_rfl) ?_; refine bh (b := false) (bO (i := (an l).length) (L := (an l).length) (by omega)) (by kernel_rfl) ?_
 exact bK (ex := .exit 0) (Kg k nm ix l u) (by kernel_rfl) (by kernel_rfl) (.inl ⟨rfl, h1, rfl⟩)
theorem yJ (k : Int) (nm : List UInt8) (ix : Int) (l : List Ty) (u : Nat) : (Ty.mk k nm ix l).closed u = (!(bj k 5 && !ba ix (Int.ofNat u)) && dY k 0 l u) := by rw [Ty.closed]
theorem Js {k : Int} {nm : List UInt8} {ix : Int} {l : List Ty} {u : Nat} (ih : ∀ t ∈ l, ∀ v, v <= u + 1 -> ae 139 [.dat t.enc, iv (Int.ofNat v)] (bv (t.closed v))) (hb : aR l < 1000000000) (hu : u < 2000000000) :
  ae 139 [.dat (.agg [i64 k, sb nm, i64 ix, .slice (an l)]), iv (Int.ofNat u)] (bv ((Ty.mk k nm ix l).closed u)) := by
 have hl := DI (k := k) (nm := nm) (ix := ix) ih hb hu
 rw [yJ]
 clear ih hb hu
 have key : ∀ c5 : Bool, c5 = bj k 5 -> ∀ cu : Bool, cu = !ba ix (Int.ofNat u) -> ae 139 [.dat (.agg [i64 k, sb nm, i64 ix, .slice (an l)]), iv (Int.ofNat u)] (bv (!(c5 && cu) && dY k 0 l u)) := by
  intro c5 h5 cu hcu
  refine co [9, 14] [] (x := .of Tryz.f139 wR oE) ?_; refine bh (b := c5) h5.symm (by kernel_rfl) ?_
  have go : ∀ {q : Qy eu} (hs : q.CY.aw Tryz.f139.ntmps = (Oj k nm ix l u (Int.ofNat 0)).aw Tryz.f139.ntmps) (e : q.zv = some (Tryz.f139.ntmps, roundOf Tryz.f139 0))
    (e1 : (q.UL (.exit 0, Kg k nm ix l u)).FD = some ⟨bv true, [], 0⟩) (e2 : (q.UL (.ret, Kh)).FD = some ⟨bv false, [], 0⟩), q.Ok Tryz.prog cI (fun y => y = ⟨bv (dY k 0 l u), [], 0⟩) := by
   intro q hs e e1 e2
   refine gD (n := Tryz.f139.ntmps) e hs hl ?_
   rintro ex s (⟨rfl, hc, rfl⟩ | ⟨rfl, hc, rfl⟩)
   ·rw [hc]; exact ⟨_, rfl, cj e1 rfl⟩
   rw [hc]; exact ⟨_, rfl, cj e2 rfl⟩
  cases c5 with
  | false => exact go (by kernel_rfl) (by kernel_rfl) (by kernel_rfl) (by kernel_rfl)
  | true =>
   refine bh (b := cu) hcu.symm (by kernel_rfl) ?_
   cases cu
   ·exact go (by kernel_rfl) (by kernel_rfl) (by kernel_rfl) (by kernel_rfl)
   exact fi
 exact key _ rfl _ rfl
def QE (k : Int) (nm : List UInt8) (ix : Int) (u : Nat) : ab := ⟨[(19, iv 0), (18, iv 0), (17, .dat nl), (2, .ptr (.loc 2) 0), (1, iv (Int.ofNat u))], [(.loc 2, .cells [iv k, .dat (sb nm), iv ix, .dat nl])], [], 0⟩
def Ki (k : Int) (nm : List UInt8) (ix : Int) (u : Nat) : ab := ⟨[(20, bv false), (19, iv 0), (18, iv 0), (17, .dat nl), (2, .ptr (.loc 2) 0), (1, iv (Int.ofNat u))], [(.loc 2, .cells [iv k, .dat (sb nm), iv ix, .dat nl])], [], 0⟩
theorem DH (k : Int) (nm : List UInt8) (ix : Int) (u : Nat) : gJ X (env ap.aK) cI A5 Tryz.f139.ntmps oE 3000 (.loop (roundOf Tryz.f139 0)) (QE k nm ix u) = some (.exit 0, Ki k nm ix u) := by kernel_rfl
theorem FX (k : Int) (nm : List UInt8) (ix : Int) (u : Nat) : ae 139 [.dat (.agg [i64 k, sb nm, i64 ix, nl]), iv (Int.ofNat u)] (bv ((Ty.mk k nm ix []).closed u)) := by
 rw [yJ]
 have key : ∀ c5 : Bool, c5 = bj k 5 -> ∀ cu : Bool, cu = !ba ix (Int.ofNat u) -> ae 139 [.dat (.agg [i64 k, sb nm, i64 ix, nl]), iv (Int.ofNat u)] (bv (!(c5 && cu) && dY k 0 [] u)) := by
  intro c5 h5 cu hcu
  refine co [9, 14] [] (x := .of Tryz.f139 wR oE) ?_; refine bh (b := c5) h5.symm (by kernel_rfl) ?_
  have go : ∀ {q : Qy eu} (hs : q.CY.aw Tryz.f139.ntmps = (QE k nm ix u).aw Tryz.f139.ntmps) (e : q.zv = some (Tryz.f139.ntmps, roundOf Tryz.f139 0))
    (e1 : (q.UL (.exit 0, Ki k nm ix u)).FD = some ⟨bv true, [], 0⟩), q.Ok Tryz.prog cI (fun y => y = ⟨bv true, [], 0⟩) := by
   intro q hs e e1
   refine gD (n := Tryz.f139.ntmps) e hs (Nn Dx pf 3000 (by kernel_rfl) (DH k nm ix u)) ?_; rintro ex s ⟨rfl, rfl⟩
   exact ⟨_, rfl, cj e1 rfl⟩
  cases c5 with
  | false => exact go (by kernel_rfl) (by kernel_rfl) (by kernel_rfl)
  | true =>
   refine bh (b := cu) hcu.symm (by kernel_rfl) ?_
   cases cu
   ·exact go (by kernel_rfl) (by kernel_rfl) (by kernel_rfl)
   exact fi
 exact key _ rfl _ rfl
mutual
theorem DP : ∀ (t : Ty) (u : Nat), t.size < 1000000000 -> u + t.depth < 2000000000 -> ae 139 [.dat t.enc, iv (Int.ofNat u)] (bv (t.closed u))
 | .mk k nm ix [], u, _, _ => FX k nm ix u
 | .mk k nm ix (t :: r), u, h, hu => by
  have h2 : aR (t :: r) < 1000000000 := by simp only [Ty.size] at h; omega
  have h3 : u + 1 + cB (t :: r) < 2000000000 := by simp only [Ty.depth] at hu; omega
  exact Js (l := t :: r) (fun x hx v hv => sV (t :: r) v h2 (by omega) x hx) h2 (by omega)
theorem sV : ∀ (l : List Ty) (u : Nat), aR l < 1000000000 -> u + cB l < 2000000000 -> ∀ t ∈ l, ae 139 [.dat t.enc, iv (Int.ofNat u)] (bv (t.closed u))
 | [], _, _, _, t, ht => by simp at ht
 | x :: r, u, h, hu, t, ht => by
  simp only [aR] at h
  simp only [cB] at hu
  rcases List.mem_cons.1 ht with h1 | ht
  ·rw [h1]; exact DP x u (by omega) (by omega)
  exact sV r u (by omega) (by omega) t ht
end
mutual
/-- No node has too many arguments. -/
def Ty.thin : Ty -> Prop
 | .mk _ _ _ l => l.length < 1000000000 /\ mR l
def mR : List Ty -> Prop
 | [] => True
 | t :: r => t.thin /\ mR r
end
mutual
theorem uW : ∀ t : Ty, t.size < 1000000000 -> t.thin
 | .mk _ _ _ l, h => by
  simp only [Ty.size] at h
  have := eg l
  simp only [Ty.thin]
  exact ⟨by omega, BP l (by omega)⟩
theorem BP : ∀ l : List Ty, aR l < 1000000000 -> mR l
 | [], _ => by simp [mR]
 | t :: r, h => by
  simp only [aR] at h
  simp only [mR]
  exact ⟨uW t (by omega), BP r (by omega)⟩
end
theorem xN (ls bs : List Nat) {g : FuncId} {x : kD} (hx : Fw.find g = some x) {args : List ac} {heap : Heap} {next : Nat} {T : eu -> Prop} (h : (KT (JH ls) (JH bs) (env ap.aK) cI au ax x g args heap next).Ok Tryz.prog cI T) :
  KC g args heap next (fun v h m => T ⟨v, h, m⟩) := GF Dx qZ hx (fun _ _ => h)
/-- The values below which a search stops. -/
def mA (b : Bool) (v : ac) : Prop := ∃ j : Int, v = iv j /\ ba j (Int.ofNat 0) = !b
theorem DW {l : List Ty} {p : Ty -> Bool} {i : Nat} {t : Ty} (h : l[i]? = some t) : (l.drop i).any p = (p t || (l.drop (i + 1)).any p) := by rw [gM h]; rfl
noncomputable def vq : Hints := ⟨au, tN, ax, rowsOf ax 99⟩
/-! ### plainArgsF -/
def gI : ac := .fn (.func 169) [] []
def iw (l : List Ty) (i : Int) : ab := ⟨[(8, iv i), (7, iv (Int.ofNat (an l).length)), (0, .dat (.slice (an l))), (1, gI)], [], [], 0⟩
def mT (l : List Ty) : ab := ⟨[(9, bv false), (8, iv (Int.ofNat (an l).length)), (7, iv (Int.ofNat (an l).length)), (0, .dat (.slice (an l))), (1, gI)], [], [], 0⟩
def mU (i : Nat) : ab := ⟨[(4, iv (Int.ofNat i))], [], [], 0⟩
theorem uP {l : List Ty} {p : Ty -> Bool} (hp : ∀ t ∈ l, ae 169 [.dat t.enc] (bv (p t))) (hb : l.length < 1000000000) :
  KC 99 [.dat (.slice (an l)), gI] [] 0 (fun v h m => mA (l.any p) v /\ h = [] /\ m = 0) := by
 have hl : KD (.loop (roundOf Tryz.f99 0)) (fun e s => (e = .exit 0 /\ l.any p = false /\ s = (mT l).aw Tryz.f99.ntmps) ∨ (e = .ret /\ l.any p = true /\ ∃ i : Nat, s = (mU i).aw Tryz.f99.ntmps)) ((iw l (Int.ofNat 0)).aw Tryz.f99.ntmps) := by
  refine ct (St := fun i => (iw l (Int.ofNat i)).aw Tryz.f99.ntmps) (fun i => l.any p = (l.drop i).any p) (an l).length ?_ ?_ (i := 0) (Nat.zero_le _) rfl
  ·intro i hi hI
   obtain ⟨t, ht, hm⟩ := get_mem hi
   have ha := DW (p := p) ht
   have hw : aG .i64 (Int.ofNat i + 1) = Int.ofNat (i + 1) := bi (by rw [aE] at hi; omega)
   have hc := hp t hm
   generalize ht2 : p t = tc at hc ha
   clear hp hb ht2
   obtain ⟨k2, nm2, ix2, a2⟩ := t
   rcases a2 with _ | ⟨b, c⟩ <;> cases tc <;>
   ·refine az [9] [14] (H := vq) (live := ib) (by kernel_rfl) ?_; refine bh (b := true) (bN hi) (by kernel_rfl) ?_; refine oo (jT ht) ?_; refine on hc ?_
    first
     |exact bK (ex := .normal) (iw l (aG .i64 (Int.ofNat i + 1))) (by kernel_rfl) (by kernel_rfl) ⟨by rw [hw], by rw [hI, ha]; rfl⟩
     |exact bK (ex := .ret) (mU i) (by kernel_rfl) (by kernel_rfl) (.inr ⟨rfl, by rw [hI, ha]; rfl, i, rfl⟩)
  intro hI
  have h1 : l.any p = false := by rw [hI, aE, List.drop_length]; rfl
  refine az [9] [14] (H := vq) (live := ib) (by kernel_rfl) ?_; refine bh (b := false) (bO (i := (an l).length) (L := (an l).length) (by omega)) (by kernel_rfl) ?_
  exact bK (ex := .exit 0) (mT l) (by kernel_rfl) (by kernel_rfl) (.inl ⟨rfl, h1, rfl⟩)
 clear hp hb
 refine xN [] [] (x := kD.of Tryz.f99 tN ib) (T := fun r => mA (l.any p) r.val /\ r.heap = [] /\ r.next = 0) (by kernel_rfl) ?_
 refine gD (n := Tryz.f99.ntmps) (c := roundOf Tryz.f99 0) (f := iw l (Int.ofNat 0)) (by kernel_rfl) (by kernel_rfl) hl ?_
 rintro ex s (⟨rfl, hc, rfl⟩ | ⟨rfl, hc, i, rfl⟩)
 ·rw [hc]; exact ⟨_, rfl, cj (a := ⟨iv (-1), [], 0⟩) (by kernel_rfl) ⟨⟨_, rfl, rfl⟩, rfl, rfl⟩⟩
 rw [hc]; exact ⟨_, rfl, cj (a := ⟨iv (Int.ofNat i), [], 0⟩) (by kernel_rfl) ⟨⟨_, rfl, bO (by omega)⟩, rfl, rfl⟩⟩
theorem yD {l : List Ty} {p : Ty -> Bool} (hp : ∀ t ∈ l, ae 169 [.dat t.enc] (bv (p t))) (hb : l.length < 1000000000) :
  ae 69 [.dat (sl (an l)), gI] (bv (l.any p)) := by
 cases l with
 | nil => exact pf _ _ _ _ _ (by kernel_rfl)
 | cons t r =>
  have h := uP hp hb
  generalize (t :: r).any p = c at h
  show ae 69 [.dat (.slice (an (t :: r))), gI] (bv c)
  refine co [8] [] (x := .of Tryz.f69 zp xc) ?_; refine EX (Q := mA c) h (by kernel_rfl) (by kernel_rfl) (by rintro v ⟨j, rfl, _⟩; rfl) ?_
  rintro v ⟨j, rfl, hj⟩ _
  refine bh (b := c) (c := !ba j (Int.ofNat 0)) (by rw [hj]; simp) (by kernel_rfl) ?_
  exact cj (a := ⟨bv c, [], 0⟩) (by cases c <;> kernel_rfl) rfl
/-! ### validNodesF -/
def fS : ac := .fn (.func 168) [] []
def gw (l : List Ty) (i : Int) : ab := ⟨[(8, iv i), (7, iv (Int.ofNat (an l).length)), (0, .dat (.slice (an l))), (1, fS)], [], [], 0⟩
def mB (l : List Ty) : ab := ⟨[(9, bv false), (8, iv (Int.ofNat (an l).length)), (7, iv (Int.ofNat (an l).length)), (0, .dat (.slice (an l))), (1, fS)], [], [], 0⟩
def mC (i : Nat) : ab := ⟨[(4, iv (Int.ofNat i))], [], [], 0⟩
theorem sH {l : List Ty} {p : Ty -> Bool} (hp : ∀ t ∈ l, ae 168 [.dat t.enc] (bv (p t))) (hb : l.length < 1000000000) :
  KC 99 [.dat (.slice (an l)), fS] [] 0 (fun v h m => mA (l.any p) v /\ h = [] /\ m = 0) := by
 have hl : KD (.loop (roundOf Tryz.f99 0)) (fun e s => (e = .exit 0 /\ l.any p = false /\ s = (mB l).aw Tryz.f99.ntmps) ∨ (e = .ret /\ l.any p = true /\ ∃ i : Nat, s = (mC i).aw Tryz.f99.ntmps)) ((gw l (Int.ofNat 0)).aw Tryz.f99.ntmps) := by
  refine ct (St := fun i => (gw l (Int.ofNat i)).aw Tryz.f99.ntmps) (fun i => l.any p = (l.drop i).any p) (an l).length ?_ ?_ (i := 0) (Nat.zero_le _) rfl
  ·intro i hi hI
   obtain ⟨t, ht, hm⟩ := get_mem hi
   have ha := DW (p := p) ht
   have hw : aG .i64 (Int.ofNat i + 1) = Int.ofNat (i + 1) := bi (by rw [aE] at hi; omega)
   have hc := hp t hm
   generalize ht2 : p t = tc at hc ha
   clear hp hb ht2
   obtain ⟨k2, nm2, ix2, a2⟩ := t
   rcases a2 with _ | ⟨b, c⟩ <;> cases tc <;>
   ·refine az [9] [14] (H := vq) (live := ib) (by kernel_rfl) ?_; refine bh (b := true) (bN hi) (by kernel_rfl) ?_; refine oo (jT ht) ?_; refine on hc ?_
    first
     |exact bK (ex := .normal) (gw l (aG .i64 (Int.ofNat i + 1))) (by kernel_rfl) (by kernel_rfl) ⟨by rw [hw], by rw [hI, ha]; rfl⟩
     |exact bK (ex := .ret) (mC i) (by kernel_rfl) (by kernel_rfl) (.inr ⟨rfl, by rw [hI, ha]; rfl, i, rfl⟩)
  intro hI
  have h1 : l.any p = false := by rw [hI, aE, List.drop_length]; rfl
  refine az [9] [14] (H := vq) (live := ib) (by kernel_rfl) ?_; refine bh (b := false) (bO (i := (an l).length) (L := (an l).length) (by omega)) (by kernel_rfl) ?_
  exact bK (ex := .exit 0) (mB l) (by kernel_rfl) (by kernel_rfl) (.inl ⟨rfl, h1, rfl⟩)
 clear hp hb
 refine xN [] [] (x := kD.of Tryz.f99 tN ib) (T := fun r => mA (l.any p) r.val /\ r.heap = [] /\ r.next = 0) (by kernel_rfl) ?_
 refine gD (n := Tryz.f99.ntmps) (c := roundOf Tryz.f99 0) (f := gw l (Int.ofNat 0)) (by kernel_rfl) (by kernel_rfl) hl ?_
 rintro ex s (⟨rfl, hc, rfl⟩ | ⟨rfl, hc, i, rfl⟩)
 ·rw [hc]; exact ⟨_, rfl, cj (a := ⟨iv (-1), [], 0⟩) (by kernel_rfl) ⟨⟨_, rfl, rfl⟩, rfl, rfl⟩⟩
 rw [hc]; exact ⟨_, rfl, cj (a := ⟨iv (Int.ofNat i), [], 0⟩) (by kernel_rfl) ⟨⟨_, rfl, bO (by omega)⟩, rfl, rfl⟩⟩
theorem yd {l : List Ty} {p : Ty -> Bool} (hp : ∀ t ∈ l, ae 168 [.dat t.enc] (bv (p t))) (hb : l.length < 1000000000) :
  ae 69 [.dat (sl (an l)), fS] (bv (l.any p)) := by
 cases l with
 | nil => exact pf _ _ _ _ _ (by kernel_rfl)
 | cons t r =>
  have h := sH hp hb
  generalize (t :: r).any p = c at h
  show ae 69 [.dat (.slice (an (t :: r))), fS] (bv c)
  refine co [8] [] (x := .of Tryz.f69 zp xc) ?_; refine EX (Q := mA c) h (by kernel_rfl) (by kernel_rfl) (by rintro v ⟨j, rfl, _⟩; rfl) ?_
  rintro v ⟨j, rfl, hj⟩ _
  refine bh (b := c) (c := !ba j (Int.ofNat 0)) (by rw [hj]; simp) (by kernel_rfl) ?_
  exact cj (a := ⟨bv c, [], 0⟩) (by cases c <;> kernel_rfl) rfl
/-! ### Plain terms -/
mutual
def Ty.plain : Ty -> Bool
 | .mk k nm ix args => bj k 5 || (Ty.mk k nm ix args).closed 0 || (bj k 2 && !fU args)
def fU : List Ty -> Bool
 | [] => false
 | t :: r => !t.plain || fU r
end
theorem zZ : ∀ l : List Ty, fU l = l.any (fun t => !t.plain)
 | [] => by simp [fU]
 | t :: r => by simp [fU, zZ r]
theorem uu {k : Int} {nm : List UInt8} {ix : Int} {l : List Ty} (hp : ∀ t ∈ l, ae 117 [.dat t.enc] (bv t.plain)) (hb : l.length < 1000000000) : ae 140 [.dat (Ty.mk k nm ix l).enc] (bv (!fU l)) := by
 have h1 : ∀ t ∈ l, ae 169 [.dat t.enc] (bv (!t.plain)) := by
  intro t ht
  have hc := hp t ht
  generalize t.plain = c at hc
  obtain ⟨k2, nm2, ix2, a2⟩ := t
  rcases a2 with _ | ⟨b, d⟩ <;> cases c <;>
  ·refine co [] [] (x := .of Tryz.f169 EH G7) ?_; refine on hc ?_; exact fi
 have h2 := yD h1 hb
 rw [zZ]
 generalize l.any (fun t => !t.plain) = c at h2
 rcases l with _ | ⟨b, d⟩ <;> cases c <;>
 ·refine co [] [] (x := .of Tryz.f140 EO He) ?_; refine on h2 ?_; exact fi
theorem EB {k : Int} {nm : List UInt8} {ix : Int} {l : List Ty} (hp : ∀ t ∈ l, ae 117 [.dat t.enc] (bv t.plain)) (hs : (Ty.mk k nm ix l).size < 1000000000) : ae 117 [.dat (Ty.mk k nm ix l).enc] (bv (Ty.mk k nm ix l).plain) := by
 have hb : l.length < 1000000000 := by have := eg l; simp only [Ty.size] at hs; omega
 have h1 := DP (Ty.mk k nm ix l) 0 hs (by have := jO (Ty.mk k nm ix l); omega)
 have h2 := uu (k := k) (nm := nm) (ix := ix) hp hb
 have e : (Ty.mk k nm ix l).plain = (bj k 5 || (Ty.mk k nm ix l).closed 0 || (bj k 2 && !fU l)) := by rw [Ty.plain]
 rw [e]
 clear e hp hs hb
 generalize (Ty.mk k nm ix l).closed 0 = cc at h1
 generalize (!fU l) = ca at h2
 generalize h5 : bj k 5 = c5
 generalize h6 : bj k 2 = c2
 rcases l with _ | ⟨b, d⟩ <;>
 ·refine co [5, 13] [] (x := .of Tryz.f117 EV Hl) ?_; refine ob h5 ?_
  cases c5
  ·refine on h1 ?_
   cases cc
   ·refine ob h6 ?_
    cases c2 with
    | false => exact fi
    | true =>
     refine on h2 ?_
     cases ca <;> exact fi
   exact fi
  exact fi
mutual
theorem HF : ∀ t : Ty, t.size < 1000000000 -> ae 117 [.dat t.enc] (bv t.plain)
 | .mk k nm ix l, h => EB (xP l (by simp only [Ty.size] at h; omega)) h
theorem xP : ∀ l : List Ty, aR l < 1000000000 -> ∀ t ∈ l, ae 117 [.dat t.enc] (bv t.plain)
 | [], _, t, ht => by simp at ht
 | x :: r, h, t, ht => by
  simp only [aR] at h
  rcases List.mem_cons.1 ht with h1 | ht
  ·rw [h1]; exact HF x (by omega)
  exact xP r (by omega) t ht
end
def iA (n : Nat) : Bool := (Nat.ble 97 n && Nat.ble n 122) || (Nat.ble 65 n && Nat.ble n 90)
def yI (n : Nat) : Bool := iA n || (Nat.ble 48 n && Nat.ble n 57) || Nat.beq n 95 || Nat.beq n 45
def dw (n : Nat) : Bool := !Nat.beq n 45 && yI n
def isIdent : List UInt8 -> Bool
 | [] => false
 | c :: r => Nat.ble (r.length + 1) 24 && iA c.toNat && (c :: r).all (fun c => dw c.toNat)
def JF (n : Nat) : ac := .dat (.flat (.int .u8 (Int.ofNat n)))
def Gc (p : Nat -> Bool) : Nat -> Bool
 | 0 => true
 | k + 1 => p k && Gc p k
theorem rM {p : Nat -> Bool} : ∀ {k : Nat}, Gc p k = true -> ∀ i, i < k -> p i = true
 | 0, _, i, hi => by omega
 | k + 1, h, i, hi => by
  simp only [Gc, Bool.and_eq_true] at h
  rcases Nat.lt_or_ge i k with h1 | h1
  ·exact rM h.2 i h1
  have : i = k := by omega
  subst this; exact h.1
def zV (c : Bool) : Option eu -> Bool
 | some ⟨.dat (.flat (.bool b)), [], 0⟩ => match b with | true => c | false => !c
 | _ => false
theorem rB {c : Bool} {r : Option eu} (h : zV c r = true) : r = some ⟨bv c, [], 0⟩ := by
 unfold zV at h
 split at h
 ·rename_i b
  cases b <;> simp at h <;> subst h <;> rfl
 simp at h
theorem Fc : Gc (fun n => zV (iA n) (X 111 [JF n] [] 0)) 256 = true := by kernel_rfl
theorem F0 (c : UInt8) : ae 111 [JF c.toNat] (bv (iA c.toNat)) := pf _ _ _ _ _ (rB (rM Fc _ c.toNat_lt))
theorem IT : Gc (fun n => zV (dw n) (X 113 [JF n] [] 0)) 256 = true := by kernel_rfl
theorem Nz (c : UInt8) : ae 113 [JF c.toNat] (bv (dw c.toNat)) := pf _ _ _ _ _ (rB (rM IT _ c.toNat_lt))
theorem V6 : (env ap.aK).desc 9 = some .string := by kernel_rfl
theorem rJ {b : List UInt8} {i : Nat} {c : UInt8} (h : b[i]? = some c) : tu (env ap.aK) 9 [.dat (sb b), .dat (.flat (.int .i64 (Int.ofNat i)))] = some ⟨JF c.toNat, .keep⟩ := by
 have hg : ap.aK.byte ⟨⟨b⟩⟩ (Int.ofNat i) = some c := Pw h
 have hp : (env ap.aK).pr = ap.aK := rfl
 simp only [tu, sb, V6, hp, hg]
 rfl
def Wn : ac := .fn (.func 113) [] []
noncomputable def MD : Hints := ⟨au, AK, ax, rowsOf ax 112⟩
def Oi (b : List UInt8) (i : Int) : ab := ⟨[(5, iv i), (0, .dat (sb b)), (1, Wn)], [], [], 0⟩
def Qz (b : List UInt8) : ab := ⟨[(9, bv false), (5, iv (Int.ofNat b.length)), (0, .dat (sb b)), (1, Wn)], [], [], 0⟩
def QA : ab := ⟨[(4, bv false)], [], [], 0⟩
theorem P4 {b : List UInt8} (hb : b.length < 1000000000) : ae 112 [.dat (sb b), Wn] (bv (b.all (fun c => dw c.toNat))) := by
 have hl : KD (.loop (roundOf Tryz.f112 0)) (fun e s => (e = .exit 0 /\ b.all (fun c => dw c.toNat) = true /\ s = (Qz b).aw Tryz.f112.ntmps) ∨ (e = .ret /\ b.all (fun c => dw c.toNat) = false /\ s = QA.aw Tryz.f112.ntmps)) ((Oi b (Int.ofNat 0)).aw Tryz.f112.ntmps) := by
  refine ct (St := fun i => (Oi b (Int.ofNat i)).aw Tryz.f112.ntmps) (fun i => b.all (fun c => dw c.toNat) = (b.drop i).all (fun c => dw c.toNat)) b.length ?_ ?_ (i := 0) (Nat.zero_le _) rfl
  ·intro i hi hI
   have hg : b[i]? = some b[i] := List.getElem?_eq_getElem hi
   have hd : (b.drop i).all (fun c => dw c.toNat) = (dw b[i].toNat && (b.drop (i + 1)).all (fun c => dw c.toNat)) := by rw [List.drop_eq_getElem_cons hi]; rfl
   have hw : aG .i64 (Int.ofNat i + 1) = Int.ofNat (i + 1) := bi (by omega)
   have hc := Nz b[i]
   generalize b[i] = c at hg hd hc
   generalize dw c.toNat = tc at hd hc
   refine az [9] [15] (H := MD) (live := vn) (by kernel_rfl) ?_; refine bh (b := true) (bN hi) (by kernel_rfl) ?_; refine oo (rJ hg) ?_; refine on hc ?_
   cases tc
   ·exact bK (ex := .ret) QA (by kernel_rfl) (by kernel_rfl) (.inr ⟨rfl, by rw [hI, hd]; rfl, rfl⟩)
   exact bK (ex := .normal) (Oi b (aG .i64 (Int.ofNat i + 1))) (by kernel_rfl) (by kernel_rfl) ⟨by rw [hw], by rw [hI, hd]; rfl⟩
  intro hI
  have h1 : b.all (fun c => dw c.toNat) = true := by rw [hI, List.drop_length]; rfl
  refine az [9] [15] (H := MD) (live := vn) (by kernel_rfl) ?_; refine bh (b := false) (bO (i := b.length) (L := b.length) (by omega)) (by kernel_rfl) ?_
  exact bK (ex := .exit 0) (Qz b) (by kernel_rfl) (by kernel_rfl) (.inl ⟨rfl, h1, rfl⟩)
 generalize b.all (fun c => dw c.toNat) = c at hl
 refine co [] [] (x := .of Tryz.f112 AK vn) ?_; refine gD (n := Tryz.f112.ntmps) (c := roundOf Tryz.f112 0) (f := Oi b (Int.ofNat 0)) (by kernel_rfl) (by kernel_rfl) hl ?_
 rintro ex s (⟨rfl, rfl, rfl⟩ | ⟨rfl, rfl, rfl⟩) <;>
 ·exact ⟨_, rfl, cj (by kernel_rfl) rfl⟩
theorem sU (b : List UInt8) : ae 87 [.dat (sb b)] (bv (isIdent b)) := by
 cases b with
 | nil => exact pf _ _ _ _ _ (by kernel_rfl)
 | cons c r =>
  have hev : Nat.ble (r.length + 1) 24 = true -> ae 112 [.dat (sb (c :: r)), Wn] (bv ((c :: r).all (fun c => dw c.toNat))) := fun h => P4 (by have := fN h; simp; omega)
  have hle := F0 c
  have e : isIdent (c :: r) = (Nat.ble (r.length + 1) 24 && iA c.toNat && (c :: r).all (fun c => dw c.toNat)) := rfl
  rw [e]
  generalize (c :: r).all (fun c => dw c.toNat) = ca at hev
  generalize iA c.toNat = cl at hle
  have hlt : ba (Int.ofNat 24) (Int.ofNat (r.length + 1)) = !Nat.ble (r.length + 1) 24 := by
   rw [fZ]
   by_cases h : 24 < r.length + 1
   ·rw [decide_eq_true h, show Nat.ble (r.length + 1) 24 = false from by rw [Bool.eq_false_iff]; intro e; have := fN e; omega]; rfl
   rw [decide_eq_false h, gQ (by omega)]; rfl
  generalize Nat.ble (r.length + 1) 24 = cb at hlt hev
  refine co [8] [12] (x := .of Tryz.f87 Lb L9) ?_; refine bh (b := cb) (c := !ba (Int.ofNat 24) (Int.ofNat (r.length + 1))) (by rw [hlt]; simp) (by kernel_rfl) ?_
  cases cb with
  | false => exact fi
  | true =>
   refine oo (rJ (b := c :: r) (i := 0) rfl) ?_; refine on hle ?_
   cases cl with
   | false => exact fi
   | true =>
    refine on (hev rfl) ?_
    cases ca <;> exact fi
/-! ### The reserved words -/
def fL (b : List UInt8) : Bool := mN.any (fun r => fY b r)
noncomputable def oI : Hints := ⟨au, AJ, ax, rowsOf ax 115⟩
def BV (b : List UInt8) (i : Int) : ab := ⟨[(8, iv i), (7, iv 5), (0, .dat (.slice (iP mN))), (1, .dat (sb b))], [], [], 0⟩
def Qv (b : List UInt8) : ab := ⟨[(9, bv false), (8, iv 5), (7, iv 5), (0, .dat (.slice (iP mN))), (1, .dat (sb b))], [], [], 0⟩
def yU (i : Nat) : ab := ⟨[(4, iv (Int.ofNat i))], [], [], 0⟩
theorem Ny (b : List UInt8) : KC 115 [.dat (.slice (iP mN)), .dat (sb b)] [] 0 (fun v h m => mA (fL b) v /\ h = [] /\ m = 0) := by
 have hl : KD (.loop (roundOf Tryz.f115 0)) (fun e s => (e = .exit 0 /\ fL b = false /\ s = (Qv b).aw Tryz.f115.ntmps) ∨ (e = .ret /\ fL b = true /\ ∃ i : Nat, s = (yU i).aw Tryz.f115.ntmps)) ((BV b (Int.ofNat 0)).aw Tryz.f115.ntmps) := by
  refine ct (St := fun i => (BV b (Int.ofNat i)).aw Tryz.f115.ntmps) (fun i => fL b = (mN.drop i).any (fun r => fY b r)) 5 ?_ ?_ (i := 0) (Nat.zero_le _) rfl
  ·intro i hi hI
   have hcases : i = 0 ∨ i = 1 ∨ i = 2 ∨ i = 3 ∨ i = 4 := by omega
   have hd : (mN.drop i).any (fun r => fY b r) = (fY b (mN.getD i []) || (mN.drop (i + 1)).any (fun r => fY b r)) := by rcases hcases with rfl | rfl | rfl | rfl | rfl <;> rfl
   rw [hd] at hI
   clear hd
   generalize hcw : fY b (mN.getD i []) = cw at hI
   rcases hcases with rfl | rfl | rfl | rfl | rfl
   ·refine az [16] [] (H := oI) (live := kl) (by kernel_rfl) ?_; refine ob hcw ?_
    cases cw
    ·exact bK (ex := .normal) (BV b (Int.ofNat (0 + 1))) (by kernel_rfl) (by kernel_rfl) ⟨rfl, hI⟩
    exact bK (ex := .ret) (yU 0) (by kernel_rfl) (by kernel_rfl) (.inr ⟨rfl, hI, 0, rfl⟩)
   ·refine az [16] [] (H := oI) (live := kl) (by kernel_rfl) ?_; refine ob hcw ?_
    cases cw
    ·exact bK (ex := .normal) (BV b (Int.ofNat (1 + 1))) (by kernel_rfl) (by kernel_rfl) ⟨rfl, hI⟩
    exact bK (ex := .ret) (yU 1) (by kernel_rfl) (by kernel_rfl) (.inr ⟨rfl, hI, 1, rfl⟩)
   ·refine az [16] [] (H := oI) (live := kl) (by kernel_rfl) ?_; refine ob hcw ?_
    cases cw
    ·exact bK (ex := .normal) (BV b (Int.ofNat (2 + 1))) (by kernel_rfl) (by kernel_rfl) ⟨rfl, hI⟩
    exact bK (ex := .ret) (yU 2) (by kernel_rfl) (by kernel_rfl) (.inr ⟨rfl, hI, 2, rfl⟩)
   ·refine az [16] [] (H := oI) (live := kl) (by kernel_rfl) ?_; refine ob hcw ?_
    cases cw
    ·exact bK (ex := .normal) (BV b (Int.ofNat (3 + 1))) (by kernel_rfl) (by kernel_rfl) ⟨rfl, hI⟩
    exact bK (ex := .ret) (yU 3) (by kernel_rfl) (by kernel_rfl) (.inr ⟨rfl, hI, 3, rfl⟩)
   refine az [16] [] (H := oI) (live := kl) (by kernel_rfl) ?_; refine ob hcw ?_
   cases cw
   ·exact bK (ex := .normal) (BV b (Int.ofNat (4 + 1))) (by kernel_rfl) (by kernel_rfl) ⟨rfl, hI⟩
   exact bK (ex := .ret) (yU 4) (by kernel_rfl) (by kernel_rfl) (.inr ⟨rfl, hI, 4, rfl⟩)
  intro hI
  have h1 : fL b = false := by rw [hI]; rfl
  refine az [16] [] (H := oI) (live := kl) (by kernel_rfl) ?_
  exact bK (ex := .exit 0) (Qv b) (by kernel_rfl) (by kernel_rfl) (.inl ⟨rfl, h1, rfl⟩)
 generalize fL b = c at hl
 refine xN [] [] (x := kD.of Tryz.f115 AJ kl) (T := fun r => mA c r.val /\ r.heap = [] /\ r.next = 0) (by kernel_rfl) ?_
 refine gD (n := Tryz.f115.ntmps) (c := roundOf Tryz.f115 0) (f := BV b (Int.ofNat 0)) (by kernel_rfl) (by kernel_rfl) hl ?_
 rintro ex s (⟨rfl, rfl, rfl⟩ | ⟨rfl, rfl, i, rfl⟩)
 ·exact ⟨_, rfl, cj (a := ⟨iv (-1), [], 0⟩) (by kernel_rfl) ⟨⟨_, rfl, rfl⟩, rfl, rfl⟩⟩
 exact ⟨_, rfl, cj (a := ⟨iv (Int.ofNat i), [], 0⟩) (by kernel_rfl) ⟨⟨_, rfl, bO (by omega)⟩, rfl, rfl⟩⟩
theorem uv (b : List UInt8) : ae 88 [.dat (.slice (iP mN)), .dat (sb b)] (bv (fL b)) := by
 have h := Ny b
 generalize fL b = c at h
 refine co [8] [] (x := .of Tryz.f88 La L8) ?_; refine EX (Q := mA c) h (by kernel_rfl) (by kernel_rfl) (by rintro v ⟨j, rfl, _⟩; rfl) ?_
 rintro v ⟨j, rfl, hj⟩ _
 refine bh (b := c) (c := !ba j (Int.ofNat 0)) (by rw [hj]; simp) (by kernel_rfl) ?_
 cases c <;> exact fi
def eL (x y : Int) : Int := match ba x y with | true => -1 | false => (match ba y x with | true => 1 | false => 0)
def nQ (x y : List UInt8) : Int := match IC x y with | true => -1 | false => (match !(IC x y || fY x y) with | true => 1 | false => 0)
def yo : List Int -> Int
 | [] => 0
 | x :: r => match bj x 0 with | true => yo r | false => x
theorem dq (x : Int) : bj x x = true := by rw [fM]; simp
theorem rp (x : List UInt8) : fY x x = true := by rw [jN]; simp
theorem NE (x : Int) : ae 171 [iv x] (bv false) := by
 refine co [5] [] (x := .of Tryz.f171 EG G6) ?_; refine bh (b := false) (c := !bj x x) (by rw [dq]; rfl) (by kernel_rfl) ?_
 exact fi
theorem ND (x : List UInt8) : ae 172 [.dat (sb x)] (bv false) := by
 refine co [5] [] (x := .of Tryz.f172 EF G5) ?_; refine bh (b := false) (c := !fY x x) (by rw [rp]; rfl) (by kernel_rfl) ?_
 exact fi
theorem F3 (x y : Int) : ae 144 [iv x, iv y] (iv (eL x y)) := by
 unfold eL
 generalize h1 : ba x y = a
 generalize h2 : ba y x = b
 refine co [16, 19] [] (x := .of Tryz.f144 EN Hd) ?_; refine on (NE x) ?_; refine on (NE y) ?_; refine ob h1 ?_
 cases a
 ·refine ob h2 ?_
  cases b <;> exact fi
 exact fi
theorem Tw (x y : List UInt8) : ae 145 [.dat (sb x), .dat (sb y)] (iv (nQ x y)) := by
 unfold nQ
 generalize h2 : (!(IC x y || fY x y)) = b
 generalize h1 : IC x y = a
 refine co [16, 19] [] (x := .of Tryz.f145 EM Hc) ?_; refine on (ND x) ?_; refine on (ND y) ?_; refine ob h1 ?_
 cases a
 ·refine ob h2 ?_
  cases b <;> exact fi
 exact fi
/-! ### The first that is not 0 -/
noncomputable def hOr : Hints := ⟨au, AB, ax, rowsOf ax 143⟩
def El (a b c d : Int) (i : Int) : ab := ⟨[(8, iv i), (7, iv 4), (6, .dat (.slice [i64 a, i64 b, i64 c, i64 d])), (3, iv 0)], [], [], 0⟩
def Qp (a b c d : Int) : ab := ⟨[(9, bv false), (8, iv 4), (7, iv 4), (6, .dat (.slice [i64 a, i64 b, i64 c, i64 d])), (3, iv 0)], [], [], 0⟩
def BU (a : Int) : ab := ⟨[(2, iv a)], [], [], 0⟩
theorem WK (a b c d : Int) : ae 143 [.dat (.slice [i64 a, i64 b, i64 c, i64 d])] (iv (yo [a, b, c, d])) := by
 have hl : KD (.loop (roundOf Tryz.f143 0)) (fun e s => (e = .exit 0 /\ yo [a, b, c, d] = 0 /\ s = (Qp a b c d).aw Tryz.f143.ntmps) ∨ (e = .ret /\ s = (BU (yo [a, b, c, d])).aw Tryz.f143.ntmps)) ((El a b c d (Int.ofNat 0)).aw Tryz.f143.ntmps) := by
  refine ct (St := fun i => (El a b c d (Int.ofNat i)).aw Tryz.f143.ntmps) (fun i => yo [a, b, c, d] = yo ([a, b, c, d].drop i)) 4 ?_ ?_ (i := 0) (Nat.zero_le _) rfl
  ·intro i hi hI
   have hcases : i = 0 ∨ i = 1 ∨ i = 2 ∨ i = 3 := by omega
   have hd : yo ([a, b, c, d].drop i) = (match bj ([a, b, c, d].getD i 0) 0 with | true => yo ([a, b, c, d].drop (i + 1)) | false => [a, b, c, d].getD i 0) := by rcases hcases with rfl | rfl | rfl | rfl <;> rfl
   rw [hd] at hI
   clear hd
   generalize hcw : bj ([a, b, c, d].getD i 0) 0 = cw at hI
   rcases hcases with rfl | rfl | rfl | rfl
   ·refine az [14] [] (H := hOr) (live := lW) (by kernel_rfl) ?_; refine bh (b := !cw) (c := !bj ([a, b, c, d].getD 0 0) 0) (by rw [hcw]) (by kernel_rfl) ?_
    cases cw with
    | false => exact bK (ex := .ret) (BU ([a, b, c, d].getD 0 0)) (by kernel_rfl) (by kernel_rfl) (.inr ⟨rfl, by rw [hI]⟩)
    | true => exact bK (ex := .normal) (El a b c d (Int.ofNat (0 + 1))) (by kernel_rfl) (by kernel_rfl) ⟨rfl, hI⟩
   ·refine az [14] [] (H := hOr) (live := lW) (by kernel_rfl) ?_; refine bh (b := !cw) (c := !bj ([a, b, c, d].getD 1 0) 0) (by rw [hcw]) (by kernel_rfl) ?_
    cases cw with
    | false => exact bK (ex := .ret) (BU ([a, b, c, d].getD 1 0)) (by kernel_rfl) (by kernel_rfl) (.inr ⟨rfl, by rw [hI]⟩)
    | true => exact bK (ex := .normal) (El a b c d (Int.ofNat (1 + 1))) (by kernel_rfl) (by kernel_rfl) ⟨rfl, hI⟩
   ·refine az [14] [] (H := hOr) (live := lW) (by kernel_rfl) ?_; refine bh (b := !cw) (c := !bj ([a, b, c, d].getD 2 0) 0) (by rw [hcw]) (by kernel_rfl) ?_
    cases cw with
    | false => exact bK (ex := .ret) (BU ([a, b, c, d].getD 2 0)) (by kernel_rfl) (by kernel_rfl) (.inr ⟨rfl, by rw [hI]⟩)
    | true => exact bK (ex := .normal) (El a b c d (Int.ofNat (2 + 1))) (by kernel_rfl) (by kernel_rfl) ⟨rfl, hI⟩
   refine az [14] [] (H := hOr) (live := lW) (by kernel_rfl) ?_; refine bh (b := !cw) (c := !bj ([a, b, c, d].getD 3 0) 0) (by rw [hcw]) (by kernel_rfl) ?_
   cases cw with
   | false => exact bK (ex := .ret) (BU ([a, b, c, d].getD 3 0)) (by kernel_rfl) (by kernel_rfl) (.inr ⟨rfl, by rw [hI]⟩)
   | true => exact bK (ex := .normal) (El a b c d (Int.ofNat (3 + 1))) (by kernel_rfl) (by kernel_rfl) ⟨rfl, hI⟩
  intro hI
  have h1 : yo [a, b, c, d] = 0 := by rw [hI]; rfl
  refine az [14] [] (H := hOr) (live := lW) (by kernel_rfl) ?_
  exact bK (ex := .exit 0) (Qp a b c d) (by kernel_rfl) (by kernel_rfl) (.inl ⟨rfl, h1, rfl⟩)
 generalize yo [a, b, c, d] = r at hl
 refine co [] [] (x := .of Tryz.f143 AB lW) ?_; refine gD (n := Tryz.f143.ntmps) (c := roundOf Tryz.f143 0) (f := El a b c d (Int.ofNat 0)) (by kernel_rfl) (by kernel_rfl) hl ?_
 rintro ex s (⟨rfl, rfl, rfl⟩ | ⟨rfl, rfl⟩)
 ·exact ⟨_, rfl, cj (by kernel_rfl) rfl⟩
 exact ⟨_, rfl, cj (by kernel_rfl) rfl⟩
/-! ### Terms -/
mutual
def mr : Ty -> Ty -> Int
 | .mk k nm ix l, .mk k2 nm2 ix2 l2 => match bj (yo [eL k k2, nQ nm nm2, eL ix ix2, eL (Int.ofNat (an l).length) (Int.ofNat (an l2).length)]) 0 with
  | true => pd l l2
  | false => yo [eL k k2, nQ nm nm2, eL ix ix2, eL (Int.ofNat (an l).length) (Int.ofNat (an l2).length)]
def pd : List Ty -> List Ty -> Int
 | t :: r, u :: v => match bj (mr t u) 0 with | true => pd r v | false => mr t u
 | _, _ => 0
end
def UW (k : Int) (nm : List UInt8) (ix : Int) (l : List Ty) (k2 : Int) (nm2 : List UInt8) (ix2 : Int) (l2 : List Ty) : Int := yo [eL k k2, nQ nm nm2, eL ix ix2, eL (Int.ofNat (an l).length) (Int.ofNat (an l2).length)]
theorem nL {x : Int} (h : bj x 0 = true) : x = 0 := by rw [fM] at h; simpa using h
theorem wT : ∀ {l : List Int}, yo l = 0 -> ∀ x ∈ l, x = 0
 | [], _, x, hx => by simp at hx
 | y :: r, h, x, hx => by
  unfold yo at h
  split at h
  ·rename_i hy
   rcases List.mem_cons.1 hx with h1 | hx
   ·rw [h1]; exact nL hy
   exact wT h x hx
  rename_i hy
  subst h
  rw [dq] at hy
  simp at hy
theorem sR {x y : Int} (h : eL x y = 0) : x = y := by
 unfold eL at h
 cases h1 : ba x y with
 | true => rw [h1] at h; simp at h
 | false =>
  rw [h1] at h
  cases h2 : ba y x with
  | true => rw [h2] at h; simp at h
  | false =>
   rw [gd] at h1 h2
   simp at h1 h2
   omega
theorem xo {k : Int} {nm : List UInt8} {ix : Int} {l : List Ty} {k2 : Int} {nm2 : List UInt8} {ix2 : Int} {l2 : List Ty} (h : bj (UW k nm ix l k2 nm2 ix2 l2) 0 = true) : l.length = l2.length := by
 have h1 := wT (nL h) (eL (Int.ofNat (an l).length) (Int.ofNat (an l2).length)) (by simp)
 have h2 := sR h1
 rw [aE, aE] at h2
 exact Int.ofNat.inj h2
/-- What has been found after i rounds. -/
def lA (l l2 : List Ty) (c0 : Int) : Nat -> Int
 | 0 => c0
 | i + 1 => match l[i]?, l2[i]? with | some t, some u => mr t u | _, _ => 0
noncomputable def nB : Hints := ⟨au, AH, ax, rowsOf ax 121⟩
def po (k : Int) (nm : List UInt8) (ix : Int) (l : List Ty) (k2 : Int) (nm2 : List UInt8) (ix2 : Int) (l2 : List Ty) : Heap := [(.loc 3, .cells [iv k2, .dat (sb nm2), iv ix2, .dat (.slice (an l2))]), (.loc 2, .cells [iv k, .dat (sb nm), iv ix, .dat (.slice (an l))])]
def mV (lo : Heap) (i c : Int) : ab := ⟨[(6, iv i), (5, iv c), (3, .ptr (.loc 3) 0), (2, .ptr (.loc 2) 0)], lo, [], 0⟩
def jB (lo : Heap) (i c : Int) : ab := ⟨[(39, bv false), (6, iv i), (5, iv c), (3, .ptr (.loc 3) 0), (2, .ptr (.loc 2) 0)], lo, [], 0⟩
theorem No {k : Int} {nm : List UInt8} {ix : Int} {l : List Ty} {k2 : Int} {nm2 : List UInt8} {ix2 : Int} {l2 : List Ty} {c0 : Int} (hlen : bj c0 0 = true -> l.length = l2.length)
  (ih : ∀ t ∈ l, ∀ u ∈ l2, ae 121 [.dat t.enc, .dat u.enc] (iv (mr t u))) (hb : l.length < 1000000000) :
  KD (.loop (roundOf Tryz.f121 0)) (fun e s => e = .exit 0 /\ ∃ i : Nat, s = (jB (po k nm ix l k2 nm2 ix2 l2) (Int.ofNat i) (match bj c0 0 with | true => pd l l2 | false => c0)).aw Tryz.f121.ntmps) ((mV (po k nm ix l k2 nm2 ix2 l2) (Int.ofNat 0) c0).aw Tryz.f121.ntmps) := by
 generalize hfin : (match bj c0 0 with | true => pd l l2 | false => c0) = fin
 refine ct (St := fun i => (mV (po k nm ix l k2 nm2 ix2 l2) (Int.ofNat i) (lA l l2 c0 i)).aw Tryz.f121.ntmps) (fun i => (0 < i -> bj c0 0 = true) /\ fin = (match bj (lA l l2 c0 i) 0 with | true => pd (l.drop i) (l2.drop i) | false => lA l l2 c0 i)) (an l).length ?_ ?_ (i := 0) (Nat.zero_le _) ⟨fun h => absurd h (Nat.lt_irrefl 0), hfin.symm⟩
 ·rintro i hi ⟨hz, hI⟩
  have hz2 : bj (lA l l2 c0 i) 0 = true -> bj c0 0 = true := by
   intro h
   cases i with
   | zero => exact h
   | succ i => exact hz (Nat.succ_pos i)
  obtain ⟨t, ht, hm⟩ := get_mem hi
  have hi2 := hi
  rw [aE] at hi2
  have hw : aG .i64 (Int.ofNat i + 1) = Int.ofNat (i + 1) := bi (by omega)
  generalize hca : lA l l2 c0 i = ca at hI hz2
  generalize hcz : bj ca 0 = cz at hI hz2
  cases cz with
  | false =>
   refine az [32, 38] [45, 50] (H := nB) (live := lX) (by kernel_rfl) ?_; refine ob hcz ?_
   refine bK (ex := .exit 0) (jB (po k nm ix l k2 nm2 ix2 l2) (Int.ofNat i) ca) (by kernel_rfl) (by kernel_rfl) ⟨rfl, i, ?_⟩
   rw [hI]
  | true =>
   have hle := hlen (hz2 rfl)
   have hu : l2[i]? = some l2[i] := List.getElem?_eq_getElem (by omega)
   have hmu : l2[i] ∈ l2 := List.getElem_mem _
   generalize l2[i] = u at hu hmu
   have hc := ih t hm u hmu
   have hat : lA l l2 c0 (i + 1) = mr t u := by simp only [lA, ht, hu]
   have hnew : fin = (match bj (lA l l2 c0 (i + 1)) 0 with | true => pd (l.drop (i + 1)) (l2.drop (i + 1)) | false => lA l l2 c0 (i + 1)) := by
    rw [hI, hat]
    show pd (l.drop i) (l2.drop i) = _
    rw [gM ht, gM hu, pd]
   have hz3 := hz2 rfl
   rw [hat] at hnew
   have e : qv (fun s => s = (mV (po k nm ix l k2 nm2 ix2 l2) (Int.ofNat (i + 1)) (lA l l2 c0 (i + 1))).aw Tryz.f121.ntmps /\ (0 < i + 1 -> bj c0 0 = true) /\ fin = (match bj (lA l l2 c0 (i + 1)) 0 with | true => pd (l.drop (i + 1)) (l2.drop (i + 1)) | false => lA l l2 c0 (i + 1)))
     (fun e s => e = .exit 0 /\ ∃ i : Nat, s = (jB (po k nm ix l k2 nm2 ix2 l2) (Int.ofNat i) fin).aw Tryz.f121.ntmps) .normal ((mV (po k nm ix l k2 nm2 ix2 l2) (aG .i64 (Int.ofNat i + 1)) (mr t u)).aw Tryz.f121.ntmps) := by
    rw [hw, hat]
    exact ⟨rfl, fun _ => hz3, hnew⟩
   generalize mr t u = cc at hc e
   have hx1 := jT ht
   have hx2 := jT hu
   clear ih hlen hI hat hnew hz hz2 hu hmu ht hm
   obtain ⟨k3, nm3, ix3, a3⟩ := t
   obtain ⟨k4, nm4, ix4, a4⟩ := u
   rcases a3 with _ | ⟨b3, d3⟩ <;> rcases a4 with _ | ⟨b4, d4⟩ <;>
   ·refine az [32, 38] [45, 50] (H := nB) (live := lX) (by kernel_rfl) ?_; refine ob hcz ?_; refine bh (b := true) (bN hi) (by kernel_rfl) ?_; refine oo hx1 ?_; refine oo hx2 ?_; refine on hc ?_
    exact bK (ex := .normal) (mV (po k nm ix l k2 nm2 ix2 l2) (aG .i64 (Int.ofNat i + 1)) cc) (by kernel_rfl) (by kernel_rfl) e
 rintro ⟨hz, hI⟩
 generalize hca : lA l l2 c0 (an l).length = ca at hI
 generalize hcz : bj ca 0 = cz at hI
 refine az [32, 38] [45, 50] (H := nB) (live := lX) (by kernel_rfl) ?_; refine ob hcz ?_
 cases cz with
 | false =>
  refine bK (ex := .exit 0) (jB (po k nm ix l k2 nm2 ix2 l2) (Int.ofNat (an l).length) ca) (by kernel_rfl) (by kernel_rfl) ⟨rfl, (an l).length, ?_⟩
  rw [hI]
 | true =>
  have h0 : ca = fin := by
   rw [hI, aE, List.drop_length]
   exact nL hcz
  refine bh (b := false) (bO (i := (an l).length) (L := (an l).length) (by omega)) (by kernel_rfl) ?_
  refine bK (ex := .exit 0) (jB (po k nm ix l k2 nm2 ix2 l2) (Int.ofNat (an l).length) ca) (by kernel_rfl) (by kernel_rfl) ⟨rfl, (an l).length, ?_⟩
  rw [h0]
def iU (k : Int) (nm : List UInt8) (ix : Int) (a : aq) (k2 : Int) (nm2 : List UInt8) (ix2 : Int) (a2 : aq) : Heap := [(.loc 3, .cells [iv k2, .dat (sb nm2), iv ix2, .dat a2]), (.loc 2, .cells [iv k, .dat (sb nm), iv ix, .dat a])]
/-- Where the first has no arguments no round is made. -/
theorem HA (k : Int) (nm : List UInt8) (ix : Int) (k2 : Int) (nm2 : List UInt8) (ix2 : Int) (a2 : aq) (ha : a2 = nl ∨ ∃ es, a2 = .slice es) (c0 : Int) :
  KD (.loop (roundOf Tryz.f121 0)) (fun e s => e = .exit 0 /\ ∃ i : Nat, s = (jB (iU k nm ix nl k2 nm2 ix2 a2) (Int.ofNat i) c0).aw Tryz.f121.ntmps) ((mV (iU k nm ix nl k2 nm2 ix2 a2) (Int.ofNat 0) c0).aw Tryz.f121.ntmps) := by
 refine bG (St := fun _ => (mV (iU k nm ix nl k2 nm2 ix2 a2) (Int.ofNat 0) c0).aw Tryz.f121.ntmps) 0 (fun i hi => absurd hi (Nat.not_lt_zero i)) ?_ (i := 0) (Nat.le_refl _)
 generalize hcz : bj c0 0 = cz
 rcases ha with rfl | ⟨es, rfl⟩ <;>
 ·refine az [32, 38] [45, 50] (H := nB) (live := lX) (by kernel_rfl) ?_; refine ob hcz ?_
  cases cz with
  | false => exact bK (ex := .exit 0) (jB (iU k nm ix nl k2 nm2 ix2 _) (Int.ofNat 0) c0) (by kernel_rfl) (by kernel_rfl) ⟨rfl, 0, rfl⟩
  | true =>
   refine bh (b := false) (c := ba (Int.ofNat 0) (Int.ofNat 0)) rfl (by kernel_rfl) ?_
   exact bK (ex := .exit 0) (jB (iU k nm ix nl k2 nm2 ix2 _) (Int.ofNat 0) c0) (by kernel_rfl) (by kernel_rfl) ⟨rfl, 0, rfl⟩
/-- .. where the two differ before. -/
theorem PZ (k : Int) (nm : List UInt8) (ix : Int) (es : List aq) (k2 : Int) (nm2 : List UInt8) (ix2 : Int) (c0 : Int) (hcz : bj c0 0 = false) :
  KD (.loop (roundOf Tryz.f121 0)) (fun e s => e = .exit 0 /\ ∃ i : Nat, s = (jB (iU k nm ix (.slice es) k2 nm2 ix2 nl) (Int.ofNat i) c0).aw Tryz.f121.ntmps) ((mV (iU k nm ix (.slice es) k2 nm2 ix2 nl) (Int.ofNat 0) c0).aw Tryz.f121.ntmps) := by
 refine bG (St := fun _ => (mV (iU k nm ix (.slice es) k2 nm2 ix2 nl) (Int.ofNat 0) c0).aw Tryz.f121.ntmps) 0 (fun i hi => absurd hi (Nat.not_lt_zero i)) ?_ (i := 0) (Nat.le_refl _)
 refine az [32, 38] [45, 50] (H := nB) (live := lX) (by kernel_rfl) ?_; refine ob hcz ?_
 exact bK (ex := .exit 0) (jB (iU k nm ix (.slice es) k2 nm2 ix2 nl) (Int.ofNat 0) c0) (by kernel_rfl) (by kernel_rfl) ⟨rfl, 0, rfl⟩
theorem Bo {k : Int} {nm : List UInt8} {ix : Int} {a : aq} {k2 : Int} {nm2 : List UInt8} {ix2 : Int} {a2 : aq} (ha : a = nl ∨ ∃ es, a = .slice es) (ha2 : a2 = nl ∨ ∃ es, a2 = .slice es) {n m : Nat} {r : Int}
  (hn : a = nl /\ n = 0 ∨ ∃ es, a = .slice es /\ n = es.length) (hm : a2 = nl /\ m = 0 ∨ ∃ es, a2 = .slice es /\ m = es.length)
  (hl : KD (.loop (roundOf Tryz.f121 0)) (fun e s => e = .exit 0 /\ ∃ i : Nat, s = (jB (iU k nm ix a k2 nm2 ix2 a2) (Int.ofNat i) r).aw Tryz.f121.ntmps)
   ((mV (iU k nm ix a k2 nm2 ix2 a2) (Int.ofNat 0) (yo [eL k k2, nQ nm nm2, eL ix ix2, eL (Int.ofNat n) (Int.ofNat m)])).aw Tryz.f121.ntmps)) :
  ae 121 [.dat (.agg [i64 k, sb nm, i64 ix, a]), .dat (.agg [i64 k2, sb nm2, i64 ix2, a2])] (iv r) := by
 have h1 := F3 k k2
 have h2 := Tw nm nm2
 have h3 := F3 ix ix2
 have h4 := F3 (Int.ofNat n) (Int.ofNat m)
 generalize eL k k2 = x1 at h1 hl
 generalize nQ nm nm2 = x2 at h2 hl
 generalize eL ix ix2 = x3 at h3 hl
 generalize eL (Int.ofNat n) (Int.ofNat m) = x4 at h4 hl
 have h5 := WK x1 x2 x3 x4
 generalize yo [x1, x2, x3, x4] = c0 at h5 hl
 clear ha ha2
 rcases hn with ⟨rfl, rfl⟩ | ⟨es, rfl, rfl⟩ <;> rcases hm with ⟨rfl, rfl⟩ | ⟨es2, rfl, rfl⟩ <;>
 ·refine co [] [] (x := .of Tryz.f121 AH lX) ?_; refine on h1 ?_; refine on h2 ?_; refine on h3 ?_; refine on h4 ?_; refine on h5 ?_; refine gD (n := Tryz.f121.ntmps) (c := roundOf Tryz.f121 0) (f := mV (iU k nm ix _ k2 nm2 ix2 _) (Int.ofNat 0) c0) (by kernel_rfl) (by kernel_rfl) hl ?_; rintro ex s ⟨rfl, i, rfl⟩
  exact ⟨_, rfl, cj (by kernel_rfl) rfl⟩
theorem Bn {k : Int} {nm : List UInt8} {ix : Int} {l : List Ty} {k2 : Int} {nm2 : List UInt8} {ix2 : Int} {l2 : List Ty} (ih : ∀ t ∈ l, ∀ u ∈ l2, ae 121 [.dat t.enc, .dat u.enc] (iv (mr t u))) (hb : l.length < 1000000000) :
  ae 121 [.dat (Ty.mk k nm ix l).enc, .dat (Ty.mk k2 nm2 ix2 l2).enc] (iv (mr (.mk k nm ix l) (.mk k2 nm2 ix2 l2))) := by
 rw [mr]
 cases l with
 | nil =>
  have hr : (match bj (yo [eL k k2, nQ nm nm2, eL ix ix2, eL (Int.ofNat (an []).length) (Int.ofNat (an l2).length)]) 0 with | true => pd [] l2 | false => yo [eL k k2, nQ nm nm2, eL ix ix2, eL (Int.ofNat (an []).length) (Int.ofNat (an l2).length)]) = yo [eL k k2, nQ nm nm2, eL ix ix2, eL (Int.ofNat (an []).length) (Int.ofNat (an l2).length)] := by
   split
   ·rename_i h; rw [nL h, pd]; simp
   rfl
  rw [hr]
  cases l2 with
  | nil => exact Bo (a := nl) (a2 := nl) (n := 0) (m := 0) (.inl rfl) (.inl rfl) (.inl ⟨rfl, rfl⟩) (.inl ⟨rfl, rfl⟩) (HA k nm ix k2 nm2 ix2 nl (.inl rfl) _)
  | cons u v => exact Bo (a := nl) (a2 := .slice (an (u :: v))) (n := 0) (m := (an (u :: v)).length) (.inl rfl) (.inr ⟨_, rfl⟩) (.inl ⟨rfl, rfl⟩) (.inr ⟨_, rfl, rfl⟩) (HA k nm ix k2 nm2 ix2 _ (.inr ⟨_, rfl⟩) _)
 | cons t r =>
  cases l2 with
  | nil =>
   have hcz : bj (yo [eL k k2, nQ nm nm2, eL ix ix2, eL (Int.ofNat (an (t :: r)).length) (Int.ofNat (an []).length)]) 0 = false := by
    rw [Bool.eq_false_iff]
    intro h
    have := xo (l := t :: r) (l2 := []) h
    simp at this
   rw [hcz]
   exact Bo (a := .slice (an (t :: r))) (a2 := nl) (n := (an (t :: r)).length) (m := 0) (.inr ⟨_, rfl⟩) (.inl rfl) (.inr ⟨_, rfl, rfl⟩) (.inl ⟨rfl, rfl⟩) (PZ k nm ix _ k2 nm2 ix2 _ hcz)
  | cons u v =>
   exact Bo (a := .slice (an (t :: r))) (a2 := .slice (an (u :: v))) (n := (an (t :: r)).length) (m := (an (u :: v)).length) (.inr ⟨_, rfl⟩) (.inr ⟨_, rfl⟩) (.inr ⟨_, rfl, rfl⟩) (.inr ⟨_, rfl, rfl⟩)
    (No (l := t :: r) (l2 := u :: v) (fun h => xo (l := t :: r) (l2 := u :: v) h) ih hb)
mutual
theorem xQ : ∀ (t u : Ty), t.thin -> ae 121 [.dat t.enc, .dat u.enc] (iv (mr t u))
 | .mk k nm ix l, .mk k2 nm2 ix2 l2, h => by
  simp only [Ty.thin] at h
  exact Bn (fun t ht u _ => uw l h.2 t ht u) h.1
theorem uw : ∀ (l : List Ty), mR l -> ∀ t ∈ l, ∀ u : Ty, ae 121 [.dat t.enc, .dat u.enc] (iv (mr t u))
 | [], _, t, ht, _ => by simp at ht
 | x :: r, h, t, ht, u => by
  simp only [mR] at h
  rcases List.mem_cons.1 ht with h1 | ht
  ·rw [h1]; exact xQ x u h.1
  exact uw r h.2 t ht u
end
def I3 (t u : Ty) : Bool := bj (mr t u) 0
theorem NB (t u : Ty) (h : t.thin) : ae 91 [.dat t.enc, .dat u.enc] (bv (I3 t u)) := by
 have hc := xQ t u h
 unfold I3
 generalize mr t u = c at hc
 generalize hcz : bj c 0 = cz
 clear h
 obtain ⟨k3, nm3, ix3, a3⟩ := t
 obtain ⟨k4, nm4, ix4, a4⟩ := u
 rcases a3 with _ | ⟨b3, d3⟩ <;> rcases a4 with _ | ⟨b4, d4⟩ <;>
 ·refine co [8] [] (x := .of Tryz.f91 K7 L5) ?_; refine on hc ?_; refine ob hcz ?_
  cases cz <;> exact fi
theorem HG (t u : Ty) (h : t.size < 1000000000) : ae 91 [.dat t.enc, .dat u.enc] (bv (I3 t u)) := NB t u (uW t h)
/-- Terms that are being gathered. -/
def OH : List Ty -> ac
 | [] => .dat nl
 | t :: r => .own (an (t :: r))
theorem MZ {l : List Ty} {d : aq} (h : d ∈ an l) : ∃ t, d = Ty.enc t := by
 rw [nM] at h
 obtain ⟨t, _, rfl⟩ := List.mem_map.1 h
 exact ⟨t, rfl⟩
theorem Dy (a b : List Ty) : an (a ++ b) = an a ++ an b := by simp [nM]
theorem I7 (t : Ty) : t.enc.cells.length = 4 := by cases t; rfl
theorem xD (l : List Ty) : sizedB 4 (an l) = true := jr (fun d hd => by obtain ⟨t, rfl⟩ := MZ hd; exact I7 t)
theorem FL (l : List Ty) : eW (an l) = false := by
 cases l with
 | nil => rfl
 | cons t r => cases t; rfl
theorem Qb {pre : List Ty} {t : Ty} (hl : pre.length < 1000000000) : bq (env ap.aK) false 30 [.own (an pre), .dat (.slice [t.enc])] none = some ⟨.own (an (pre ++ [t])), .keep⟩ := by
 rw [Dy]
 refine rK (i := Ug) (ds := [t.enc]) (k := 3) JT rfl vH ?_ ?_ (by kernel_rfl) ?_ ?_ ?_ (by simp)
 ·exact xD [t]
 ·exact xD pre
 ·have h1 : Ug.bytes <= 1000 := fN (by kernel_rfl)
  rw [aE]
  calc (pre.length + 1) * Ug.bytes <= 1000000000 * 1000 := Nat.mul_le_mul (by omega) h1
   _ <= 140737488355328 := by decide
 ·rw [aE]; simp [iV]; omega
 unfold io
 rw [show an pre ++ [t.enc] = an (pre ++ [t]) by rw [Dy]; rfl, FL]
theorem ee {α : Type} {l : List α} {i : Nat} {t : α} (h : l[i]? = some t) : l.take (i + 1) = l.take i ++ [t] := by rw [List.take_add_one, h]; rfl
/-- What stands for variable ix under u binders. -/
def instAt (ls : List Ty) (ix : Int) (u : Nat) : Option Ty := match ba ix (Int.ofNat u) with
 | true => none
 | false => ls[(ix - Int.ofNat u).toNat]?
mutual
def Ty.inst (ls : List Ty) : Ty -> Nat -> Ty
 | .mk k nm ix args, u => match bj k 5, instAt ls ix u with
  | true, some t => t
  | _, _ => .mk k nm ix (instL ls k 0 args u)
def instL (ls : List Ty) (k : Int) : Nat -> List Ty -> Nat -> List Ty
 | _, [], _ => []
 | i, t :: r, u => t.inst ls (u + cW k i) :: instL ls k (i + 1) r u
end
theorem vC {u j : Nat} (h : u + j < 9223372036854775808) : aG .i64 (Int.ofNat (u + j) - Int.ofNat u) = Int.ofNat j := by
 rw [dx]
 rw [show (Int.ofNat (u + j) - Int.ofNat u : Int) = Int.ofNat j by simp; omega]
 exact wrap_i64 (by simp <;> omega) (by simp <;> omega)
def RN : aq := .flat (.pointer none)
theorem inst1_lo {ls : List Ty} {ix : Int} {u : Nat} (h : ba ix (Int.ofNat u) = true) : ae 95 [iv ix, iv (Int.ofNat u), .ref [sl (an ls)]] (.tup [.dat RN, iv ix]) := by
 refine co [13] [] (x := .of Tryz.f95 Cz AR) ?_; refine ox h ?_; exact fi
theorem inst1_hi {ls : List Ty} {j : Nat} {u : Nat} (hb : u + j < 1000000000) (h : ¬ j < (an ls).length) : ae 95 [iv (Int.ofNat (u + j)), iv (Int.ofNat u), .ref [sl (an ls)]] (.tup [.dat RN, iv (Int.ofNat (u + j))]) := by
 have h1 := bO (i := u + j) (L := u) (by omega)
 have h2 := bO h
 have h4 : ba (aG .i64 (Int.ofNat (u + j) - Int.ofNat u)) (Int.ofNat (an ls).length) = false := by rw [vC (by omega)]; exact h2
 clear h
 refine co [13, 18] [] (x := .of Tryz.f95 Cz AR) ?_; refine ox h1 ?_
 rcases ls with _ | ⟨v0, v1⟩ <;>
 ·refine ob h4 ?_; exact fi
theorem inst1_in {ls : List Ty} {j : Nat} {u : Nat} {t : Ty} (hb : u + j < 1000000000) (h : ls[j]? = some t) : ae 95 [iv (Int.ofNat (u + j)), iv (Int.ofNat u), .ref [sl (an ls)]] (.tup [.ref t.cells, iv 0]) := by
 have h1 := bO (i := u + j) (L := u) (by omega)
 have hj : j < (an ls).length := by rw [aE]; exact (List.getElem?_eq_some_iff.1 h).1
 have h2 := bN hj
 have h4 : ba (aG .i64 (Int.ofNat (u + j) - Int.ofNat u)) (Int.ofNat (an ls).length) = true := by rw [vC (by omega)]; exact h2
 have h5 : aC (env ap.aK) 30 [.dat (.slice (an ls)), .dat (.flat (.int .i64 (aG .i64 (Int.ofNat (u + j) - Int.ofNat u))))] = some ⟨.ref t.cells, .keep⟩ := by rw [vC (by omega)]; exact jT h
 clear h hj
 refine co [13, 18] [22] (x := .of Tryz.f95 Cz AR) ?_; refine ox h1 ?_
 rcases ls with _ | ⟨v0, v1⟩ <;>
 ·refine ob h4 ?_; refine oo h5 ?_; exact fi
noncomputable def Q0 : Hints := ⟨au, CA, ax, rowsOf ax 94⟩
def nG (ls : List Ty) : ac := .fn (.func 95) [] [.ref [sl (an ls)]]
def L3 (k : Int) (nm : List UInt8) (ix : Int) (a : aq) (pre : List Ty) : Heap := [(.loc 7, .cells [iv k, .dat (sb nm), iv ix, OH pre]), (.loc 6, .cells [iv 0, .dat (sb []), iv 0, .dat nl]), (.loc 3, .cells [iv k, .dat (sb nm), iv ix, .dat a])]
def rZ (ls : List Ty) (u : Nat) (k : Int) (nm : List UInt8) (ix : Int) (a : aq) (n : Nat) (pre : List Ty) (i : Int) : ab := ⟨[(36, iv i), (35, iv (Int.ofNat n)), (34, .dat a), (7, .ptr (.loc 7) 0), (6, .ptr (.loc 6) 0), (3, .ptr (.loc 3) 0), (1, iv (Int.ofNat u)), (2, nG ls)], L3 k nm ix a pre, [], 0⟩
def Aj (ls : List Ty) (u : Nat) (k : Int) (nm : List UInt8) (ix : Int) (a : aq) (n : Nat) (pre : List Ty) (i : Int) : ab := ⟨[(37, bv false), (36, iv i), (35, iv (Int.ofNat n)), (34, .dat a), (7, .ptr (.loc 7) 0), (6, .ptr (.loc 6) 0), (3, .ptr (.loc 3) 0), (1, iv (Int.ofNat u)), (2, nG ls)], L3 k nm ix a pre, [], 0⟩
theorem Ep {ls : List Ty} {u : Nat} {k : Int} {nm : List UInt8} {ix : Int} {l pre : List Ty} {i : Nat} {t t2 : Ty} (hi : i < (an l).length) (ht : l[i]? = some t) (hc : ae 94 [.dat t.enc, iv (aG .i64 (Int.ofNat u + Int.ofNat (cW k i))), nG ls] (.dat t2.enc)) (hp : pre.length < 1000000000) {T : Exit -> aa -> Prop}
  (e : T .normal ((rZ ls u k nm ix (.slice (an l)) (an l).length (pre ++ [t2]) (aG .i64 (Int.ofNat i + 1))).aw Tryz.f94.ntmps)) :
  KD (roundOf Tryz.f94 0) T ((rZ ls u k nm ix (.slice (an l)) (an l).length pre (Int.ofNat i)).aw Tryz.f94.ntmps) := by
 have h1 := bN hi
 have h2 := jT ht
 have h3 := Qb (t := t2) hp
 have h4 := sW k nm ix (.slice (an l)) (.inr ⟨_, rfl⟩) i
 clear ht hi hp
 rcases pre with _ | ⟨d, r⟩ <;>
 ·refine az [37] [39, 52] (H := Q0) (live := xa) (by kernel_rfl) ?_; refine ob h1 ?_; refine oo h2 ?_
  obtain ⟨v0, v1, v2, v3⟩ := t
  rcases v3 with _ | ⟨v8, v9⟩
  ·refine on h4 ?_; refine on hc ?_
   obtain ⟨v4, v5, v6, v7⟩ := t2
   refine oo h3 ?_; exact oe e
  refine on h4 ?_; refine on hc ?_
  obtain ⟨v10, v11, v12, v13⟩ := t2
  refine oo h3 ?_; exact oe e
theorem Ii {ls : List Ty} {u : Nat} {k : Int} {nm : List UInt8} {ix : Int} {a : aq} {n : Nat} {pre : List Ty} {T : Exit -> aa -> Prop}
  (e : T (.exit 0) ((Aj ls u k nm ix a n pre (Int.ofNat n)).aw Tryz.f94.ntmps)) :
  KD (roundOf Tryz.f94 0) T ((rZ ls u k nm ix a n pre (Int.ofNat n)).aw Tryz.f94.ntmps) := by
 have h1 := bO (i := n) (L := n) (by omega)
 rcases pre with _ | ⟨d, r⟩ <;>
 ·refine az [37] [] (H := Q0) (live := xa) (by kernel_rfl) ?_; refine ob h1 ?_; exact oe e
mutual
def Ty.eI : Ty -> Prop
 | .mk k _ ix args => (bj k 5 = true -> ba ix 500000000 = true) /\ di args
def di : List Ty -> Prop
 | [] => True
 | t :: r => t.eI /\ di r
end
theorem instL_get {ls : List Ty} {k : Int} {u : Nat} : ∀ {l : List Ty} {i j : Nat} {t : Ty}, l[i]? = some t -> (instL ls k j l u)[i]? = some (t.inst ls (u + cW k (j + i)))
 | [], i, j, t, h => by simp at h
 | x :: r, 0, j, t, h => by simp at h; subst h; simp [instL]
 | x :: r, i + 1, j, t, h => by
  simp only [instL, List.getElem?_cons_succ] at h ⊢
  rw [instL_get h, show j + 1 + i = j + (i + 1) by omega]
theorem instL_length {ls : List Ty} {k : Int} {u : Nat} : ∀ {l : List Ty} {j : Nat}, (instL ls k j l u).length = l.length
 | [], _ => by simp [instL]
 | x :: r, _ => by simp [instL, instL_length]
theorem NL (k : Int) (i : Nat) : cW k i <= 1 := by unfold cW; split <;> omega
theorem Ih {ls : List Ty} {u : Nat} {k : Int} {nm : List UInt8} {ix : Int} {l : List Ty} {a : aq} (ha : a = sl (an l)) (hu : u < 1000000000000000) (hb : l.length < 1000000000)
  (ih : ∀ t ∈ l, ∀ v, v <= u + 1 -> ae 94 [.dat t.enc, iv (Int.ofNat v), nG ls] (.dat (t.inst ls v).enc)) :
  KD (.loop (roundOf Tryz.f94 0)) (fun e s => e = .exit 0 /\ s = (Aj ls u k nm ix a (an l).length (instL ls k 0 l u) (Int.ofNat (an l).length)).aw Tryz.f94.ntmps)
   ((rZ ls u k nm ix a (an l).length [] (Int.ofNat 0)).aw Tryz.f94.ntmps) := by
 refine bG (St := fun i => (rZ ls u k nm ix a (an l).length ((instL ls k 0 l u).take i) (Int.ofNat i)).aw Tryz.f94.ntmps) (an l).length ?_ ?_ (i := 0) (Nat.zero_le _)
 ·intro i hi
  obtain ⟨t, ht, hm⟩ := get_mem hi
  have hbn := NL k i
  have hg := instL_get (ls := ls) (k := k) (u := u) (j := 0) ht
  rw [Nat.zero_add] at hg
  have ha2 : a = .slice (an l) := by
   rw [ha]
   cases l with
   | nil => simp at ht
   | cons x r => rfl
  subst ha2
  refine Ep (t2 := t.inst ls (u + cW k i)) hi ht ?_ (by rw [List.length_take, instL_length]; omega) ?_
  ·rw [wrap_add (by omega)]; exact ih t hm _ (by omega)
  rw [aE] at hi
  rw [bi (by omega), ← ee hg]
  rfl
 refine Ii ⟨rfl, ?_⟩
 rw [aE, show l.length = (instL ls k 0 l u).length by rw [instL_length], List.take_length]
theorem si {ls : List Ty} {u : Nat} {k : Int} {nm : List UInt8} {ix : Int} {l : List Ty} {ck : Bool} (hk : bj k 5 = ck) (hc : ck = true -> ae 95 [iv ix, iv (Int.ofNat u), .ref [sl (an ls)]] (.tup [.dat RN, iv ix])) {r : List Ty}
  (hl : KD (.loop (roundOf Tryz.f94 0)) (fun e s => e = .exit 0 /\ s = (Aj ls u k nm ix (sl (an l)) (an l).length r (Int.ofNat (an l).length)).aw Tryz.f94.ntmps)
   ((rZ ls u k nm ix (sl (an l)) (an l).length [] (Int.ofNat 0)).aw Tryz.f94.ntmps)) :
  ae 94 [.dat (Ty.mk k nm ix l).enc, iv (Int.ofNat u), nG ls] (.dat (Ty.mk k nm ix r).enc) := by
 refine co [16] [] (x := .of Tryz.f94 CA xa) ?_
 rcases l with _ | ⟨v4, v5⟩
 ·refine ob hk ?_
  cases ck
  ·refine lo hl ?_; rintro ex s ⟨rfl, rfl⟩; refine ⟨_, rfl, ?_⟩
   rcases r with _ | ⟨v2, v3⟩ <;>
   ·exact fi
  refine on (hc rfl) ?_; refine lo hl ?_; rintro ex s ⟨rfl, rfl⟩; refine ⟨_, rfl, ?_⟩
  rcases r with _ | ⟨v0, v1⟩ <;>
  ·exact fi
 refine ob hk ?_
 cases ck
 ·refine lo hl ?_; rintro ex s ⟨rfl, rfl⟩; refine ⟨_, rfl, ?_⟩
  rcases r with _ | ⟨v8, v9⟩ <;>
  ·exact fi
 refine on (hc rfl) ?_; refine lo hl ?_; rintro ex s ⟨rfl, rfl⟩; refine ⟨_, rfl, ?_⟩
 rcases r with _ | ⟨v6, v7⟩ <;>
 ·exact fi
theorem Ig {ls : List Ty} {u : Nat} {k : Int} {nm : List UInt8} {ix : Int} {l : List Ty} {t : Ty} (hk : bj k 5 = true) (hc : ae 95 [iv ix, iv (Int.ofNat u), .ref [sl (an ls)]] (.tup [.ref t.cells, iv 0])) (hcl : ae 125 [.dat t.enc] (.dat t.enc)) :
  ae 94 [.dat (Ty.mk k nm ix l).enc, iv (Int.ofNat u), nG ls] (.dat t.enc) := by
 refine co [16] [] (x := .of Tryz.f94 CA xa) ?_
 rcases l with _ | ⟨v6, v7⟩
 ·refine ob hk ?_; refine on hc ?_
  obtain ⟨v0, v1, v2, v3⟩ := t
  refine on hcl ?_
  rcases v3 with _ | ⟨v4, v5⟩ <;>
  ·exact fi
 refine ob hk ?_; refine on hc ?_
 obtain ⟨v8, v9, v10, v11⟩ := t
 refine on hcl ?_
 rcases v11 with _ | ⟨v12, v13⟩ <;>
 ·exact fi
theorem instAt_lo {ls : List Ty} {ix : Int} {u : Nat} (h : ba ix (Int.ofNat u) = true) : instAt ls ix u = none := by unfold instAt; rw [h]
theorem instAt_at {ls : List Ty} {u j : Nat} : instAt ls (Int.ofNat (u + j)) u = ls[j]? := by
 unfold instAt
 rw [bO (by omega)]
 show ls[(Int.ofNat (u + j) - Int.ofNat u).toNat]? = _
 rw [show (Int.ofNat (u + j) - Int.ofNat u : Int) = Int.ofNat j by simp; omega]
 rfl
theorem inst_none {ls : List Ty} {k : Int} {nm : List UInt8} {ix : Int} {l : List Ty} {u : Nat} (h : bj k 5 = false ∨ instAt ls ix u = none) : (Ty.mk k nm ix l).inst ls u = .mk k nm ix (instL ls k 0 l u) := by
 rw [Ty.inst]
 rcases h with h | h
 ·rw [h]
 rw [h]; cases bj k 5 <;> rfl
theorem inst_some {ls : List Ty} {k : Int} {nm : List UInt8} {ix : Int} {l : List Ty} {u : Nat} {t : Ty} (hk : bj k 5 = true) (h : instAt ls ix u = some t) : (Ty.mk k nm ix l).inst ls u = t := by
 rw [Ty.inst, hk, h]
theorem IB {ix : Int} {u : Nat} (h : ba ix (Int.ofNat u) = false) (h2 : ba ix 500000000 = true) : ∃ j : Nat, ix = Int.ofNat (u + j) /\ u + j < 500000000 := by
 rw [gd] at h h2
 simp only [decide_eq_false_iff_not, decide_eq_true_eq] at h h2
 refine ⟨(ix - u).toNat, ?_, ?_⟩
 ·simp only [Int.ofNat_eq_natCast] at h ⊢; omega
 simp only [Int.ofNat_eq_natCast] at h; omega
mutual
theorem zS {ls : List Ty} (hls : ∀ t ∈ ls, ae 125 [.dat t.enc] (.dat t.enc)) : ∀ (t : Ty) (u : Nat), t.thin -> t.eI -> u + t.depth < 1000000000000000 -> ae 94 [.dat t.enc, iv (Int.ofNat u), nG ls] (.dat (t.inst ls u).enc)
 | .mk k nm ix l, u, hs, hx, hd => by
  simp only [Ty.thin] at hs
  simp only [Ty.depth] at hd
  simp only [Ty.eI] at hx
  have ih := xO hls l u hs.2 hx.2 (by omega)
  have hl := Ih (ls := ls) (u := u) (k := k) (nm := nm) (ix := ix) (l := l) (a := sl (an l)) rfl (by omega) hs.1 ih
  cases hk : bj k 5 with
  | false =>
   rw [inst_none (.inl hk)]
   exact si hk (fun h => by simp at h) hl
  | true =>
   cases hlo : ba ix (Int.ofNat u) with
   | true =>
    rw [inst_none (.inr (instAt_lo hlo))]
    exact si hk (fun _ => inst1_lo hlo) hl
   | false =>
    obtain ⟨j, rfl, hj⟩ := IB hlo (hx.1 hk)
    by_cases hin : j < ls.length
    ·have hg : ls[j]? = some ls[j] := List.getElem?_eq_getElem hin
     rw [inst_some hk (instAt_at.trans hg)]
     exact Ig hk (inst1_in (by omega) hg) (hls _ (List.getElem_mem hin))
    rw [inst_none (.inr (instAt_at.trans (List.getElem?_eq_none (by omega))))]
    exact si hk (fun _ => inst1_hi (by omega) (by rw [aE]; exact hin)) hl
theorem xO {ls : List Ty} (hls : ∀ t ∈ ls, ae 125 [.dat t.enc] (.dat t.enc)) : ∀ (l : List Ty) (u : Nat), mR l -> di l -> u + cB l + 1 < 1000000000000000 -> ∀ t ∈ l, ∀ v, v <= u + 1 -> ae 94 [.dat t.enc, iv (Int.ofNat v), nG ls] (.dat (t.inst ls v).enc)
 | [], _, _, _, _, t, ht, _, _ => by simp at ht
 | x :: r, u, hs, hx, hd, t, ht, v, hv => by
  simp only [mR] at hs
  simp only [cB] at hd
  simp only [di] at hx
  rcases List.mem_cons.1 ht with h1 | ht
  ·rw [h1]; exact zS hls x v hs.1 hx.1 (by omega)
  exact xO hls r u hs.2 hx.2 (by omega) t ht v hv
end
theorem Tz {t : Ty} {ls : List Ty} (hls : ∀ t ∈ ls, ae 125 [.dat t.enc] (.dat t.enc)) (hs : t.thin) (hx : t.eI) (hd : t.depth < 1000000000000000) : ae 60 [.dat t.enc, .dat (sl (an ls))] (.dat (t.inst ls 0).enc) := by
 have h := zS hls t 0 hs hx (by omega)
 generalize t.inst ls 0 = r at h
 clear hls hs hx hd
 refine co [] [] (x := .of Tryz.f60 Li Mg) ?_
 obtain ⟨v0, v1, v2, v3⟩ := t
 rcases v3 with _ | ⟨v18, v19⟩
 ·rcases ls with _ | ⟨v10, v11⟩
  ·refine on h ?_
   obtain ⟨v4, v5, v6, v7⟩ := r
   rcases v7 with _ | ⟨v8, v9⟩ <;>
   ·exact fi
  refine on h ?_
  obtain ⟨v12, v13, v14, v15⟩ := r
  rcases v15 with _ | ⟨v16, v17⟩ <;>
  ·exact fi
 rcases ls with _ | ⟨v26, v27⟩
 ·refine on h ?_
  obtain ⟨v20, v21, v22, v23⟩ := r
  rcases v23 with _ | ⟨v24, v25⟩ <;>
  ·exact fi
 refine on h ?_
 obtain ⟨v28, v29, v30, v31⟩ := r
 rcases v31 with _ | ⟨v32, v33⟩ <;>
 ·exact fi
mutual
theorem inst_nil : ∀ (t : Ty) (u : Nat), t.inst [] u = t
 | .mk k nm ix l, u => by
  have h : instAt [] ix u = none := by unfold instAt; split <;> simp
  rw [inst_none (.inr h), instL_nil l]
theorem instL_nil : ∀ (l : List Ty) {k : Int} {i u : Nat}, instL [] k i l u = l
 | [], _, _, _ => by rw [instL]
 | t :: r, k, i, u => by rw [instL, inst_nil t, instL_nil r]
end
theorem By {t : Ty} (hs : t.thin) (hx : t.eI) (hd : t.depth < 1000000000000000) : ae 58 [.dat t.enc] (.dat t.enc) := by
 have h := Tz (t := t) (ls := []) (fun t ht => by simp at ht) hs hx hd
 rw [inst_nil] at h
 clear hs hx hd
 refine co [] [] (x := .of Tryz.f58 Lj Mh) ?_
 obtain ⟨v0, v1, v2, v3⟩ := t
 rcases v3 with _ | ⟨v4, v5⟩ <;>
 ·refine on h ?_; exact fi
theorem DQ {t : Ty} (hs : t.size < 1000000000) (hx : t.eI) (hd : t.depth < 500000000) : ae 58 [.dat t.enc] (.dat t.enc) := By (uW t hs) hx (by omega)
structure dZ where
 nm : List UInt8
 ty : Ty
structure bc where
 nm : List UInt8
 ar : Int
 sup : Ty
 con : Bool
 fl : List dZ
def bl (b : Bool) : aq := .flat (.bool b)
def dZ.cells (f : dZ) : List aq := sb f.nm :: f.ty.cells
def dZ.enc (f : dZ) : aq := .agg f.cells
def aH : List dZ -> List aq
 | [] => []
 | f :: r => f.enc :: aH r
def bc.cells (d : bc) : List aq := sb d.nm :: i64 d.ar :: (d.sup.cells ++ [bl d.con, sl (aH d.fl)])
def bc.enc (d : bc) : aq := .agg d.cells
def bc.zero : bc := ⟨[], 0, .mk 0 [] 0 [], false, []⟩
def av (l : List aq) : List ac := l.map .dat
def bm : List bc -> List aq
 | [] => []
 | d :: r => d.cells ++ bm r
def W7 (d : bc) (i : Nat) : Go.Value × aq := (.string ⟨⟨d.nm⟩⟩, i64 (Int.ofNat i))
def bu : List bc -> Nat -> List (Go.Value × aq)
 | [], _ => []
 | d :: r, i => W7 d i :: bu r (i + 1)
def hP : ac := .ptr (.out 1) 0
/-- A hierarchy: the row, the object, the index. -/
def hG (r : Nat) (cs : List ac) (es : List (Go.Value × aq)) (n : Nat) : Heap := [(.out r, .cells cs), (.out 1, .cells [.win (.out r) 8 0 n, .map (.out 0)]), (.out 0, .map es)]
theorem iz (k : Nat) : ∀ cs : List aq, dR k (av cs) = false
 | [] => rfl
 | d :: r => by show (dG k (.dat d) || dR k (av r)) = false; rw [iz k r]; rfl
theorem iT (ρ : Nat -> Nat) : ∀ cs : List aq, gv ρ (av cs) = av cs
 | [] => rfl
 | d :: r => by show eX ρ (.dat d) :: gv ρ (av r) = _; rw [iT ρ r]; rfl
theorem WC {v : ac} {r m n : Nat} {cs : List aq} {es : List (Go.Value × aq)} (hv : dG m v = false) (hr : Nat.blt r m = true) (hm : Nat.blt 1 m = true) : rW m ⟨v, hG r (av cs) es n, m⟩ = ⟨v, hG r (av cs) es n, m⟩ := by
 have h0 : Nat.blt 0 m = true := by simp [Nat.blt_eq] at *; omega
 have hr2 : Nat.ble m r = false := by rw [Nat.blt_eq] at hr; rw [Bool.eq_false_iff, ne_eq, Nat.ble_eq]; omega
 have hr3 : Nat.ble m 0 = false := by rw [Nat.blt_eq] at h0; rw [Bool.eq_false_iff, ne_eq, Nat.ble_eq]; omega
 have h1 : eG m (hG r (av cs) es n) = hG r (av cs) es n := by simp [eG, hG, jf, h0, hr, hm]
 have h2 : cO m (hG r (av cs) es n) = false := by simp [cO, hG, nj, iz, dR, dG, hr2, hr3]
 unfold rW
 dsimp only
 rw [h1, h2, hv]
 rfl
def eT (nm : List UInt8) (ar k : Int) (nm2 : List UInt8) (ix : Int) (la : List aq) (con : Bool) (lb : List aq) : aq := .agg [sb nm, i64 ar, i64 k, sb nm2, i64 ix, sl la, bl con, sl lb]
theorem MO {cs : List aq} {es : List (Go.Value × aq)} {n i : Nat} {nm nm1 nm2 : List UInt8} {ar k ix : Int} {con : Bool} {la lb : List aq}
  (h1 : fH (env ap.aK) 80 true [.map (.out 0), .dat (sb nm)] (some (.map es)) = some ⟨.tup [.dat (i64 (Int.ofNat i)), bv true], .keep⟩)
  (h2 : aC (env ap.aK) 23 [.win (.out 2) 8 0 n, iv (Int.ofNat i)] = some ⟨.ptr (.out 2) (0 + i * 8), .keep⟩)
  (h3 : dD (env ap.aK) false 35 [.ptr (.out 2) (0 + i * 8)] (some (.cells (av cs))) = some ⟨.dat (eT nm1 ar k nm2 ix la con lb), .keep⟩)
  : KC 49 [hP, .dat (sb nm)] (hG 2 (av cs) es n) 3 (XQ ⟨.tup [.dat (eT nm1 ar k nm2 ix la con lb), bv true], hG 2 (av cs) es n, 3⟩) := by
 have hg := WC (v := .tup [.dat (eT nm1 ar k nm2 ix la con lb), bv true]) (r := 2) (m := 3) (n := n) (cs := cs) (es := es) rfl rfl rfl
 rcases la with _ | ⟨x, la⟩ <;>
 ·rcases lb with _ | ⟨y, lb⟩ <;>
  ·refine co [] [14, 25, 26] (x := .of Tryz.f49 GO E8) ?_; refine oo h1 ?_; refine oo h2 ?_; refine oo h3 ?_
   exact cj (by kernel_rfl) hg
theorem PG {cs : List aq} {es : List (Go.Value × aq)} {n : Nat} {nm : List UInt8} 
  (h1 : fH (env ap.aK) 80 true [.map (.out 0), .dat (sb nm)] (some (.map es)) = some ⟨.tup [.dat (i64 0), bv false], .keep⟩)
  : KC 49 [hP, .dat (sb nm)] (hG 2 (av cs) es n) 3 (XQ ⟨.tup [.dat bc.zero.enc, bv false], hG 2 (av cs) es n, 3⟩) := by
 have hg := WC (v := .tup [.dat bc.zero.enc, bv false]) (r := 2) (m := 3) (n := n) (cs := cs) (es := es) rfl rfl rfl
 refine co [] [14] (x := .of Tryz.f49 GO E8) ?_; refine oo h1 ?_
 exact cj (by kernel_rfl) hg
def jS : List bc -> List UInt8 -> Option Nat
 | [], _ => none
 | d :: r, nm => match fY nm d.nm with | true => some 0 | false => (jS r nm).map (· + 1)
def aW : List bc -> List UInt8 -> Option bc
 | [], _ => none
 | d :: r, nm => match fY nm d.nm with | true => some d | false => aW r nm
theorem wL : ∀ {ds : List bc} {nm : List UInt8} {k : Nat}, jS ds nm = some k -> ∃ d, ds[k]? = some d /\ aW ds nm = some d /\ fY nm d.nm = true
 | [], nm, k, h => by simp [jS] at h
 | d :: r, nm, k, h => by
  unfold jS at h
  unfold aW
  cases he : fY nm d.nm with
  | true => rw [he] at h; simp at h; subst h; exact ⟨d, rfl, rfl, he⟩
  | false =>
   rw [he] at h
   simp only [Option.map_eq_some_iff] at h
   obtain ⟨j, hj, rfl⟩ := h
   exact wL hj
theorem zk : ∀ {ds : List bc} {nm : List UInt8}, jS ds nm = none -> aW ds nm = none
 | [], nm, h => rfl
 | d :: r, nm, h => by
  unfold jS at h
  unfold aW
  cases he : fY nm d.nm with
  | true => rw [he] at h; simp at h
  | false =>
   rw [he] at h
   simp only [Option.map_eq_none_iff] at h
   exact zk h
theorem lu : ∀ (ds : List bc) (nm : List UInt8) (i j : Nat), findF .string (.string ⟨⟨nm⟩⟩) (bu ds i) j = some ((jS ds nm).map fun k => (j + k, i64 (Int.ofNat (i + k))))
 | [], nm, i, j => rfl
 | d :: r, nm, i, j => by
  show (match wh .string (.string ⟨⟨nm⟩⟩) (.string ⟨⟨d.nm⟩⟩) with | some true => some (some (j, i64 (Int.ofNat i))) | some false => findF .string (.string ⟨⟨nm⟩⟩) (bu r (i + 1)) (j + 1) | none => none) = _
  rw [show wh .string (.string ⟨⟨nm⟩⟩) (.string ⟨⟨d.nm⟩⟩) = some (fY nm d.nm) from rfl]
  unfold jS
  cases he : fY nm d.nm with
  | true => rfl
  | false =>
   dsimp only
   rw [lu r nm (i + 1) (j + 1)]
   cases jS r nm with
   | none => rfl
   | some k => simp only [Option.map_some]; rw [show j + 1 + k = j + (k + 1) by omega, show i + 1 + k = i + (k + 1) by omega]
theorem ID {ds : List bc} {nm : List UInt8} {k : Nat} (h : jS ds nm = some k) : fH (env ap.aK) 80 true [.map (.out 0), .dat (sb nm)] (some (.map (bu ds 0))) = some ⟨.tup [.dat (i64 (Int.ofNat k)), bv true], .keep⟩ := by
 have h1 : fH (env ap.aK) 80 true [.map (.out 0), .dat (sb nm)] (some (.map (bu ds 0))) = (match findF .string (.string ⟨⟨nm⟩⟩) (bu ds 0) 0 with
  | some (some (_, d)) => some (found true d true) | some none => some ⟨.tup [.dat (i64 0), bv false], .keep⟩ | none => none) := by kernel_rfl
 rw [h1, lu, h]
 simp only [Option.map_some, Nat.zero_add]
 rfl
theorem IF {ds : List bc} {nm : List UInt8} (h : jS ds nm = none) : fH (env ap.aK) 80 true [.map (.out 0), .dat (sb nm)] (some (.map (bu ds 0))) = some ⟨.tup [.dat (i64 0), bv false], .keep⟩ := by
 have h1 : fH (env ap.aK) 80 true [.map (.out 0), .dat (sb nm)] (some (.map (bu ds 0))) = (match findF .string (.string ⟨⟨nm⟩⟩) (bu ds 0) 0 with
  | some (some (_, d)) => some (found true d true) | some none => some ⟨.tup [.dat (i64 0), bv false], .keep⟩ | none => none) := by kernel_rfl
 rw [h1, lu, h]
 rfl
theorem mb {r n k : Nat} (h : k < n) : aC (env ap.aK) 23 [.win (.out r) 8 0 n, iv (Int.ofNat k)] = some ⟨.ptr (.out r) (0 + k * 8), .keep⟩ := by
 have h1 : aC (env ap.aK) 23 [.win (.out r) 8 0 n, iv (Int.ofNat k)] = (if (Nat.blt k n && Nat.beq 8 8) = true then some ⟨.ptr (.out r) (0 + k * 8), .keep⟩ else none) := by kernel_rfl
 rw [h1, if_pos]
 simp [Nat.blt_eq, h]
theorem iG : ∀ ds : List bc, (bm ds).length = ds.length * 8
 | [] => rfl
 | d :: r => by
  have : d.cells.length = 8 := by obtain ⟨a, b, ⟨e, f, g, h⟩, i, j⟩ := d; rfl
  simp only [bm, List.length_append, this, iG r, List.length_cons]
  omega
theorem yZ : ∀ {ds : List bc} {k : Nat} {d : bc} {tl : List aq}, ds[k]? = some d -> ((bm ds ++ tl).drop (0 + k * 8)).take 8 = d.cells
 | [], k, d, tl, h => by simp at h
 | x :: r, k, d, tl, h => by
  have h8 : x.cells.length = 8 := by obtain ⟨a, b, ⟨e, f, g, h⟩, i, j⟩ := x; rfl
  cases k with
  | zero =>
   simp at h; subst h
   simp only [bm, Nat.zero_mul, Nat.add_zero, List.drop_zero, List.append_assoc]
   rw [List.take_append_of_le_length (by omega), List.take_of_length_le (by omega)]
  | succ k =>
   simp at h
   have := yZ (tl := tl) h
   rw [← this]
   simp only [bm, List.append_assoc]
   rw [show 0 + (k + 1) * 8 = x.cells.length + (0 + k * 8) by omega, List.drop_length_add_append]
theorem BR (n : Nat) : ∀ l : List aq, ew n (av l) = av (l.take n) := by
 intro l; induction l generalizing n with
 | nil => cases n <;> rfl
 | cons x r ih => cases n with | zero => rfl | succ n => show ac.dat x :: ew n (av r) = _; rw [ih]; rfl
theorem M9 (n : Nat) : ∀ l : List aq, fT n (av l) = av (l.drop n) := by
 intro l; induction l generalizing n with
 | nil => cases n <;> rfl
 | cons x r ih => cases n with | zero => rfl | succ n => show fT n (av r) = _; rw [ih]; rfl
theorem nt {ds : List bc} {k r : Nat} {d : bc} {tl : List aq} (h : ds[k]? = some d) : dD (env ap.aK) false 35 [.ptr (.out r) (0 + k * 8)] (some (.cells (av (bm ds ++ tl)))) = some ⟨.dat d.enc, .keep⟩ := by
 have h1 : ∀ cs, dD (env ap.aK) false 35 [.ptr (.out r) (0 + k * 8)] (some (.cells cs)) = tS (if (ew 8 (fT (0 + k * 8) cs)).length = 8 then some (ja (bg (ew 8 (fT (0 + k * 8) cs)))) else none) := fun cs => by kernel_rfl
 rw [h1, M9, BR, yZ h]
 obtain ⟨a, b, ⟨e, f, g, i⟩, j, l⟩ := d
 rcases i with _ | ⟨x, i⟩ <;> rcases l with _ | ⟨y, l⟩ <;> rfl
def oS (o : Option bc) : bc := match o with | some d => d | none => bc.zero
def km {α : Type} (o : Option α) : Bool := match o with | some _ => true | none => false
def hH (r : Nat) (ds : List bc) (tl : List aq) : Heap := hG r (av (bm ds ++ tl)) (bu ds 0) ds.length
theorem Bx (ds : List bc) (tl : List aq) (nm : List UInt8) : KC 49 [hP, .dat (sb nm)] (hH 2 ds tl) 3 (XQ ⟨.tup [.dat (oS (aW ds nm)).enc, bv (km (aW ds nm))], hH 2 ds tl, 3⟩) := by
 cases h : jS ds nm with
 | none =>
  rw [zk h]
  exact PG (IF h)
 | some k =>
  obtain ⟨d, hd, hf, _⟩ := wL h
  rw [hf]
  have hk : k < ds.length := by
   rcases Nat.lt_or_ge k ds.length with h | h
   ·exact h
   rw [List.getElem?_eq_none h] at hd; simp at hd
  have h3 := nt (r := 2) (tl := tl) hd
  obtain ⟨a, b, ⟨e, f, g, i⟩, j, l⟩ := d
  exact MO (ID h) (mb hk) h3
theorem ay.hU {g : FuncId} {args : List ac} {heap : Heap} {next : Nat} {Q Q' : ac -> Heap -> Nat -> Prop} (h : KC g args heap next Q) (hq : ∀ v h m, Q v h m -> ∃ h2, h.Perm h2 /\ Q' v h2 m) : KC g args heap next Q' := by
 intro w R N cargs bsA bsH bsF ha hh hnd hnx hg hF
 refine (h w R N cargs bsA bsH bsF ha hh hnd hnx hg hF).mono ?_
 rintro e w' ⟨v, cv, h1, next', R', N', bsV, bsH', rfl, hq1, hv, hh', hnd', hnx', hk, hN⟩
 obtain ⟨h2, hp, hq2⟩ := hq _ _ _ hq1
 obtain ⟨bs2, k1, k2⟩ := hh'.perm hp
 refine ⟨v, cv, h2, next', R', N', bsV, bs2, rfl, hq2, hv, k1, ?_, hnx', hk, hN⟩
 exact (List.Perm.nodup_iff (List.Perm.append_left _ (List.Perm.append_right _ k2))).1 hnd'
def Qo (r o : Nat) : Nat := match Nat.beq o 2 with | true => r | false => o
abbrev gV (g : FuncId) (args : List ac) (cs : List aq) (es : List (Go.Value × aq)) (n : Nat) (v : ac) : Prop := KC g args (hG 2 (av cs) es n) 3 (XQ ⟨v, hG 2 (av cs) es n, 3⟩)
/-- What only reads serves under another name of the row, beside other objects. -/
theorem qx {g : FuncId} {args : List ac} {v : ac} {cs : List aq} {es : List (Go.Value × aq)} {n r m : Nat} (ha : dR 3 args = false) (he : gv (Qo r) args = args) (hv : eX (ln (Qo r) 3 m) v = v) (pre : Heap) (h : gV g args cs es n v) :
  KC g args (pre ++ hG r (av cs) es n) m (XQ ⟨v, pre ++ hG r (av cs) es n, m⟩) := by
 have e1 : ∀ ρ : Nat -> Nat, ρ 0 = 0 -> ρ 1 = 1 -> ρ 2 = r -> lF ρ (hG 2 (av cs) es n) = hG r (av cs) es n := by
  intro ρ h0 h1 h2
  simp [hG, lF, oX, uZ, iT, gv, eX, h0, h1, h2]
 have hf := ay.frame h (Qo r) (heap := pre ++ hG r (av cs) es n) (rest := pre) (next := m) (by rw [e1 _ rfl rfl rfl]; exact List.perm_append_comm) (by rfl) (by simp [cO, hG, nj, iz, dR, dG]; exact ⟨rfl, rfl⟩) (by rfl) ha
 rw [he] at hf
 refine ay.hU hf ?_
 rintro v' h' m' ⟨v0, h1, n1, ⟨rfl, rfl, rfl⟩, rfl, rfl, rfl⟩
 rw [hv, e1 _ rfl rfl rfl]
 exact ⟨_, List.perm_append_comm, rfl, rfl, rfl⟩
theorem Tv (r m : Nat) (pre : Heap) (ds : List bc) (tl : List aq) (nm : List UInt8) : KC 49 [hP, .dat (sb nm)] (pre ++ hH r ds tl) m (XQ ⟨.tup [.dat (oS (aW ds nm)).enc, bv (km (aW ds nm))], pre ++ hH r ds tl, m⟩) :=
 qx rfl rfl rfl pre (Bx ds tl nm)
theorem WD (v : ac) (cs : List aq) (es : List (Go.Value × aq)) (n : Nat) (hv : dG 3 v = false) : rW 3 ⟨v, hG 2 (av cs) es n, 3⟩ = ⟨v, hG 2 (av cs) es n, 3⟩ := WC hv rfl rfl
theorem Bl {cs : List aq} {es : List (Go.Value × aq)} {n : Nat} {nm : List UInt8} {k ix : Int} {l : List aq} {nm1 nm2 : List UInt8} {ar k1 ix1 : Int} {con c : Bool} {la lb : List aq}
  (hf : gV 49 [hP, .dat (sb nm)] cs es n (.tup [.dat (eT nm1 ar k1 nm2 ix1 la con lb), bv true])) (hc : bj ar (Int.ofNat l.length) = c) :
  gV 59 [hP, .dat (.agg [i64 k, sb nm, i64 ix, sl l])] cs es n (bv c) := by
 have hg := fun b => WD (bv b) cs es n rfl
 have hg1 := hg true
 have hg2 := hg false
 rcases l with _ | ⟨z, l⟩ <;>
 ·rcases la with _ | ⟨x, la⟩ <;>
  ·rcases lb with _ | ⟨y, lb⟩ <;>
   ·refine co [21] [] (x := .of Tryz.f59 GK E5) ?_; refine oh hf ?_; refine ob hc ?_
    cases c
    ·exact cj (by kernel_rfl) hg2
    exact cj (by kernel_rfl) hg1
theorem DE {cs : List aq} {es : List (Go.Value × aq)} {n : Nat} {nm : List UInt8} {k ix : Int} {l : List aq}
  (hf : gV 49 [hP, .dat (sb nm)] cs es n (.tup [.dat bc.zero.enc, bv false])) :
  gV 59 [hP, .dat (.agg [i64 k, sb nm, i64 ix, sl l])] cs es n (bv false) := by
 have hg := WD (bv false) cs es n rfl
 rcases l with _ | ⟨z, l⟩ <;>
 ·refine co [] [] (x := .of Tryz.f59 GK E5) ?_; refine oh hf ?_
  exact cj (by kernel_rfl) hg
/-! ### A search below a closure that reads the hierarchy -/
def box : Name × aN := (.out 3, .cells [hP])
def hB (cs : List aq) (es : List (Go.Value × aq)) (n : Nat) : Heap := box :: hG 2 (av cs) es n
def bP : ac := .ptr (.out 3) 0
theorem W1 (v : ac) (cs : List aq) (es : List (Go.Value × aq)) (n : Nat) (hv : dG 4 v = false) : rW 4 ⟨v, hB cs es n, 4⟩ = ⟨v, hB cs es n, 4⟩ := by
 have h1 : eG 4 (hB cs es n) = hB cs es n := rfl
 have h2 : cO 4 (hB cs es n) = false := by simp [cO, hB, hG, nj, iz, dR, dG, box, hP]; exact ⟨rfl, rfl, rfl⟩
 unfold rW
 dsimp only
 rw [h1, h2, hv]
 rfl
theorem W6 (v : ac) (cs : List aq) (es : List (Go.Value × aq)) (n : Nat) (hv : dG 3 v = false) : rW 3 ⟨v, hB cs es n, 4⟩ = ⟨v, hG 2 (av cs) es n, 3⟩ := by
 have h1 : eG 3 (hB cs es n) = hG 2 (av cs) es n := rfl
 have h2 : cO 3 (hG 2 (av cs) es n) = false := by simp [cO, hG, nj, iz, dR, dG]; exact ⟨rfl, rfl⟩
 unfold rW
 dsimp only
 rw [h1, h2, hv]
 rfl
abbrev BH (g : FuncId) (args : List ac) (cs : List aq) (es : List (Go.Value × aq)) (n : Nat) (v : ac) : Prop := KC g args (hB cs es n) 4 (XQ ⟨v, hB cs es n, 4⟩)
theorem IJ {cs : List aq} {es : List (Go.Value × aq)} {n : Nat} {k ix : Int} {nm : List UInt8} {l : List aq} {c : Bool} (h : BH 39 [hP, .dat (.agg [i64 k, sb nm, i64 ix, sl l])] cs es n (bv c)) :
  BH 70 [.dat (.agg [i64 k, sb nm, i64 ix, sl l]), bP] cs es n (bv (!c)) := by
 have hg := W1 (bv (!c)) cs es n rfl
 rcases l with _ | ⟨z, l⟩ <;>
 ·refine co [] [] (x := .of Tryz.f70 Lg Me) ?_; refine oh h ?_
  exact cj (by kernel_rfl) hg
theorem dv {α : Type} {l : List α} {i : Nat} {t : α} (h : l[i]? = some t) : l.drop i = t :: l.drop (i + 1) := by
 obtain ⟨hi, rfl⟩ := List.getElem?_eq_some_iff.1 h
 exact List.drop_eq_getElem_cons hi
def rV {α : Type} (p : α -> Bool) : List α -> Nat -> Int
 | [], _ => -1
 | x :: r, i => match p x with | true => Int.ofNat i | false => rV p r (i + 1)
theorem A0 {α : Type} {p : α -> Bool} : ∀ {l : List α} {i : Nat}, ba (rV p l i) 0 = !(l.any p)
 | [], _ => rfl
 | x :: r, i => by
  simp only [rV, List.any_cons]
  cases p x with
  | true => exact bO (i := i) (L := 0) (by omega)
  | false => rw [A0, Bool.false_or]
theorem xi {α : Type} {p : α -> Bool} {l : List α} {i : Nat} {t : α} (h : l[i]? = some t) : rV p (l.drop i) i = match p t with | true => Int.ofNat i | false => rV p (l.drop (i + 1)) (i + 1) := by rw [dv h]; rfl
noncomputable def Pt : Hints := ⟨au, tN, ax, rowsOf ax 99⟩
def PD : ac := .fn (.func 70) [] [bP]
def Uu (H : Heap) (nx : Nat) (l : List aq) (i : Int) : ab := ⟨[(8, iv i), (7, iv (Int.ofNat l.length)), (0, .dat (.slice l)), (1, PD)], [], H, nx⟩
def Us (H : Heap) (nx : Nat) (l : List aq) : ab := ⟨[(9, bv false), (8, iv (Int.ofNat l.length)), (7, iv (Int.ofNat l.length)), (0, .dat (.slice l)), (1, PD)], [], H, nx⟩
def Ut (H : Heap) (nx : Nat) (i : Nat) : ab := ⟨[(4, iv (Int.ofNat i))], [], H, nx⟩
def Rq (H : Heap) (nx : Nat) : ab := ⟨[(8, iv 0), (7, iv 0), (0, .dat nl), (1, PD)], [], H, nx⟩
def Qu (H : Heap) (nx : Nat) : ab := ⟨[(9, bv false), (8, iv 0), (7, iv 0), (0, .dat nl), (1, PD)], [], H, nx⟩
theorem C5 {l : List Ty} {t : Ty} {H : Heap} {nx i : Nat} {c : Bool} {T : Exit -> aa -> Prop} (hi : i < (an l).length) (ht : l[i]? = some t) (hc : KC 70 [.dat t.enc, bP] H nx (XQ ⟨bv c, H, nx⟩))
  (e1 : c = false -> T .normal ((Uu H nx (an l) (aG .i64 (Int.ofNat i + 1))).aw Tryz.f99.ntmps)) (e2 : c = true -> T .ret ((Ut H nx i).aw Tryz.f99.ntmps)) :
  KD (roundOf Tryz.f99 0) T ((Uu H nx (an l) (Int.ofNat i)).aw Tryz.f99.ntmps) := by
 have h1 := bN hi
 have h2 := jT ht
 generalize an l = es at *
 clear ht hi
 obtain ⟨k2, nm2, ix2, a2⟩ := t
 rcases a2 with _ | ⟨b, d⟩ <;>
 ·cases c
  ·refine az [9] [14] (H := Pt) (live := ib) (by kernel_rfl) ?_; refine ob h1 ?_; refine oo h2 ?_; refine oh hc ?_; exact oe (e1 rfl)
  refine az [9] [14] (H := Pt) (live := ib) (by kernel_rfl) ?_; refine ob h1 ?_; refine oo h2 ?_; refine oh hc ?_; exact oe (e2 rfl)
theorem IQ {l : List aq} {H : Heap} {nx : Nat} {T : Exit -> aa -> Prop} (e1 : T (.exit 0) ((Us H nx l).aw Tryz.f99.ntmps)) :
  KD (roundOf Tryz.f99 0) T ((Uu H nx l (Int.ofNat l.length)).aw Tryz.f99.ntmps) := by
 have h1 := bO (i := l.length) (L := l.length) (by omega)
 refine az [9] [] (H := Pt) (live := ib) (by kernel_rfl) ?_; refine ob h1 ?_; exact oe e1
theorem Fq {H : Heap} {nx : Nat} {T : Exit -> aa -> Prop} (e1 : T (.exit 0) ((Qu H nx).aw Tryz.f99.ntmps)) :
  KD (roundOf Tryz.f99 0) T ((Rq H nx).aw Tryz.f99.ntmps) := by
 refine az [] [] (H := Pt) (live := ib) (by kernel_rfl) ?_; exact oe e1
theorem Ft {l : List Ty} {p : Ty -> Bool} {H : Heap} {nx : Nat} {x : aq} {r : List aq} (hl0 : an l = x :: r) (hg : ∀ v, dG nx v = false -> rW nx ⟨v, H, nx⟩ = ⟨v, H, nx⟩) (hp : ∀ t ∈ l, KC 70 [.dat t.enc, bP] H nx (XQ ⟨bv (p t), H, nx⟩)) (hb : l.length < 1000000000) :
  KC 99 [.dat (.slice (x :: r)), PD] H nx (XQ ⟨iv (rV p l 0), H, nx⟩) := by
 have hl : KD (.loop (roundOf Tryz.f99 0)) (fun e s => (e = .exit 0 /\ rV p l 0 = -1 /\ s = (Us H nx (x :: r)).aw Tryz.f99.ntmps) ∨ (e = .ret /\ ∃ i : Nat, rV p l 0 = Int.ofNat i /\ s = (Ut H nx i).aw Tryz.f99.ntmps)) ((Uu H nx (x :: r) (Int.ofNat 0)).aw Tryz.f99.ntmps) := by
  rw [← hl0]
  refine ct (St := fun i => (Uu H nx (an l) (Int.ofNat i)).aw Tryz.f99.ntmps) (fun i => rV p l 0 = rV p (l.drop i) i) (an l).length ?_ ?_ (i := 0) (Nat.zero_le _) rfl
  ·intro i hi hI
   obtain ⟨t, ht, hm⟩ := get_mem hi
   have ha := xi (p := p) ht
   have hw : aG .i64 (Int.ofNat i + 1) = Int.ofNat (i + 1) := bi (by rw [aE] at hi; omega)
   have hc := hp t hm
   rw [← hI] at ha
   generalize p t = c at hc ha
   refine C5 hi ht hc ?_ ?_
   ·rintro rfl
    rw [hw]
    exact ⟨rfl, ha⟩
   rintro rfl
   exact .inr ⟨rfl, i, ha, rfl⟩
  intro hI
  refine IQ (.inl ⟨rfl, ?_, rfl⟩)
  rw [hI, aE, List.drop_length]
  rfl
 have hg1 := hg (iv (rV p l 0)) rfl
 clear hp hb hg
 generalize hj : rV p l 0 = j at hg1 hl
 clear hj hl0
 refine co [] [] (x := .of Tryz.f99 tN ib) ?_; refine lo hl ?_
 rintro ex s (⟨rfl, rfl, rfl⟩ | ⟨rfl, ⟨x0, rfl, rfl⟩⟩) <;>
 ·refine ⟨_, rfl, ?_⟩
  exact cj (by kernel_rfl) hg1
theorem TE {l : List Ty} {p : Ty -> Bool} {H : Heap} {nx : Nat} (hg : ∀ v, dG nx v = false -> rW nx ⟨v, H, nx⟩ = ⟨v, H, nx⟩) (hp : ∀ t ∈ l, KC 70 [.dat t.enc, bP] H nx (XQ ⟨bv (p t), H, nx⟩)) (hb : l.length < 1000000000) :
  KC 69 [.dat (sl (an l)), PD] H nx (XQ ⟨bv (l.any p), H, nx⟩) := by
 cases l with
 | nil =>
  have h0 : KC 99 [.dat nl, PD] H nx (XQ ⟨iv (-1), H, nx⟩) := by
   have hg1 := hg (iv (-1)) rfl
   have hl : KD (.loop (roundOf Tryz.f99 0)) (fun e s => (e = .exit 0 /\ s = (Qu H nx).aw Tryz.f99.ntmps)) ((Rq H nx).aw Tryz.f99.ntmps) := by
    refine bG (St := fun _ => (Rq H nx).aw Tryz.f99.ntmps) 0 (fun i hi => absurd hi (Nat.not_lt_zero i)) ?_ (i := 0) (Nat.le_refl _)
    exact Fq ⟨rfl, rfl⟩
   clear hg hp hb
   refine co [] [] (x := .of Tryz.f99 tN ib) ?_; refine lo hl ?_; rintro ex s ⟨rfl, rfl⟩; refine ⟨_, rfl, ?_⟩
   exact cj (by kernel_rfl) hg1
  have hg1 := hg (bv false) rfl
  clear hg hp hb
  refine co [] [] (x := .of Tryz.f69 zp xc) ?_; refine oh h0 ?_
  exact cj (by kernel_rfl) hg1
 | cons t r =>
  have h := Ft (l := t :: r) (x := t.enc) (r := an r) rfl hg hp hb
  have h3 := A0 (p := p) (l := t :: r) (i := 0)
  have hg1 := hg (bv (!(!((t :: r).any p)))) rfl
  generalize (t :: r).any p = c at h3 hg1
  have hg2 : rW nx ⟨bv (!(!c)), H, nx⟩ = ⟨bv c, H, nx⟩ := by rw [hg1, Bool.not_not]
  clear hg1
  generalize rV p (t :: r) 0 = j at h3 h
  show KC 69 [.dat (.slice (t.enc :: an r)), PD] H nx _
  generalize t.enc = x at h
  generalize an r = xs at h
  clear hp hb hg
  refine co [8] [] (x := .of Tryz.f69 zp xc) ?_; refine oh h ?_; refine ox h3 ?_
  exact cj (by kernel_rfl) hg2
theorem Mu {cs : List aq} {es : List (Go.Value × aq)} {n : Nat} {k ix : Int} {nm : List UInt8} {l : List aq} {c kn d : Bool} (hk : bj k 2 = kn) (hd : gV 59 [hP, .dat (.agg [i64 k, sb nm, i64 ix, sl l])] cs es n (bv d))
  (h : BH 69 [.dat (sl l), PD] cs es n (bv c)) :
  gV 39 [hP, .dat (.agg [i64 k, sb nm, i64 ix, sl l])] cs es n (bv (!(kn && !d) && !c)) := by
 have hg1 := W6 (bv (!c)) cs es n rfl
 have hg3 := WD (bv false) cs es n rfl
 rcases l with _ | ⟨z, l⟩
 ·refine co [7] [] (x := .of Tryz.f39 GS Fa) ?_; refine ob hk ?_
  cases kn
  ·refine oh h ?_
   exact cj (by kernel_rfl) hg1
  refine oh hd ?_
  cases d
  ·exact cj (by kernel_rfl) hg3
  refine oh h ?_
  exact cj (by kernel_rfl) hg1
 refine co [7] [] (x := .of Tryz.f39 GS Fa) ?_; refine ob hk ?_
 cases kn
 ·refine oh h ?_
  exact cj (by kernel_rfl) hg1
 refine oh hd ?_
 cases d
 ·exact cj (by kernel_rfl) hg3
 refine oh h ?_
 exact cj (by kernel_rfl) hg1
/-! ### The contracts -/
def xJ (ds : List bc) (t : Ty) : Bool := match t with | .mk _ nm _ l => (match aW ds nm with | some d => bj d.ar (Int.ofNat (an l).length) | none => false)
mutual
def cH (ds : List bc) : Ty -> Bool
 | .mk k nm ix l => !(bj k 2 && !xJ ds (.mk k nm ix l)) && !hZ ds l
def hZ (ds : List bc) : List Ty -> Bool
 | [] => false
 | t :: r => !cH ds t || hZ ds r
end
theorem wV (ds : List bc) : ∀ l : List Ty, hZ ds l = l.any (fun t => !cH ds t)
 | [] => by simp [hZ]
 | t :: r => by simp [hZ, wV ds r]
abbrev Gg (g : FuncId) (args : List ac) (ds : List bc) (tl : List aq) (v : ac) : Prop := gV g args (bm ds ++ tl) (bu ds 0) ds.length v
theorem F1 (ds : List bc) (tl : List aq) (t : Ty) : Gg 59 [hP, .dat t.enc] ds tl (bv (xJ ds t)) := by
 obtain ⟨k, nm, ix, l⟩ := t
 have h := Bx ds tl nm
 have e : xJ ds (.mk k nm ix l) = (match aW ds nm with | some d => bj d.ar (Int.ofNat (an l).length) | none => false) := rfl
 rw [e]
 clear e
 cases hf : aW ds nm with
 | none => rw [hf] at h; exact DE h
 | some d =>
  rw [hf] at h
  obtain ⟨a, b, ⟨k2, nm2, ix2, l2⟩, j, fl⟩ := d
  exact Bl h rfl
mutual
theorem Bv (ds : List bc) (tl : List aq) : ∀ t : Ty, t.size < 1000000000 -> Gg 39 [hP, .dat t.enc] ds tl (bv (cH ds t))
 | .mk k nm ix l, hs => by
  have hsl : aR l < 1000000000 := by simp only [Ty.size] at hs; omega
  have hlen := eg l
  have ih := DN ds tl l hsl
  have h1 : ∀ t ∈ l, BH 70 [.dat t.enc, bP] (bm ds ++ tl) (bu ds 0) ds.length (bv (!cH ds t)) := by
   intro t ht
   have h2 := qx (r := 2) (m := 4) rfl rfl rfl [box] (ih t ht)
   obtain ⟨k2, nm2, ix2, l2⟩ := t
   exact IJ h2
  have h3 := TE (p := fun t => !cH ds t) (fun v hv => W1 v _ _ _ hv) h1 (by omega)
  rw [← wV] at h3
  have h4 := Mu rfl (F1 ds tl (.mk k nm ix l)) h3
  rw [cH]
  exact h4
theorem DN (ds : List bc) (tl : List aq) : ∀ l : List Ty, aR l < 1000000000 -> ∀ t ∈ l, Gg 39 [hP, .dat t.enc] ds tl (bv (cH ds t))
 | [], _, t, ht => by simp at ht
 | x :: r, h, t, ht => by
  simp only [aR] at h
  rcases List.mem_cons.1 ht with h1 | ht
  ·rw [h1]; exact Bv ds tl x (by omega)
  exact DN ds tl r (by omega) t ht
end
noncomputable def Uh : TI := match Go.Tp.elemOf (env ap.aK) 33 with | some t => t | none => default
theorem JV : Go.Tp.elemOf (env ap.aK) 33 = some Uh := by kernel_rfl
theorem vI : Uh.size = 5 := by kernel_rfl
theorem nN : ∀ l : List dZ, aH l = l.map dZ.enc
 | [] => by simp [aH]
 | t :: r => by simp [aH, nN r]
theorem bw (l : List dZ) : (aH l).length = l.length := by simp [nN]
theorem M3 {l : List dZ} {i : Nat} {t : dZ} (h : l[i]? = some t) : (aH l)[i]? = some t.enc := by simp [nN, h]
theorem MP (f : dZ) : f.enc.cells.length = 5 := by obtain ⟨a, ⟨b, c, d, e⟩⟩ := f; rfl
theorem xl {l : List dZ} {i : Nat} {t : dZ} (h : l[i]? = some t) : aC (env ap.aK) 33 [.dat (.slice (aH l)), .dat (.flat (.int .i64 (Int.ofNat i)))] = some ⟨.ref t.cells, .keep⟩ :=
 rI JV rfl (M3 h) (by rw [vI]; exact MP t) (by rw [vI]; decide)
theorem jH {l : List dZ} {i : Nat} (h : i < (aH l).length) : ∃ t, l[i]? = some t /\ t ∈ l := by
 rw [bw] at h
 exact ⟨l[i], List.getElem?_eq_getElem h, List.getElem_mem h⟩
def EC : List dZ -> ac
 | [] => .dat nl
 | t :: r => .own (aH (t :: r))
theorem M1 {l : List dZ} {d : aq} (h : d ∈ aH l) : ∃ t, d = dZ.enc t := by
 rw [nN] at h
 obtain ⟨t, _, rfl⟩ := List.mem_map.1 h
 exact ⟨t, rfl⟩
theorem Dz (a b : List dZ) : aH (a ++ b) = aH a ++ aH b := by simp [nN]
theorem xE (l : List dZ) : sizedB 5 (aH l) = true := jr (fun d hd => by obtain ⟨t, rfl⟩ := M1 hd; exact MP t)
theorem FM (l : List dZ) : eW (aH l) = false := by
 cases l with
 | nil => rfl
 | cons t r => rfl
theorem WN {pre : List dZ} {t : dZ} (hl : pre.length < 1000000000) : bq (env ap.aK) false 33 [.own (aH pre), .dat (.slice [t.enc])] none = some ⟨.own (aH (pre ++ [t])), .keep⟩ := by
 rw [Dz]
 refine rK (i := Uh) (ds := [t.enc]) (k := 4) JV rfl vI ?_ ?_ (by kernel_rfl) ?_ ?_ ?_ (by simp)
 ·exact xE [t]
 ·exact xE pre
 ·have h1 : Uh.bytes <= 1000 := fN (by kernel_rfl)
  rw [bw]
  calc (pre.length + 1) * Uh.bytes <= 1000000000 * 1000 := Nat.mul_le_mul (by omega) h1
   _ <= 140737488355328 := by decide
 ·rw [bw]; simp [iV]; omega
 unfold io
 rw [show aH pre ++ [t.enc] = aH (pre ++ [t]) by rw [Dz]; rfl, FM]
noncomputable def Ht : Hints := ⟨au, GN, ax, rowsOf ax 53⟩
def E4 (nm : List UInt8) (ar k : Int) (nm2 : List UInt8) (ix : Int) (a : ac) (con : Bool) (b : ac) : Heap := [(.loc 3, .cells [.dat (sb nm), iv ar, iv k, .dat (sb nm2), iv ix, a, .dat (bl con), b]), (.loc 2, .cells [.dat (sb []), iv 0, iv 0, .dat (sb []), iv 0, .dat nl, .dat (bl false), .dat nl])]
def Kj (lo : Heap) (a : aq) (n : Nat) (i : Int) : ab := ⟨[(15, iv i), (14, iv (Int.ofNat n)), (13, .dat a), (3, .ptr (.loc 3) 0), (2, .ptr (.loc 2) 0)], lo, [], 0⟩
def QF (lo : Heap) (a : aq) (n : Nat) (i : Int) : ab := ⟨[(16, bv false), (15, iv i), (14, iv (Int.ofNat n)), (13, .dat a), (3, .ptr (.loc 3) 0), (2, .ptr (.loc 2) 0)], lo, [], 0⟩
theorem Nt {nm : List UInt8} {ar k : Int} {nm2 : List UInt8} {ix : Int} {la : List aq} {con : Bool} {l pre : List dZ} {i : Nat} {t : dZ} (hi : i < (aH l).length) (ht : l[i]? = some t) (hc : ae 58 [.dat t.ty.enc] (.dat t.ty.enc)) (hp : pre.length < 1000000000) {T : Exit -> aa -> Prop}
  (e : T .normal ((Kj (E4 nm ar k nm2 ix (.dat (sl la)) con (EC (pre ++ [t]))) (.slice (aH l)) (aH l).length (aG .i64 (Int.ofNat i + 1))).aw Tryz.f53.ntmps)) :
  KD (roundOf Tryz.f53 0) T ((Kj (E4 nm ar k nm2 ix (.dat (sl la)) con (EC pre)) (.slice (aH l)) (aH l).length (Int.ofNat i)).aw Tryz.f53.ntmps) := by
 have h1 := bN hi
 have h2 := xl ht
 have h3 := WN (t := t) hp
 clear ht hi hp
 obtain ⟨fn, k2, fnm, fix, fl⟩ := t
 generalize aH l = es at *
 rcases pre with _ | ⟨d, r⟩ <;>
 ·rcases la with _ | ⟨x, la⟩ <;>
  ·rcases fl with _ | ⟨y, fl⟩ <;>
   ·refine az [16] [17, 28] (H := Ht) (live := AS) (by kernel_rfl) ?_; refine ob h1 ?_; refine oo h2 ?_; refine on hc ?_; refine oo h3 ?_; exact oe e
theorem P1 {nm : List UInt8} {ar k : Int} {nm2 : List UInt8} {ix : Int} {la : List aq} {con : Bool} {pre : List dZ} {a : aq} {n : Nat} {T : Exit -> aa -> Prop}
  (e : T (.exit 0) ((QF (E4 nm ar k nm2 ix (.dat (sl la)) con (EC pre)) a n (Int.ofNat n)).aw Tryz.f53.ntmps)) :
  KD (roundOf Tryz.f53 0) T ((Kj (E4 nm ar k nm2 ix (.dat (sl la)) con (EC pre)) a n (Int.ofNat n)).aw Tryz.f53.ntmps) := by
 have h1 := bO (i := n) (L := n) (by omega)
 rcases pre with _ | ⟨d, r⟩ <;>
 ·refine az [16] [] (H := Ht) (live := AS) (by kernel_rfl) ?_; refine ob h1 ?_; exact oe e
theorem P0 {nm : List UInt8} {ar k : Int} {nm2 : List UInt8} {ix : Int} {la : List aq} {con : Bool} {l : List dZ} {a : aq} (ha : a = sl (aH l)) (ih : ∀ t ∈ l, ae 58 [.dat t.ty.enc] (.dat t.ty.enc)) (hb : l.length < 1000000000) :
  KD (.loop (roundOf Tryz.f53 0)) (fun e s => e = .exit 0 /\ s = (QF (E4 nm ar k nm2 ix (.dat (sl la)) con (EC l)) a (aH l).length (Int.ofNat (aH l).length)).aw Tryz.f53.ntmps)
   ((Kj (E4 nm ar k nm2 ix (.dat (sl la)) con (EC [])) a (aH l).length (Int.ofNat 0)).aw Tryz.f53.ntmps) := by
 refine bG (St := fun i => (Kj (E4 nm ar k nm2 ix (.dat (sl la)) con (EC (l.take i))) a (aH l).length (Int.ofNat i)).aw Tryz.f53.ntmps) (aH l).length ?_ ?_ (i := 0) (Nat.zero_le _)
 ·intro i hi
  obtain ⟨t, ht, hm⟩ := jH hi
  have ha2 : a = .slice (aH l) := by
   rw [ha]
   cases l with
   | nil => simp at ht
   | cons x r => rfl
  subst ha2
  refine Nt hi ht (ih t hm) (by rw [List.length_take]; omega) ?_
  rw [bw] at hi
  rw [bi (by omega), ← ee ht]
  rfl
 refine P1 ⟨rfl, ?_⟩
 rw [bw, List.take_length]
theorem Tu {nm : List UInt8} {ar k ix : Int} {nm2 : List UInt8} {la : List aq} {con : Bool} {l : List dZ} (hs : ae 58 [.dat (.agg [i64 k, sb nm2, i64 ix, sl la])] (.dat (.agg [i64 k, sb nm2, i64 ix, sl la])))
  (ih : ∀ t ∈ l, ae 58 [.dat t.ty.enc] (.dat t.ty.enc)) (hb : l.length < 1000000000) :
  ae 53 [.dat (eT nm ar k nm2 ix la con (aH l))] (.dat (eT nm ar k nm2 ix la con (aH l))) := by
 have hl := P0 (nm := nm) (ar := ar) (k := k) (nm2 := nm2) (ix := ix) (la := la) (con := con) (l := l) rfl ih hb
 clear ih hb
 rcases l with _ | ⟨f, l⟩ <;>
 ·rcases la with _ | ⟨x, la⟩ <;>
  ·refine co [] [] (x := .of Tryz.f53 GN AS) ?_; refine on hs ?_; refine lo hl ?_; rintro ex s ⟨rfl, rfl⟩; refine ⟨_, rfl, ?_⟩; exact fi
/-- Bounds under which a term can be reckoned with. -/
def Ty.cA (t : Ty) : Prop := t.size < 100000000 /\ t.eI
def bc.cA (d : bc) : Prop := d.sup.cA /\ (∀ f ∈ d.fl, f.ty.cA) /\ d.fl.length < 1000000000
theorem DR {t : Ty} (h : t.cA) : ae 58 [.dat t.enc] (.dat t.enc) := DQ (by have := h.1; omega) h.2 (by have := h.1; have := jO t; omega)
theorem nR {d : bc} (h : d.cA) : ae 53 [.dat d.enc] (.dat d.enc) := by
 obtain ⟨h1, h2, h3⟩ := h
 obtain ⟨a, b, ⟨k2, nm2, ix2, l2⟩, j, fl⟩ := d
 exact Tu (DR h1) (fun t ht => DR (h2 t ht)) h3
theorem WJ {nm nm2 : List UInt8} {t u : Ty} {c d : Bool} (h1 : fY nm nm2 = c) (h : ae 91 [.dat t.enc, .dat u.enc] (bv d)) :
  ae 90 [.dat (dZ.enc ⟨nm, t⟩), .dat (dZ.enc ⟨nm2, u⟩)] (bv (c && d)) := by
 obtain ⟨k, tn, ix, l⟩ := t
 obtain ⟨k2, tn2, ix2, l2⟩ := u
 rcases l with _ | ⟨x, l⟩ <;>
 ·rcases l2 with _ | ⟨x2, l2⟩ <;>
  ·refine co [9] [] (x := .of Tryz.f90 K8 L6) ?_; refine ob h1 ?_
   cases c
   ·exact fi
   refine on h ?_; exact fi
def V3 : ac := .fn (.func 90) [] []
noncomputable def R9 : Hints := ⟨au, tO, ax, rowsOf ax 92⟩
def TM (a b : aq) (n : Nat) (i : Int) : ab := ⟨[(17, iv i), (16, iv (Int.ofNat n)), (15, .dat a), (1, .dat b), (2, V3)], [], [], 0⟩
def Rs (a b : aq) (n : Nat) (i : Int) : ab := ⟨[(18, bv false), (17, iv i), (16, iv (Int.ofNat n)), (15, .dat a), (1, .dat b), (2, V3)], [], [], 0⟩
def Rt (c : Bool) : ab := ⟨[(6, bv c)], [], [], 0⟩
def dZ.eq (f g : dZ) : Bool := fY f.nm g.nm && I3 f.ty g.ty
def qc : List dZ -> List dZ -> Bool
 | f :: r, g :: s => f.eq g && qc r s
 | _, _ => true
theorem M7 {l l2 : List dZ} {t u : dZ} {i : Nat} {c : Bool} {T : Exit -> aa -> Prop} (hi : i < (aH l).length) (ht : l[i]? = some t) (hu : l2[i]? = some u) (hc : ae 90 [.dat t.enc, .dat u.enc] (bv c))
  (e1 : c = true -> T .normal ((TM (.slice (aH l)) (.slice (aH l2)) (aH l).length (aG .i64 (Int.ofNat i + 1))).aw Tryz.f92.ntmps)) (e2 : c = false -> T .ret ((Rt false).aw Tryz.f92.ntmps)) :
  KD (roundOf Tryz.f92 0) T ((TM (.slice (aH l)) (.slice (aH l2)) (aH l).length (Int.ofNat i)).aw Tryz.f92.ntmps) := by
 have h1 := bN hi
 have h2 := xl ht
 have h3 := xl hu
 generalize aH l = es at *
 generalize aH l2 = es2 at *
 clear ht hi hu
 obtain ⟨nm, k, tn, ix, a⟩ := t
 obtain ⟨nm2, k2, tn2, ix2, b⟩ := u
 rcases a with _ | ⟨x, a⟩ <;>
 ·rcases b with _ | ⟨y, b⟩ <;>
  ·cases c
   ·refine az [18] [20, 24] (H := R9) (live := lT) (by kernel_rfl) ?_; refine ob h1 ?_; refine oo h2 ?_; refine oo h3 ?_; refine on hc ?_; exact oe (e2 rfl)
   refine az [18] [20, 24] (H := R9) (live := lT) (by kernel_rfl) ?_; refine ob h1 ?_; refine oo h2 ?_; refine oo h3 ?_; refine on hc ?_; exact oe (e1 rfl)
theorem PN {a b : aq} {n : Nat} {T : Exit -> aa -> Prop} (e : T (.exit 0) ((Rs a b n (Int.ofNat n)).aw Tryz.f92.ntmps)) :
  KD (roundOf Tryz.f92 0) T ((TM a b n (Int.ofNat n)).aw Tryz.f92.ntmps) := by
 have h1 := bO (i := n) (L := n) (by omega)
 refine az [18] [] (H := R9) (live := lT) (by kernel_rfl) ?_; refine ob h1 ?_; exact oe e
theorem zJ {l l2 : List dZ} {i : Nat} {t u : dZ} (ht : l[i]? = some t) (hu : l2[i]? = some u) : qc (l.drop i) (l2.drop i) = (t.eq u && qc (l.drop (i + 1)) (l2.drop (i + 1))) := by rw [dv ht, dv hu]; rfl
theorem PM {l l2 : List dZ} {a b : aq} (ha : a = sl (aH l)) (hb : b = sl (aH l2)) (hlen : l.length = l2.length) (hn : l.length < 1000000000) (hc : ∀ t ∈ l, ∀ u ∈ l2, ae 90 [.dat t.enc, .dat u.enc] (bv (t.eq u))) :
  KD (.loop (roundOf Tryz.f92 0)) (fun e s => (e = .exit 0 /\ qc l l2 = true /\ s = (Rs a b (aH l).length (Int.ofNat (aH l).length)).aw Tryz.f92.ntmps) ∨ (e = .ret /\ qc l l2 = false /\ s = (Rt false).aw Tryz.f92.ntmps)) ((TM a b (aH l).length (Int.ofNat 0)).aw Tryz.f92.ntmps) := by
 refine ct (St := fun i => (TM a b (aH l).length (Int.ofNat i)).aw Tryz.f92.ntmps) (fun i => qc l l2 = qc (l.drop i) (l2.drop i)) (aH l).length ?_ ?_ (i := 0) (Nat.zero_le _) rfl
 ·intro i hi hI
  obtain ⟨t, ht, hm⟩ := jH hi
  have hi2 := hi
  rw [bw] at hi2
  have hu : l2[i]? = some l2[i] := List.getElem?_eq_getElem (by omega)
  have hm2 : l2[i] ∈ l2 := List.getElem_mem _
  generalize l2[i] = u at hu hm2
  have h := hc t hm u hm2
  have hd := zJ ht hu
  rw [← hI] at hd
  have hw : aG .i64 (Int.ofNat i + 1) = Int.ofNat (i + 1) := bi (by omega)
  have ha2 : a = .slice (aH l) := by
   rw [ha]
   cases l with
   | nil => simp at ht
   | cons x r => rfl
  have hb2 : b = .slice (aH l2) := by
   rw [hb]
   cases l2 with
   | nil => simp at hu
   | cons x r => rfl
  subst ha2
  subst hb2
  generalize t.eq u = c at h hd
  refine M7 hi ht hu h ?_ ?_
  ·rintro rfl
   rw [hw]
   exact ⟨rfl, hd⟩
  rintro rfl
  exact .inr ⟨rfl, hd, rfl⟩
 intro hI
 refine PN (.inl ⟨rfl, ?_, rfl⟩)
 rw [hI, bw, List.drop_length]
 cases l2.drop l.length <;> rfl
def Ti (l l2 : List dZ) : Bool := bj (Int.ofNat (aH l).length) (Int.ofNat (aH l2).length) && qc l l2
theorem Hz {l l2 : List dZ} {c : Bool} (h : bj (Int.ofNat (aH l).length) (Int.ofNat (aH l2).length) = c) : c = true -> l.length = l2.length := by
 rintro rfl
 rw [qa, bw, bw] at h
 simpa using h
theorem Tl {a b : aq} {la lb : List aq} (ha : a = sl la) (hb : b = sl lb) {c d : Bool} (h : bj (Int.ofNat la.length) (Int.ofNat lb.length) = c)
  (hl : c = true -> KD (.loop (roundOf Tryz.f92 0)) (fun e s => (e = .exit 0 /\ d = true /\ s = (Rs a b la.length (Int.ofNat la.length)).aw Tryz.f92.ntmps) ∨ (e = .ret /\ d = false /\ s = (Rt false).aw Tryz.f92.ntmps)) ((TM a b la.length (Int.ofNat 0)).aw Tryz.f92.ntmps)) :
  ae 92 [.dat a, .dat b, V3] (bv (c && d)) := by
 subst ha
 subst hb
 rcases la with _ | ⟨x, la⟩
 ·rcases lb with _ | ⟨y, lb⟩
  ·cases c
   ·exact Bool.noConfusion (show true = false from h)
   have hl2 := hl rfl
   clear hl
   refine co [] [] (x := .of Tryz.f92 tO lT) ?_; refine lo hl2 ?_
   rintro ex s (⟨rfl, rfl, rfl⟩ | ⟨rfl, rfl, rfl⟩) <;>
   ·refine ⟨_, rfl, ?_⟩; exact fi
  cases c
  ·refine co [] [] (x := .of Tryz.f92 tO lT) ?_; exact fi
  exact Bool.noConfusion (show false = true from h)
 rcases lb with _ | ⟨y, lb⟩
 ·cases c
  ·refine co [] [] (x := .of Tryz.f92 tO lT) ?_; exact fi
  exact Bool.noConfusion (show false = true from h)
 cases c
 ·refine co [14] [] (x := .of Tryz.f92 tO lT) ?_; refine ox h ?_; exact fi
 have hl2 := hl rfl
 clear hl
 refine co [14] [] (x := .of Tryz.f92 tO lT) ?_; refine ox h ?_; refine lo hl2 ?_
 rintro ex s (⟨rfl, rfl, rfl⟩ | ⟨rfl, rfl, rfl⟩) <;>
 ·refine ⟨_, rfl, ?_⟩; exact fi
def bc.eq (a b : bc) : Bool := fY a.nm b.nm && (bj a.ar b.ar && ((a.con == b.con) && (I3 a.sup b.sup && Ti a.fl b.fl)))
theorem PL {nm nm2 : List UInt8} {ar ar2 : Int} {con con2 : Bool} {k ix k2 ix2 : Int} {tn tn2 : List UInt8} {la la2 lb lb2 : List aq} {c1 c2 c4 c5 : Bool} (h1 : fY nm nm2 = c1) (h2 : bj ar ar2 = c2)
  (h4 : ae 91 [.dat (.agg [i64 k, sb tn, i64 ix, sl la]), .dat (.agg [i64 k2, sb tn2, i64 ix2, sl la2])] (bv c4)) (h5 : ae 92 [.dat (sl lb), .dat (sl lb2), V3] (bv c5)) :
  ae 51 [.dat (eT nm ar k tn ix la con lb), .dat (eT nm2 ar2 k2 tn2 ix2 la2 con2 lb2)] (bv (c1 && (c2 && ((con == con2) && (c4 && c5))))) := by
 rcases la with _ | ⟨x, la⟩ <;>
 ·rcases la2 with _ | ⟨x2, la2⟩ <;>
  ·rcases lb with _ | ⟨y, lb⟩ <;>
   ·rcases lb2 with _ | ⟨y2, lb2⟩ <;>
    ·refine co [10, 16] [] (x := .of Tryz.f51 Ln Ml) ?_; refine ob h1 ?_
     cases c1
     ·exact fi
     refine ob h2 ?_
     cases c2
     ·exact fi
     cases con
     ·cases con2
      ·refine on h4 ?_
       cases c4
       ·exact fi
       refine on h5 ?_; exact fi
      exact fi
     cases con2
     ·exact fi
     refine on h4 ?_
     cases c4
     ·exact fi
     refine on h5 ?_; exact fi
theorem ry {a b : bc} (ha : a.cA) (hb : b.cA) : ae 51 [.dat a.enc, .dat b.enc] (bv (a.eq b)) := by
 obtain ⟨a1, a2, a3⟩ := ha
 obtain ⟨b1, b2, b3⟩ := hb
 have h4 : ae 91 [.dat a.sup.enc, .dat b.sup.enc] (bv (I3 a.sup b.sup)) := HG _ _ (by have := a1.1; omega)
 have hf : ∀ t ∈ a.fl, ∀ u ∈ b.fl, ae 90 [.dat t.enc, .dat u.enc] (bv (t.eq u)) := by
  intro t ht u hu
  exact WJ rfl (HG _ _ (by have := (a2 t ht).1; omega))
 have h5 : ae 92 [.dat (sl (aH a.fl)), .dat (sl (aH b.fl)), V3] (bv (Ti a.fl b.fl)) :=
  Tl rfl rfl rfl (fun h => PM rfl rfl (Hz rfl h) a3 hf)
 obtain ⟨anm, aar, ⟨k, tn, ix, la⟩, acon, afl⟩ := a
 obtain ⟨bnm, bar, ⟨k2, tn2, ix2, la2⟩, bcon, bfl⟩ := b
 exact PL rfl rfl h4 h5
end Go.Proofs.YtiihadmgkoamoaaGreatDoor

namespace Go.Proofs
open Go.Shelf
def Tryz.IP : Go.Shelf.Ren := ⟨fun | 21 => 191 | 27 => 201 | 28 => 202 | 35 => 204 | 39 => 206 | n => n, fun | 22 => 22 | 3 => 3 | 4 => 4 | 0 => 0 | n => n, fun | n => n⟩
theorem Tryz.QW : Go.Proofs.Lays2.n21 Tryz.prog Tryz.IP := {
 mixed := by kernel_rfl
 f21 := Tryz.func191.trans (congrArg some (by kernel_rfl))
 f27 := Tryz.func201.trans (congrArg some (by kernel_rfl))
 f28 := Tryz.func202.trans (congrArg some (by kernel_rfl))
 f35 := Tryz.func204.trans (congrArg some (by kernel_rfl))
 f39 := Tryz.func206.trans (congrArg some (by kernel_rfl))
 t0 := Tryz.underlying0
 a0 := Tryz.isAgg0
 z0 := Tryz.sizeOf0
 v0 := Tryz.zeroValue0
 t3 := Tryz.underlying3
 a3 := Tryz.isAgg3
 z3 := Tryz.sizeOf3
 v3 := Tryz.zeroValue3
 t4 := Tryz.underlying4
 a4 := Tryz.isAgg4
 z4 := Tryz.sizeOf4
 v4 := Tryz.zeroValue4
 t22 := Tryz.underlying22
 a22 := Tryz.isAgg22
 z22 := Tryz.sizeOf22
 v22 := Tryz.zeroValue22
 i3 := by kernel_rfl }
def Tryz.NG : Go.Shelf.Ren := ⟨fun | 25 => 190 | 31 => 199 | 32 => 200 | 37 => 171 | n => n, fun | 22 => 22 | 3 => 3 | 4 => 4 | 40 => 157 | 0 => 0 | n => n, fun | n => n⟩
theorem Tryz.WL : Go.Proofs.Lays2.n25 Tryz.prog Tryz.NG := {
 mixed := by kernel_rfl
 f25 := Tryz.func190.trans (congrArg some (by kernel_rfl))
 f31 := Tryz.func199.trans (congrArg some (by kernel_rfl))
 f32 := Tryz.func200.trans (congrArg some (by kernel_rfl))
 f37 := Tryz.func171.trans (congrArg some (by kernel_rfl))
 t0 := Tryz.underlying0
 a0 := Tryz.isAgg0
 z0 := Tryz.sizeOf0
 v0 := Tryz.zeroValue0
 t3 := Tryz.underlying3
 a3 := Tryz.isAgg3
 z3 := Tryz.sizeOf3
 v3 := Tryz.zeroValue3
 t4 := Tryz.underlying4
 a4 := Tryz.isAgg4
 z4 := Tryz.sizeOf4
 v4 := Tryz.zeroValue4
 t22 := Tryz.underlying22
 a22 := Tryz.isAgg22
 z22 := Tryz.sizeOf22
 v22 := Tryz.zeroValue22
 t40 := Tryz.underlying157
 a40 := Tryz.isAgg157
 z40 := Tryz.sizeOf157
 v40 := Tryz.zeroValue157 }
end Go.Proofs

namespace Go.Tp
open Go.Proofs Go.Shelf Go.RowKit
def vo (l : List Int) : List ac := l.map iv
def ints (l : List Int) : List Value := l.map (Value.int .i64)
section
variable {w : World} {R : Own} {N : Name -> Option Nat}
theorem oH : ∀ {l : List Int} {us : List Value} {bs : List Nat}, ag w R N (vo l) us bs -> us = ints l /\ bs = [] /\ ∀ x ∈ l, cq (.int .i64 x) = true
 | [], us, bs, h => by obtain ⟨rfl, rfl⟩ := aV h; simp [ints]
 | x :: l, us, bs, h => by
  have h : ag w R N (iv x :: vo l) us bs := h
  obtain ⟨v, vs', b1, b2, rfl, rfl, h1, h2⟩ := aD h
  obtain ⟨rfl, rfl, h3⟩ := oH h2
  simp only [ak] at h1
  obtain ⟨rfl, h1⟩ := h1
  have h1 : ev w R v (.flat (.int .i64 x)) := h1
  cases h1 with
  | flat hf => exact ⟨rfl, rfl, by rintro y hy; rcases List.mem_cons.1 hy with rfl | hy; exact hf; exact h3 y hy⟩
theorem Fh : ∀ {l : List Int}, (∀ x ∈ l, cq (.int .i64 x) = true) -> ag w R N (vo l) (ints l) []
 | [], _ => aS
 | x :: l, h => by
  have h1 : ak w R N (iv x) (.int .i64 x) [] := by
   simp only [ak]
   exact ⟨trivial, .flat (h x (by simp))⟩
  exact aI (b1 := []) (b2 := []) h1 (Fh (l := l) (fun y hy => h y (by simp [hy])))
theorem qW {l : List Int} : ∀ v ∈ ints l, v.oneCell' = true := by
 intro v hv
 obtain ⟨x, _, rfl⟩ := List.mem_map.1 hv
 rfl
theorem UT {l : List Int} {j : Nat} {v : Value} (h : (ints l)[j]? = some v) : ∃ x, l[j]? = some x /\ v = .int .i64 x := by
 simp only [ints, List.getElem?_map, Option.map_eq_some_iff] at h
 obtain ⟨x, h1, h2⟩ := h
 exact ⟨x, h1, h2.symm⟩
theorem jP {b off : Nat} {vs : Array Value} {e : TypeId} {fr : Nat × Nat} (hb : w.heap[b]? = some (.cells vs e fr)) {v : Value} (h : vs.toList[off]? = some v) : w.cell? ⟨b, off, none⟩ = some v := by
 rw [Array.getElem?_toList] at h
 simp [World.cell?, hb, h]
theorem gy (b o : Nat) (e : TypeId) (news : List Value) (cur : Array Value) (hg : w.heap[b]? = some (.cells cur e (0, 0))) (hfit : o + news.length <= cur.size) (h1 : ∀ u ∈ news, u.oneCell' = true) :
  w.setCells b o news = w.setRow b (cur.toList.take o ++ news ++ cur.toList.drop (o + news.length)).toArray := by
 have hc : ∀ j, j < news.length -> (w.cell? ⟨b, o + 0 + j, none⟩).isSome = true := by
  intro j hj
  rw [jP hg (v := cur.toList[o + 0 + j]'(by simp; omega)) (by simp)]
  rfl
 have hf : ∀ j, j < news.length -> w.frozen? ⟨b, o + 0 + j, none⟩ = false := by
  intro j _
  simp [World.frozen?, hg]
 have a1 := run_storeCells_cells (P := default) b o news 0 w hc hf h1
 have a2 := run_storeCells_at default b o e news 0 cur w hg (by simpa using hfit) h1
 rw [a1] at a2
 simp only [Nat.add_zero, Result.ok.injEq] at a2
 exact a2.2
end
section
variable {P : Program} {ρ : Ren} {G : bD}
theorem nA {w : World} {R : Own} {g : Nat} {cur : Array Value} {t : TypeId} (hg : w.heap[g]? = some (.cells cur t (0, 0))) (arr : Array Value) (hsz : arr.size = cur.size) (hRv : ∀ j, j < cur.size -> R g j) (hpos : 0 < cur.size) (bs : List Nat) (hb : g ∉ bs) : bz w R (w.setRow g arr) R bs :=
 jZ hg arr hsz (fun _ _ h => h) (fun _ _ _ h => h) (fun off hno => by
  rw [Array.getElem?_eq_none (by
   rcases Nat.lt_or_ge off cur.size with h' | h'
   ·exact (hno (hRv off h')).elim
   ·omega), Array.getElem?_eq_none (by
   rcases Nat.lt_or_ge off cur.size with h' | h'
   ·exact (hno (hRv off h')).elim
   omega)]) ⟨0, hRv 0 hpos⟩ bs hb
theorem sD {w w' : World} {R R' : Own} {bs : List Nat} (k : bz w.drew R w' R' bs) : bz w R w' R' bs :=
 ⟨⟨k.step.os, k.step.tape, k.step.output, k.step.size, k.step.block, k.step.cell, k.step.sizes⟩, k.same⟩
theorem Ff {w : World} {R : Own} (q : Nat) (bs : List Nat) : bz w R (w.drewN q) R bs :=
 ⟨⟨rfl, rfl, rfl, Nat.le_refl _, fun b _ h => ⟨rfl, h⟩, fun b off _ h => ⟨h, rfl⟩, fun b _ => rfl⟩, fun b _ _ => ⟨rfl, fun _ h => h⟩⟩
/-- slices.BinarySearch at []int. -/
theorem Nw (L : Lays2.n25 P ρ) {l : List Int} {x : Int} (hs : l.Pairwise (· <= ·)) (hn : l.length < 1000000000) :
  ay P G (ρ.f 25) [.win (.out 0) 1 0 l.length, iv x] [(.out 0, .cells (vo l))] 1 (XQ ⟨.tup [iv (Int.ofNat (l.countP (· < x))), bv (l.contains x)], [(.out 0, .cells (vo l))], 1⟩) := by
 intro w R N cargs bsA bsH bsF hargs hheap hnd hnx hglob hF
 obtain ⟨v0, r1, c0, d1, rfl, rfl, h0, hr1⟩ := aD hargs
 obtain ⟨v1, r2, c1, d2, rfl, rfl, h1, hr2⟩ := aD hr1
 obtain ⟨rfl, rfl⟩ := aV hr2
 have hheap0 := hheap
 obtain ⟨b, b1, b2, rfl, hb, hobj, hrest⟩ := hheap
 have hrest : b2 = [] := hrest
 subst hrest
 obtain ⟨vs, elem, sp, hblk, hrv, hRv, _⟩ := hobj
 simp only [ak] at h0 h1
 obtain ⟨rfl, b', cap, hb', rfl, hcap, _, hblt, hrow⟩ := h0
 have : b' = b := by rw [hb] at hb'; simpa using hb'.symm
 subst this
 obtain ⟨rfl, h1⟩ := h1
 have h1 : ev w R v1 (.flat (.int .i64 x)) := h1
 have e1 : v1 = .int .i64 x := by cases h1 with | flat _ => rfl
 have hfx : cq (.int .i64 x) = true := by cases h1 with | flat h => exact h
 subst e1
 obtain ⟨us1, us2, q1, q2, hus, rfl, hr1, _⟩ := eA hrv
 obtain ⟨rfl, rfl, hfl⟩ := oH hr1
 have hcell : ∀ j, j < l.length -> w.cell? ⟨b', 0 + j, none⟩ = some (.int .i64 (l.getD j 0)) := by
  intro j hj
  refine jP hblk ?_
  rw [hus, Nat.zero_add, List.getElem?_append_left (by simp [ints]; exact hj)]
  simp [ints, hj]
 refine (Any.slices_BinarySearch_int L b' 0 l.length cap l x w (Nat.le_refl _) (by omega) hcell (by rw [List.take_length]; exact hs)).mono ?_
 rintro e w' ⟨rfl, q, rfl⟩
 rw [List.take_length]
 have hk : ∀ bs, bz w R (w.drewN q) R bs := Ff q
 refine ⟨_, _, _, 1, R, N, [], _, rfl, ⟨rfl, rfl, rfl⟩, ?_, hheap0.keep (hk _), by simpa using hnd, hnx, hk _, fun _ _ h => h⟩
 have hi : ∀ n : Nat, n < 9223372036854775808 -> cq (.int .i64 (Int.ofNat n)) = true := by
  intro n hn
  simp [cq, IntKind.min, IntKind.max, IntKind.signed, IntKind.bits]
  omega
 have hcnt : l.countP (· < x) <= l.length := List.countP_le_length
 simp only [ak]
 refine ⟨[.int .i64 (Int.ofNat (l.countP (· < x))), .bool (l.contains x)], rfl, ?_⟩
 refine aI (b1 := []) (b2 := []) ?_ (aI (b1 := []) (b2 := []) ?_ aS)
 ·simp only [ak]; exact ⟨trivial, .flat (hi _ (by omega))⟩
 simp only [ak]; exact ⟨trivial, .flat rfl⟩
/-- The row with one more. -/
def fJ (l : List Int) (i : Nat) (x : Int) : List Int := l.take i ++ x :: l.drop i
theorem qX {l : List Int} {i : Nat} {x : Int} (h : i <= l.length) : (fJ l i x).length = l.length + 1 := by simp [fJ]; omega
theorem ma {l : List Int} {i : Nat} {x : Int} : ints (fJ l i x) = (ints l).take i ++ .int .i64 x :: (ints l).drop i := by simp [fJ, ints, List.map_take, List.map_drop]
theorem Fp {l : List Int} {i : Nat} {x : Int} (h : ∀ y ∈ l, cq (.int .i64 y) = true) (hx : cq (.int .i64 x) = true) : ∀ y ∈ fJ l i x, cq (.int .i64 y) = true := by
 intro y hy
 simp only [fJ, List.mem_append, List.mem_cons] at hy
 rcases hy with hy | rfl | hy
 ·exact h y (List.mem_of_mem_take hy)
 ·exact hx
 exact h y (List.mem_of_mem_drop hy)
theorem Pj (l : List Int) : cM (vo l) = false := by
 rcases l with _ | ⟨a, _ | ⟨b, _ | ⟨c, r⟩⟩⟩ <;> rfl
theorem oq {w : World} {R : Own} {N : Name -> Option Nat} : ∀ {n : Nat} {us : List Value} {bs : List Nat}, ag w R N (List.replicate n .undef) us bs -> bs = [] /\ us.length = n
 | 0, us, bs, h => by obtain ⟨rfl, rfl⟩ := aV h; exact ⟨rfl, rfl⟩
 | n + 1, us, bs, h => by
  have h : ag w R N (.undef :: List.replicate n .undef) us bs := h
  obtain ⟨v, vs', b1, b2, rfl, rfl, h1, h2⟩ := aD h
  obtain ⟨rfl, h3⟩ := oq h2
  simp only [ak] at h1
  subst h1
  exact ⟨rfl, by simp [h3]⟩
/-- What is behind: the block g holds the row. -/
theorem vp {w w' : World} {R R' : Own} {N : Name -> Option Nat} {vb g cap : Nat} {elem : TypeId} {arr rest : List Value} {l2 : List Int} {x : Int} {bsF : List Nat}
  (hnx : ∀ o b, N (.out o) = some b -> o < 2) (hk : ∀ bs, g ∉ bs -> bz w R w' R' bs) (hgF : g ∉ bsF) (hgv : g ≠ vb) (hnd : (vb :: bsF).Nodup)
  (hg : w'.heap[g]? = some (.cells arr.toArray elem (0, 0))) (harr : arr = ints l2 ++ rest) (hfl : ∀ y ∈ l2, cq (.int .i64 y) = true) (hR' : ∀ j, j < arr.length -> R' g j) (hcap : arr.length = cap) (hcm : cap <= im) (hl2 : l2.length <= cap)
  (hv : al w R (outs N) [(.out 1, .cells [iv x])] [vb]) (cv : Value) (hcv : cv = .slice (some ⟨g, 0, none⟩) l2.length cap) :
  ∃ v cv' heap' next' R2 N' bsV bsH', Ending.returned cv = .returned cv' /\ XQ ⟨.win (.out 2) 1 0 l2.length, [(.out 2, .cells (vo l2)), (.out 1, .cells [iv x])], 3⟩ v heap' next' /\ ak w' R2 (outs N') v cv' bsV /\ al w' R2 (outs N') heap' bsH' ∧
   (bsV ++ (bsH' ++ bsF)).Nodup /\ (∀ o b, N' (.out o) = some b -> o < next') /\ bz w R w' R2 bsF /\ (∀ o b, N (.out o) = some b -> N' (.out o) = some b) := by
 have hext := we (N := N) (b := g) hnx
 have hlt : g < w'.heap.size := bF hg
 refine ⟨_, cv, _, 3, R', bS N (.out 2) g, [], [g, vb], rfl, ⟨rfl, rfl, rfl⟩, ?_, ?_, ?_, ?_, hk bsF hgF, fun o b h => hext _ _ h⟩
 ·simp only [ak]
  refine ⟨trivial, g, cap, by simp [outs, bS], hcv, hl2, ⟨by decide, hcm⟩, hlt, ?_⟩
  rw [dU hg]
  simp [hcap]
 ·refine ⟨g, [], [vb], rfl, by simp [outs, bS], ?_, (hv.keep (hk _ (by simpa using hgv))).ext (wN hext)⟩
  refine ⟨arr.toArray, elem, rest.length, hg, ?_, fun j hj => hR' j (by simpa using hj), fun h => by rw [Pj] at h; simp at h⟩
  have h1 : ag w' R' (outs (bS N (.out 2) g)) (vo l2) (ints l2) [] := Fh hfl
  have h2 := fD (w := w') (R := R') (N := outs (bS N (.out 2) g)) rest
  simpa [harr] using cE h1 h2
 ·simp only [List.nil_append, List.cons_append]
  refine List.nodup_cons.2 ⟨?_, hnd⟩
  simp only [List.mem_cons, not_or]
  exact ⟨hgv, hgF⟩
 intro o c ho
 by_cases hne : o = 2
 ·omega
 have : N (.out o) = some c := by simpa [bS, hne] using ho
 have := hnx o c this
 omega
theorem Pq (B z1 z2 : List Value) (x zz : Value) (i : Nat) (h : B.length = i) : (B ++ zz :: z1 ++ z2).take i ++ [x] ++ (B ++ zz :: z1 ++ z2).drop (i + 1) = B ++ x :: (z1 ++ z2) := by
 subst h
 have e1 : (B ++ zz :: z1 ++ z2).take B.length = B := by simp
 have e2 : (B ++ zz :: z1 ++ z2).drop (B.length + 1) = z1 ++ z2 := by
  rw [List.append_assoc, List.drop_length_add_append]
  rfl
 rw [e1, e2]
 simp
theorem IN (A : List Value) (u0 x : Value) (us3 : List Value) (i : Nat) (h : i <= A.length) :
  ((A ++ u0 :: us3).take (i + 1) ++ A.drop i ++ (A ++ u0 :: us3).drop (i + 1 + (A.drop i).length)).take i ++ [x] ++ ((A ++ u0 :: us3).take (i + 1) ++ A.drop i ++ (A ++ u0 :: us3).drop (i + 1 + (A.drop i).length)).drop (i + 1) = A.take i ++ x :: A.drop i ++ us3 := by
 obtain ⟨A1, A2, rfl, h1⟩ : ∃ A1 A2, A = A1 ++ A2 /\ A1.length = i := ⟨A.take i, A.drop i, (List.take_append_drop i A).symm, by simp; omega⟩
 subst h1
 have e1 : (A1 ++ A2).drop A1.length = A2 := by simp
 have e2 : (A1 ++ A2).take A1.length = A1 := by simp
 rw [e1, e2]
 obtain ⟨y, t, ht⟩ : ∃ y t, A2 ++ u0 :: us3 = y :: t := by cases A2 with | nil => exact ⟨_, _, rfl⟩ | cons a r => exact ⟨_, _, rfl⟩
 have e3 : (A1 ++ A2 ++ u0 :: us3).take (A1.length + 1) = A1 ++ [y] := by rw [List.append_assoc, ht]; simp [List.take_append]; exact List.take_of_length_le (by omega)
 have e4 : (A1 ++ A2 ++ u0 :: us3).drop (A1.length + 1 + A2.length) = us3 := by
  have : A1.length + 1 + A2.length = (A1 ++ A2).length + 1 := by simp; omega
  rw [this, List.drop_length_add_append]
  rfl
 rw [e3, e4]
 simp [List.take_append, List.drop_append]
/-- slices.Insert at []int. -/
theorem Nx (L : Lays2.n21 P ρ) {l : List Int} {x : Int} {i : Nat} (hi : i <= l.length) (hn : l.length < 1000000000) :
  ay P G (ρ.f 21) [.win (.out 0) 1 0 l.length, iv (Int.ofNat i), .win (.out 1) 1 0 1] [(.out 0, .cells (vo l)), (.out 1, .cells [iv x])] 2
   (XQ ⟨.win (.out 2) 1 0 (fJ l i x).length, [(.out 2, .cells (vo (fJ l i x))), (.out 1, .cells [iv x])], 3⟩) := by
 intro w R N cargs bsA bsH bsF hargs hheap hnd hnx hglob hF
 obtain ⟨v0, r1, c0, d1, rfl, rfl, h0, hr1⟩ := aD hargs
 obtain ⟨v1, r2, c1, d2, rfl, rfl, h1, hr2⟩ := aD hr1
 obtain ⟨v2, r3, c2, d3, rfl, rfl, h2, hr3⟩ := aD hr2
 obtain ⟨rfl, rfl⟩ := aV hr3
 obtain ⟨b, b1, b2, rfl, hb, hobj, hrest⟩ := hheap
 have hrest0 := hrest
 obtain ⟨vb, b3, b4, rfl, hvb, hobjv, hrest⟩ := hrest
 have hrest : b4 = [] := hrest
 subst hrest
 obtain ⟨vs, elem, sp, hblk, hrv, hRv, _⟩ := hobj
 obtain ⟨vs2, elem2, sp2, hblk2, hrv2, hRv2, _⟩ := hobjv
 simp only [ak] at h0 h1 h2
 obtain ⟨rfl, b', cap, hb', rfl, hcap, ⟨_, hcm⟩, hblt, hrow⟩ := h0
 have : b' = b := by rw [hb] at hb'; simpa using hb'.symm
 subst this
 obtain ⟨rfl, vb', vc, hvb', rfl, hvc, _, hvlt, hvrow⟩ := h2
 have : vb' = vb := by rw [hvb] at hvb'; simpa using hvb'.symm
 subst this
 obtain ⟨rfl, h1⟩ := h1
 have h1 : ev w R v1 (.flat (.int .i64 (Int.ofNat i))) := h1
 have e1 : v1 = .int .i64 (Int.ofNat i) := by cases h1 with | flat _ => rfl
 subst e1
 obtain ⟨us1, us2, q1, q2, hus, rfl, hr1, hq2⟩ := eA hrv
 obtain ⟨rfl, rfl, hfl⟩ := oH hr1
 obtain ⟨ws1, ws2, q3, q4, hws, rfl, hr2, hq4⟩ := eA hrv2
 obtain ⟨rfl, rfl, hfx⟩ := oH (l := [x]) hr2
 have hfx := hfx x (by simp)
 obtain ⟨rfl, _⟩ := oq hq2
 obtain ⟨rfl, _⟩ := oq hq4
 simp only [List.nil_append, List.append_nil, List.cons_append] at hnd
 have hvb0 : b' ≠ vb' := by
  have := (List.nodup_cons.1 hnd).1
  simp only [List.mem_cons, not_or] at this
  exact this.1
 have hbF : b' ∉ bsF := by
  have := (List.nodup_cons.1 hnd).1
  simp only [List.mem_cons, not_or] at this
  exact this.2
 have hnd2 : (vb' :: bsF).Nodup := (List.nodup_cons.1 hnd).2
 have hsz : vs.size = cap := by rw [dU hblk] at hrow; omega
 have hlen : (ints l).length = l.length := by simp [ints]
 have hl2 : (fJ l i x).length = l.length + 1 := qX hi
 have hfl2 := Fp (i := i) hfl hfx
 have hvs : ∀ j v, [Value.int .i64 x][j]? = some v -> w.cell? ⟨vb', 0 + j, none⟩ = some v := by
  intro j v hj
  refine jP hblk2 ?_
  rw [hws]
  cases j with
  | zero => simpa [ints] using hj
  | succ j => simp at hj
 have hcs : ∀ j v, (ints l)[j]? = some v -> w.cell? ⟨b', 0 + j, none⟩ = some v := by
  intro j v hj
  refine jP hblk ?_
  have : j < (ints l).length := (List.getElem?_eq_some_iff.1 hj).1
  rw [hus, Nat.zero_add, List.getElem?_append_left this]
  exact hj
 have h1v : ∀ v ∈ [Value.int .i64 x], v.oneCell' = true := by intro v hv; simp at hv; subst hv; rfl
 have hsome : ∀ j, j < cap -> (w.cell? ⟨b', 0 + j, none⟩).isSome = true := by
  intro j hj
  have hj2 : j < vs.toList.length := by simp; omega
  rw [jP hblk (v := vs.toList[j]) (by rw [Nat.zero_add]; exact List.getElem?_eq_getElem hj2)]
  rfl
 have hfroz : ∀ j, w.frozen? ⟨b', j, none⟩ = false := by intro j; simp [World.frozen?, hblk]
 have hus2 : us2.length = cap - l.length := by
  have := congrArg List.length hus
  simp [hlen] at this
  omega
 by_cases hroom : l.length + 1 <= cap
 ·
  obtain ⟨u0, us3, rfl⟩ : ∃ u0 us3, us2 = u0 :: us3 := by
   cases us2 with
   | nil => simp at hus2; omega
   | cons a r => exact ⟨a, r, rfl⟩
  rcases Nat.lt_or_ge i l.length with hlt | hge
  ·refine (Any2.slices_Insert_int_shift L b' 0 l.length cap i vb' 0 1 vc (ints l) [.int .i64 x] w hlt (by decide) hroom ?_ (Ne.symm hvb0) hlen rfl hcs (fun j hj => hsome j (by omega)) (fun j _ => hfroz _) hvs qW h1v elem2 elem vs2.size vs.size ?_ ?_ ?_ ?_ ?_).mono ?_
   ·exact hcm
   ·simp [World.shape?, hblk2]
   ·simp [World.shape?, hblk]
   ·omega
   ·simp [World.frozen?, hblk2]
   ·simp [World.frozen?, hblk2]
   rintro e w' ⟨rfl, rfl⟩
   have hg1 : (w.drew).heap[b']? = some (.cells vs elem (0, 0)) := hblk
   have hd : ((ints l).drop i).length = l.length - i := by simp [hlen]
   rw [gy (w := w.drew) b' (0 + (i + 1)) elem ((ints l).drop i) vs hg1 (by rw [hd]; omega) (fun u hu => qW u (List.mem_of_mem_drop hu))]
   obtain ⟨ar1, har1⟩ : ∃ ar1, ar1 = vs.toList.take (0 + (i + 1)) ++ (ints l).drop i ++ vs.toList.drop (0 + (i + 1) + ((ints l).drop i).length) := ⟨_, rfl⟩
   rw [← har1]
   have hl1 : ar1.length = cap := by
    rw [har1]
    simp [hlen]
    omega
   have hg2 := setRow_heap w.drew b' vs ar1.toArray elem (0, 0) hg1
   rw [gy (w := w.drew.setRow b' ar1.toArray) b' (0 + i) elem [.int .i64 x] ar1.toArray hg2 (by simp [hl1]; omega) h1v]
   obtain ⟨ar2, har2⟩ : ∃ ar2, ar2 = ar1.toArray.toList.take (0 + i) ++ [.int .i64 x] ++ ar1.toArray.toList.drop (0 + i + [Value.int .i64 x].length) := ⟨_, rfl⟩
   rw [← har2]
   have hl3 : ar2.length = cap := by
    rw [har2]
    simp [hl1]
    omega
   have hg3 := setRow_heap (w.drew.setRow b' ar1.toArray) b' ar1.toArray ar2.toArray elem (0, 0) hg2
   refine vp (g := b') (vb := vb') (cap := cap) (arr := ar2) (rest := us3) (R' := R) hnx (fun bs hb => ?_) hbF hvb0 hnd2 hg3 ?_ hfl2 (fun j hj => hRv j (by omega)) hl3 hcm (by rw [hl2]; exact hroom) hrest0 _ (by rw [hl2])
   ·refine sD (bz.trans (nA hg1 ar1.toArray (by simp [hl1, hsz]) hRv (by omega) bs hb) (nA hg2 ar2.toArray (by simp [hl1, hl3]) (fun j hj => hRv j (by simp [hl1] at hj; omega)) (by simp [hl1]; omega) bs hb))
   -- the cells
   have hv : vs.toList = ints l ++ (u0 :: us3) := hus
   rw [har2, har1, hv, ma]
   simp only [Nat.zero_add, List.toList_toArray, List.length_singleton]
   exact IN (ints l) u0 (.int .i64 x) us3 i (by rw [hlen]; omega)
  have hil : i = l.length := by omega
  subst hil
  refine (Any2.slices_Insert_int_end_room L b' 0 l.length cap vb' 0 1 vc [.int .i64 x] w (by decide) hroom hcm rfl (fun j hj => ?_) (fun j _ => hfroz _) hvs h1v).mono ?_
  ·rw [Nat.add_assoc]; exact hsome _ (by omega)
  rintro e w' ⟨rfl, rfl⟩
  rw [gy (w := w) b' (0 + l.length) elem [.int .i64 x] vs hblk (by simp; omega) h1v]
  obtain ⟨ar2, har2⟩ : ∃ ar2, ar2 = vs.toList.take (0 + l.length) ++ [.int .i64 x] ++ vs.toList.drop (0 + l.length + [Value.int .i64 x].length) := ⟨_, rfl⟩
  rw [← har2]
  have hl3 : ar2.length = cap := by
   rw [har2]
   simp
   omega
  have hg3 := setRow_heap w b' vs ar2.toArray elem (0, 0) hblk
  refine vp (g := b') (vb := vb') (cap := cap) (arr := ar2) (rest := us3) (R' := R) hnx (fun bs hb => nA hblk ar2.toArray (by simp [hl3, hsz]) hRv (by omega) bs hb) hbF hvb0 hnd2 hg3 ?_ hfl2 (fun j hj => hRv j (by omega)) hl3 hcm (by rw [hl2]; exact hroom) hrest0 _ (by rw [hl2])
  have hv : vs.toList = ints l ++ (u0 :: us3) := hus
  rw [har2, hv, ma, Nat.zero_add, ← hlen, List.take_left, List.take_length, List.drop_length, List.length_singleton, List.drop_length_add_append]
  simp
 -- a new row
 have hcl : cap = l.length := by omega
 subst hcl
 have hge := grownCap_ge w (l.length + 1) l.length (ρ.t 3)
 have hgm : grownCap w (l.length + 1) l.length (ρ.t 3) <= im := Nat.le_trans (grownCap_le_maxLen w (l.length + 1) l.length (ρ.t 3) (by unfold maxLen; omega)) (by decide)
 generalize hgc : grownCap w (l.length + 1) l.length (ρ.t 3) = gc at hge hgm
 have hltb : b' < w.heap.size := bF hblk
 have hltv : vb' < w.heap.size := bF hblk2
 have hzs : ∀ n, (Builtin.zeroCells (Value.int .i64 0).cells n).toList.length = n := fun n => by simp [Builtin.zeroCells, Value.cells]
 have U0 : w.heap.size ∉ bsF := fun h => by have := hF _ h; omega
 have hRm : ∀ j, R.more w.heap.size w.heap.size j := fun j => .inl rfl
 rcases Nat.lt_or_ge i l.length with hlt | hge2
 ·refine (Any2.slices_Insert_int_grow L b' 0 l.length l.length i vb' 0 1 vc (ints l) [.int .i64 x] w hlt (by decide) (Nat.le_refl _) (by omega) (by omega) hlen rfl hcs hvs qW h1v).mono ?_
  rw [hgc]
  rintro e w' ⟨rfl, rfl⟩
  obtain ⟨z1, hz1⟩ : ∃ z1, z1 = (Builtin.zeroCells (Value.int .i64 0).cells (l.length + 1 - i)).toList := ⟨_, rfl⟩
  obtain ⟨z2, hz2⟩ : ∃ z2, z2 = (Builtin.zeroCells (Value.int .i64 0).cells (gc - (l.length + 1))).toList := ⟨_, rfl⟩
  have hl1 : z1.length = l.length + 1 - i := by rw [hz1, hzs]
  have hl2' : z2.length = gc - (l.length + 1) := by rw [hz2, hzs]
  obtain ⟨ar0, har0⟩ : ∃ ar0, ar0 = (ints l).take i ++ z1 ++ z2 := ⟨_, rfl⟩
  have hc0 : (((ints l).take i).toArray ++ Builtin.zeroCells (Value.int .i64 0).cells (l.length + 1 - i) ++ Builtin.zeroCells (Value.int .i64 0).cells (gc - (l.length + 1))) = ar0.toArray := by rw [har0, hz1, hz2]; simp
  rw [hc0]
  have hl0 : ar0.length = gc := by rw [har0]; simp [hl1, hl2', hlen]; omega
  have hg0 : ((w.alloc (.cells ar0.toArray (ρ.t 3))).drew).heap[w.heap.size]? = some (.cells ar0.toArray (ρ.t 3) (0, 0)) := heap_alloc_new w _
  rw [gy (w := (w.alloc (.cells ar0.toArray (ρ.t 3))).drew) w.heap.size i (ρ.t 3) [.int .i64 x] ar0.toArray hg0 (by simp [hl0]; omega) h1v]
  obtain ⟨ar1, har1⟩ : ∃ ar1, ar1 = ar0.toArray.toList.take i ++ [.int .i64 x] ++ ar0.toArray.toList.drop (i + [Value.int .i64 x].length) := ⟨_, rfl⟩
  rw [← har1]
  have hl3 : ar1.length = gc := by rw [har1]; simp [hl0]; omega
  have hg1 := setRow_heap (w.alloc (.cells ar0.toArray (ρ.t 3))).drew w.heap.size ar0.toArray ar1.toArray (ρ.t 3) (0, 0) hg0
  have hg1' : (((w.alloc (.cells ar0.toArray (ρ.t 3))).drew.setRow w.heap.size ar1.toArray).drew).heap[w.heap.size]? = some (.cells ar1.toArray (ρ.t 3) (0, 0)) := hg1
  have hd : ((ints l).drop i).length = l.length - i := by simp [hlen]
  rw [gy (w := ((w.alloc (.cells ar0.toArray (ρ.t 3))).drew.setRow w.heap.size ar1.toArray).drew) w.heap.size (i + 1) (ρ.t 3) ((ints l).drop i) ar1.toArray hg1' (by rw [hd]; simp [hl3]; omega) (fun u hu => qW u (List.mem_of_mem_drop hu))]
  obtain ⟨ar2, har2⟩ : ∃ ar2, ar2 = ar1.toArray.toList.take (i + 1) ++ (ints l).drop i ++ ar1.toArray.toList.drop (i + 1 + ((ints l).drop i).length) := ⟨_, rfl⟩
  rw [← har2]
  have hl4 : ar2.length = gc := by rw [har2]; simp [hl3, hlen]; omega
  have hg2 := setRow_heap ((w.alloc (.cells ar0.toArray (ρ.t 3))).drew.setRow w.heap.size ar1.toArray).drew w.heap.size ar1.toArray ar2.toArray (ρ.t 3) (0, 0) hg1'
  refine vp (g := w.heap.size) (vb := vb') (cap := gc) (arr := ar2) (rest := z2) (R' := R.more w.heap.size) hnx (fun bs hb => ?_) U0 (by omega) hnd2 hg2 ?_ hfl2 (fun j _ => hRm j) hl4 hgm (by rw [hl2]; exact hge) hrest0 _ (by rw [hl2])
  ·have k1 : bz w R (w.alloc (.cells ar0.toArray (ρ.t 3))) (R.more w.heap.size) bs := eH _ (fun b off hb => Own.lj hb) bs
   have k2 := nA (R := R.more w.heap.size) hg0 ar1.toArray (by simp [hl0, hl3]) (fun j _ => hRm j) (by simp [hl0]; omega) bs hb
   have k3 := nA (R := R.more w.heap.size) hg1' ar2.toArray (by simp [hl4, hl3]) (fun j _ => hRm j) (by simp [hl3]; omega) bs hb
   exact k1.trans (sD (k2.trans (sD k3)))
  have e0 : ((ints l).take i).length = i := by simp [hlen]; omega
  obtain ⟨zz, z1', hz⟩ : ∃ zz z1', z1 = zz :: z1' := by
   cases z1 with
   | nil => simp at hl1; omega
   | cons a r => exact ⟨a, r, rfl⟩
  have hl5 : z1'.length = l.length - i := by rw [hz] at hl1; simp at hl1; omega
  have e1 : ar1 = (ints l).take i ++ .int .i64 x :: (z1' ++ z2) := by
   rw [har1, har0, hz]
   simp only [List.toList_toArray, List.length_singleton]
   exact Pq _ z1' z2 (.int .i64 x) zz i e0
  rw [har2, e1, ma]
  simp only [List.toList_toArray]
  have e2 : ((ints l).take i ++ .int .i64 x :: (z1' ++ z2)).take (i + 1) = (ints l).take i ++ [.int .i64 x] := by
   rw [List.take_append, e0]
   simp [List.take_take]
  have e3 : ((ints l).take i ++ .int .i64 x :: (z1' ++ z2)).drop (i + 1 + ((ints l).drop i).length) = z2 := by
   have : i + 1 + ((ints l).drop i).length = ((ints l).take i).length + (1 + z1'.length) := by rw [e0, hd, hl5]; omega
   rw [this, List.drop_length_add_append, Nat.add_comm 1, List.drop_succ_cons, List.drop_left]
  rw [e2, e3]
  simp
 have hil : i = l.length := by omega
 subst hil
 refine (Any2.slices_Insert_int_end_grow L (some ⟨b', 0, none⟩) l.length l.length vb' 0 1 vc (ints l) [.int .i64 x] w (by decide) (Nat.le_refl _) (by omega) (by omega) hlen rfl (by simp) (fun a ha j v hj => ?_) hvs h1v).mono ?_
 ·simp only [Option.some.injEq] at ha
  subst ha
  rw [add_plain]
  exact hcs j v hj
 rw [hgc]
 rintro e w' ⟨rfl, rfl⟩
 obtain ⟨ar2, har2⟩ : ∃ ar2, ar2 = (ints l ++ [.int .i64 x]) ++ (Builtin.zeroCells (Value.int .i64 0).cells (gc - (l.length + 1))).toList := ⟨_, rfl⟩
 have hcells : ((ints l ++ [Value.int .i64 x]).toArray ++ Builtin.zeroCells (Value.int .i64 0).cells (gc - (l.length + 1))) = ar2.toArray := by rw [har2]; simp
 rw [hcells]
 have hl3 : ar2.length = gc := by rw [har2, List.length_append, hzs]; simp [hlen]; omega
 have hg3 : (w.drew.alloc (.cells ar2.toArray (ρ.t 3))).heap[w.heap.size]? = some (.cells ar2.toArray (ρ.t 3) (0, 0)) := heap_alloc_new w.drew _
 refine vp (g := w.heap.size) (vb := vb') (cap := gc) (arr := ar2) (rest := (Builtin.zeroCells (Value.int .i64 0).cells (gc - (l.length + 1))).toList) (R' := R.more w.heap.size) hnx (fun bs hb => fW _ (fun b off hb => Own.lj hb) bs) U0 (by omega) hnd2 hg3 ?_ hfl2 (fun j _ => hRm j) hl3 hgm (by rw [hl2]; exact hge) hrest0 _ (by rw [hl2])
 rw [har2, ma, ← hlen, List.take_length, List.drop_length]
/-- .. on nothing. -/
theorem Bw (L : Lays2.n21 P ρ) {x : Int} :
  ay P G (ρ.f 21) [.dat (.flat (.slice none 0 0)), iv (Int.ofNat 0), .win (.out 0) 1 0 1] [(.out 0, .cells [iv x])] 1
   (XQ ⟨.win (.out 1) 1 0 1, [(.out 1, .cells [iv x]), (.out 0, .cells [iv x])], 2⟩) := by
 intro w R N cargs bsA bsH bsF hargs hheap hnd hnx hglob hF
 obtain ⟨v0, r1, c0, d1, rfl, rfl, h0, hr1⟩ := aD hargs
 obtain ⟨v1, r2, c1, d2, rfl, rfl, h1, hr2⟩ := aD hr1
 obtain ⟨v2, r3, c2, d3, rfl, rfl, h2, hr3⟩ := aD hr2
 obtain ⟨rfl, rfl⟩ := aV hr3
 have hheap0 := hheap
 obtain ⟨vb, b3, b4, rfl, hvb, hobjv, hrest⟩ := hheap
 have hrest : b4 = [] := hrest
 subst hrest
 obtain ⟨vs2, elem2, sp2, hblk2, hrv2, hRv2, _⟩ := hobjv
 simp only [ak] at h0 h1 h2
 obtain ⟨rfl, h0⟩ := h0
 have hv : v0 = .slice none 0 0 := by
  have h0 : ev w R v0 (.flat (.slice none 0 0)) := h0
  cases h0 with | flat _ => rfl
 subst hv
 obtain ⟨rfl, vb', vc, hvb', rfl, hvc, _, hvlt, hvrow⟩ := h2
 have : vb' = vb := by rw [hvb] at hvb'; simpa using hvb'.symm
 subst this
 obtain ⟨rfl, h1⟩ := h1
 have h1 : ev w R v1 (.flat (.int .i64 (Int.ofNat 0))) := h1
 have e1 : v1 = .int .i64 (Int.ofNat 0) := by cases h1 with | flat _ => rfl
 subst e1
 obtain ⟨ws1, ws2, q3, q4, hws, rfl, hr2, hq4⟩ := eA hrv2
 obtain ⟨rfl, rfl, hfx⟩ := oH (l := [x]) hr2
 obtain ⟨rfl, _⟩ := oq hq4
 simp only [List.nil_append, List.append_nil] at hnd
 have hvs : ∀ j v, [Value.int .i64 x][j]? = some v -> w.cell? ⟨vb', 0 + j, none⟩ = some v := by
  intro j v hj
  refine jP hblk2 ?_
  rw [hws]
  cases j with
  | zero => simpa [ints] using hj
  | succ j => simp at hj
 have h1v : ∀ v ∈ [Value.int .i64 x], v.oneCell' = true := by intro v hv; simp at hv; subst hv; rfl
 have hltv : vb' < w.heap.size := bF hblk2
 have U0 : w.heap.size ∉ bsF := fun h => by have := hF _ h; omega
 refine (Any2.slices_Insert_int_end_grow L none 0 0 vb' 0 1 vc [] [.int .i64 x] w (by decide) (Nat.le_refl _) (by omega) (by omega) rfl rfl (by simp) (by simp) hvs h1v).mono ?_
 have hge := grownCap_ge w (0 + 1) 0 (ρ.t 3)
 have hgm : grownCap w (0 + 1) 0 (ρ.t 3) <= im := Nat.le_trans (grownCap_le_maxLen w (0 + 1) 0 (ρ.t 3) (by unfold maxLen; omega)) (by decide)
 generalize hgc : grownCap w (0 + 1) 0 (ρ.t 3) = gc at hge hgm
 have hzs : ∀ n, (Builtin.zeroCells (Value.int .i64 0).cells n).toList.length = n := fun n => by simp [Builtin.zeroCells, Value.cells]
 rintro e w' ⟨rfl, rfl⟩
 obtain ⟨ar2, har2⟩ : ∃ ar2, ar2 = Value.int .i64 x :: (Builtin.zeroCells (Value.int .i64 0).cells (gc - (0 + 1))).toList := ⟨_, rfl⟩
 have hcells : (([] ++ [Value.int .i64 x]).toArray ++ Builtin.zeroCells (Value.int .i64 0).cells (gc - (0 + 1))) = ar2.toArray := by
  apply Array.toList_inj.1
  rw [har2]
  simp
 rw [hcells]
 have hl3 : ar2.length = gc := by rw [har2, List.length_cons, hzs]; omega
 have hg3 : (w.drew.alloc (.cells ar2.toArray (ρ.t 3))).heap[w.heap.size]? = some (.cells ar2.toArray (ρ.t 3) (0, 0)) := heap_alloc_new w.drew _
 have hk : ∀ bs, bz w R (w.drew.alloc (.cells ar2.toArray (ρ.t 3))) (R.more w.heap.size) bs := fun bs => fW _ (fun b off hb => Own.lj hb) bs
 have hext := we (N := N) (b := w.heap.size) hnx
 refine ⟨_, _, _, 2, R.more w.heap.size, bS N (.out 1) w.heap.size, [], [w.heap.size, vb'], rfl, ⟨rfl, rfl, rfl⟩, ?_, ?_, ?_, ?_, hk bsF, fun o b h => hext _ _ h⟩
 ·simp only [ak]
  refine ⟨trivial, w.heap.size, gc, by simp [outs, bS], rfl, hge, ⟨by decide, hgm⟩, bF hg3, ?_⟩
  rw [dU hg3]
  simp [hl3]
 ·refine ⟨w.heap.size, [], [vb'], rfl, by simp [outs, bS], ?_, ((by simpa using hheap0 : al w R (outs N) _ [vb']).keep (hk _)).ext (wN hext)⟩
  refine ⟨ar2.toArray, ρ.t 3, (Builtin.zeroCells (Value.int .i64 0).cells (gc - (0 + 1))).toList.length, hg3, ?_, fun j _ => .inl rfl, fun h => by simp [cM] at h⟩
  have h2 := fD (w := w.drew.alloc (.cells ar2.toArray (ρ.t 3))) (R := R.more w.heap.size) (N := outs (bS N (.out 1) w.heap.size)) (Builtin.zeroCells (Value.int .i64 0).cells (gc - (0 + 1))).toList
  have h3 : ag (w.drew.alloc (.cells ar2.toArray (ρ.t 3))) (R.more w.heap.size) (outs (bS N (.out 1) w.heap.size)) (vo [x]) (ints [x]) [] := Fh hfx
  have h4 := cE h3 h2
  have e : ar2.toArray.toList = ints [x] ++ (Builtin.zeroCells (Value.int .i64 0).cells (gc - (0 + 1))).toList := by rw [har2]; rfl
  rw [e]
  exact h4
 ·simp only [List.nil_append, List.cons_append]
  refine List.nodup_cons.2 ⟨?_, hnd⟩
  simp only [List.mem_cons, not_or]
  exact ⟨by omega, U0⟩
 intro o c ho
 by_cases hne : o = 1
 ·omega
 have : N (.out o) = some c := by simpa [bS, hne] using ho
 have := hnx o c this
 omega
/-- A row that nobody changes any more is data. -/
theorem ay.PB {g : FuncId} {args : List ac} {r m : Nat} {l : List Int} {rest : Heap} (h : ay P G g args [] 0 (XQ ⟨.win (.out r) 1 0 l.length, (.out r, .cells (vo l)) :: rest, m⟩)) (hn : l.length <= iV) :
  ay P G g args [] 0 (XQ ⟨.dat (.slice (l.map fun x => .flat (.int .i64 x))), [], 0⟩) := by
 intro w R N cargs bsA bsH bsF ha hh hnd hnx hg hF
 refine (h w R N cargs bsA bsH bsF ha hh hnd hnx hg hF).mono ?_
 rintro e w' ⟨v, cv, hp, m', R', N', bsV, bsH', rfl, ⟨rfl, rfl, rfl⟩, hv, hh', hnd', hnx', hk, hN⟩
 simp only [ak] at hv
 obtain ⟨rfl, b, cap, hb, rfl, hcap, _, hblt, hrow⟩ := hv
 obtain ⟨b', b1, b2, rfl, hb', hobj, hrest⟩ := hh'
 have : b' = b := by rw [hb] at hb'; simpa using hb'.symm
 subst this
 obtain ⟨vs, elem, sp, hblk, hrv, hRv, _⟩ := hobj
 obtain ⟨us1, us2, q1, q2, hus, rfl, hr1, _⟩ := eA hrv
 obtain ⟨rfl, rfl, hfl⟩ := oH hr1
 have hbF : b' ∉ bsF := by
  intro hm
  have h1 : (b' :: ((([] ++ q2) ++ b2) ++ bsF)).Nodup := by simpa using hnd'
  exact (List.nodup_cons.1 h1).1 (List.mem_append_right _ hm)
 let R2 : Own := fun c off => c ≠ b' /\ R' c off
 have hk2 : bz w' R' w' R2 bsF := ⟨⟨rfl, rfl, rfl, Nat.le_refl _, fun c _ hno => ⟨rfl, fun off h => hno off h.2⟩, fun c off _ hno => ⟨fun h => hno h.2, rfl⟩, fun _ _ => rfl⟩, fun c hc _ => ⟨rfl, fun off h => ⟨fun e => hbF (e ▸ hc), h⟩⟩⟩
 refine ⟨_, _, _, 0, R2, fun m => match m with | .loc i => N' (.loc i) | .out _ => none, [], [], rfl, ⟨rfl, rfl, rfl⟩, ?_, rfl, ?_, by intro o c ho; simp at ho, hk.trans hk2, ?_⟩
 ·simp only [ak]
  refine ⟨trivial, ?_⟩
  have hl : l.length = (l.map fun x => aq.flat (.int .i64 x)).length := by simp
  rw [hl]
  refine ev.slice b' 0 cap 1 _ (fun i _ => .int .i64 (l.getD i 0)) (by decide) ?_ (by simpa using hcap) (by simpa using hn) ?_ ?_
  ·intro e he
   obtain ⟨x, _, rfl⟩ := List.mem_map.1 he
   rfl
  ·intro i j hi hj
   have : j = 0 := by omega
   subst this
   simp only [List.length_map] at hi
   refine ⟨?_, fun h => h.1 rfl⟩
   refine jP hblk ?_
   rw [hus, show 0 + i * 1 + 0 = i by omega, List.getElem?_append_left (by simp [ints]; exact hi)]
   simp [ints, hi]
  intro i j e c he hc
  simp only [List.getElem?_map, Option.map_eq_some_iff] at he
  obtain ⟨x, hx, rfl⟩ := he
  have hc2 : c = .flat (.int .i64 x) := by
   have hc : [aq.flat (.int .i64 x)][j]? = some c := hc
   cases j with
   | zero => simpa using hc.symm
   | succ j => simp at hc
  subst hc2
  obtain ⟨hi, rfl⟩ := List.getElem?_eq_some_iff.1 hx
  have : l.getD i 0 = l[i] := by simp [hi]
  rw [this]
  exact .flat (hfl _ (List.getElem_mem hi))
 ·have h1 : (b' :: ((([] ++ q2) ++ b2) ++ bsF)).Nodup := by simpa using hnd'
  have h2 := (List.nodup_cons.1 h1).2
  simpa using (List.nodup_append.1 h2).2.1
 intro o c ho
 have := hnx o c ho
 omega
end
end Go.Tp
