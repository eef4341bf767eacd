/- HierarchyTree returns true and changes nothing, for arguments of bulk at most 1048576 (the card of the second form; conditions: those of the given row). Names are shortened by a program, for the claim's bound. Part 4. -/
import Derived.Test.YtiihadmgkoamoaaGreatDoorProg
import Derived.KernelRfl
import Derived.Shelf.SlMaps.Clone
import Derived.Shelf.SlicesE.Clone
import Derived.Shelf.SlicesE.Delete
import Derived.Ground.Names2Prog
import Derived.Shelf.Lays2
import Derived.Shelf.Slices.SearchI
import Derived.Shelf.Spec.SlicesInsert
import Derived.Shelf.Spec.SlicesInsertGrow
import Derived.Test.YtiihadmgkoamoaaGreatDoorQ03
set_option linter.unusedVariables false
set_option linter.unusedSimpArgs false
set_option maxRecDepth 100000
set_option maxHeartbeats 4000000
namespace Go.Proofs.YtiihadmgkoamoaaGreatDoor
open Go.Tp

theorem XD : TI.ok Tryz.prog 3 ⟨.int .i64, 1, 8, .int .i64 0⟩ := ⟨⟨Tryz.t3, by kernel_rfl, rfl, rfl, rfl, rfl⟩, Tryz.underlying3⟩
theorem XC : TI.ok Tryz.prog 4 ⟨.bool, 1, 1, .bool false⟩ := ⟨⟨Tryz.t4, by kernel_rfl, rfl, rfl, rfl, rfl⟩, Tryz.underlying4⟩
theorem XB : TI.ok Tryz.prog 5 ⟨.int .u8, 1, 1, .int .u8 0⟩ := ⟨⟨Tryz.t5, by kernel_rfl, rfl, rfl, rfl, rfl⟩, Tryz.underlying5⟩
theorem XA : TI.ok Tryz.prog 9 ⟨.string, 1, 16, .string ⟨#[]⟩⟩ := ⟨⟨Tryz.t9, by kernel_rfl, rfl, rfl, rfl, rfl⟩, Tryz.underlying9⟩
theorem Vq : TI.ok Tryz.prog 22 ⟨.slice 3, 1, 24, .slice none 0 0⟩ := ⟨⟨Tryz.t22, by kernel_rfl, rfl, rfl, rfl, rfl⟩, Tryz.underlying22⟩
theorem Vp : TI.ok Tryz.prog 23 ⟨.slice 35, 1, 24, .slice none 0 0⟩ := ⟨⟨Tryz.t23, by kernel_rfl, rfl, rfl, rfl, rfl⟩, Tryz.underlying23⟩
theorem Vo : TI.ok Tryz.prog 25 ⟨.pointer, 1, 8, .pointer none⟩ := ⟨⟨Tryz.t25, by kernel_rfl, rfl, rfl, rfl, rfl⟩, ⟨_, Tryz.underlying25⟩⟩
theorem Vn : TI.ok Tryz.prog 26 ⟨.pointer, 1, 8, .pointer none⟩ := ⟨⟨Tryz.t26, by kernel_rfl, rfl, rfl, rfl, rfl⟩, ⟨_, Tryz.underlying26⟩⟩
theorem Vm : TI.ok Tryz.prog 30 ⟨.slice 32, 1, 24, .slice none 0 0⟩ := ⟨⟨Tryz.t30, by kernel_rfl, rfl, rfl, rfl, rfl⟩, Tryz.underlying30⟩
theorem Vl : TI.ok Tryz.prog 32 ⟨.struct [(0, 3), (1, 9), (2, 3), (3, 30)], 4, 56, .agg #[.int .i64 0, .string ⟨#[]⟩, .int .i64 0, .slice none 0 0]⟩ := ⟨⟨Tryz.t32, by kernel_rfl, rfl, rfl, rfl, rfl⟩, ⟨_, Tryz.underlying32, rfl, [(0, 1), (1, 1), (2, 1), (3, 1)], by kernel_rfl⟩⟩
theorem Vk : TI.ok Tryz.prog 33 ⟨.slice 75, 1, 24, .slice none 0 0⟩ := ⟨⟨Tryz.t33, by kernel_rfl, rfl, rfl, rfl, rfl⟩, Tryz.underlying33⟩
theorem Vj : TI.ok Tryz.prog 35 ⟨.struct [(0, 9), (1, 3), (2, 32), (6, 4), (7, 33)], 8, 112, .agg #[.string ⟨#[]⟩, .int .i64 0, .int .i64 0, .string ⟨#[]⟩, .int .i64 0, .slice none 0 0, .bool false, .slice none 0 0]⟩ := ⟨⟨Tryz.t35, by kernel_rfl, rfl, rfl, rfl, rfl⟩, ⟨_, Tryz.underlying35, rfl, [(0, 1), (1, 1), (2, 4), (6, 1), (7, 1)], by kernel_rfl⟩⟩
theorem Vi : TI.ok Tryz.prog 39 ⟨.pointer, 1, 8, .pointer none⟩ := ⟨⟨Tryz.t39, by kernel_rfl, rfl, rfl, rfl, rfl⟩, ⟨_, Tryz.underlying39⟩⟩
theorem Vh : TI.ok Tryz.prog 41 ⟨.int .i64, 1, 8, .int .i64 0⟩ := ⟨⟨Tryz.t41, by kernel_rfl, rfl, rfl, rfl, rfl⟩, Tryz.underlying41⟩
theorem Vg : TI.ok Tryz.prog 60 ⟨.slice 9, 1, 24, .slice none 0 0⟩ := ⟨⟨Tryz.t60, by kernel_rfl, rfl, rfl, rfl, rfl⟩, Tryz.underlying60⟩
theorem Vf : TI.ok Tryz.prog 67 ⟨.func, 1, 8, .nilFunc⟩ := ⟨⟨Tryz.t67, by kernel_rfl, rfl, rfl, rfl, rfl⟩, ⟨_, _, _, Tryz.underlying67⟩⟩
theorem Ve : TI.ok Tryz.prog 75 ⟨.struct [(0, 9), (1, 32)], 5, 72, .agg #[.string ⟨#[]⟩, .int .i64 0, .string ⟨#[]⟩, .int .i64 0, .slice none 0 0]⟩ := ⟨⟨Tryz.t75, by kernel_rfl, rfl, rfl, rfl, rfl⟩, ⟨_, Tryz.underlying75, rfl, [(0, 1), (1, 4)], by kernel_rfl⟩⟩
theorem Vd : TI.ok Tryz.prog 78 ⟨.struct [(0, 22), (1, 3)], 2, 32, .agg #[.slice none 0 0, .int .i64 0]⟩ := ⟨⟨Tryz.t78, by kernel_rfl, rfl, rfl, rfl, rfl⟩, ⟨_, Tryz.underlying78, rfl, [(0, 1), (1, 1)], by kernel_rfl⟩⟩
theorem Vc : TI.ok Tryz.prog 80 ⟨.map 9 3, 1, 8, .map none⟩ := ⟨⟨Tryz.t80, by kernel_rfl, rfl, rfl, rfl, rfl⟩, Tryz.underlying80⟩
theorem Vb : TI.ok Tryz.prog 82 ⟨.struct [(0, 23), (1, 80)], 2, 32, .agg #[.slice none 0 0, .map none]⟩ := ⟨⟨Tryz.t82, by kernel_rfl, rfl, rfl, rfl, rfl⟩, ⟨_, Tryz.underlying82, rfl, [(0, 1), (1, 1)], by kernel_rfl⟩⟩
theorem Va : TI.ok Tryz.prog 86 ⟨.func, 1, 8, .nilFunc⟩ := ⟨⟨Tryz.t86, by kernel_rfl, rfl, rfl, rfl, rfl⟩, ⟨_, _, _, Tryz.underlying86⟩⟩
theorem U9 : TI.ok Tryz.prog 88 ⟨.struct [(0, 23)], 1, 24, .agg #[.slice none 0 0]⟩ := ⟨⟨Tryz.t88, by kernel_rfl, rfl, rfl, rfl, rfl⟩, ⟨_, Tryz.underlying88, rfl, [(0, 1)], by kernel_rfl⟩⟩
theorem U8 : TI.ok Tryz.prog 97 ⟨.map 9 4, 1, 8, .map none⟩ := ⟨⟨Tryz.t97, by kernel_rfl, rfl, rfl, rfl, rfl⟩, Tryz.underlying97⟩
theorem SF : TI.ok Tryz.prog 125 ⟨.func, 1, 8, .nilFunc⟩ := ⟨⟨Tryz.t125, by kernel_rfl, rfl, rfl, rfl, rfl⟩, ⟨_, _, _, Tryz.underlying125⟩⟩
theorem SE : TI.ok Tryz.prog 128 ⟨.pointer, 1, 8, .pointer none⟩ := ⟨⟨Tryz.t128, by kernel_rfl, rfl, rfl, rfl, rfl⟩, ⟨_, Tryz.underlying128⟩⟩
theorem SD : TI.ok Tryz.prog 129 ⟨.func, 1, 8, .nilFunc⟩ := ⟨⟨Tryz.t129, by kernel_rfl, rfl, rfl, rfl, rfl⟩, ⟨_, _, _, Tryz.underlying129⟩⟩
theorem SC : TI.ok Tryz.prog 141 ⟨.func, 1, 8, .nilFunc⟩ := ⟨⟨Tryz.t141, by kernel_rfl, rfl, rfl, rfl, rfl⟩, ⟨_, _, _, Tryz.underlying141⟩⟩
theorem SB : TI.ok Tryz.prog 147 ⟨.func, 1, 8, .nilFunc⟩ := ⟨⟨Tryz.t147, by kernel_rfl, rfl, rfl, rfl, rfl⟩, ⟨_, _, _, Tryz.underlying147⟩⟩
theorem SA : TI.ok Tryz.prog 157 ⟨.int .u64, 1, 8, .int .u64 0⟩ := ⟨⟨Tryz.t157, by kernel_rfl, rfl, rfl, rfl, rfl⟩, Tryz.underlying157⟩
theorem Sz : TI.ok Tryz.prog 165 ⟨.struct [(0, 22)], 1, 24, .agg #[.slice none 0 0]⟩ := ⟨⟨Tryz.t165, by kernel_rfl, rfl, rfl, rfl, rfl⟩, ⟨_, Tryz.underlying165, rfl, [(0, 1)], by kernel_rfl⟩⟩
theorem Sy : TI.ok Tryz.prog 167 ⟨.pointer, 1, 8, .pointer none⟩ := ⟨⟨Tryz.t167, by kernel_rfl, rfl, rfl, rfl, rfl⟩, ⟨_, Tryz.underlying167⟩⟩
def RK : Tr := (.node (.node (.node (.node (.node .nil 3 ⟨.int .i64, 1, 8, .int .i64 0⟩ .nil) 4 ⟨.bool, 1, 1, .bool false⟩ (.node .nil 5 ⟨.int .u8, 1, 1, .int .u8 0⟩ .nil)) 9 ⟨.string, 1, 16, .string ⟨#[]⟩⟩ (.node (.node .nil 22 ⟨.slice 3, 1, 24, .slice none 0 0⟩ .nil) 23 ⟨.slice 35, 1, 24, .slice none 0 0⟩ (.node .nil 25 ⟨.pointer, 1, 8, .pointer none⟩ .nil))) 26 ⟨.pointer, 1, 8, .pointer none⟩ (.node (.node (.node .nil 30 ⟨.slice 32, 1, 24, .slice none 0 0⟩ .nil) 32 ⟨.struct [(0, 3), (1, 9), (2, 3), (3, 30)], 4, 56, .agg #[.int .i64 0, .string ⟨#[]⟩, .int .i64 0, .slice none 0 0]⟩ (.node .nil 33 ⟨.slice 75, 1, 24, .slice none 0 0⟩ .nil)) 35 ⟨.struct [(0, 9), (1, 3), (2, 32), (6, 4), (7, 33)], 8, 112, .agg #[.string ⟨#[]⟩, .int .i64 0, .int .i64 0, .string ⟨#[]⟩, .int .i64 0, .slice none 0 0, .bool false, .slice none 0 0]⟩ (.node (.node .nil 39 ⟨.pointer, 1, 8, .pointer none⟩ .nil) 41 ⟨.int .i64, 1, 8, .int .i64 0⟩ (.node .nil 60 ⟨.slice 9, 1, 24, .slice none 0 0⟩ .nil)))) 67 ⟨.func, 1, 8, .nilFunc⟩ (.node (.node (.node (.node .nil 75 ⟨.struct [(0, 9), (1, 32)], 5, 72, .agg #[.string ⟨#[]⟩, .int .i64 0, .string ⟨#[]⟩, .int .i64 0, .slice none 0 0]⟩ .nil) 78 ⟨.struct [(0, 22), (1, 3)], 2, 32, .agg #[.slice none 0 0, .int .i64 0]⟩ (.node .nil 80 ⟨.map 9 3, 1, 8, .map none⟩ .nil)) 82 ⟨.struct [(0, 23), (1, 80)], 2, 32, .agg #[.slice none 0 0, .map none]⟩ (.node (.node .nil 86 ⟨.func, 1, 8, .nilFunc⟩ .nil) 88 ⟨.struct [(0, 23)], 1, 24, .agg #[.slice none 0 0]⟩ (.node .nil 97 ⟨.map 9 4, 1, 8, .map none⟩ .nil))) 125 ⟨.func, 1, 8, .nilFunc⟩ (.node (.node (.node .nil 128 ⟨.pointer, 1, 8, .pointer none⟩ .nil) 129 ⟨.func, 1, 8, .nilFunc⟩ (.node .nil 141 ⟨.func, 1, 8, .nilFunc⟩ .nil)) 147 ⟨.func, 1, 8, .nilFunc⟩ (.node (.node .nil 157 ⟨.int .u64, 1, 8, .int .u64 0⟩ .nil) 165 ⟨.struct [(0, 22)], 1, 24, .agg #[.slice none 0 0]⟩ (.node .nil 167 ⟨.pointer, 1, 8, .pointer none⟩ .nil)))))
theorem KU : RK.Fb Tryz.prog := (Tr.al (Tr.al (Tr.al (Tr.al (Tr.al Tr.all_nil XD Tr.all_nil) XC (Tr.al Tr.all_nil XB Tr.all_nil)) XA (Tr.al (Tr.al Tr.all_nil Vq Tr.all_nil) Vp (Tr.al Tr.all_nil Vo Tr.all_nil))) Vn (Tr.al (Tr.al (Tr.al Tr.all_nil Vm Tr.all_nil) Vl (Tr.al Tr.all_nil Vk Tr.all_nil)) Vj (Tr.al (Tr.al Tr.all_nil Vi Tr.all_nil) Vh (Tr.al Tr.all_nil Vg Tr.all_nil)))) Vf (Tr.al (Tr.al (Tr.al (Tr.al Tr.all_nil Ve Tr.all_nil) Vd (Tr.al Tr.all_nil Vc Tr.all_nil)) Vb (Tr.al (Tr.al Tr.all_nil Va Tr.all_nil) U9 (Tr.al Tr.all_nil U8 Tr.all_nil))) SF (Tr.al (Tr.al (Tr.al Tr.all_nil SE Tr.all_nil) SD (Tr.al Tr.all_nil SC Tr.all_nil)) SB (Tr.al (Tr.al Tr.all_nil SA Tr.all_nil) Sz (Tr.al Tr.all_nil Sy Tr.all_nil)))))
def Xf (f : Nat) : Bool := Nat.ble 0 f && Nat.ble f 206 && !(match f with | 0 => true | 1 => true | 97 => true | 132 => true | 194 => true | 201 => true | _ => false)
def XP (t : Nat) : Option TI := match t with
  | 0 => none
  | t => RK.find t
def env (pr : ay) : bq := ⟨XP, Xf, pr⟩
theorem Us : (List.range 207).all (fun k => !(Xf (0 + k)) || Ut Tryz.prog (0 + k)) = true := by kernel_rfl
theorem Kg (f : Nat) (h : Xf f = true) : 0 ≤ f ∧ f ≤ 206 := by
  unfold Xf at h
  simp only [Bool.and_eq_true, Nat.ble_eq] at h
  exact h.1
theorem Xb (f : Nat) (h : Xf f = true) : Ut Tryz.prog f = true := by
  have hb := Kg f h
  have h1 := List.all_eq_true.1 Us (f - 0) (List.mem_range.2 (by omega))
  rw [show 0 + (f - 0) = f by omega] at h1
  rw [h, Bool.not_true, Bool.false_or] at h1
  exact h1
theorem UE : (env ay.lE).Ok Tryz.prog where
  ty t i h := by
    have h : XP t = some i := h
    unfold XP at h
    split at h
    · simp at h
    · exact Tr.Ck KU h
  fn f h := by
    have h1 := Xb f h
    unfold Ut at h1
    split at h1
    · rename_i g hg
      simp at h1
      exact ⟨g, hg, by simp [h1.1], by simpa using h1.2⟩
    · simp at h1
  mixed := by kernel_rfl
  lE := rfl

def au : FuncId → Bool := fun f => match f with | 28 => true | 180 => true | 191 => true | _ => false
def ax : FuncId → Bool := fun f => match f with | 4000000 => true | 1000052 => true | 1000151 => true | 1000170 => true | 2000024 => true | 2000075 => true | 2000082 => true | 3000019 => true | 3000062 => true | _ => false
def FO : Nat → az := fun n => match n with | 6 => ⟨[(0, false), (1, false), (2, false), (3, false), (8, false), (9, false), (10, false), (11, false), (4, true), (5, false), (6, false), (7, false), (12, true), (13, false), (14, false), (15, false), (16, false)], none, [], [17]⟩ | _ => default
def AB : Nat → Nat := fun n => match n with | 0 => 15 | 1 => 3598 | 2 => 68719478286 | 3 => 256 | 4 => 4620 | 5 => 12812 | 6 => 53760 | 7 => 250368 | 8 => 1032704 | 9 => 604462909807314587730432 | 10 => 256 | 11 => 3523072 | 12 => 16105984 | 13 => 256 | _ => 0
theorem XN : aM Tryz.prog au ax 4 Tryz.f4 FO := ao Tryz.func4 (by kernel_rfl)
def S7 : Nat → az := fun _ => default
def Sc : Nat → Nat := fun n => match n with | 0 => 1 | 1 => 4 | _ => 0
theorem XM : aM Tryz.prog au ax 9 Tryz.f9 S7 := ao Tryz.func9 (by kernel_rfl)
def H8 : Nat → az := fun n => match n with | 7 => ⟨[(0, false), (1, false), (2, false), (3, false), (4, false), (6, false), (7, false), (8, false), (9, false), (10, false), (5, true)], none, [], [11, 12]⟩ | _ => default
def B1 : Nat → Nat := fun n => match n with | 0 => 1 | 1 => 97 | 2 => 2145 | 3 => 28 | 4 => 225 | 5 => 65761 | 6 => 225 | 7 => 2147483873 | 8 => 28 | 9 => 28 | _ => 0
theorem Xa : aM Tryz.prog au ax 10 Tryz.f10 H8 := ao Tryz.func10 (by kernel_rfl)
def Sa : Nat → az := fun n => match n with | 5 => ⟨[(0, false), (1, false), (2, false), (3, true), (4, false), (5, true)], none, [], [6, 7, 8, 9, 10, 11, 12, 13, 14]⟩ | _ => default
def Tk : Nat → Nat := fun n => match n with | 0 => 0 | 1 => 2 | 2 => 2097154 | 3 => 1 | 4 => 14 | 5 => 1 | _ => 0
theorem W9 : aM Tryz.prog au ax 11 Tryz.f11 Sa := ao Tryz.func11 (by kernel_rfl)
def MQ : Nat → az := fun _ => default
def ND : Nat → Nat := fun n => match n with | 0 => 3 | 1 => 3 | 2 => 515 | 3 => 1 | 4 => 16 | _ => 0
theorem W8 : aM Tryz.prog au ax 13 Tryz.f13 MQ := ao Tryz.func13 (by kernel_rfl)
def MM : Nat → az := fun _ => default
def NC : Nat → Nat := fun n => match n with | 0 => 1 | 1 => 4 | _ => 0
theorem W7 : aM Tryz.prog au ax 15 Tryz.f15 MM := ao Tryz.func15 (by kernel_rfl)
def H7 : Nat → az := fun n => match n with | 14 => ⟨[(0, false), (1, false), (2, true)], none, [], [3]⟩ | _ => default
def Gp : Nat → Nat := fun n => match n with | 0 => 12 | 1 => 108 | 2 => 65644 | 3 => 16 | 4 => 1048684 | 5 => 16 | 6 => 1073741900 | 7 => 16 | 8 => 137438953484 | 9 => 16 | 10 => 549755813900 | 11 => 16 | 12 => 70368744177676 | 13 => 16 | 14 => 12 | 15 => 576460752303423500 | 16 => 0 | 17 => 16 | 18 => 140 | 19 => 151115727451828646838276 | 20 => 0 | 21 => 16 | 22 => 16 | _ => 0
theorem W6 : aM Tryz.prog au ax 16 Tryz.f16 H7 := ao Tryz.func16 (by kernel_rfl)
def DN : Nat → az := fun n => match n with | 11 => ⟨[(0, false), (2, false), (3, false), (1, true)], none, [], [4, 5, 6, 7]⟩ | _ => default
def tA : Nat → Nat := fun n => match n with | 0 => 9 | 1 => 41 | 2 => 32809 | 3 => 16 | 4 => 201 | 5 => 16777289 | 6 => 134217728 | 7 => 16 | 8 => 16 | 9 => 8589934601 | 10 => 16 | 11 => 265 | 12 => 35184372089097 | 13 => 16 | 14 => 777 | 15 => 1125899906843401 | 16 => 777 | 17 => 2305843009213694729 | 18 => 16 | 19 => 3329 | 20 => 18889465931478580855041 | 21 => 16 | 22 => 0 | 23 => 16 | _ => 0
theorem W5 : aM Tryz.prog au ax 17 Tryz.f17 DN := ao Tryz.func17 (by kernel_rfl)
def H6 : Nat → az := fun n => match n with | 6 => ⟨[(0, false), (1, false), (2, false), (3, false), (4, false), (5, false), (6, false), (7, false)], none, [], [8, 9]⟩ | _ => default
def BY : Nat → Nat := fun n => match n with | 0 => 3 | 1 => 1027 | 2 => 16 | 3 => 35 | 4 => 16419 | 5 => 35 | 6 => 67108899 | 7 => 16 | 8 => 16 | _ => 0
theorem W4 : aM Tryz.prog au ax 18 Tryz.f18 H6 := ao Tryz.func18 (by kernel_rfl)
def H5 : Nat → az := fun _ => default
def BX : Nat → Nat := fun n => match n with | 0 => 1 | 1 => 9 | 2 => 3592 | 3 => 7688 | 4 => 3624 | 5 => 3592 | 6 => 3592 | 7 => 4 | _ => 0
theorem W3 : aM Tryz.prog au ax 19 Tryz.f19 H5 := ao Tryz.func19 (by kernel_rfl)
def MH : Nat → az := fun _ => default
def NB : Nat → Nat := fun n => match n with | 0 => 1 | 1 => 4 | _ => 0
theorem W2 : aM Tryz.prog au ax 20 Tryz.f20 MH := ao Tryz.func20 (by kernel_rfl)
def MC : Nat → az := fun _ => default
def NA : Nat → Nat := fun n => match n with | 0 => 19 | 1 => 16 | _ => 0
theorem W1 : aM Tryz.prog au ax 21 Tryz.f21 MC := ao Tryz.func21 (by kernel_rfl)
def MB : Nat → az := fun _ => default
def Nz : Nat → Nat := fun n => match n with | 0 => 1 | 1 => 4 | _ => 0
theorem W0 : aM Tryz.prog au ax 22 Tryz.f22 MB := ao Tryz.func22 (by kernel_rfl)
def Av : Nat → az := fun _ => default
def nT : Nat → Nat := fun n => match n with | 0 => 85 | 1 => 4181 | 2 => 65621 | 3 => 192 | 4 => 4194389 | 5 => 341 | 6 => 85 | 7 => 192 | _ => 0
theorem WZ : aM Tryz.prog au ax 23 Tryz.f23 Av := ao Tryz.func23 (by kernel_rfl)
def MA : Nat → az := fun _ => default
def Ny : Nat → Nat := fun n => match n with | 0 => 12 | 1 => 16 | _ => 0
theorem WY : aM Tryz.prog au ax 24 Tryz.f24 MA := ao Tryz.func24 (by kernel_rfl)
def Au : Nat → az := fun _ => default
def nS : Nat → Nat := fun n => match n with | 0 => 7 | 1 => 387 | 2 => 134218115 | 3 => 387 | 4 => 64 | _ => 0
theorem WX : aM Tryz.prog au ax 25 Tryz.f25 Au := ao Tryz.func25 (by kernel_rfl)
def H4 : Nat → az := fun n => match n with | 5 => ⟨[(0, false), (1, false), (2, false), (3, false), (4, false), (6, false), (10, false), (5, true), (7, true), (8, false), (9, false)], some 10, [], [11]⟩ | 18 => ⟨[(0, false), (1, false), (2, false), (3, false), (4, false), (5, false), (6, false), (7, true), (8, false), (9, true), (10, false), (11, false)], none, [2], [12]⟩ | _ => default
def iw : Nat → Nat := fun n => match n with | 0 => 3 | 1 => 35 | 2 => 99 | 3 => 65635 | 4 => 99 | 5 => 227 | 6 => 2147483875 | 7 => 483 | 8 => 995 | 9 => 34359739363 | 10 => 995 | 11 => 8796093023203 | 12 => 995 | 13 => 1251 | 14 => 1251 | 15 => 3299 | 16 => 36893488147419106531 | 17 => 3299 | 18 => 3299 | 19 => 77371252455336267181195491 | 20 => 227 | 21 => 99 | 22 => 16 | _ => 0
theorem WW : aM Tryz.prog au ax 28 Tryz.f28 H4 := ao Tryz.func28 (by kernel_rfl)
def H0 : Nat → az := fun _ => default
def BW : Nat → Nat := fun n => match n with | 0 => 19 | 1 => 83 | 2 => 8275 | 3 => 83 | 4 => 33554515 | 5 => 48 | 6 => 48 | _ => 0
theorem WV : aM Tryz.prog au ax 36 Tryz.f36 H0 := ao Tryz.func36 (by kernel_rfl)
def xJ : Nat → az := fun n => match n with | 6 => ⟨[(0, false), (1, false), (2, false), (3, false), (4, false), (5, false), (6, false), (7, false), (8, false), (9, false), (10, false), (11, false), (12, false), (13, false), (14, false), (15, false), (16, false), (17, false), (18, false), (19, false), (20, false), (21, false), (22, false), (23, false), (24, false), (25, false)], none, [], [26, 27, 28]⟩ | _ => default
def nR : Nat → Nat := fun n => match n with | 0 => 12 | 1 => 2199023255564 | 2 => 16 | 3 => 44 | 4 => 70368744177708 | 5 => 44 | 6 => 151115727451828646838316 | 7 => 16 | 8 => 16 | _ => 0
theorem WU : aM Tryz.prog au ax 37 Tryz.f37 xJ := ao Tryz.func37 (by kernel_rfl)
def HZ : Nat → az := fun _ => default
def Gn : Nat → Nat := fun n => match n with | 0 => 12 | 1 => 8204 | 2 => 16 | 3 => 16 | _ => 0
theorem WT : aM Tryz.prog au ax 39 Tryz.f39 HZ := ao Tryz.func39 (by kernel_rfl)
def HY : Nat → az := fun _ => default
def xZ : Nat → Nat := fun n => match n with | 0 => 9 | 1 => 1033 | 2 => 105 | 3 => 134217737 | 4 => 16 | 5 => 137 | 6 => 4294967433 | 7 => 137 | 8 => 4398046511241 | 9 => 16 | 10 => 16 | _ => 0
theorem WS : aM Tryz.prog au ax 40 Tryz.f40 HY := ao Tryz.func40 (by kernel_rfl)
def R9 : Nat → az := fun n => match n with | 2 => ⟨[(0, false), (1, false), (2, false), (4, false), (5, false), (6, false), (15, false), (23, false), (24, false), (29, false), (30, false), (34, false), (35, false), (3, true), (7, false), (8, true), (9, false), (10, true), (11, true), (12, false), (13, false), (14, false), (16, true), (17, false), (18, true), (19, true), (20, false), (21, false), (22, false), (25, true), (26, false), (27, false), (28, false), (31, true), (32, false), (33, true), (36, true), (37, false), (38, false), (39, false), (40, false)], none, [], [41]⟩ | _ => default
def Tj : Nat → Nat := fun n => match n with | 0 => 0 | 1 => 2 | 2 => 1 | _ => 0
theorem WR : aM Tryz.prog au ax 43 Tryz.f43 R9 := ao Tryz.func43 (by kernel_rfl)
def R8 : Nat → az := fun _ => default
def Ti : Nat → Nat := fun n => match n with | 0 => 0 | 1 => 2 | 2 => 898 | 3 => 1922 | 4 => 906 | 5 => 898 | 6 => 898 | 7 => 1 | _ => 0
theorem WQ : aM Tryz.prog au ax 44 Tryz.f44 R8 := ao Tryz.func44 (by kernel_rfl)
def R7 : Nat → az := fun _ => default
def Th : Nat → Nat := fun n => match n with | 0 => 0 | 1 => 2 | 2 => 450 | 3 => 962 | 4 => 458 | 5 => 450 | 6 => 450 | 7 => 1 | _ => 0
theorem WO : aM Tryz.prog au ax 45 Tryz.f45 R7 := ao Tryz.func45 (by kernel_rfl)
def HX : Nat → az := fun _ => default
def Gm : Nat → Nat := fun n => match n with | 0 => 19 | 1 => 16 | _ => 0
theorem WN : aM Tryz.prog au ax 46 Tryz.f46 HX := ao Tryz.func46 (by kernel_rfl)
def Mz : Nat → az := fun _ => default
def Nx : Nat → Nat := fun n => match n with | 0 => 5 | 1 => 4 | _ => 0
theorem WM : aM Tryz.prog au ax 47 Tryz.f47 Mz := ao Tryz.func47 (by kernel_rfl)
def eZ : Nat → az := fun n => match n with | 7 => ⟨[(0, false), (1, false), (2, true), (3, false), (4, false)], none, [], [5, 6]⟩ | 29 => ⟨[(0, false), (1, false), (2, false), (3, false), (4, false), (5, false), (6, false), (7, true), (8, false), (9, true), (10, false)], none, [1], [11]⟩ | 35 => ⟨[(0, false), (1, false), (2, false), (3, false), (4, false), (5, false), (6, false), (7, true)], none, [], [8, 9]⟩ | _ => default
def dC : Nat → Nat := fun n => match n with | 0 => 271 | 1 => 783 | 2 => 2097935 | 3 => 783 | 4 => 4194575 | 5 => 12583183 | 6 => 12583183 | 7 => 256 | 8 => 4299161871 | 9 => 256 | 10 => 34363932943 | 11 => 34363932943 | 12 => 549755814159 | 13 => 256 | 14 => 256 | 15 => 562949957615887 | 16 => 562949957615887 | 17 => 562949957615887 | 18 => 256 | 19 => 288230376155906319 | 20 => 288230376155906319 | 21 => 256 | 22 => 37778931862957165904143 | 23 => 37778931862957165904143 | 24 => 1295 | 25 => 3343 | 26 => 7439 | 27 => 9671406556917033397656847 | 28 => 7439 | 29 => 7439 | 30 => 256 | 31 => 316912650057057350374175801615 | 32 => 8463 | 33 => 10141204801825835211973625651471 | 34 => 8463 | 35 => 256 | 36 => 332306998946228968225951765070086400 | 37 => 256 | 38 => 256 | _ => 0
theorem WL : aM Tryz.prog au ax 48 Tryz.f48 eZ := ao Tryz.func48 (by kernel_rfl)
def HW : Nat → az := fun _ => default
def Gl : Nat → Nat := fun n => match n with | 0 => 19 | 1 => 209 | 2 => 262225 | 3 => 48 | 4 => 48 | _ => 0
theorem WK : aM Tryz.prog au ax 49 Tryz.f49 HW := ao Tryz.func49 (by kernel_rfl)
def DM : Nat → az := fun _ => default
def xY : Nat → Nat := fun n => match n with | 0 => 2 | 1 => 2147483650 | 2 => 4 | 3 => 562949953421314 | 4 => 4 | 5 => 10 | 6 => 31525197391593482 | 7 => 67553994410557450 | 8 => 31525197391593514 | 9 => 37778963388154553303082 | 10 => 4 | 11 => 31525197391593482 | 12 => 31525197391593482 | 13 => 4 | _ => 0
theorem WJ : aM Tryz.prog au ax 50 Tryz.f50 DM := ao Tryz.func50 (by kernel_rfl)
def My : Nat → az := fun _ => default
def Nw : Nat → Nat := fun n => match n with | 0 => 12 | 1 => 44 | 2 => 16 | _ => 0
theorem WI : aM Tryz.prog au ax 51 Tryz.f51 My := ao Tryz.func51 (by kernel_rfl)
def Mx : Nat → az := fun n => match n with | 1 => ⟨[(0, false), (1, false), (2, false), (3, false), (4, false), (5, false), (6, false), (7, false), (8, false), (9, false), (10, false)], none, [], [11]⟩ | 2 => ⟨[(0, false), (1, false), (2, false), (3, false), (4, false), (5, false), (6, false)], none, [4], [7, 8, 9, 10]⟩ | _ => default
def Nv : Nat → Nat := fun n => match n with | 0 => 9 | 1 => 9 | 2 => 0 | _ => 0
theorem WH : aM Tryz.prog au ax 52 Tryz.f52 Mx := ao Tryz.func52 (by kernel_rfl)
def HV : Nat → az := fun n => match n with | 7 => ⟨[(0, false), (1, false), (2, false), (3, false), (4, false), (5, false), (6, true), (7, false), (8, false), (9, true), (10, false)], none, [1], [11]⟩ | _ => default
def BV : Nat → Nat := fun n => match n with | 0 => 6 | 1 => 14 | 2 => 14 | 3 => 14 | 4 => 57356 | 5 => 122892 | 6 => 57388 | 7 => 57356 | 8 => 57356 | 9 => 4 | _ => 0
theorem WG : aM Tryz.prog au ax 53 Tryz.f53 HV := ao Tryz.func53 (by kernel_rfl)
def HU : Nat → az := fun _ => default
def Gk : Nat → Nat := fun n => match n with | 0 => 3 | 1 => 16 | _ => 0
theorem WE : aM Tryz.prog au ax 54 Tryz.f54 HU := ao Tryz.func54 (by kernel_rfl)
def Mw : Nat → az := fun _ => default
def Nu : Nat → Nat := fun n => match n with | 0 => 6 | 1 => 8 | _ => 0
theorem WD : aM Tryz.prog au ax 55 Tryz.f55 Mw := ao Tryz.func55 (by kernel_rfl)
def Mv : Nat → az := fun n => match n with | 1 => ⟨[(0, false), (1, false), (2, false), (3, false), (4, false), (5, false), (6, false), (7, false), (8, false), (9, false), (10, false), (11, false)], none, [], [12]⟩ | _ => default
def Nt : Nat → Nat := fun n => match n with | 0 => 5 | 1 => 5 | 2 => 0 | _ => 0
theorem WC : aM Tryz.prog au ax 56 Tryz.f56 Mv := ao Tryz.func56 (by kernel_rfl)
def HT : Nat → az := fun _ => default
def Gj : Nat → Nat := fun n => match n with | 0 => 2 | 1 => 34 | 2 => 4 | 3 => 16384 | 4 => 4 | 5 => 4 | _ => 0
theorem WB : aM Tryz.prog au ax 57 Tryz.f57 HT := ao Tryz.func57 (by kernel_rfl)
def Mu : Nat → az := fun _ => default
def Ns : Nat → Nat := fun n => match n with | 0 => 6 | 1 => 4 | _ => 0
theorem WA : aM Tryz.prog au ax 58 Tryz.f58 Mu := ao Tryz.func58 (by kernel_rfl)
def HS : Nat → az := fun _ => default
def Gi : Nat → Nat := fun n => match n with | 0 => 9 | 1 => 104 | 2 => 16 | _ => 0
theorem Wz : aM Tryz.prog au ax 59 Tryz.f59 HS := ao Tryz.func59 (by kernel_rfl)
def Mt : Nat → az := fun _ => default
def Nr : Nat → Nat := fun n => match n with | 0 => 28 | 1 => 16 | _ => 0
theorem Wy : aM Tryz.prog au ax 60 Tryz.f60 Mt := ao Tryz.func60 (by kernel_rfl)
def uL : Nat → az := fun n => match n with | 12 => ⟨[(0, false), (1, false), (2, false), (3, false), (4, false), (5, false), (6, false), (7, false), (8, false), (9, false)], none, [], [10, 11]⟩ | _ => default
def mw : Nat → Nat := fun n => match n with | 0 => 12 | 1 => 140 | 2 => 16 | 3 => 524300 | 4 => 16 | 5 => 2147483660 | 6 => 16 | 7 => 8796093022220 | 8 => 16 | 9 => 44 | 10 => 9223372036854775852 | 11 => 44 | 12 => 108 | 13 => 302231454903657293676652 | 14 => 16 | 15 => 16 | _ => 0
theorem Wx : aM Tryz.prog au ax 61 Tryz.f61 uL := ao Tryz.func61 (by kernel_rfl)
def Ms : Nat → az := fun n => match n with | 1 => ⟨[(0, false), (1, false), (2, false), (3, false), (4, false), (5, false), (6, false), (7, false), (8, false), (9, false)], none, [], []⟩ | 4 => ⟨[(0, false), (1, false), (2, false), (3, false), (4, false), (5, false), (6, false), (7, false), (8, false), (9, false), (10, false), (11, false)], none, [], [12, 13]⟩ | _ => default
def Nq : Nat → Nat := fun n => match n with | 0 => 3 | 1 => 16387 | 2 => 16 | 3 => 3 | 4 => 16 | _ => 0
theorem Ww : aM Tryz.prog au ax 64 Tryz.f64 Ms := ao Tryz.func64 (by kernel_rfl)
def uK : Nat → az := fun n => match n with | 5 => ⟨[(0, false), (1, false), (2, true), (3, false), (4, false)], none, [], [5, 6]⟩ | _ => default
def qx : Nat → Nat := fun n => match n with | 0 => 271 | 1 => 783 | 2 => 4879 | 3 => 256 | 4 => 8389391 | 5 => 256 | 6 => 4294967567 | 7 => 256 | 8 => 256 | _ => 0
theorem Wv : aM Tryz.prog au ax 65 Tryz.f65 uK := ao Tryz.func65 (by kernel_rfl)
def DL : Nat → az := fun _ => default
def qw : Nat → Nat := fun n => match n with | 0 => 3 | 1 => 387 | 2 => 899 | 3 => 419 | 4 => 65955 | 5 => 16 | 6 => 387 | 7 => 16 | _ => 0
theorem Wu : aM Tryz.prog au ax 67 Tryz.f67 DL := ao Tryz.func67 (by kernel_rfl)
def At : Nat → az := fun _ => default
def xX : Nat → Nat := fun n => match n with | 0 => 3 | 1 => 16 | _ => 0
theorem Wt : aM Tryz.prog au ax 69 Tryz.f69 At := ao Tryz.func69 (by kernel_rfl)
def Mr : Nat → az := fun _ => default
def Np : Nat → Nat := fun n => match n with | 0 => 6 | 1 => 8 | _ => 0
theorem Ws : aM Tryz.prog au ax 70 Tryz.f70 Mr := ao Tryz.func70 (by kernel_rfl)
def Mq : Nat → az := fun _ => default
def No : Nat → Nat := fun n => match n with | 0 => 1 | 1 => 1 | _ => 0
theorem Wr : aM Tryz.prog au ax 82 Tryz.f82 Mq := ao Tryz.func82 (by kernel_rfl)
def DK : Nat → az := fun n => match n with | 9 => ⟨[(0, false), (1, false), (2, false), (3, false), (4, false), (5, false), (6, false), (7, true), (8, false), (9, true), (10, false)], none, [1], [11]⟩ | _ => default
def xW : Nat → Nat := fun n => match n with | 0 => 271 | 1 => 783 | 2 => 525071 | 3 => 256 | 4 => 1295 | 5 => 3343 | 6 => 7439 | 7 => 68719484175 | 8 => 7439 | 9 => 7439 | 10 => 256 | _ => 0
theorem Wq : aM Tryz.prog au ax 83 Tryz.f83 DK := ao Tryz.func83 (by kernel_rfl)
def Mp : Nat → az := fun _ => default
def Nn : Nat → Nat := fun n => match n with | 0 => 5 | 1 => 4 | _ => 0
theorem Wp : aM Tryz.prog au ax 84 Tryz.f84 Mp := ao Tryz.func84 (by kernel_rfl)
def Mo : Nat → az := fun _ => default
def Nm : Nat → Nat := fun n => match n with | 0 => 28 | 1 => 16 | _ => 0
theorem Wo : aM Tryz.prog au ax 85 Tryz.f85 Mo := ao Tryz.func85 (by kernel_rfl)
def Mn : Nat → az := fun _ => default
def Nl : Nat → Nat := fun n => match n with | 0 => 1 | 1 => 1 | _ => 0
theorem Wn : aM Tryz.prog au ax 86 Tryz.f86 Mn := ao Tryz.func86 (by kernel_rfl)
def Mm : Nat → az := fun _ => default
def Nk : Nat → Nat := fun n => match n with | 0 => 1 | 1 => 4 | _ => 0
theorem Wm : aM Tryz.prog au ax 87 Tryz.f87 Mm := ao Tryz.func87 (by kernel_rfl)
def Ml : Nat → az := fun _ => default
def Nj : Nat → Nat := fun n => match n with | 0 => 3 | 1 => 16 | _ => 0
theorem Wl : aM Tryz.prog au ax 88 Tryz.f88 Ml := ao Tryz.func88 (by kernel_rfl)
def Mk : Nat → az := fun _ => default
def Ni : Nat → Nat := fun n => match n with | 0 => 12 | 1 => 16 | _ => 0
theorem Wk : aM Tryz.prog au ax 89 Tryz.f89 Mk := ao Tryz.func89 (by kernel_rfl)
def Mj : Nat → az := fun _ => default
def Nh : Nat → Nat := fun n => match n with | 0 => 12 | 1 => 16 | _ => 0
theorem Wj : aM Tryz.prog au ax 90 Tryz.f90 Mj := ao Tryz.func90 (by kernel_rfl)
def Mi : Nat → az := fun _ => default
def Ng : Nat → Nat := fun n => match n with | 0 => 12 | 1 => 16 | _ => 0
theorem Wi : aM Tryz.prog au ax 91 Tryz.f91 Mi := ao Tryz.func91 (by kernel_rfl)
def uJ : Nat → az := fun _ => default
def mu : Nat → Nat := fun n => match n with | 0 => 7 | 1 => 16391 | 2 => 64 | 3 => 229382 | 4 => 491526 | 5 => 229766 | 6 => 230150 | 7 => 1073971206 | 8 => 64 | 9 => 229382 | 10 => 64 | _ => 0
theorem Wh : aM Tryz.prog au ax 92 Tryz.f92 uJ := ao Tryz.func92 (by kernel_rfl)
def DJ : Nat → az := fun n => match n with | 3 => ⟨[(0, false), (1, false), (2, false), (3, false), (4, false), (5, false), (6, false), (7, true), (8, true), (9, false), (10, false), (11, false), (12, false), (13, false), (14, false), (15, false)], none, [], [16, 17, 18]⟩ | 8 => ⟨[(0, false), (1, false), (2, false), (3, false), (4, false), (5, false), (6, true), (7, false), (8, false), (9, false), (10, false), (11, false), (12, false), (13, false), (14, false), (15, false), (16, false)], none, [], [17, 18, 19]⟩ | 13 => ⟨[(0, false), (1, false), (2, false), (3, false), (4, false), (5, false), (6, false), (7, false), (8, false), (9, false), (10, false), (11, false), (12, false)], none, [], []⟩ | _ => default
def nQ : Nat → Nat := fun n => match n with | 0 => 2 | 1 => 536870914 | 2 => 4 | 3 => 281474976710658 | 4 => 4 | 5 => 10 | 6 => 9007199254741002 | 7 => 10 | 8 => 37778931862957161709578 | 9 => 4 | 10 => 26 | 11 => 302231454903657293676570 | 12 => 26 | 13 => 9903520314283042199192993818 | 14 => 4 | 15 => 4 | _ => 0
theorem Wg : aM Tryz.prog au ax 93 Tryz.f93 DJ := ao Tryz.func93 (by kernel_rfl)
def DI : Nat → az := fun n => match n with | 11 => ⟨[(0, false), (1, false), (2, false), (3, false), (4, false), (5, false), (8, false), (6, true), (7, false), (9, true), (10, false), (11, true), (12, false)], none, [1], [13]⟩ | _ => default
def xV : Nat → Nat := fun n => match n with | 0 => 78 | 1 => 206 | 2 => 206 | 3 => 65742 | 4 => 974 | 5 => 67109838 | 6 => 64 | 7 => 206 | 8 => 120259084494 | 9 => 257698037966 | 10 => 120259087566 | 11 => 120259084494 | 12 => 120259084494 | 13 => 64 | _ => 0
theorem Wf : aM Tryz.prog au ax 94 Tryz.f94 DI := ao Tryz.func94 (by kernel_rfl)
def DH : Nat → az := fun _ => default
def BU : Nat → Nat := fun n => match n with | 0 => 7 | 1 => 135 | 2 => 524421 | 3 => 96 | 4 => 96 | _ => 0
theorem We : aM Tryz.prog au ax 95 Tryz.f95 DH := ao Tryz.func95 (by kernel_rfl)
def R6 : Nat → az := fun _ => default
def Tg : Nat → Nat := fun n => match n with | 0 => 1 | 1 => 8 | 2 => 4 | 3 => 4 | _ => 0
theorem Wd : aM Tryz.prog au ax 96 Tryz.f96 R6 := ao Tryz.func96 (by kernel_rfl)
def uI : Nat → az := fun _ => default
def iu : Nat → Nat := fun n => match n with | 0 => 3 | 1 => 387 | 2 => 899 | 3 => 419 | 4 => 65955 | 5 => 16 | 6 => 387 | 7 => 16 | _ => 0
theorem Wc : aM Tryz.prog au ax 99 Tryz.f99 uI := ao Tryz.func99 (by kernel_rfl)
def MT : Nat → az := fun _ => default
def QA : Nat → Nat := fun n => match n with | 0 => 1 | 1 => 4 | _ => 0
theorem Ur : aM Tryz.prog au ax 111 Tryz.f111 MT := ao Tryz.func111 (by kernel_rfl)
def BO : Nat → az := fun _ => default
def vZ : Nat → Nat := fun n => match n with | 0 => 3 | 1 => 35 | 2 => 547 | 3 => 35 | 4 => 131107 | 5 => 16 | 6 => 16 | _ => 0
theorem Uq : aM Tryz.prog au ax 112 Tryz.f112 BO := ao Tryz.func112 (by kernel_rfl)
def MS : Nat → az := fun _ => default
def Qz : Nat → Nat := fun n => match n with | 0 => 1 | 1 => 4 | _ => 0
theorem Uo : aM Tryz.prog au ax 113 Tryz.f113 MS := ao Tryz.func113 (by kernel_rfl)
def MR : Nat → az := fun _ => default
def Qw : Nat → Nat := fun n => match n with | 0 => 1 | 1 => 4 | _ => 0
theorem Un : aM Tryz.prog au ax 114 Tryz.f114 MR := ao Tryz.func114 (by kernel_rfl)
def BN : Nat → az := fun _ => default
def kO : Nat → Nat := fun n => match n with | 0 => 3 | 1 => 387 | 2 => 899 | 3 => 419 | 4 => 65955 | 5 => 16 | 6 => 387 | 7 => 16 | _ => 0
theorem Um : aM Tryz.prog au ax 115 Tryz.f115 BN := ao Tryz.func115 (by kernel_rfl)
def F9 : Nat → az := fun _ => default
def IA : Nat → Nat := fun n => match n with | 0 => 2 | 1 => 10 | 2 => 4 | 3 => 4096 | 4 => 4 | 5 => 4 | _ => 0
theorem Ul : aM Tryz.prog au ax 116 Tryz.f116 F9 := ao Tryz.func116 (by kernel_rfl)
def F8 : Nat → az := fun _ => default
def Iz : Nat → Nat := fun n => match n with | 0 => 2 | 1 => 4 | _ => 0
theorem Uk : aM Tryz.prog au ax 117 Tryz.f117 F8 := ao Tryz.func117 (by kernel_rfl)
def F7 : Nat → az := fun _ => default
def Iy : Nat → Nat := fun n => match n with | 0 => 3 | 1 => 16 | _ => 0
theorem Uj : aM Tryz.prog au ax 118 Tryz.f118 F7 := ao Tryz.func118 (by kernel_rfl)
def BM : Nat → az := fun _ => default
def B0 : Nat → Nat := fun n => match n with | 0 => 2 | 1 => 10 | 2 => 8 | 3 => 4 | _ => 0
theorem Ui : aM Tryz.prog au ax 119 Tryz.f119 BM := ao Tryz.func119 (by kernel_rfl)
def F6 : Nat → az := fun _ => default
def Ix : Nat → Nat := fun n => match n with | 0 => 3 | 1 => 8 | _ => 0
theorem Uh : aM Tryz.prog au ax 120 Tryz.f120 F6 := ao Tryz.func120 (by kernel_rfl)
def BL : Nat → az := fun n => match n with | 1 => ⟨[(0, false), (1, false), (2, false), (3, false), (5, false), (6, false), (7, false), (8, false), (10, false), (11, false), (12, false), (13, false), (15, false), (16, false), (17, false), (18, false), (19, false), (20, false), (4, true), (9, true), (14, true)], none, [], [21, 22, 23, 24]⟩ | 5 => ⟨[(0, false), (1, false), (2, false), (3, false), (4, false), (5, false), (6, false), (7, false), (8, false), (9, false)], none, [], [10, 11]⟩ | _ => default
def mA : Nat → Nat := fun n => match n with | 0 => 12 | 1 => 44 | 2 => 108 | 3 => 549755813996 | 4 => 108 | 5 => 108 | 6 => 16 | _ => 0
theorem Ug : aM Tryz.prog au ax 121 Tryz.f121 BL := ao Tryz.func121 (by kernel_rfl)
def xN : Nat → az := fun _ => default
def rL : Nat → Nat := fun n => match n with | 0 => 1 | 1 => 131073 | 2 => 4 | 3 => 9 | 4 => 2097161 | 5 => 9 | 6 => 17179869193 | 7 => 4 | 8 => 4 | _ => 0
theorem Uf : aM Tryz.prog au ax 122 Tryz.f122 xN := ao Tryz.func122 (by kernel_rfl)
def F5 : Nat → az := fun _ => default
def Iw : Nat → Nat := fun n => match n with | 0 => 1 | 1 => 4 | _ => 0
theorem Ue : aM Tryz.prog au ax 123 Tryz.f123 F5 := ao Tryz.func123 (by kernel_rfl)
def BK : Nat → az := fun _ => default
def BZ : Nat → Nat := fun n => match n with | 0 => 6 | 1 => 38 | 2 => 16 | _ => 0
theorem Ud : aM Tryz.prog au ax 124 Tryz.f124 BK := ao Tryz.func124 (by kernel_rfl)
def BJ : Nat → az := fun n => match n with | 6 => ⟨[(0, false), (1, false), (2, false), (3, true), (4, false), (5, true), (6, false)], none, [1], [7]⟩ | _ => default
def vY : Nat → Nat := fun n => match n with | 0 => 6 | 1 => 14 | 2 => 14 | 3 => 3596 | 4 => 7692 | 5 => 3628 | 6 => 3596 | 7 => 3596 | 8 => 4 | _ => 0
theorem Uc : aM Tryz.prog au ax 125 Tryz.f125 BJ := ao Tryz.func125 (by kernel_rfl)
def F4 : Nat → az := fun _ => default
def Iv : Nat → Nat := fun n => match n with | 0 => 6 | 1 => 2048 | 2 => 16 | 3 => 16 | _ => 0
theorem Ub : aM Tryz.prog au ax 126 Tryz.f126 F4 := ao Tryz.func126 (by kernel_rfl)
def F3 : Nat → az := fun _ => default
def Iu : Nat → Nat := fun n => match n with | 0 => 6 | 1 => 2048 | 2 => 16 | 3 => 16 | _ => 0
theorem Ua : aM Tryz.prog au ax 127 Tryz.f127 F3 := ao Tryz.func127 (by kernel_rfl)
def MP : Nat → az := fun _ => default
def Qv : Nat → Nat := fun n => match n with | 0 => 1 | 1 => 4 | _ => 0
theorem T9 : aM Tryz.prog au ax 135 Tryz.f135 MP := ao Tryz.func135 (by kernel_rfl)
def BI : Nat → az := fun _ => default
def vX : Nat → Nat := fun n => match n with | 0 => 2 | 1 => 10 | 2 => 904 | 3 => 1928 | 4 => 936 | 5 => 904 | 6 => 904 | 7 => 4 | _ => 0
theorem T8 : aM Tryz.prog au ax 136 Tryz.f136 BI := ao Tryz.func136 (by kernel_rfl)
def BH : Nat → az := fun _ => default
def vW : Nat → Nat := fun n => match n with | 0 => 2 | 1 => 10 | 2 => 904 | 3 => 1928 | 4 => 936 | 5 => 904 | 6 => 904 | 7 => 4 | _ => 0
theorem T7 : aM Tryz.prog au ax 137 Tryz.f137 BH := ao Tryz.func137 (by kernel_rfl)
def F1 : Nat → az := fun _ => default
def It : Nat → Nat := fun n => match n with | 0 => 2 | 1 => 4 | _ => 0
theorem T6 : aM Tryz.prog au ax 138 Tryz.f138 F1 := ao Tryz.func138 (by kernel_rfl)
def xM : Nat → az := fun n => match n with | 6 => ⟨[(0, false), (1, false), (2, false), (3, false), (4, true), (5, false)], none, [], [6, 7]⟩ | _ => default
def pb : Nat → Nat := fun n => match n with | 0 => 6 | 1 => 32774 | 2 => 16 | 3 => 917510 | 4 => 1966086 | 5 => 917606 | 6 => 2148401158 | 7 => 16 | 8 => 917510 | 9 => 16 | _ => 0
theorem T5 : aM Tryz.prog au ax 139 Tryz.f139 xM := ao Tryz.func139 (by kernel_rfl)
def F0 : Nat → az := fun _ => default
def Is : Nat → Nat := fun n => match n with | 0 => 2 | 1 => 4 | _ => 0
theorem T4 : aM Tryz.prog au ax 140 Tryz.f140 F0 := ao Tryz.func140 (by kernel_rfl)
def BG : Nat → az := fun _ => default
def rK : Nat → Nat := fun n => match n with | 0 => 3 | 1 => 387 | 2 => 899 | 3 => 419 | 4 => 65955 | 5 => 16 | 6 => 387 | 7 => 16 | _ => 0
theorem T3 : aM Tryz.prog au ax 141 Tryz.f141 BG := ao Tryz.func141 (by kernel_rfl)
def tu : Nat → az := fun n => match n with | 6 => ⟨[(0, false), (1, false), (2, false), (3, false), (6, false), (4, true), (5, false)], none, [], [7]⟩ | _ => default
def oZ : Nat → Nat := fun n => match n with | 0 => 14 | 1 => 65550 | 2 => 14 | 3 => 117440526 | 4 => 251658254 | 5 => 117440718 | 6 => 117440526 | 7 => 117440526 | _ => 0
theorem T2 : aM Tryz.prog au ax 142 Tryz.f142 tu := ao Tryz.func142 (by kernel_rfl)
def BF : Nat → az := fun _ => default
def mz : Nat → Nat := fun n => match n with | 0 => 1 | 1 => 9 | 2 => 456 | 3 => 968 | 4 => 488 | 5 => 16872 | 6 => 4 | 7 => 456 | 8 => 4 | _ => 0
theorem T1 : aM Tryz.prog au ax 143 Tryz.f143 BF := ao Tryz.func143 (by kernel_rfl)
def FZ : Nat → az := fun _ => default
def Ir : Nat → Nat := fun n => match n with | 0 => 3 | 1 => 35 | 2 => 99 | 3 => 2115 | 4 => 4096 | 5 => 16 | 6 => 16 | 7 => 8195 | 8 => 16 | 9 => 65539 | 10 => 16 | 11 => 524288 | 12 => 16 | 13 => 16 | _ => 0
theorem T0 : aM Tryz.prog au ax 144 Tryz.f144 FZ := ao Tryz.func144 (by kernel_rfl)
def FY : Nat → az := fun _ => default
def Iq : Nat → Nat := fun n => match n with | 0 => 3 | 1 => 35 | 2 => 99 | 3 => 2115 | 4 => 4096 | 5 => 16 | 6 => 16 | 7 => 8195 | 8 => 16 | 9 => 65539 | 10 => 16 | 11 => 524288 | 12 => 16 | 13 => 16 | _ => 0
theorem TZ : aM Tryz.prog au ax 145 Tryz.f145 FY := ao Tryz.func145 (by kernel_rfl)
def MO : Nat → az := fun _ => default
def Qu : Nat → Nat := fun n => match n with | 0 => 1 | 1 => 4 | _ => 0
theorem TY : aM Tryz.prog au ax 146 Tryz.f146 MO := ao Tryz.func146 (by kernel_rfl)
def MN : Nat → az := fun _ => default
def Qt : Nat → Nat := fun n => match n with | 0 => 1 | 1 => 4 | _ => 0
theorem TX : aM Tryz.prog au ax 147 Tryz.f147 MN := ao Tryz.func147 (by kernel_rfl)
def FX : Nat → az := fun _ => default
def Ip : Nat → Nat := fun n => match n with | 0 => 2 | 1 => 4 | _ => 0
theorem TW : aM Tryz.prog au ax 148 Tryz.f148 FX := ao Tryz.func148 (by kernel_rfl)
def FW : Nat → az := fun _ => default
def Io : Nat → Nat := fun n => match n with | 0 => 2 | 1 => 10 | 2 => 4 | 3 => 4096 | 4 => 4 | 5 => 4 | _ => 0
theorem TV : aM Tryz.prog au ax 149 Tryz.f149 FW := ao Tryz.func149 (by kernel_rfl)
def BE : Nat → az := fun _ => default
def rJ : Nat → Nat := fun n => match n with | 0 => 2 | 1 => 1026 | 2 => 4 | 3 => 10 | 4 => 32778 | 5 => 10 | 6 => 16777226 | 7 => 4 | 8 => 4 | _ => 0
theorem TU : aM Tryz.prog au ax 150 Tryz.f150 BE := ao Tryz.func150 (by kernel_rfl)
def FV : Nat → az := fun _ => default
def Im : Nat → Nat := fun n => match n with | 0 => 2 | 1 => 1048578 | 2 => 4 | 3 => 4194306 | 4 => 12582914 | 5 => 12582914 | 6 => 4 | 7 => 1077936130 | 8 => 4 | 9 => 4503599631564802 | 10 => 4 | 11 => 288230376155906050 | 12 => 4 | 13 => 18446744073713745922 | 14 => 4 | 15 => 1208925819614629174706178 | 16 => 4 | 17 => 4 | _ => 0
theorem TT : aM Tryz.prog au ax 167 Tryz.f167 FV := ao Tryz.func167 (by kernel_rfl)
def FU : Nat → az := fun _ => default
def Il : Nat → Nat := fun n => match n with | 0 => 2 | 1 => 4 | _ => 0
theorem TS : aM Tryz.prog au ax 168 Tryz.f168 FU := ao Tryz.func168 (by kernel_rfl)
def FT : Nat → az := fun _ => default
def Ik : Nat → Nat := fun n => match n with | 0 => 2 | 1 => 4 | _ => 0
theorem TR : aM Tryz.prog au ax 169 Tryz.f169 FT := ao Tryz.func169 (by kernel_rfl)
def xL : Nat → az := fun _ => default
def vV : Nat → Nat := fun n => match n with | 0 => 51 | 1 => 65555 | 2 => 0 | _ => 0
theorem TQ : aM Tryz.prog au ax 170 Tryz.f170 xL := ao Tryz.func170 (by kernel_rfl)
def FR : Nat → az := fun _ => default
def Ij : Nat → Nat := fun n => match n with | 0 => 1 | 1 => 4 | _ => 0
theorem TP : aM Tryz.prog au ax 171 Tryz.f171 FR := ao Tryz.func171 (by kernel_rfl)
def FQ : Nat → az := fun _ => default
def Ii : Nat → Nat := fun n => match n with | 0 => 1 | 1 => 4 | _ => 0
theorem TO : aM Tryz.prog au ax 172 Tryz.f172 FQ := ao Tryz.func172 (by kernel_rfl)
def ML : Nat → az := fun _ => default
def Qs : Nat → Nat := fun n => match n with | 0 => 1 | 1 => 4 | _ => 0
theorem TN : aM Tryz.prog au ax 173 Tryz.f173 ML := ao Tryz.func173 (by kernel_rfl)
def tt : Nat → az := fun n => match n with | 6 => ⟨[(0, false), (1, false), (2, false), (3, false), (4, false), (5, false), (6, false), (7, false), (10, false), (8, true), (9, false)], none, [], [11, 12]⟩ | _ => default
def my : Nat → Nat := fun n => match n with | 0 => 14 | 1 => 65550 | 2 => 14 | 3 => 142 | 4 => 134217870 | 5 => 142 | 6 => 142 | 7 => 64 | _ => 0
theorem TM : aM Tryz.prog au ax 174 Tryz.f174 tt := ao Tryz.func174 (by kernel_rfl)
def BD : Nat → az := fun _ => default
def rI : Nat → Nat := fun n => match n with | 0 => 2 | 1 => 10 | 2 => 26 | 3 => 538 | 4 => 26 | 5 => 26 | 6 => 4 | _ => 0
theorem TL : aM Tryz.prog au ax 175 Tryz.f175 BD := ao Tryz.func175 (by kernel_rfl)
def BC : Nat → az := fun _ => default
def rH : Nat → Nat := fun n => match n with | 0 => 2 | 1 => 10 | 2 => 26 | 3 => 538 | 4 => 26 | 5 => 26 | 6 => 4 | _ => 0
theorem TK : aM Tryz.prog au ax 176 Tryz.f176 BC := ao Tryz.func176 (by kernel_rfl)
def eL : Nat → az := fun _ => default
def cU : Nat → Nat := fun n => match n with | 0 => 2 | 1 => 10 | 2 => 67108874 | 3 => 4 | 4 => 268435466 | 5 => 4 | 6 => 805306378 | 7 => 805306378 | 8 => 4 | 9 => 17448304650 | 10 => 4 | 11 => 281475245146122 | 12 => 4611686018427387914 | 13 => 4 | 14 => 26 | 15 => 36893488147419103258 | 16 => 26 | 17 => 18889465931478580854810 | 18 => 4 | 19 => 37778931862957430145034 | 20 => 302231454903657293676554 | 21 => 4 | 22 => 604462909807314855788554 | 23 => 4835703278458516698824714 | 24 => 4 | 25 => 9671406556917033397649418 | 26 => 19807040628566084398385987594 | 27 => 4 | 28 => 42 | 29 => 158456325028528675187087900714 | 30 => 42 | 31 => 81129638414606681695789005144106 | 32 => 4 | 33 => 4 | _ => 0
theorem TJ : aM Tryz.prog au ax 177 Tryz.f177 eL := ao Tryz.func177 (by kernel_rfl)
def FP : Nat → az := fun _ => default
def Ih : Nat → Nat := fun n => match n with | 0 => 2 | 1 => 4 | _ => 0
theorem TH : aM Tryz.prog au ax 178 Tryz.f178 FP := ao Tryz.func178 (by kernel_rfl)
def MK : Nat → az := fun _ => default
def Qr : Nat → Nat := fun n => match n with | 0 => 3 | 1 => 67 | 2 => 451 | 3 => 33219 | 4 => 963 | 5 => 134218691 | 6 => 451 | 7 => 451 | 8 => 48 | _ => 0
theorem TG : aM Tryz.prog au ax 190 Tryz.f190 MK := ao Tryz.func190 (by kernel_rfl)
def MJ : Nat → az := fun n => match n with | 11 => ⟨[(0, false), (1, false), (2, false), (3, false), (4, false), (5, false), (6, false), (7, false)], none, [], [8]⟩ | 15 => ⟨[(0, false), (1, false), (2, false), (3, false), (4, false), (5, false), (6, false), (7, false)], none, [], [8]⟩ | _ => default
def Qq : Nat → Nat := fun n => match n with | 0 => 7 | 1 => 7 | 2 => 135 | 3 => 65671 | 4 => 64 | 5 => 391 | 6 => 4194695 | 7 => 64 | 8 => 2147484039 | 9 => 647 | 10 => 643 | 11 => 512 | 12 => 64 | 13 => 391 | 14 => 295147905179352826247 | 15 => 7 | 16 => 1 | 17 => 64 | 18 => 131 | 19 => 1 | 20 => 64 | _ => 0
theorem TF : aM Tryz.prog au ax 191 Tryz.f191 MJ := ao Tryz.func191 (by kernel_rfl)
def xK : Nat → az := fun n => match n with | 6 => ⟨[(0, false), (1, false), (2, false), (3, false), (5, false), (6, false), (8, false), (9, false), (10, false), (4, true), (7, true)], none, [], [2000000, 11, 12]⟩ | _ => default
def rG : Nat → Nat := fun n => match n with | 0 => 3 | 1 => 35 | 2 => 131107 | 3 => 35 | 4 => 2147483683 | 5 => 16 | 6 => 16 | _ => 0
theorem TE : aM Tryz.prog au ax 192 Tryz.f192 xK := ao Tryz.func192 (by kernel_rfl)
def MI : Nat → az := fun _ => default
def Qp : Nat → Nat := fun n => match n with | 0 => 3 | 1 => 16 | _ => 0
theorem TC : aM Tryz.prog au ax 199 Tryz.f199 MI := ao Tryz.func199 (by kernel_rfl)
def MG : Nat → az := fun _ => default
def Qo : Nat → Nat := fun n => match n with | 0 => 1 | 1 => 4 | _ => 0
theorem TB : aM Tryz.prog au ax 200 Tryz.f200 MG := ao Tryz.func200 (by kernel_rfl)
def MF : Nat → az := fun _ => default
def Qn : Nat → Nat := fun n => match n with | 0 => 0 | _ => 0
theorem TA : aM Tryz.prog au ax 202 Tryz.f202 MF := ao Tryz.func202 (by kernel_rfl)
def ME : Nat → az := fun _ => default
def Qm : Nat → Nat := fun n => match n with | 0 => 3 | 1 => 1 | 2 => 0 | _ => 0
theorem Tz : aM Tryz.prog au ax 204 Tryz.f204 ME := ao Tryz.func204 (by kernel_rfl)
def MD : Nat → az := fun n => match n with | 3 => ⟨[(0, false), (1, false), (2, false), (3, false), (4, false), (5, false), (6, false), (7, false), (8, false), (9, false), (10, false), (11, false), (12, false), (13, true), (14, false), (15, true)], none, [], []⟩ | _ => default
def Ql : Nat → Nat := fun n => match n with | 0 => 13 | 1 => 525 | 2 => 13 | 3 => 13 | _ => 0
theorem Tx : aM Tryz.prog au ax 206 Tryz.f206 MD := ao Tryz.func206 (by kernel_rfl)
noncomputable def GJ : bc := (.node (.node (.node (.node (.node (.node (.node .nil 4 Tryz.f4 FO AB .nil) 9 Tryz.f9 S7 Sc (.node .nil 10 Tryz.f10 H8 B1 .nil)) 11 Tryz.f11 Sa Tk (.node (.node .nil 13 Tryz.f13 MQ ND .nil) 15 Tryz.f15 MM NC (.node .nil 16 Tryz.f16 H7 Gp .nil))) 17 Tryz.f17 DN tA (.node (.node (.node .nil 18 Tryz.f18 H6 BY .nil) 19 Tryz.f19 H5 BX (.node .nil 20 Tryz.f20 MH NB .nil)) 21 Tryz.f21 MC NA (.node (.node .nil 22 Tryz.f22 MB Nz .nil) 23 Tryz.f23 Av nT .nil))) 24 Tryz.f24 MA Ny (.node (.node (.node (.node .nil 25 Tryz.f25 Au nS .nil) 28 Tryz.f28 H4 iw (.node .nil 36 Tryz.f36 H0 BW .nil)) 37 Tryz.f37 xJ nR (.node (.node .nil 39 Tryz.f39 HZ Gn .nil) 40 Tryz.f40 HY xZ .nil)) 43 Tryz.f43 R9 Tj (.node (.node (.node .nil 44 Tryz.f44 R8 Ti .nil) 45 Tryz.f45 R7 Th (.node .nil 46 Tryz.f46 HX Gm .nil)) 47 Tryz.f47 Mz Nx (.node (.node .nil 48 Tryz.f48 eZ dC .nil) 49 Tryz.f49 HW Gl .nil)))) 50 Tryz.f50 DM xY (.node (.node (.node (.node (.node .nil 51 Tryz.f51 My Nw .nil) 52 Tryz.f52 Mx Nv (.node .nil 53 Tryz.f53 HV BV .nil)) 54 Tryz.f54 HU Gk (.node (.node .nil 55 Tryz.f55 Mw Nu .nil) 56 Tryz.f56 Mv Nt (.node .nil 57 Tryz.f57 HT Gj .nil))) 58 Tryz.f58 Mu Ns (.node (.node (.node .nil 59 Tryz.f59 HS Gi .nil) 60 Tryz.f60 Mt Nr (.node .nil 61 Tryz.f61 uL mw .nil)) 64 Tryz.f64 Ms Nq (.node (.node .nil 65 Tryz.f65 uK qx .nil) 67 Tryz.f67 DL qw .nil))) 69 Tryz.f69 At xX (.node (.node (.node (.node .nil 70 Tryz.f70 Mr Np .nil) 82 Tryz.f82 Mq No (.node .nil 83 Tryz.f83 DK xW .nil)) 84 Tryz.f84 Mp Nn (.node (.node .nil 85 Tryz.f85 Mo Nm .nil) 86 Tryz.f86 Mn Nl .nil)) 87 Tryz.f87 Mm Nk (.node (.node (.node .nil 88 Tryz.f88 Ml Nj .nil) 89 Tryz.f89 Mk Ni (.node .nil 90 Tryz.f90 Mj Nh .nil)) 91 Tryz.f91 Mi Ng (.node (.node .nil 92 Tryz.f92 uJ mu .nil) 93 Tryz.f93 DJ nQ .nil))))) 94 Tryz.f94 DI xV (.node (.node (.node (.node (.node (.node .nil 95 Tryz.f95 DH BU .nil) 96 Tryz.f96 R6 Tg (.node .nil 99 Tryz.f99 uI iu .nil)) 111 Tryz.f111 MT QA (.node (.node .nil 112 Tryz.f112 BO vZ .nil) 113 Tryz.f113 MS Qz (.node .nil 114 Tryz.f114 MR Qw .nil))) 115 Tryz.f115 BN kO (.node (.node (.node .nil 116 Tryz.f116 F9 IA .nil) 117 Tryz.f117 F8 Iz (.node .nil 118 Tryz.f118 F7 Iy .nil)) 119 Tryz.f119 BM B0 (.node (.node .nil 120 Tryz.f120 F6 Ix .nil) 121 Tryz.f121 BL mA .nil))) 122 Tryz.f122 xN rL (.node (.node (.node (.node .nil 123 Tryz.f123 F5 Iw .nil) 124 Tryz.f124 BK BZ (.node .nil 125 Tryz.f125 BJ vY .nil)) 126 Tryz.f126 F4 Iv (.node (.node .nil 127 Tryz.f127 F3 Iu .nil) 135 Tryz.f135 MP Qv .nil)) 136 Tryz.f136 BI vX (.node (.node (.node .nil 137 Tryz.f137 BH vW .nil) 138 Tryz.f138 F1 It (.node .nil 139 Tryz.f139 xM pb .nil)) 140 Tryz.f140 F0 Is (.node (.node .nil 141 Tryz.f141 BG rK .nil) 142 Tryz.f142 tu oZ .nil)))) 143 Tryz.f143 BF mz (.node (.node (.node (.node (.node .nil 144 Tryz.f144 FZ Ir .nil) 145 Tryz.f145 FY Iq (.node .nil 146 Tryz.f146 MO Qu .nil)) 147 Tryz.f147 MN Qt (.node (.node .nil 148 Tryz.f148 FX Ip .nil) 149 Tryz.f149 FW Io .nil)) 150 Tryz.f150 BE rJ (.node (.node (.node .nil 167 Tryz.f167 FV Im .nil) 168 Tryz.f168 FU Il (.node .nil 169 Tryz.f169 FT Ik .nil)) 170 Tryz.f170 xL vV (.node (.node .nil 171 Tryz.f171 FR Ij .nil) 172 Tryz.f172 FQ Ii .nil))) 173 Tryz.f173 ML Qs (.node (.node (.node (.node .nil 174 Tryz.f174 tt my .nil) 175 Tryz.f175 BD rI (.node .nil 176 Tryz.f176 BC rH .nil)) 177 Tryz.f177 eL cU (.node (.node .nil 178 Tryz.f178 FP Ih .nil) 190 Tryz.f190 MK Qr .nil)) 191 Tryz.f191 MJ Qq (.node (.node (.node .nil 192 Tryz.f192 xK rG .nil) 199 Tryz.f199 MI Qp (.node .nil 200 Tryz.f200 MG Qo .nil)) 202 Tryz.f202 MF Qn (.node (.node .nil 204 Tryz.f204 ME Qm .nil) 206 Tryz.f206 MD Ql .nil))))))
theorem rU : Xt Tryz.prog au ax GJ.find := bc.ok (bc.al (bc.al (bc.al (bc.al (bc.al (bc.al (bc.al bc.all_nil XN bc.all_nil) XM (bc.al bc.all_nil Xa bc.all_nil)) W9 (bc.al (bc.al bc.all_nil W8 bc.all_nil) W7 (bc.al bc.all_nil W6 bc.all_nil))) W5 (bc.al (bc.al (bc.al bc.all_nil W4 bc.all_nil) W3 (bc.al bc.all_nil W2 bc.all_nil)) W1 (bc.al (bc.al bc.all_nil W0 bc.all_nil) WZ bc.all_nil))) WY (bc.al (bc.al (bc.al (bc.al bc.all_nil WX bc.all_nil) WW (bc.al bc.all_nil WV bc.all_nil)) WU (bc.al (bc.al bc.all_nil WT bc.all_nil) WS bc.all_nil)) WR (bc.al (bc.al (bc.al bc.all_nil WQ bc.all_nil) WO (bc.al bc.all_nil WN bc.all_nil)) WM (bc.al (bc.al bc.all_nil WL bc.all_nil) WK bc.all_nil)))) WJ (bc.al (bc.al (bc.al (bc.al (bc.al bc.all_nil WI bc.all_nil) WH (bc.al bc.all_nil WG bc.all_nil)) WE (bc.al (bc.al bc.all_nil WD bc.all_nil) WC (bc.al bc.all_nil WB bc.all_nil))) WA (bc.al (bc.al (bc.al bc.all_nil Wz bc.all_nil) Wy (bc.al bc.all_nil Wx bc.all_nil)) Ww (bc.al (bc.al bc.all_nil Wv bc.all_nil) Wu bc.all_nil))) Wt (bc.al (bc.al (bc.al (bc.al bc.all_nil Ws bc.all_nil) Wr (bc.al bc.all_nil Wq bc.all_nil)) Wp (bc.al (bc.al bc.all_nil Wo bc.all_nil) Wn bc.all_nil)) Wm (bc.al (bc.al (bc.al bc.all_nil Wl bc.all_nil) Wk (bc.al bc.all_nil Wj bc.all_nil)) Wi (bc.al (bc.al bc.all_nil Wh bc.all_nil) Wg bc.all_nil))))) Wf (bc.al (bc.al (bc.al (bc.al (bc.al (bc.al bc.all_nil We bc.all_nil) Wd (bc.al bc.all_nil Wc bc.all_nil)) Ur (bc.al (bc.al bc.all_nil Uq bc.all_nil) Uo (bc.al bc.all_nil Un bc.all_nil))) Um (bc.al (bc.al (bc.al bc.all_nil Ul bc.all_nil) Uk (bc.al bc.all_nil Uj bc.all_nil)) Ui (bc.al (bc.al bc.all_nil Uh bc.all_nil) Ug bc.all_nil))) Uf (bc.al (bc.al (bc.al (bc.al bc.all_nil Ue bc.all_nil) Ud (bc.al bc.all_nil Uc bc.all_nil)) Ub (bc.al (bc.al bc.all_nil Ua bc.all_nil) T9 bc.all_nil)) T8 (bc.al (bc.al (bc.al bc.all_nil T7 bc.all_nil) T6 (bc.al bc.all_nil T5 bc.all_nil)) T4 (bc.al (bc.al bc.all_nil T3 bc.all_nil) T2 bc.all_nil)))) T1 (bc.al (bc.al (bc.al (bc.al (bc.al bc.all_nil T0 bc.all_nil) TZ (bc.al bc.all_nil TY bc.all_nil)) TX (bc.al (bc.al bc.all_nil TW bc.all_nil) TV bc.all_nil)) TU (bc.al (bc.al (bc.al bc.all_nil TT bc.all_nil) TS (bc.al bc.all_nil TR bc.all_nil)) TQ (bc.al (bc.al bc.all_nil TP bc.all_nil) TO bc.all_nil))) TN (bc.al (bc.al (bc.al (bc.al bc.all_nil TM bc.all_nil) TL (bc.al bc.all_nil TK bc.all_nil)) TJ (bc.al (bc.al bc.all_nil TH bc.all_nil) TG bc.all_nil)) TF (bc.al (bc.al (bc.al bc.all_nil TE bc.all_nil) TC (bc.al bc.all_nil TB bc.all_nil)) TA (bc.al (bc.al bc.all_nil Tz bc.all_nil) Tx bc.all_nil))))))
end Go.Proofs.YtiihadmgkoamoaaGreatDoor

namespace Go.Tp
open Go.Proofs Go.Shelf Go.RowKit Go.Maps
/-! ### What they do -/
section
variable {P : Program} {ρ : Ren} {G : bE}
theorem Dc {N : Name -> Option Nat} {next b : Nat} (hnx : ∀ o b, N (.out o) = some b -> o < next) : ∀ m c, N m = some c -> bU N (.out next) b m = some c := fun m c hm => by
 have hne : m ≠ .out next := by
  rintro rfl
  have := hnx next c hm
  omega
 simp [bU, hne, hm]
theorem DG {N N' : Name -> Option Nat} (h : ∀ m c, N m = some c -> N' m = some c) : ∀ m c, outs N m = some c -> outs N' m = some c := fun m c hm => by
 cases m with
 | loc i => simp [outs] at hm
 | out o => exact h _ _ hm
/-! ### slices.Delete of all from i on -/
end
end Go.Tp

namespace Go.Proofs.YtiihadmgkoamoaaGreatDoor
open Go.Tp Go.Shelf
def jd (l : List (List UInt8)) : List aq := l.map fun b => .flat (.string ⟨⟨b⟩⟩)
def ni : List (List UInt8) := [[65, 110, 121], [78, 101, 118, 101, 114], [116, 117, 112, 108, 101], [117, 110, 105, 111, 110], [101, 120, 105, 115, 116, 115]]
/-- Xa, Xb, Xc, Xd -/
def gX : List (List UInt8) := [[88, 97], [88, 98], [88, 99], [88, 100]]
/-- Int, Bool, String, Nil -/
def eU : List (List UInt8) := [[73, 110, 116], [66, 111, 111, 108], [83, 116, 114, 105, 110, 103], [78, 105, 108]]
def cM : bE := fun g => match g with | 0 => some [.slice (jd gX)] | 1 => some [.slice (jd eU)] | 2 => some [.slice (jd ni)] | 4 => some [.slice (jd ni)] | _ => none
theorem G0 : (env ay.aT).Ok Tryz.prog := by rw [N7]; exact UE
def QC : iI := fun _ _ _ _ => none
theorem QB : E9 Tryz.prog cM QC := by intro f args heap next r h; simp [QC] at h
noncomputable def X : iI := yA (env ay.aT) cM au ax GJ.find QC 3000 60
theorem oK : E9 Tryz.prog cM X := fun f args heap next r h => od 3000 G0 rU (M := QC) QB 60 f args heap next r h
theorem Rp (ls bs : List Nat) {g : FuncId} {x : lY} (hx : GJ.find g = some x) {args : List ae} {heap : Heap} {next : Nat} {r : eW} (h : (L5 (Pq ls) (Pq bs) (env ay.aT) cM au ax x g args heap next).Ok Tryz.prog cM (fun y => y = r)) :
  aB Tryz.prog cM g args heap next (XQ r) := Bb (HO G0 rU hx (fun _ _ => h))
abbrev KD := df Tryz.prog cM
abbrev KC := aB Tryz.prog cM
theorem co (ls bs : List Nat) {g : FuncId} {x : lY} {args : List ae} {heap : Heap} {next : Nat} {r : eW} (h : (L5 (Pq ls) (Pq bs) (env ay.aT) cM au ax x g args heap next).Ok Tryz.prog cM (fun y => y = r)) (hx : GJ.find g = some x := by kernel_rfl) : aB Tryz.prog cM g args heap next (XQ r) := Rp ls bs hx h
theorem aC (ls bs : List Nat) {H : Hints} {n : Nat} {live : Nat -> Nat} {c : Code} (hc : cF H c = true) {f : ac} {T : Exit -> aa -> Prop}
  (h : (rm (Pq ls) (Pq bs) (env ay.aT) cM H n live c f (fun r => .fin r)).Ok Tryz.prog cM (fun r => T r.1 (r.2.aw n))) : df Tryz.prog cM c T (f.aw n) := Jz G0 live hc h
theorem VT {α : Type} {T : α -> Prop} {q : Qy α} {c b : Bool} (hc : c = b) (e : q.yU = some (!c)) (h : (q.U4 (!b)).Ok Tryz.prog cM T) : q.Ok Tryz.prog cM T := bj (by rw [hc]) e h
abbrev ag (g : FuncId) (args : List ae) (v : ae) : Prop := aB Tryz.prog cM g args [] 0 (XQ ⟨v, [], 0⟩)
def i64 (n : Int) : aq := .flat (.int .i64 n)
def sb (b : List UInt8) : aq := .flat (.string ⟨⟨b⟩⟩)
def nl : aq := .flat (.slice none 0 0)
/-- A slice, nil where it is empty. -/
def sl : List aq -> aq
 | [] => nl
 | d :: r => .slice (d :: r)
inductive Ty where
 |mk (k : Int) (nm : List UInt8) (ix : Int) (args : List Ty)
mutual
def Ty.cells : Ty -> List aq
 | .mk k nm ix args => [i64 k, sb nm, i64 ix, sl (ap args)]
def ap : List Ty -> List aq
 | [] => []
 | t :: r => .agg t.cells :: ap r
end
def Ty.enc (t : Ty) : aq := .agg t.cells
def Ty.args : Ty -> List Ty
 | .mk _ _ _ a => a
theorem ou : ∀ l : List Ty, ap l = l.map Ty.enc
 | [] => by simp [ap]
 | t :: r => by simp [ap, ou r, Ty.enc]
theorem aE (l : List Ty) : (ap l).length = l.length := by simp [ou]
theorem Of {l : List Ty} {i : Nat} {t : Ty} (h : l[i]? = some t) : (ap l)[i]? = some t.enc := by simp [ou, h]
mutual
def Ty.size : Ty -> Nat
 | .mk _ _ _ args => aS args + 1
def aS : List Ty -> Nat
 | [] => 0
 | t :: r => t.size + aS r
end
theorem jR {l : List Ty} {i : Nat} {t : Ty} (h : l[i]? = some t) : aS (l.take (i + 1)) = aS (l.take i) + t.size := by
 induction l generalizing i with
 | nil => simp at h
 | cons x r ih =>
  cases i with
  | zero => simp at h; subst h; simp [aS]
  | succ i =>
   simp at h
   simp only [List.take_succ_cons, aS]
   rw [ih h]; omega
theorem qX {l : List Ty} (i : Nat) : aS (l.take i) <= aS l := by
 induction l generalizing i with
 | nil => simp [aS]
 | cons x r ih =>
  cases i with
  | zero => simp [aS]
  | succ i => simp only [List.take_succ_cons, aS]; have := ih i; omega
theorem wrap_add {n m : Nat} (h : n + m < 9223372036854775808) : aI .i64 (Int.ofNat n + Int.ofNat m) = Int.ofNat (n + m) := by
 rw [dz]
 exact wrap_i64 (by simp; omega) (by simp; omega)
noncomputable def Vr : TI := match Go.Tp.elemOf (env ay.aT) 30 with | some t => t | none => default
theorem KZ : Go.Tp.elemOf (env ay.aT) 30 = some Vr := by kernel_rfl
theorem wD : Vr.size = 4 := by kernel_rfl
theorem jX {l : List Ty} {i : Nat} {t : Ty} (h : l[i]? = some t) : aK (env ay.aT) 30 [.dat (.slice (ap l)), .dat (.flat (.int .i64 (Int.ofNat i)))] = some ⟨.ref t.cells, .keep⟩ :=
 sC KZ rfl (Of h) (by rw [wD]; cases t; rfl) (by rw [wD]; decide)
theorem get_mem {l : List Ty} {i : Nat} (h : i < (ap l).length) : ∃ t, l[i]? = some t /\ t ∈ l := by
 rw [aE] at h
 exact ⟨l[i], List.getElem?_eq_getElem h, List.getElem_mem h⟩
/-! ### Size -/
noncomputable def Sj : Hints := ⟨au, BI, ax, rowsOf ax 136⟩
def lc (l : List Ty) (i n : Int) : ac := ⟨[(9, iv i), (8, iv (Int.ofNat (ap l).length)), (7, .dat (.slice (ap l))), (3, iv n)], [], [], 0⟩
def oN (l : List Ty) (n : Int) : ac := ⟨[(10, bv false), (9, iv (Int.ofNat (ap l).length)), (8, iv (Int.ofNat (ap l).length)), (7, .dat (.slice (ap l))), (3, iv n)], [], [], 0⟩
theorem PN {k : Int} {nm : List UInt8} {ix : Int} {l : List Ty} (ih : ∀ t ∈ l, ag 136 [.dat t.enc] (iv (Int.ofNat t.size))) (hb : aS l < 1000000000) :
  ag 136 [.dat (.agg [i64 k, sb nm, i64 ix, .slice (ap l)])] (iv (Int.ofNat (aS l + 1))) := by
 have hlen : l.length <= aS l := by
  clear ih hb
  induction l with
  | nil => simp [aS]
  | cons t r ih => cases t; simp only [List.length_cons, aS, Ty.size]; omega
 refine co [] [] (x := .of Tryz.f136 BI vX) ?_; refine gR (n := Tryz.f136.ntmps) (c := roundOf Tryz.f136 0) (f := lc l (Int.ofNat 0) (Int.ofNat (1 + aS (l.take 0)))) (L := fun e s => e = .exit 0 /\ s = (oN l (Int.ofNat (1 + aS l))).aw Tryz.f136.ntmps) (by kernel_rfl) (by kernel_rfl) ?_ ?_
 ·refine bu (St := fun i => (lc l (Int.ofNat i) (Int.ofNat (1 + aS (l.take i)))).aw Tryz.f136.ntmps) (ap l).length ?_ ?_ (i := 0) (Nat.zero_le _)
  ·intro i hi
   obtain ⟨t, ht, hm⟩ := get_mem hi
   have hs := jR ht
   have hle := qX (l := l) (i + 1)
   rw [aE] at hi
   have hi' : i < (ap l).length := by rw [aE]; exact hi
   have e : qc (fun s => s = (lc l (Int.ofNat (i + 1)) (Int.ofNat (1 + aS (l.take (i + 1))))).aw Tryz.f136.ntmps) (fun e s => e = .exit 0 /\ s = (oN l (Int.ofNat (1 + aS l))).aw Tryz.f136.ntmps) .normal
     ((lc l (aI .i64 (Int.ofNat i + 1)) (aI .i64 (Int.ofNat (1 + aS (l.take i)) + Int.ofNat t.size))).aw Tryz.f136.ntmps) := by
    rw [bn (by omega), wrap_add (by omega), hs]
    show _ = _
    rw [Nat.add_assoc]
   have hc := ih t hm
   clear hs hle ih hb hlen
   obtain ⟨k2, nm2, ix2, a2⟩ := t
   rcases a2 with _ | ⟨b, c⟩ <;>
   ·refine aC [10] [11] (H := Sj) (live := vX) (by kernel_rfl) ?_; refine bj (b := true) (bH hi') (by kernel_rfl) ?_; refine oo (jX ht) ?_; refine on hc ?_
    exact bN (ex := .normal) (lc l (aI .i64 (Int.ofNat i + 1)) (aI .i64 (Int.ofNat (1 + aS (l.take i)) + Int.ofNat (Ty.size _)))) (by kernel_rfl) (by kernel_rfl) e
  refine aC [10] [11] (H := Sj) (live := vX) (by kernel_rfl) ?_; refine bj (b := false) (bR (i := (ap l).length) (L := (ap l).length) (by omega)) (by kernel_rfl) ?_
  refine bN (ex := .exit 0) (oN l (Int.ofNat (1 + aS (l.take (ap l).length)))) (by kernel_rfl) (by kernel_rfl) ⟨rfl, ?_⟩
  rw [aE, List.take_length]
 rintro e s ⟨rfl, rfl⟩
 refine ⟨_, rfl, br (a := ⟨iv (Int.ofNat (1 + aS l)), [], 0⟩) (by kernel_rfl) ?_⟩
 rw [Nat.add_comm]
theorem Lx {k : Int} {nm : List UInt8} {ix : Int} : ag 136 [.dat (.agg [i64 k, sb nm, i64 ix, nl])] (iv (Int.ofNat 1)) := oK _ _ _ _ _ (by kernel_rfl)
mutual
theorem OP : ∀ t : Ty, t.size < 1000000000 -> ag 136 [.dat t.enc] (iv (Int.ofNat t.size))
 | .mk k nm ix [], _ => Lx
 | .mk k nm ix (t :: r), h => by
  have h2 : aS (t :: r) < 1000000000 := by simp only [Ty.size] at h; omega
  have := PN (k := k) (nm := nm) (ix := ix) (l := t :: r) (IQ (t :: r) h2) h2
  exact this
theorem IQ : ∀ l : List Ty, aS l < 1000000000 -> ∀ t ∈ l, ag 136 [.dat t.enc] (iv (Int.ofNat t.size))
 | [], _, t, ht => by simp at ht
 | u :: r, h, t, ht => by
  simp only [aS] at h
  rcases List.mem_cons.1 ht with h1 | ht
  ·rw [h1]; exact OP u (by omega)
  exact IQ r (by omega) t ht
end
/-! ### Depth -/
mutual
def Ty.depth : Ty -> Nat
 | .mk _ _ _ args => bG args + 1
def bG : List Ty -> Nat
 | [] => 0
 | t :: r => max t.depth (bG r)
end
theorem va {l : List Ty} {i : Nat} {t : Ty} (h : l[i]? = some t) : bG (l.take (i + 1)) = max (bG (l.take i)) t.depth := by
 induction l generalizing i with
 | nil => simp at h
 | cons x r ih =>
  cases i with
  | zero => simp at h; subst h; simp [bG]
  | succ i =>
   simp at h
   simp only [List.take_succ_cons, bG]
   rw [ih h, Nat.max_assoc]
mutual
theorem iD : ∀ t : Ty, t.depth <= t.size
 | .mk _ _ _ args => by simp only [Ty.depth, Ty.size]; have := jf args; omega
theorem jf : ∀ l : List Ty, bG l <= aS l
 | [] => by simp [bG, aS]
 | t :: r => by simp only [bG, aS]; have := iD t; have := jf r; omega
end
theorem VX {n m : Nat} : ay.aT.mx (Int.ofNat n) (Int.ofNat m) = Int.ofNat (max n m) := by
 show (match bm (Int.ofNat n) (Int.ofNat m) with | true => Int.ofNat m | false => Int.ofNat n) = _
 rw [jj]
 by_cases h : n < m
 ·rw [decide_eq_true h]; simp; omega
 rw [decide_eq_false h]; simp; omega
theorem ew (l : List Ty) : l.length <= aS l := by
 induction l with
 | nil => simp [aS]
 | cons t r ih => cases t; simp only [List.length_cons, aS, Ty.size]; omega
noncomputable def NP : Hints := ⟨au, BH, ax, rowsOf ax 137⟩
theorem Ov {k : Int} {nm : List UInt8} {ix : Int} {l : List Ty} (ih : ∀ t ∈ l, ag 137 [.dat t.enc] (iv (Int.ofNat t.depth))) (hb : aS l < 1000000000) :
  ag 137 [.dat (.agg [i64 k, sb nm, i64 ix, .slice (ap l)])] (iv (Int.ofNat (bG l + 1))) := by
 have hlen := ew l
 have hdl := jf l
 rw [← bn (by omega)]
 refine co [] [] (x := .of Tryz.f137 BH vW) ?_; refine gR (n := Tryz.f137.ntmps) (c := roundOf Tryz.f137 0) (f := lc l (Int.ofNat 0) (Int.ofNat (bG (l.take 0)))) (L := fun e s => e = .exit 0 /\ s = (oN l (Int.ofNat (bG l))).aw Tryz.f137.ntmps) (by kernel_rfl) (by kernel_rfl) ?_ ?_
 ·refine bu (St := fun i => (lc l (Int.ofNat i) (Int.ofNat (bG (l.take i)))).aw Tryz.f137.ntmps) (ap l).length ?_ ?_ (i := 0) (Nat.zero_le _)
  ·intro i hi
   obtain ⟨t, ht, hm⟩ := get_mem hi
   have e : qc (fun s => s = (lc l (Int.ofNat (i + 1)) (Int.ofNat (bG (l.take (i + 1))))).aw Tryz.f137.ntmps) (fun e s => e = .exit 0 /\ s = (oN l (Int.ofNat (bG l))).aw Tryz.f137.ntmps) .normal
     ((lc l (aI .i64 (Int.ofNat i + 1)) (ay.aT.mx (Int.ofNat (bG (l.take i))) (Int.ofNat t.depth))).aw Tryz.f137.ntmps) := by
    rw [aE] at hi
    rw [bn (by omega), VX, va ht]
    rfl
   have hc := ih t hm
   clear ih hb hlen hdl
   obtain ⟨k2, nm2, ix2, a2⟩ := t
   rcases a2 with _ | ⟨b, c⟩ <;>
   ·refine aC [10] [11] (H := NP) (live := vW) (by kernel_rfl) ?_; refine bj (b := true) (bH hi) (by kernel_rfl) ?_; refine oo (jX ht) ?_; refine on hc ?_
    exact bN (ex := .normal) (lc l (aI .i64 (Int.ofNat i + 1)) (ay.aT.mx (Int.ofNat (bG (l.take i))) (Int.ofNat (Ty.depth _)))) (by kernel_rfl) (by kernel_rfl) e
  refine aC [10] [11] (H := NP) (live := vW) (by kernel_rfl) ?_; refine bj (b := false) (bR (i := (ap l).length) (L := (ap l).length) (by omega)) (by kernel_rfl) ?_
  refine bN (ex := .exit 0) (oN l (Int.ofNat (bG (l.take (ap l).length)))) (by kernel_rfl) (by kernel_rfl) ⟨rfl, ?_⟩
  rw [aE, List.take_length]
 rintro e s ⟨rfl, rfl⟩
 exact ⟨_, rfl, br (by kernel_rfl) rfl⟩
theorem Kj {k : Int} {nm : List UInt8} {ix : Int} : ag 137 [.dat (.agg [i64 k, sb nm, i64 ix, nl])] (iv (Int.ofNat 1)) := oK _ _ _ _ _ (by kernel_rfl)
mutual
theorem IU : ∀ t : Ty, t.size < 1000000000 -> ag 137 [.dat t.enc] (iv (Int.ofNat t.depth))
 | .mk k nm ix [], _ => Kj
 | .mk k nm ix (t :: r), h => by
  have h2 : aS (t :: r) < 1000000000 := by simp only [Ty.size] at h; omega
  have := Ov (k := k) (nm := nm) (ix := ix) (l := t :: r) (EV (t :: r) h2) h2
  exact this
theorem EV : ∀ l : List Ty, aS l < 1000000000 -> ∀ t ∈ l, ag 137 [.dat t.enc] (iv (Int.ofNat t.depth))
 | [], _, t, ht => by simp at ht
 | u :: r, h, t, ht => by
  simp only [aS] at h
  rcases List.mem_cons.1 ht with h1 | ht
  ·rw [h1]; exact IU u (by omega)
  exact EV r (by omega) t ht
end
/-! ### Closed terms -/
def cO (k : Int) (i : Nat) : Nat := if aZ k 6 = true /\ i = 1 then 1 else 0
mutual
def Ty.closed : Ty -> Nat -> Bool
 | .mk k _ ix args, u => !(aZ k 5 && !bm ix (Int.ofNat u)) && eh k 0 args u
def eh (k : Int) : Nat -> List Ty -> Nat -> Bool
 | _, [], _ => true
 | i, t :: r, u => t.closed (u + cO k i) && eh k (i + 1) r u
end
theorem tV (k : Int) (nm : List UInt8) (ix : Int) (a : aq) (ha : a = nl ∨ ∃ es, a = .slice es) (i : Nat) : ag 126 [.dat (.agg [i64 k, sb nm, i64 ix, a]), iv (Int.ofNat i)] (iv (Int.ofNat (cO k i))) := by
 rcases ha with rfl | ⟨es, rfl⟩ <;>
 ·refine co [7, 10] [] (x := .of Tryz.f126 F4 Iv) ?_
  refine DR (c := aZ k 6) (by kernel_rfl) (fun h6 => ?_) (fun h6 => ?_)
  ·refine DR (c := aZ (Int.ofNat i) (Int.ofNat 1)) (by kernel_rfl) (fun h1 => ?_) (fun h1 => ?_)
   ·rw [tO, decide_eq_true_eq] at h1
    have : cO k i = 1 := by unfold cO; rw [if_pos ⟨h6, h1⟩]
    rw [this]
    exact fi
   rw [tO, decide_eq_false_iff_not] at h1
   have : cO k i = 0 := by unfold cO; rw [if_neg (fun h => h1 h.2)]
   rw [this]
   exact fi
  have : cO k i = 0 := by unfold cO; rw [if_neg (fun h => by rw [h6] at h; simp at h)]
  rw [this]
  exact fi
noncomputable def B8 : Hints := ⟨au, xM, ax, rowsOf ax 139⟩
def V1 (k : Int) (nm : List UInt8) (ix : Int) (l : List Ty) : Heap := [(.loc 2, .cells [iv k, .dat (sb nm), iv ix, .dat (.slice (ap l))])]
def PL (k : Int) (nm : List UInt8) (ix : Int) (l : List Ty) (u : Nat) (i : Int) : ac := ⟨[(19, iv i), (18, iv (Int.ofNat (ap l).length)), (17, .dat (.slice (ap l))), (2, .ptr (.loc 2) 0), (1, iv (Int.ofNat u))], V1 k nm ix l, [], 0⟩
def Lr (k : Int) (nm : List UInt8) (ix : Int) (l : List Ty) (u : Nat) : ac := ⟨[(20, bv false), (19, iv (Int.ofNat (ap l).length)), (18, iv (Int.ofNat (ap l).length)), (17, .dat (.slice (ap l))), (2, .ptr (.loc 2) 0), (1, iv (Int.ofNat u))], V1 k nm ix l, [], 0⟩
def Ls : ac := ⟨[(4, bv false)], [], [], 0⟩
theorem gY {l : List Ty} {i : Nat} {t : Ty} (h : l[i]? = some t) : l.drop i = t :: l.drop (i + 1) := by
 obtain ⟨hi, rfl⟩ := List.getElem?_eq_some_iff.1 h
 exact List.drop_eq_getElem_cons hi
theorem EP {k : Int} {nm : List UInt8} {ix : Int} {l : List Ty} {u : Nat} (ih : ∀ t ∈ l, ∀ v, v <= u + 1 -> ag 139 [.dat t.enc, iv (Int.ofNat v)] (bv (t.closed v))) (hb : aS l < 1000000000) (hu : u < 2000000000) :
  KD (.loop (roundOf Tryz.f139 0)) (fun e s => (e = .exit 0 /\ eh k 0 l u = true /\ s = (Lr k nm ix l u).aw Tryz.f139.ntmps) ∨ (e = .ret /\ eh k 0 l u = false /\ s = Ls.aw Tryz.f139.ntmps)) ((PL k nm ix l u (Int.ofNat 0)).aw Tryz.f139.ntmps) := by
 have hlen := ew l
 refine cj (St := fun i => (PL k nm ix l u (Int.ofNat i)).aw Tryz.f139.ntmps) (fun i => eh k 0 l u = eh k i (l.drop i) u) (ap l).length ?_ ?_ (i := 0) (Nat.zero_le _) rfl
 ·intro i hi hI
  obtain ⟨t, ht, hm⟩ := get_mem hi
  have hcl : eh k i (l.drop i) u = (t.closed (u + cO k i) && eh k (i + 1) (l.drop (i + 1)) u) := by rw [gY ht]; rfl
  have hbn : cO k i <= 1 := by unfold cO; split <;> omega
  have hc : ag 139 [.dat t.enc, iv (aI .i64 (Int.ofNat u + Int.ofNat (cO k i)))] (bv (t.closed (u + cO k i))) := by
   rw [wrap_add (by omega)]; exact ih t hm _ (by omega)
  have hw : aI .i64 (Int.ofNat i + 1) = Int.ofNat (i + 1) := bn (by rw [aE] at hi; omega)
  have hbi := tV k nm ix (.slice (ap l)) (.inr ⟨_, rfl⟩) i
  generalize ht2 : t.closed (u + cO k i) = tc at hc hcl
  clear ih hb hlen hu hbn ht2
  obtain ⟨k2, nm2, ix2, a2⟩ := t
  rcases a2 with _ | ⟨b, c⟩ <;> cases tc <;>
  ·refine aC [20] [22] (H := B8) (live := pb) (by kernel_rfl) ?_; refine bj (b := true) (bH hi) (by kernel_rfl) ?_; refine oo (jX ht) ?_; refine on hbi ?_; refine on hc ?_
   first
    |exact bN (ex := .normal) (PL k nm ix l u (aI .i64 (Int.ofNat i + 1))) (by kernel_rfl) (by kernel_rfl) ⟨by rw [hw], by rw [hI, hcl]; rfl⟩
    |exact bN (ex := .ret) Ls (by kernel_rfl) (by kernel_rfl) (.inr ⟨rfl, by rw [hI, hcl]; rfl, rfl⟩)
 intro hI
 have h1 : eh k 0 l u = true := by
  rw [hI, aE, List.drop_length]; rfl
 refine aC [20] [22] (H := B8) (live := pb) (by kernel_rfl) ?_; refine bj (b := false) (bR (i := (ap l).length) (L := (ap l).length) (by omega)) (by kernel_rfl) ?_
 exact bN (ex := .exit 0) (Lr k nm ix l u) (by kernel_rfl) (by kernel_rfl) (.inl ⟨rfl, h1, rfl⟩)
theorem zL (k : Int) (nm : List UInt8) (ix : Int) (l : List Ty) (u : Nat) : (Ty.mk k nm ix l).closed u = (!(aZ k 5 && !bm ix (Int.ofNat u)) && eh k 0 l u) := by rw [Ty.closed]
theorem Kr {k : Int} {nm : List UInt8} {ix : Int} {l : List Ty} {u : Nat} (ih : ∀ t ∈ l, ∀ v, v <= u + 1 -> ag 139 [.dat t.enc, iv (Int.ofNat v)] (bv (t.closed v))) (hb : aS l < 1000000000) (hu : u < 2000000000) :
  ag 139 [.dat (.agg [i64 k, sb nm, i64 ix, .slice (ap l)]), iv (Int.ofNat u)] (bv ((Ty.mk k nm ix l).closed u)) := by
 have hl := EP (k := k) (nm := nm) (ix := ix) ih hb hu
 rw [zL]
 clear ih hb hu
 have key : ∀ c5 : Bool, c5 = aZ k 5 -> ∀ cu : Bool, cu = !bm ix (Int.ofNat u) -> ag 139 [.dat (.agg [i64 k, sb nm, i64 ix, .slice (ap l)]), iv (Int.ofNat u)] (bv (!(c5 && cu) && eh k 0 l u)) := by
  intro c5 h5 cu hcu
  refine co [9, 14] [] (x := .of Tryz.f139 xM pb) ?_; refine bj (b := c5) h5.symm (by kernel_rfl) ?_
  have go : ∀ {q : Qy eW} (hs : q.D4.aw Tryz.f139.ntmps = (PL k nm ix l u (Int.ofNat 0)).aw Tryz.f139.ntmps) (e : q.Az = some (Tryz.f139.ntmps, roundOf Tryz.f139 0))
    (e1 : (q.VV (.exit 0, Lr k nm ix l u)).GQ = some ⟨bv true, [], 0⟩) (e2 : (q.VV (.ret, Ls)).GQ = some ⟨bv false, [], 0⟩), q.Ok Tryz.prog cM (fun y => y = ⟨bv (eh k 0 l u), [], 0⟩) := by
   intro q hs e e1 e2
   refine gR (n := Tryz.f139.ntmps) e hs hl ?_
   rintro ex s (⟨rfl, hc, rfl⟩ | ⟨rfl, hc, rfl⟩)
   ·rw [hc]; exact ⟨_, rfl, br e1 rfl⟩
   rw [hc]; exact ⟨_, rfl, br e2 rfl⟩
  cases c5 with
  | false => exact go (by kernel_rfl) (by kernel_rfl) (by kernel_rfl) (by kernel_rfl)
  | true =>
   refine bj (b := cu) hcu.symm (by kernel_rfl) ?_
   cases cu
   ·exact go (by kernel_rfl) (by kernel_rfl) (by kernel_rfl) (by kernel_rfl)
   exact fi
 exact key _ rfl _ rfl
def RY (k : Int) (nm : List UInt8) (ix : Int) (u : Nat) : ac := ⟨[(19, iv 0), (18, iv 0), (17, .dat nl), (2, .ptr (.loc 2) 0), (1, iv (Int.ofNat u))], [(.loc 2, .cells [iv k, .dat (sb nm), iv ix, .dat nl])], [], 0⟩
def Lt (k : Int) (nm : List UInt8) (ix : Int) (u : Nat) : ac := ⟨[(20, bv false), (19, iv 0), (18, iv 0), (17, .dat nl), (2, .ptr (.loc 2) 0), (1, iv (Int.ofNat u))], [(.loc 2, .cells [iv k, .dat (sb nm), iv ix, .dat nl])], [], 0⟩
theorem EO (k : Int) (nm : List UInt8) (ix : Int) (u : Nat) : gW X (env ay.aT) cM B8 Tryz.f139.ntmps pb 3000 (.loop (roundOf Tryz.f139 0)) (RY k nm ix u) = some (.exit 0, Lt k nm ix u) := by kernel_rfl
theorem G7 (k : Int) (nm : List UInt8) (ix : Int) (u : Nat) : ag 139 [.dat (.agg [i64 k, sb nm, i64 ix, nl]), iv (Int.ofNat u)] (bv ((Ty.mk k nm ix []).closed u)) := by
 rw [zL]
 have key : ∀ c5 : Bool, c5 = aZ k 5 -> ∀ cu : Bool, cu = !bm ix (Int.ofNat u) -> ag 139 [.dat (.agg [i64 k, sb nm, i64 ix, nl]), iv (Int.ofNat u)] (bv (!(c5 && cu) && eh k 0 [] u)) := by
  intro c5 h5 cu hcu
  refine co [9, 14] [] (x := .of Tryz.f139 xM pb) ?_; refine bj (b := c5) h5.symm (by kernel_rfl) ?_
  have go : ∀ {q : Qy eW} (hs : q.D4.aw Tryz.f139.ntmps = (RY k nm ix u).aw Tryz.f139.ntmps) (e : q.Az = some (Tryz.f139.ntmps, roundOf Tryz.f139 0))
    (e1 : (q.VV (.exit 0, Lt k nm ix u)).GQ = some ⟨bv true, [], 0⟩), q.Ok Tryz.prog cM (fun y => y = ⟨bv true, [], 0⟩) := by
   intro q hs e e1
   refine gR (n := Tryz.f139.ntmps) e hs (OI G0 oK 3000 (by kernel_rfl) (EO k nm ix u)) ?_; rintro ex s ⟨rfl, rfl⟩
   exact ⟨_, rfl, br e1 rfl⟩
  cases c5 with
  | false => exact go (by kernel_rfl) (by kernel_rfl) (by kernel_rfl)
  | true =>
   refine bj (b := cu) hcu.symm (by kernel_rfl) ?_
   cases cu
   ·exact go (by kernel_rfl) (by kernel_rfl) (by kernel_rfl)
   exact fi
 exact key _ rfl _ rfl
mutual
theorem EW : ∀ (t : Ty) (u : Nat), t.size < 1000000000 -> u + t.depth < 2000000000 -> ag 139 [.dat t.enc, iv (Int.ofNat u)] (bv (t.closed u))
 | .mk k nm ix [], u, _, _ => G7 k nm ix u
 | .mk k nm ix (t :: r), u, h, hu => by
  have h2 : aS (t :: r) < 1000000000 := by simp only [Ty.size] at h; omega
  have h3 : u + 1 + bG (t :: r) < 2000000000 := by simp only [Ty.depth] at hu; omega
  exact Kr (l := t :: r) (fun x hx v hv => tU (t :: r) v h2 (by omega) x hx) h2 (by omega)
theorem tU : ∀ (l : List Ty) (u : Nat), aS l < 1000000000 -> u + bG l < 2000000000 -> ∀ t ∈ l, ag 139 [.dat t.enc, iv (Int.ofNat u)] (bv (t.closed u))
 | [], _, _, _, t, ht => by simp at ht
 | x :: r, u, h, hu, t, ht => by
  simp only [aS] at h
  simp only [bG] at hu
  rcases List.mem_cons.1 ht with h1 | ht
  ·rw [h1]; exact EW x u (by omega) (by omega)
  exact tU r u (by omega) (by omega) t ht
end
mutual
/-- No node has too many arguments. -/
def Ty.thin : Ty -> Prop
 | .mk _ _ _ l => l.length < 1000000000 /\ fQ l
def fQ : List Ty -> Prop
 | [] => True
 | t :: r => t.thin /\ fQ r
end
mutual
theorem qR : ∀ t : Ty, t.size < 1000000000 -> t.thin
 | .mk _ _ _ l, h => by
  simp only [Ty.size] at h
  have := ew l
  simp only [Ty.thin]
  exact ⟨by omega, CT l (by omega)⟩
theorem CT : ∀ l : List Ty, aS l < 1000000000 -> fQ l
 | [], _ => by simp [fQ]
 | t :: r, h => by
  simp only [aS] at h
  simp only [fQ]
  exact ⟨qR t (by omega), CT r (by omega)⟩
end
theorem sS : ∀ {l : List Ty}, fQ l -> ∀ t ∈ l, t.thin
 | [], _, t, ht => by simp at ht
 | x :: r, h, t, ht => by
  simp only [fQ] at h
  rcases List.mem_cons.1 ht with h1 | ht
  ·rw [h1]; exact h.1
  exact sS h.2 t ht
theorem yM (ls bs : List Nat) {g : FuncId} {x : lY} (hx : GJ.find g = some x) {args : List ae} {heap : Heap} {next : Nat} {T : eW -> Prop} (h : (L5 (Pq ls) (Pq bs) (env ay.aT) cM au ax x g args heap next).Ok Tryz.prog cM T) :
  KC g args heap next (fun v h m => T ⟨v, h, m⟩) := HO G0 rU hx (fun _ _ => h)
/-- The values below which a search stops. -/
def mS (b : Bool) (v : ae) : Prop := ∃ j : Int, v = iv j /\ bm j (Int.ofNat 0) = !b
theorem E4 {l : List Ty} {p : Ty -> Bool} {i : Nat} {t : Ty} (h : l[i]? = some t) : (l.drop i).any p = (p t || (l.drop (i + 1)).any p) := by rw [gY h]; rfl
noncomputable def wg : Hints := ⟨au, uI, ax, rowsOf ax 99⟩
/-! ### plainArgsF -/
def gV : ae := .fn (.func 169) [] []
def iK (l : List Ty) (i : Int) : ac := ⟨[(8, iv i), (7, iv (Int.ofNat (ap l).length)), (0, .dat (.slice (ap l))), (1, gV)], [], [], 0⟩
def nu (l : List Ty) : ac := ⟨[(9, bv false), (8, iv (Int.ofNat (ap l).length)), (7, iv (Int.ofNat (ap l).length)), (0, .dat (.slice (ap l))), (1, gV)], [], [], 0⟩
def ny (i : Nat) : ac := ⟨[(4, iv (Int.ofNat i))], [], [], 0⟩
theorem vE {l : List Ty} {p : Ty -> Bool} (hp : ∀ t ∈ l, ag 169 [.dat t.enc] (bv (p t))) (hb : l.length < 1000000000) :
  KC 99 [.dat (.slice (ap l)), gV] [] 0 (fun v h m => mS (l.any p) v /\ h = [] /\ m = 0) := by
 have hl : KD (.loop (roundOf Tryz.f99 0)) (fun e s => (e = .exit 0 /\ l.any p = false /\ s = (nu l).aw Tryz.f99.ntmps) ∨ (e = .ret /\ l.any p = true /\ ∃ i : Nat, s = (ny i).aw Tryz.f99.ntmps)) ((iK l (Int.ofNat 0)).aw Tryz.f99.ntmps) := by
  refine cj (St := fun i => (iK l (Int.ofNat i)).aw Tryz.f99.ntmps) (fun i => l.any p = (l.drop i).any p) (ap l).length ?_ ?_ (i := 0) (Nat.zero_le _) rfl
  ·intro i hi hI
   obtain ⟨t, ht, hm⟩ := get_mem hi
   have ha := E4 (p := p) ht
   have hw : aI .i64 (Int.ofNat i + 1) = Int.ofNat (i + 1) := bn (by rw [aE] at hi; omega)
   have hc := hp t hm
   generalize ht2 : p t = tc at hc ha
   clear hp hb ht2
   obtain ⟨k2, nm2, ix2, a2⟩ := t
   rcases a2 with _ | ⟨b, c⟩ <;> cases tc <;>
   ·refine aC [9] [14] (H := wg) (live := iu) (by kernel_rfl) ?_; refine bj (b := true) (bH hi) (by kernel_rfl) ?_; refine oo (jX ht) ?_; refine on hc ?_
    first
     |exact bN (ex := .normal) (iK l (aI .i64 (Int.ofNat i + 1))) (by kernel_rfl) (by kernel_rfl) ⟨by rw [hw], by rw [hI, ha]; rfl⟩
     |exact bN (ex := .ret) (ny i) (by kernel_rfl) (by kernel_rfl) (.inr ⟨rfl, by rw [hI, ha]; rfl, i, rfl⟩)
  intro hI
  have h1 : l.any p = false := by rw [hI, aE, List.drop_length]; rfl
  refine aC [9] [14] (H := wg) (live := iu) (by kernel_rfl) ?_; refine bj (b := false) (bR (i := (ap l).length) (L := (ap l).length) (by omega)) (by kernel_rfl) ?_
  exact bN (ex := .exit 0) (nu l) (by kernel_rfl) (by kernel_rfl) (.inl ⟨rfl, h1, rfl⟩)
 clear hp hb
 refine yM [] [] (x := lY.of Tryz.f99 uI iu) (T := fun r => mS (l.any p) r.val /\ r.heap = [] /\ r.next = 0) (by kernel_rfl) ?_
 refine gR (n := Tryz.f99.ntmps) (c := roundOf Tryz.f99 0) (f := iK l (Int.ofNat 0)) (by kernel_rfl) (by kernel_rfl) hl ?_
 rintro ex s (⟨rfl, hc, rfl⟩ | ⟨rfl, hc, i, rfl⟩)
 ·rw [hc]; exact ⟨_, rfl, br (a := ⟨iv (-1), [], 0⟩) (by kernel_rfl) ⟨⟨_, rfl, rfl⟩, rfl, rfl⟩⟩
 rw [hc]; exact ⟨_, rfl, br (a := ⟨iv (Int.ofNat i), [], 0⟩) (by kernel_rfl) ⟨⟨_, rfl, bR (by omega)⟩, rfl, rfl⟩⟩
theorem zF {l : List Ty} {p : Ty -> Bool} (hp : ∀ t ∈ l, ag 169 [.dat t.enc] (bv (p t))) (hb : l.length < 1000000000) :
  ag 69 [.dat (sl (ap l)), gV] (bv (l.any p)) := by
 cases l with
 | nil => exact oK _ _ _ _ _ (by kernel_rfl)
 | cons t r =>
  have h := vE hp hb
  generalize (t :: r).any p = c at h
  show ag 69 [.dat (.slice (ap (t :: r))), gV] (bv c)
  refine co [8] [] (x := .of Tryz.f69 At xX) ?_; refine Ga (Q := mS c) h (by kernel_rfl) (by kernel_rfl) (by rintro v ⟨j, rfl, _⟩; rfl) ?_
  rintro v ⟨j, rfl, hj⟩ _
  refine bj (b := c) (c := !bm j (Int.ofNat 0)) (by rw [hj]; simp) (by kernel_rfl) ?_
  exact br (a := ⟨bv c, [], 0⟩) (by cases c <;> kernel_rfl) rfl
/-! ### validNodesF -/
def gf : ae := .fn (.func 168) [] []
def gI (l : List Ty) (i : Int) : ac := ⟨[(8, iv i), (7, iv (Int.ofNat (ap l).length)), (0, .dat (.slice (ap l))), (1, gf)], [], [], 0⟩
def mT (l : List Ty) : ac := ⟨[(9, bv false), (8, iv (Int.ofNat (ap l).length)), (7, iv (Int.ofNat (ap l).length)), (0, .dat (.slice (ap l))), (1, gf)], [], [], 0⟩
def mU (i : Nat) : ac := ⟨[(4, iv (Int.ofNat i))], [], [], 0⟩
theorem tG {l : List Ty} {p : Ty -> Bool} (hp : ∀ t ∈ l, ag 168 [.dat t.enc] (bv (p t))) (hb : l.length < 1000000000) :
  KC 99 [.dat (.slice (ap l)), gf] [] 0 (fun v h m => mS (l.any p) v /\ h = [] /\ m = 0) := by
 have hl : KD (.loop (roundOf Tryz.f99 0)) (fun e s => (e = .exit 0 /\ l.any p = false /\ s = (mT l).aw Tryz.f99.ntmps) ∨ (e = .ret /\ l.any p = true /\ ∃ i : Nat, s = (mU i).aw Tryz.f99.ntmps)) ((gI l (Int.ofNat 0)).aw Tryz.f99.ntmps) := by
  refine cj (St := fun i => (gI l (Int.ofNat i)).aw Tryz.f99.ntmps) (fun i => l.any p = (l.drop i).any p) (ap l).length ?_ ?_ (i := 0) (Nat.zero_le _) rfl
  ·intro i hi hI
   obtain ⟨t, ht, hm⟩ := get_mem hi
   have ha := E4 (p := p) ht
   have hw : aI .i64 (Int.ofNat i + 1) = Int.ofNat (i + 1) := bn (by rw [aE] at hi; omega)
   have hc := hp t hm
   generalize ht2 : p t = tc at hc ha
   clear hp hb ht2
   obtain ⟨k2, nm2, ix2, a2⟩ := t
   rcases a2 with _ | ⟨b, c⟩ <;> cases tc <;>
   ·refine aC [9] [14] (H := wg) (live := iu) (by kernel_rfl) ?_; refine bj (b := true) (bH hi) (by kernel_rfl) ?_; refine oo (jX ht) ?_; refine on hc ?_
    first
     |exact bN (ex := .normal) (gI l (aI .i64 (Int.ofNat i + 1))) (by kernel_rfl) (by kernel_rfl) ⟨by rw [hw], by rw [hI, ha]; rfl⟩
     |exact bN (ex := .ret) (mU i) (by kernel_rfl) (by kernel_rfl) (.inr ⟨rfl, by rw [hI, ha]; rfl, i, rfl⟩)
  intro hI
  have h1 : l.any p = false := by rw [hI, aE, List.drop_length]; rfl
  refine aC [9] [14] (H := wg) (live := iu) (by kernel_rfl) ?_; refine bj (b := false) (bR (i := (ap l).length) (L := (ap l).length) (by omega)) (by kernel_rfl) ?_
  exact bN (ex := .exit 0) (mT l) (by kernel_rfl) (by kernel_rfl) (.inl ⟨rfl, h1, rfl⟩)
 clear hp hb
 refine yM [] [] (x := lY.of Tryz.f99 uI iu) (T := fun r => mS (l.any p) r.val /\ r.heap = [] /\ r.next = 0) (by kernel_rfl) ?_
 refine gR (n := Tryz.f99.ntmps) (c := roundOf Tryz.f99 0) (f := gI l (Int.ofNat 0)) (by kernel_rfl) (by kernel_rfl) hl ?_
 rintro ex s (⟨rfl, hc, rfl⟩ | ⟨rfl, hc, i, rfl⟩)
 ·rw [hc]; exact ⟨_, rfl, br (a := ⟨iv (-1), [], 0⟩) (by kernel_rfl) ⟨⟨_, rfl, rfl⟩, rfl, rfl⟩⟩
 rw [hc]; exact ⟨_, rfl, br (a := ⟨iv (Int.ofNat i), [], 0⟩) (by kernel_rfl) ⟨⟨_, rfl, bR (by omega)⟩, rfl, rfl⟩⟩
theorem zc {l : List Ty} {p : Ty -> Bool} (hp : ∀ t ∈ l, ag 168 [.dat t.enc] (bv (p t))) (hb : l.length < 1000000000) :
  ag 69 [.dat (sl (ap l)), gf] (bv (l.any p)) := by
 cases l with
 | nil => exact oK _ _ _ _ _ (by kernel_rfl)
 | cons t r =>
  have h := tG hp hb
  generalize (t :: r).any p = c at h
  show ag 69 [.dat (.slice (ap (t :: r))), gf] (bv c)
  refine co [8] [] (x := .of Tryz.f69 At xX) ?_; refine Ga (Q := mS c) h (by kernel_rfl) (by kernel_rfl) (by rintro v ⟨j, rfl, _⟩; rfl) ?_
  rintro v ⟨j, rfl, hj⟩ _
  refine bj (b := c) (c := !bm j (Int.ofNat 0)) (by rw [hj]; simp) (by kernel_rfl) ?_
  exact br (a := ⟨bv c, [], 0⟩) (by cases c <;> kernel_rfl) rfl
/-! ### Plain terms -/
mutual
def Ty.plain : Ty -> Bool
 | .mk k nm ix args => aZ k 5 || (Ty.mk k nm ix args).closed 0 || (aZ k 2 && !gh args)
def gh : List Ty -> Bool
 | [] => false
 | t :: r => !t.plain || gh r
end
theorem A7 : ∀ l : List Ty, gh l = l.any (fun t => !t.plain)
 | [] => by simp [gh]
 | t :: r => by simp [gh, A7 r]
theorem vh {k : Int} {nm : List UInt8} {ix : Int} {l : List Ty} (hp : ∀ t ∈ l, ag 117 [.dat t.enc] (bv t.plain)) (hb : l.length < 1000000000) : ag 140 [.dat (Ty.mk k nm ix l).enc] (bv (!gh l)) := by
 have h1 : ∀ t ∈ l, ag 169 [.dat t.enc] (bv (!t.plain)) := by
  intro t ht
  have hc := hp t ht
  generalize t.plain = c at hc
  obtain ⟨k2, nm2, ix2, a2⟩ := t
  rcases a2 with _ | ⟨b, d⟩ <;> cases c <;>
  ·refine co [] [] (x := .of Tryz.f169 FT Ik) ?_; refine on hc ?_; exact fi
 have h2 := zF h1 hb
 rw [A7]
 generalize l.any (fun t => !t.plain) = c at h2
 rcases l with _ | ⟨b, d⟩ <;> cases c <;>
 ·refine co [] [] (x := .of Tryz.f140 F0 Is) ?_; refine on h2 ?_; exact fi
theorem FL {k : Int} {nm : List UInt8} {ix : Int} {l : List Ty} (hp : ∀ t ∈ l, ag 117 [.dat t.enc] (bv t.plain)) (hs : (Ty.mk k nm ix l).size < 1000000000) : ag 117 [.dat (Ty.mk k nm ix l).enc] (bv (Ty.mk k nm ix l).plain) := by
 have hb : l.length < 1000000000 := by have := ew l; simp only [Ty.size] at hs; omega
 have h1 := EW (Ty.mk k nm ix l) 0 hs (by have := iD (Ty.mk k nm ix l); omega)
 have h2 := vh (k := k) (nm := nm) (ix := ix) hp hb
 have e : (Ty.mk k nm ix l).plain = (aZ k 5 || (Ty.mk k nm ix l).closed 0 || (aZ k 2 && !gh l)) := by rw [Ty.plain]
 rw [e]
 clear e hp hs hb
 generalize (Ty.mk k nm ix l).closed 0 = cc at h1
 generalize (!gh l) = ca at h2
 generalize h5 : aZ k 5 = c5
 generalize h6 : aZ k 2 = c2
 rcases l with _ | ⟨b, d⟩ <;>
 ·refine co [5, 13] [] (x := .of Tryz.f117 F8 Iz) ?_; refine ob h5 ?_
  cases c5
  ·refine on h1 ?_
   cases cc
   ·refine ob h6 ?_
    cases c2 with
    | false => exact fi
    | true =>
     refine on h2 ?_
     cases ca <;> exact fi
   exact fi
  exact fi
mutual
theorem IS : ∀ t : Ty, t.size < 1000000000 -> ag 117 [.dat t.enc] (bv t.plain)
 | .mk k nm ix l, h => FL (yO l (by simp only [Ty.size] at h; omega)) h
theorem yO : ∀ l : List Ty, aS l < 1000000000 -> ∀ t ∈ l, ag 117 [.dat t.enc] (bv t.plain)
 | [], _, t, ht => by simp at ht
 | x :: r, h, t, ht => by
  simp only [aS] at h
  rcases List.mem_cons.1 ht with h1 | ht
  ·rw [h1]; exact IS x (by omega)
  exact yO r (by omega) t ht
end
def iM (n : Nat) : Bool := (Nat.ble 97 n && Nat.ble n 122) || (Nat.ble 65 n && Nat.ble n 90)
def zJ (n : Nat) : Bool := iM n || (Nat.ble 48 n && Nat.ble n 57) || Nat.beq n 95 || Nat.beq n 45
def dy (n : Nat) : Bool := !Nat.beq n 45 && zJ n
def isIdent : List UInt8 -> Bool
 | [] => false
 | c :: r => Nat.ble (r.length + 1) 24 && iM c.toNat && (c :: r).all (fun c => dy c.toNat)
def KK (n : Nat) : ae := .dat (.flat (.int .u8 (Int.ofNat n)))
def Hl (p : Nat -> Bool) : Nat -> Bool
 | 0 => true
 | k + 1 => p k && Hl p k
theorem sG {p : Nat -> Bool} : ∀ {k : Nat}, Hl p k = true -> ∀ i, i < k -> p i = true
 | 0, _, i, hi => by omega
 | k + 1, h, i, hi => by
  simp only [Hl, Bool.and_eq_true] at h
  rcases Nat.lt_or_ge i k with h1 | h1
  ·exact sG h.2 i h1
  have : i = k := by omega
  subst this; exact h.1
def A3 (c : Bool) : Option eW -> Bool
 | some ⟨.dat (.flat (.bool b)), [], 0⟩ => match b with | true => c | false => !c
 | _ => false
theorem sr {c : Bool} {r : Option eW} (h : A3 c r = true) : r = some ⟨bv c, [], 0⟩ := by
 unfold A3 at h
 split at h
 ·rename_i b
  cases b <;> simp at h <;> subst h <;> rfl
 simp at h
theorem Gq : Hl (fun n => A3 (iM n) (X 111 [KK n] [] 0)) 256 = true := by kernel_rfl
theorem Hb (c : UInt8) : ag 111 [KK c.toNat] (bv (iM c.toNat)) := oK _ _ _ _ _ (sr (sG Gq _ c.toNat_lt))
theorem JZ : Hl (fun n => A3 (dy n) (X 113 [KK n] [] 0)) 256 = true := by kernel_rfl
theorem OU (c : UInt8) : ag 113 [KK c.toNat] (bv (dy c.toNat)) := oK _ _ _ _ _ (sr (sG JZ _ c.toNat_lt))
theorem Xg : (env ay.aT).desc 9 = some .string := by kernel_rfl
theorem sD {b : List UInt8} {i : Nat} {c : UInt8} (h : b[i]? = some c) : uj (env ay.aT) 9 [.dat (sb b), .dat (.flat (.int .i64 (Int.ofNat i)))] = some ⟨KK c.toNat, .keep⟩ := by
 have hg : ay.aT.byte ⟨⟨b⟩⟩ (Int.ofNat i) = some c := QU h
 have hp : (env ay.aT).pr = ay.aT := rfl
 simp only [uj, sb, Xg, hp, hg]
 rfl
def Xx : ae := .fn (.func 113) [] []
noncomputable def NO : Hints := ⟨au, BO, ax, rowsOf ax 112⟩
def PK (b : List UInt8) (i : Int) : ac := ⟨[(5, iv i), (0, .dat (sb b)), (1, Xx)], [], [], 0⟩
def RU (b : List UInt8) : ac := ⟨[(9, bv false), (5, iv (Int.ofNat b.length)), (0, .dat (sb b)), (1, Xx)], [], [], 0⟩
def RV : ac := ⟨[(4, bv false)], [], [], 0⟩
theorem Rr {b : List UInt8} (hb : b.length < 1000000000) : ag 112 [.dat (sb b), Xx] (bv (b.all (fun c => dy c.toNat))) := by
 have hl : KD (.loop (roundOf Tryz.f112 0)) (fun e s => (e = .exit 0 /\ b.all (fun c => dy c.toNat) = true /\ s = (RU b).aw Tryz.f112.ntmps) ∨ (e = .ret /\ b.all (fun c => dy c.toNat) = false /\ s = RV.aw Tryz.f112.ntmps)) ((PK b (Int.ofNat 0)).aw Tryz.f112.ntmps) := by
  refine cj (St := fun i => (PK b (Int.ofNat i)).aw Tryz.f112.ntmps) (fun i => b.all (fun c => dy c.toNat) = (b.drop i).all (fun c => dy c.toNat)) b.length ?_ ?_ (i := 0) (Nat.zero_le _) rfl
  ·intro i hi hI
   have hg : b[i]? = some b[i] := List.getElem?_eq_getElem hi
   have hd : (b.drop i).all (fun c => dy c.toNat) = (dy b[i].toNat && (b.drop (i + 1)).all (fun c => dy c.toNat)) := by rw [List.drop_eq_getElem_cons hi]; rfl
   have hw : aI .i64 (Int.ofNat i + 1) = Int.ofNat (i + 1) := bn (by omega)
   have hc := OU b[i]
   generalize b[i] = c at hg hd hc
   generalize dy c.toNat = tc at hd hc
   refine aC [9] [15] (H := NO) (live := vZ) (by kernel_rfl) ?_; refine bj (b := true) (bH hi) (by kernel_rfl) ?_; refine oo (sD hg) ?_; refine on hc ?_
   cases tc
   ·exact bN (ex := .ret) RV (by kernel_rfl) (by kernel_rfl) (.inr ⟨rfl, by rw [hI, hd]; rfl, rfl⟩)
   exact bN (ex := .normal) (PK b (aI .i64 (Int.ofNat i + 1))) (by kernel_rfl) (by kernel_rfl) ⟨by rw [hw], by rw [hI, hd]; rfl⟩
  intro hI
  have h1 : b.all (fun c => dy c.toNat) = true := by rw [hI, List.drop_length]; rfl
  refine aC [9] [15] (H := NO) (live := vZ) (by kernel_rfl) ?_; refine bj (b := false) (bR (i := b.length) (L := b.length) (by omega)) (by kernel_rfl) ?_
  exact bN (ex := .exit 0) (RU b) (by kernel_rfl) (by kernel_rfl) (.inl ⟨rfl, h1, rfl⟩)
 generalize b.all (fun c => dy c.toNat) = c at hl
 refine co [] [] (x := .of Tryz.f112 BO vZ) ?_; refine gR (n := Tryz.f112.ntmps) (c := roundOf Tryz.f112 0) (f := PK b (Int.ofNat 0)) (by kernel_rfl) (by kernel_rfl) hl ?_
 rintro ex s (⟨rfl, rfl, rfl⟩ | ⟨rfl, rfl, rfl⟩) <;>
 ·exact ⟨_, rfl, br (by kernel_rfl) rfl⟩
theorem tT (b : List UInt8) : ag 87 [.dat (sb b)] (bv (isIdent b)) := by
 cases b with
 | nil => exact oK _ _ _ _ _ (by kernel_rfl)
 | cons c r =>
  have hev : Nat.ble (r.length + 1) 24 = true -> ag 112 [.dat (sb (c :: r)), Xx] (bv ((c :: r).all (fun c => dy c.toNat))) := fun h => Rr (by have := fW h; simp; omega)
  have hle := Hb c
  have e : isIdent (c :: r) = (Nat.ble (r.length + 1) 24 && iM c.toNat && (c :: r).all (fun c => dy c.toNat)) := rfl
  rw [e]
  generalize (c :: r).all (fun c => dy c.toNat) = ca at hev
  generalize iM c.toNat = cl at hle
  have hlt : bm (Int.ofNat 24) (Int.ofNat (r.length + 1)) = !Nat.ble (r.length + 1) 24 := by
   rw [jj]
   by_cases h : 24 < r.length + 1
   ·rw [decide_eq_true h, show Nat.ble (r.length + 1) 24 = false from by rw [Bool.eq_false_iff]; intro e; have := fW e; omega]; rfl
   rw [decide_eq_false h, hJ (by omega)]; rfl
  generalize Nat.ble (r.length + 1) 24 = cb at hlt hev
  refine co [8] [12] (x := .of Tryz.f87 Mm Nk) ?_; refine bj (b := cb) (c := !bm (Int.ofNat 24) (Int.ofNat (r.length + 1))) (by rw [hlt]; simp) (by kernel_rfl) ?_
  cases cb with
  | false => exact fi
  | true =>
   refine oo (sD (b := c :: r) (i := 0) rfl) ?_; refine on hle ?_
   cases cl with
   | false => exact fi
   | true =>
    refine on (hev rfl) ?_
    cases ca <;> exact fi
/-! ### The reserved words -/
def fD (b : List UInt8) : Bool := ni.any (fun r => dt b r)
noncomputable def pe : Hints := ⟨au, BN, ax, rowsOf ax 115⟩
def CZ (b : List UInt8) (i : Int) : ac := ⟨[(8, iv i), (7, iv 5), (0, .dat (.slice (jd ni))), (1, .dat (sb b))], [], [], 0⟩
def RS (b : List UInt8) : ac := ⟨[(9, bv false), (8, iv 5), (7, iv 5), (0, .dat (.slice (jd ni))), (1, .dat (sb b))], [], [], 0⟩
def zZ (i : Nat) : ac := ⟨[(4, iv (Int.ofNat i))], [], [], 0⟩
theorem OT (b : List UInt8) : KC 115 [.dat (.slice (jd ni)), .dat (sb b)] [] 0 (fun v h m => mS (fD b) v /\ h = [] /\ m = 0) := by
 have hl : KD (.loop (roundOf Tryz.f115 0)) (fun e s => (e = .exit 0 /\ fD b = false /\ s = (RS b).aw Tryz.f115.ntmps) ∨ (e = .ret /\ fD b = true /\ ∃ i : Nat, s = (zZ i).aw Tryz.f115.ntmps)) ((CZ b (Int.ofNat 0)).aw Tryz.f115.ntmps) := by
  refine cj (St := fun i => (CZ b (Int.ofNat i)).aw Tryz.f115.ntmps) (fun i => fD b = (ni.drop i).any (fun r => dt b r)) 5 ?_ ?_ (i := 0) (Nat.zero_le _) rfl
  ·intro i hi hI
   have hcases : i = 0 ∨ i = 1 ∨ i = 2 ∨ i = 3 ∨ i = 4 := by omega
   have hd : (ni.drop i).any (fun r => dt b r) = (dt b (ni.getD i []) || (ni.drop (i + 1)).any (fun r => dt b r)) := by rcases hcases with rfl | rfl | rfl | rfl | rfl <;> rfl
   rw [hd] at hI
   clear hd
   generalize hcw : dt b (ni.getD i []) = cw at hI
   rcases hcases with rfl | rfl | rfl | rfl | rfl
   ·refine aC [16] [] (H := pe) (live := kO) (by kernel_rfl) ?_; refine ob hcw ?_
    cases cw
    ·exact bN (ex := .normal) (CZ b (Int.ofNat (0 + 1))) (by kernel_rfl) (by kernel_rfl) ⟨rfl, hI⟩
    exact bN (ex := .ret) (zZ 0) (by kernel_rfl) (by kernel_rfl) (.inr ⟨rfl, hI, 0, rfl⟩)
   ·refine aC [16] [] (H := pe) (live := kO) (by kernel_rfl) ?_; refine ob hcw ?_
    cases cw
    ·exact bN (ex := .normal) (CZ b (Int.ofNat (1 + 1))) (by kernel_rfl) (by kernel_rfl) ⟨rfl, hI⟩
    exact bN (ex := .ret) (zZ 1) (by kernel_rfl) (by kernel_rfl) (.inr ⟨rfl, hI, 1, rfl⟩)
   ·refine aC [16] [] (H := pe) (live := kO) (by kernel_rfl) ?_; refine ob hcw ?_
    cases cw
    ·exact bN (ex := .normal) (CZ b (Int.ofNat (2 + 1))) (by kernel_rfl) (by kernel_rfl) ⟨rfl, hI⟩
    exact bN (ex := .ret) (zZ 2) (by kernel_rfl) (by kernel_rfl) (.inr ⟨rfl, hI, 2, rfl⟩)
   ·refine aC [16] [] (H := pe) (live := kO) (by kernel_rfl) ?_; refine ob hcw ?_
    cases cw
    ·exact bN (ex := .normal) (CZ b (Int.ofNat (3 + 1))) (by kernel_rfl) (by kernel_rfl) ⟨rfl, hI⟩
    exact bN (ex := .ret) (zZ 3) (by kernel_rfl) (by kernel_rfl) (.inr ⟨rfl, hI, 3, rfl⟩)
   refine aC [16] [] (H := pe) (live := kO) (by kernel_rfl) ?_; refine ob hcw ?_
   cases cw
   ·exact bN (ex := .normal) (CZ b (Int.ofNat (4 + 1))) (by kernel_rfl) (by kernel_rfl) ⟨rfl, hI⟩
   exact bN (ex := .ret) (zZ 4) (by kernel_rfl) (by kernel_rfl) (.inr ⟨rfl, hI, 4, rfl⟩)
  intro hI
  have h1 : fD b = false := by rw [hI]; rfl
  refine aC [16] [] (H := pe) (live := kO) (by kernel_rfl) ?_
  exact bN (ex := .exit 0) (RS b) (by kernel_rfl) (by kernel_rfl) (.inl ⟨rfl, h1, rfl⟩)
 generalize fD b = c at hl
 refine yM [] [] (x := lY.of Tryz.f115 BN kO) (T := fun r => mS c r.val /\ r.heap = [] /\ r.next = 0) (by kernel_rfl) ?_
 refine gR (n := Tryz.f115.ntmps) (c := roundOf Tryz.f115 0) (f := CZ b (Int.ofNat 0)) (by kernel_rfl) (by kernel_rfl) hl ?_
 rintro ex s (⟨rfl, rfl, rfl⟩ | ⟨rfl, rfl, i, rfl⟩)
 ·exact ⟨_, rfl, br (a := ⟨iv (-1), [], 0⟩) (by kernel_rfl) ⟨⟨_, rfl, rfl⟩, rfl, rfl⟩⟩
 exact ⟨_, rfl, br (a := ⟨iv (Int.ofNat i), [], 0⟩) (by kernel_rfl) ⟨⟨_, rfl, bR (by omega)⟩, rfl, rfl⟩⟩
theorem vi (b : List UInt8) : ag 88 [.dat (.slice (jd ni)), .dat (sb b)] (bv (fD b)) := by
 have h := OT b
 generalize fD b = c at h
 refine co [8] [] (x := .of Tryz.f88 Ml Nj) ?_; refine Ga (Q := mS c) h (by kernel_rfl) (by kernel_rfl) (by rintro v ⟨j, rfl, _⟩; rfl) ?_
 rintro v ⟨j, rfl, hj⟩ _
 refine bj (b := c) (c := !bm j (Int.ofNat 0)) (by rw [hj]; simp) (by kernel_rfl) ?_
 cases c <;> exact fi
def eO (x y : Int) : Int := match bm x y with | true => -1 | false => (match bm y x with | true => 1 | false => 0)
def ow (x y : List UInt8) : Int := match JL x y with | true => -1 | false => (match !(JL x y || dt x y) with | true => 1 | false => 0)
def zp : List Int -> Int
 | [] => 0
 | x :: r => match aZ x 0 with | true => zp r | false => x
theorem dJ (x : Int) : aZ x x = true := by rw [fV]; simp
theorem lS (x : List UInt8) : dt x x = true := by rw [ke]; simp
theorem OY (x : Int) : ag 171 [iv x] (bv false) := by
 refine co [5] [] (x := .of Tryz.f171 FR Ij) ?_; refine bj (b := false) (c := !aZ x x) (by rw [dJ]; rfl) (by kernel_rfl) ?_
 exact fi
theorem OX (x : List UInt8) : ag 172 [.dat (sb x)] (bv false) := by
 refine co [5] [] (x := .of Tryz.f172 FQ Ii) ?_; refine bj (b := false) (c := !dt x x) (by rw [lS]; rfl) (by kernel_rfl) ?_
 exact fi
theorem Hc (x y : Int) : ag 144 [iv x, iv y] (iv (eO x y)) := by
 unfold eO
 generalize h1 : bm x y = a
 generalize h2 : bm y x = b
 refine co [16, 19] [] (x := .of Tryz.f144 FZ Ir) ?_; refine on (OY x) ?_; refine on (OY y) ?_; refine ob h1 ?_
 cases a
 ·refine ob h2 ?_
  cases b <;> exact fi
 exact fi
theorem UM (x y : List UInt8) : ag 145 [.dat (sb x), .dat (sb y)] (iv (ow x y)) := by
 unfold ow
 generalize h2 : (!(JL x y || dt x y)) = b
 generalize h1 : JL x y = a
 refine co [16, 19] [] (x := .of Tryz.f145 FY Iq) ?_; refine on (OX x) ?_; refine on (OX y) ?_; refine ob h1 ?_
 cases a
 ·refine ob h2 ?_
  cases b <;> exact fi
 exact fi
/-! ### The first that is not 0 -/
noncomputable def hOr : Hints := ⟨au, BF, ax, rowsOf ax 143⟩
def Fv (a b c d : Int) (i : Int) : ac := ⟨[(8, iv i), (7, iv 4), (6, .dat (.slice [i64 a, i64 b, i64 c, i64 d])), (3, iv 0)], [], [], 0⟩
def RM (a b c d : Int) : ac := ⟨[(9, bv false), (8, iv 4), (7, iv 4), (6, .dat (.slice [i64 a, i64 b, i64 c, i64 d])), (3, iv 0)], [], [], 0⟩
def CY (a : Int) : ac := ⟨[(2, iv a)], [], [], 0⟩
theorem XS (a b c d : Int) : ag 143 [.dat (.slice [i64 a, i64 b, i64 c, i64 d])] (iv (zp [a, b, c, d])) := by
 have hl : KD (.loop (roundOf Tryz.f143 0)) (fun e s => (e = .exit 0 /\ zp [a, b, c, d] = 0 /\ s = (RM a b c d).aw Tryz.f143.ntmps) ∨ (e = .ret /\ s = (CY (zp [a, b, c, d])).aw Tryz.f143.ntmps)) ((Fv a b c d (Int.ofNat 0)).aw Tryz.f143.ntmps) := by
  refine cj (St := fun i => (Fv a b c d (Int.ofNat i)).aw Tryz.f143.ntmps) (fun i => zp [a, b, c, d] = zp ([a, b, c, d].drop i)) 4 ?_ ?_ (i := 0) (Nat.zero_le _) rfl
  ·intro i hi hI
   have hcases : i = 0 ∨ i = 1 ∨ i = 2 ∨ i = 3 := by omega
   have hd : zp ([a, b, c, d].drop i) = (match aZ ([a, b, c, d].getD i 0) 0 with | true => zp ([a, b, c, d].drop (i + 1)) | false => [a, b, c, d].getD i 0) := by rcases hcases with rfl | rfl | rfl | rfl <;> rfl
   rw [hd] at hI
   clear hd
   generalize hcw : aZ ([a, b, c, d].getD i 0) 0 = cw at hI
   rcases hcases with rfl | rfl | rfl | rfl
   ·refine aC [14] [] (H := hOr) (live := mz) (by kernel_rfl) ?_; refine bj (b := !cw) (c := !aZ ([a, b, c, d].getD 0 0) 0) (by rw [hcw]) (by kernel_rfl) ?_
    cases cw with
    | false => exact bN (ex := .ret) (CY ([a, b, c, d].getD 0 0)) (by kernel_rfl) (by kernel_rfl) (.inr ⟨rfl, by rw [hI]⟩)
    | true => exact bN (ex := .normal) (Fv a b c d (Int.ofNat (0 + 1))) (by kernel_rfl) (by kernel_rfl) ⟨rfl, hI⟩
   ·refine aC [14] [] (H := hOr) (live := mz) (by kernel_rfl) ?_; refine bj (b := !cw) (c := !aZ ([a, b, c, d].getD 1 0) 0) (by rw [hcw]) (by kernel_rfl) ?_
    cases cw with
    | false => exact bN (ex := .ret) (CY ([a, b, c, d].getD 1 0)) (by kernel_rfl) (by kernel_rfl) (.inr ⟨rfl, by rw [hI]⟩)
    | true => exact bN (ex := .normal) (Fv a b c d (Int.ofNat (1 + 1))) (by kernel_rfl) (by kernel_rfl) ⟨rfl, hI⟩
   ·refine aC [14] [] (H := hOr) (live := mz) (by kernel_rfl) ?_; refine bj (b := !cw) (c := !aZ ([a, b, c, d].getD 2 0) 0) (by rw [hcw]) (by kernel_rfl) ?_
    cases cw with
    | false => exact bN (ex := .ret) (CY ([a, b, c, d].getD 2 0)) (by kernel_rfl) (by kernel_rfl) (.inr ⟨rfl, by rw [hI]⟩)
    | true => exact bN (ex := .normal) (Fv a b c d (Int.ofNat (2 + 1))) (by kernel_rfl) (by kernel_rfl) ⟨rfl, hI⟩
   refine aC [14] [] (H := hOr) (live := mz) (by kernel_rfl) ?_; refine bj (b := !cw) (c := !aZ ([a, b, c, d].getD 3 0) 0) (by rw [hcw]) (by kernel_rfl) ?_
   cases cw with
   | false => exact bN (ex := .ret) (CY ([a, b, c, d].getD 3 0)) (by kernel_rfl) (by kernel_rfl) (.inr ⟨rfl, by rw [hI]⟩)
   | true => exact bN (ex := .normal) (Fv a b c d (Int.ofNat (3 + 1))) (by kernel_rfl) (by kernel_rfl) ⟨rfl, hI⟩
  intro hI
  have h1 : zp [a, b, c, d] = 0 := by rw [hI]; rfl
  refine aC [14] [] (H := hOr) (live := mz) (by kernel_rfl) ?_
  exact bN (ex := .exit 0) (RM a b c d) (by kernel_rfl) (by kernel_rfl) (.inl ⟨rfl, h1, rfl⟩)
 generalize zp [a, b, c, d] = r at hl
 refine co [] [] (x := .of Tryz.f143 BF mz) ?_; refine gR (n := Tryz.f143.ntmps) (c := roundOf Tryz.f143 0) (f := Fv a b c d (Int.ofNat 0)) (by kernel_rfl) (by kernel_rfl) hl ?_
 rintro ex s (⟨rfl, rfl, rfl⟩ | ⟨rfl, rfl⟩)
 ·exact ⟨_, rfl, br (by kernel_rfl) rfl⟩
 exact ⟨_, rfl, br (by kernel_rfl) rfl⟩
/-! ### Terms -/
mutual
def mN : Ty -> Ty -> Int
 | .mk k nm ix l, .mk k2 nm2 ix2 l2 => match aZ (zp [eO k k2, ow nm nm2, eO ix ix2, eO (Int.ofNat (ap l).length) (Int.ofNat (ap l2).length)]) 0 with
  | true => pE l l2
  | false => zp [eO k k2, ow nm nm2, eO ix ix2, eO (Int.ofNat (ap l).length) (Int.ofNat (ap l2).length)]
def pE : List Ty -> List Ty -> Int
 | t :: r, u :: v => match aZ (mN t u) 0 with | true => pE r v | false => mN t u
 | _, _ => 0
end
def V5 (k : Int) (nm : List UInt8) (ix : Int) (l : List Ty) (k2 : Int) (nm2 : List UInt8) (ix2 : Int) (l2 : List Ty) : Int := zp [eO k k2, ow nm nm2, eO ix ix2, eO (Int.ofNat (ap l).length) (Int.ofNat (ap l2).length)]
theorem ot {x : Int} (h : aZ x 0 = true) : x = 0 := by rw [fV] at h; simpa using h
theorem xO : ∀ {l : List Int}, zp l = 0 -> ∀ x ∈ l, x = 0
 | [], _, x, hx => by simp at hx
 | y :: r, h, x, hx => by
  unfold zp at h
  split at h
  ·rename_i hy
   rcases List.mem_cons.1 hx with h1 | hx
   ·rw [h1]; exact ot hy
   exact xO h x hx
  rename_i hy
  subst h
  rw [dJ] at hy
  simp at hy
theorem tQ {x y : Int} (h : eO x y = 0) : x = y := by
 unfold eO at h
 cases h1 : bm x y with
 | true => rw [h1] at h; simp at h
 | false =>
  rw [h1] at h
  cases h2 : bm y x with
  | true => rw [h2] at h; simp at h
  | false =>
   rw [gp] at h1 h2
   simp at h1 h2
   omega
theorem yj {k : Int} {nm : List UInt8} {ix : Int} {l : List Ty} {k2 : Int} {nm2 : List UInt8} {ix2 : Int} {l2 : List Ty} (h : aZ (V5 k nm ix l k2 nm2 ix2 l2) 0 = true) : l.length = l2.length := by
 have h1 := xO (ot h) (eO (Int.ofNat (ap l).length) (Int.ofNat (ap l2).length)) (by simp)
 have h2 := tQ h1
 rw [aE, aE] at h2
 exact Int.ofNat.inj h2
/-- What has been found after i rounds. -/
def lU (l l2 : List Ty) (c0 : Int) : Nat -> Int
 | 0 => c0
 | i + 1 => match l[i]?, l2[i]? with | some t, some u => mN t u | _, _ => 0
noncomputable def nV : Hints := ⟨au, BL, ax, rowsOf ax 121⟩
def pO (k : Int) (nm : List UInt8) (ix : Int) (l : List Ty) (k2 : Int) (nm2 : List UInt8) (ix2 : Int) (l2 : List Ty) : Heap := [(.loc 3, .cells [iv k2, .dat (sb nm2), iv ix2, .dat (.slice (ap l2))]), (.loc 2, .cells [iv k, .dat (sb nm), iv ix, .dat (.slice (ap l))])]
def nA (lo : Heap) (i c : Int) : ac := ⟨[(6, iv i), (5, iv c), (3, .ptr (.loc 3) 0), (2, .ptr (.loc 2) 0)], lo, [], 0⟩
def jQ (lo : Heap) (i c : Int) : ac := ⟨[(39, bv false), (6, iv i), (5, iv c), (3, .ptr (.loc 3) 0), (2, .ptr (.loc 2) 0)], lo, [], 0⟩
theorem OJ {k : Int} {nm : List UInt8} {ix : Int} {l : List Ty} {k2 : Int} {nm2 : List UInt8} {ix2 : Int} {l2 : List Ty} {c0 : Int} (hlen : aZ c0 0 = true -> l.length = l2.length)
  (ih : ∀ t ∈ l, ∀ u ∈ l2, ag 121 [.dat t.enc, .dat u.enc] (iv (mN t u))) (hb : l.length < 1000000000) :
  KD (.loop (roundOf Tryz.f121 0)) (fun e s => e = .exit 0 /\ ∃ i : Nat, s = (jQ (pO k nm ix l k2 nm2 ix2 l2) (Int.ofNat i) (match aZ c0 0 with | true => pE l l2 | false => c0)).aw Tryz.f121.ntmps) ((nA (pO k nm ix l k2 nm2 ix2 l2) (Int.ofNat 0) c0).aw Tryz.f121.ntmps) := by
 generalize hfin : (match aZ c0 0 with | true => pE l l2 | false => c0) = fin
 refine cj (St := fun i => (nA (pO k nm ix l k2 nm2 ix2 l2) (Int.ofNat i) (lU l l2 c0 i)).aw Tryz.f121.ntmps) (fun i => (0 < i -> aZ c0 0 = true) /\ fin = (match aZ (lU l l2 c0 i) 0 with | true => pE (l.drop i) (l2.drop i) | false => lU l l2 c0 i)) (ap l).length ?_ ?_ (i := 0) (Nat.zero_le _) ⟨fun h => absurd h (Nat.lt_irrefl 0), hfin.symm⟩
 ·rintro i hi ⟨hz, hI⟩
  have hz2 : aZ (lU l l2 c0 i) 0 = true -> aZ c0 0 = true := by
   intro h
   cases i with
   | zero => exact h
   | succ i => exact hz (Nat.succ_pos i)
  obtain ⟨t, ht, hm⟩ := get_mem hi
  have hi2 := hi
  rw [aE] at hi2
  have hw : aI .i64 (Int.ofNat i + 1) = Int.ofNat (i + 1) := bn (by omega)
  generalize hca : lU l l2 c0 i = ca at hI hz2
  generalize hcz : aZ ca 0 = cz at hI hz2
  cases cz with
  | false =>
   refine aC [32, 38] [45, 50] (H := nV) (live := mA) (by kernel_rfl) ?_; refine ob hcz ?_
   refine bN (ex := .exit 0) (jQ (pO k nm ix l k2 nm2 ix2 l2) (Int.ofNat i) ca) (by kernel_rfl) (by kernel_rfl) ⟨rfl, i, ?_⟩
   rw [hI]
  | true =>
   have hle := hlen (hz2 rfl)
   have hu : l2[i]? = some l2[i] := List.getElem?_eq_getElem (by omega)
   have hmu : l2[i] ∈ l2 := List.getElem_mem _
   generalize l2[i] = u at hu hmu
   have hc := ih t hm u hmu
   have hat : lU l l2 c0 (i + 1) = mN t u := by simp only [lU, ht, hu]
   have hnew : fin = (match aZ (lU l l2 c0 (i + 1)) 0 with | true => pE (l.drop (i + 1)) (l2.drop (i + 1)) | false => lU l l2 c0 (i + 1)) := by
    rw [hI, hat]
    show pE (l.drop i) (l2.drop i) = _
    rw [gY ht, gY hu, pE]
   have hz3 := hz2 rfl
   rw [hat] at hnew
   have e : qc (fun s => s = (nA (pO k nm ix l k2 nm2 ix2 l2) (Int.ofNat (i + 1)) (lU l l2 c0 (i + 1))).aw Tryz.f121.ntmps /\ (0 < i + 1 -> aZ c0 0 = true) /\ fin = (match aZ (lU l l2 c0 (i + 1)) 0 with | true => pE (l.drop (i + 1)) (l2.drop (i + 1)) | false => lU l l2 c0 (i + 1)))
     (fun e s => e = .exit 0 /\ ∃ i : Nat, s = (jQ (pO k nm ix l k2 nm2 ix2 l2) (Int.ofNat i) fin).aw Tryz.f121.ntmps) .normal ((nA (pO k nm ix l k2 nm2 ix2 l2) (aI .i64 (Int.ofNat i + 1)) (mN t u)).aw Tryz.f121.ntmps) := by
    rw [hw, hat]
    exact ⟨rfl, fun _ => hz3, hnew⟩
   generalize mN t u = cc at hc e
   have hx1 := jX ht
   have hx2 := jX hu
   clear ih hlen hI hat hnew hz hz2 hu hmu ht hm
   obtain ⟨k3, nm3, ix3, a3⟩ := t
   obtain ⟨k4, nm4, ix4, a4⟩ := u
   rcases a3 with _ | ⟨b3, d3⟩ <;> rcases a4 with _ | ⟨b4, d4⟩ <;>
   ·refine aC [32, 38] [45, 50] (H := nV) (live := mA) (by kernel_rfl) ?_; refine ob hcz ?_; refine bj (b := true) (bH hi) (by kernel_rfl) ?_; refine oo hx1 ?_; refine oo hx2 ?_; refine on hc ?_
    exact bN (ex := .normal) (nA (pO k nm ix l k2 nm2 ix2 l2) (aI .i64 (Int.ofNat i + 1)) cc) (by kernel_rfl) (by kernel_rfl) e
 rintro ⟨hz, hI⟩
 generalize hca : lU l l2 c0 (ap l).length = ca at hI
 generalize hcz : aZ ca 0 = cz at hI
 refine aC [32, 38] [45, 50] (H := nV) (live := mA) (by kernel_rfl) ?_; refine ob hcz ?_
 cases cz with
 | false =>
  refine bN (ex := .exit 0) (jQ (pO k nm ix l k2 nm2 ix2 l2) (Int.ofNat (ap l).length) ca) (by kernel_rfl) (by kernel_rfl) ⟨rfl, (ap l).length, ?_⟩
  rw [hI]
 | true =>
  have h0 : ca = fin := by
   rw [hI, aE, List.drop_length]
   exact ot hcz
  refine bj (b := false) (bR (i := (ap l).length) (L := (ap l).length) (by omega)) (by kernel_rfl) ?_
  refine bN (ex := .exit 0) (jQ (pO k nm ix l k2 nm2 ix2 l2) (Int.ofNat (ap l).length) ca) (by kernel_rfl) (by kernel_rfl) ⟨rfl, (ap l).length, ?_⟩
  rw [h0]
def jk (k : Int) (nm : List UInt8) (ix : Int) (a : aq) (k2 : Int) (nm2 : List UInt8) (ix2 : Int) (a2 : aq) : Heap := [(.loc 3, .cells [iv k2, .dat (sb nm2), iv ix2, .dat a2]), (.loc 2, .cells [iv k, .dat (sb nm), iv ix, .dat a])]
/-- Where the first has no arguments no round is made. -/
theorem IM (k : Int) (nm : List UInt8) (ix : Int) (k2 : Int) (nm2 : List UInt8) (ix2 : Int) (a2 : aq) (ha : a2 = nl ∨ ∃ es, a2 = .slice es) (c0 : Int) :
  KD (.loop (roundOf Tryz.f121 0)) (fun e s => e = .exit 0 /\ ∃ i : Nat, s = (jQ (jk k nm ix nl k2 nm2 ix2 a2) (Int.ofNat i) c0).aw Tryz.f121.ntmps) ((nA (jk k nm ix nl k2 nm2 ix2 a2) (Int.ofNat 0) c0).aw Tryz.f121.ntmps) := by
 refine bu (St := fun _ => (nA (jk k nm ix nl k2 nm2 ix2 a2) (Int.ofNat 0) c0).aw Tryz.f121.ntmps) 0 (fun i hi => absurd hi (Nat.not_lt_zero i)) ?_ (i := 0) (Nat.le_refl _)
 generalize hcz : aZ c0 0 = cz
 rcases ha with rfl | ⟨es, rfl⟩ <;>
 ·refine aC [32, 38] [45, 50] (H := nV) (live := mA) (by kernel_rfl) ?_; refine ob hcz ?_
  cases cz with
  | false => exact bN (ex := .exit 0) (jQ (jk k nm ix nl k2 nm2 ix2 _) (Int.ofNat 0) c0) (by kernel_rfl) (by kernel_rfl) ⟨rfl, 0, rfl⟩
  | true =>
   refine bj (b := false) (c := bm (Int.ofNat 0) (Int.ofNat 0)) rfl (by kernel_rfl) ?_
   exact bN (ex := .exit 0) (jQ (jk k nm ix nl k2 nm2 ix2 _) (Int.ofNat 0) c0) (by kernel_rfl) (by kernel_rfl) ⟨rfl, 0, rfl⟩
/-- .. where the two differ before. -/
theorem Rm (k : Int) (nm : List UInt8) (ix : Int) (es : List aq) (k2 : Int) (nm2 : List UInt8) (ix2 : Int) (c0 : Int) (hcz : aZ c0 0 = false) :
  KD (.loop (roundOf Tryz.f121 0)) (fun e s => e = .exit 0 /\ ∃ i : Nat, s = (jQ (jk k nm ix (.slice es) k2 nm2 ix2 nl) (Int.ofNat i) c0).aw Tryz.f121.ntmps) ((nA (jk k nm ix (.slice es) k2 nm2 ix2 nl) (Int.ofNat 0) c0).aw Tryz.f121.ntmps) := by
 refine bu (St := fun _ => (nA (jk k nm ix (.slice es) k2 nm2 ix2 nl) (Int.ofNat 0) c0).aw Tryz.f121.ntmps) 0 (fun i hi => absurd hi (Nat.not_lt_zero i)) ?_ (i := 0) (Nat.le_refl _)
 refine aC [32, 38] [45, 50] (H := nV) (live := mA) (by kernel_rfl) ?_; refine ob hcz ?_
 exact bN (ex := .exit 0) (jQ (jk k nm ix (.slice es) k2 nm2 ix2 nl) (Int.ofNat 0) c0) (by kernel_rfl) (by kernel_rfl) ⟨rfl, 0, rfl⟩
theorem Cs {k : Int} {nm : List UInt8} {ix : Int} {a : aq} {k2 : Int} {nm2 : List UInt8} {ix2 : Int} {a2 : aq} (ha : a = nl ∨ ∃ es, a = .slice es) (ha2 : a2 = nl ∨ ∃ es, a2 = .slice es) {n m : Nat} {r : Int}
  (hn : a = nl /\ n = 0 ∨ ∃ es, a = .slice es /\ n = es.length) (hm : a2 = nl /\ m = 0 ∨ ∃ es, a2 = .slice es /\ m = es.length)
  (hl : KD (.loop (roundOf Tryz.f121 0)) (fun e s => e = .exit 0 /\ ∃ i : Nat, s = (jQ (jk k nm ix a k2 nm2 ix2 a2) (Int.ofNat i) r).aw Tryz.f121.ntmps)
   ((nA (jk k nm ix a k2 nm2 ix2 a2) (Int.ofNat 0) (zp [eO k k2, ow nm nm2, eO ix ix2, eO (Int.ofNat n) (Int.ofNat m)])).aw Tryz.f121.ntmps)) :
  ag 121 [.dat (.agg [i64 k, sb nm, i64 ix, a]), .dat (.agg [i64 k2, sb nm2, i64 ix2, a2])] (iv r) := by
 have h1 := Hc k k2
 have h2 := UM nm nm2
 have h3 := Hc ix ix2
 have h4 := Hc (Int.ofNat n) (Int.ofNat m)
 generalize eO k k2 = x1 at h1 hl
 generalize ow nm nm2 = x2 at h2 hl
 generalize eO ix ix2 = x3 at h3 hl
 generalize eO (Int.ofNat n) (Int.ofNat m) = x4 at h4 hl
 have h5 := XS x1 x2 x3 x4
 generalize zp [x1, x2, x3, x4] = c0 at h5 hl
 clear ha ha2
 rcases hn with ⟨rfl, rfl⟩ | ⟨es, rfl, rfl⟩ <;> rcases hm with ⟨rfl, rfl⟩ | ⟨es2, rfl, rfl⟩ <;>
 ·refine co [] [] (x := .of Tryz.f121 BL mA) ?_; refine on h1 ?_; refine on h2 ?_; refine on h3 ?_; refine on h4 ?_; refine on h5 ?_; refine gR (n := Tryz.f121.ntmps) (c := roundOf Tryz.f121 0) (f := nA (jk k nm ix _ k2 nm2 ix2 _) (Int.ofNat 0) c0) (by kernel_rfl) (by kernel_rfl) hl ?_; rintro ex s ⟨rfl, i, rfl⟩
  exact ⟨_, rfl, br (by kernel_rfl) rfl⟩
theorem Cr {k : Int} {nm : List UInt8} {ix : Int} {l : List Ty} {k2 : Int} {nm2 : List UInt8} {ix2 : Int} {l2 : List Ty} (ih : ∀ t ∈ l, ∀ u ∈ l2, ag 121 [.dat t.enc, .dat u.enc] (iv (mN t u))) (hb : l.length < 1000000000) :
  ag 121 [.dat (Ty.mk k nm ix l).enc, .dat (Ty.mk k2 nm2 ix2 l2).enc] (iv (mN (.mk k nm ix l) (.mk k2 nm2 ix2 l2))) := by
 rw [mN]
 cases l with
 | nil =>
  have hr : (match aZ (zp [eO k k2, ow nm nm2, eO ix ix2, eO (Int.ofNat (ap []).length) (Int.ofNat (ap l2).length)]) 0 with | true => pE [] l2 | false => zp [eO k k2, ow nm nm2, eO ix ix2, eO (Int.ofNat (ap []).length) (Int.ofNat (ap l2).length)]) = zp [eO k k2, ow nm nm2, eO ix ix2, eO (Int.ofNat (ap []).length) (Int.ofNat (ap l2).length)] := by
   split
   ·rename_i h; rw [ot h, pE]; simp
   rfl
  rw [hr]
  cases l2 with
  | nil => exact Cs (a := nl) (a2 := nl) (n := 0) (m := 0) (.inl rfl) (.inl rfl) (.inl ⟨rfl, rfl⟩) (.inl ⟨rfl, rfl⟩) (IM k nm ix k2 nm2 ix2 nl (.inl rfl) _)
  | cons u v => exact Cs (a := nl) (a2 := .slice (ap (u :: v))) (n := 0) (m := (ap (u :: v)).length) (.inl rfl) (.inr ⟨_, rfl⟩) (.inl ⟨rfl, rfl⟩) (.inr ⟨_, rfl, rfl⟩) (IM k nm ix k2 nm2 ix2 _ (.inr ⟨_, rfl⟩) _)
 | cons t r =>
  cases l2 with
  | nil =>
   have hcz : aZ (zp [eO k k2, ow nm nm2, eO ix ix2, eO (Int.ofNat (ap (t :: r)).length) (Int.ofNat (ap []).length)]) 0 = false := by
    rw [Bool.eq_false_iff]
    intro h
    have := yj (l := t :: r) (l2 := []) h
    simp at this
   rw [hcz]
   exact Cs (a := .slice (ap (t :: r))) (a2 := nl) (n := (ap (t :: r)).length) (m := 0) (.inr ⟨_, rfl⟩) (.inl rfl) (.inr ⟨_, rfl, rfl⟩) (.inl ⟨rfl, rfl⟩) (Rm k nm ix _ k2 nm2 ix2 _ hcz)
  | cons u v =>
   exact Cs (a := .slice (ap (t :: r))) (a2 := .slice (ap (u :: v))) (n := (ap (t :: r)).length) (m := (ap (u :: v)).length) (.inr ⟨_, rfl⟩) (.inr ⟨_, rfl⟩) (.inr ⟨_, rfl, rfl⟩) (.inr ⟨_, rfl, rfl⟩)
    (OJ (l := t :: r) (l2 := u :: v) (fun h => yj (l := t :: r) (l2 := u :: v) h) ih hb)
mutual
theorem yP : ∀ (t u : Ty), t.thin -> ag 121 [.dat t.enc, .dat u.enc] (iv (mN t u))
 | .mk k nm ix l, .mk k2 nm2 ix2 l2, h => by
  simp only [Ty.thin] at h
  exact Cr (fun t ht u _ => vj l h.2 t ht u) h.1
theorem vj : ∀ (l : List Ty), fQ l -> ∀ t ∈ l, ∀ u : Ty, ag 121 [.dat t.enc, .dat u.enc] (iv (mN t u))
 | [], _, t, ht, _ => by simp at ht
 | x :: r, h, t, ht, u => by
  simp only [fQ] at h
  rcases List.mem_cons.1 ht with h1 | ht
  ·rw [h1]; exact yP x u h.1
  exact vj r h.2 t ht u
end
def J8 (t u : Ty) : Bool := aZ (mN t u) 0
theorem OW (t u : Ty) (h : t.thin) : ag 91 [.dat t.enc, .dat u.enc] (bv (J8 t u)) := by
 have hc := yP t u h
 unfold J8
 generalize mN t u = c at hc
 generalize hcz : aZ c 0 = cz
 clear h
 obtain ⟨k3, nm3, ix3, a3⟩ := t
 obtain ⟨k4, nm4, ix4, a4⟩ := u
 rcases a3 with _ | ⟨b3, d3⟩ <;> rcases a4 with _ | ⟨b4, d4⟩ <;>
 ·refine co [8] [] (x := .of Tryz.f91 Mi Ng) ?_; refine on hc ?_; refine ob hcz ?_
  cases cz <;> exact fi
theorem IT (t u : Ty) (h : t.size < 1000000000) : ag 91 [.dat t.enc, .dat u.enc] (bv (J8 t u)) := OW t u (qR t h)
/-- Terms that are being gathered. -/
def Mf : List Ty -> ae
 | [] => .dat nl
 | t :: r => .own (ap (t :: r))
theorem Oe {l : List Ty} {d : aq} (h : d ∈ ap l) : ∃ t, d = Ty.enc t := by
 rw [ou] at h
 obtain ⟨t, _, rfl⟩ := List.mem_map.1 h
 exact ⟨t, rfl⟩
theorem EG (a b : List Ty) : ap (a ++ b) = ap a ++ ap b := by simp [ou]
theorem Ke (t : Ty) : t.enc.cells.length = 4 := by cases t; rfl
theorem yC (l : List Ty) : sizedB 4 (ap l) = true := jI (fun d hd => by obtain ⟨t, rfl⟩ := Oe hd; exact Ke t)
theorem G1 (l : List Ty) : ff (ap l) = false := by
 cases l with
 | nil => rfl
 | cons t r => cases t; rfl
theorem Pf {pre : List Ty} {t : Ty} (hl : pre.length < 1000000000) : dc (env ay.aT) false 30 [.own (ap pre), .dat (.slice [t.enc])] none = some ⟨.own (ap (pre ++ [t])), .keep⟩ := by
 rw [EG]
 refine sE (i := Vr) (ds := [t.enc]) (k := 3) KZ rfl wD ?_ ?_ (by kernel_rfl) ?_ ?_ ?_ (by simp)
 ·exact yC [t]
 ·exact yC pre
 ·have h1 : Vr.bytes <= 1000 := fW (by kernel_rfl)
  rw [aE]
  calc (pre.length + 1) * Vr.bytes <= 1000000000 * 1000 := Nat.mul_le_mul (by omega) h1
   _ <= 140737488355328 := by decide
 ·rw [aE]; simp [jy]; omega
 unfold iF
 rw [show ap pre ++ [t.enc] = ap (pre ++ [t]) by rw [EG]; rfl, G1]
theorem eS {α : Type} {l : List α} {i : Nat} {t : α} (h : l[i]? = some t) : l.take (i + 1) = l.take i ++ [t] := by rw [List.take_add_one, h]; rfl
noncomputable def NR : Hints := ⟨au, BJ, ax, rowsOf ax 125⟩
def Ig (k : Int) (nm : List UInt8) (ix : Int) (pre : List Ty) : Heap := [(.loc 3, .cells [iv k, .dat (sb nm), iv ix, Mf pre]), (.loc 2, .cells [iv 0, .dat (sb []), iv 0, .dat nl])]
def qU (k : Int) (nm : List UInt8) (ix : Int) (es : List aq) (pre : List Ty) (i : Int) : ac := ⟨[(11, iv i), (10, iv (Int.ofNat es.length)), (9, .dat (.slice es)), (3, .ptr (.loc 3) 0), (2, .ptr (.loc 2) 0)], Ig k nm ix pre, [], 0⟩
def C1 (k : Int) (nm : List UInt8) (ix : Int) (es : List aq) (pre : List Ty) (i : Int) : ac := ⟨[(12, bv false), (11, iv i), (10, iv (Int.ofNat es.length)), (9, .dat (.slice es)), (3, .ptr (.loc 3) 0), (2, .ptr (.loc 2) 0)], Ig k nm ix pre, [], 0⟩
theorem EQ {k : Int} {nm : List UInt8} {ix : Int} {l pre : List Ty} {i : Nat} {t : Ty} (hi : i < (ap l).length) (ht : l[i]? = some t) (hc : ag 125 [.dat t.enc] (.dat t.enc)) (hp : pre.length < 1000000000) {T : Exit -> aa -> Prop}
  (e : T .normal ((qU k nm ix (ap l) (pre ++ [t]) (aI .i64 (Int.ofNat i + 1))).aw Tryz.f125.ntmps)) :
  KD (roundOf Tryz.f125 0) T ((qU k nm ix (ap l) pre (Int.ofNat i)).aw Tryz.f125.ntmps) := by
 have h1 := bH hi
 have h2 := jX ht
 have h3 := Pf (t := t) hp
 clear ht hi hp
 rcases pre with _ | ⟨d, r⟩ <;>
 ·refine aC [12] [13, 20] (H := NR) (live := vY) (by kernel_rfl) ?_; refine ob h1 ?_; refine oo h2 ?_
  obtain ⟨v0, v1, v2, v3⟩ := t
  rcases v3 with _ | ⟨v4, v5⟩ <;>
  ·refine on hc ?_; refine oo h3 ?_; exact oe e
theorem G8 {k : Int} {nm : List UInt8} {ix : Int} {l pre : List Ty} {T : Exit -> aa -> Prop}
  (e : T (.exit 0) ((C1 k nm ix (ap l) pre (Int.ofNat (ap l).length)).aw Tryz.f125.ntmps)) :
  KD (roundOf Tryz.f125 0) T ((qU k nm ix (ap l) pre (Int.ofNat (ap l).length)).aw Tryz.f125.ntmps) := by
 have h1 := bR (i := (ap l).length) (L := (ap l).length) (by omega)
 rcases pre with _ | ⟨d, r⟩ <;>
 ·refine aC [12] [] (H := NR) (live := vY) (by kernel_rfl) ?_; refine ob h1 ?_; exact oe e
theorem OK {k : Int} {nm : List UInt8} {ix : Int} {b : Ty} {d : List Ty} (ih : ∀ t ∈ b :: d, ag 125 [.dat t.enc] (.dat t.enc)) (hb : (b :: d).length < 1000000000) :
  ag 125 [.dat (Ty.mk k nm ix (b :: d)).enc] (.dat (Ty.mk k nm ix (b :: d)).enc) := by
 have hl : KD (.loop (roundOf Tryz.f125 0)) (fun e s => e = .exit 0 /\ s = (C1 k nm ix (ap (b :: d)) (b :: d) (Int.ofNat (ap (b :: d)).length)).aw Tryz.f125.ntmps)
   ((qU k nm ix (ap (b :: d)) [] (Int.ofNat 0)).aw Tryz.f125.ntmps) := by
  refine bu (St := fun i => (qU k nm ix (ap (b :: d)) ((b :: d).take i) (Int.ofNat i)).aw Tryz.f125.ntmps) (ap (b :: d)).length ?_ ?_ (i := 0) (Nat.zero_le _)
  ·intro i hi
   obtain ⟨t, ht, hm⟩ := get_mem hi
   refine EQ hi ht (ih t hm) (by simp at hb ⊢; omega) ?_
   rw [aE] at hi
   rw [bn (by omega), ← eS ht]
   rfl
  refine G8 ⟨rfl, ?_⟩
  rw [aE, List.take_length]
 clear ih hb
 refine co [] [] (x := .of Tryz.f125 BJ vY) ?_; refine lo hl ?_; rintro ex s ⟨rfl, rfl⟩; refine ⟨_, rfl, ?_⟩; exact fi
theorem Ks {k : Int} {nm : List UInt8} {ix : Int} : ag 125 [.dat (Ty.mk k nm ix []).enc] (.dat (Ty.mk k nm ix []).enc) := oK _ _ _ _ _ (by kernel_rfl)
mutual
theorem EX : ∀ t : Ty, t.thin -> ag 125 [.dat t.enc] (.dat t.enc)
 | .mk k nm ix [], _ => Ks
 | .mk k nm ix (t :: r), h => by
  simp only [Ty.thin] at h
  exact OK (AZ (t :: r) h.2) h.1
theorem AZ : ∀ l : List Ty, fQ l -> ∀ t ∈ l, ag 125 [.dat t.enc] (.dat t.enc)
 | [], _, t, ht => by simp at ht
 | u :: r, h, t, ht => by
  simp only [fQ] at h
  rcases List.mem_cons.1 ht with h1 | ht
  ·rw [h1]; exact EX u h.1
  exact AZ r h.2 t ht
end
/-- What stands for variable ix under u binders. -/
def instAt (ls : List Ty) (ix : Int) (u : Nat) : Option Ty := match bm ix (Int.ofNat u) with
 | true => none
 | false => ls[(ix - Int.ofNat u).toNat]?
mutual
def Ty.inst (ls : List Ty) : Ty -> Nat -> Ty
 | .mk k nm ix args, u => match aZ k 5, instAt ls ix u with
  | true, some t => t
  | _, _ => .mk k nm ix (instL ls k 0 args u)
def instL (ls : List Ty) (k : Int) : Nat -> List Ty -> Nat -> List Ty
 | _, [], _ => []
 | i, t :: r, u => t.inst ls (u + cO k i) :: instL ls k (i + 1) r u
end
theorem wy {u j : Nat} (h : u + j < 9223372036854775808) : aI .i64 (Int.ofNat (u + j) - Int.ofNat u) = Int.ofNat j := by
 rw [dz]
 rw [show (Int.ofNat (u + j) - Int.ofNat u : Int) = Int.ofNat j by simp; omega]
 exact wrap_i64 (by simp <;> omega) (by simp <;> omega)
def Ta : aq := .flat (.pointer none)
theorem inst1_lo {ls : List Ty} {ix : Int} {u : Nat} (h : bm ix (Int.ofNat u) = true) : ag 95 [iv ix, iv (Int.ofNat u), .ref [sl (ap ls)]] (.tup [.dat Ta, iv ix]) := by
 refine co [13] [] (x := .of Tryz.f95 DH BU) ?_; refine ox h ?_; exact fi
theorem inst1_hi {ls : List Ty} {j : Nat} {u : Nat} (hb : u + j < 1000000000) (h : ¬ j < (ap ls).length) : ag 95 [iv (Int.ofNat (u + j)), iv (Int.ofNat u), .ref [sl (ap ls)]] (.tup [.dat Ta, iv (Int.ofNat (u + j))]) := by
 have h1 := bR (i := u + j) (L := u) (by omega)
 have h2 := bR h
 have h4 : bm (aI .i64 (Int.ofNat (u + j) - Int.ofNat u)) (Int.ofNat (ap ls).length) = false := by rw [wy (by omega)]; exact h2
 clear h
 refine co [13, 18] [] (x := .of Tryz.f95 DH BU) ?_; refine ox h1 ?_
 rcases ls with _ | ⟨v0, v1⟩ <;>
 ·refine ob h4 ?_; exact fi
theorem inst1_in {ls : List Ty} {j : Nat} {u : Nat} {t : Ty} (hb : u + j < 1000000000) (h : ls[j]? = some t) : ag 95 [iv (Int.ofNat (u + j)), iv (Int.ofNat u), .ref [sl (ap ls)]] (.tup [.ref t.cells, iv 0]) := by
 have h1 := bR (i := u + j) (L := u) (by omega)
 have hj : j < (ap ls).length := by rw [aE]; exact (List.getElem?_eq_some_iff.1 h).1
 have h2 := bH hj
 have h4 : bm (aI .i64 (Int.ofNat (u + j) - Int.ofNat u)) (Int.ofNat (ap ls).length) = true := by rw [wy (by omega)]; exact h2
 have h5 : aK (env ay.aT) 30 [.dat (.slice (ap ls)), .dat (.flat (.int .i64 (aI .i64 (Int.ofNat (u + j) - Int.ofNat u))))] = some ⟨.ref t.cells, .keep⟩ := by rw [wy (by omega)]; exact jX h
 clear h hj
 refine co [13, 18] [22] (x := .of Tryz.f95 DH BU) ?_; refine ox h1 ?_
 rcases ls with _ | ⟨v0, v1⟩ <;>
 ·refine ob h4 ?_; refine oo h5 ?_; exact fi
noncomputable def Sk : Hints := ⟨au, DI, ax, rowsOf ax 94⟩
def oc (ls : List Ty) : ae := .fn (.func 95) [] [.ref [sl (ap ls)]]
def Nd (k : Int) (nm : List UInt8) (ix : Int) (a : aq) (pre : List Ty) : Heap := [(.loc 7, .cells [iv k, .dat (sb nm), iv ix, Mf pre]), (.loc 6, .cells [iv 0, .dat (sb []), iv 0, .dat nl]), (.loc 3, .cells [iv k, .dat (sb nm), iv ix, .dat a])]
def sV (ls : List Ty) (u : Nat) (k : Int) (nm : List UInt8) (ix : Int) (a : aq) (n : Nat) (pre : List Ty) (i : Int) : ac := ⟨[(36, iv i), (35, iv (Int.ofNat n)), (34, .dat a), (7, .ptr (.loc 7) 0), (6, .ptr (.loc 6) 0), (3, .ptr (.loc 3) 0), (1, iv (Int.ofNat u)), (2, oc ls)], Nd k nm ix a pre, [], 0⟩
def Bj (ls : List Ty) (u : Nat) (k : Int) (nm : List UInt8) (ix : Int) (a : aq) (n : Nat) (pre : List Ty) (i : Int) : ac := ⟨[(37, bv false), (36, iv i), (35, iv (Int.ofNat n)), (34, .dat a), (7, .ptr (.loc 7) 0), (6, .ptr (.loc 6) 0), (3, .ptr (.loc 3) 0), (1, iv (Int.ofNat u)), (2, oc ls)], Nd k nm ix a pre, [], 0⟩
theorem FA {ls : List Ty} {u : Nat} {k : Int} {nm : List UInt8} {ix : Int} {l pre : List Ty} {i : Nat} {t t2 : Ty} (hi : i < (ap l).length) (ht : l[i]? = some t) (hc : ag 94 [.dat t.enc, iv (aI .i64 (Int.ofNat u + Int.ofNat (cO k i))), oc ls] (.dat t2.enc)) (hp : pre.length < 1000000000) {T : Exit -> aa -> Prop}
  (e : T .normal ((sV ls u k nm ix (.slice (ap l)) (ap l).length (pre ++ [t2]) (aI .i64 (Int.ofNat i + 1))).aw Tryz.f94.ntmps)) :
  KD (roundOf Tryz.f94 0) T ((sV ls u k nm ix (.slice (ap l)) (ap l).length pre (Int.ofNat i)).aw Tryz.f94.ntmps) := by
 have h1 := bH hi
 have h2 := jX ht
 have h3 := Pf (t := t2) hp
 have h4 := tV k nm ix (.slice (ap l)) (.inr ⟨_, rfl⟩) i
 clear ht hi hp
 rcases pre with _ | ⟨d, r⟩ <;>
 ·refine aC [37] [39, 52] (H := Sk) (live := xV) (by kernel_rfl) ?_; refine ob h1 ?_; refine oo h2 ?_
  obtain ⟨v0, v1, v2, v3⟩ := t
  rcases v3 with _ | ⟨v8, v9⟩
  ·refine on h4 ?_; refine on hc ?_
   obtain ⟨v4, v5, v6, v7⟩ := t2
   refine oo h3 ?_; exact oe e
  refine on h4 ?_; refine on hc ?_
  obtain ⟨v10, v11, v12, v13⟩ := t2
  refine oo h3 ?_; exact oe e
theorem Jq {ls : List Ty} {u : Nat} {k : Int} {nm : List UInt8} {ix : Int} {a : aq} {n : Nat} {pre : List Ty} {T : Exit -> aa -> Prop}
  (e : T (.exit 0) ((Bj ls u k nm ix a n pre (Int.ofNat n)).aw Tryz.f94.ntmps)) :
  KD (roundOf Tryz.f94 0) T ((sV ls u k nm ix a n pre (Int.ofNat n)).aw Tryz.f94.ntmps) := by
 have h1 := bR (i := n) (L := n) (by omega)
 rcases pre with _ | ⟨d, r⟩ <;>
 ·refine aC [37] [] (H := Sk) (live := xV) (by kernel_rfl) ?_; refine ob h1 ?_; exact oe e
mutual
def Ty.dD : Ty -> Prop
 | .mk k _ ix args => (aZ k 5 = true -> bm ix 500000000 = true) /\ cJ args
def cJ : List Ty -> Prop
 | [] => True
 | t :: r => t.dD /\ cJ r
end
theorem instL_get {ls : List Ty} {k : Int} {u : Nat} : ∀ {l : List Ty} {i j : Nat} {t : Ty}, l[i]? = some t -> (instL ls k j l u)[i]? = some (t.inst ls (u + cO k (j + i)))
 | [], i, j, t, h => by simp at h
 | x :: r, 0, j, t, h => by simp at h; subst h; simp [instL]
 | x :: r, i + 1, j, t, h => by
  simp only [instL, List.getElem?_cons_succ] at h ⊢
  rw [instL_get h, show j + 1 + i = j + (i + 1) by omega]
theorem instL_length {ls : List Ty} {k : Int} {u : Nat} : ∀ {l : List Ty} {j : Nat}, (instL ls k j l u).length = l.length
 | [], _ => by simp [instL]
 | x :: r, _ => by simp [instL, instL_length]
theorem O5 (k : Int) (i : Nat) : cO k i <= 1 := by unfold cO; split <;> omega
theorem Jp {ls : List Ty} {u : Nat} {k : Int} {nm : List UInt8} {ix : Int} {l : List Ty} {a : aq} (ha : a = sl (ap l)) (hu : u < 1000000000000000) (hb : l.length < 1000000000)
  (ih : ∀ t ∈ l, ∀ v, v <= u + 1 -> ag 94 [.dat t.enc, iv (Int.ofNat v), oc ls] (.dat (t.inst ls v).enc)) :
  KD (.loop (roundOf Tryz.f94 0)) (fun e s => e = .exit 0 /\ s = (Bj ls u k nm ix a (ap l).length (instL ls k 0 l u) (Int.ofNat (ap l).length)).aw Tryz.f94.ntmps)
   ((sV ls u k nm ix a (ap l).length [] (Int.ofNat 0)).aw Tryz.f94.ntmps) := by
 refine bu (St := fun i => (sV ls u k nm ix a (ap l).length ((instL ls k 0 l u).take i) (Int.ofNat i)).aw Tryz.f94.ntmps) (ap l).length ?_ ?_ (i := 0) (Nat.zero_le _)
 ·intro i hi
  obtain ⟨t, ht, hm⟩ := get_mem hi
  have hbn := O5 k i
  have hg := instL_get (ls := ls) (k := k) (u := u) (j := 0) ht
  rw [Nat.zero_add] at hg
  have ha2 : a = .slice (ap l) := by
   rw [ha]
   cases l with
   | nil => simp at ht
   | cons x r => rfl
  subst ha2
  refine FA (t2 := t.inst ls (u + cO k i)) hi ht ?_ (by rw [List.length_take, instL_length]; omega) ?_
  ·rw [wrap_add (by omega)]; exact ih t hm _ (by omega)
  rw [aE] at hi
  rw [bn (by omega), ← eS hg]
  rfl
 refine Jq ⟨rfl, ?_⟩
 rw [aE, show l.length = (instL ls k 0 l u).length by rw [instL_length], List.take_length]
theorem tg {ls : List Ty} {u : Nat} {k : Int} {nm : List UInt8} {ix : Int} {l : List Ty} {ck : Bool} (hk : aZ k 5 = ck) (hc : ck = true -> ag 95 [iv ix, iv (Int.ofNat u), .ref [sl (ap ls)]] (.tup [.dat Ta, iv ix])) {r : List Ty}
  (hl : KD (.loop (roundOf Tryz.f94 0)) (fun e s => e = .exit 0 /\ s = (Bj ls u k nm ix (sl (ap l)) (ap l).length r (Int.ofNat (ap l).length)).aw Tryz.f94.ntmps)
   ((sV ls u k nm ix (sl (ap l)) (ap l).length [] (Int.ofNat 0)).aw Tryz.f94.ntmps)) :
  ag 94 [.dat (Ty.mk k nm ix l).enc, iv (Int.ofNat u), oc ls] (.dat (Ty.mk k nm ix r).enc) := by
 refine co [16] [] (x := .of Tryz.f94 DI xV) ?_
 rcases l with _ | ⟨v4, v5⟩
 ·refine ob hk ?_
  cases ck
  ·refine lo hl ?_; rintro ex s ⟨rfl, rfl⟩; refine ⟨_, rfl, ?_⟩
   rcases r with _ | ⟨v2, v3⟩ <;>
   ·exact fi
  refine on (hc rfl) ?_; refine lo hl ?_; rintro ex s ⟨rfl, rfl⟩; refine ⟨_, rfl, ?_⟩
  rcases r with _ | ⟨v0, v1⟩ <;>
  ·exact fi
 refine ob hk ?_
 cases ck
 ·refine lo hl ?_; rintro ex s ⟨rfl, rfl⟩; refine ⟨_, rfl, ?_⟩
  rcases r with _ | ⟨v8, v9⟩ <;>
  ·exact fi
 refine on (hc rfl) ?_; refine lo hl ?_; rintro ex s ⟨rfl, rfl⟩; refine ⟨_, rfl, ?_⟩
 rcases r with _ | ⟨v6, v7⟩ <;>
 ·exact fi
theorem Jo {ls : List Ty} {u : Nat} {k : Int} {nm : List UInt8} {ix : Int} {l : List Ty} {t : Ty} (hk : aZ k 5 = true) (hc : ag 95 [iv ix, iv (Int.ofNat u), .ref [sl (ap ls)]] (.tup [.ref t.cells, iv 0])) (hcl : ag 125 [.dat t.enc] (.dat t.enc)) :
  ag 94 [.dat (Ty.mk k nm ix l).enc, iv (Int.ofNat u), oc ls] (.dat t.enc) := by
 refine co [16] [] (x := .of Tryz.f94 DI xV) ?_
 rcases l with _ | ⟨v6, v7⟩
 ·refine ob hk ?_; refine on hc ?_
  obtain ⟨v0, v1, v2, v3⟩ := t
  refine on hcl ?_
  rcases v3 with _ | ⟨v4, v5⟩ <;>
  ·exact fi
 refine ob hk ?_; refine on hc ?_
 obtain ⟨v8, v9, v10, v11⟩ := t
 refine on hcl ?_
 rcases v11 with _ | ⟨v12, v13⟩ <;>
 ·exact fi
theorem instAt_lo {ls : List Ty} {ix : Int} {u : Nat} (h : bm ix (Int.ofNat u) = true) : instAt ls ix u = none := by unfold instAt; rw [h]
theorem instAt_at {ls : List Ty} {u j : Nat} : instAt ls (Int.ofNat (u + j)) u = ls[j]? := by
 unfold instAt
 rw [bR (by omega)]
 show ls[(Int.ofNat (u + j) - Int.ofNat u).toNat]? = _
 rw [show (Int.ofNat (u + j) - Int.ofNat u : Int) = Int.ofNat j by simp; omega]
 rfl
theorem inst_none {ls : List Ty} {k : Int} {nm : List UInt8} {ix : Int} {l : List Ty} {u : Nat} (h : aZ k 5 = false ∨ instAt ls ix u = none) : (Ty.mk k nm ix l).inst ls u = .mk k nm ix (instL ls k 0 l u) := by
 rw [Ty.inst]
 rcases h with h | h
 ·rw [h]
 rw [h]; cases aZ k 5 <;> rfl
theorem inst_some {ls : List Ty} {k : Int} {nm : List UInt8} {ix : Int} {l : List Ty} {u : Nat} {t : Ty} (hk : aZ k 5 = true) (h : instAt ls ix u = some t) : (Ty.mk k nm ix l).inst ls u = t := by
 rw [Ty.inst, hk, h]
theorem JK {ix : Int} {u : Nat} (h : bm ix (Int.ofNat u) = false) (h2 : bm ix 500000000 = true) : ∃ j : Nat, ix = Int.ofNat (u + j) /\ u + j < 500000000 := by
 rw [gp] at h h2
 simp only [decide_eq_false_iff_not, decide_eq_true_eq] at h h2
 refine ⟨(ix - u).toNat, ?_, ?_⟩
 ·simp only [Int.ofNat_eq_natCast] at h ⊢; omega
 simp only [Int.ofNat_eq_natCast] at h; omega
mutual
theorem AX {ls : List Ty} (hls : ∀ t ∈ ls, ag 125 [.dat t.enc] (.dat t.enc)) : ∀ (t : Ty) (u : Nat), t.thin -> t.dD -> u + t.depth < 1000000000000000 -> ag 94 [.dat t.enc, iv (Int.ofNat u), oc ls] (.dat (t.inst ls u).enc)
 | .mk k nm ix l, u, hs, hx, hd => by
  simp only [Ty.thin] at hs
  simp only [Ty.depth] at hd
  simp only [Ty.dD] at hx
  have ih := yN hls l u hs.2 hx.2 (by omega)
  have hl := Jp (ls := ls) (u := u) (k := k) (nm := nm) (ix := ix) (l := l) (a := sl (ap l)) rfl (by omega) hs.1 ih
  cases hk : aZ k 5 with
  | false =>
   rw [inst_none (.inl hk)]
   exact tg hk (fun h => by simp at h) hl
  | true =>
   cases hlo : bm ix (Int.ofNat u) with
   | true =>
    rw [inst_none (.inr (instAt_lo hlo))]
    exact tg hk (fun _ => inst1_lo hlo) hl
   | false =>
    obtain ⟨j, rfl, hj⟩ := JK hlo (hx.1 hk)
    by_cases hin : j < ls.length
    ·have hg : ls[j]? = some ls[j] := List.getElem?_eq_getElem hin
     rw [inst_some hk (instAt_at.trans hg)]
     exact Jo hk (inst1_in (by omega) hg) (hls _ (List.getElem_mem hin))
    rw [inst_none (.inr (instAt_at.trans (List.getElem?_eq_none (by omega))))]
    exact tg hk (fun _ => inst1_hi (by omega) (by rw [aE]; exact hin)) hl
theorem yN {ls : List Ty} (hls : ∀ t ∈ ls, ag 125 [.dat t.enc] (.dat t.enc)) : ∀ (l : List Ty) (u : Nat), fQ l -> cJ l -> u + bG l + 1 < 1000000000000000 -> ∀ t ∈ l, ∀ v, v <= u + 1 -> ag 94 [.dat t.enc, iv (Int.ofNat v), oc ls] (.dat (t.inst ls v).enc)
 | [], _, _, _, _, t, ht, _, _ => by simp at ht
 | x :: r, u, hs, hx, hd, t, ht, v, hv => by
  simp only [fQ] at hs
  simp only [bG] at hd
  simp only [cJ] at hx
  rcases List.mem_cons.1 ht with h1 | ht
  ·rw [h1]; exact AX hls x v hs.1 hx.1 (by omega)
  exact yN hls r u hs.2 hx.2 (by omega) t ht v hv
end
theorem OZ {t : Ty} {ls : List Ty} (hls : ∀ t ∈ ls, ag 125 [.dat t.enc] (.dat t.enc)) (hs : t.thin) (hx : t.dD) (hd : t.depth < 1000000000000000) : ag 60 [.dat t.enc, .dat (sl (ap ls))] (.dat (t.inst ls 0).enc) := by
 have h := AX hls t 0 hs hx (by omega)
 generalize t.inst ls 0 = r at h
 clear hls hs hx hd
 refine co [] [] (x := .of Tryz.f60 Mt Nr) ?_
 obtain ⟨v0, v1, v2, v3⟩ := t
 rcases v3 with _ | ⟨v18, v19⟩
 ·rcases ls with _ | ⟨v10, v11⟩
  ·refine on h ?_
   obtain ⟨v4, v5, v6, v7⟩ := r
   rcases v7 with _ | ⟨v8, v9⟩ <;>
   ·exact fi
  refine on h ?_
  obtain ⟨v12, v13, v14, v15⟩ := r
  rcases v15 with _ | ⟨v16, v17⟩ <;>
  ·exact fi
 rcases ls with _ | ⟨v26, v27⟩
 ·refine on h ?_
  obtain ⟨v20, v21, v22, v23⟩ := r
  rcases v23 with _ | ⟨v24, v25⟩ <;>
  ·exact fi
 refine on h ?_
 obtain ⟨v28, v29, v30, v31⟩ := r
 rcases v31 with _ | ⟨v32, v33⟩ <;>
 ·exact fi
mutual
theorem inst_nil : ∀ (t : Ty) (u : Nat), t.inst [] u = t
 | .mk k nm ix l, u => by
  have h : instAt [] ix u = none := by unfold instAt; split <;> simp
  rw [inst_none (.inr h), instL_nil l]
theorem instL_nil : ∀ (l : List Ty) {k : Int} {i u : Nat}, instL [] k i l u = l
 | [], _, _, _ => by rw [instL]
 | t :: r, k, i, u => by rw [instL, inst_nil t, instL_nil r]
end
theorem sj {t : Ty} (hs : t.thin) (hx : t.dD) (hd : t.depth < 1000000000000000) : ag 58 [.dat t.enc] (.dat t.enc) := by
 have h := OZ (t := t) (ls := []) (fun t ht => by simp at ht) hs hx hd
 rw [inst_nil] at h
 clear hs hx hd
 refine co [] [] (x := .of Tryz.f58 Mu Ns) ?_
 obtain ⟨v0, v1, v2, v3⟩ := t
 rcases v3 with _ | ⟨v4, v5⟩ <;>
 ·refine on h ?_; exact fi
theorem EY {t : Ty} (hs : t.size < 1000000000) (hx : t.dD) (hd : t.depth < 500000000) : ag 58 [.dat t.enc] (.dat t.enc) := sj (qR t hs) hx (by omega)
structure ep where
 nm : List UInt8
 ty : Ty
structure aU where
 nm : List UInt8
 ar : Int
 sup : Ty
 con : Bool
 fl : List ep
def bl (b : Bool) : aq := .flat (.bool b)
def ep.cells (f : ep) : List aq := sb f.nm :: f.ty.cells
def ep.enc (f : ep) : aq := .agg f.cells
def aR : List ep -> List aq
 | [] => []
 | f :: r => f.enc :: aR r
def aU.cells (d : aU) : List aq := sb d.nm :: i64 d.ar :: (d.sup.cells ++ [bl d.con, sl (aR d.fl)])
def aU.enc (d : aU) : aq := .agg d.cells
def aU.zero : aU := ⟨[], 0, .mk 0 [] 0 [], false, []⟩
def av (l : List aq) : List ae := l.map .dat
def cZ : List aU -> List aq
 | [] => []
 | d :: r => d.cells ++ cZ r
def Yd (d : aU) (i : Nat) : Go.Value × aq := (.string ⟨⟨d.nm⟩⟩, i64 (Int.ofNat i))
def cL : List aU -> Nat -> List (Go.Value × aq)
 | [], _ => []
 | d :: r, i => Yd d i :: cL r (i + 1)
def hP : ae := .ptr (.out 1) 0
/-- A hierarchy: the row, the object, the index. -/
def hG (r : Nat) (cs : List ae) (es : List (Go.Value × aq)) (n : Nat) : Heap := [(.out r, .cells cs), (.out 1, .cells [.win (.out r) 8 0 n, .map (.out 0)]), (.out 0, .map es)]
theorem kM (k : Nat) : ∀ cs : List aq, dX k (av cs) = false
 | [] => rfl
 | d :: r => by show (dL k (.dat d) || dX k (av r)) = false; rw [kM k r]; rfl
theorem qf (ρ : Nat -> Nat) : ∀ cs : List aq, iL ρ (av cs) = av cs
 | [] => rfl
 | d :: r => by show fS ρ (.dat d) :: iL ρ (av r) = _; rw [qf ρ r]; rfl
theorem XL {v : ae} {r m n : Nat} {cs : List aq} {es : List (Go.Value × aq)} (hv : dL m v = false) (hr : Nat.blt r m = true) (hm : Nat.blt 1 m = true) : rT m ⟨v, hG r (av cs) es n, m⟩ = ⟨v, hG r (av cs) es n, m⟩ := by
 have h0 : Nat.blt 0 m = true := by simp [Nat.blt_eq] at *; omega
 have hr2 : Nat.ble m r = false := by rw [Nat.blt_eq] at hr; rw [Bool.eq_false_iff, ne_eq, Nat.ble_eq]; omega
 have hr3 : Nat.ble m 0 = false := by rw [Nat.blt_eq] at h0; rw [Bool.eq_false_iff, ne_eq, Nat.ble_eq]; omega
 have h1 : eM m (hG r (av cs) es n) = hG r (av cs) es n := by simp [eM, hG, jv, h0, hr, hm]
 have h2 : cT m (hG r (av cs) es n) = false := by simp [cT, hG, pA, kM, dX, dL, hr2, hr3]
 unfold rT
 dsimp only
 rw [h1, h2, hv]
 rfl
def eC (nm : List UInt8) (ar k : Int) (nm2 : List UInt8) (ix : Int) (la : List aq) (con : Bool) (lb : List aq) : aq := .agg [sb nm, i64 ar, i64 k, sb nm2, i64 ix, sl la, bl con, sl lb]
theorem N5 {cs : List aq} {es : List (Go.Value × aq)} {n i : Nat} {nm nm1 nm2 : List UInt8} {ar k ix : Int} {con : Bool} {la lb : List aq}
  (h1 : fP (env ay.aT) 80 true [.map (.out 0), .dat (sb nm)] (some (.map es)) = some ⟨.tup [.dat (i64 (Int.ofNat i)), bv true], .keep⟩)
  (h2 : aK (env ay.aT) 23 [.win (.out 2) 8 0 n, iv (Int.ofNat i)] = some ⟨.ptr (.out 2) (0 + i * 8), .keep⟩)
  (h3 : ki (env ay.aT) false 35 [.ptr (.out 2) (0 + i * 8)] (some (.cells (av cs))) = some ⟨.dat (eC nm1 ar k nm2 ix la con lb), .keep⟩)
  : KC 49 [hP, .dat (sb nm)] (hG 2 (av cs) es n) 3 (XQ ⟨.tup [.dat (eC nm1 ar k nm2 ix la con lb), bv true], hG 2 (av cs) es n, 3⟩) := by
 have hg := XL (v := .tup [.dat (eC nm1 ar k nm2 ix la con lb), bv true]) (r := 2) (m := 3) (n := n) (cs := cs) (es := es) rfl rfl rfl
 rcases la with _ | ⟨x, la⟩ <;>
 ·rcases lb with _ | ⟨y, lb⟩ <;>
  ·refine co [] [14, 25, 26] (x := .of Tryz.f49 HW Gl) ?_; refine oo h1 ?_; refine oo h2 ?_; refine oo h3 ?_
   exact br (by kernel_rfl) hg
theorem Q6 {cs : List aq} {es : List (Go.Value × aq)} {n : Nat} {nm : List UInt8} 
  (h1 : fP (env ay.aT) 80 true [.map (.out 0), .dat (sb nm)] (some (.map es)) = some ⟨.tup [.dat (i64 0), bv false], .keep⟩)
  : KC 49 [hP, .dat (sb nm)] (hG 2 (av cs) es n) 3 (XQ ⟨.tup [.dat aU.zero.enc, bv false], hG 2 (av cs) es n, 3⟩) := by
 have hg := XL (v := .tup [.dat aU.zero.enc, bv false]) (r := 2) (m := 3) (n := n) (cs := cs) (es := es) rfl rfl rfl
 refine co [] [14] (x := .of Tryz.f49 HW Gl) ?_; refine oo h1 ?_
 exact br (by kernel_rfl) hg
def fg : List aU -> List UInt8 -> Option Nat
 | [], _ => none
 | d :: r, nm => match dt nm d.nm with | true => some 0 | false => (fg r nm).map (· + 1)
def aL : List aU -> List UInt8 -> Option aU
 | [], _ => none
 | d :: r, nm => match dt nm d.nm with | true => some d | false => aL r nm
theorem jU : ∀ {ds : List aU} {nm : List UInt8} {k : Nat}, fg ds nm = some k -> ∃ d, ds[k]? = some d /\ aL ds nm = some d /\ dt nm d.nm = true
 | [], nm, k, h => by simp [fg] at h
 | d :: r, nm, k, h => by
  unfold fg at h
  unfold aL
  cases he : dt nm d.nm with
  | true => rw [he] at h; simp at h; subst h; exact ⟨d, rfl, rfl, he⟩
  | false =>
   rw [he] at h
   simp only [Option.map_eq_some_iff] at h
   obtain ⟨j, hj, rfl⟩ := h
   exact jU hj
theorem oW : ∀ {ds : List aU} {nm : List UInt8}, fg ds nm = none -> aL ds nm = none
 | [], nm, h => rfl
 | d :: r, nm, h => by
  unfold fg at h
  unfold aL
  cases he : dt nm d.nm with
  | true => rw [he] at h; simp at h
  | false =>
   rw [he] at h
   simp only [Option.map_eq_none_iff] at h
   exact oW h
theorem lN : ∀ (ds : List aU) (nm : List UInt8) (i j : Nat), findF .string (.string ⟨⟨nm⟩⟩) (cL ds i) j = some ((fg ds nm).map fun k => (j + k, i64 (Int.ofNat (i + k))))
 | [], nm, i, j => rfl
 | d :: r, nm, i, j => by
  show (match xc .string (.string ⟨⟨nm⟩⟩) (.string ⟨⟨d.nm⟩⟩) with | some true => some (some (j, i64 (Int.ofNat i))) | some false => findF .string (.string ⟨⟨nm⟩⟩) (cL r (i + 1)) (j + 1) | none => none) = _
  rw [show xc .string (.string ⟨⟨nm⟩⟩) (.string ⟨⟨d.nm⟩⟩) = some (dt nm d.nm) from rfl]
  unfold fg
  cases he : dt nm d.nm with
  | true => rfl
  | false =>
   dsimp only
   rw [lN r nm (i + 1) (j + 1)]
   cases fg r nm with
   | none => rfl
   | some k => simp only [Option.map_some]; rw [show j + 1 + k = j + (k + 1) by omega, show i + 1 + k = i + (k + 1) by omega]
theorem JM {ds : List aU} {nm : List UInt8} {k : Nat} (h : fg ds nm = some k) : fP (env ay.aT) 80 true [.map (.out 0), .dat (sb nm)] (some (.map (cL ds 0))) = some ⟨.tup [.dat (i64 (Int.ofNat k)), bv true], .keep⟩ := by
 have h1 : fP (env ay.aT) 80 true [.map (.out 0), .dat (sb nm)] (some (.map (cL ds 0))) = (match findF .string (.string ⟨⟨nm⟩⟩) (cL ds 0) 0 with
  | some (some (_, d)) => some (found true d true) | some none => some ⟨.tup [.dat (i64 0), bv false], .keep⟩ | none => none) := by kernel_rfl
 rw [h1, lN, h]
 simp only [Option.map_some, Nat.zero_add]
 rfl
theorem JO {ds : List aU} {nm : List UInt8} (h : fg ds nm = none) : fP (env ay.aT) 80 true [.map (.out 0), .dat (sb nm)] (some (.map (cL ds 0))) = some ⟨.tup [.dat (i64 0), bv false], .keep⟩ := by
 have h1 : fP (env ay.aT) 80 true [.map (.out 0), .dat (sb nm)] (some (.map (cL ds 0))) = (match findF .string (.string ⟨⟨nm⟩⟩) (cL ds 0) 0 with
  | some (some (_, d)) => some (found true d true) | some none => some ⟨.tup [.dat (i64 0), bv false], .keep⟩ | none => none) := by kernel_rfl
 rw [h1, lN, h]
 rfl
theorem we {r n k : Nat} (h : k < n) : aK (env ay.aT) 23 [.win (.out r) 8 0 n, iv (Int.ofNat k)] = some ⟨.ptr (.out r) (0 + k * 8), .keep⟩ := by
 have h1 : aK (env ay.aT) 23 [.win (.out r) 8 0 n, iv (Int.ofNat k)] = (if (Nat.blt k n && Nat.beq 8 8) = true then some ⟨.ptr (.out r) (0 + k * 8), .keep⟩ else none) := by kernel_rfl
 rw [h1, if_pos]
 simp [Nat.blt_eq, h]
theorem iT : ∀ ds : List aU, (cZ ds).length = ds.length * 8
 | [] => rfl
 | d :: r => by
  have : d.cells.length = 8 := by obtain ⟨a, b, ⟨e, f, g, h⟩, i, j⟩ := d; rfl
  simp only [cZ, List.length_append, this, iT r, List.length_cons]
  omega
theorem Ae : ∀ {ds : List aU} {k : Nat} {d : aU} {tl : List aq}, ds[k]? = some d -> ((cZ ds ++ tl).drop (0 + k * 8)).take 8 = d.cells
 | [], k, d, tl, h => by simp at h
 | x :: r, k, d, tl, h => by
  have h8 : x.cells.length = 8 := by obtain ⟨a, b, ⟨e, f, g, h⟩, i, j⟩ := x; rfl
  cases k with
  | zero =>
   simp at h; subst h
   simp only [cZ, Nat.zero_mul, Nat.add_zero, List.drop_zero, List.append_assoc]
   rw [List.take_append_of_le_length (by omega), List.take_of_length_le (by omega)]
  | succ k =>
   simp at h
   have := Ae (tl := tl) h
   rw [← this]
   simp only [cZ, List.append_assoc]
   rw [show 0 + (k + 1) * 8 = x.cells.length + (0 + k * 8) by omega, List.drop_length_add_append]
theorem CV (n : Nat) : ∀ l : List aq, eD n (av l) = av (l.take n) := by
 intro l; induction l generalizing n with
 | nil => cases n <;> rfl
 | cons x r ih => cases n with | zero => rfl | succ n => show ae.dat x :: eD n (av r) = _; rw [ih]; rfl
theorem Ou (n : Nat) : ∀ l : List aq, gg n (av l) = av (l.drop n) := by
 intro l; induction l generalizing n with
 | nil => cases n <;> rfl
 | cons x r ih => cases n with | zero => rfl | succ n => show gg n (av r) = _; rw [ih]; rfl
theorem D5 {ds : List aU} {k r : Nat} {d : aU} {tl : List aq} (h : ds[k]? = some d) : ki (env ay.aT) false 35 [.ptr (.out r) (0 + k * 8)] (some (.cells (av (cZ ds ++ tl)))) = some ⟨.dat d.enc, .keep⟩ := by
 have h1 : ∀ cs, ki (env ay.aT) false 35 [.ptr (.out r) (0 + k * 8)] (some (.cells cs)) = tw (if (eD 8 (gg (0 + k * 8) cs)).length = 8 then some (jq (bi (eD 8 (gg (0 + k * 8) cs)))) else none) := fun cs => by kernel_rfl
 rw [h1, Ou, CV, Ae h]
 obtain ⟨a, b, ⟨e, f, g, i⟩, j, l⟩ := d
 rcases i with _ | ⟨x, i⟩ <;> rcases l with _ | ⟨y, l⟩ <;> rfl
def jm (o : Option aU) : aU := match o with | some d => d | none => aU.zero
def fY {α : Type} (o : Option α) : Bool := match o with | some _ => true | none => false
def hH (r : Nat) (ds : List aU) (tl : List aq) : Heap := hG r (av (cZ ds ++ tl)) (cL ds 0) ds.length
theorem pv (ds : List aU) (tl : List aq) (nm : List UInt8) : KC 49 [hP, .dat (sb nm)] (hH 2 ds tl) 3 (XQ ⟨.tup [.dat (jm (aL ds nm)).enc, bv (fY (aL ds nm))], hH 2 ds tl, 3⟩) := by
 cases h : fg ds nm with
 | none =>
  rw [oW h]
  exact Q6 (JO h)
 | some k =>
  obtain ⟨d, hd, hf, _⟩ := jU h
  rw [hf]
  have hk : k < ds.length := by
   rcases Nat.lt_or_ge k ds.length with h | h
   ·exact h
   rw [List.getElem?_eq_none h] at hd; simp at hd
  have h3 := D5 (r := 2) (tl := tl) hd
  obtain ⟨a, b, ⟨e, f, g, i⟩, j, l⟩ := d
  exact N5 (JM h) (we hk) h3
theorem aB.nF {g : FuncId} {args : List ae} {heap : Heap} {next : Nat} {Q Q' : ae -> Heap -> Nat -> Prop} (h : KC g args heap next Q) (hq : ∀ v h m, Q v h m -> ∃ h2, h.Perm h2 /\ Q' v h2 m) : KC g args heap next Q' := by
 intro w R N cargs bsA bsH bsF ha hh hnd hnx hg hF
 refine (h w R N cargs bsA bsH bsF ha hh hnd hnx hg hF).mono ?_
 rintro e w' ⟨v, cv, h1, next', R', N', bsV, bsH', rfl, hq1, hv, hh', hnd', hnx', hk, hN⟩
 obtain ⟨h2, hp, hq2⟩ := hq _ _ _ hq1
 obtain ⟨bs2, k1, k2⟩ := hh'.perm hp
 refine ⟨v, cv, h2, next', R', N', bsV, bs2, rfl, hq2, hv, k1, ?_, hnx', hk, hN⟩
 exact (List.Perm.nodup_iff (List.Perm.append_left _ (List.Perm.append_right _ k2))).1 hnd'
def Pn (r o : Nat) : Nat := match Nat.beq o 2 with | true => r | false => o
abbrev dE (g : FuncId) (args : List ae) (cs : List aq) (es : List (Go.Value × aq)) (n : Nat) (v : ae) : Prop := KC g args (hG 2 (av cs) es n) 3 (XQ ⟨v, hG 2 (av cs) es n, 3⟩)
/-- What only reads serves under another name of the row, beside other objects. -/
theorem oQ {g : FuncId} {args : List ae} {v : ae} {cs : List aq} {es : List (Go.Value × aq)} {n r m : Nat} (ha : dX 3 args = false) (he : iL (Pn r) args = args) (hv : fS (kP (Pn r) 3 m) v = v) (pre : Heap) (h : dE g args cs es n v) :
  KC g args (pre ++ hG r (av cs) es n) m (XQ ⟨v, pre ++ hG r (av cs) es n, m⟩) := by
 have e1 : ∀ ρ : Nat -> Nat, ρ 0 = 0 -> ρ 1 = 1 -> ρ 2 = r -> pz ρ (hG 2 (av cs) es n) = hG r (av cs) es n := by
  intro ρ h0 h1 h2
  simp [hG, pz, re, Af, qf, iL, fS, h0, h1, h2]
 have hf := aB.frame h (Pn r) (heap := pre ++ hG r (av cs) es n) (rest := pre) (next := m) (by rw [e1 _ rfl rfl rfl]; exact List.perm_append_comm) (by rfl) (by simp [cT, hG, pA, kM, dX, dL]; exact ⟨rfl, rfl⟩) (by rfl) ha
 rw [he] at hf
 refine aB.nF hf ?_
 rintro v' h' m' ⟨v0, h1, n1, ⟨rfl, rfl, rfl⟩, rfl, rfl, rfl⟩
 rw [hv, e1 _ rfl rfl rfl]
 exact ⟨_, List.perm_append_comm, rfl, rfl, rfl⟩
theorem UL (r m : Nat) (pre : Heap) (ds : List aU) (tl : List aq) (nm : List UInt8) : KC 49 [hP, .dat (sb nm)] (pre ++ hH r ds tl) m (XQ ⟨.tup [.dat (jm (aL ds nm)).enc, bv (fY (aL ds nm))], pre ++ hH r ds tl, m⟩) :=
 oQ rfl rfl rfl pre (pv ds tl nm)
theorem Tv (v : ae) (cs : List aq) (es : List (Go.Value × aq)) (n : Nat) (hv : dL 3 v = false) : rT 3 ⟨v, hG 2 (av cs) es n, 3⟩ = ⟨v, hG 2 (av cs) es n, 3⟩ := XL hv rfl rfl
theorem Cp {cs : List aq} {es : List (Go.Value × aq)} {n : Nat} {nm : List UInt8} {k ix : Int} {l : List aq} {nm1 nm2 : List UInt8} {ar k1 ix1 : Int} {con c : Bool} {la lb : List aq}
  (hf : dE 49 [hP, .dat (sb nm)] cs es n (.tup [.dat (eC nm1 ar k1 nm2 ix1 la con lb), bv true])) (hc : aZ ar (Int.ofNat l.length) = c) :
  dE 59 [hP, .dat (.agg [i64 k, sb nm, i64 ix, sl l])] cs es n (bv c) := by
 have hg := fun b => Tv (bv b) cs es n rfl
 have hg1 := hg true
 have hg2 := hg false
 rcases l with _ | ⟨z, l⟩ <;>
 ·rcases la with _ | ⟨x, la⟩ <;>
  ·rcases lb with _ | ⟨y, lb⟩ <;>
   ·refine co [21] [] (x := .of Tryz.f59 HS Gi) ?_; refine oh hf ?_; refine ob hc ?_
    cases c
    ·exact br (by kernel_rfl) hg2
    exact br (by kernel_rfl) hg1
theorem EM {cs : List aq} {es : List (Go.Value × aq)} {n : Nat} {nm : List UInt8} {k ix : Int} {l : List aq}
  (hf : dE 49 [hP, .dat (sb nm)] cs es n (.tup [.dat aU.zero.enc, bv false])) :
  dE 59 [hP, .dat (.agg [i64 k, sb nm, i64 ix, sl l])] cs es n (bv false) := by
 have hg := Tv (bv false) cs es n rfl
 rcases l with _ | ⟨z, l⟩ <;>
 ·refine co [] [] (x := .of Tryz.f59 HS Gi) ?_; refine oh hf ?_
  exact br (by kernel_rfl) hg
/-! ### A search below a closure that reads the hierarchy -/
def box : Name × aN := (.out 3, .cells [hP])
def hB (cs : List aq) (es : List (Go.Value × aq)) (n : Nat) : Heap := box :: hG 2 (av cs) es n
def bP : ae := .ptr (.out 3) 0
theorem X9 (v : ae) (cs : List aq) (es : List (Go.Value × aq)) (n : Nat) (hv : dL 4 v = false) : rT 4 ⟨v, hB cs es n, 4⟩ = ⟨v, hB cs es n, 4⟩ := by
 have h1 : eM 4 (hB cs es n) = hB cs es n := rfl
 have h2 : cT 4 (hB cs es n) = false := by simp [cT, hB, hG, pA, kM, dX, dL, box, hP]; exact ⟨rfl, rfl, rfl⟩
 unfold rT
 dsimp only
 rw [h1, h2, hv]
 rfl
theorem Yc (v : ae) (cs : List aq) (es : List (Go.Value × aq)) (n : Nat) (hv : dL 3 v = false) : rT 3 ⟨v, hB cs es n, 4⟩ = ⟨v, hG 2 (av cs) es n, 3⟩ := by
 have h1 : eM 3 (hB cs es n) = hG 2 (av cs) es n := rfl
 have h2 : cT 3 (hG 2 (av cs) es n) = false := by simp [cT, hG, pA, kM, dX, dL]; exact ⟨rfl, rfl⟩
 unfold rT
 dsimp only
 rw [h1, h2, hv]
 rfl
abbrev CK (g : FuncId) (args : List ae) (cs : List aq) (es : List (Go.Value × aq)) (n : Nat) (v : ae) : Prop := KC g args (hB cs es n) 4 (XQ ⟨v, hB cs es n, 4⟩)
theorem JR {cs : List aq} {es : List (Go.Value × aq)} {n : Nat} {k ix : Int} {nm : List UInt8} {l : List aq} {c : Bool} (h : CK 39 [hP, .dat (.agg [i64 k, sb nm, i64 ix, sl l])] cs es n (bv c)) :
  CK 70 [.dat (.agg [i64 k, sb nm, i64 ix, sl l]), bP] cs es n (bv (!c)) := by
 have hg := X9 (bv (!c)) cs es n rfl
 rcases l with _ | ⟨z, l⟩ <;>
 ·refine co [] [] (x := .of Tryz.f70 Mr Np) ?_; refine oh h ?_
  exact br (by kernel_rfl) hg
theorem dx {α : Type} {l : List α} {i : Nat} {t : α} (h : l[i]? = some t) : l.drop i = t :: l.drop (i + 1) := by
 obtain ⟨hi, rfl⟩ := List.getElem?_eq_some_iff.1 h
 exact List.drop_eq_getElem_cons hi
def sO {α : Type} (p : α -> Bool) : List α -> Nat -> Int
 | [], _ => -1
 | x :: r, i => match p x with | true => Int.ofNat i | false => sO p r (i + 1)
theorem B5 {α : Type} {p : α -> Bool} : ∀ {l : List α} {i : Nat}, bm (sO p l i) 0 = !(l.any p)
 | [], _ => rfl
 | x :: r, i => by
  simp only [sO, List.any_cons]
  cases p x with
  | true => exact bR (i := i) (L := 0) (by omega)
  | false => rw [B5, Bool.false_or]
theorem yd {α : Type} {p : α -> Bool} {l : List α} {i : Nat} {t : α} (h : l[i]? = some t) : sO p (l.drop i) i = match p t with | true => Int.ofNat i | false => sO p (l.drop (i + 1)) (i + 1) := by rw [dx h]; rfl
noncomputable def QQ : Hints := ⟨au, uI, ax, rowsOf ax 99⟩
def Q3 : ae := .fn (.func 70) [] [bP]
def VF (H : Heap) (nx : Nat) (l : List aq) (i : Int) : ac := ⟨[(8, iv i), (7, iv (Int.ofNat l.length)), (0, .dat (.slice l)), (1, Q3)], [], H, nx⟩
def VD (H : Heap) (nx : Nat) (l : List aq) : ac := ⟨[(9, bv false), (8, iv (Int.ofNat l.length)), (7, iv (Int.ofNat l.length)), (0, .dat (.slice l)), (1, Q3)], [], H, nx⟩
def VE (H : Heap) (nx : Nat) (i : Nat) : ac := ⟨[(4, iv (Int.ofNat i))], [], H, nx⟩
def SO (H : Heap) (nx : Nat) : ac := ⟨[(8, iv 0), (7, iv 0), (0, .dat nl), (1, Q3)], [], H, nx⟩
def RR (H : Heap) (nx : Nat) : ac := ⟨[(9, bv false), (8, iv 0), (7, iv 0), (0, .dat nl), (1, Q3)], [], H, nx⟩
theorem Ed {l : List Ty} {t : Ty} {H : Heap} {nx i : Nat} {c : Bool} {T : Exit -> aa -> Prop} (hi : i < (ap l).length) (ht : l[i]? = some t) (hc : KC 70 [.dat t.enc, bP] H nx (XQ ⟨bv c, H, nx⟩))
  (e1 : c = false -> T .normal ((VF H nx (ap l) (aI .i64 (Int.ofNat i + 1))).aw Tryz.f99.ntmps)) (e2 : c = true -> T .ret ((VE H nx i).aw Tryz.f99.ntmps)) :
  KD (roundOf Tryz.f99 0) T ((VF H nx (ap l) (Int.ofNat i)).aw Tryz.f99.ntmps) := by
 have h1 := bH hi
 have h2 := jX ht
 generalize ap l = es at *
 clear ht hi
 obtain ⟨k2, nm2, ix2, a2⟩ := t
 rcases a2 with _ | ⟨b, d⟩ <;>
 ·cases c
  ·refine aC [9] [14] (H := QQ) (live := iu) (by kernel_rfl) ?_; refine ob h1 ?_; refine oo h2 ?_; refine oh hc ?_; exact oe (e1 rfl)
  refine aC [9] [14] (H := QQ) (live := iu) (by kernel_rfl) ?_; refine ob h1 ?_; refine oo h2 ?_; refine oh hc ?_; exact oe (e2 rfl)
theorem JX {l : List aq} {H : Heap} {nx : Nat} {T : Exit -> aa -> Prop} (e1 : T (.exit 0) ((VD H nx l).aw Tryz.f99.ntmps)) :
  KD (roundOf Tryz.f99 0) T ((VF H nx l (Int.ofNat l.length)).aw Tryz.f99.ntmps) := by
 have h1 := bR (i := l.length) (L := l.length) (by omega)
 refine aC [9] [] (H := QQ) (live := iu) (by kernel_rfl) ?_; refine ob h1 ?_; exact oe e1
theorem GF {H : Heap} {nx : Nat} {T : Exit -> aa -> Prop} (e1 : T (.exit 0) ((RR H nx).aw Tryz.f99.ntmps)) :
  KD (roundOf Tryz.f99 0) T ((SO H nx).aw Tryz.f99.ntmps) := by
 refine aC [] [] (H := QQ) (live := iu) (by kernel_rfl) ?_; exact oe e1
theorem GH {l : List Ty} {p : Ty -> Bool} {H : Heap} {nx : Nat} {x : aq} {r : List aq} (hl0 : ap l = x :: r) (hg : ∀ v, dL nx v = false -> rT nx ⟨v, H, nx⟩ = ⟨v, H, nx⟩) (hp : ∀ t ∈ l, KC 70 [.dat t.enc, bP] H nx (XQ ⟨bv (p t), H, nx⟩)) (hb : l.length < 1000000000) :
  KC 99 [.dat (.slice (x :: r)), Q3] H nx (XQ ⟨iv (sO p l 0), H, nx⟩) := by
 have hl : KD (.loop (roundOf Tryz.f99 0)) (fun e s => (e = .exit 0 /\ sO p l 0 = -1 /\ s = (VD H nx (x :: r)).aw Tryz.f99.ntmps) ∨ (e = .ret /\ ∃ i : Nat, sO p l 0 = Int.ofNat i /\ s = (VE H nx i).aw Tryz.f99.ntmps)) ((VF H nx (x :: r) (Int.ofNat 0)).aw Tryz.f99.ntmps) := by
  rw [← hl0]
  refine cj (St := fun i => (VF H nx (ap l) (Int.ofNat i)).aw Tryz.f99.ntmps) (fun i => sO p l 0 = sO p (l.drop i) i) (ap l).length ?_ ?_ (i := 0) (Nat.zero_le _) rfl
  ·intro i hi hI
   obtain ⟨t, ht, hm⟩ := get_mem hi
   have ha := yd (p := p) ht
   have hw : aI .i64 (Int.ofNat i + 1) = Int.ofNat (i + 1) := bn (by rw [aE] at hi; omega)
   have hc := hp t hm
   rw [← hI] at ha
   generalize p t = c at hc ha
   refine Ed hi ht hc ?_ ?_
   ·rintro rfl
    rw [hw]
    exact ⟨rfl, ha⟩
   rintro rfl
   exact .inr ⟨rfl, i, ha, rfl⟩
  intro hI
  refine JX (.inl ⟨rfl, ?_, rfl⟩)
  rw [hI, aE, List.drop_length]
  rfl
 have hg1 := hg (iv (sO p l 0)) rfl
 clear hp hb hg
 generalize hj : sO p l 0 = j at hg1 hl
 clear hj hl0
 refine co [] [] (x := .of Tryz.f99 uI iu) ?_; refine lo hl ?_
 rintro ex s (⟨rfl, rfl, rfl⟩ | ⟨rfl, ⟨x0, rfl, rfl⟩⟩) <;>
 ·refine ⟨_, rfl, ?_⟩
  exact br (by kernel_rfl) hg1
theorem UR {l : List Ty} {p : Ty -> Bool} {H : Heap} {nx : Nat} (hg : ∀ v, dL nx v = false -> rT nx ⟨v, H, nx⟩ = ⟨v, H, nx⟩) (hp : ∀ t ∈ l, KC 70 [.dat t.enc, bP] H nx (XQ ⟨bv (p t), H, nx⟩)) (hb : l.length < 1000000000) :
  KC 69 [.dat (sl (ap l)), Q3] H nx (XQ ⟨bv (l.any p), H, nx⟩) := by
 cases l with
 | nil =>
  have h0 : KC 99 [.dat nl, Q3] H nx (XQ ⟨iv (-1), H, nx⟩) := by
   have hg1 := hg (iv (-1)) rfl
   have hl : KD (.loop (roundOf Tryz.f99 0)) (fun e s => (e = .exit 0 /\ s = (RR H nx).aw Tryz.f99.ntmps)) ((SO H nx).aw Tryz.f99.ntmps) := by
    refine bu (St := fun _ => (SO H nx).aw Tryz.f99.ntmps) 0 (fun i hi => absurd hi (Nat.not_lt_zero i)) ?_ (i := 0) (Nat.le_refl _)
    exact GF ⟨rfl, rfl⟩
   clear hg hp hb
   refine co [] [] (x := .of Tryz.f99 uI iu) ?_; refine lo hl ?_; rintro ex s ⟨rfl, rfl⟩; refine ⟨_, rfl, ?_⟩
   exact br (by kernel_rfl) hg1
  have hg1 := hg (bv false) rfl
  clear hg hp hb
  refine co [] [] (x := .of Tryz.f69 At xX) ?_; refine oh h0 ?_
  exact br (by kernel_rfl) hg1
 | cons t r =>
  have h := GH (l := t :: r) (x := t.enc) (r := ap r) rfl hg hp hb
  have h3 := B5 (p := p) (l := t :: r) (i := 0)
  have hg1 := hg (bv (!(!((t :: r).any p)))) rfl
  generalize (t :: r).any p = c at h3 hg1
  have hg2 : rT nx ⟨bv (!(!c)), H, nx⟩ = ⟨bv c, H, nx⟩ := by rw [hg1, Bool.not_not]
  clear hg1
  generalize sO p (t :: r) 0 = j at h3 h
  show KC 69 [.dat (.slice (t.enc :: ap r)), Q3] H nx _
  generalize t.enc = x at h
  generalize ap r = xs at h
  clear hp hb hg
  refine co [8] [] (x := .of Tryz.f69 At xX) ?_; refine oh h ?_; refine ox h3 ?_
  exact br (by kernel_rfl) hg2
theorem NF {cs : List aq} {es : List (Go.Value × aq)} {n : Nat} {k ix : Int} {nm : List UInt8} {l : List aq} {c kn d : Bool} (hk : aZ k 2 = kn) (hd : dE 59 [hP, .dat (.agg [i64 k, sb nm, i64 ix, sl l])] cs es n (bv d))
  (h : CK 69 [.dat (sl l), Q3] cs es n (bv c)) :
  dE 39 [hP, .dat (.agg [i64 k, sb nm, i64 ix, sl l])] cs es n (bv (!(kn && !d) && !c)) := by
 have hg1 := Yc (bv (!c)) cs es n rfl
 have hg3 := Tv (bv false) cs es n rfl
 rcases l with _ | ⟨z, l⟩
 ·refine co [7] [] (x := .of Tryz.f39 HZ Gn) ?_; refine ob hk ?_
  cases kn
  ·refine oh h ?_
   exact br (by kernel_rfl) hg1
  refine oh hd ?_
  cases d
  ·exact br (by kernel_rfl) hg3
  refine oh h ?_
  exact br (by kernel_rfl) hg1
 refine co [7] [] (x := .of Tryz.f39 HZ Gn) ?_; refine ob hk ?_
 cases kn
 ·refine oh h ?_
  exact br (by kernel_rfl) hg1
 refine oh hd ?_
 cases d
 ·exact br (by kernel_rfl) hg3
 refine oh h ?_
 exact br (by kernel_rfl) hg1
/-! ### The contracts -/
def fU (ds : List aU) (t : Ty) : Bool := match t with | .mk _ nm _ l => (match aL ds nm with | some d => aZ d.ar (Int.ofNat (ap l).length) | none => false)
mutual
def ct (ds : List aU) : Ty -> Bool
 | .mk k nm ix l => !(aZ k 2 && !fU ds (.mk k nm ix l)) && !ji ds l
def ji (ds : List aU) : List Ty -> Bool
 | [] => false
 | t :: r => !ct ds t || ji ds r
end
theorem xQ (ds : List aU) : ∀ l : List Ty, ji ds l = l.any (fun t => !ct ds t)
 | [] => by simp [ji]
 | t :: r => by simp [ji, xQ ds r]
abbrev qN (g : FuncId) (args : List ae) (ds : List aU) (tl : List aq) (v : ae) : Prop := dE g args (cZ ds ++ tl) (cL ds 0) ds.length v
theorem qH (ds : List aU) (tl : List aq) (t : Ty) : qN 59 [hP, .dat t.enc] ds tl (bv (fU ds t)) := by
 obtain ⟨k, nm, ix, l⟩ := t
 have h := pv ds tl nm
 have e : fU ds (.mk k nm ix l) = (match aL ds nm with | some d => aZ d.ar (Int.ofNat (ap l).length) | none => false) := rfl
 rw [e]
 clear e
 cases hf : aL ds nm with
 | none => rw [hf] at h; exact EM h
 | some d =>
  rw [hf] at h
  obtain ⟨a, b, ⟨k2, nm2, ix2, l2⟩, j, fl⟩ := d
  exact Cp h rfl
mutual
theorem Cz (ds : List aU) (tl : List aq) : ∀ t : Ty, t.size < 1000000000 -> qN 39 [hP, .dat t.enc] ds tl (bv (ct ds t))
 | .mk k nm ix l, hs => by
  have hsl : aS l < 1000000000 := by simp only [Ty.size] at hs; omega
  have hlen := ew l
  have ih := EU ds tl l hsl
  have h1 : ∀ t ∈ l, CK 70 [.dat t.enc, bP] (cZ ds ++ tl) (cL ds 0) ds.length (bv (!ct ds t)) := by
   intro t ht
   have h2 := oQ (r := 2) (m := 4) rfl rfl rfl [box] (ih t ht)
   obtain ⟨k2, nm2, ix2, l2⟩ := t
   exact JR h2
  have h3 := UR (p := fun t => !ct ds t) (fun v hv => X9 v _ _ _ hv) h1 (by omega)
  rw [← xQ] at h3
  have h4 := NF rfl (qH ds tl (.mk k nm ix l)) h3
  rw [ct]
  exact h4
theorem EU (ds : List aU) (tl : List aq) : ∀ l : List Ty, aS l < 1000000000 -> ∀ t ∈ l, qN 39 [hP, .dat t.enc] ds tl (bv (ct ds t))
 | [], _, t, ht => by simp at ht
 | x :: r, h, t, ht => by
  simp only [aS] at h
  rcases List.mem_cons.1 ht with h1 | ht
  ·rw [h1]; exact Cz ds tl x (by omega)
  exact EU ds tl r (by omega) t ht
end
noncomputable def Vs : TI := match Go.Tp.elemOf (env ay.aT) 33 with | some t => t | none => default
theorem K1 : Go.Tp.elemOf (env ay.aT) 33 = some Vs := by kernel_rfl
theorem wE : Vs.size = 5 := by kernel_rfl
theorem ov : ∀ l : List ep, aR l = l.map ep.enc
 | [] => by simp [aR]
 | t :: r => by simp [aR, ov r]
theorem bw (l : List ep) : (aR l).length = l.length := by simp [ov]
theorem Oh {l : List ep} {i : Nat} {t : ep} (h : l[i]? = some t) : (aR l)[i]? = some t.enc := by simp [ov, h]
theorem N6 (f : ep) : f.enc.cells.length = 5 := by obtain ⟨a, ⟨b, c, d, e⟩⟩ := f; rfl
theorem yg {l : List ep} {i : Nat} {t : ep} (h : l[i]? = some t) : aK (env ay.aT) 33 [.dat (.slice (aR l)), .dat (.flat (.int .i64 (Int.ofNat i)))] = some ⟨.ref t.cells, .keep⟩ :=
 sC K1 rfl (Oh h) (by rw [wE]; exact N6 t) (by rw [wE]; decide)
theorem jY {l : List ep} {i : Nat} (h : i < (aR l).length) : ∃ t, l[i]? = some t /\ t ∈ l := by
 rw [bw] at h
 exact ⟨l[i], List.getElem?_eq_getElem h, List.getElem_mem h⟩
def FM : List ep -> ae
 | [] => .dat nl
 | t :: r => .own (aR (t :: r))
theorem Og {l : List ep} {d : aq} (h : d ∈ aR l) : ∃ t, d = ep.enc t := by
 rw [ov] at h
 obtain ⟨t, _, rfl⟩ := List.mem_map.1 h
 exact ⟨t, rfl⟩
theorem EH (a b : List ep) : aR (a ++ b) = aR a ++ aR b := by simp [ov]
theorem yD (l : List ep) : sizedB 5 (aR l) = true := jI (fun d hd => by obtain ⟨t, rfl⟩ := Og hd; exact N6 t)
theorem G2 (l : List ep) : ff (aR l) = false := by
 cases l with
 | nil => rfl
 | cons t r => rfl
theorem XV {pre : List ep} {t : ep} (hl : pre.length < 1000000000) : dc (env ay.aT) false 33 [.own (aR pre), .dat (.slice [t.enc])] none = some ⟨.own (aR (pre ++ [t])), .keep⟩ := by
 rw [EH]
 refine sE (i := Vs) (ds := [t.enc]) (k := 4) K1 rfl wE ?_ ?_ (by kernel_rfl) ?_ ?_ ?_ (by simp)
 ·exact yD [t]
 ·exact yD pre
 ·have h1 : Vs.bytes <= 1000 := fW (by kernel_rfl)
  rw [bw]
  calc (pre.length + 1) * Vs.bytes <= 1000000000 * 1000 := Nat.mul_le_mul (by omega) h1
   _ <= 140737488355328 := by decide
 ·rw [bw]; simp [jy]; omega
 unfold iF
 rw [show aR pre ++ [t.enc] = aR (pre ++ [t]) by rw [EH]; rfl, G2]
noncomputable def IG : Hints := ⟨au, HV, ax, rowsOf ax 53⟩
def Gh (nm : List UInt8) (ar k : Int) (nm2 : List UInt8) (ix : Int) (a : ae) (con : Bool) (b : ae) : Heap := [(.loc 3, .cells [.dat (sb nm), iv ar, iv k, .dat (sb nm2), iv ix, a, .dat (bl con), b]), (.loc 2, .cells [.dat (sb []), iv 0, iv 0, .dat (sb []), iv 0, .dat nl, .dat (bl false), .dat nl])]
def Lu (lo : Heap) (a : aq) (n : Nat) (i : Int) : ac := ⟨[(15, iv i), (14, iv (Int.ofNat n)), (13, .dat a), (3, .ptr (.loc 3) 0), (2, .ptr (.loc 2) 0)], lo, [], 0⟩
def RZ (lo : Heap) (a : aq) (n : Nat) (i : Int) : ac := ⟨[(16, bv false), (15, iv i), (14, iv (Int.ofNat n)), (13, .dat a), (3, .ptr (.loc 3) 0), (2, .ptr (.loc 2) 0)], lo, [], 0⟩
theorem OO {nm : List UInt8} {ar k : Int} {nm2 : List UInt8} {ix : Int} {la : List aq} {con : Bool} {l pre : List ep} {i : Nat} {t : ep} (hi : i < (aR l).length) (ht : l[i]? = some t) (hc : ag 58 [.dat t.ty.enc] (.dat t.ty.enc)) (hp : pre.length < 1000000000) {T : Exit -> aa -> Prop}
  (e : T .normal ((Lu (Gh nm ar k nm2 ix (.dat (sl la)) con (FM (pre ++ [t]))) (.slice (aR l)) (aR l).length (aI .i64 (Int.ofNat i + 1))).aw Tryz.f53.ntmps)) :
  KD (roundOf Tryz.f53 0) T ((Lu (Gh nm ar k nm2 ix (.dat (sl la)) con (FM pre)) (.slice (aR l)) (aR l).length (Int.ofNat i)).aw Tryz.f53.ntmps) := by
 have h1 := bH hi
 have h2 := yg ht
 have h3 := XV (t := t) hp
 clear ht hi hp
 obtain ⟨fn, k2, fnm, fix, fl⟩ := t
 generalize aR l = es at *
 rcases pre with _ | ⟨d, r⟩ <;>
 ·rcases la with _ | ⟨x, la⟩ <;>
  ·rcases fl with _ | ⟨y, fl⟩ <;>
   ·refine aC [16] [17, 28] (H := IG) (live := BV) (by kernel_rfl) ?_; refine ob h1 ?_; refine oo h2 ?_; refine on hc ?_; refine oo h3 ?_; exact oe e
theorem Ro {nm : List UInt8} {ar k : Int} {nm2 : List UInt8} {ix : Int} {la : List aq} {con : Bool} {pre : List ep} {a : aq} {n : Nat} {T : Exit -> aa -> Prop}
  (e : T (.exit 0) ((RZ (Gh nm ar k nm2 ix (.dat (sl la)) con (FM pre)) a n (Int.ofNat n)).aw Tryz.f53.ntmps)) :
  KD (roundOf Tryz.f53 0) T ((Lu (Gh nm ar k nm2 ix (.dat (sl la)) con (FM pre)) a n (Int.ofNat n)).aw Tryz.f53.ntmps) := by
 have h1 := bR (i := n) (L := n) (by omega)
 rcases pre with _ | ⟨d, r⟩ <;>
 ·refine aC [16] [] (H := IG) (live := BV) (by kernel_rfl) ?_; refine ob h1 ?_; exact oe e
theorem Rn {nm : List UInt8} {ar k : Int} {nm2 : List UInt8} {ix : Int} {la : List aq} {con : Bool} {l : List ep} {a : aq} (ha : a = sl (aR l)) (ih : ∀ t ∈ l, ag 58 [.dat t.ty.enc] (.dat t.ty.enc)) (hb : l.length < 1000000000) :
  KD (.loop (roundOf Tryz.f53 0)) (fun e s => e = .exit 0 /\ s = (RZ (Gh nm ar k nm2 ix (.dat (sl la)) con (FM l)) a (aR l).length (Int.ofNat (aR l).length)).aw Tryz.f53.ntmps)
   ((Lu (Gh nm ar k nm2 ix (.dat (sl la)) con (FM [])) a (aR l).length (Int.ofNat 0)).aw Tryz.f53.ntmps) := by
 refine bu (St := fun i => (Lu (Gh nm ar k nm2 ix (.dat (sl la)) con (FM (l.take i))) a (aR l).length (Int.ofNat i)).aw Tryz.f53.ntmps) (aR l).length ?_ ?_ (i := 0) (Nat.zero_le _)
 ·intro i hi
  obtain ⟨t, ht, hm⟩ := jY hi
  have ha2 : a = .slice (aR l) := by
   rw [ha]
   cases l with
   | nil => simp at ht
   | cons x r => rfl
  subst ha2
  refine OO hi ht (ih t hm) (by rw [List.length_take]; omega) ?_
  rw [bw] at hi
  rw [bn (by omega), ← eS ht]
  rfl
 refine Ro ⟨rfl, ?_⟩
 rw [bw, List.take_length]
theorem UK {nm : List UInt8} {ar k ix : Int} {nm2 : List UInt8} {la : List aq} {con : Bool} {l : List ep} (hs : ag 58 [.dat (.agg [i64 k, sb nm2, i64 ix, sl la])] (.dat (.agg [i64 k, sb nm2, i64 ix, sl la])))
  (ih : ∀ t ∈ l, ag 58 [.dat t.ty.enc] (.dat t.ty.enc)) (hb : l.length < 1000000000) :
  ag 53 [.dat (eC nm ar k nm2 ix la con (aR l))] (.dat (eC nm ar k nm2 ix la con (aR l))) := by
 have hl := Rn (nm := nm) (ar := ar) (k := k) (nm2 := nm2) (ix := ix) (la := la) (con := con) (l := l) rfl ih hb
 clear ih hb
 rcases l with _ | ⟨f, l⟩ <;>
 ·rcases la with _ | ⟨x, la⟩ <;>
  ·refine co [] [] (x := .of Tryz.f53 HV BV) ?_; refine on hs ?_; refine lo hl ?_; rintro ex s ⟨rfl, rfl⟩; refine ⟨_, rfl, ?_⟩; exact fi
/-- Bounds under which a term can be reckoned with. -/
def Ty.cE (t : Ty) : Prop := t.size < 100000000 /\ t.dD
def aU.cE (d : aU) : Prop := d.sup.cE /\ (∀ f ∈ d.fl, f.ty.cE) /\ d.fl.length < 1000000000
theorem EZ {t : Ty} (h : t.cE) : ag 58 [.dat t.enc] (.dat t.enc) := EY (by have := h.1; omega) h.2 (by have := h.1; have := iD t; omega)
theorem vk {d : aU} (h : d.cE) : ag 53 [.dat d.enc] (.dat d.enc) := by
 obtain ⟨h1, h2, h3⟩ := h
 obtain ⟨a, b, ⟨k2, nm2, ix2, l2⟩, j, fl⟩ := d
 exact UK (EZ h1) (fun t ht => EZ (h2 t ht)) h3
theorem XR {nm nm2 : List UInt8} {t u : Ty} {c d : Bool} (h1 : dt nm nm2 = c) (h : ag 91 [.dat t.enc, .dat u.enc] (bv d)) :
  ag 90 [.dat (ep.enc ⟨nm, t⟩), .dat (ep.enc ⟨nm2, u⟩)] (bv (c && d)) := by
 obtain ⟨k, tn, ix, l⟩ := t
 obtain ⟨k2, tn2, ix2, l2⟩ := u
 rcases l with _ | ⟨x, l⟩ <;>
 ·rcases l2 with _ | ⟨x2, l2⟩ <;>
  ·refine co [9] [] (x := .of Tryz.f90 Mj Nh) ?_; refine ob h1 ?_
   cases c
   ·exact fi
   refine on h ?_; exact fi
def Xd : ae := .fn (.func 90) [] []
noncomputable def Tt : Hints := ⟨au, uJ, ax, rowsOf ax 92⟩
def U1 (a b : aq) (n : Nat) (i : Int) : ac := ⟨[(17, iv i), (16, iv (Int.ofNat n)), (15, .dat a), (1, .dat b), (2, Xd)], [], [], 0⟩
def SQ (a b : aq) (n : Nat) (i : Int) : ac := ⟨[(18, bv false), (17, iv i), (16, iv (Int.ofNat n)), (15, .dat a), (1, .dat b), (2, Xd)], [], [], 0⟩
def SR (c : Bool) : ac := ⟨[(6, bv c)], [], [], 0⟩
def ep.eq (f g : ep) : Bool := dt f.nm g.nm && J8 f.ty g.ty
def qD : List ep -> List ep -> Bool
 | f :: r, g :: s => f.eq g && qD r s
 | _, _ => true
theorem Om {l l2 : List ep} {t u : ep} {i : Nat} {c : Bool} {T : Exit -> aa -> Prop} (hi : i < (aR l).length) (ht : l[i]? = some t) (hu : l2[i]? = some u) (hc : ag 90 [.dat t.enc, .dat u.enc] (bv c))
  (e1 : c = true -> T .normal ((U1 (.slice (aR l)) (.slice (aR l2)) (aR l).length (aI .i64 (Int.ofNat i + 1))).aw Tryz.f92.ntmps)) (e2 : c = false -> T .ret ((SR false).aw Tryz.f92.ntmps)) :
  KD (roundOf Tryz.f92 0) T ((U1 (.slice (aR l)) (.slice (aR l2)) (aR l).length (Int.ofNat i)).aw Tryz.f92.ntmps) := by
 have h1 := bH hi
 have h2 := yg ht
 have h3 := yg hu
 generalize aR l = es at *
 generalize aR l2 = es2 at *
 clear ht hi hu
 obtain ⟨nm, k, tn, ix, a⟩ := t
 obtain ⟨nm2, k2, tn2, ix2, b⟩ := u
 rcases a with _ | ⟨x, a⟩ <;>
 ·rcases b with _ | ⟨y, b⟩ <;>
  ·cases c
   ·refine aC [18] [20, 24] (H := Tt) (live := mu) (by kernel_rfl) ?_; refine ob h1 ?_; refine oo h2 ?_; refine oo h3 ?_; refine on hc ?_; exact oe (e2 rfl)
   refine aC [18] [20, 24] (H := Tt) (live := mu) (by kernel_rfl) ?_; refine ob h1 ?_; refine oo h2 ?_; refine oo h3 ?_; refine on hc ?_; exact oe (e1 rfl)
theorem Rc {a b : aq} {n : Nat} {T : Exit -> aa -> Prop} (e : T (.exit 0) ((SQ a b n (Int.ofNat n)).aw Tryz.f92.ntmps)) :
  KD (roundOf Tryz.f92 0) T ((U1 a b n (Int.ofNat n)).aw Tryz.f92.ntmps) := by
 have h1 := bR (i := n) (L := n) (by omega)
 refine aC [18] [] (H := Tt) (live := mu) (by kernel_rfl) ?_; refine ob h1 ?_; exact oe e
theorem AP {l l2 : List ep} {i : Nat} {t u : ep} (ht : l[i]? = some t) (hu : l2[i]? = some u) : qD (l.drop i) (l2.drop i) = (t.eq u && qD (l.drop (i + 1)) (l2.drop (i + 1))) := by rw [dx ht, dx hu]; rfl
theorem Rb {l l2 : List ep} {a b : aq} (ha : a = sl (aR l)) (hb : b = sl (aR l2)) (hlen : l.length = l2.length) (hn : l.length < 1000000000) (hc : ∀ t ∈ l, ∀ u ∈ l2, ag 90 [.dat t.enc, .dat u.enc] (bv (t.eq u))) :
  KD (.loop (roundOf Tryz.f92 0)) (fun e s => (e = .exit 0 /\ qD l l2 = true /\ s = (SQ a b (aR l).length (Int.ofNat (aR l).length)).aw Tryz.f92.ntmps) ∨ (e = .ret /\ qD l l2 = false /\ s = (SR false).aw Tryz.f92.ntmps)) ((U1 a b (aR l).length (Int.ofNat 0)).aw Tryz.f92.ntmps) := by
 refine cj (St := fun i => (U1 a b (aR l).length (Int.ofNat i)).aw Tryz.f92.ntmps) (fun i => qD l l2 = qD (l.drop i) (l2.drop i)) (aR l).length ?_ ?_ (i := 0) (Nat.zero_le _) rfl
 ·intro i hi hI
  obtain ⟨t, ht, hm⟩ := jY hi
  have hi2 := hi
  rw [bw] at hi2
  have hu : l2[i]? = some l2[i] := List.getElem?_eq_getElem (by omega)
  have hm2 : l2[i] ∈ l2 := List.getElem_mem _
  generalize l2[i] = u at hu hm2
  have h := hc t hm u hm2
  have hd := AP ht hu
  rw [← hI] at hd
  have hw : aI .i64 (Int.ofNat i + 1) = Int.ofNat (i + 1) := bn (by omega)
  have ha2 : a = .slice (aR l) := by
   rw [ha]
   cases l with
   | nil => simp at ht
   | cons x r => rfl
  have hb2 : b = .slice (aR l2) := by
   rw [hb]
   cases l2 with
   | nil => simp at hu
   | cons x r => rfl
  subst ha2
  subst hb2
  generalize t.eq u = c at h hd
  refine Om hi ht hu h ?_ ?_
  ·rintro rfl
   rw [hw]
   exact ⟨rfl, hd⟩
  rintro rfl
  exact .inr ⟨rfl, hd, rfl⟩
 intro hI
 refine Rc (.inl ⟨rfl, ?_, rfl⟩)
 rw [hI, bw, List.drop_length]
 cases l2.drop l.length <;> rfl
def UC (l l2 : List ep) : Bool := aZ (Int.ofNat (aR l).length) (Int.ofNat (aR l2).length) && qD l l2
theorem IL {l l2 : List ep} {c : Bool} (h : aZ (Int.ofNat (aR l).length) (Int.ofNat (aR l2).length) = c) : c = true -> l.length = l2.length := by
 rintro rfl
 rw [tO, bw, bw] at h
 simpa using h
theorem UF {a b : aq} {la lb : List aq} (ha : a = sl la) (hb : b = sl lb) {c d : Bool} (h : aZ (Int.ofNat la.length) (Int.ofNat lb.length) = c)
  (hl : c = true -> KD (.loop (roundOf Tryz.f92 0)) (fun e s => (e = .exit 0 /\ d = true /\ s = (SQ a b la.length (Int.ofNat la.length)).aw Tryz.f92.ntmps) ∨ (e = .ret /\ d = false /\ s = (SR false).aw Tryz.f92.ntmps)) ((U1 a b la.length (Int.ofNat 0)).aw Tryz.f92.ntmps)) :
  ag 92 [.dat a, .dat b, Xd] (bv (c && d)) := by
 subst ha
 subst hb
 rcases la with _ | ⟨x, la⟩
 ·rcases lb with _ | ⟨y, lb⟩
  ·cases c
   ·exact Bool.noConfusion (show true = false from h)
   have hl2 := hl rfl
   clear hl
   refine co [] [] (x := .of Tryz.f92 uJ mu) ?_; refine lo hl2 ?_
   rintro ex s (⟨rfl, rfl, rfl⟩ | ⟨rfl, rfl, rfl⟩) <;>
   ·refine ⟨_, rfl, ?_⟩; exact fi
  cases c
  ·refine co [] [] (x := .of Tryz.f92 uJ mu) ?_; exact fi
  exact Bool.noConfusion (show false = true from h)
 rcases lb with _ | ⟨y, lb⟩
 ·cases c
  ·refine co [] [] (x := .of Tryz.f92 uJ mu) ?_; exact fi
  exact Bool.noConfusion (show false = true from h)
 cases c
 ·refine co [14] [] (x := .of Tryz.f92 uJ mu) ?_; refine ox h ?_; exact fi
 have hl2 := hl rfl
 clear hl
 refine co [14] [] (x := .of Tryz.f92 uJ mu) ?_; refine ox h ?_; refine lo hl2 ?_
 rintro ex s (⟨rfl, rfl, rfl⟩ | ⟨rfl, rfl, rfl⟩) <;>
 ·refine ⟨_, rfl, ?_⟩; exact fi
def aU.eq (a b : aU) : Bool := dt a.nm b.nm && (aZ a.ar b.ar && ((a.con == b.con) && (J8 a.sup b.sup && UC a.fl b.fl)))
theorem Ra {nm nm2 : List UInt8} {ar ar2 : Int} {con con2 : Bool} {k ix k2 ix2 : Int} {tn tn2 : List UInt8} {la la2 lb lb2 : List aq} {c1 c2 c4 c5 : Bool} (h1 : dt nm nm2 = c1) (h2 : aZ ar ar2 = c2)
  (h4 : ag 91 [.dat (.agg [i64 k, sb tn, i64 ix, sl la]), .dat (.agg [i64 k2, sb tn2, i64 ix2, sl la2])] (bv c4)) (h5 : ag 92 [.dat (sl lb), .dat (sl lb2), Xd] (bv c5)) :
  ag 51 [.dat (eC nm ar k tn ix la con lb), .dat (eC nm2 ar2 k2 tn2 ix2 la2 con2 lb2)] (bv (c1 && (c2 && ((con == con2) && (c4 && c5))))) := by
 rcases la with _ | ⟨x, la⟩ <;>
 ·rcases la2 with _ | ⟨x2, la2⟩ <;>
  ·rcases lb with _ | ⟨y, lb⟩ <;>
   ·rcases lb2 with _ | ⟨y2, lb2⟩ <;>
    ·refine co [10, 16] [] (x := .of Tryz.f51 My Nw) ?_; refine ob h1 ?_
     cases c1
     ·exact fi
     refine ob h2 ?_
     cases c2
     ·exact fi
     cases con
     ·cases con2
      ·refine on h4 ?_
       cases c4
       ·exact fi
       refine on h5 ?_; exact fi
      exact fi
     cases con2
     ·exact fi
     refine on h4 ?_
     cases c4
     ·exact fi
     refine on h5 ?_; exact fi
theorem CB {a b : aU} (ha : a.cE) (hb : b.cE) : ag 51 [.dat a.enc, .dat b.enc] (bv (a.eq b)) := by
 obtain ⟨a1, a2, a3⟩ := ha
 obtain ⟨b1, b2, b3⟩ := hb
 have h4 : ag 91 [.dat a.sup.enc, .dat b.sup.enc] (bv (J8 a.sup b.sup)) := IT _ _ (by have := a1.1; omega)
 have hf : ∀ t ∈ a.fl, ∀ u ∈ b.fl, ag 90 [.dat t.enc, .dat u.enc] (bv (t.eq u)) := by
  intro t ht u hu
  exact XR rfl (IT _ _ (by have := (a2 t ht).1; omega))
 have h5 : ag 92 [.dat (sl (aR a.fl)), .dat (sl (aR b.fl)), Xd] (bv (UC a.fl b.fl)) :=
  UF rfl rfl rfl (fun h => Rb rfl rfl (IL rfl h) a3 hf)
 obtain ⟨anm, aar, ⟨k, tn, ix, la⟩, acon, afl⟩ := a
 obtain ⟨bnm, bar, ⟨k2, tn2, ix2, la2⟩, bcon, bfl⟩ := b
 exact Ra rfl rfl h4 h5
end Go.Proofs.YtiihadmgkoamoaaGreatDoor

namespace Go.Proofs
open Go.Shelf
def Tryz.JW : Go.Shelf.Ren := ⟨fun | 21 => 191 | 27 => 201 | 28 => 202 | 35 => 204 | 39 => 206 | n => n, fun | 22 => 22 | 3 => 3 | 4 => 4 | 0 => 0 | n => n, fun | n => n⟩
theorem Tryz.Sg : Go.Proofs.Lays2.n21 Tryz.prog Tryz.JW := {
 mixed := by kernel_rfl
 f21 := Tryz.func191.trans (congrArg some (by kernel_rfl))
 f27 := Tryz.func201.trans (congrArg some (by kernel_rfl))
 f28 := Tryz.func202.trans (congrArg some (by kernel_rfl))
 f35 := Tryz.func204.trans (congrArg some (by kernel_rfl))
 f39 := Tryz.func206.trans (congrArg some (by kernel_rfl))
 t0 := Tryz.underlying0
 a0 := Tryz.isAgg0
 z0 := Tryz.sizeOf0
 v0 := Tryz.zeroValue0
 t3 := Tryz.underlying3
 a3 := Tryz.isAgg3
 z3 := Tryz.sizeOf3
 v3 := Tryz.zeroValue3
 t4 := Tryz.underlying4
 a4 := Tryz.isAgg4
 z4 := Tryz.sizeOf4
 v4 := Tryz.zeroValue4
 t22 := Tryz.underlying22
 a22 := Tryz.isAgg22
 z22 := Tryz.sizeOf22
 v22 := Tryz.zeroValue22
 i3 := by kernel_rfl }
def Tryz.O0 : Go.Shelf.Ren := ⟨fun | 25 => 190 | 31 => 199 | 32 => 200 | 37 => 171 | n => n, fun | 22 => 22 | 3 => 3 | 4 => 4 | 40 => 157 | 0 => 0 | n => n, fun | n => n⟩
theorem Tryz.XT : Go.Proofs.Lays2.n25 Tryz.prog Tryz.O0 := {
 mixed := by kernel_rfl
 f25 := Tryz.func190.trans (congrArg some (by kernel_rfl))
 f31 := Tryz.func199.trans (congrArg some (by kernel_rfl))
 f32 := Tryz.func200.trans (congrArg some (by kernel_rfl))
 f37 := Tryz.func171.trans (congrArg some (by kernel_rfl))
 t0 := Tryz.underlying0
 a0 := Tryz.isAgg0
 z0 := Tryz.sizeOf0
 v0 := Tryz.zeroValue0
 t3 := Tryz.underlying3
 a3 := Tryz.isAgg3
 z3 := Tryz.sizeOf3
 v3 := Tryz.zeroValue3
 t4 := Tryz.underlying4
 a4 := Tryz.isAgg4
 z4 := Tryz.sizeOf4
 v4 := Tryz.zeroValue4
 t22 := Tryz.underlying22
 a22 := Tryz.isAgg22
 z22 := Tryz.sizeOf22
 v22 := Tryz.zeroValue22
 t40 := Tryz.underlying157
 a40 := Tryz.isAgg157
 z40 := Tryz.sizeOf157
 v40 := Tryz.zeroValue157 }
end Go.Proofs

namespace Go.Tp
open Go.Proofs Go.Shelf Go.RowKit
def wb (l : List Int) : List ae := l.map iv
def ints (l : List Int) : List Value := l.map (Value.int .i64)
section
variable {w : World} {R : Own} {N : Name -> Option Nat}
theorem pd : ∀ {l : List Int} {us : List Value} {bs : List Nat}, aj w R N (wb l) us bs -> us = ints l /\ bs = [] /\ ∀ x ∈ l, bZ (.int .i64 x) = true
 | [], us, bs, h => by obtain ⟨rfl, rfl⟩ := bb h; simp [ints]
 | x :: l, us, bs, h => by
  have h : aj w R N (iv x :: wb l) us bs := h
  obtain ⟨v, vs', b1, b2, rfl, rfl, h1, h2⟩ := aD h
  obtain ⟨rfl, rfl, h3⟩ := pd h2
  simp only [ak] at h1
  obtain ⟨rfl, h1⟩ := h1
  have h1 : eA w R v (.flat (.int .i64 x)) := h1
  cases h1 with
  | flat hf => exact ⟨rfl, rfl, by rintro y hy; rcases List.mem_cons.1 hy with rfl | hy; exact hf; exact h3 y hy⟩
theorem Gv : ∀ {l : List Int}, (∀ x ∈ l, bZ (.int .i64 x) = true) -> aj w R N (wb l) (ints l) []
 | [], _ => aV
 | x :: l, h => by
  have h1 : ak w R N (iv x) (.int .i64 x) [] := by
   simp only [ak]
   exact ⟨trivial, .flat (h x (by simp))⟩
  exact aG (b1 := []) (b2 := []) h1 (Gv (l := l) (fun y hy => h y (by simp [hy])))
theorem rO {l : List Int} : ∀ v ∈ ints l, v.oneCell' = true := by
 intro v hv
 obtain ⟨x, _, rfl⟩ := List.mem_map.1 hv
 rfl
theorem V3 {l : List Int} {j : Nat} {v : Value} (h : (ints l)[j]? = some v) : ∃ x, l[j]? = some x /\ v = .int .i64 x := by
 simp only [ints, List.getElem?_map, Option.map_eq_some_iff] at h
 obtain ⟨x, h1, h2⟩ := h
 exact ⟨x, h1, h2.symm⟩
theorem kh {b off : Nat} {vs : Array Value} {e : TypeId} {fr : Nat × Nat} (hb : w.heap[b]? = some (.cells vs e fr)) {v : Value} (h : vs.toList[off]? = some v) : w.cell? ⟨b, off, none⟩ = some v := by
 rw [Array.getElem?_toList] at h
 simp [World.cell?, hb, h]
theorem gK (b o : Nat) (e : TypeId) (news : List Value) (cur : Array Value) (hg : w.heap[b]? = some (.cells cur e (0, 0))) (hfit : o + news.length <= cur.size) (h1 : ∀ u ∈ news, u.oneCell' = true) :
  w.setCells b o news = w.setRow b (cur.toList.take o ++ news ++ cur.toList.drop (o + news.length)).toArray := by
 have hc : ∀ j, j < news.length -> (w.cell? ⟨b, o + 0 + j, none⟩).isSome = true := by
  intro j hj
  rw [kh hg (v := cur.toList[o + 0 + j]'(by simp; omega)) (by simp)]
  rfl
 have hf : ∀ j, j < news.length -> w.frozen? ⟨b, o + 0 + j, none⟩ = false := by
  intro j _
  simp [World.frozen?, hg]
 have a1 := run_storeCells_cells (P := default) b o news 0 w hc hf h1
 have a2 := run_storeCells_at default b o e news 0 cur w hg (by simpa using hfit) h1
 rw [a1] at a2
 simp only [Nat.add_zero, Result.ok.injEq] at a2
 exact a2.2
end
section
variable {P : Program} {ρ : Ren} {G : bE}
theorem nU {w : World} {R : Own} {g : Nat} {cur : Array Value} {t : TypeId} (hg : w.heap[g]? = some (.cells cur t (0, 0))) (arr : Array Value) (hsz : arr.size = cur.size) (hRv : ∀ j, j < cur.size -> R g j) (hpos : 0 < cur.size) (bs : List Nat) (hb : g ∉ bs) : bz w R (w.setRow g arr) R bs :=
 ky hg arr hsz (fun _ _ h => h) (fun _ _ _ h => h) (fun off hno => by
  rw [Array.getElem?_eq_none (by
   rcases Nat.lt_or_ge off cur.size with h' | h'
   ·exact (hno (hRv off h')).elim
   ·omega), Array.getElem?_eq_none (by
   rcases Nat.lt_or_ge off cur.size with h' | h'
   ·exact (hno (hRv off h')).elim
   omega)]) ⟨0, hRv 0 hpos⟩ bs hb
theorem tC {w w' : World} {R R' : Own} {bs : List Nat} (k : bz w.drew R w' R' bs) : bz w R w' R' bs :=
 ⟨⟨k.step.os, k.step.tape, k.step.output, k.step.size, k.step.block, k.step.cell, k.step.sizes⟩, k.same⟩
theorem Gt {w : World} {R : Own} (q : Nat) (bs : List Nat) : bz w R (w.drewN q) R bs :=
 ⟨⟨rfl, rfl, rfl, Nat.le_refl _, fun b _ h => ⟨rfl, h⟩, fun b off _ h => ⟨h, rfl⟩, fun b _ => rfl⟩, fun b _ _ => ⟨rfl, fun _ h => h⟩⟩
/-- slices.BinarySearch at []int. -/
theorem OQ (L : Lays2.n25 P ρ) {l : List Int} {x : Int} (hs : l.Pairwise (· <= ·)) (hn : l.length < 1000000000) :
  aB P G (ρ.f 25) [.win (.out 0) 1 0 l.length, iv x] [(.out 0, .cells (wb l))] 1 (XQ ⟨.tup [iv (Int.ofNat (l.countP (· < x))), bv (l.contains x)], [(.out 0, .cells (wb l))], 1⟩) := by
 intro w R N cargs bsA bsH bsF hargs hheap hnd hnx hglob hF
 obtain ⟨v0, r1, c0, d1, rfl, rfl, h0, hr1⟩ := aD hargs
 obtain ⟨v1, r2, c1, d2, rfl, rfl, h1, hr2⟩ := aD hr1
 obtain ⟨rfl, rfl⟩ := bb hr2
 have hheap0 := hheap
 obtain ⟨b, b1, b2, rfl, hb, hobj, hrest⟩ := hheap
 have hrest : b2 = [] := hrest
 subst hrest
 obtain ⟨vs, elem, sp, hblk, hrv, hRv, _⟩ := hobj
 simp only [ak] at h0 h1
 obtain ⟨rfl, b', cap, hb', rfl, hcap, _, hblt, hrow⟩ := h0
 have : b' = b := by rw [hb] at hb'; simpa using hb'.symm
 subst this
 obtain ⟨rfl, h1⟩ := h1
 have h1 : eA w R v1 (.flat (.int .i64 x)) := h1
 have e1 : v1 = .int .i64 x := by cases h1 with | flat _ => rfl
 have hfx : bZ (.int .i64 x) = true := by cases h1 with | flat h => exact h
 subst e1
 obtain ⟨us1, us2, q1, q2, hus, rfl, hr1, _⟩ := eG hrv
 obtain ⟨rfl, rfl, hfl⟩ := pd hr1
 have hcell : ∀ j, j < l.length -> w.cell? ⟨b', 0 + j, none⟩ = some (.int .i64 (l.getD j 0)) := by
  intro j hj
  refine kh hblk ?_
  rw [hus, Nat.zero_add, List.getElem?_append_left (by simp [ints]; exact hj)]
  simp [ints, hj]
 refine (Any.slices_BinarySearch_int L b' 0 l.length cap l x w (Nat.le_refl _) (by omega) hcell (by rw [List.take_length]; exact hs)).mono ?_
 rintro e w' ⟨rfl, q, rfl⟩
 rw [List.take_length]
 have hk : ∀ bs, bz w R (w.drewN q) R bs := Gt q
 refine ⟨_, _, _, 1, R, N, [], _, rfl, ⟨rfl, rfl, rfl⟩, ?_, hheap0.keep (hk _), by simpa using hnd, hnx, hk _, fun _ _ h => h⟩
 have hi : ∀ n : Nat, n < 9223372036854775808 -> bZ (.int .i64 (Int.ofNat n)) = true := by
  intro n hn
  simp [bZ, IntKind.min, IntKind.max, IntKind.signed, IntKind.bits]
  omega
 have hcnt : l.countP (· < x) <= l.length := List.countP_le_length
 simp only [ak]
 refine ⟨[.int .i64 (Int.ofNat (l.countP (· < x))), .bool (l.contains x)], rfl, ?_⟩
 refine aG (b1 := []) (b2 := []) ?_ (aG (b1 := []) (b2 := []) ?_ aV)
 ·simp only [ak]; exact ⟨trivial, .flat (hi _ (by omega))⟩
 simp only [ak]; exact ⟨trivial, .flat rfl⟩
/-- The row with one more. -/
def fT (l : List Int) (i : Nat) (x : Int) : List Int := l.take i ++ x :: l.drop i
theorem rQ {l : List Int} {i : Nat} {x : Int} (h : i <= l.length) : (fT l i x).length = l.length + 1 := by simp [fT]; omega
theorem mD {l : List Int} {i : Nat} {x : Int} : ints (fT l i x) = (ints l).take i ++ .int .i64 x :: (ints l).drop i := by simp [fT, ints, List.map_take, List.map_drop]
theorem GC {l : List Int} {i : Nat} {x : Int} (h : ∀ y ∈ l, bZ (.int .i64 y) = true) (hx : bZ (.int .i64 x) = true) : ∀ y ∈ fT l i x, bZ (.int .i64 y) = true := by
 intro y hy
 simp only [fT, List.mem_append, List.mem_cons] at hy
 rcases hy with hy | rfl | hy
 ·exact h y (List.mem_of_mem_take hy)
 ·exact hx
 exact h y (List.mem_of_mem_drop hy)
theorem QF (l : List Int) : cI (wb l) = false := by
 rcases l with _ | ⟨a, _ | ⟨b, _ | ⟨c, r⟩⟩⟩ <;> rfl
theorem oL {w : World} {R : Own} {N : Name -> Option Nat} : ∀ {n : Nat} {us : List Value} {bs : List Nat}, aj w R N (List.replicate n .undef) us bs -> bs = [] /\ us.length = n
 | 0, us, bs, h => by obtain ⟨rfl, rfl⟩ := bb h; exact ⟨rfl, rfl⟩
 | n + 1, us, bs, h => by
  have h : aj w R N (.undef :: List.replicate n .undef) us bs := h
  obtain ⟨v, vs', b1, b2, rfl, rfl, h1, h2⟩ := aD h
  obtain ⟨rfl, h3⟩ := oL h2
  simp only [ak] at h1
  subst h1
  exact ⟨rfl, by simp [h3]⟩
/-- What is behind: the block g holds the row. -/
theorem wc {w w' : World} {R R' : Own} {N : Name -> Option Nat} {vb g cap : Nat} {elem : TypeId} {arr rest : List Value} {l2 : List Int} {x : Int} {bsF : List Nat}
  (hnx : ∀ o b, N (.out o) = some b -> o < 2) (hk : ∀ bs, g ∉ bs -> bz w R w' R' bs) (hgF : g ∉ bsF) (hgv : g ≠ vb) (hnd : (vb :: bsF).Nodup)
  (hg : w'.heap[g]? = some (.cells arr.toArray elem (0, 0))) (harr : arr = ints l2 ++ rest) (hfl : ∀ y ∈ l2, bZ (.int .i64 y) = true) (hR' : ∀ j, j < arr.length -> R' g j) (hcap : arr.length = cap) (hcm : cap <= iE) (hl2 : l2.length <= cap)
  (hv : an w R (outs N) [(.out 1, .cells [iv x])] [vb]) (cv : Value) (hcv : cv = .slice (some ⟨g, 0, none⟩) l2.length cap) :
  ∃ v cv' heap' next' R2 N' bsV bsH', Ending.returned cv = .returned cv' /\ XQ ⟨.win (.out 2) 1 0 l2.length, [(.out 2, .cells (wb l2)), (.out 1, .cells [iv x])], 3⟩ v heap' next' /\ ak w' R2 (outs N') v cv' bsV /\ an w' R2 (outs N') heap' bsH' ∧
   (bsV ++ (bsH' ++ bsF)).Nodup /\ (∀ o b, N' (.out o) = some b -> o < next') /\ bz w R w' R2 bsF /\ (∀ o b, N (.out o) = some b -> N' (.out o) = some b) := by
 have hext := Dc (N := N) (b := g) hnx
 have hlt : g < w'.heap.size := bI hg
 refine ⟨_, cv, _, 3, R', bU N (.out 2) g, [], [g, vb], rfl, ⟨rfl, rfl, rfl⟩, ?_, ?_, ?_, ?_, hk bsF hgF, fun o b h => hext _ _ h⟩
 ·simp only [ak]
  refine ⟨trivial, g, cap, by simp [outs, bU], hcv, hl2, ⟨by decide, hcm⟩, hlt, ?_⟩
  rw [dV hg]
  simp [hcap]
 ·refine ⟨g, [], [vb], rfl, by simp [outs, bU], ?_, (hv.keep (hk _ (by simpa using hgv))).ext (DG hext)⟩
  refine ⟨arr.toArray, elem, rest.length, hg, ?_, fun j hj => hR' j (by simpa using hj), fun h => by rw [QF] at h; simp at h⟩
  have h1 : aj w' R' (outs (bU N (.out 2) g)) (wb l2) (ints l2) [] := Gv hfl
  have h2 := fL (w := w') (R := R') (N := outs (bU N (.out 2) g)) rest
  simpa [harr] using cA h1 h2
 ·simp only [List.nil_append, List.cons_append]
  refine List.nodup_cons.2 ⟨?_, hnd⟩
  simp only [List.mem_cons, not_or]
  exact ⟨hgv, hgF⟩
 intro o c ho
 by_cases hne : o = 2
 ·omega
 have : N (.out o) = some c := by simpa [bU, hne] using ho
 have := hnx o c this
 omega
theorem QL (B z1 z2 : List Value) (x zz : Value) (i : Nat) (h : B.length = i) : (B ++ zz :: z1 ++ z2).take i ++ [x] ++ (B ++ zz :: z1 ++ z2).drop (i + 1) = B ++ x :: (z1 ++ z2) := by
 subst h
 have e1 : (B ++ zz :: z1 ++ z2).take B.length = B := by simp
 have e2 : (B ++ zz :: z1 ++ z2).drop (B.length + 1) = z1 ++ z2 := by
  rw [List.append_assoc, List.drop_length_add_append]
  rfl
 rw [e1, e2]
 simp
theorem JV (A : List Value) (u0 x : Value) (us3 : List Value) (i : Nat) (h : i <= A.length) :
  ((A ++ u0 :: us3).take (i + 1) ++ A.drop i ++ (A ++ u0 :: us3).drop (i + 1 + (A.drop i).length)).take i ++ [x] ++ ((A ++ u0 :: us3).take (i + 1) ++ A.drop i ++ (A ++ u0 :: us3).drop (i + 1 + (A.drop i).length)).drop (i + 1) = A.take i ++ x :: A.drop i ++ us3 := by
 obtain ⟨A1, A2, rfl, h1⟩ : ∃ A1 A2, A = A1 ++ A2 /\ A1.length = i := ⟨A.take i, A.drop i, (List.take_append_drop i A).symm, by simp; omega⟩
 subst h1
 have e1 : (A1 ++ A2).drop A1.length = A2 := by simp
 have e2 : (A1 ++ A2).take A1.length = A1 := by simp
 rw [e1, e2]
 obtain ⟨y, t, ht⟩ : ∃ y t, A2 ++ u0 :: us3 = y :: t := by cases A2 with | nil => exact ⟨_, _, rfl⟩ | cons a r => exact ⟨_, _, rfl⟩
 have e3 : (A1 ++ A2 ++ u0 :: us3).take (A1.length + 1) = A1 ++ [y] := by rw [List.append_assoc, ht]; simp [List.take_append]; exact List.take_of_length_le (by omega)
 have e4 : (A1 ++ A2 ++ u0 :: us3).drop (A1.length + 1 + A2.length) = us3 := by
  have : A1.length + 1 + A2.length = (A1 ++ A2).length + 1 := by simp; omega
  rw [this, List.drop_length_add_append]
  rfl
 rw [e3, e4]
 simp [List.take_append, List.drop_append]
/-- slices.Insert at []int. -/
theorem OS (L : Lays2.n21 P ρ) {l : List Int} {x : Int} {i : Nat} (hi : i <= l.length) (hn : l.length < 1000000000) :
  aB P G (ρ.f 21) [.win (.out 0) 1 0 l.length, iv (Int.ofNat i), .win (.out 1) 1 0 1] [(.out 0, .cells (wb l)), (.out 1, .cells [iv x])] 2
   (XQ ⟨.win (.out 2) 1 0 (fT l i x).length, [(.out 2, .cells (wb (fT l i x))), (.out 1, .cells [iv x])], 3⟩) := by
 intro w R N cargs bsA bsH bsF hargs hheap hnd hnx hglob hF
 obtain ⟨v0, r1, c0, d1, rfl, rfl, h0, hr1⟩ := aD hargs
 obtain ⟨v1, r2, c1, d2, rfl, rfl, h1, hr2⟩ := aD hr1
 obtain ⟨v2, r3, c2, d3, rfl, rfl, h2, hr3⟩ := aD hr2
 obtain ⟨rfl, rfl⟩ := bb hr3
 obtain ⟨b, b1, b2, rfl, hb, hobj, hrest⟩ := hheap
 have hrest0 := hrest
 obtain ⟨vb, b3, b4, rfl, hvb, hobjv, hrest⟩ := hrest
 have hrest : b4 = [] := hrest
 subst hrest
 obtain ⟨vs, elem, sp, hblk, hrv, hRv, _⟩ := hobj
 obtain ⟨vs2, elem2, sp2, hblk2, hrv2, hRv2, _⟩ := hobjv
 simp only [ak] at h0 h1 h2
 obtain ⟨rfl, b', cap, hb', rfl, hcap, ⟨_, hcm⟩, hblt, hrow⟩ := h0
 have : b' = b := by rw [hb] at hb'; simpa using hb'.symm
 subst this
 obtain ⟨rfl, vb', vc, hvb', rfl, hvc, _, hvlt, hvrow⟩ := h2
 have : vb' = vb := by rw [hvb] at hvb'; simpa using hvb'.symm
 subst this
 obtain ⟨rfl, h1⟩ := h1
 have h1 : eA w R v1 (.flat (.int .i64 (Int.ofNat i))) := h1
 have e1 : v1 = .int .i64 (Int.ofNat i) := by cases h1 with | flat _ => rfl
 subst e1
 obtain ⟨us1, us2, q1, q2, hus, rfl, hr1, hq2⟩ := eG hrv
 obtain ⟨rfl, rfl, hfl⟩ := pd hr1
 obtain ⟨ws1, ws2, q3, q4, hws, rfl, hr2, hq4⟩ := eG hrv2
 obtain ⟨rfl, rfl, hfx⟩ := pd (l := [x]) hr2
 have hfx := hfx x (by simp)
 obtain ⟨rfl, _⟩ := oL hq2
 obtain ⟨rfl, _⟩ := oL hq4
 simp only [List.nil_append, List.append_nil, List.cons_append] at hnd
 have hvb0 : b' ≠ vb' := by
  have := (List.nodup_cons.1 hnd).1
  simp only [List.mem_cons, not_or] at this
  exact this.1
 have hbF : b' ∉ bsF := by
  have := (List.nodup_cons.1 hnd).1
  simp only [List.mem_cons, not_or] at this
  exact this.2
 have hnd2 : (vb' :: bsF).Nodup := (List.nodup_cons.1 hnd).2
 have hsz : vs.size = cap := by rw [dV hblk] at hrow; omega
 have hlen : (ints l).length = l.length := by simp [ints]
 have hl2 : (fT l i x).length = l.length + 1 := rQ hi
 have hfl2 := GC (i := i) hfl hfx
 have hvs : ∀ j v, [Value.int .i64 x][j]? = some v -> w.cell? ⟨vb', 0 + j, none⟩ = some v := by
  intro j v hj
  refine kh hblk2 ?_
  rw [hws]
  cases j with
  | zero => simpa [ints] using hj
  | succ j => simp at hj
 have hcs : ∀ j v, (ints l)[j]? = some v -> w.cell? ⟨b', 0 + j, none⟩ = some v := by
  intro j v hj
  refine kh hblk ?_
  have : j < (ints l).length := (List.getElem?_eq_some_iff.1 hj).1
  rw [hus, Nat.zero_add, List.getElem?_append_left this]
  exact hj
 have h1v : ∀ v ∈ [Value.int .i64 x], v.oneCell' = true := by intro v hv; simp at hv; subst hv; rfl
 have hsome : ∀ j, j < cap -> (w.cell? ⟨b', 0 + j, none⟩).isSome = true := by
  intro j hj
  have hj2 : j < vs.toList.length := by simp; omega
  rw [kh hblk (v := vs.toList[j]) (by rw [Nat.zero_add]; exact List.getElem?_eq_getElem hj2)]
  rfl
 have hfroz : ∀ j, w.frozen? ⟨b', j, none⟩ = false := by intro j; simp [World.frozen?, hblk]
 have hus2 : us2.length = cap - l.length := by
  have := congrArg List.length hus
  simp [hlen] at this
  omega
 by_cases hroom : l.length + 1 <= cap
 ·
  obtain ⟨u0, us3, rfl⟩ : ∃ u0 us3, us2 = u0 :: us3 := by
   cases us2 with
   | nil => simp at hus2; omega
   | cons a r => exact ⟨a, r, rfl⟩
  rcases Nat.lt_or_ge i l.length with hlt | hge
  ·refine (Any2.slices_Insert_int_shift L b' 0 l.length cap i vb' 0 1 vc (ints l) [.int .i64 x] w hlt (by decide) hroom ?_ (Ne.symm hvb0) hlen rfl hcs (fun j hj => hsome j (by omega)) (fun j _ => hfroz _) hvs rO h1v elem2 elem vs2.size vs.size ?_ ?_ ?_ ?_ ?_).mono ?_
   ·exact hcm
   ·simp [World.shape?, hblk2]
   ·simp [World.shape?, hblk]
   ·omega
   ·simp [World.frozen?, hblk2]
   ·simp [World.frozen?, hblk2]
   rintro e w' ⟨rfl, rfl⟩
   have hg1 : (w.drew).heap[b']? = some (.cells vs elem (0, 0)) := hblk
   have hd : ((ints l).drop i).length = l.length - i := by simp [hlen]
   rw [gK (w := w.drew) b' (0 + (i + 1)) elem ((ints l).drop i) vs hg1 (by rw [hd]; omega) (fun u hu => rO u (List.mem_of_mem_drop hu))]
   obtain ⟨ar1, har1⟩ : ∃ ar1, ar1 = vs.toList.take (0 + (i + 1)) ++ (ints l).drop i ++ vs.toList.drop (0 + (i + 1) + ((ints l).drop i).length) := ⟨_, rfl⟩
   rw [← har1]
   have hl1 : ar1.length = cap := by
    rw [har1]
    simp [hlen]
    omega
   have hg2 := setRow_heap w.drew b' vs ar1.toArray elem (0, 0) hg1
   rw [gK (w := w.drew.setRow b' ar1.toArray) b' (0 + i) elem [.int .i64 x] ar1.toArray hg2 (by simp [hl1]; omega) h1v]
   obtain ⟨ar2, har2⟩ : ∃ ar2, ar2 = ar1.toArray.toList.take (0 + i) ++ [.int .i64 x] ++ ar1.toArray.toList.drop (0 + i + [Value.int .i64 x].length) := ⟨_, rfl⟩
   rw [← har2]
   have hl3 : ar2.length = cap := by
    rw [har2]
    simp [hl1]
    omega
   have hg3 := setRow_heap (w.drew.setRow b' ar1.toArray) b' ar1.toArray ar2.toArray elem (0, 0) hg2
   refine wc (g := b') (vb := vb') (cap := cap) (arr := ar2) (rest := us3) (R' := R) hnx (fun bs hb => ?_) hbF hvb0 hnd2 hg3 ?_ hfl2 (fun j hj => hRv j (by omega)) hl3 hcm (by rw [hl2]; exact hroom) hrest0 _ (by rw [hl2])
   ·refine tC (bz.trans (nU hg1 ar1.toArray (by simp [hl1, hsz]) hRv (by omega) bs hb) (nU hg2 ar2.toArray (by simp [hl1, hl3]) (fun j hj => hRv j (by simp [hl1] at hj; omega)) (by simp [hl1]; omega) bs hb))
   -- the cells
   have hv : vs.toList = ints l ++ (u0 :: us3) := hus
   rw [har2, har1, hv, mD]
   simp only [Nat.zero_add, List.toList_toArray, List.length_singleton]
   exact JV (ints l) u0 (.int .i64 x) us3 i (by rw [hlen]; omega)
  have hil : i = l.length := by omega
  subst hil
  refine (Any2.slices_Insert_int_end_room L b' 0 l.length cap vb' 0 1 vc [.int .i64 x] w (by decide) hroom hcm rfl (fun j hj => ?_) (fun j _ => hfroz _) hvs h1v).mono ?_
  ·rw [Nat.add_assoc]; exact hsome _ (by omega)
  rintro e w' ⟨rfl, rfl⟩
  rw [gK (w := w) b' (0 + l.length) elem [.int .i64 x] vs hblk (by simp; omega) h1v]
  obtain ⟨ar2, har2⟩ : ∃ ar2, ar2 = vs.toList.take (0 + l.length) ++ [.int .i64 x] ++ vs.toList.drop (0 + l.length + [Value.int .i64 x].length) := ⟨_, rfl⟩
  rw [← har2]
  have hl3 : ar2.length = cap := by
   rw [har2]
   simp
   omega
  have hg3 := setRow_heap w b' vs ar2.toArray elem (0, 0) hblk
  refine wc (g := b') (vb := vb') (cap := cap) (arr := ar2) (rest := us3) (R' := R) hnx (fun bs hb => nU hblk ar2.toArray (by simp [hl3, hsz]) hRv (by omega) bs hb) hbF hvb0 hnd2 hg3 ?_ hfl2 (fun j hj => hRv j (by omega)) hl3 hcm (by rw [hl2]; exact hroom) hrest0 _ (by rw [hl2])
  have hv : vs.toList = ints l ++ (u0 :: us3) := hus
  rw [har2, hv, mD, Nat.zero_add, ← hlen, List.take_left, List.take_length, List.drop_length, List.length_singleton, List.drop_length_add_append]
  simp
 -- a new row
 have hcl : cap = l.length := by omega
 subst hcl
 have hge := grownCap_ge w (l.length + 1) l.length (ρ.t 3)
 have hgm : grownCap w (l.length + 1) l.length (ρ.t 3) <= iE := Nat.le_trans (grownCap_le_maxLen w (l.length + 1) l.length (ρ.t 3) (by unfold maxLen; omega)) (by decide)
 generalize hgc : grownCap w (l.length + 1) l.length (ρ.t 3) = gc at hge hgm
 have hltb : b' < w.heap.size := bI hblk
 have hltv : vb' < w.heap.size := bI hblk2
 have hzs : ∀ n, (Builtin.zeroCells (Value.int .i64 0).cells n).toList.length = n := fun n => by simp [Builtin.zeroCells, Value.cells]
 have V9 : w.heap.size ∉ bsF := fun h => by have := hF _ h; omega
 have hRm : ∀ j, R.more w.heap.size w.heap.size j := fun j => .inl rfl
 rcases Nat.lt_or_ge i l.length with hlt | hge2
 ·refine (Any2.slices_Insert_int_grow L b' 0 l.length l.length i vb' 0 1 vc (ints l) [.int .i64 x] w hlt (by decide) (Nat.le_refl _) (by omega) (by omega) hlen rfl hcs hvs rO h1v).mono ?_
  rw [hgc]
  rintro e w' ⟨rfl, rfl⟩
  obtain ⟨z1, hz1⟩ : ∃ z1, z1 = (Builtin.zeroCells (Value.int .i64 0).cells (l.length + 1 - i)).toList := ⟨_, rfl⟩
  obtain ⟨z2, hz2⟩ : ∃ z2, z2 = (Builtin.zeroCells (Value.int .i64 0).cells (gc - (l.length + 1))).toList := ⟨_, rfl⟩
  have hl1 : z1.length = l.length + 1 - i := by rw [hz1, hzs]
  have hl2' : z2.length = gc - (l.length + 1) := by rw [hz2, hzs]
  obtain ⟨ar0, har0⟩ : ∃ ar0, ar0 = (ints l).take i ++ z1 ++ z2 := ⟨_, rfl⟩
  have hc0 : (((ints l).take i).toArray ++ Builtin.zeroCells (Value.int .i64 0).cells (l.length + 1 - i) ++ Builtin.zeroCells (Value.int .i64 0).cells (gc - (l.length + 1))) = ar0.toArray := by rw [har0, hz1, hz2]; simp
  rw [hc0]
  have hl0 : ar0.length = gc := by rw [har0]; simp [hl1, hl2', hlen]; omega
  have hg0 : ((w.alloc (.cells ar0.toArray (ρ.t 3))).drew).heap[w.heap.size]? = some (.cells ar0.toArray (ρ.t 3) (0, 0)) := heap_alloc_new w _
  rw [gK (w := (w.alloc (.cells ar0.toArray (ρ.t 3))).drew) w.heap.size i (ρ.t 3) [.int .i64 x] ar0.toArray hg0 (by simp [hl0]; omega) h1v]
  obtain ⟨ar1, har1⟩ : ∃ ar1, ar1 = ar0.toArray.toList.take i ++ [.int .i64 x] ++ ar0.toArray.toList.drop (i + [Value.int .i64 x].length) := ⟨_, rfl⟩
  rw [← har1]
  have hl3 : ar1.length = gc := by rw [har1]; simp [hl0]; omega
  have hg1 := setRow_heap (w.alloc (.cells ar0.toArray (ρ.t 3))).drew w.heap.size ar0.toArray ar1.toArray (ρ.t 3) (0, 0) hg0
  have hg1' : (((w.alloc (.cells ar0.toArray (ρ.t 3))).drew.setRow w.heap.size ar1.toArray).drew).heap[w.heap.size]? = some (.cells ar1.toArray (ρ.t 3) (0, 0)) := hg1
  have hd : ((ints l).drop i).length = l.length - i := by simp [hlen]
  rw [gK (w := ((w.alloc (.cells ar0.toArray (ρ.t 3))).drew.setRow w.heap.size ar1.toArray).drew) w.heap.size (i + 1) (ρ.t 3) ((ints l).drop i) ar1.toArray hg1' (by rw [hd]; simp [hl3]; omega) (fun u hu => rO u (List.mem_of_mem_drop hu))]
  obtain ⟨ar2, har2⟩ : ∃ ar2, ar2 = ar1.toArray.toList.take (i + 1) ++ (ints l).drop i ++ ar1.toArray.toList.drop (i + 1 + ((ints l).drop i).length) := ⟨_, rfl⟩
  rw [← har2]
  have hl4 : ar2.length = gc := by rw [har2]; simp [hl3, hlen]; omega
  have hg2 := setRow_heap ((w.alloc (.cells ar0.toArray (ρ.t 3))).drew.setRow w.heap.size ar1.toArray).drew w.heap.size ar1.toArray ar2.toArray (ρ.t 3) (0, 0) hg1'
  refine wc (g := w.heap.size) (vb := vb') (cap := gc) (arr := ar2) (rest := z2) (R' := R.more w.heap.size) hnx (fun bs hb => ?_) V9 (by omega) hnd2 hg2 ?_ hfl2 (fun j _ => hRm j) hl4 hgm (by rw [hl2]; exact hge) hrest0 _ (by rw [hl2])
  ·have k1 : bz w R (w.alloc (.cells ar0.toArray (ρ.t 3))) (R.more w.heap.size) bs := fC _ (fun b off hb => Own.nN hb) bs
   have k2 := nU (R := R.more w.heap.size) hg0 ar1.toArray (by simp [hl0, hl3]) (fun j _ => hRm j) (by simp [hl0]; omega) bs hb
   have k3 := nU (R := R.more w.heap.size) hg1' ar2.toArray (by simp [hl4, hl3]) (fun j _ => hRm j) (by simp [hl3]; omega) bs hb
   exact k1.trans (tC (k2.trans (tC k3)))
  have e0 : ((ints l).take i).length = i := by simp [hlen]; omega
  obtain ⟨zz, z1', hz⟩ : ∃ zz z1', z1 = zz :: z1' := by
   cases z1 with
   | nil => simp at hl1; omega
   | cons a r => exact ⟨a, r, rfl⟩
  have hl5 : z1'.length = l.length - i := by rw [hz] at hl1; simp at hl1; omega
  have e1 : ar1 = (ints l).take i ++ .int .i64 x :: (z1' ++ z2) := by
   rw [har1, har0, hz]
   simp only [List.toList_toArray, List.length_singleton]
   exact QL _ z1' z2 (.int .i64 x) zz i e0
  rw [har2, e1, mD]
  simp only [List.toList_toArray]
  have e2 : ((ints l).take i ++ .int .i64 x :: (z1' ++ z2)).take (i + 1) = (ints l).take i ++ [.int .i64 x] := by
   rw [List.take_append, e0]
   simp [List.take_take]
  have e3 : ((ints l).take i ++ .int .i64 x :: (z1' ++ z2)).drop (i + 1 + ((ints l).drop i).length) = z2 := by
   have : i + 1 + ((ints l).drop i).length = ((ints l).take i).length + (1 + z1'.length) := by rw [e0, hd, hl5]; omega
   rw [this, List.drop_length_add_append, Nat.add_comm 1, List.drop_succ_cons, List.drop_left]
  rw [e2, e3]
  simp
 have hil : i = l.length := by omega
 subst hil
 refine (Any2.slices_Insert_int_end_grow L (some ⟨b', 0, none⟩) l.length l.length vb' 0 1 vc (ints l) [.int .i64 x] w (by decide) (Nat.le_refl _) (by omega) (by omega) hlen rfl (by simp) (fun a ha j v hj => ?_) hvs h1v).mono ?_
 ·simp only [Option.some.injEq] at ha
  subst ha
  rw [add_plain]
  exact hcs j v hj
 rw [hgc]
 rintro e w' ⟨rfl, rfl⟩
 obtain ⟨ar2, har2⟩ : ∃ ar2, ar2 = (ints l ++ [.int .i64 x]) ++ (Builtin.zeroCells (Value.int .i64 0).cells (gc - (l.length + 1))).toList := ⟨_, rfl⟩
 have hcells : ((ints l ++ [Value.int .i64 x]).toArray ++ Builtin.zeroCells (Value.int .i64 0).cells (gc - (l.length + 1))) = ar2.toArray := by rw [har2]; simp
 rw [hcells]
 have hl3 : ar2.length = gc := by rw [har2, List.length_append, hzs]; simp [hlen]; omega
 have hg3 : (w.drew.alloc (.cells ar2.toArray (ρ.t 3))).heap[w.heap.size]? = some (.cells ar2.toArray (ρ.t 3) (0, 0)) := heap_alloc_new w.drew _
 refine wc (g := w.heap.size) (vb := vb') (cap := gc) (arr := ar2) (rest := (Builtin.zeroCells (Value.int .i64 0).cells (gc - (l.length + 1))).toList) (R' := R.more w.heap.size) hnx (fun bs hb => gl _ (fun b off hb => Own.nN hb) bs) V9 (by omega) hnd2 hg3 ?_ hfl2 (fun j _ => hRm j) hl3 hgm (by rw [hl2]; exact hge) hrest0 _ (by rw [hl2])
 rw [har2, mD, ← hlen, List.take_length, List.drop_length]
/-- .. on nothing. -/
theorem CA (L : Lays2.n21 P ρ) {x : Int} :
  aB P G (ρ.f 21) [.dat (.flat (.slice none 0 0)), iv (Int.ofNat 0), .win (.out 0) 1 0 1] [(.out 0, .cells [iv x])] 1
   (XQ ⟨.win (.out 1) 1 0 1, [(.out 1, .cells [iv x]), (.out 0, .cells [iv x])], 2⟩) := by
 intro w R N cargs bsA bsH bsF hargs hheap hnd hnx hglob hF
 obtain ⟨v0, r1, c0, d1, rfl, rfl, h0, hr1⟩ := aD hargs
 obtain ⟨v1, r2, c1, d2, rfl, rfl, h1, hr2⟩ := aD hr1
 obtain ⟨v2, r3, c2, d3, rfl, rfl, h2, hr3⟩ := aD hr2
 obtain ⟨rfl, rfl⟩ := bb hr3
 have hheap0 := hheap
 obtain ⟨vb, b3, b4, rfl, hvb, hobjv, hrest⟩ := hheap
 have hrest : b4 = [] := hrest
 subst hrest
 obtain ⟨vs2, elem2, sp2, hblk2, hrv2, hRv2, _⟩ := hobjv
 simp only [ak] at h0 h1 h2
 obtain ⟨rfl, h0⟩ := h0
 have hv : v0 = .slice none 0 0 := by
  have h0 : eA w R v0 (.flat (.slice none 0 0)) := h0
  cases h0 with | flat _ => rfl
 subst hv
 obtain ⟨rfl, vb', vc, hvb', rfl, hvc, _, hvlt, hvrow⟩ := h2
 have : vb' = vb := by rw [hvb] at hvb'; simpa using hvb'.symm
 subst this
 obtain ⟨rfl, h1⟩ := h1
 have h1 : eA w R v1 (.flat (.int .i64 (Int.ofNat 0))) := h1
 have e1 : v1 = .int .i64 (Int.ofNat 0) := by cases h1 with | flat _ => rfl
 subst e1
 obtain ⟨ws1, ws2, q3, q4, hws, rfl, hr2, hq4⟩ := eG hrv2
 obtain ⟨rfl, rfl, hfx⟩ := pd (l := [x]) hr2
 obtain ⟨rfl, _⟩ := oL hq4
 simp only [List.nil_append, List.append_nil] at hnd
 have hvs : ∀ j v, [Value.int .i64 x][j]? = some v -> w.cell? ⟨vb', 0 + j, none⟩ = some v := by
  intro j v hj
  refine kh hblk2 ?_
  rw [hws]
  cases j with
  | zero => simpa [ints] using hj
  | succ j => simp at hj
 have h1v : ∀ v ∈ [Value.int .i64 x], v.oneCell' = true := by intro v hv; simp at hv; subst hv; rfl
 have hltv : vb' < w.heap.size := bI hblk2
 have V9 : w.heap.size ∉ bsF := fun h => by have := hF _ h; omega
 refine (Any2.slices_Insert_int_end_grow L none 0 0 vb' 0 1 vc [] [.int .i64 x] w (by decide) (Nat.le_refl _) (by omega) (by omega) rfl rfl (by simp) (by simp) hvs h1v).mono ?_
 have hge := grownCap_ge w (0 + 1) 0 (ρ.t 3)
 have hgm : grownCap w (0 + 1) 0 (ρ.t 3) <= iE := Nat.le_trans (grownCap_le_maxLen w (0 + 1) 0 (ρ.t 3) (by unfold maxLen; omega)) (by decide)
 generalize hgc : grownCap w (0 + 1) 0 (ρ.t 3) = gc at hge hgm
 have hzs : ∀ n, (Builtin.zeroCells (Value.int .i64 0).cells n).toList.length = n := fun n => by simp [Builtin.zeroCells, Value.cells]
 rintro e w' ⟨rfl, rfl⟩
 obtain ⟨ar2, har2⟩ : ∃ ar2, ar2 = Value.int .i64 x :: (Builtin.zeroCells (Value.int .i64 0).cells (gc - (0 + 1))).toList := ⟨_, rfl⟩
 have hcells : (([] ++ [Value.int .i64 x]).toArray ++ Builtin.zeroCells (Value.int .i64 0).cells (gc - (0 + 1))) = ar2.toArray := by
  apply Array.toList_inj.1
  rw [har2]
  simp
 rw [hcells]
 have hl3 : ar2.length = gc := by rw [har2, List.length_cons, hzs]; omega
 have hg3 : (w.drew.alloc (.cells ar2.toArray (ρ.t 3))).heap[w.heap.size]? = some (.cells ar2.toArray (ρ.t 3) (0, 0)) := heap_alloc_new w.drew _
 have hk : ∀ bs, bz w R (w.drew.alloc (.cells ar2.toArray (ρ.t 3))) (R.more w.heap.size) bs := fun bs => gl _ (fun b off hb => Own.nN hb) bs
 have hext := Dc (N := N) (b := w.heap.size) hnx
 refine ⟨_, _, _, 2, R.more w.heap.size, bU N (.out 1) w.heap.size, [], [w.heap.size, vb'], rfl, ⟨rfl, rfl, rfl⟩, ?_, ?_, ?_, ?_, hk bsF, fun o b h => hext _ _ h⟩
 ·simp only [ak]
  refine ⟨trivial, w.heap.size, gc, by simp [outs, bU], rfl, hge, ⟨by decide, hgm⟩, bI hg3, ?_⟩
  rw [dV hg3]
  simp [hl3]
 ·refine ⟨w.heap.size, [], [vb'], rfl, by simp [outs, bU], ?_, ((by simpa using hheap0 : an w R (outs N) _ [vb']).keep (hk _)).ext (DG hext)⟩
  refine ⟨ar2.toArray, ρ.t 3, (Builtin.zeroCells (Value.int .i64 0).cells (gc - (0 + 1))).toList.length, hg3, ?_, fun j _ => .inl rfl, fun h => by simp [cI] at h⟩
  have h2 := fL (w := w.drew.alloc (.cells ar2.toArray (ρ.t 3))) (R := R.more w.heap.size) (N := outs (bU N (.out 1) w.heap.size)) (Builtin.zeroCells (Value.int .i64 0).cells (gc - (0 + 1))).toList
  have h3 : aj (w.drew.alloc (.cells ar2.toArray (ρ.t 3))) (R.more w.heap.size) (outs (bU N (.out 1) w.heap.size)) (wb [x]) (ints [x]) [] := Gv hfx
  have h4 := cA h3 h2
  have e : ar2.toArray.toList = ints [x] ++ (Builtin.zeroCells (Value.int .i64 0).cells (gc - (0 + 1))).toList := by rw [har2]; rfl
  rw [e]
  exact h4
 ·simp only [List.nil_append, List.cons_append]
  refine List.nodup_cons.2 ⟨?_, hnd⟩
  simp only [List.mem_cons, not_or]
  exact ⟨by omega, V9⟩
 intro o c ho
 by_cases hne : o = 1
 ·omega
 have : N (.out o) = some c := by simpa [bU, hne] using ho
 have := hnx o c this
 omega
/-- A row that nobody changes any more is data. -/
theorem aB.Q1 {g : FuncId} {args : List ae} {r m : Nat} {l : List Int} {rest : Heap} (h : aB P G g args [] 0 (XQ ⟨.win (.out r) 1 0 l.length, (.out r, .cells (wb l)) :: rest, m⟩)) (hn : l.length <= jy) :
  aB P G g args [] 0 (XQ ⟨.dat (.slice (l.map fun x => .flat (.int .i64 x))), [], 0⟩) := by
 intro w R N cargs bsA bsH bsF ha hh hnd hnx hg hF
 refine (h w R N cargs bsA bsH bsF ha hh hnd hnx hg hF).mono ?_
 rintro e w' ⟨v, cv, hp, m', R', N', bsV, bsH', rfl, ⟨rfl, rfl, rfl⟩, hv, hh', hnd', hnx', hk, hN⟩
 simp only [ak] at hv
 obtain ⟨rfl, b, cap, hb, rfl, hcap, _, hblt, hrow⟩ := hv
 obtain ⟨b', b1, b2, rfl, hb', hobj, hrest⟩ := hh'
 have : b' = b := by rw [hb] at hb'; simpa using hb'.symm
 subst this
 obtain ⟨vs, elem, sp, hblk, hrv, hRv, _⟩ := hobj
 obtain ⟨us1, us2, q1, q2, hus, rfl, hr1, _⟩ := eG hrv
 obtain ⟨rfl, rfl, hfl⟩ := pd hr1
 have hbF : b' ∉ bsF := by
  intro hm
  have h1 : (b' :: ((([] ++ q2) ++ b2) ++ bsF)).Nodup := by simpa using hnd'
  exact (List.nodup_cons.1 h1).1 (List.mem_append_right _ hm)
 let R2 : Own := fun c off => c ≠ b' /\ R' c off
 have hk2 : bz w' R' w' R2 bsF := ⟨⟨rfl, rfl, rfl, Nat.le_refl _, fun c _ hno => ⟨rfl, fun off h => hno off h.2⟩, fun c off _ hno => ⟨fun h => hno h.2, rfl⟩, fun _ _ => rfl⟩, fun c hc _ => ⟨rfl, fun off h => ⟨fun e => hbF (e ▸ hc), h⟩⟩⟩
 refine ⟨_, _, _, 0, R2, fun m => match m with | .loc i => N' (.loc i) | .out _ => none, [], [], rfl, ⟨rfl, rfl, rfl⟩, ?_, rfl, ?_, by intro o c ho; simp at ho, hk.trans hk2, ?_⟩
 ·simp only [ak]
  refine ⟨trivial, ?_⟩
  have hl : l.length = (l.map fun x => aq.flat (.int .i64 x)).length := by simp
  rw [hl]
  refine eA.slice b' 0 cap 1 _ (fun i _ => .int .i64 (l.getD i 0)) (by decide) ?_ (by simpa using hcap) (by simpa using hn) ?_ ?_
  ·intro e he
   obtain ⟨x, _, rfl⟩ := List.mem_map.1 he
   rfl
  ·intro i j hi hj
   have : j = 0 := by omega
   subst this
   simp only [List.length_map] at hi
   refine ⟨?_, fun h => h.1 rfl⟩
   refine kh hblk ?_
   rw [hus, show 0 + i * 1 + 0 = i by omega, List.getElem?_append_left (by simp [ints]; exact hi)]
   simp [ints, hi]
  intro i j e c he hc
  simp only [List.getElem?_map, Option.map_eq_some_iff] at he
  obtain ⟨x, hx, rfl⟩ := he
  have hc2 : c = .flat (.int .i64 x) := by
   have hc : [aq.flat (.int .i64 x)][j]? = some c := hc
   cases j with
   | zero => simpa using hc.symm
   | succ j => simp at hc
  subst hc2
  obtain ⟨hi, rfl⟩ := List.getElem?_eq_some_iff.1 hx
  have : l.getD i 0 = l[i] := by simp [hi]
  rw [this]
  exact .flat (hfl _ (List.getElem_mem hi))
 ·have h1 : (b' :: ((([] ++ q2) ++ b2) ++ bsF)).Nodup := by simpa using hnd'
  have h2 := (List.nodup_cons.1 h1).2
  simpa using (List.nodup_append.1 h2).2.1
 intro o c ho
 have := hnx o c ho
 omega
end
end Go.Tp
