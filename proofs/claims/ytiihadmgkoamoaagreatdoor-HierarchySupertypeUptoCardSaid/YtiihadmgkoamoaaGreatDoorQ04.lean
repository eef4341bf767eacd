/- HierarchySupertype returns true and changes nothing, for arguments of bulk at most 1048576 (the card of the second form; conditions: those of the given row). Names are shortened by a program, for the claim's bound. Part 4. -/
import Derived.Test.YtiihadmgkoamoaaGreatDoorProg
import Derived.KernelRfl
import Derived.Shelf.SlMaps.Clone
import Derived.Shelf.SlicesE.Clone
import Derived.Shelf.SlicesE.Delete
import Derived.Ground.Names2Prog
import Derived.Shelf.Lays2
import Derived.Test.YtiihadmgkoamoaaGreatDoorQ03
set_option linter.unusedVariables false
set_option linter.unusedSimpArgs false
set_option maxRecDepth 100000
set_option maxHeartbeats 4000000
namespace Go.Proofs.YtiihadmgkoamoaaGreatDoor
open Go.Tp

theorem Yo : TI.ok Tryz.prog 3 ⟨.int .i64, 1, 8, .int .i64 0⟩ := ⟨⟨Tryz.t3, by kernel_rfl, rfl, rfl, rfl, rfl⟩, Tryz.underlying3⟩
theorem Yn : TI.ok Tryz.prog 4 ⟨.bool, 1, 1, .bool false⟩ := ⟨⟨Tryz.t4, by kernel_rfl, rfl, rfl, rfl, rfl⟩, Tryz.underlying4⟩
theorem Ym : TI.ok Tryz.prog 5 ⟨.int .u8, 1, 1, .int .u8 0⟩ := ⟨⟨Tryz.t5, by kernel_rfl, rfl, rfl, rfl, rfl⟩, Tryz.underlying5⟩
theorem Yl : TI.ok Tryz.prog 9 ⟨.string, 1, 16, .string ⟨#[]⟩⟩ := ⟨⟨Tryz.t9, by kernel_rfl, rfl, rfl, rfl, rfl⟩, Tryz.underlying9⟩
theorem VV : TI.ok Tryz.prog 22 ⟨.slice 3, 1, 24, .slice none 0 0⟩ := ⟨⟨Tryz.t22, by kernel_rfl, rfl, rfl, rfl, rfl⟩, Tryz.underlying22⟩
theorem VU : TI.ok Tryz.prog 23 ⟨.slice 35, 1, 24, .slice none 0 0⟩ := ⟨⟨Tryz.t23, by kernel_rfl, rfl, rfl, rfl, rfl⟩, Tryz.underlying23⟩
theorem VT : TI.ok Tryz.prog 25 ⟨.pointer, 1, 8, .pointer none⟩ := ⟨⟨Tryz.t25, by kernel_rfl, rfl, rfl, rfl, rfl⟩, ⟨_, Tryz.underlying25⟩⟩
theorem VS : TI.ok Tryz.prog 26 ⟨.pointer, 1, 8, .pointer none⟩ := ⟨⟨Tryz.t26, by kernel_rfl, rfl, rfl, rfl, rfl⟩, ⟨_, Tryz.underlying26⟩⟩
theorem VR : TI.ok Tryz.prog 30 ⟨.slice 32, 1, 24, .slice none 0 0⟩ := ⟨⟨Tryz.t30, by kernel_rfl, rfl, rfl, rfl, rfl⟩, Tryz.underlying30⟩
theorem VQ : TI.ok Tryz.prog 32 ⟨.struct [(0, 3), (1, 9), (2, 3), (3, 30)], 4, 56, .agg #[.int .i64 0, .string ⟨#[]⟩, .int .i64 0, .slice none 0 0]⟩ := ⟨⟨Tryz.t32, by kernel_rfl, rfl, rfl, rfl, rfl⟩, ⟨_, Tryz.underlying32, rfl, [(0, 1), (1, 1), (2, 1), (3, 1)], by kernel_rfl⟩⟩
theorem VP : TI.ok Tryz.prog 33 ⟨.slice 75, 1, 24, .slice none 0 0⟩ := ⟨⟨Tryz.t33, by kernel_rfl, rfl, rfl, rfl, rfl⟩, Tryz.underlying33⟩
theorem VO : TI.ok Tryz.prog 35 ⟨.struct [(0, 9), (1, 3), (2, 32), (6, 4), (7, 33)], 8, 112, .agg #[.string ⟨#[]⟩, .int .i64 0, .int .i64 0, .string ⟨#[]⟩, .int .i64 0, .slice none 0 0, .bool false, .slice none 0 0]⟩ := ⟨⟨Tryz.t35, by kernel_rfl, rfl, rfl, rfl, rfl⟩, ⟨_, Tryz.underlying35, rfl, [(0, 1), (1, 1), (2, 4), (6, 1), (7, 1)], by kernel_rfl⟩⟩
theorem VN : TI.ok Tryz.prog 39 ⟨.pointer, 1, 8, .pointer none⟩ := ⟨⟨Tryz.t39, by kernel_rfl, rfl, rfl, rfl, rfl⟩, ⟨_, Tryz.underlying39⟩⟩
theorem VM : TI.ok Tryz.prog 41 ⟨.int .i64, 1, 8, .int .i64 0⟩ := ⟨⟨Tryz.t41, by kernel_rfl, rfl, rfl, rfl, rfl⟩, Tryz.underlying41⟩
theorem VL : TI.ok Tryz.prog 60 ⟨.slice 9, 1, 24, .slice none 0 0⟩ := ⟨⟨Tryz.t60, by kernel_rfl, rfl, rfl, rfl, rfl⟩, Tryz.underlying60⟩
theorem VK : TI.ok Tryz.prog 67 ⟨.func, 1, 8, .nilFunc⟩ := ⟨⟨Tryz.t67, by kernel_rfl, rfl, rfl, rfl, rfl⟩, ⟨_, _, _, Tryz.underlying67⟩⟩
theorem VJ : TI.ok Tryz.prog 75 ⟨.struct [(0, 9), (1, 32)], 5, 72, .agg #[.string ⟨#[]⟩, .int .i64 0, .string ⟨#[]⟩, .int .i64 0, .slice none 0 0]⟩ := ⟨⟨Tryz.t75, by kernel_rfl, rfl, rfl, rfl, rfl⟩, ⟨_, Tryz.underlying75, rfl, [(0, 1), (1, 4)], by kernel_rfl⟩⟩
theorem VI : TI.ok Tryz.prog 78 ⟨.struct [(0, 22), (1, 3)], 2, 32, .agg #[.slice none 0 0, .int .i64 0]⟩ := ⟨⟨Tryz.t78, by kernel_rfl, rfl, rfl, rfl, rfl⟩, ⟨_, Tryz.underlying78, rfl, [(0, 1), (1, 1)], by kernel_rfl⟩⟩
theorem VH : TI.ok Tryz.prog 80 ⟨.map 9 3, 1, 8, .map none⟩ := ⟨⟨Tryz.t80, by kernel_rfl, rfl, rfl, rfl, rfl⟩, Tryz.underlying80⟩
theorem VG : TI.ok Tryz.prog 82 ⟨.struct [(0, 23), (1, 80)], 2, 32, .agg #[.slice none 0 0, .map none]⟩ := ⟨⟨Tryz.t82, by kernel_rfl, rfl, rfl, rfl, rfl⟩, ⟨_, Tryz.underlying82, rfl, [(0, 1), (1, 1)], by kernel_rfl⟩⟩
theorem VF : TI.ok Tryz.prog 86 ⟨.func, 1, 8, .nilFunc⟩ := ⟨⟨Tryz.t86, by kernel_rfl, rfl, rfl, rfl, rfl⟩, ⟨_, _, _, Tryz.underlying86⟩⟩
theorem VE : TI.ok Tryz.prog 88 ⟨.struct [(0, 23)], 1, 24, .agg #[.slice none 0 0]⟩ := ⟨⟨Tryz.t88, by kernel_rfl, rfl, rfl, rfl, rfl⟩, ⟨_, Tryz.underlying88, rfl, [(0, 1)], by kernel_rfl⟩⟩
theorem VD : TI.ok Tryz.prog 97 ⟨.map 9 4, 1, 8, .map none⟩ := ⟨⟨Tryz.t97, by kernel_rfl, rfl, rfl, rfl, rfl⟩, Tryz.underlying97⟩
theorem SY : TI.ok Tryz.prog 125 ⟨.func, 1, 8, .nilFunc⟩ := ⟨⟨Tryz.t125, by kernel_rfl, rfl, rfl, rfl, rfl⟩, ⟨_, _, _, Tryz.underlying125⟩⟩
theorem SX : TI.ok Tryz.prog 128 ⟨.pointer, 1, 8, .pointer none⟩ := ⟨⟨Tryz.t128, by kernel_rfl, rfl, rfl, rfl, rfl⟩, ⟨_, Tryz.underlying128⟩⟩
theorem SW : TI.ok Tryz.prog 129 ⟨.func, 1, 8, .nilFunc⟩ := ⟨⟨Tryz.t129, by kernel_rfl, rfl, rfl, rfl, rfl⟩, ⟨_, _, _, Tryz.underlying129⟩⟩
theorem SV : TI.ok Tryz.prog 141 ⟨.func, 1, 8, .nilFunc⟩ := ⟨⟨Tryz.t141, by kernel_rfl, rfl, rfl, rfl, rfl⟩, ⟨_, _, _, Tryz.underlying141⟩⟩
theorem SU : TI.ok Tryz.prog 147 ⟨.func, 1, 8, .nilFunc⟩ := ⟨⟨Tryz.t147, by kernel_rfl, rfl, rfl, rfl, rfl⟩, ⟨_, _, _, Tryz.underlying147⟩⟩
theorem SS : TI.ok Tryz.prog 157 ⟨.int .u64, 1, 8, .int .u64 0⟩ := ⟨⟨Tryz.t157, by kernel_rfl, rfl, rfl, rfl, rfl⟩, Tryz.underlying157⟩
theorem SR : TI.ok Tryz.prog 165 ⟨.struct [(0, 22)], 1, 24, .agg #[.slice none 0 0]⟩ := ⟨⟨Tryz.t165, by kernel_rfl, rfl, rfl, rfl, rfl⟩, ⟨_, Tryz.underlying165, rfl, [(0, 1)], by kernel_rfl⟩⟩
theorem SQ : TI.ok Tryz.prog 167 ⟨.pointer, 1, 8, .pointer none⟩ := ⟨⟨Tryz.t167, by kernel_rfl, rfl, rfl, rfl, rfl⟩, ⟨_, Tryz.underlying167⟩⟩
def RY : Tr := (.node (.node (.node (.node (.node .nil 3 ⟨.int .i64, 1, 8, .int .i64 0⟩ .nil) 4 ⟨.bool, 1, 1, .bool false⟩ (.node .nil 5 ⟨.int .u8, 1, 1, .int .u8 0⟩ .nil)) 9 ⟨.string, 1, 16, .string ⟨#[]⟩⟩ (.node (.node .nil 22 ⟨.slice 3, 1, 24, .slice none 0 0⟩ .nil) 23 ⟨.slice 35, 1, 24, .slice none 0 0⟩ (.node .nil 25 ⟨.pointer, 1, 8, .pointer none⟩ .nil))) 26 ⟨.pointer, 1, 8, .pointer none⟩ (.node (.node (.node .nil 30 ⟨.slice 32, 1, 24, .slice none 0 0⟩ .nil) 32 ⟨.struct [(0, 3), (1, 9), (2, 3), (3, 30)], 4, 56, .agg #[.int .i64 0, .string ⟨#[]⟩, .int .i64 0, .slice none 0 0]⟩ (.node .nil 33 ⟨.slice 75, 1, 24, .slice none 0 0⟩ .nil)) 35 ⟨.struct [(0, 9), (1, 3), (2, 32), (6, 4), (7, 33)], 8, 112, .agg #[.string ⟨#[]⟩, .int .i64 0, .int .i64 0, .string ⟨#[]⟩, .int .i64 0, .slice none 0 0, .bool false, .slice none 0 0]⟩ (.node (.node .nil 39 ⟨.pointer, 1, 8, .pointer none⟩ .nil) 41 ⟨.int .i64, 1, 8, .int .i64 0⟩ (.node .nil 60 ⟨.slice 9, 1, 24, .slice none 0 0⟩ .nil)))) 67 ⟨.func, 1, 8, .nilFunc⟩ (.node (.node (.node (.node .nil 75 ⟨.struct [(0, 9), (1, 32)], 5, 72, .agg #[.string ⟨#[]⟩, .int .i64 0, .string ⟨#[]⟩, .int .i64 0, .slice none 0 0]⟩ .nil) 78 ⟨.struct [(0, 22), (1, 3)], 2, 32, .agg #[.slice none 0 0, .int .i64 0]⟩ (.node .nil 80 ⟨.map 9 3, 1, 8, .map none⟩ .nil)) 82 ⟨.struct [(0, 23), (1, 80)], 2, 32, .agg #[.slice none 0 0, .map none]⟩ (.node (.node .nil 86 ⟨.func, 1, 8, .nilFunc⟩ .nil) 88 ⟨.struct [(0, 23)], 1, 24, .agg #[.slice none 0 0]⟩ (.node .nil 97 ⟨.map 9 4, 1, 8, .map none⟩ .nil))) 125 ⟨.func, 1, 8, .nilFunc⟩ (.node (.node (.node .nil 128 ⟨.pointer, 1, 8, .pointer none⟩ .nil) 129 ⟨.func, 1, 8, .nilFunc⟩ (.node .nil 141 ⟨.func, 1, 8, .nilFunc⟩ .nil)) 147 ⟨.func, 1, 8, .nilFunc⟩ (.node (.node .nil 157 ⟨.int .u64, 1, 8, .int .u64 0⟩ .nil) 165 ⟨.struct [(0, 22)], 1, 24, .agg #[.slice none 0 0]⟩ (.node .nil 167 ⟨.pointer, 1, 8, .pointer none⟩ .nil)))))
theorem KG : RY.EU Tryz.prog := (Tr.aj (Tr.aj (Tr.aj (Tr.aj (Tr.aj Tr.all_nil Yo Tr.all_nil) Yn (Tr.aj Tr.all_nil Ym Tr.all_nil)) Yl (Tr.aj (Tr.aj Tr.all_nil VV Tr.all_nil) VU (Tr.aj Tr.all_nil VT Tr.all_nil))) VS (Tr.aj (Tr.aj (Tr.aj Tr.all_nil VR Tr.all_nil) VQ (Tr.aj Tr.all_nil VP Tr.all_nil)) VO (Tr.aj (Tr.aj Tr.all_nil VN Tr.all_nil) VM (Tr.aj Tr.all_nil VL Tr.all_nil)))) VK (Tr.aj (Tr.aj (Tr.aj (Tr.aj Tr.all_nil VJ Tr.all_nil) VI (Tr.aj Tr.all_nil VH Tr.all_nil)) VG (Tr.aj (Tr.aj Tr.all_nil VF Tr.all_nil) VE (Tr.aj Tr.all_nil VD Tr.all_nil))) SY (Tr.aj (Tr.aj (Tr.aj Tr.all_nil SX Tr.all_nil) SW (Tr.aj Tr.all_nil SV Tr.all_nil)) SU (Tr.aj (Tr.aj Tr.all_nil SS Tr.all_nil) SR (Tr.aj Tr.all_nil SQ Tr.all_nil)))))
def X0 (f : Nat) : Bool := Nat.ble 0 f && Nat.ble f 206 && !(match f with | 0 => true | 1 => true | 97 => true | 132 => true | 194 => true | 201 => true | _ => false)
def YB (t : Nat) : Option TI := match t with
  | 0 => none
  | t => RY.find t
def env (pr : az) : bw := ⟨YB, X0, pr⟩
theorem UT : (List.range 207).all (fun k => !(X0 (0 + k)) || UW Tryz.prog (0 + k)) = true := by kernel_rfl
theorem J3 (f : Nat) (h : X0 f = true) : 0 ≤ f ∧ f ≤ 206 := by
  unfold X0 at h
  simp only [Bool.and_eq_true, Nat.ble_eq] at h
  exact h.1
theorem XV (f : Nat) (h : X0 f = true) : UW Tryz.prog f = true := by
  have hb := J3 f h
  have h1 := List.all_eq_true.1 UT (f - 0) (List.mem_range.2 (by omega))
  rw [show 0 + (f - 0) = f by omega] at h1
  rw [h, Bool.not_true, Bool.false_or] at h1
  exact h1
theorem Va : (env az.ln).Ok Tryz.prog where
  ty t i h := by
    have h : YB t = some i := h
    unfold YB at h
    split at h
    · simp at h
    · exact Tr.BY KG h
  fn f h := by
    have h1 := XV f h
    unfold UW at h1
    split at h1
    · rename_i g hg
      simp at h1
      exact ⟨g, hg, by simp [h1.1], by simpa using h1.2⟩
    · simp at h1
  mixed := by kernel_rfl
  ln := rfl

def aq : FuncId → Bool := fun f => match f with | 28 => true | 180 => true | 191 => true | _ => false
def aw : FuncId → Bool := fun f => match f with | 4000000 => true | 1000052 => true | 1000151 => true | 1000170 => true | 2000024 => true | 2000075 => true | 2000082 => true | 3000019 => true | 3000062 => true | _ => false
def Qj : Nat → ay := fun n => match n with | 18 => ⟨[(0, false), (1, false), (2, false), (3, false), (4, false), (5, false), (11, false), (6, true), (7, false), (8, false), (9, false), (10, false), (12, false)], some 11, [], [13, 14]⟩ | 19 => ⟨[(0, false), (1, false), (2, false), (3, false), (4, false), (5, false), (11, false), (6, true), (7, false), (8, false), (9, false), (10, false), (12, false)], some 11, [], [13, 14]⟩ | _ => default
def DM : Nat → Nat := fun n => match n with | 0 => 15 | 1 => 526 | 2 => 7694 | 3 => 35184372092430 | 4 => 256 | 5 => 11276 | 6 => 27660 | 7 => 44040 | 8 => 240648 | 9 => 994312 | 10 => 4140040 | 11 => 16722952 | 12 => 324518553658426726783156020587528 | 13 => 256 | 14 => 16788480 | 15 => 50342912 | 16 => 20769187434139310514121985367223296 | 17 => 50342912 | 18 => 520104960 | 19 => 4278201344 | 20 => 5708990770823839524233143877797980545581329408 | 21 => 256 | 22 => 256 | _ => 0
theorem Yz : aK Tryz.prog aq aw 6 Tryz.f6 Qj := ao Tryz.func6 (by kernel_rfl)
def Tv : Nat → ay := fun _ => default
def Sy : Nat → Nat := fun n => match n with | 0 => 1 | 1 => 4 | _ => 0
theorem Yy : aK Tryz.prog aq aw 9 Tryz.f9 Tv := ao Tryz.func9 (by kernel_rfl)
def HS : Nat → ay := fun n => match n with | 7 => ⟨[(0, false), (1, false), (2, false), (3, false), (4, false), (6, false), (7, false), (8, false), (9, false), (10, false), (5, true)], none, [], [11, 12]⟩ | _ => default
def BH : Nat → Nat := fun n => match n with | 0 => 1 | 1 => 97 | 2 => 2145 | 3 => 28 | 4 => 225 | 5 => 65761 | 6 => 225 | 7 => 2147483873 | 8 => 28 | 9 => 28 | _ => 0
theorem XU : aK Tryz.prog aq aw 10 Tryz.f10 HS := ao Tryz.func10 (by kernel_rfl)
def Sw : Nat → ay := fun n => match n with | 5 => ⟨[(0, false), (1, false), (2, false), (3, true), (4, false), (5, true)], none, [], [6, 7, 8, 9, 10, 11, 12, 13, 14]⟩ | _ => default
def TM : Nat → Nat := fun n => match n with | 0 => 0 | 1 => 2 | 2 => 2097154 | 3 => 1 | 4 => 14 | 5 => 1 | _ => 0
theorem XT : aK Tryz.prog aq aw 11 Tryz.f11 Sw := ao Tryz.func11 (by kernel_rfl)
def MP : Nat → ay := fun _ => default
def NC : Nat → Nat := fun n => match n with | 0 => 3 | 1 => 3 | 2 => 515 | 3 => 1 | 4 => 16 | _ => 0
theorem XS : aK Tryz.prog aq aw 13 Tryz.f13 MP := ao Tryz.func13 (by kernel_rfl)
def MN : Nat → ay := fun _ => default
def NB : Nat → Nat := fun n => match n with | 0 => 71 | 1 => 64 | _ => 0
theorem XR : aK Tryz.prog aq aw 14 Tryz.f14 MN := ao Tryz.func14 (by kernel_rfl)
def MK : Nat → ay := fun _ => default
def NA : Nat → Nat := fun n => match n with | 0 => 1 | 1 => 4 | _ => 0
theorem XP : aK Tryz.prog aq aw 15 Tryz.f15 MK := ao Tryz.func15 (by kernel_rfl)
def HR : Nat → ay := fun n => match n with | 14 => ⟨[(0, false), (1, false), (2, true)], none, [], [3]⟩ | _ => default
def F7 : Nat → Nat := fun n => match n with | 0 => 12 | 1 => 108 | 2 => 65644 | 3 => 16 | 4 => 1048684 | 5 => 16 | 6 => 1073741900 | 7 => 16 | 8 => 137438953484 | 9 => 16 | 10 => 549755813900 | 11 => 16 | 12 => 70368744177676 | 13 => 16 | 14 => 12 | 15 => 576460752303423500 | 16 => 0 | 17 => 16 | 18 => 140 | 19 => 151115727451828646838276 | 20 => 0 | 21 => 16 | 22 => 16 | _ => 0
theorem XO : aK Tryz.prog aq aw 16 Tryz.f16 HR := ao Tryz.func16 (by kernel_rfl)
def Ds : Nat → ay := fun n => match n with | 11 => ⟨[(0, false), (2, false), (3, false), (1, true)], none, [], [4, 5, 6, 7]⟩ | _ => default
def sY : Nat → Nat := fun n => match n with | 0 => 9 | 1 => 41 | 2 => 32809 | 3 => 16 | 4 => 201 | 5 => 16777289 | 6 => 134217728 | 7 => 16 | 8 => 16 | 9 => 8589934601 | 10 => 16 | 11 => 265 | 12 => 35184372089097 | 13 => 16 | 14 => 777 | 15 => 1125899906843401 | 16 => 777 | 17 => 2305843009213694729 | 18 => 16 | 19 => 3329 | 20 => 18889465931478580855041 | 21 => 16 | 22 => 0 | 23 => 16 | _ => 0
theorem XN : aK Tryz.prog aq aw 17 Tryz.f17 Ds := ao Tryz.func17 (by kernel_rfl)
def HQ : Nat → ay := fun n => match n with | 6 => ⟨[(0, false), (1, false), (2, false), (3, false), (4, false), (5, false), (6, false), (7, false)], none, [], [8, 9]⟩ | _ => default
def BE : Nat → Nat := fun n => match n with | 0 => 3 | 1 => 1027 | 2 => 16 | 3 => 35 | 4 => 16419 | 5 => 35 | 6 => 67108899 | 7 => 16 | 8 => 16 | _ => 0
theorem XM : aK Tryz.prog aq aw 18 Tryz.f18 HQ := ao Tryz.func18 (by kernel_rfl)
def HP : Nat → ay := fun _ => default
def BD : Nat → Nat := fun n => match n with | 0 => 1 | 1 => 9 | 2 => 3592 | 3 => 7688 | 4 => 3624 | 5 => 3592 | 6 => 3592 | 7 => 4 | _ => 0
theorem XL : aK Tryz.prog aq aw 19 Tryz.f19 HP := ao Tryz.func19 (by kernel_rfl)
def MF : Nat → ay := fun _ => default
def Nz : Nat → Nat := fun n => match n with | 0 => 1 | 1 => 4 | _ => 0
theorem XK : aK Tryz.prog aq aw 20 Tryz.f20 MF := ao Tryz.func20 (by kernel_rfl)
def Ab : Nat → ay := fun _ => default
def nM : Nat → Nat := fun n => match n with | 0 => 85 | 1 => 4181 | 2 => 65621 | 3 => 192 | 4 => 4194389 | 5 => 341 | 6 => 85 | 7 => 192 | _ => 0
theorem XJ : aK Tryz.prog aq aw 23 Tryz.f23 Ab := ao Tryz.func23 (by kernel_rfl)
def MA : Nat → ay := fun _ => default
def Ny : Nat → Nat := fun n => match n with | 0 => 12 | 1 => 16 | _ => 0
theorem XI : aK Tryz.prog aq aw 24 Tryz.f24 MA := ao Tryz.func24 (by kernel_rfl)
def HO : Nat → ay := fun n => match n with | 5 => ⟨[(0, false), (1, false), (2, false), (3, false), (4, false), (6, false), (10, false), (5, true), (7, true), (8, false), (9, false)], some 10, [], [11]⟩ | 18 => ⟨[(0, false), (1, false), (2, false), (3, false), (4, false), (5, false), (6, false), (7, true), (8, false), (9, true), (10, false), (11, false)], none, [2], [12]⟩ | _ => default
def iw : Nat → Nat := fun n => match n with | 0 => 3 | 1 => 35 | 2 => 99 | 3 => 65635 | 4 => 99 | 5 => 227 | 6 => 2147483875 | 7 => 483 | 8 => 995 | 9 => 34359739363 | 10 => 995 | 11 => 8796093023203 | 12 => 995 | 13 => 1251 | 14 => 1251 | 15 => 3299 | 16 => 36893488147419106531 | 17 => 3299 | 18 => 3299 | 19 => 77371252455336267181195491 | 20 => 227 | 21 => 99 | 22 => 16 | _ => 0
theorem XH : aK Tryz.prog aq aw 28 Tryz.f28 HO := ao Tryz.func28 (by kernel_rfl)
def Dr : Nat → ay := fun _ => default
def nL : Nat → Nat := fun n => match n with | 0 => 85 | 1 => 4181 | 2 => 65621 | 3 => 192 | 4 => 853 | 5 => 17179869525 | 6 => 192 | 7 => 85 | 8 => 192 | _ => 0
theorem XG : aK Tryz.prog aq aw 29 Tryz.f29 Dr := ao Tryz.func29 (by kernel_rfl)
def xy : Nat → ay := fun n => match n with | 10 => ⟨[(1, false), (2, false), (3, false), (4, false), (5, false), (6, false), (0, true), (7, true), (8, true), (9, true), (10, true)], none, [], [2000000, 11]⟩ | _ => default
def qi : Nat → Nat := fun n => match n with | 0 => 9 | 1 => 524297 | 2 => 48 | 3 => 72 | 4 => 536870984 | 5 => 48 | 6 => 328 | 7 => 15032385800 | 8 => 32212254984 | 9 => 15032386824 | 10 => 15032385800 | 11 => 15032385800 | 12 => 48 | _ => 0
theorem XF : aK Tryz.prog aq aw 30 Tryz.f30 xy := ao Tryz.func30 (by kernel_rfl)
def uz : Nat → ay := fun n => match n with | 8 => ⟨[(1, false), (2, false), (3, false), (4, false), (5, false), (6, false), (7, false), (8, false), (9, false), (10, false), (11, false), (12, false), (13, false), (14, false), (0, true), (15, true), (16, true), (17, true), (18, true)], none, [], [2000000, 19]⟩ | _ => default
def nK : Nat → Nat := fun n => match n with | 0 => 9 | 1 => 200 | 2 => 68719476808 | 3 => 48 | 4 => 328 | 5 => 840 | 6 => 2199023256392 | 7 => 840 | 8 => 840 | 9 => 48 | _ => 0
theorem XE : aK Tryz.prog aq aw 31 Tryz.f31 uz := ao Tryz.func31 (by kernel_rfl)
def HN : Nat → ay := fun n => match n with | 6 => ⟨[(0, false), (1, false), (2, false), (3, false), (4, false), (5, false), (6, false), (7, false), (8, false), (9, false), (10, false), (11, false), (12, false), (13, false), (14, false), (15, false), (16, false), (17, false), (18, false), (19, false), (20, false), (21, false)], none, [], [22, 23, 24]⟩ | _ => default
def BC : Nat → Nat := fun n => match n with | 0 => 3 | 1 => 1027 | 2 => 16 | 3 => 35 | 4 => 16419 | 5 => 35 | 6 => 2199023255587 | 7 => 16 | 8 => 16 | _ => 0
theorem XD : aK Tryz.prog aq aw 32 Tryz.f32 HN := ao Tryz.func32 (by kernel_rfl)
def HM : Nat → ay := fun n => match n with | 5 => ⟨[(0, false), (1, false), (2, false), (3, false), (4, false), (5, false), (6, false)], none, [], [7, 8]⟩ | _ => default
def F6 : Nat → Nat := fun n => match n with | 0 => 177 | 1 => 672 | 2 => 2688 | 3 => 4196992 | 4 => 448 | 5 => 448 | _ => 0
theorem XC : aK Tryz.prog aq aw 33 Tryz.f33 HM := ao Tryz.func33 (by kernel_rfl)
def HL : Nat → ay := fun n => match n with | 6 => ⟨[(0, false), (1, false), (2, false), (3, false), (4, false), (5, false), (6, false)], none, [], [7, 8]⟩ | _ => default
def xP : Nat → Nat := fun n => match n with | 0 => 149 | 1 => 644 | 2 => 2692 | 3 => 2099844 | 4 => 2692 | 5 => 1073744516 | 6 => 448 | 7 => 448 | _ => 0
theorem XB : aK Tryz.prog aq aw 34 Tryz.f34 HL := ao Tryz.func34 (by kernel_rfl)
def HK : Nat → ay := fun _ => default
def BB : Nat → Nat := fun n => match n with | 0 => 19 | 1 => 83 | 2 => 8275 | 3 => 83 | 4 => 33554515 | 5 => 48 | 6 => 48 | _ => 0
theorem XA : aK Tryz.prog aq aw 36 Tryz.f36 HK := ao Tryz.func36 (by kernel_rfl)
def xx : Nat → ay := fun n => match n with | 6 => ⟨[(0, false), (1, false), (2, false), (3, false), (4, false), (5, false), (6, false), (7, false), (8, false), (9, false), (10, false), (11, false), (12, false), (13, false), (14, false), (15, false), (16, false), (17, false), (18, false), (19, false), (20, false), (21, false), (22, false), (23, false), (24, false), (25, false)], none, [], [26, 27, 28]⟩ | _ => default
def nJ : Nat → Nat := fun n => match n with | 0 => 12 | 1 => 2199023255564 | 2 => 16 | 3 => 44 | 4 => 70368744177708 | 5 => 44 | 6 => 151115727451828646838316 | 7 => 16 | 8 => 16 | _ => 0
theorem Xz : aK Tryz.prog aq aw 37 Tryz.f37 xx := ao Tryz.func37 (by kernel_rfl)
def HJ : Nat → ay := fun _ => default
def F5 : Nat → Nat := fun n => match n with | 0 => 12 | 1 => 8204 | 2 => 16 | 3 => 16 | _ => 0
theorem Xy : aK Tryz.prog aq aw 39 Tryz.f39 HJ := ao Tryz.func39 (by kernel_rfl)
def HI : Nat → ay := fun _ => default
def xO : Nat → Nat := fun n => match n with | 0 => 9 | 1 => 1033 | 2 => 105 | 3 => 134217737 | 4 => 16 | 5 => 137 | 6 => 4294967433 | 7 => 137 | 8 => 4398046511241 | 9 => 16 | 10 => 16 | _ => 0
theorem Xx : aK Tryz.prog aq aw 40 Tryz.f40 HI := ao Tryz.func40 (by kernel_rfl)
def Sv : Nat → ay := fun n => match n with | 2 => ⟨[(0, false), (1, false), (2, false), (4, false), (5, false), (6, false), (15, false), (23, false), (24, false), (29, false), (30, false), (34, false), (35, false), (3, true), (7, false), (8, true), (9, false), (10, true), (11, true), (12, false), (13, false), (14, false), (16, true), (17, false), (18, true), (19, true), (20, false), (21, false), (22, false), (25, true), (26, false), (27, false), (28, false), (31, true), (32, false), (33, true), (36, true), (37, false), (38, false), (39, false), (40, false)], none, [], [41]⟩ | _ => default
def TL : Nat → Nat := fun n => match n with | 0 => 0 | 1 => 2 | 2 => 1 | _ => 0
theorem Xw : aK Tryz.prog aq aw 43 Tryz.f43 Sv := ao Tryz.func43 (by kernel_rfl)
def Su : Nat → ay := fun _ => default
def TK : Nat → Nat := fun n => match n with | 0 => 0 | 1 => 2 | 2 => 898 | 3 => 1922 | 4 => 906 | 5 => 898 | 6 => 898 | 7 => 1 | _ => 0
theorem Xv : aK Tryz.prog aq aw 44 Tryz.f44 Su := ao Tryz.func44 (by kernel_rfl)
def Ss : Nat → ay := fun _ => default
def TJ : Nat → Nat := fun n => match n with | 0 => 0 | 1 => 2 | 2 => 450 | 3 => 962 | 4 => 458 | 5 => 450 | 6 => 450 | 7 => 1 | _ => 0
theorem Xu : aK Tryz.prog aq aw 45 Tryz.f45 Ss := ao Tryz.func45 (by kernel_rfl)
def HH : Nat → ay := fun _ => default
def F4 : Nat → Nat := fun n => match n with | 0 => 19 | 1 => 16 | _ => 0
theorem Xt : aK Tryz.prog aq aw 46 Tryz.f46 HH := ao Tryz.func46 (by kernel_rfl)
def Mz : Nat → ay := fun _ => default
def Nx : Nat → Nat := fun n => match n with | 0 => 5 | 1 => 4 | _ => 0
theorem Xs : aK Tryz.prog aq aw 47 Tryz.f47 Mz := ao Tryz.func47 (by kernel_rfl)
def eW : Nat → ay := fun n => match n with | 7 => ⟨[(0, false), (1, false), (2, true), (3, false), (4, false)], none, [], [5, 6]⟩ | 29 => ⟨[(0, false), (1, false), (2, false), (3, false), (4, false), (5, false), (6, false), (7, true), (8, false), (9, true), (10, false)], none, [1], [11]⟩ | 35 => ⟨[(0, false), (1, false), (2, false), (3, false), (4, false), (5, false), (6, false), (7, true)], none, [], [8, 9]⟩ | _ => default
def dB : Nat → Nat := fun n => match n with | 0 => 271 | 1 => 783 | 2 => 2097935 | 3 => 783 | 4 => 4194575 | 5 => 12583183 | 6 => 12583183 | 7 => 256 | 8 => 4299161871 | 9 => 256 | 10 => 34363932943 | 11 => 34363932943 | 12 => 549755814159 | 13 => 256 | 14 => 256 | 15 => 562949957615887 | 16 => 562949957615887 | 17 => 562949957615887 | 18 => 256 | 19 => 288230376155906319 | 20 => 288230376155906319 | 21 => 256 | 22 => 37778931862957165904143 | 23 => 37778931862957165904143 | 24 => 1295 | 25 => 3343 | 26 => 7439 | 27 => 9671406556917033397656847 | 28 => 7439 | 29 => 7439 | 30 => 256 | 31 => 316912650057057350374175801615 | 32 => 8463 | 33 => 10141204801825835211973625651471 | 34 => 8463 | 35 => 256 | 36 => 332306998946228968225951765070086400 | 37 => 256 | 38 => 256 | _ => 0
theorem Xr : aK Tryz.prog aq aw 48 Tryz.f48 eW := ao Tryz.func48 (by kernel_rfl)
def HG : Nat → ay := fun _ => default
def F3 : Nat → Nat := fun n => match n with | 0 => 19 | 1 => 209 | 2 => 262225 | 3 => 48 | 4 => 48 | _ => 0
theorem Xq : aK Tryz.prog aq aw 49 Tryz.f49 HG := ao Tryz.func49 (by kernel_rfl)
def Dq : Nat → ay := fun _ => default
def xN : Nat → Nat := fun n => match n with | 0 => 2 | 1 => 2147483650 | 2 => 4 | 3 => 562949953421314 | 4 => 4 | 5 => 10 | 6 => 31525197391593482 | 7 => 67553994410557450 | 8 => 31525197391593514 | 9 => 37778963388154553303082 | 10 => 4 | 11 => 31525197391593482 | 12 => 31525197391593482 | 13 => 4 | _ => 0
theorem Xp : aK Tryz.prog aq aw 50 Tryz.f50 Dq := ao Tryz.func50 (by kernel_rfl)
def My : Nat → ay := fun _ => default
def Nw : Nat → Nat := fun n => match n with | 0 => 12 | 1 => 44 | 2 => 16 | _ => 0
theorem Xo : aK Tryz.prog aq aw 51 Tryz.f51 My := ao Tryz.func51 (by kernel_rfl)
def Mx : Nat → ay := fun n => match n with | 1 => ⟨[(0, false), (1, false), (2, false), (3, false), (4, false), (5, false), (6, false), (7, false), (8, false), (9, false), (10, false)], none, [], [11]⟩ | 2 => ⟨[(0, false), (1, false), (2, false), (3, false), (4, false), (5, false), (6, false)], none, [4], [7, 8, 9, 10]⟩ | _ => default
def Nv : Nat → Nat := fun n => match n with | 0 => 9 | 1 => 9 | 2 => 0 | _ => 0
theorem Xn : aK Tryz.prog aq aw 52 Tryz.f52 Mx := ao Tryz.func52 (by kernel_rfl)
def HF : Nat → ay := fun n => match n with | 7 => ⟨[(0, false), (1, false), (2, false), (3, false), (4, false), (5, false), (6, true), (7, false), (8, false), (9, true), (10, false)], none, [1], [11]⟩ | _ => default
def BA : Nat → Nat := fun n => match n with | 0 => 6 | 1 => 14 | 2 => 14 | 3 => 14 | 4 => 57356 | 5 => 122892 | 6 => 57388 | 7 => 57356 | 8 => 57356 | 9 => 4 | _ => 0
theorem Xm : aK Tryz.prog aq aw 53 Tryz.f53 HF := ao Tryz.func53 (by kernel_rfl)
def HE : Nat → ay := fun _ => default
def F1 : Nat → Nat := fun n => match n with | 0 => 3 | 1 => 16 | _ => 0
theorem Xl : aK Tryz.prog aq aw 54 Tryz.f54 HE := ao Tryz.func54 (by kernel_rfl)
def Mw : Nat → ay := fun _ => default
def Nu : Nat → Nat := fun n => match n with | 0 => 6 | 1 => 8 | _ => 0
theorem Xk : aK Tryz.prog aq aw 55 Tryz.f55 Mw := ao Tryz.func55 (by kernel_rfl)
def Mv : Nat → ay := fun n => match n with | 1 => ⟨[(0, false), (1, false), (2, false), (3, false), (4, false), (5, false), (6, false), (7, false), (8, false), (9, false), (10, false), (11, false)], none, [], [12]⟩ | _ => default
def Nt : Nat → Nat := fun n => match n with | 0 => 5 | 1 => 5 | 2 => 0 | _ => 0
theorem Xj : aK Tryz.prog aq aw 56 Tryz.f56 Mv := ao Tryz.func56 (by kernel_rfl)
def HD : Nat → ay := fun _ => default
def F0 : Nat → Nat := fun n => match n with | 0 => 2 | 1 => 34 | 2 => 4 | 3 => 16384 | 4 => 4 | 5 => 4 | _ => 0
theorem Xi : aK Tryz.prog aq aw 57 Tryz.f57 HD := ao Tryz.func57 (by kernel_rfl)
def Mu : Nat → ay := fun _ => default
def Ns : Nat → Nat := fun n => match n with | 0 => 6 | 1 => 4 | _ => 0
theorem Xh : aK Tryz.prog aq aw 58 Tryz.f58 Mu := ao Tryz.func58 (by kernel_rfl)
def HC : Nat → ay := fun _ => default
def FZ : Nat → Nat := fun n => match n with | 0 => 9 | 1 => 104 | 2 => 16 | _ => 0
theorem Xg : aK Tryz.prog aq aw 59 Tryz.f59 HC := ao Tryz.func59 (by kernel_rfl)
def Mt : Nat → ay := fun _ => default
def Nr : Nat → Nat := fun n => match n with | 0 => 28 | 1 => 16 | _ => 0
theorem Xf : aK Tryz.prog aq aw 60 Tryz.f60 Mt := ao Tryz.func60 (by kernel_rfl)
def uy : Nat → ay := fun n => match n with | 12 => ⟨[(0, false), (1, false), (2, false), (3, false), (4, false), (5, false), (6, false), (7, false), (8, false), (9, false)], none, [], [10, 11]⟩ | _ => default
def mb : Nat → Nat := fun n => match n with | 0 => 12 | 1 => 140 | 2 => 16 | 3 => 524300 | 4 => 16 | 5 => 2147483660 | 6 => 16 | 7 => 8796093022220 | 8 => 16 | 9 => 44 | 10 => 9223372036854775852 | 11 => 44 | 12 => 108 | 13 => 302231454903657293676652 | 14 => 16 | 15 => 16 | _ => 0
theorem Xe : aK Tryz.prog aq aw 61 Tryz.f61 uy := ao Tryz.func61 (by kernel_rfl)
def Ms : Nat → ay := fun n => match n with | 1 => ⟨[(0, false), (1, false), (2, false), (3, false), (4, false), (5, false), (6, false), (7, false), (8, false), (9, false)], none, [], []⟩ | 4 => ⟨[(0, false), (1, false), (2, false), (3, false), (4, false), (5, false), (6, false), (7, false), (8, false), (9, false), (10, false), (11, false)], none, [], [12, 13]⟩ | _ => default
def Nq : Nat → Nat := fun n => match n with | 0 => 3 | 1 => 16387 | 2 => 16 | 3 => 3 | 4 => 16 | _ => 0
theorem Xd : aK Tryz.prog aq aw 64 Tryz.f64 Ms := ao Tryz.func64 (by kernel_rfl)
def ux : Nat → ay := fun n => match n with | 5 => ⟨[(0, false), (1, false), (2, true), (3, false), (4, false)], none, [], [5, 6]⟩ | _ => default
def qh : Nat → Nat := fun n => match n with | 0 => 271 | 1 => 783 | 2 => 4879 | 3 => 256 | 4 => 8389391 | 5 => 256 | 6 => 4294967567 | 7 => 256 | 8 => 256 | _ => 0
theorem Xc : aK Tryz.prog aq aw 65 Tryz.f65 ux := ao Tryz.func65 (by kernel_rfl)
def Mr : Nat → ay := fun _ => default
def Np : Nat → Nat := fun n => match n with | 0 => 22 | 1 => 16 | _ => 0
theorem Xb : aK Tryz.prog aq aw 66 Tryz.f66 Mr := ao Tryz.func66 (by kernel_rfl)
def xw : Nat → ay := fun _ => default
def jT : Nat → Nat := fun n => match n with | 0 => 3 | 1 => 387 | 2 => 899 | 3 => 419 | 4 => 65955 | 5 => 16 | 6 => 387 | 7 => 16 | _ => 0
theorem Xa : aK Tryz.prog aq aw 67 Tryz.f67 xw := ao Tryz.func67 (by kernel_rfl)
def Mq : Nat → ay := fun _ => default
def No : Nat → Nat := fun n => match n with | 0 => 6 | 1 => 8 | _ => 0
theorem W9 : aK Tryz.prog aq aw 68 Tryz.f68 Mq := ao Tryz.func68 (by kernel_rfl)
def Aa : Nat → ay := fun _ => default
def xM : Nat → Nat := fun n => match n with | 0 => 3 | 1 => 16 | _ => 0
theorem W8 : aK Tryz.prog aq aw 69 Tryz.f69 Aa := ao Tryz.func69 (by kernel_rfl)
def Mp : Nat → ay := fun _ => default
def Nn : Nat → Nat := fun n => match n with | 0 => 6 | 1 => 8 | _ => 0
theorem W7 : aK Tryz.prog aq aw 70 Tryz.f70 Mp := ao Tryz.func70 (by kernel_rfl)
def Mo : Nat → ay := fun _ => default
def Nm : Nat → Nat := fun n => match n with | 0 => 1 | 1 => 1 | _ => 0
theorem W6 : aK Tryz.prog aq aw 82 Tryz.f82 Mo := ao Tryz.func82 (by kernel_rfl)
def Dp : Nat → ay := fun n => match n with | 9 => ⟨[(0, false), (1, false), (2, false), (3, false), (4, false), (5, false), (6, false), (7, true), (8, false), (9, true), (10, false)], none, [1], [11]⟩ | _ => default
def xL : Nat → Nat := fun n => match n with | 0 => 271 | 1 => 783 | 2 => 525071 | 3 => 256 | 4 => 1295 | 5 => 3343 | 6 => 7439 | 7 => 68719484175 | 8 => 7439 | 9 => 7439 | 10 => 256 | _ => 0
theorem W5 : aK Tryz.prog aq aw 83 Tryz.f83 Dp := ao Tryz.func83 (by kernel_rfl)
def Mn : Nat → ay := fun _ => default
def Nl : Nat → Nat := fun n => match n with | 0 => 5 | 1 => 4 | _ => 0
theorem W4 : aK Tryz.prog aq aw 84 Tryz.f84 Mn := ao Tryz.func84 (by kernel_rfl)
def Mm : Nat → ay := fun _ => default
def Nk : Nat → Nat := fun n => match n with | 0 => 28 | 1 => 16 | _ => 0
theorem W3 : aK Tryz.prog aq aw 85 Tryz.f85 Mm := ao Tryz.func85 (by kernel_rfl)
def Ml : Nat → ay := fun _ => default
def Nj : Nat → Nat := fun n => match n with | 0 => 1 | 1 => 1 | _ => 0
theorem W2 : aK Tryz.prog aq aw 86 Tryz.f86 Ml := ao Tryz.func86 (by kernel_rfl)
def Mk : Nat → ay := fun _ => default
def Ni : Nat → Nat := fun n => match n with | 0 => 1 | 1 => 4 | _ => 0
theorem W1 : aK Tryz.prog aq aw 87 Tryz.f87 Mk := ao Tryz.func87 (by kernel_rfl)
def Mj : Nat → ay := fun _ => default
def Nh : Nat → Nat := fun n => match n with | 0 => 3 | 1 => 16 | _ => 0
theorem W0 : aK Tryz.prog aq aw 88 Tryz.f88 Mj := ao Tryz.func88 (by kernel_rfl)
def Mi : Nat → ay := fun _ => default
def Ng : Nat → Nat := fun n => match n with | 0 => 12 | 1 => 16 | _ => 0
theorem WZ : aK Tryz.prog aq aw 89 Tryz.f89 Mi := ao Tryz.func89 (by kernel_rfl)
def Mh : Nat → ay := fun _ => default
def Nf : Nat → Nat := fun n => match n with | 0 => 12 | 1 => 16 | _ => 0
theorem WY : aK Tryz.prog aq aw 90 Tryz.f90 Mh := ao Tryz.func90 (by kernel_rfl)
def Mg : Nat → ay := fun _ => default
def Nd : Nat → Nat := fun n => match n with | 0 => 12 | 1 => 16 | _ => 0
theorem WX : aK Tryz.prog aq aw 91 Tryz.f91 Mg := ao Tryz.func91 (by kernel_rfl)
def uw : Nat → ay := fun _ => default
def ma : Nat → Nat := fun n => match n with | 0 => 7 | 1 => 16391 | 2 => 64 | 3 => 229382 | 4 => 491526 | 5 => 229766 | 6 => 230150 | 7 => 1073971206 | 8 => 64 | 9 => 229382 | 10 => 64 | _ => 0
theorem WW : aK Tryz.prog aq aw 92 Tryz.f92 uw := ao Tryz.func92 (by kernel_rfl)
def Dn : Nat → ay := fun n => match n with | 3 => ⟨[(0, false), (1, false), (2, false), (3, false), (4, false), (5, false), (6, false), (7, true), (8, true), (9, false), (10, false), (11, false), (12, false), (13, false), (14, false), (15, false)], none, [], [16, 17, 18]⟩ | 8 => ⟨[(0, false), (1, false), (2, false), (3, false), (4, false), (5, false), (6, true), (7, false), (8, false), (9, false), (10, false), (11, false), (12, false), (13, false), (14, false), (15, false), (16, false)], none, [], [17, 18, 19]⟩ | 13 => ⟨[(0, false), (1, false), (2, false), (3, false), (4, false), (5, false), (6, false), (7, false), (8, false), (9, false), (10, false), (11, false), (12, false)], none, [], []⟩ | _ => default
def nI : Nat → Nat := fun n => match n with | 0 => 2 | 1 => 536870914 | 2 => 4 | 3 => 281474976710658 | 4 => 4 | 5 => 10 | 6 => 9007199254741002 | 7 => 10 | 8 => 37778931862957161709578 | 9 => 4 | 10 => 26 | 11 => 302231454903657293676570 | 12 => 26 | 13 => 9903520314283042199192993818 | 14 => 4 | 15 => 4 | _ => 0
theorem WV : aK Tryz.prog aq aw 93 Tryz.f93 Dn := ao Tryz.func93 (by kernel_rfl)
def Dm : Nat → ay := fun n => match n with | 11 => ⟨[(0, false), (1, false), (2, false), (3, false), (4, false), (5, false), (8, false), (6, true), (7, false), (9, true), (10, false), (11, true), (12, false)], none, [1], [13]⟩ | _ => default
def xK : Nat → Nat := fun n => match n with | 0 => 78 | 1 => 206 | 2 => 206 | 3 => 65742 | 4 => 974 | 5 => 67109838 | 6 => 64 | 7 => 206 | 8 => 120259084494 | 9 => 257698037966 | 10 => 120259087566 | 11 => 120259084494 | 12 => 120259084494 | 13 => 64 | _ => 0
theorem WU : aK Tryz.prog aq aw 94 Tryz.f94 Dm := ao Tryz.func94 (by kernel_rfl)
def Dl : Nat → ay := fun _ => default
def Bz : Nat → Nat := fun n => match n with | 0 => 7 | 1 => 135 | 2 => 524421 | 3 => 96 | 4 => 96 | _ => 0
theorem WT : aK Tryz.prog aq aw 95 Tryz.f95 Dl := ao Tryz.func95 (by kernel_rfl)
def Sr : Nat → ay := fun _ => default
def TH : Nat → Nat := fun n => match n with | 0 => 1 | 1 => 8 | 2 => 4 | 3 => 4 | _ => 0
theorem WS : aK Tryz.prog aq aw 96 Tryz.f96 Sr := ao Tryz.func96 (by kernel_rfl)
def xv : Nat → ay := fun n => match n with | 8 => ⟨[(0, false), (1, false), (2, false), (3, false), (4, false), (5, false), (6, false), (7, false), (8, false), (9, false), (10, false), (11, true), (12, false), (13, true), (14, false), (15, true), (16, false)], none, [1], [17]⟩ | _ => default
def qg : Nat → Nat := fun n => match n with | 0 => 78 | 1 => 67108942 | 2 => 64 | 3 => 206 | 4 => 206 | 5 => 462 | 6 => 1099511628238 | 7 => 462 | 8 => 462 | 9 => 64 | _ => 0
theorem WR : aK Tryz.prog aq aw 98 Tryz.f98 xv := ao Tryz.func98 (by kernel_rfl)
def uv : Nat → ay := fun _ => default
def iu : Nat → Nat := fun n => match n with | 0 => 3 | 1 => 387 | 2 => 899 | 3 => 419 | 4 => 65955 | 5 => 16 | 6 => 387 | 7 => 16 | _ => 0
theorem WQ : aK Tryz.prog aq aw 99 Tryz.f99 uv := ao Tryz.func99 (by kernel_rfl)
def MS : Nat → ay := fun _ => default
def QN : Nat → Nat := fun n => match n with | 0 => 1 | 1 => 4 | _ => 0
theorem US : aK Tryz.prog aq aw 111 Tryz.f111 MS := ao Tryz.func111 (by kernel_rfl)
def Bq : Nat → ay := fun _ => default
def vQ : Nat → Nat := fun n => match n with | 0 => 3 | 1 => 35 | 2 => 547 | 3 => 35 | 4 => 131107 | 5 => 16 | 6 => 16 | _ => 0
theorem UR : aK Tryz.prog aq aw 112 Tryz.f112 Bq := ao Tryz.func112 (by kernel_rfl)
def MR : Nat → ay := fun _ => default
def QM : Nat → Nat := fun n => match n with | 0 => 1 | 1 => 4 | _ => 0
theorem UQ : aK Tryz.prog aq aw 113 Tryz.f113 MR := ao Tryz.func113 (by kernel_rfl)
def MQ : Nat → ay := fun _ => default
def QL : Nat → Nat := fun n => match n with | 0 => 1 | 1 => 4 | _ => 0
theorem UP : aK Tryz.prog aq aw 114 Tryz.f114 MQ := ao Tryz.func114 (by kernel_rfl)
def Bp : Nat → ay := fun _ => default
def kB : Nat → Nat := fun n => match n with | 0 => 3 | 1 => 387 | 2 => 899 | 3 => 419 | 4 => 65955 | 5 => 16 | 6 => 387 | 7 => 16 | _ => 0
theorem UO : aK Tryz.prog aq aw 115 Tryz.f115 Bp := ao Tryz.func115 (by kernel_rfl)
def FO : Nat → ay := fun _ => default
def Im : Nat → Nat := fun n => match n with | 0 => 2 | 1 => 10 | 2 => 4 | 3 => 4096 | 4 => 4 | 5 => 4 | _ => 0
theorem UN : aK Tryz.prog aq aw 116 Tryz.f116 FO := ao Tryz.func116 (by kernel_rfl)
def FN : Nat → ay := fun _ => default
def Il : Nat → Nat := fun n => match n with | 0 => 2 | 1 => 4 | _ => 0
theorem UM : aK Tryz.prog aq aw 117 Tryz.f117 FN := ao Tryz.func117 (by kernel_rfl)
def FM : Nat → ay := fun _ => default
def Ik : Nat → Nat := fun n => match n with | 0 => 3 | 1 => 16 | _ => 0
theorem UL : aK Tryz.prog aq aw 118 Tryz.f118 FM := ao Tryz.func118 (by kernel_rfl)
def Bo : Nat → ay := fun _ => default
def BG : Nat → Nat := fun n => match n with | 0 => 2 | 1 => 10 | 2 => 8 | 3 => 4 | _ => 0
theorem UK : aK Tryz.prog aq aw 119 Tryz.f119 Bo := ao Tryz.func119 (by kernel_rfl)
def FL : Nat → ay := fun _ => default
def Ij : Nat → Nat := fun n => match n with | 0 => 3 | 1 => 8 | _ => 0
theorem UJ : aK Tryz.prog aq aw 120 Tryz.f120 FL := ao Tryz.func120 (by kernel_rfl)
def Bn : Nat → ay := fun n => match n with | 1 => ⟨[(0, false), (1, false), (2, false), (3, false), (5, false), (6, false), (7, false), (8, false), (10, false), (11, false), (12, false), (13, false), (15, false), (16, false), (17, false), (18, false), (19, false), (20, false), (4, true), (9, true), (14, true)], none, [], [21, 22, 23, 24]⟩ | 5 => ⟨[(0, false), (1, false), (2, false), (3, false), (4, false), (5, false), (6, false), (7, false), (8, false), (9, false)], none, [], [10, 11]⟩ | _ => default
def mf : Nat → Nat := fun n => match n with | 0 => 12 | 1 => 44 | 2 => 108 | 3 => 549755813996 | 4 => 108 | 5 => 108 | 6 => 16 | _ => 0
theorem UI : aK Tryz.prog aq aw 121 Tryz.f121 Bn := ao Tryz.func121 (by kernel_rfl)
def xC : Nat → ay := fun _ => default
def rm : Nat → Nat := fun n => match n with | 0 => 1 | 1 => 131073 | 2 => 4 | 3 => 9 | 4 => 2097161 | 5 => 9 | 6 => 17179869193 | 7 => 4 | 8 => 4 | _ => 0
theorem UH : aK Tryz.prog aq aw 122 Tryz.f122 xC := ao Tryz.func122 (by kernel_rfl)
def FK : Nat → ay := fun _ => default
def Ii : Nat → Nat := fun n => match n with | 0 => 1 | 1 => 4 | _ => 0
theorem UG : aK Tryz.prog aq aw 123 Tryz.f123 FK := ao Tryz.func123 (by kernel_rfl)
def Bm : Nat → ay := fun _ => default
def BF : Nat → Nat := fun n => match n with | 0 => 6 | 1 => 38 | 2 => 16 | _ => 0
theorem UF : aK Tryz.prog aq aw 124 Tryz.f124 Bm := ao Tryz.func124 (by kernel_rfl)
def Bl : Nat → ay := fun n => match n with | 6 => ⟨[(0, false), (1, false), (2, false), (3, true), (4, false), (5, true), (6, false)], none, [1], [7]⟩ | _ => default
def vP : Nat → Nat := fun n => match n with | 0 => 6 | 1 => 14 | 2 => 14 | 3 => 3596 | 4 => 7692 | 5 => 3628 | 6 => 3596 | 7 => 3596 | 8 => 4 | _ => 0
theorem UE : aK Tryz.prog aq aw 125 Tryz.f125 Bl := ao Tryz.func125 (by kernel_rfl)
def FJ : Nat → ay := fun _ => default
def Ih : Nat → Nat := fun n => match n with | 0 => 6 | 1 => 2048 | 2 => 16 | 3 => 16 | _ => 0
theorem UD : aK Tryz.prog aq aw 126 Tryz.f126 FJ := ao Tryz.func126 (by kernel_rfl)
def FI : Nat → ay := fun _ => default
def Ig : Nat → Nat := fun n => match n with | 0 => 6 | 1 => 2048 | 2 => 16 | 3 => 16 | _ => 0
theorem UC : aK Tryz.prog aq aw 127 Tryz.f127 FI := ao Tryz.func127 (by kernel_rfl)
def MO : Nat → ay := fun _ => default
def QK : Nat → Nat := fun n => match n with | 0 => 1 | 1 => 4 | _ => 0
theorem UB : aK Tryz.prog aq aw 135 Tryz.f135 MO := ao Tryz.func135 (by kernel_rfl)
def Bk : Nat → ay := fun _ => default
def vO : Nat → Nat := fun n => match n with | 0 => 2 | 1 => 10 | 2 => 904 | 3 => 1928 | 4 => 936 | 5 => 904 | 6 => 904 | 7 => 4 | _ => 0
theorem UA : aK Tryz.prog aq aw 136 Tryz.f136 Bk := ao Tryz.func136 (by kernel_rfl)
def Bj : Nat → ay := fun _ => default
def vN : Nat → Nat := fun n => match n with | 0 => 2 | 1 => 10 | 2 => 904 | 3 => 1928 | 4 => 936 | 5 => 904 | 6 => 904 | 7 => 4 | _ => 0
theorem Uz : aK Tryz.prog aq aw 137 Tryz.f137 Bj := ao Tryz.func137 (by kernel_rfl)
def FH : Nat → ay := fun _ => default
def Ie : Nat → Nat := fun n => match n with | 0 => 2 | 1 => 4 | _ => 0
theorem Uy : aK Tryz.prog aq aw 138 Tryz.f138 FH := ao Tryz.func138 (by kernel_rfl)
def xB : Nat → ay := fun n => match n with | 6 => ⟨[(0, false), (1, false), (2, false), (3, false), (4, true), (5, false)], none, [], [6, 7]⟩ | _ => default
def oV : Nat → Nat := fun n => match n with | 0 => 6 | 1 => 32774 | 2 => 16 | 3 => 917510 | 4 => 1966086 | 5 => 917606 | 6 => 2148401158 | 7 => 16 | 8 => 917510 | 9 => 16 | _ => 0
theorem Ux : aK Tryz.prog aq aw 139 Tryz.f139 xB := ao Tryz.func139 (by kernel_rfl)
def FG : Nat → ay := fun _ => default
def Ic : Nat → Nat := fun n => match n with | 0 => 2 | 1 => 4 | _ => 0
theorem Uw : aK Tryz.prog aq aw 140 Tryz.f140 FG := ao Tryz.func140 (by kernel_rfl)
def Bi : Nat → ay := fun _ => default
def rl : Nat → Nat := fun n => match n with | 0 => 3 | 1 => 387 | 2 => 899 | 3 => 419 | 4 => 65955 | 5 => 16 | 6 => 387 | 7 => 16 | _ => 0
theorem Uv : aK Tryz.prog aq aw 141 Tryz.f141 Bi := ao Tryz.func141 (by kernel_rfl)
def sU : Nat → ay := fun n => match n with | 6 => ⟨[(0, false), (1, false), (2, false), (3, false), (6, false), (4, true), (5, false)], none, [], [7]⟩ | _ => default
def oU : Nat → Nat := fun n => match n with | 0 => 14 | 1 => 65550 | 2 => 14 | 3 => 117440526 | 4 => 251658254 | 5 => 117440718 | 6 => 117440526 | 7 => 117440526 | _ => 0
theorem Uu : aK Tryz.prog aq aw 142 Tryz.f142 sU := ao Tryz.func142 (by kernel_rfl)
def Bh : Nat → ay := fun _ => default
def me : Nat → Nat := fun n => match n with | 0 => 1 | 1 => 9 | 2 => 456 | 3 => 968 | 4 => 488 | 5 => 16872 | 6 => 4 | 7 => 456 | 8 => 4 | _ => 0
theorem Ut : aK Tryz.prog aq aw 143 Tryz.f143 Bh := ao Tryz.func143 (by kernel_rfl)
def FF : Nat → ay := fun _ => default
def Ib : Nat → Nat := fun n => match n with | 0 => 3 | 1 => 35 | 2 => 99 | 3 => 2115 | 4 => 4096 | 5 => 16 | 6 => 16 | 7 => 8195 | 8 => 16 | 9 => 65539 | 10 => 16 | 11 => 524288 | 12 => 16 | 13 => 16 | _ => 0
theorem Us : aK Tryz.prog aq aw 144 Tryz.f144 FF := ao Tryz.func144 (by kernel_rfl)
def FE : Nat → ay := fun _ => default
def Ia : Nat → Nat := fun n => match n with | 0 => 3 | 1 => 35 | 2 => 99 | 3 => 2115 | 4 => 4096 | 5 => 16 | 6 => 16 | 7 => 8195 | 8 => 16 | 9 => 65539 | 10 => 16 | 11 => 524288 | 12 => 16 | 13 => 16 | _ => 0
theorem Ur : aK Tryz.prog aq aw 145 Tryz.f145 FE := ao Tryz.func145 (by kernel_rfl)
def MM : Nat → ay := fun _ => default
def QJ : Nat → Nat := fun n => match n with | 0 => 1 | 1 => 4 | _ => 0
theorem Uq : aK Tryz.prog aq aw 146 Tryz.f146 MM := ao Tryz.func146 (by kernel_rfl)
def ML : Nat → ay := fun _ => default
def QI : Nat → Nat := fun n => match n with | 0 => 1 | 1 => 4 | _ => 0
theorem Uo : aK Tryz.prog aq aw 147 Tryz.f147 ML := ao Tryz.func147 (by kernel_rfl)
def FD : Nat → ay := fun _ => default
def H9 : Nat → Nat := fun n => match n with | 0 => 2 | 1 => 4 | _ => 0
theorem Un : aK Tryz.prog aq aw 148 Tryz.f148 FD := ao Tryz.func148 (by kernel_rfl)
def FC : Nat → ay := fun _ => default
def H8 : Nat → Nat := fun n => match n with | 0 => 2 | 1 => 10 | 2 => 4 | 3 => 4096 | 4 => 4 | 5 => 4 | _ => 0
theorem Um : aK Tryz.prog aq aw 149 Tryz.f149 FC := ao Tryz.func149 (by kernel_rfl)
def Bg : Nat → ay := fun _ => default
def rk : Nat → Nat := fun n => match n with | 0 => 2 | 1 => 1026 | 2 => 4 | 3 => 10 | 4 => 32778 | 5 => 10 | 6 => 16777226 | 7 => 4 | 8 => 4 | _ => 0
theorem Ul : aK Tryz.prog aq aw 150 Tryz.f150 Bg := ao Tryz.func150 (by kernel_rfl)
def FB : Nat → ay := fun _ => default
def H7 : Nat → Nat := fun n => match n with | 0 => 2 | 1 => 1048578 | 2 => 4 | 3 => 4194306 | 4 => 12582914 | 5 => 12582914 | 6 => 4 | 7 => 1077936130 | 8 => 4 | 9 => 4503599631564802 | 10 => 4 | 11 => 288230376155906050 | 12 => 4 | 13 => 18446744073713745922 | 14 => 4 | 15 => 1208925819614629174706178 | 16 => 4 | 17 => 4 | _ => 0
theorem Uk : aK Tryz.prog aq aw 167 Tryz.f167 FB := ao Tryz.func167 (by kernel_rfl)
def FA : Nat → ay := fun _ => default
def H6 : Nat → Nat := fun n => match n with | 0 => 2 | 1 => 4 | _ => 0
theorem Uj : aK Tryz.prog aq aw 168 Tryz.f168 FA := ao Tryz.func168 (by kernel_rfl)
def Fz : Nat → ay := fun _ => default
def H5 : Nat → Nat := fun n => match n with | 0 => 2 | 1 => 4 | _ => 0
theorem Ui : aK Tryz.prog aq aw 169 Tryz.f169 Fz := ao Tryz.func169 (by kernel_rfl)
def xA : Nat → ay := fun _ => default
def vM : Nat → Nat := fun n => match n with | 0 => 51 | 1 => 65555 | 2 => 0 | _ => 0
theorem Uh : aK Tryz.prog aq aw 170 Tryz.f170 xA := ao Tryz.func170 (by kernel_rfl)
def Fy : Nat → ay := fun _ => default
def H0 : Nat → Nat := fun n => match n with | 0 => 1 | 1 => 4 | _ => 0
theorem Ug : aK Tryz.prog aq aw 171 Tryz.f171 Fy := ao Tryz.func171 (by kernel_rfl)
def Fx : Nat → ay := fun _ => default
def HZ : Nat → Nat := fun n => match n with | 0 => 1 | 1 => 4 | _ => 0
theorem Uf : aK Tryz.prog aq aw 172 Tryz.f172 Fx := ao Tryz.func172 (by kernel_rfl)
def MJ : Nat → ay := fun _ => default
def QH : Nat → Nat := fun n => match n with | 0 => 1 | 1 => 4 | _ => 0
theorem Ue : aK Tryz.prog aq aw 173 Tryz.f173 MJ := ao Tryz.func173 (by kernel_rfl)
def sT : Nat → ay := fun n => match n with | 6 => ⟨[(0, false), (1, false), (2, false), (3, false), (4, false), (5, false), (6, false), (7, false), (10, false), (8, true), (9, false)], none, [], [11, 12]⟩ | _ => default
def mc : Nat → Nat := fun n => match n with | 0 => 14 | 1 => 65550 | 2 => 14 | 3 => 142 | 4 => 134217870 | 5 => 142 | 6 => 142 | 7 => 64 | _ => 0
theorem Ud : aK Tryz.prog aq aw 174 Tryz.f174 sT := ao Tryz.func174 (by kernel_rfl)
def Bf : Nat → ay := fun _ => default
def rj : Nat → Nat := fun n => match n with | 0 => 2 | 1 => 10 | 2 => 26 | 3 => 538 | 4 => 26 | 5 => 26 | 6 => 4 | _ => 0
theorem Uc : aK Tryz.prog aq aw 175 Tryz.f175 Bf := ao Tryz.func175 (by kernel_rfl)
def Be : Nat → ay := fun _ => default
def ri : Nat → Nat := fun n => match n with | 0 => 2 | 1 => 10 | 2 => 26 | 3 => 538 | 4 => 26 | 5 => 26 | 6 => 4 | _ => 0
theorem Ub : aK Tryz.prog aq aw 176 Tryz.f176 Be := ao Tryz.func176 (by kernel_rfl)
def eF : Nat → ay := fun _ => default
def cU : Nat → Nat := fun n => match n with | 0 => 2 | 1 => 10 | 2 => 67108874 | 3 => 4 | 4 => 268435466 | 5 => 4 | 6 => 805306378 | 7 => 805306378 | 8 => 4 | 9 => 17448304650 | 10 => 4 | 11 => 281475245146122 | 12 => 4611686018427387914 | 13 => 4 | 14 => 26 | 15 => 36893488147419103258 | 16 => 26 | 17 => 18889465931478580854810 | 18 => 4 | 19 => 37778931862957430145034 | 20 => 302231454903657293676554 | 21 => 4 | 22 => 604462909807314855788554 | 23 => 4835703278458516698824714 | 24 => 4 | 25 => 9671406556917033397649418 | 26 => 19807040628566084398385987594 | 27 => 4 | 28 => 42 | 29 => 158456325028528675187087900714 | 30 => 42 | 31 => 81129638414606681695789005144106 | 32 => 4 | 33 => 4 | _ => 0
theorem Ua : aK Tryz.prog aq aw 177 Tryz.f177 eF := ao Tryz.func177 (by kernel_rfl)
def Fw : Nat → ay := fun _ => default
def HY : Nat → Nat := fun n => match n with | 0 => 2 | 1 => 4 | _ => 0
theorem T9 : aK Tryz.prog aq aw 178 Tryz.f178 Fw := ao Tryz.func178 (by kernel_rfl)
def MI : Nat → ay := fun _ => default
def QG : Nat → Nat := fun n => match n with | 0 => 3 | 1 => 67 | 2 => 451 | 3 => 33219 | 4 => 963 | 5 => 134218691 | 6 => 451 | 7 => 451 | 8 => 48 | _ => 0
theorem T8 : aK Tryz.prog aq aw 190 Tryz.f190 MI := ao Tryz.func190 (by kernel_rfl)
def MH : Nat → ay := fun n => match n with | 11 => ⟨[(0, false), (1, false), (2, false), (3, false), (4, false), (5, false), (6, false), (7, false)], none, [], [8]⟩ | 15 => ⟨[(0, false), (1, false), (2, false), (3, false), (4, false), (5, false), (6, false), (7, false)], none, [], [8]⟩ | _ => default
def QF : Nat → Nat := fun n => match n with | 0 => 7 | 1 => 7 | 2 => 135 | 3 => 65671 | 4 => 64 | 5 => 391 | 6 => 4194695 | 7 => 64 | 8 => 2147484039 | 9 => 647 | 10 => 643 | 11 => 512 | 12 => 64 | 13 => 391 | 14 => 295147905179352826247 | 15 => 7 | 16 => 1 | 17 => 64 | 18 => 131 | 19 => 1 | 20 => 64 | _ => 0
theorem T7 : aK Tryz.prog aq aw 191 Tryz.f191 MH := ao Tryz.func191 (by kernel_rfl)
def xz : Nat → ay := fun n => match n with | 6 => ⟨[(0, false), (1, false), (2, false), (3, false), (5, false), (6, false), (8, false), (9, false), (10, false), (4, true), (7, true)], none, [], [2000000, 11, 12]⟩ | _ => default
def rh : Nat → Nat := fun n => match n with | 0 => 3 | 1 => 35 | 2 => 131107 | 3 => 35 | 4 => 2147483683 | 5 => 16 | 6 => 16 | _ => 0
theorem T6 : aK Tryz.prog aq aw 192 Tryz.f192 xz := ao Tryz.func192 (by kernel_rfl)
def MG : Nat → ay := fun _ => default
def QE : Nat → Nat := fun n => match n with | 0 => 3 | 1 => 16 | _ => 0
theorem T5 : aK Tryz.prog aq aw 199 Tryz.f199 MG := ao Tryz.func199 (by kernel_rfl)
def ME : Nat → ay := fun _ => default
def QD : Nat → Nat := fun n => match n with | 0 => 1 | 1 => 4 | _ => 0
theorem T4 : aK Tryz.prog aq aw 200 Tryz.f200 ME := ao Tryz.func200 (by kernel_rfl)
def MD : Nat → ay := fun _ => default
def QC : Nat → Nat := fun n => match n with | 0 => 0 | _ => 0
theorem T3 : aK Tryz.prog aq aw 202 Tryz.f202 MD := ao Tryz.func202 (by kernel_rfl)
def MC : Nat → ay := fun _ => default
def QB : Nat → Nat := fun n => match n with | 0 => 3 | 1 => 1 | 2 => 0 | _ => 0
theorem T2 : aK Tryz.prog aq aw 204 Tryz.f204 MC := ao Tryz.func204 (by kernel_rfl)
def MB : Nat → ay := fun n => match n with | 3 => ⟨[(0, false), (1, false), (2, false), (3, false), (4, false), (5, false), (6, false), (7, false), (8, false), (9, false), (10, false), (11, false), (12, false), (13, true), (14, false), (15, true)], none, [], []⟩ | _ => default
def QA : Nat → Nat := fun n => match n with | 0 => 13 | 1 => 525 | 2 => 13 | 3 => 13 | _ => 0
theorem T1 : aK Tryz.prog aq aw 206 Tryz.f206 MB := ao Tryz.func206 (by kernel_rfl)
noncomputable def Gr : aY := (.node (.node (.node (.node (.node (.node (.node .nil 6 Tryz.f6 Qj DM .nil) 9 Tryz.f9 Tv Sy (.node .nil 10 Tryz.f10 HS BH .nil)) 11 Tryz.f11 Sw TM (.node (.node .nil 13 Tryz.f13 MP NC .nil) 14 Tryz.f14 MN NB (.node .nil 15 Tryz.f15 MK NA .nil))) 16 Tryz.f16 HR F7 (.node (.node (.node .nil 17 Tryz.f17 Ds sY .nil) 18 Tryz.f18 HQ BE (.node .nil 19 Tryz.f19 HP BD .nil)) 20 Tryz.f20 MF Nz (.node (.node .nil 23 Tryz.f23 Ab nM .nil) 24 Tryz.f24 MA Ny (.node .nil 28 Tryz.f28 HO iw .nil)))) 29 Tryz.f29 Dr nL (.node (.node (.node (.node .nil 30 Tryz.f30 xy qi .nil) 31 Tryz.f31 uz nK (.node .nil 32 Tryz.f32 HN BC .nil)) 33 Tryz.f33 HM F6 (.node (.node .nil 34 Tryz.f34 HL xP .nil) 36 Tryz.f36 HK BB (.node .nil 37 Tryz.f37 xx nJ .nil))) 39 Tryz.f39 HJ F5 (.node (.node (.node .nil 40 Tryz.f40 HI xO .nil) 43 Tryz.f43 Sv TL (.node .nil 44 Tryz.f44 Su TK .nil)) 45 Tryz.f45 Ss TJ (.node (.node .nil 46 Tryz.f46 HH F4 .nil) 47 Tryz.f47 Mz Nx .nil)))) 48 Tryz.f48 eW dB (.node (.node (.node (.node (.node .nil 49 Tryz.f49 HG F3 .nil) 50 Tryz.f50 Dq xN (.node .nil 51 Tryz.f51 My Nw .nil)) 52 Tryz.f52 Mx Nv (.node (.node .nil 53 Tryz.f53 HF BA .nil) 54 Tryz.f54 HE F1 (.node .nil 55 Tryz.f55 Mw Nu .nil))) 56 Tryz.f56 Mv Nt (.node (.node (.node .nil 57 Tryz.f57 HD F0 .nil) 58 Tryz.f58 Mu Ns (.node .nil 59 Tryz.f59 HC FZ .nil)) 60 Tryz.f60 Mt Nr (.node (.node .nil 61 Tryz.f61 uy mb .nil) 64 Tryz.f64 Ms Nq .nil))) 65 Tryz.f65 ux qh (.node (.node (.node (.node .nil 66 Tryz.f66 Mr Np .nil) 67 Tryz.f67 xw jT (.node .nil 68 Tryz.f68 Mq No .nil)) 69 Tryz.f69 Aa xM (.node (.node .nil 70 Tryz.f70 Mp Nn .nil) 82 Tryz.f82 Mo Nm (.node .nil 83 Tryz.f83 Dp xL .nil))) 84 Tryz.f84 Mn Nl (.node (.node (.node .nil 85 Tryz.f85 Mm Nk .nil) 86 Tryz.f86 Ml Nj (.node .nil 87 Tryz.f87 Mk Ni .nil)) 88 Tryz.f88 Mj Nh (.node (.node .nil 89 Tryz.f89 Mi Ng .nil) 90 Tryz.f90 Mh Nf .nil))))) 91 Tryz.f91 Mg Nd (.node (.node (.node (.node (.node (.node .nil 92 Tryz.f92 uw ma .nil) 93 Tryz.f93 Dn nI (.node .nil 94 Tryz.f94 Dm xK .nil)) 95 Tryz.f95 Dl Bz (.node (.node .nil 96 Tryz.f96 Sr TH .nil) 98 Tryz.f98 xv qg (.node .nil 99 Tryz.f99 uv iu .nil))) 111 Tryz.f111 MS QN (.node (.node (.node .nil 112 Tryz.f112 Bq vQ .nil) 113 Tryz.f113 MR QM (.node .nil 114 Tryz.f114 MQ QL .nil)) 115 Tryz.f115 Bp kB (.node (.node .nil 116 Tryz.f116 FO Im .nil) 117 Tryz.f117 FN Il (.node .nil 118 Tryz.f118 FM Ik .nil)))) 119 Tryz.f119 Bo BG (.node (.node (.node (.node .nil 120 Tryz.f120 FL Ij .nil) 121 Tryz.f121 Bn mf (.node .nil 122 Tryz.f122 xC rm .nil)) 123 Tryz.f123 FK Ii (.node (.node .nil 124 Tryz.f124 Bm BF .nil) 125 Tryz.f125 Bl vP (.node .nil 126 Tryz.f126 FJ Ih .nil))) 127 Tryz.f127 FI Ig (.node (.node (.node .nil 135 Tryz.f135 MO QK .nil) 136 Tryz.f136 Bk vO (.node .nil 137 Tryz.f137 Bj vN .nil)) 138 Tryz.f138 FH Ie (.node (.node .nil 139 Tryz.f139 xB oV .nil) 140 Tryz.f140 FG Ic .nil)))) 141 Tryz.f141 Bi rl (.node (.node (.node (.node (.node .nil 142 Tryz.f142 sU oU .nil) 143 Tryz.f143 Bh me (.node .nil 144 Tryz.f144 FF Ib .nil)) 145 Tryz.f145 FE Ia (.node (.node .nil 146 Tryz.f146 MM QJ .nil) 147 Tryz.f147 ML QI (.node .nil 148 Tryz.f148 FD H9 .nil))) 149 Tryz.f149 FC H8 (.node (.node (.node .nil 150 Tryz.f150 Bg rk .nil) 167 Tryz.f167 FB H7 (.node .nil 168 Tryz.f168 FA H6 .nil)) 169 Tryz.f169 Fz H5 (.node (.node .nil 170 Tryz.f170 xA vM .nil) 171 Tryz.f171 Fy H0 .nil))) 172 Tryz.f172 Fx HZ (.node (.node (.node (.node .nil 173 Tryz.f173 MJ QH .nil) 174 Tryz.f174 sT mc (.node .nil 175 Tryz.f175 Bf rj .nil)) 176 Tryz.f176 Be ri (.node (.node .nil 177 Tryz.f177 eF cU .nil) 178 Tryz.f178 Fw HY (.node .nil 190 Tryz.f190 MI QG .nil))) 191 Tryz.f191 MH QF (.node (.node (.node .nil 192 Tryz.f192 xz rh .nil) 199 Tryz.f199 MG QE (.node .nil 200 Tryz.f200 ME QD .nil)) 202 Tryz.f202 MD QC (.node (.node .nil 204 Tryz.f204 MC QB .nil) 206 Tryz.f206 MB QA .nil))))))
theorem rA : Yf Tryz.prog aq aw Gr.find := aY.ok (aY.aj (aY.aj (aY.aj (aY.aj (aY.aj (aY.aj (aY.aj aY.all_nil Yz aY.all_nil) Yy (aY.aj aY.all_nil XU aY.all_nil)) XT (aY.aj (aY.aj aY.all_nil XS aY.all_nil) XR (aY.aj aY.all_nil XP aY.all_nil))) XO (aY.aj (aY.aj (aY.aj aY.all_nil XN aY.all_nil) XM (aY.aj aY.all_nil XL aY.all_nil)) XK (aY.aj (aY.aj aY.all_nil XJ aY.all_nil) XI (aY.aj aY.all_nil XH aY.all_nil)))) XG (aY.aj (aY.aj (aY.aj (aY.aj aY.all_nil XF aY.all_nil) XE (aY.aj aY.all_nil XD aY.all_nil)) XC (aY.aj (aY.aj aY.all_nil XB aY.all_nil) XA (aY.aj aY.all_nil Xz aY.all_nil))) Xy (aY.aj (aY.aj (aY.aj aY.all_nil Xx aY.all_nil) Xw (aY.aj aY.all_nil Xv aY.all_nil)) Xu (aY.aj (aY.aj aY.all_nil Xt aY.all_nil) Xs aY.all_nil)))) Xr (aY.aj (aY.aj (aY.aj (aY.aj (aY.aj aY.all_nil Xq aY.all_nil) Xp (aY.aj aY.all_nil Xo aY.all_nil)) Xn (aY.aj (aY.aj aY.all_nil Xm aY.all_nil) Xl (aY.aj aY.all_nil Xk aY.all_nil))) Xj (aY.aj (aY.aj (aY.aj aY.all_nil Xi aY.all_nil) Xh (aY.aj aY.all_nil Xg aY.all_nil)) Xf (aY.aj (aY.aj aY.all_nil Xe aY.all_nil) Xd aY.all_nil))) Xc (aY.aj (aY.aj (aY.aj (aY.aj aY.all_nil Xb aY.all_nil) Xa (aY.aj aY.all_nil W9 aY.all_nil)) W8 (aY.aj (aY.aj aY.all_nil W7 aY.all_nil) W6 (aY.aj aY.all_nil W5 aY.all_nil))) W4 (aY.aj (aY.aj (aY.aj aY.all_nil W3 aY.all_nil) W2 (aY.aj aY.all_nil W1 aY.all_nil)) W0 (aY.aj (aY.aj aY.all_nil WZ aY.all_nil) WY aY.all_nil))))) WX (aY.aj (aY.aj (aY.aj (aY.aj (aY.aj (aY.aj aY.all_nil WW aY.all_nil) WV (aY.aj aY.all_nil WU aY.all_nil)) WT (aY.aj (aY.aj aY.all_nil WS aY.all_nil) WR (aY.aj aY.all_nil WQ aY.all_nil))) US (aY.aj (aY.aj (aY.aj aY.all_nil UR aY.all_nil) UQ (aY.aj aY.all_nil UP aY.all_nil)) UO (aY.aj (aY.aj aY.all_nil UN aY.all_nil) UM (aY.aj aY.all_nil UL aY.all_nil)))) UK (aY.aj (aY.aj (aY.aj (aY.aj aY.all_nil UJ aY.all_nil) UI (aY.aj aY.all_nil UH aY.all_nil)) UG (aY.aj (aY.aj aY.all_nil UF aY.all_nil) UE (aY.aj aY.all_nil UD aY.all_nil))) UC (aY.aj (aY.aj (aY.aj aY.all_nil UB aY.all_nil) UA (aY.aj aY.all_nil Uz aY.all_nil)) Uy (aY.aj (aY.aj aY.all_nil Ux aY.all_nil) Uw aY.all_nil)))) Uv (aY.aj (aY.aj (aY.aj (aY.aj (aY.aj aY.all_nil Uu aY.all_nil) Ut (aY.aj aY.all_nil Us aY.all_nil)) Ur (aY.aj (aY.aj aY.all_nil Uq aY.all_nil) Uo (aY.aj aY.all_nil Un aY.all_nil))) Um (aY.aj (aY.aj (aY.aj aY.all_nil Ul aY.all_nil) Uk (aY.aj aY.all_nil Uj aY.all_nil)) Ui (aY.aj (aY.aj aY.all_nil Uh aY.all_nil) Ug aY.all_nil))) Uf (aY.aj (aY.aj (aY.aj (aY.aj aY.all_nil Ue aY.all_nil) Ud (aY.aj aY.all_nil Uc aY.all_nil)) Ub (aY.aj (aY.aj aY.all_nil Ua aY.all_nil) T9 (aY.aj aY.all_nil T8 aY.all_nil))) T7 (aY.aj (aY.aj (aY.aj aY.all_nil T6 aY.all_nil) T5 (aY.aj aY.all_nil T4 aY.all_nil)) T3 (aY.aj (aY.aj aY.all_nil T2 aY.all_nil) T1 aY.all_nil))))))
end Go.Proofs.YtiihadmgkoamoaaGreatDoor

namespace Go.Tp
open Go.Proofs Go.Shelf Go.RowKit Go.Maps
/-! ### What they do -/
section
variable {P : Program} {ρ : Ren} {G : bF}
theorem CR {N : Name -> Option Nat} {next b : Nat} (hnx : ∀ o b, N (.out o) = some b -> o < next) : ∀ m c, N m = some c -> bR N (.out next) b m = some c := fun m c hm => by
 have hne : m ≠ .out next := by
  rintro rfl
  have := hnx next c hm
  omega
 simp [bR, hne, hm]
theorem Dk {N N' : Name -> Option Nat} (h : ∀ m c, N m = some c -> N' m = some c) : ∀ m c, outs N m = some c -> outs N' m = some c := fun m c hm => by
 cases m with
 | loc i => simp [outs] at hm
 | out o => exact h _ _ hm
/-! ### slices.Delete of all from i on -/
end
end Go.Tp

namespace Go.Proofs.YtiihadmgkoamoaaGreatDoor
open Go.Tp Go.Shelf
def gA (l : List (List UInt8)) : List an := l.map fun b => .flat (.string ⟨⟨b⟩⟩)
def mV : List (List UInt8) := [[65, 110, 121], [78, 101, 118, 101, 114], [116, 117, 112, 108, 101], [117, 110, 105, 111, 110], [101, 120, 105, 115, 116, 115]]
/-- Xa, Xb, Xc, Xd -/
def gS : List (List UInt8) := [[88, 97], [88, 98], [88, 99], [88, 100]]
/-- Int, Bool, String, Nil -/
def fO : List (List UInt8) := [[73, 110, 116], [66, 111, 111, 108], [83, 116, 114, 105, 110, 103], [78, 105, 108]]
def cN : bF := fun g => match g with | 0 => some [.slice (gA gS)] | 1 => some [.slice (gA fO)] | 2 => some [.slice (gA mV)] | 4 => some [.slice (gA mV)] | _ => none
theorem GJ : (env az.aU).Ok Tryz.prog := by rw [Oc]; exact Va
def QP : iH := fun _ _ _ _ => none
theorem QO : ES Tryz.prog cN QP := by intro f args heap next r h; simp [QP] at h
noncomputable def X : iH := yk (env az.aU) cN aq aw Gr.find QP 3000 60
theorem oG : ES Tryz.prog cN X := fun f args heap next r h => nV 3000 GJ rA (M := QP) QO 60 f args heap next r h
theorem RB (ls bs : List Nat) {g : FuncId} {x : mW} (hx : Gr.find g = some x) {args : List ac} {heap : Heap} {next : Nat} {r : eQ} (h : (L4 (Pp ls) (Pp bs) (env az.aU) cN aq aw x g args heap next).Ok Tryz.prog cN (fun y => y = r)) :
  aB Tryz.prog cN g args heap next (XQ r) := AN (Hw GJ rA hx (fun _ _ => h))
abbrev KD := dc Tryz.prog cN
abbrev KC := aB Tryz.prog cN
theorem co (ls bs : List Nat) {g : FuncId} {x : mW} {args : List ac} {heap : Heap} {next : Nat} {r : eQ} (h : (L4 (Pp ls) (Pp bs) (env az.aU) cN aq aw x g args heap next).Ok Tryz.prog cN (fun y => y = r)) (hx : Gr.find g = some x := by kernel_rfl) : aB Tryz.prog cN g args heap next (XQ r) := RB ls bs hx h
theorem ax (ls bs : List Nat) {H : Hints} {n : Nat} {live : Nat -> Nat} {c : Code} (hc : cD H c = true) {f : ab} {T : Exit -> aa -> Prop}
  (h : (qT (Pp ls) (Pp bs) (env az.aU) cN H n live c f (fun r => .fin r)).Ok Tryz.prog cN (fun r => T r.1 (r.2.au n))) : dc Tryz.prog cN c T (f.au n) := Jo GJ live hc h
theorem Wu {α : Type} {T : α -> Prop} {q : Qy α} {c b : Bool} (hc : c = b) (e : q.yG = some (!c)) (h : (q.Vz (!b)).Ok Tryz.prog cN T) : q.Ok Tryz.prog cN T := bb (by rw [hc]) e h
abbrev ae (g : FuncId) (args : List ac) (v : ac) : Prop := aB Tryz.prog cN g args [] 0 (XQ ⟨v, [], 0⟩)
def i64 (n : Int) : an := .flat (.int .i64 n)
def sb (b : List UInt8) : an := .flat (.string ⟨⟨b⟩⟩)
def nl : an := .flat (.slice none 0 0)
/-- A slice, nil where it is empty. -/
def sl : List an -> an
 | [] => nl
 | d :: r => .slice (d :: r)
inductive Ty where
 |mk (k : Int) (nm : List UInt8) (ix : Int) (args : List Ty)
mutual
def Ty.cells : Ty -> List an
 | .mk k nm ix args => [i64 k, sb nm, i64 ix, sl (ap args)]
def ap : List Ty -> List an
 | [] => []
 | t :: r => .agg t.cells :: ap r
end
def Ty.enc (t : Ty) : an := .agg t.cells
def Ty.args : Ty -> List Ty
 | .mk _ _ _ a => a
theorem od : ∀ l : List Ty, ap l = l.map Ty.enc
 | [] => by simp [ap]
 | t :: r => by simp [ap, od r, Ty.enc]
theorem aC (l : List Ty) : (ap l).length = l.length := by simp [od]
theorem Ol {l : List Ty} {i : Nat} {t : Ty} (h : l[i]? = some t) : (ap l)[i]? = some t.enc := by simp [od, h]
mutual
def Ty.size : Ty -> Nat
 | .mk _ _ _ args => aR args + 1
def aR : List Ty -> Nat
 | [] => 0
 | t :: r => t.size + aR r
end
theorem jP {l : List Ty} {i : Nat} {t : Ty} (h : l[i]? = some t) : aR (l.take (i + 1)) = aR (l.take i) + t.size := by
 induction l generalizing i with
 | nil => simp at h
 | cons x r ih =>
  cases i with
  | zero => simp at h; subst h; simp [aR]
  | succ i =>
   simp at h
   simp only [List.take_succ_cons, aR]
   rw [ih h]; omega
theorem qI {l : List Ty} (i : Nat) : aR (l.take i) <= aR l := by
 induction l generalizing i with
 | nil => simp [aR]
 | cons x r ih =>
  cases i with
  | zero => simp [aR]
  | succ i => simp only [List.take_succ_cons, aR]; have := ih i; omega
theorem wrap_add {n m : Nat} (h : n + m < 9223372036854775808) : aE .i64 (Int.ofNat n + Int.ofNat m) = Int.ofNat (n + m) := by
 rw [dx]
 exact wrap_i64 (by simp; omega) (by simp; omega)
noncomputable def VW : TI := match Go.Tp.elemOf (env az.aU) 30 with | some t => t | none => default
theorem KJ : Go.Tp.elemOf (env az.aU) 30 = some VW := by kernel_rfl
theorem wo : VW.size = 4 := by kernel_rfl
theorem jg {l : List Ty} {i : Nat} {t : Ty} (h : l[i]? = some t) : aL (env az.aU) 30 [.dat (.slice (ap l)), .dat (.flat (.int .i64 (Int.ofNat i)))] = some ⟨.ref t.cells, .keep⟩ :=
 sd KJ rfl (Ol h) (by rw [wo]; cases t; rfl) (by rw [wo]; decide)
theorem get_mem {l : List Ty} {i : Nat} (h : i < (ap l).length) : ∃ t, l[i]? = some t /\ t ∈ l := by
 rw [aC] at h
 exact ⟨l[i], List.getElem?_eq_getElem h, List.getElem_mem h⟩
/-! ### Size -/
noncomputable def SF : Hints := ⟨aq, Bk, aw, rowsOf aw 136⟩
def kO (l : List Ty) (i n : Int) : ab := ⟨[(9, iv i), (8, iv (Int.ofNat (ap l).length)), (7, .dat (.slice (ap l))), (3, iv n)], [], [], 0⟩
def oL (l : List Ty) (n : Int) : ab := ⟨[(10, bv false), (9, iv (Int.ofNat (ap l).length)), (8, iv (Int.ofNat (ap l).length)), (7, .dat (.slice (ap l))), (3, iv n)], [], [], 0⟩
theorem PK {k : Int} {nm : List UInt8} {ix : Int} {l : List Ty} (ih : ∀ t ∈ l, ae 136 [.dat t.enc] (iv (Int.ofNat t.size))) (hb : aR l < 1000000000) :
  ae 136 [.dat (.agg [i64 k, sb nm, i64 ix, .slice (ap l)])] (iv (Int.ofNat (aR l + 1))) := by
 have hlen : l.length <= aR l := by
  clear ih hb
  induction l with
  | nil => simp [aR]
  | cons t r ih => cases t; simp only [List.length_cons, aR, Ty.size]; omega
 refine co [] [] (x := .of Tryz.f136 Bk vO) ?_; refine gM (n := Tryz.f136.ntmps) (c := roundOf Tryz.f136 0) (f := kO l (Int.ofNat 0) (Int.ofNat (1 + aR (l.take 0)))) (L := fun e s => e = .exit 0 /\ s = (oL l (Int.ofNat (1 + aR l))).au Tryz.f136.ntmps) (by kernel_rfl) (by kernel_rfl) ?_ ?_
 ·refine bi (St := fun i => (kO l (Int.ofNat i) (Int.ofNat (1 + aR (l.take i)))).au Tryz.f136.ntmps) (ap l).length ?_ ?_ (i := 0) (Nat.zero_le _)
  ·intro i hi
   obtain ⟨t, ht, hm⟩ := get_mem hi
   have hs := jP ht
   have hle := qI (l := l) (i + 1)
   rw [aC] at hi
   have hi' : i < (ap l).length := by rw [aC]; exact hi
   have e : pQ (fun s => s = (kO l (Int.ofNat (i + 1)) (Int.ofNat (1 + aR (l.take (i + 1))))).au Tryz.f136.ntmps) (fun e s => e = .exit 0 /\ s = (oL l (Int.ofNat (1 + aR l))).au Tryz.f136.ntmps) .normal
     ((kO l (aE .i64 (Int.ofNat i + 1)) (aE .i64 (Int.ofNat (1 + aR (l.take i)) + Int.ofNat t.size))).au Tryz.f136.ntmps) := by
    rw [aZ (by omega), wrap_add (by omega), hs]
    show _ = _
    rw [Nat.add_assoc]
   have hc := ih t hm
   clear hs hle ih hb hlen
   obtain ⟨k2, nm2, ix2, a2⟩ := t
   rcases a2 with _ | ⟨b, c⟩ <;>
   ·refine ax [10] [11] (H := SF) (live := vO) (by kernel_rfl) ?_; refine bb (b := true) (bq hi') (by kernel_rfl) ?_; refine oo (jg ht) ?_; refine on hc ?_
    exact bL (ex := .normal) (kO l (aE .i64 (Int.ofNat i + 1)) (aE .i64 (Int.ofNat (1 + aR (l.take i)) + Int.ofNat (Ty.size _)))) (by kernel_rfl) (by kernel_rfl) e
  refine ax [10] [11] (H := SF) (live := vO) (by kernel_rfl) ?_; refine bb (b := false) (bu (i := (ap l).length) (L := (ap l).length) (by omega)) (by kernel_rfl) ?_
  refine bL (ex := .exit 0) (oL l (Int.ofNat (1 + aR (l.take (ap l).length)))) (by kernel_rfl) (by kernel_rfl) ⟨rfl, ?_⟩
  rw [aC, List.take_length]
 rintro e s ⟨rfl, rfl⟩
 refine ⟨_, rfl, bp (a := ⟨iv (Int.ofNat (1 + aR l)), [], 0⟩) (by kernel_rfl) ?_⟩
 rw [Nat.add_comm]
theorem Lp {k : Int} {nm : List UInt8} {ix : Int} : ae 136 [.dat (.agg [i64 k, sb nm, i64 ix, nl])] (iv (Int.ofNat 1)) := oG _ _ _ _ _ (by kernel_rfl)
mutual
theorem OR : ∀ t : Ty, t.size < 1000000000 -> ae 136 [.dat t.enc] (iv (Int.ofNat t.size))
 | .mk k nm ix [], _ => Lp
 | .mk k nm ix (t :: r), h => by
  have h2 : aR (t :: r) < 1000000000 := by simp only [Ty.size] at h; omega
  have := PK (k := k) (nm := nm) (ix := ix) (l := t :: r) (IC (t :: r) h2) h2
  exact this
theorem IC : ∀ l : List Ty, aR l < 1000000000 -> ∀ t ∈ l, ae 136 [.dat t.enc] (iv (Int.ofNat t.size))
 | [], _, t, ht => by simp at ht
 | u :: r, h, t, ht => by
  simp only [aR] at h
  rcases List.mem_cons.1 ht with h1 | ht
  ·rw [h1]; exact OR u (by omega)
  exact IC r (by omega) t ht
end
/-! ### Depth -/
mutual
def Ty.depth : Ty -> Nat
 | .mk _ _ _ args => bA args + 1
def bA : List Ty -> Nat
 | [] => 0
 | t :: r => max t.depth (bA r)
end
theorem uR {l : List Ty} {i : Nat} {t : Ty} (h : l[i]? = some t) : bA (l.take (i + 1)) = max (bA (l.take i)) t.depth := by
 induction l generalizing i with
 | nil => simp at h
 | cons x r ih =>
  cases i with
  | zero => simp at h; subst h; simp [bA]
  | succ i =>
   simp at h
   simp only [List.take_succ_cons, bA]
   rw [ih h, Nat.max_assoc]
mutual
theorem iC : ∀ t : Ty, t.depth <= t.size
 | .mk _ _ _ args => by simp only [Ty.depth, Ty.size]; have := ja args; omega
theorem ja : ∀ l : List Ty, bA l <= aR l
 | [] => by simp [bA, aR]
 | t :: r => by simp only [bA, aR]; have := iC t; have := ja r; omega
end
theorem Wy {n m : Nat} : az.aU.mx (Int.ofNat n) (Int.ofNat m) = Int.ofNat (max n m) := by
 show (match bn (Int.ofNat n) (Int.ofNat m) with | true => Int.ofNat m | false => Int.ofNat n) = _
 rw [jd]
 by_cases h : n < m
 ·rw [decide_eq_true h]; simp; omega
 rw [decide_eq_false h]; simp; omega
theorem ee (l : List Ty) : l.length <= aR l := by
 induction l with
 | nil => simp [aR]
 | cons t r ih => cases t; simp only [List.length_cons, aR, Ty.size]; omega
noncomputable def NQ : Hints := ⟨aq, Bj, aw, rowsOf aw 137⟩
theorem Oy {k : Int} {nm : List UInt8} {ix : Int} {l : List Ty} (ih : ∀ t ∈ l, ae 137 [.dat t.enc] (iv (Int.ofNat t.depth))) (hb : aR l < 1000000000) :
  ae 137 [.dat (.agg [i64 k, sb nm, i64 ix, .slice (ap l)])] (iv (Int.ofNat (bA l + 1))) := by
 have hlen := ee l
 have hdl := ja l
 rw [← aZ (by omega)]
 refine co [] [] (x := .of Tryz.f137 Bj vN) ?_; refine gM (n := Tryz.f137.ntmps) (c := roundOf Tryz.f137 0) (f := kO l (Int.ofNat 0) (Int.ofNat (bA (l.take 0)))) (L := fun e s => e = .exit 0 /\ s = (oL l (Int.ofNat (bA l))).au Tryz.f137.ntmps) (by kernel_rfl) (by kernel_rfl) ?_ ?_
 ·refine bi (St := fun i => (kO l (Int.ofNat i) (Int.ofNat (bA (l.take i)))).au Tryz.f137.ntmps) (ap l).length ?_ ?_ (i := 0) (Nat.zero_le _)
  ·intro i hi
   obtain ⟨t, ht, hm⟩ := get_mem hi
   have e : pQ (fun s => s = (kO l (Int.ofNat (i + 1)) (Int.ofNat (bA (l.take (i + 1))))).au Tryz.f137.ntmps) (fun e s => e = .exit 0 /\ s = (oL l (Int.ofNat (bA l))).au Tryz.f137.ntmps) .normal
     ((kO l (aE .i64 (Int.ofNat i + 1)) (az.aU.mx (Int.ofNat (bA (l.take i))) (Int.ofNat t.depth))).au Tryz.f137.ntmps) := by
    rw [aC] at hi
    rw [aZ (by omega), Wy, uR ht]
    rfl
   have hc := ih t hm
   clear ih hb hlen hdl
   obtain ⟨k2, nm2, ix2, a2⟩ := t
   rcases a2 with _ | ⟨b, c⟩ <;>
   ·refine ax [10] [11] (H := NQ) (live := vN) (by kernel_rfl) ?_; refine bb (b := true) (bq hi) (by kernel_rfl) ?_; refine oo (jg ht) ?_; refine on hc ?_
    exact bL (ex := .normal) (kO l (aE .i64 (Int.ofNat i + 1)) (az.aU.mx (Int.ofNat (bA (l.take i))) (Int.ofNat (Ty.depth _)))) (by kernel_rfl) (by kernel_rfl) e
  refine ax [10] [11] (H := NQ) (live := vN) (by kernel_rfl) ?_; refine bb (b := false) (bu (i := (ap l).length) (L := (ap l).length) (by omega)) (by kernel_rfl) ?_
  refine bL (ex := .exit 0) (oL l (Int.ofNat (bA (l.take (ap l).length)))) (by kernel_rfl) (by kernel_rfl) ⟨rfl, ?_⟩
  rw [aC, List.take_length]
 rintro e s ⟨rfl, rfl⟩
 exact ⟨_, rfl, bp (by kernel_rfl) rfl⟩
theorem J5 {k : Int} {nm : List UInt8} {ix : Int} : ae 137 [.dat (.agg [i64 k, sb nm, i64 ix, nl])] (iv (Int.ofNat 1)) := oG _ _ _ _ _ (by kernel_rfl)
mutual
theorem IF : ∀ t : Ty, t.size < 1000000000 -> ae 137 [.dat t.enc] (iv (Int.ofNat t.depth))
 | .mk k nm ix [], _ => J5
 | .mk k nm ix (t :: r), h => by
  have h2 : aR (t :: r) < 1000000000 := by simp only [Ty.size] at h; omega
  have := Oy (k := k) (nm := nm) (ix := ix) (l := t :: r) (EE (t :: r) h2) h2
  exact this
theorem EE : ∀ l : List Ty, aR l < 1000000000 -> ∀ t ∈ l, ae 137 [.dat t.enc] (iv (Int.ofNat t.depth))
 | [], _, t, ht => by simp at ht
 | u :: r, h, t, ht => by
  simp only [aR] at h
  rcases List.mem_cons.1 ht with h1 | ht
  ·rw [h1]; exact IF u (by omega)
  exact EE r (by omega) t ht
end
/-! ### Closed terms -/
def cM (k : Int) (i : Nat) : Nat := if aX k 6 = true /\ i = 1 then 1 else 0
mutual
def Ty.closed : Ty -> Nat -> Bool
 | .mk k _ ix args, u => !(aX k 5 && !bn ix (Int.ofNat u)) && eb k 0 args u
def eb (k : Int) : Nat -> List Ty -> Nat -> Bool
 | _, [], _ => true
 | i, t :: r, u => t.closed (u + cM k i) && eb k (i + 1) r u
end
theorem tG (k : Int) (nm : List UInt8) (ix : Int) (a : an) (ha : a = nl ∨ ∃ es, a = .slice es) (i : Nat) : ae 126 [.dat (.agg [i64 k, sb nm, i64 ix, a]), iv (Int.ofNat i)] (iv (Int.ofNat (cM k i))) := by
 rcases ha with rfl | ⟨es, rfl⟩ <;>
 ·refine co [7, 10] [] (x := .of Tryz.f126 FJ Ih) ?_
  refine Dw (c := aX k 6) (by kernel_rfl) (fun h6 => ?_) (fun h6 => ?_)
  ·refine Dw (c := aX (Int.ofNat i) (Int.ofNat 1)) (by kernel_rfl) (fun h1 => ?_) (fun h1 => ?_)
   ·rw [tz, decide_eq_true_eq] at h1
    have : cM k i = 1 := by unfold cM; rw [if_pos ⟨h6, h1⟩]
    rw [this]
    exact fi
   rw [tz, decide_eq_false_iff_not] at h1
   have : cM k i = 0 := by unfold cM; rw [if_neg (fun h => h1 h.2)]
   rw [this]
   exact fi
  have : cM k i = 0 := by unfold cM; rw [if_neg (fun h => by rw [h6] at h; simp at h)]
  rw [this]
  exact fi
noncomputable def BN : Hints := ⟨aq, xB, aw, rowsOf aw 139⟩
def WD (k : Int) (nm : List UInt8) (ix : Int) (l : List Ty) : Heap := [(.loc 2, .cells [iv k, .dat (sb nm), iv ix, .dat (.slice (ap l))])]
def PI (k : Int) (nm : List UInt8) (ix : Int) (l : List Ty) (u : Nat) (i : Int) : ab := ⟨[(19, iv i), (18, iv (Int.ofNat (ap l).length)), (17, .dat (.slice (ap l))), (2, .ptr (.loc 2) 0), (1, iv (Int.ofNat u))], WD k nm ix l, [], 0⟩
def Lj (k : Int) (nm : List UInt8) (ix : Int) (l : List Ty) (u : Nat) : ab := ⟨[(20, bv false), (19, iv (Int.ofNat (ap l).length)), (18, iv (Int.ofNat (ap l).length)), (17, .dat (.slice (ap l))), (2, .ptr (.loc 2) 0), (1, iv (Int.ofNat u))], WD k nm ix l, [], 0⟩
def Lk : ab := ⟨[(4, bv false)], [], [], 0⟩
theorem gU {l : List Ty} {i : Nat} {t : Ty} (h : l[i]? = some t) : l.drop i = t :: l.drop (i + 1) := by
 obtain ⟨hi, rfl⟩ := List.getElem?_eq_some_iff.1 h
 exact List.drop_eq_getElem_cons hi
theorem Ex {k : Int} {nm : List UInt8} {ix : Int} {l : List Ty} {u : Nat} (ih : ∀ t ∈ l, ∀ v, v <= u + 1 -> ae 139 [.dat t.enc, iv (Int.ofNat v)] (bv (t.closed v))) (hb : aR l < 1000000000) (hu : u < 2000000000) :
  KD (.loop (roundOf Tryz.f139 0)) (fun e s => (e = .exit 0 /\ eb k 0 l u = true /\ s = (Lj k nm ix l u).au Tryz.f139.ntmps) ∨ (e = .ret /\ eb k 0 l u = false /\ s = Lk.au Tryz.f139.ntmps)) ((PI k nm ix l u (Int.ofNat 0)).au Tryz.f139.ntmps) := by
 have hlen := ee l
 refine bW (St := fun i => (PI k nm ix l u (Int.ofNat i)).au Tryz.f139.ntmps) (fun i => eb k 0 l u = eb k i (l.drop i) u) (ap l).length ?_ ?_ (i := 0) (Nat.zero_le _) rfl
 ·intro i hi hI
  obtain ⟨t, ht, hm⟩ := get_mem hi
  have hcl : eb k i (l.drop i) u = (t.closed (u + cM k i) && eb k (i + 1) (l.drop (i + 1)) u) := by rw [gU ht]; rfl
  have hbn : cM k i <= 1 := by unfold cM; split <;> omega
  have hc : ae 139 [.dat t.enc, iv (aE .i64 (Int.ofNat u + Int.ofNat (cM k i)))] (bv (t.closed (u + cM k i))) := by
   rw [wrap_add (by omega)]; exact ih t hm _ (by omega)
  have hw : aE .i64 (Int.ofNat i + 1) = Int.ofNat (i + 1) := aZ (by rw [aC] at hi; omega)
  have hbi := tG k nm ix (.slice (ap l)) (.inr ⟨_, rfl⟩) i
  generalize ht2 : t.closed (u + cM k i) = tc at hc hcl
  clear ih hb hlen hu hbn ht2
  obtain ⟨k2, nm2, ix2, a2⟩ := t
  rcases a2 with _ | ⟨b, c⟩ <;> cases tc <;>
  ·refine ax [20] [22] (H := BN) (live := oV) (by kernel_rfl) ?_; refine bb (b := true) (bq hi) (by kernel_rfl) ?_; refine oo (jg ht) ?_; refine on hbi ?_; refine on hc ?_
   first
    |exact bL (ex := .normal) (PI k nm ix l u (aE .i64 (Int.ofNat i + 1))) (by kernel_rfl) (by kernel_rfl) ⟨by rw [hw], by rw [hI, hcl]; rfl⟩
    |exact bL (ex := .ret) Lk (by kernel_rfl) (by kernel_rfl) (.inr ⟨rfl, by rw [hI, hcl]; rfl, rfl⟩)
 intro hI
 have h1 : eb k 0 l u = true := by
  rw [hI, aC, List.drop_length]; rfl
 refine ax [20] [22] (H := BN) (live := oV) (by kernel_rfl) ?_; refine bb (b := false) (bu (i := (ap l).length) (L := (ap l).length) (by omega)) (by kernel_rfl) ?_
 exact bL (ex := .exit 0) (Lj k nm ix l u) (by kernel_rfl) (by kernel_rfl) (.inl ⟨rfl, h1, rfl⟩)
theorem zv (k : Int) (nm : List UInt8) (ix : Int) (l : List Ty) (u : Nat) : (Ty.mk k nm ix l).closed u = (!(aX k 5 && !bn ix (Int.ofNat u)) && eb k 0 l u) := by rw [Ty.closed]
theorem Kd {k : Int} {nm : List UInt8} {ix : Int} {l : List Ty} {u : Nat} (ih : ∀ t ∈ l, ∀ v, v <= u + 1 -> ae 139 [.dat t.enc, iv (Int.ofNat v)] (bv (t.closed v))) (hb : aR l < 1000000000) (hu : u < 2000000000) :
  ae 139 [.dat (.agg [i64 k, sb nm, i64 ix, .slice (ap l)]), iv (Int.ofNat u)] (bv ((Ty.mk k nm ix l).closed u)) := by
 have hl := Ex (k := k) (nm := nm) (ix := ix) ih hb hu
 rw [zv]
 clear ih hb hu
 have key : ∀ c5 : Bool, c5 = aX k 5 -> ∀ cu : Bool, cu = !bn ix (Int.ofNat u) -> ae 139 [.dat (.agg [i64 k, sb nm, i64 ix, .slice (ap l)]), iv (Int.ofNat u)] (bv (!(c5 && cu) && eb k 0 l u)) := by
  intro c5 h5 cu hcu
  refine co [9, 14] [] (x := .of Tryz.f139 xB oV) ?_; refine bb (b := c5) h5.symm (by kernel_rfl) ?_
  have go : ∀ {q : Qy eQ} (hs : q.DJ.au Tryz.f139.ntmps = (PI k nm ix l u (Int.ofNat 0)).au Tryz.f139.ntmps) (e : q.Ag = some (Tryz.f139.ntmps, roundOf Tryz.f139 0))
    (e1 : (q.Ww (.exit 0, Lj k nm ix l u)).Gz = some ⟨bv true, [], 0⟩) (e2 : (q.Ww (.ret, Lk)).Gz = some ⟨bv false, [], 0⟩), q.Ok Tryz.prog cN (fun y => y = ⟨bv (eb k 0 l u), [], 0⟩) := by
   intro q hs e e1 e2
   refine gM (n := Tryz.f139.ntmps) e hs hl ?_
   rintro ex s (⟨rfl, hc, rfl⟩ | ⟨rfl, hc, rfl⟩)
   ·rw [hc]; exact ⟨_, rfl, bp e1 rfl⟩
   rw [hc]; exact ⟨_, rfl, bp e2 rfl⟩
  cases c5 with
  | false => exact go (by kernel_rfl) (by kernel_rfl) (by kernel_rfl) (by kernel_rfl)
  | true =>
   refine bb (b := cu) hcu.symm (by kernel_rfl) ?_
   cases cu
   ·exact go (by kernel_rfl) (by kernel_rfl) (by kernel_rfl) (by kernel_rfl)
   exact fi
 exact key _ rfl _ rfl
def Sk (k : Int) (nm : List UInt8) (ix : Int) (u : Nat) : ab := ⟨[(19, iv 0), (18, iv 0), (17, .dat nl), (2, .ptr (.loc 2) 0), (1, iv (Int.ofNat u))], [(.loc 2, .cells [iv k, .dat (sb nm), iv ix, .dat nl])], [], 0⟩
def Ll (k : Int) (nm : List UInt8) (ix : Int) (u : Nat) : ab := ⟨[(20, bv false), (19, iv 0), (18, iv 0), (17, .dat nl), (2, .ptr (.loc 2) 0), (1, iv (Int.ofNat u))], [(.loc 2, .cells [iv k, .dat (sb nm), iv ix, .dat nl])], [], 0⟩
theorem Ew (k : Int) (nm : List UInt8) (ix : Int) (u : Nat) : gR X (env az.aU) cN BN Tryz.f139.ntmps oV 3000 (.loop (roundOf Tryz.f139 0)) (Sk k nm ix u) = some (.exit 0, Ll k nm ix u) := by kernel_rfl
theorem GQ (k : Int) (nm : List UInt8) (ix : Int) (u : Nat) : ae 139 [.dat (.agg [i64 k, sb nm, i64 ix, nl]), iv (Int.ofNat u)] (bv ((Ty.mk k nm ix []).closed u)) := by
 rw [zv]
 have key : ∀ c5 : Bool, c5 = aX k 5 -> ∀ cu : Bool, cu = !bn ix (Int.ofNat u) -> ae 139 [.dat (.agg [i64 k, sb nm, i64 ix, nl]), iv (Int.ofNat u)] (bv (!(c5 && cu) && eb k 0 [] u)) := by
  intro c5 h5 cu hcu
  refine co [9, 14] [] (x := .of Tryz.f139 xB oV) ?_; refine bb (b := c5) h5.symm (by kernel_rfl) ?_
  have go : ∀ {q : Qy eQ} (hs : q.DJ.au Tryz.f139.ntmps = (Sk k nm ix u).au Tryz.f139.ntmps) (e : q.Ag = some (Tryz.f139.ntmps, roundOf Tryz.f139 0))
    (e1 : (q.Ww (.exit 0, Ll k nm ix u)).Gz = some ⟨bv true, [], 0⟩), q.Ok Tryz.prog cN (fun y => y = ⟨bv true, [], 0⟩) := by
   intro q hs e e1
   refine gM (n := Tryz.f139.ntmps) e hs (OK GJ oG 3000 (by kernel_rfl) (Ew k nm ix u)) ?_; rintro ex s ⟨rfl, rfl⟩
   exact ⟨_, rfl, bp e1 rfl⟩
  cases c5 with
  | false => exact go (by kernel_rfl) (by kernel_rfl) (by kernel_rfl)
  | true =>
   refine bb (b := cu) hcu.symm (by kernel_rfl) ?_
   cases cu
   ·exact go (by kernel_rfl) (by kernel_rfl) (by kernel_rfl)
   exact fi
 exact key _ rfl _ rfl
mutual
theorem EF : ∀ (t : Ty) (u : Nat), t.size < 1000000000 -> u + t.depth < 2000000000 -> ae 139 [.dat t.enc, iv (Int.ofNat u)] (bv (t.closed u))
 | .mk k nm ix [], u, _, _ => GQ k nm ix u
 | .mk k nm ix (t :: r), u, h, hu => by
  have h2 : aR (t :: r) < 1000000000 := by simp only [Ty.size] at h; omega
  have h3 : u + 1 + bA (t :: r) < 2000000000 := by simp only [Ty.depth] at hu; omega
  exact Kd (l := t :: r) (fun x hx v hv => tF (t :: r) v h2 (by omega) x hx) h2 (by omega)
theorem tF : ∀ (l : List Ty) (u : Nat), aR l < 1000000000 -> u + bA l < 2000000000 -> ∀ t ∈ l, ae 139 [.dat t.enc, iv (Int.ofNat u)] (bv (t.closed u))
 | [], _, _, _, t, ht => by simp at ht
 | x :: r, u, h, hu, t, ht => by
  simp only [aR] at h
  simp only [bA] at hu
  rcases List.mem_cons.1 ht with h1 | ht
  ·rw [h1]; exact EF x u (by omega) (by omega)
  exact tF r u (by omega) (by omega) t ht
end
mutual
/-- No node has too many arguments. -/
def Ty.thin : Ty -> Prop
 | .mk _ _ _ l => l.length < 1000000000 /\ eU l
def eU : List Ty -> Prop
 | [] => True
 | t :: r => t.thin /\ eU r
end
mutual
theorem qD : ∀ t : Ty, t.size < 1000000000 -> t.thin
 | .mk _ _ _ l, h => by
  simp only [Ty.size] at h
  have := ee l
  simp only [Ty.thin]
  exact ⟨by omega, Cy l (by omega)⟩
theorem Cy : ∀ l : List Ty, aR l < 1000000000 -> eU l
 | [], _ => by simp [eU]
 | t :: r, h => by
  simp only [aR] at h
  simp only [eU]
  exact ⟨qD t (by omega), Cy r (by omega)⟩
end
theorem oK : ∀ {l : List Ty}, eU l -> ∀ t ∈ l, t.thin
 | [], _, t, ht => by simp at ht
 | x :: r, h, t, ht => by
  simp only [eU] at h
  rcases List.mem_cons.1 ht with h1 | ht
  ·rw [h1]; exact h.1
  exact oK h.2 t ht
theorem yy (ls bs : List Nat) {g : FuncId} {x : mW} (hx : Gr.find g = some x) {args : List ac} {heap : Heap} {next : Nat} {T : eQ -> Prop} (h : (L4 (Pp ls) (Pp bs) (env az.aU) cN aq aw x g args heap next).Ok Tryz.prog cN T) :
  KC g args heap next (fun v h m => T ⟨v, h, m⟩) := Hw GJ rA hx (fun _ _ => h)
/-- The values below which a search stops. -/
def mH (b : Bool) (v : ac) : Prop := ∃ j : Int, v = iv j /\ bn j (Int.ofNat 0) = !b
theorem EO {l : List Ty} {p : Ty -> Bool} {i : Nat} {t : Ty} (h : l[i]? = some t) : (l.drop i).any p = (p t || (l.drop (i + 1)).any p) := by rw [gU h]; rfl
noncomputable def vV : Hints := ⟨aq, uv, aw, rowsOf aw 99⟩
/-! ### plainArgsF -/
def gQ : ac := .fn (.func 169) [] []
def iI (l : List Ty) (i : Int) : ab := ⟨[(8, iv i), (7, iv (Int.ofNat (ap l).length)), (0, .dat (.slice (ap l))), (1, gQ)], [], [], 0⟩
def nb (l : List Ty) : ab := ⟨[(9, bv false), (8, iv (Int.ofNat (ap l).length)), (7, iv (Int.ofNat (ap l).length)), (0, .dat (.slice (ap l))), (1, gQ)], [], [], 0⟩
def nc (i : Nat) : ab := ⟨[(4, iv (Int.ofNat i))], [], [], 0⟩
theorem vw {l : List Ty} {p : Ty -> Bool} (hp : ∀ t ∈ l, ae 169 [.dat t.enc] (bv (p t))) (hb : l.length < 1000000000) :
  KC 99 [.dat (.slice (ap l)), gQ] [] 0 (fun v h m => mH (l.any p) v /\ h = [] /\ m = 0) := by
 have hl : KD (.loop (roundOf Tryz.f99 0)) (fun e s => (e = .exit 0 /\ l.any p = false /\ s = (nb l).au Tryz.f99.ntmps) ∨ (e = .ret /\ l.any p = true /\ ∃ i : Nat, s = (nc i).au Tryz.f99.ntmps)) ((iI l (Int.ofNat 0)).au Tryz.f99.ntmps) := by
  refine bW (St := fun i => (iI l (Int.ofNat i)).au Tryz.f99.ntmps) (fun i => l.any p = (l.drop i).any p) (ap l).length ?_ ?_ (i := 0) (Nat.zero_le _) rfl
  ·intro i hi hI
   obtain ⟨t, ht, hm⟩ := get_mem hi
   have ha := EO (p := p) ht
   have hw : aE .i64 (Int.ofNat i + 1) = Int.ofNat (i + 1) := aZ (by rw [aC] at hi; omega)
   have hc := hp t hm
   generalize ht2 : p t = tc at hc ha
   clear hp hb ht2
   obtain ⟨k2, nm2, ix2, a2⟩ := t
   rcases a2 with _ | ⟨b, c⟩ <;> cases tc <;>
   ·refine ax [9] [14] (H := vV) (live := iu) (by kernel_rfl) ?_; refine bb (b := true) (bq hi) (by kernel_rfl) ?_; refine oo (jg ht) ?_; refine on hc ?_
    first
     |exact bL (ex := .normal) (iI l (aE .i64 (Int.ofNat i + 1))) (by kernel_rfl) (by kernel_rfl) ⟨by rw [hw], by rw [hI, ha]; rfl⟩
     |exact bL (ex := .ret) (nc i) (by kernel_rfl) (by kernel_rfl) (.inr ⟨rfl, by rw [hI, ha]; rfl, i, rfl⟩)
  intro hI
  have h1 : l.any p = false := by rw [hI, aC, List.drop_length]; rfl
  refine ax [9] [14] (H := vV) (live := iu) (by kernel_rfl) ?_; refine bb (b := false) (bu (i := (ap l).length) (L := (ap l).length) (by omega)) (by kernel_rfl) ?_
  exact bL (ex := .exit 0) (nb l) (by kernel_rfl) (by kernel_rfl) (.inl ⟨rfl, h1, rfl⟩)
 clear hp hb
 refine yy [] [] (x := mW.of Tryz.f99 uv iu) (T := fun r => mH (l.any p) r.val /\ r.heap = [] /\ r.next = 0) (by kernel_rfl) ?_
 refine gM (n := Tryz.f99.ntmps) (c := roundOf Tryz.f99 0) (f := iI l (Int.ofNat 0)) (by kernel_rfl) (by kernel_rfl) hl ?_
 rintro ex s (⟨rfl, hc, rfl⟩ | ⟨rfl, hc, i, rfl⟩)
 ·rw [hc]; exact ⟨_, rfl, bp (a := ⟨iv (-1), [], 0⟩) (by kernel_rfl) ⟨⟨_, rfl, rfl⟩, rfl, rfl⟩⟩
 rw [hc]; exact ⟨_, rfl, bp (a := ⟨iv (Int.ofNat i), [], 0⟩) (by kernel_rfl) ⟨⟨_, rfl, bu (by omega)⟩, rfl, rfl⟩⟩
theorem zp {l : List Ty} {p : Ty -> Bool} (hp : ∀ t ∈ l, ae 169 [.dat t.enc] (bv (p t))) (hb : l.length < 1000000000) :
  ae 69 [.dat (sl (ap l)), gQ] (bv (l.any p)) := by
 cases l with
 | nil => exact oG _ _ _ _ _ (by kernel_rfl)
 | cons t r =>
  have h := vw hp hb
  generalize (t :: r).any p = c at h
  show ae 69 [.dat (.slice (ap (t :: r))), gQ] (bv c)
  refine co [8] [] (x := .of Tryz.f69 Aa xM) ?_; refine FP (Q := mH c) h (by kernel_rfl) (by kernel_rfl) (by rintro v ⟨j, rfl, _⟩; rfl) ?_
  rintro v ⟨j, rfl, hj⟩ _
  refine bb (b := c) (c := !bn j (Int.ofNat 0)) (by rw [hj]; simp) (by kernel_rfl) ?_
  exact bp (a := ⟨bv c, [], 0⟩) (by cases c <;> kernel_rfl) rfl
/-! ### validNodesF -/
def fX : ac := .fn (.func 168) [] []
def gC (l : List Ty) (i : Int) : ab := ⟨[(8, iv i), (7, iv (Int.ofNat (ap l).length)), (0, .dat (.slice (ap l))), (1, fX)], [], [], 0⟩
def mI (l : List Ty) : ab := ⟨[(9, bv false), (8, iv (Int.ofNat (ap l).length)), (7, iv (Int.ofNat (ap l).length)), (0, .dat (.slice (ap l))), (1, fX)], [], [], 0⟩
def mJ (i : Nat) : ab := ⟨[(4, iv (Int.ofNat i))], [], [], 0⟩
theorem to {l : List Ty} {p : Ty -> Bool} (hp : ∀ t ∈ l, ae 168 [.dat t.enc] (bv (p t))) (hb : l.length < 1000000000) :
  KC 99 [.dat (.slice (ap l)), fX] [] 0 (fun v h m => mH (l.any p) v /\ h = [] /\ m = 0) := by
 have hl : KD (.loop (roundOf Tryz.f99 0)) (fun e s => (e = .exit 0 /\ l.any p = false /\ s = (mI l).au Tryz.f99.ntmps) ∨ (e = .ret /\ l.any p = true /\ ∃ i : Nat, s = (mJ i).au Tryz.f99.ntmps)) ((gC l (Int.ofNat 0)).au Tryz.f99.ntmps) := by
  refine bW (St := fun i => (gC l (Int.ofNat i)).au Tryz.f99.ntmps) (fun i => l.any p = (l.drop i).any p) (ap l).length ?_ ?_ (i := 0) (Nat.zero_le _) rfl
  ·intro i hi hI
   obtain ⟨t, ht, hm⟩ := get_mem hi
   have ha := EO (p := p) ht
   have hw : aE .i64 (Int.ofNat i + 1) = Int.ofNat (i + 1) := aZ (by rw [aC] at hi; omega)
   have hc := hp t hm
   generalize ht2 : p t = tc at hc ha
   clear hp hb ht2
   obtain ⟨k2, nm2, ix2, a2⟩ := t
   rcases a2 with _ | ⟨b, c⟩ <;> cases tc <;>
   ·refine ax [9] [14] (H := vV) (live := iu) (by kernel_rfl) ?_; refine bb (b := true) (bq hi) (by kernel_rfl) ?_; refine oo (jg ht) ?_; refine on hc ?_
    first
     |exact bL (ex := .normal) (gC l (aE .i64 (Int.ofNat i + 1))) (by kernel_rfl) (by kernel_rfl) ⟨by rw [hw], by rw [hI, ha]; rfl⟩
     |exact bL (ex := .ret) (mJ i) (by kernel_rfl) (by kernel_rfl) (.inr ⟨rfl, by rw [hI, ha]; rfl, i, rfl⟩)
  intro hI
  have h1 : l.any p = false := by rw [hI, aC, List.drop_length]; rfl
  refine ax [9] [14] (H := vV) (live := iu) (by kernel_rfl) ?_; refine bb (b := false) (bu (i := (ap l).length) (L := (ap l).length) (by omega)) (by kernel_rfl) ?_
  exact bL (ex := .exit 0) (mI l) (by kernel_rfl) (by kernel_rfl) (.inl ⟨rfl, h1, rfl⟩)
 clear hp hb
 refine yy [] [] (x := mW.of Tryz.f99 uv iu) (T := fun r => mH (l.any p) r.val /\ r.heap = [] /\ r.next = 0) (by kernel_rfl) ?_
 refine gM (n := Tryz.f99.ntmps) (c := roundOf Tryz.f99 0) (f := gC l (Int.ofNat 0)) (by kernel_rfl) (by kernel_rfl) hl ?_
 rintro ex s (⟨rfl, hc, rfl⟩ | ⟨rfl, hc, i, rfl⟩)
 ·rw [hc]; exact ⟨_, rfl, bp (a := ⟨iv (-1), [], 0⟩) (by kernel_rfl) ⟨⟨_, rfl, rfl⟩, rfl, rfl⟩⟩
 rw [hc]; exact ⟨_, rfl, bp (a := ⟨iv (Int.ofNat i), [], 0⟩) (by kernel_rfl) ⟨⟨_, rfl, bu (by omega)⟩, rfl, rfl⟩⟩
theorem yO {l : List Ty} {p : Ty -> Bool} (hp : ∀ t ∈ l, ae 168 [.dat t.enc] (bv (p t))) (hb : l.length < 1000000000) :
  ae 69 [.dat (sl (ap l)), fX] (bv (l.any p)) := by
 cases l with
 | nil => exact oG _ _ _ _ _ (by kernel_rfl)
 | cons t r =>
  have h := to hp hb
  generalize (t :: r).any p = c at h
  show ae 69 [.dat (.slice (ap (t :: r))), fX] (bv c)
  refine co [8] [] (x := .of Tryz.f69 Aa xM) ?_; refine FP (Q := mH c) h (by kernel_rfl) (by kernel_rfl) (by rintro v ⟨j, rfl, _⟩; rfl) ?_
  rintro v ⟨j, rfl, hj⟩ _
  refine bb (b := c) (c := !bn j (Int.ofNat 0)) (by rw [hj]; simp) (by kernel_rfl) ?_
  exact bp (a := ⟨bv c, [], 0⟩) (by cases c <;> kernel_rfl) rfl
/-! ### Plain terms -/
mutual
def Ty.plain : Ty -> Bool
 | .mk k nm ix args => aX k 5 || (Ty.mk k nm ix args).closed 0 || (aX k 2 && !fZ args)
def fZ : List Ty -> Bool
 | [] => false
 | t :: r => !t.plain || fZ r
end
theorem AL : ∀ l : List Ty, fZ l = l.any (fun t => !t.plain)
 | [] => by simp [fZ]
 | t :: r => by simp [fZ, AL r]
theorem uW {k : Int} {nm : List UInt8} {ix : Int} {l : List Ty} (hp : ∀ t ∈ l, ae 117 [.dat t.enc] (bv t.plain)) (hb : l.length < 1000000000) : ae 140 [.dat (Ty.mk k nm ix l).enc] (bv (!fZ l)) := by
 have h1 : ∀ t ∈ l, ae 169 [.dat t.enc] (bv (!t.plain)) := by
  intro t ht
  have hc := hp t ht
  generalize t.plain = c at hc
  obtain ⟨k2, nm2, ix2, a2⟩ := t
  rcases a2 with _ | ⟨b, d⟩ <;> cases c <;>
  ·refine co [] [] (x := .of Tryz.f169 Fz H5) ?_; refine on hc ?_; exact fi
 have h2 := zp h1 hb
 rw [AL]
 generalize l.any (fun t => !t.plain) = c at h2
 rcases l with _ | ⟨b, d⟩ <;> cases c <;>
 ·refine co [] [] (x := .of Tryz.f140 FG Ic) ?_; refine on h2 ?_; exact fi
theorem Fu {k : Int} {nm : List UInt8} {ix : Int} {l : List Ty} (hp : ∀ t ∈ l, ae 117 [.dat t.enc] (bv t.plain)) (hs : (Ty.mk k nm ix l).size < 1000000000) : ae 117 [.dat (Ty.mk k nm ix l).enc] (bv (Ty.mk k nm ix l).plain) := by
 have hb : l.length < 1000000000 := by have := ee l; simp only [Ty.size] at hs; omega
 have h1 := EF (Ty.mk k nm ix l) 0 hs (by have := iC (Ty.mk k nm ix l); omega)
 have h2 := uW (k := k) (nm := nm) (ix := ix) hp hb
 have e : (Ty.mk k nm ix l).plain = (aX k 5 || (Ty.mk k nm ix l).closed 0 || (aX k 2 && !fZ l)) := by rw [Ty.plain]
 rw [e]
 clear e hp hs hb
 generalize (Ty.mk k nm ix l).closed 0 = cc at h1
 generalize (!fZ l) = ca at h2
 generalize h5 : aX k 5 = c5
 generalize h6 : aX k 2 = c2
 rcases l with _ | ⟨b, d⟩ <;>
 ·refine co [5, 13] [] (x := .of Tryz.f117 FN Il) ?_; refine ob h5 ?_
  cases c5
  ·refine on h1 ?_
   cases cc
   ·refine ob h6 ?_
    cases c2 with
    | false => exact fi
    | true =>
     refine on h2 ?_
     cases ca <;> exact fi
   exact fi
  exact fi
mutual
theorem ID : ∀ t : Ty, t.size < 1000000000 -> ae 117 [.dat t.enc] (bv t.plain)
 | .mk k nm ix l, h => Fu (yA l (by simp only [Ty.size] at h; omega)) h
theorem yA : ∀ l : List Ty, aR l < 1000000000 -> ∀ t ∈ l, ae 117 [.dat t.enc] (bv t.plain)
 | [], _, t, ht => by simp at ht
 | x :: r, h, t, ht => by
  simp only [aR] at h
  rcases List.mem_cons.1 ht with h1 | ht
  ·rw [h1]; exact ID x (by omega)
  exact yA r (by omega) t ht
end
def iK (n : Nat) : Bool := (Nat.ble 97 n && Nat.ble n 122) || (Nat.ble 65 n && Nat.ble n 90)
def zu (n : Nat) : Bool := iK n || (Nat.ble 48 n && Nat.ble n 57) || Nat.beq n 95 || Nat.beq n 45
def dw (n : Nat) : Bool := !Nat.beq n 45 && zu n
def isIdent : List UInt8 -> Bool
 | [] => false
 | c :: r => Nat.ble (r.length + 1) 24 && iK c.toNat && (c :: r).all (fun c => dw c.toNat)
def Kt (n : Nat) : ac := .dat (.flat (.int .u8 (Int.ofNat n)))
def G5 (p : Nat -> Bool) : Nat -> Bool
 | 0 => true
 | k + 1 => p k && G5 p k
theorem sh {p : Nat -> Bool} : ∀ {k : Nat}, G5 p k = true -> ∀ i, i < k -> p i = true
 | 0, _, i, hi => by omega
 | k + 1, h, i, hi => by
  simp only [G5, Bool.and_eq_true] at h
  rcases Nat.lt_or_ge i k with h1 | h1
  ·exact sh h.2 i h1
  have : i = k := by omega
  subst this; exact h.1
def AH (c : Bool) : Option eQ -> Bool
 | some ⟨.dat (.flat (.bool b)), [], 0⟩ => match b with | true => c | false => !c
 | _ => false
theorem rT {c : Bool} {r : Option eQ} (h : AH c r = true) : r = some ⟨bv c, [], 0⟩ := by
 unfold AH at h
 split at h
 ·rename_i b
  cases b <;> simp at h <;> subst h <;> rfl
 simp at h
theorem F8 : G5 (fun n => AH (iK n) (X 111 [Kt n] [] 0)) 256 = true := by kernel_rfl
theorem GV (c : UInt8) : ae 111 [Kt c.toNat] (bv (iK c.toNat)) := oG _ _ _ _ _ (rT (sh F8 _ c.toNat_lt))
theorem JN : G5 (fun n => AH (dw n) (X 113 [Kt n] [] 0)) 256 = true := by kernel_rfl
theorem OV (c : UInt8) : ae 113 [Kt c.toNat] (bv (dw c.toNat)) := oG _ _ _ _ _ (rT (sh JN _ c.toNat_lt))
theorem X1 : (env az.aU).desc 9 = some .string := by kernel_rfl
theorem se {b : List UInt8} {i : Nat} {c : UInt8} (h : b[i]? = some c) : tS (env az.aU) 9 [.dat (sb b), .dat (.flat (.int .i64 (Int.ofNat i)))] = some ⟨Kt c.toNat, .keep⟩ := by
 have hg : az.aU.byte ⟨⟨b⟩⟩ (Int.ofNat i) = some c := Q5 h
 have hp : (env az.aU).pr = az.aU := rfl
 simp only [tS, sb, X1, hp, hg]
 rfl
def Yi : ac := .fn (.func 113) [] []
noncomputable def NP : Hints := ⟨aq, Bq, aw, rowsOf aw 112⟩
def PH (b : List UInt8) (i : Int) : ab := ⟨[(5, iv i), (0, .dat (sb b)), (1, Yi)], [], [], 0⟩
def Sg (b : List UInt8) : ab := ⟨[(9, bv false), (5, iv (Int.ofNat b.length)), (0, .dat (sb b)), (1, Yi)], [], [], 0⟩
def Sh : ab := ⟨[(4, bv false)], [], [], 0⟩
theorem RD {b : List UInt8} (hb : b.length < 1000000000) : ae 112 [.dat (sb b), Yi] (bv (b.all (fun c => dw c.toNat))) := by
 have hl : KD (.loop (roundOf Tryz.f112 0)) (fun e s => (e = .exit 0 /\ b.all (fun c => dw c.toNat) = true /\ s = (Sg b).au Tryz.f112.ntmps) ∨ (e = .ret /\ b.all (fun c => dw c.toNat) = false /\ s = Sh.au Tryz.f112.ntmps)) ((PH b (Int.ofNat 0)).au Tryz.f112.ntmps) := by
  refine bW (St := fun i => (PH b (Int.ofNat i)).au Tryz.f112.ntmps) (fun i => b.all (fun c => dw c.toNat) = (b.drop i).all (fun c => dw c.toNat)) b.length ?_ ?_ (i := 0) (Nat.zero_le _) rfl
  ·intro i hi hI
   have hg : b[i]? = some b[i] := List.getElem?_eq_getElem hi
   have hd : (b.drop i).all (fun c => dw c.toNat) = (dw b[i].toNat && (b.drop (i + 1)).all (fun c => dw c.toNat)) := by rw [List.drop_eq_getElem_cons hi]; rfl
   have hw : aE .i64 (Int.ofNat i + 1) = Int.ofNat (i + 1) := aZ (by omega)
   have hc := OV b[i]
   generalize b[i] = c at hg hd hc
   generalize dw c.toNat = tc at hd hc
   refine ax [9] [15] (H := NP) (live := vQ) (by kernel_rfl) ?_; refine bb (b := true) (bq hi) (by kernel_rfl) ?_; refine oo (se hg) ?_; refine on hc ?_
   cases tc
   ·exact bL (ex := .ret) Sh (by kernel_rfl) (by kernel_rfl) (.inr ⟨rfl, by rw [hI, hd]; rfl, rfl⟩)
   exact bL (ex := .normal) (PH b (aE .i64 (Int.ofNat i + 1))) (by kernel_rfl) (by kernel_rfl) ⟨by rw [hw], by rw [hI, hd]; rfl⟩
  intro hI
  have h1 : b.all (fun c => dw c.toNat) = true := by rw [hI, List.drop_length]; rfl
  refine ax [9] [15] (H := NP) (live := vQ) (by kernel_rfl) ?_; refine bb (b := false) (bu (i := b.length) (L := b.length) (by omega)) (by kernel_rfl) ?_
  exact bL (ex := .exit 0) (Sg b) (by kernel_rfl) (by kernel_rfl) (.inl ⟨rfl, h1, rfl⟩)
 generalize b.all (fun c => dw c.toNat) = c at hl
 refine co [] [] (x := .of Tryz.f112 Bq vQ) ?_; refine gM (n := Tryz.f112.ntmps) (c := roundOf Tryz.f112 0) (f := PH b (Int.ofNat 0)) (by kernel_rfl) (by kernel_rfl) hl ?_
 rintro ex s (⟨rfl, rfl, rfl⟩ | ⟨rfl, rfl, rfl⟩) <;>
 ·exact ⟨_, rfl, bp (by kernel_rfl) rfl⟩
theorem tE (b : List UInt8) : ae 87 [.dat (sb b)] (bv (isIdent b)) := by
 cases b with
 | nil => exact oG _ _ _ _ _ (by kernel_rfl)
 | cons c r =>
  have hev : Nat.ble (r.length + 1) 24 = true -> ae 112 [.dat (sb (c :: r)), Yi] (bv ((c :: r).all (fun c => dw c.toNat))) := fun h => RD (by have := fT h; simp; omega)
  have hle := GV c
  have e : isIdent (c :: r) = (Nat.ble (r.length + 1) 24 && iK c.toNat && (c :: r).all (fun c => dw c.toNat)) := rfl
  rw [e]
  generalize (c :: r).all (fun c => dw c.toNat) = ca at hev
  generalize iK c.toNat = cl at hle
  have hlt : bn (Int.ofNat 24) (Int.ofNat (r.length + 1)) = !Nat.ble (r.length + 1) 24 := by
   rw [jd]
   by_cases h : 24 < r.length + 1
   ·rw [decide_eq_true h, show Nat.ble (r.length + 1) 24 = false from by rw [Bool.eq_false_iff]; intro e; have := fT e; omega]; rfl
   rw [decide_eq_false h, gY (by omega)]; rfl
  generalize Nat.ble (r.length + 1) 24 = cb at hlt hev
  refine co [8] [12] (x := .of Tryz.f87 Mk Ni) ?_; refine bb (b := cb) (c := !bn (Int.ofNat 24) (Int.ofNat (r.length + 1))) (by rw [hlt]; simp) (by kernel_rfl) ?_
  cases cb with
  | false => exact fi
  | true =>
   refine oo (se (b := c :: r) (i := 0) rfl) ?_; refine on hle ?_
   cases cl with
   | false => exact fi
   | true =>
    refine on (hev rfl) ?_
    cases ca <;> exact fi
/-! ### The reserved words -/
def fQ (b : List UInt8) : Bool := mV.any (fun r => dX b r)
noncomputable def oZ : Hints := ⟨aq, Bp, aw, rowsOf aw 115⟩
def CE (b : List UInt8) (i : Int) : ab := ⟨[(8, iv i), (7, iv 5), (0, .dat (.slice (gA mV))), (1, .dat (sb b))], [], [], 0⟩
def Se (b : List UInt8) : ab := ⟨[(9, bv false), (8, iv 5), (7, iv 5), (0, .dat (.slice (gA mV))), (1, .dat (sb b))], [], [], 0⟩
def zH (i : Nat) : ab := ⟨[(4, iv (Int.ofNat i))], [], [], 0⟩
theorem OU (b : List UInt8) : KC 115 [.dat (.slice (gA mV)), .dat (sb b)] [] 0 (fun v h m => mH (fQ b) v /\ h = [] /\ m = 0) := by
 have hl : KD (.loop (roundOf Tryz.f115 0)) (fun e s => (e = .exit 0 /\ fQ b = false /\ s = (Se b).au Tryz.f115.ntmps) ∨ (e = .ret /\ fQ b = true /\ ∃ i : Nat, s = (zH i).au Tryz.f115.ntmps)) ((CE b (Int.ofNat 0)).au Tryz.f115.ntmps) := by
  refine bW (St := fun i => (CE b (Int.ofNat i)).au Tryz.f115.ntmps) (fun i => fQ b = (mV.drop i).any (fun r => dX b r)) 5 ?_ ?_ (i := 0) (Nat.zero_le _) rfl
  ·intro i hi hI
   have hcases : i = 0 ∨ i = 1 ∨ i = 2 ∨ i = 3 ∨ i = 4 := by omega
   have hd : (mV.drop i).any (fun r => dX b r) = (dX b (mV.getD i []) || (mV.drop (i + 1)).any (fun r => dX b r)) := by rcases hcases with rfl | rfl | rfl | rfl | rfl <;> rfl
   rw [hd] at hI
   clear hd
   generalize hcw : dX b (mV.getD i []) = cw at hI
   rcases hcases with rfl | rfl | rfl | rfl | rfl
   ·refine ax [16] [] (H := oZ) (live := kB) (by kernel_rfl) ?_; refine ob hcw ?_
    cases cw
    ·exact bL (ex := .normal) (CE b (Int.ofNat (0 + 1))) (by kernel_rfl) (by kernel_rfl) ⟨rfl, hI⟩
    exact bL (ex := .ret) (zH 0) (by kernel_rfl) (by kernel_rfl) (.inr ⟨rfl, hI, 0, rfl⟩)
   ·refine ax [16] [] (H := oZ) (live := kB) (by kernel_rfl) ?_; refine ob hcw ?_
    cases cw
    ·exact bL (ex := .normal) (CE b (Int.ofNat (1 + 1))) (by kernel_rfl) (by kernel_rfl) ⟨rfl, hI⟩
    exact bL (ex := .ret) (zH 1) (by kernel_rfl) (by kernel_rfl) (.inr ⟨rfl, hI, 1, rfl⟩)
   ·refine ax [16] [] (H := oZ) (live := kB) (by kernel_rfl) ?_; refine ob hcw ?_
    cases cw
    ·exact bL (ex := .normal) (CE b (Int.ofNat (2 + 1))) (by kernel_rfl) (by kernel_rfl) ⟨rfl, hI⟩
    exact bL (ex := .ret) (zH 2) (by kernel_rfl) (by kernel_rfl) (.inr ⟨rfl, hI, 2, rfl⟩)
   ·refine ax [16] [] (H := oZ) (live := kB) (by kernel_rfl) ?_; refine ob hcw ?_
    cases cw
    ·exact bL (ex := .normal) (CE b (Int.ofNat (3 + 1))) (by kernel_rfl) (by kernel_rfl) ⟨rfl, hI⟩
    exact bL (ex := .ret) (zH 3) (by kernel_rfl) (by kernel_rfl) (.inr ⟨rfl, hI, 3, rfl⟩)
   refine ax [16] [] (H := oZ) (live := kB) (by kernel_rfl) ?_; refine ob hcw ?_
   cases cw
   ·exact bL (ex := .normal) (CE b (Int.ofNat (4 + 1))) (by kernel_rfl) (by kernel_rfl) ⟨rfl, hI⟩
   exact bL (ex := .ret) (zH 4) (by kernel_rfl) (by kernel_rfl) (.inr ⟨rfl, hI, 4, rfl⟩)
  intro hI
  have h1 : fQ b = false := by rw [hI]; rfl
  refine ax [16] [] (H := oZ) (live := kB) (by kernel_rfl) ?_
  exact bL (ex := .exit 0) (Se b) (by kernel_rfl) (by kernel_rfl) (.inl ⟨rfl, h1, rfl⟩)
 generalize fQ b = c at hl
 refine yy [] [] (x := mW.of Tryz.f115 Bp kB) (T := fun r => mH c r.val /\ r.heap = [] /\ r.next = 0) (by kernel_rfl) ?_
 refine gM (n := Tryz.f115.ntmps) (c := roundOf Tryz.f115 0) (f := CE b (Int.ofNat 0)) (by kernel_rfl) (by kernel_rfl) hl ?_
 rintro ex s (⟨rfl, rfl, rfl⟩ | ⟨rfl, rfl, i, rfl⟩)
 ·exact ⟨_, rfl, bp (a := ⟨iv (-1), [], 0⟩) (by kernel_rfl) ⟨⟨_, rfl, rfl⟩, rfl, rfl⟩⟩
 exact ⟨_, rfl, bp (a := ⟨iv (Int.ofNat i), [], 0⟩) (by kernel_rfl) ⟨⟨_, rfl, bu (by omega)⟩, rfl, rfl⟩⟩
theorem uX (b : List UInt8) : ae 88 [.dat (.slice (gA mV)), .dat (sb b)] (bv (fQ b)) := by
 have h := OU b
 generalize fQ b = c at h
 refine co [8] [] (x := .of Tryz.f88 Mj Nh) ?_; refine FP (Q := mH c) h (by kernel_rfl) (by kernel_rfl) (by rintro v ⟨j, rfl, _⟩; rfl) ?_
 rintro v ⟨j, rfl, hj⟩ _
 refine bb (b := c) (c := !bn j (Int.ofNat 0)) (by rw [hj]; simp) (by kernel_rfl) ?_
 cases c <;> exact fi
def eJ (x y : Int) : Int := match bn x y with | true => -1 | false => (match bn y x with | true => 1 | false => 0)
def oq (x y : List UInt8) : Int := match JA x y with | true => -1 | false => (match !(JA x y || dX x y) with | true => 1 | false => 0)
def yZ : List Int -> Int
 | [] => 0
 | x :: r => match aX x 0 with | true => yZ r | false => x
theorem dq (x : Int) : aX x x = true := by rw [fS]; simp
theorem oc (x : List UInt8) : dX x x = true := by rw [jZ]; simp
theorem OZ (x : Int) : ae 171 [iv x] (bv false) := by
 refine co [5] [] (x := .of Tryz.f171 Fy H0) ?_; refine bb (b := false) (c := !aX x x) (by rw [dq]; rfl) (by kernel_rfl) ?_
 exact fi
theorem OY (x : List UInt8) : ae 172 [.dat (sb x)] (bv false) := by
 refine co [5] [] (x := .of Tryz.f172 Fx HZ) ?_; refine bb (b := false) (c := !dX x x) (by rw [oc]; rfl) (by kernel_rfl) ?_
 exact fi
theorem GW (x y : Int) : ae 144 [iv x, iv y] (iv (eJ x y)) := by
 unfold eJ
 generalize h1 : bn x y = a
 generalize h2 : bn y x = b
 refine co [16, 19] [] (x := .of Tryz.f144 FF Ib) ?_; refine on (OZ x) ?_; refine on (OZ y) ?_; refine ob h1 ?_
 cases a
 ·refine ob h2 ?_
  cases b <;> exact fi
 exact fi
theorem Vi (x y : List UInt8) : ae 145 [.dat (sb x), .dat (sb y)] (iv (oq x y)) := by
 unfold oq
 generalize h2 : (!(JA x y || dX x y)) = b
 generalize h1 : JA x y = a
 refine co [16, 19] [] (x := .of Tryz.f145 FE Ia) ?_; refine on (OY x) ?_; refine on (OY y) ?_; refine ob h1 ?_
 cases a
 ·refine ob h2 ?_
  cases b <;> exact fi
 exact fi
/-! ### The first that is not 0 -/
noncomputable def hOr : Hints := ⟨aq, Bh, aw, rowsOf aw 143⟩
def Fc (a b c d : Int) (i : Int) : ab := ⟨[(8, iv i), (7, iv 4), (6, .dat (.slice [i64 a, i64 b, i64 c, i64 d])), (3, iv 0)], [], [], 0⟩
def R7 (a b c d : Int) : ab := ⟨[(9, bv false), (8, iv 4), (7, iv 4), (6, .dat (.slice [i64 a, i64 b, i64 c, i64 d])), (3, iv 0)], [], [], 0⟩
def CD (a : Int) : ab := ⟨[(2, iv a)], [], [], 0⟩
theorem YD (a b c d : Int) : ae 143 [.dat (.slice [i64 a, i64 b, i64 c, i64 d])] (iv (yZ [a, b, c, d])) := by
 have hl : KD (.loop (roundOf Tryz.f143 0)) (fun e s => (e = .exit 0 /\ yZ [a, b, c, d] = 0 /\ s = (R7 a b c d).au Tryz.f143.ntmps) ∨ (e = .ret /\ s = (CD (yZ [a, b, c, d])).au Tryz.f143.ntmps)) ((Fc a b c d (Int.ofNat 0)).au Tryz.f143.ntmps) := by
  refine bW (St := fun i => (Fc a b c d (Int.ofNat i)).au Tryz.f143.ntmps) (fun i => yZ [a, b, c, d] = yZ ([a, b, c, d].drop i)) 4 ?_ ?_ (i := 0) (Nat.zero_le _) rfl
  ·intro i hi hI
   have hcases : i = 0 ∨ i = 1 ∨ i = 2 ∨ i = 3 := by omega
   have hd : yZ ([a, b, c, d].drop i) = (match aX ([a, b, c, d].getD i 0) 0 with | true => yZ ([a, b, c, d].drop (i + 1)) | false => [a, b, c, d].getD i 0) := by rcases hcases with rfl | rfl | rfl | rfl <;> rfl
   rw [hd] at hI
   clear hd
   generalize hcw : aX ([a, b, c, d].getD i 0) 0 = cw at hI
   rcases hcases with rfl | rfl | rfl | rfl
   ·refine ax [14] [] (H := hOr) (live := me) (by kernel_rfl) ?_; refine bb (b := !cw) (c := !aX ([a, b, c, d].getD 0 0) 0) (by rw [hcw]) (by kernel_rfl) ?_
    cases cw with
    | false => exact bL (ex := .ret) (CD ([a, b, c, d].getD 0 0)) (by kernel_rfl) (by kernel_rfl) (.inr ⟨rfl, by rw [hI]⟩)
    | true => exact bL (ex := .normal) (Fc a b c d (Int.ofNat (0 + 1))) (by kernel_rfl) (by kernel_rfl) ⟨rfl, hI⟩
   ·refine ax [14] [] (H := hOr) (live := me) (by kernel_rfl) ?_; refine bb (b := !cw) (c := !aX ([a, b, c, d].getD 1 0) 0) (by rw [hcw]) (by kernel_rfl) ?_
    cases cw with
    | false => exact bL (ex := .ret) (CD ([a, b, c, d].getD 1 0)) (by kernel_rfl) (by kernel_rfl) (.inr ⟨rfl, by rw [hI]⟩)
    | true => exact bL (ex := .normal) (Fc a b c d (Int.ofNat (1 + 1))) (by kernel_rfl) (by kernel_rfl) ⟨rfl, hI⟩
   ·refine ax [14] [] (H := hOr) (live := me) (by kernel_rfl) ?_; refine bb (b := !cw) (c := !aX ([a, b, c, d].getD 2 0) 0) (by rw [hcw]) (by kernel_rfl) ?_
    cases cw with
    | false => exact bL (ex := .ret) (CD ([a, b, c, d].getD 2 0)) (by kernel_rfl) (by kernel_rfl) (.inr ⟨rfl, by rw [hI]⟩)
    | true => exact bL (ex := .normal) (Fc a b c d (Int.ofNat (2 + 1))) (by kernel_rfl) (by kernel_rfl) ⟨rfl, hI⟩
   refine ax [14] [] (H := hOr) (live := me) (by kernel_rfl) ?_; refine bb (b := !cw) (c := !aX ([a, b, c, d].getD 3 0) 0) (by rw [hcw]) (by kernel_rfl) ?_
   cases cw with
   | false => exact bL (ex := .ret) (CD ([a, b, c, d].getD 3 0)) (by kernel_rfl) (by kernel_rfl) (.inr ⟨rfl, by rw [hI]⟩)
   | true => exact bL (ex := .normal) (Fc a b c d (Int.ofNat (3 + 1))) (by kernel_rfl) (by kernel_rfl) ⟨rfl, hI⟩
  intro hI
  have h1 : yZ [a, b, c, d] = 0 := by rw [hI]; rfl
  refine ax [14] [] (H := hOr) (live := me) (by kernel_rfl) ?_
  exact bL (ex := .exit 0) (R7 a b c d) (by kernel_rfl) (by kernel_rfl) (.inl ⟨rfl, h1, rfl⟩)
 generalize yZ [a, b, c, d] = r at hl
 refine co [] [] (x := .of Tryz.f143 Bh me) ?_; refine gM (n := Tryz.f143.ntmps) (c := roundOf Tryz.f143 0) (f := Fc a b c d (Int.ofNat 0)) (by kernel_rfl) (by kernel_rfl) hl ?_
 rintro ex s (⟨rfl, rfl, rfl⟩ | ⟨rfl, rfl⟩)
 ·exact ⟨_, rfl, bp (by kernel_rfl) rfl⟩
 exact ⟨_, rfl, bp (by kernel_rfl) rfl⟩
/-! ### Terms -/
mutual
def mB : Ty -> Ty -> Int
 | .mk k nm ix l, .mk k2 nm2 ix2 l2 => match aX (yZ [eJ k k2, oq nm nm2, eJ ix ix2, eJ (Int.ofNat (ap l).length) (Int.ofNat (ap l2).length)]) 0 with
  | true => pv l l2
  | false => yZ [eJ k k2, oq nm nm2, eJ ix ix2, eJ (Int.ofNat (ap l).length) (Int.ofNat (ap l2).length)]
def pv : List Ty -> List Ty -> Int
 | t :: r, u :: v => match aX (mB t u) 0 with | true => pv r v | false => mB t u
 | _, _ => 0
end
def WG (k : Int) (nm : List UInt8) (ix : Int) (l : List Ty) (k2 : Int) (nm2 : List UInt8) (ix2 : Int) (l2 : List Ty) : Int := yZ [eJ k k2, oq nm nm2, eJ ix ix2, eJ (Int.ofNat (ap l).length) (Int.ofNat (ap l2).length)]
theorem nZ {x : Int} (h : aX x 0 = true) : x = 0 := by rw [fS] at h; simpa using h
theorem xD : ∀ {l : List Int}, yZ l = 0 -> ∀ x ∈ l, x = 0
 | [], _, x, hx => by simp at hx
 | y :: r, h, x, hx => by
  unfold yZ at h
  split at h
  ·rename_i hy
   rcases List.mem_cons.1 hx with h1 | hx
   ·rw [h1]; exact nZ hy
   exact xD h x hx
  rename_i hy
  subst h
  rw [dq] at hy
  simp at hy
theorem tB {x y : Int} (h : eJ x y = 0) : x = y := by
 unfold eJ at h
 cases h1 : bn x y with
 | true => rw [h1] at h; simp at h
 | false =>
  rw [h1] at h
  cases h2 : bn y x with
  | true => rw [h2] at h; simp at h
  | false =>
   rw [gl] at h1 h2
   simp at h1 h2
   omega
theorem xW {k : Int} {nm : List UInt8} {ix : Int} {l : List Ty} {k2 : Int} {nm2 : List UInt8} {ix2 : Int} {l2 : List Ty} (h : aX (WG k nm ix l k2 nm2 ix2 l2) 0 = true) : l.length = l2.length := by
 have h1 := xD (nZ h) (eJ (Int.ofNat (ap l).length) (Int.ofNat (ap l2).length)) (by simp)
 have h2 := tB h1
 rw [aC, aC] at h2
 exact Int.ofNat.inj h2
/-- What has been found after i rounds. -/
def lI (l l2 : List Ty) (c0 : Int) : Nat -> Int
 | 0 => c0
 | i + 1 => match l[i]?, l2[i]? with | some t, some u => mB t u | _, _ => 0
noncomputable def nP : Hints := ⟨aq, Bn, aw, rowsOf aw 121⟩
def pD (k : Int) (nm : List UInt8) (ix : Int) (l : List Ty) (k2 : Int) (nm2 : List UInt8) (ix2 : Int) (l2 : List Ty) : Heap := [(.loc 3, .cells [iv k2, .dat (sb nm2), iv ix2, .dat (.slice (ap l2))]), (.loc 2, .cells [iv k, .dat (sb nm), iv ix, .dat (.slice (ap l))])]
def nf (lo : Heap) (i c : Int) : ab := ⟨[(6, iv i), (5, iv c), (3, .ptr (.loc 3) 0), (2, .ptr (.loc 2) 0)], lo, [], 0⟩
def jO (lo : Heap) (i c : Int) : ab := ⟨[(39, bv false), (6, iv i), (5, iv c), (3, .ptr (.loc 3) 0), (2, .ptr (.loc 2) 0)], lo, [], 0⟩
theorem OL {k : Int} {nm : List UInt8} {ix : Int} {l : List Ty} {k2 : Int} {nm2 : List UInt8} {ix2 : Int} {l2 : List Ty} {c0 : Int} (hlen : aX c0 0 = true -> l.length = l2.length)
  (ih : ∀ t ∈ l, ∀ u ∈ l2, ae 121 [.dat t.enc, .dat u.enc] (iv (mB t u))) (hb : l.length < 1000000000) :
  KD (.loop (roundOf Tryz.f121 0)) (fun e s => e = .exit 0 /\ ∃ i : Nat, s = (jO (pD k nm ix l k2 nm2 ix2 l2) (Int.ofNat i) (match aX c0 0 with | true => pv l l2 | false => c0)).au Tryz.f121.ntmps) ((nf (pD k nm ix l k2 nm2 ix2 l2) (Int.ofNat 0) c0).au Tryz.f121.ntmps) := by
 generalize hfin : (match aX c0 0 with | true => pv l l2 | false => c0) = fin
 refine bW (St := fun i => (nf (pD k nm ix l k2 nm2 ix2 l2) (Int.ofNat i) (lI l l2 c0 i)).au Tryz.f121.ntmps) (fun i => (0 < i -> aX c0 0 = true) /\ fin = (match aX (lI l l2 c0 i) 0 with | true => pv (l.drop i) (l2.drop i) | false => lI l l2 c0 i)) (ap l).length ?_ ?_ (i := 0) (Nat.zero_le _) ⟨fun h => absurd h (Nat.lt_irrefl 0), hfin.symm⟩
 ·rintro i hi ⟨hz, hI⟩
  have hz2 : aX (lI l l2 c0 i) 0 = true -> aX c0 0 = true := by
   intro h
   cases i with
   | zero => exact h
   | succ i => exact hz (Nat.succ_pos i)
  obtain ⟨t, ht, hm⟩ := get_mem hi
  have hi2 := hi
  rw [aC] at hi2
  have hw : aE .i64 (Int.ofNat i + 1) = Int.ofNat (i + 1) := aZ (by omega)
  generalize hca : lI l l2 c0 i = ca at hI hz2
  generalize hcz : aX ca 0 = cz at hI hz2
  cases cz with
  | false =>
   refine ax [32, 38] [45, 50] (H := nP) (live := mf) (by kernel_rfl) ?_; refine ob hcz ?_
   refine bL (ex := .exit 0) (jO (pD k nm ix l k2 nm2 ix2 l2) (Int.ofNat i) ca) (by kernel_rfl) (by kernel_rfl) ⟨rfl, i, ?_⟩
   rw [hI]
  | true =>
   have hle := hlen (hz2 rfl)
   have hu : l2[i]? = some l2[i] := List.getElem?_eq_getElem (by omega)
   have hmu : l2[i] ∈ l2 := List.getElem_mem _
   generalize l2[i] = u at hu hmu
   have hc := ih t hm u hmu
   have hat : lI l l2 c0 (i + 1) = mB t u := by simp only [lI, ht, hu]
   have hnew : fin = (match aX (lI l l2 c0 (i + 1)) 0 with | true => pv (l.drop (i + 1)) (l2.drop (i + 1)) | false => lI l l2 c0 (i + 1)) := by
    rw [hI, hat]
    show pv (l.drop i) (l2.drop i) = _
    rw [gU ht, gU hu, pv]
   have hz3 := hz2 rfl
   rw [hat] at hnew
   have e : pQ (fun s => s = (nf (pD k nm ix l k2 nm2 ix2 l2) (Int.ofNat (i + 1)) (lI l l2 c0 (i + 1))).au Tryz.f121.ntmps /\ (0 < i + 1 -> aX c0 0 = true) /\ fin = (match aX (lI l l2 c0 (i + 1)) 0 with | true => pv (l.drop (i + 1)) (l2.drop (i + 1)) | false => lI l l2 c0 (i + 1)))
     (fun e s => e = .exit 0 /\ ∃ i : Nat, s = (jO (pD k nm ix l k2 nm2 ix2 l2) (Int.ofNat i) fin).au Tryz.f121.ntmps) .normal ((nf (pD k nm ix l k2 nm2 ix2 l2) (aE .i64 (Int.ofNat i + 1)) (mB t u)).au Tryz.f121.ntmps) := by
    rw [hw, hat]
    exact ⟨rfl, fun _ => hz3, hnew⟩
   generalize mB t u = cc at hc e
   have hx1 := jg ht
   have hx2 := jg hu
   clear ih hlen hI hat hnew hz hz2 hu hmu ht hm
   obtain ⟨k3, nm3, ix3, a3⟩ := t
   obtain ⟨k4, nm4, ix4, a4⟩ := u
   rcases a3 with _ | ⟨b3, d3⟩ <;> rcases a4 with _ | ⟨b4, d4⟩ <;>
   ·refine ax [32, 38] [45, 50] (H := nP) (live := mf) (by kernel_rfl) ?_; refine ob hcz ?_; refine bb (b := true) (bq hi) (by kernel_rfl) ?_; refine oo hx1 ?_; refine oo hx2 ?_; refine on hc ?_
    exact bL (ex := .normal) (nf (pD k nm ix l k2 nm2 ix2 l2) (aE .i64 (Int.ofNat i + 1)) cc) (by kernel_rfl) (by kernel_rfl) e
 rintro ⟨hz, hI⟩
 generalize hca : lI l l2 c0 (ap l).length = ca at hI
 generalize hcz : aX ca 0 = cz at hI
 refine ax [32, 38] [45, 50] (H := nP) (live := mf) (by kernel_rfl) ?_; refine ob hcz ?_
 cases cz with
 | false =>
  refine bL (ex := .exit 0) (jO (pD k nm ix l k2 nm2 ix2 l2) (Int.ofNat (ap l).length) ca) (by kernel_rfl) (by kernel_rfl) ⟨rfl, (ap l).length, ?_⟩
  rw [hI]
 | true =>
  have h0 : ca = fin := by
   rw [hI, aC, List.drop_length]
   exact nZ hcz
  refine bb (b := false) (bu (i := (ap l).length) (L := (ap l).length) (by omega)) (by kernel_rfl) ?_
  refine bL (ex := .exit 0) (jO (pD k nm ix l k2 nm2 ix2 l2) (Int.ofNat (ap l).length) ca) (by kernel_rfl) (by kernel_rfl) ⟨rfl, (ap l).length, ?_⟩
  rw [h0]
def jf (k : Int) (nm : List UInt8) (ix : Int) (a : an) (k2 : Int) (nm2 : List UInt8) (ix2 : Int) (a2 : an) : Heap := [(.loc 3, .cells [iv k2, .dat (sb nm2), iv ix2, .dat a2]), (.loc 2, .cells [iv k, .dat (sb nm), iv ix, .dat a])]
/-- Where the first has no arguments no round is made. -/
theorem Iz (k : Int) (nm : List UInt8) (ix : Int) (k2 : Int) (nm2 : List UInt8) (ix2 : Int) (a2 : an) (ha : a2 = nl ∨ ∃ es, a2 = .slice es) (c0 : Int) :
  KD (.loop (roundOf Tryz.f121 0)) (fun e s => e = .exit 0 /\ ∃ i : Nat, s = (jO (jf k nm ix nl k2 nm2 ix2 a2) (Int.ofNat i) c0).au Tryz.f121.ntmps) ((nf (jf k nm ix nl k2 nm2 ix2 a2) (Int.ofNat 0) c0).au Tryz.f121.ntmps) := by
 refine bi (St := fun _ => (nf (jf k nm ix nl k2 nm2 ix2 a2) (Int.ofNat 0) c0).au Tryz.f121.ntmps) 0 (fun i hi => absurd hi (Nat.not_lt_zero i)) ?_ (i := 0) (Nat.le_refl _)
 generalize hcz : aX c0 0 = cz
 rcases ha with rfl | ⟨es, rfl⟩ <;>
 ·refine ax [32, 38] [45, 50] (H := nP) (live := mf) (by kernel_rfl) ?_; refine ob hcz ?_
  cases cz with
  | false => exact bL (ex := .exit 0) (jO (jf k nm ix nl k2 nm2 ix2 _) (Int.ofNat 0) c0) (by kernel_rfl) (by kernel_rfl) ⟨rfl, 0, rfl⟩
  | true =>
   refine bb (b := false) (c := bn (Int.ofNat 0) (Int.ofNat 0)) rfl (by kernel_rfl) ?_
   exact bL (ex := .exit 0) (jO (jf k nm ix nl k2 nm2 ix2 _) (Int.ofNat 0) c0) (by kernel_rfl) (by kernel_rfl) ⟨rfl, 0, rfl⟩
/-- .. where the two differ before. -/
theorem Ry (k : Int) (nm : List UInt8) (ix : Int) (es : List an) (k2 : Int) (nm2 : List UInt8) (ix2 : Int) (c0 : Int) (hcz : aX c0 0 = false) :
  KD (.loop (roundOf Tryz.f121 0)) (fun e s => e = .exit 0 /\ ∃ i : Nat, s = (jO (jf k nm ix (.slice es) k2 nm2 ix2 nl) (Int.ofNat i) c0).au Tryz.f121.ntmps) ((nf (jf k nm ix (.slice es) k2 nm2 ix2 nl) (Int.ofNat 0) c0).au Tryz.f121.ntmps) := by
 refine bi (St := fun _ => (nf (jf k nm ix (.slice es) k2 nm2 ix2 nl) (Int.ofNat 0) c0).au Tryz.f121.ntmps) 0 (fun i hi => absurd hi (Nat.not_lt_zero i)) ?_ (i := 0) (Nat.le_refl _)
 refine ax [32, 38] [45, 50] (H := nP) (live := mf) (by kernel_rfl) ?_; refine ob hcz ?_
 exact bL (ex := .exit 0) (jO (jf k nm ix (.slice es) k2 nm2 ix2 nl) (Int.ofNat 0) c0) (by kernel_rfl) (by kernel_rfl) ⟨rfl, 0, rfl⟩
theorem B9 {k : Int} {nm : List UInt8} {ix : Int} {a : an} {k2 : Int} {nm2 : List UInt8} {ix2 : Int} {a2 : an} (ha : a = nl ∨ ∃ es, a = .slice es) (ha2 : a2 = nl ∨ ∃ es, a2 = .slice es) {n m : Nat} {r : Int}
  (hn : a = nl /\ n = 0 ∨ ∃ es, a = .slice es /\ n = es.length) (hm : a2 = nl /\ m = 0 ∨ ∃ es, a2 = .slice es /\ m = es.length)
  (hl : KD (.loop (roundOf Tryz.f121 0)) (fun e s => e = .exit 0 /\ ∃ i : Nat, s = (jO (jf k nm ix a k2 nm2 ix2 a2) (Int.ofNat i) r).au Tryz.f121.ntmps)
   ((nf (jf k nm ix a k2 nm2 ix2 a2) (Int.ofNat 0) (yZ [eJ k k2, oq nm nm2, eJ ix ix2, eJ (Int.ofNat n) (Int.ofNat m)])).au Tryz.f121.ntmps)) :
  ae 121 [.dat (.agg [i64 k, sb nm, i64 ix, a]), .dat (.agg [i64 k2, sb nm2, i64 ix2, a2])] (iv r) := by
 have h1 := GW k k2
 have h2 := Vi nm nm2
 have h3 := GW ix ix2
 have h4 := GW (Int.ofNat n) (Int.ofNat m)
 generalize eJ k k2 = x1 at h1 hl
 generalize oq nm nm2 = x2 at h2 hl
 generalize eJ ix ix2 = x3 at h3 hl
 generalize eJ (Int.ofNat n) (Int.ofNat m) = x4 at h4 hl
 have h5 := YD x1 x2 x3 x4
 generalize yZ [x1, x2, x3, x4] = c0 at h5 hl
 clear ha ha2
 rcases hn with ⟨rfl, rfl⟩ | ⟨es, rfl, rfl⟩ <;> rcases hm with ⟨rfl, rfl⟩ | ⟨es2, rfl, rfl⟩ <;>
 ·refine co [] [] (x := .of Tryz.f121 Bn mf) ?_; refine on h1 ?_; refine on h2 ?_; refine on h3 ?_; refine on h4 ?_; refine on h5 ?_; refine gM (n := Tryz.f121.ntmps) (c := roundOf Tryz.f121 0) (f := nf (jf k nm ix _ k2 nm2 ix2 _) (Int.ofNat 0) c0) (by kernel_rfl) (by kernel_rfl) hl ?_; rintro ex s ⟨rfl, i, rfl⟩
  exact ⟨_, rfl, bp (by kernel_rfl) rfl⟩
theorem B8 {k : Int} {nm : List UInt8} {ix : Int} {l : List Ty} {k2 : Int} {nm2 : List UInt8} {ix2 : Int} {l2 : List Ty} (ih : ∀ t ∈ l, ∀ u ∈ l2, ae 121 [.dat t.enc, .dat u.enc] (iv (mB t u))) (hb : l.length < 1000000000) :
  ae 121 [.dat (Ty.mk k nm ix l).enc, .dat (Ty.mk k2 nm2 ix2 l2).enc] (iv (mB (.mk k nm ix l) (.mk k2 nm2 ix2 l2))) := by
 rw [mB]
 cases l with
 | nil =>
  have hr : (match aX (yZ [eJ k k2, oq nm nm2, eJ ix ix2, eJ (Int.ofNat (ap []).length) (Int.ofNat (ap l2).length)]) 0 with | true => pv [] l2 | false => yZ [eJ k k2, oq nm nm2, eJ ix ix2, eJ (Int.ofNat (ap []).length) (Int.ofNat (ap l2).length)]) = yZ [eJ k k2, oq nm nm2, eJ ix ix2, eJ (Int.ofNat (ap []).length) (Int.ofNat (ap l2).length)] := by
   split
   ·rename_i h; rw [nZ h, pv]; simp
   rfl
  rw [hr]
  cases l2 with
  | nil => exact B9 (a := nl) (a2 := nl) (n := 0) (m := 0) (.inl rfl) (.inl rfl) (.inl ⟨rfl, rfl⟩) (.inl ⟨rfl, rfl⟩) (Iz k nm ix k2 nm2 ix2 nl (.inl rfl) _)
  | cons u v => exact B9 (a := nl) (a2 := .slice (ap (u :: v))) (n := 0) (m := (ap (u :: v)).length) (.inl rfl) (.inr ⟨_, rfl⟩) (.inl ⟨rfl, rfl⟩) (.inr ⟨_, rfl, rfl⟩) (Iz k nm ix k2 nm2 ix2 _ (.inr ⟨_, rfl⟩) _)
 | cons t r =>
  cases l2 with
  | nil =>
   have hcz : aX (yZ [eJ k k2, oq nm nm2, eJ ix ix2, eJ (Int.ofNat (ap (t :: r)).length) (Int.ofNat (ap []).length)]) 0 = false := by
    rw [Bool.eq_false_iff]
    intro h
    have := xW (l := t :: r) (l2 := []) h
    simp at this
   rw [hcz]
   exact B9 (a := .slice (ap (t :: r))) (a2 := nl) (n := (ap (t :: r)).length) (m := 0) (.inr ⟨_, rfl⟩) (.inl rfl) (.inr ⟨_, rfl, rfl⟩) (.inl ⟨rfl, rfl⟩) (Ry k nm ix _ k2 nm2 ix2 _ hcz)
  | cons u v =>
   exact B9 (a := .slice (ap (t :: r))) (a2 := .slice (ap (u :: v))) (n := (ap (t :: r)).length) (m := (ap (u :: v)).length) (.inr ⟨_, rfl⟩) (.inr ⟨_, rfl⟩) (.inr ⟨_, rfl, rfl⟩) (.inr ⟨_, rfl, rfl⟩)
    (OL (l := t :: r) (l2 := u :: v) (fun h => xW (l := t :: r) (l2 := u :: v) h) ih hb)
mutual
theorem yB : ∀ (t u : Ty), t.thin -> ae 121 [.dat t.enc, .dat u.enc] (iv (mB t u))
 | .mk k nm ix l, .mk k2 nm2 ix2 l2, h => by
  simp only [Ty.thin] at h
  exact B8 (fun t ht u _ => uY l h.2 t ht u) h.1
theorem uY : ∀ (l : List Ty), eU l -> ∀ t ∈ l, ∀ u : Ty, ae 121 [.dat t.enc, .dat u.enc] (iv (mB t u))
 | [], _, t, ht, _ => by simp at ht
 | x :: r, h, t, ht, u => by
  simp only [eU] at h
  rcases List.mem_cons.1 ht with h1 | ht
  ·rw [h1]; exact yB x u h.1
  exact uY r h.2 t ht u
end
def JW (t u : Ty) : Bool := aX (mB t u) 0
theorem OX (t u : Ty) (h : t.thin) : ae 91 [.dat t.enc, .dat u.enc] (bv (JW t u)) := by
 have hc := yB t u h
 unfold JW
 generalize mB t u = c at hc
 generalize hcz : aX c 0 = cz
 clear h
 obtain ⟨k3, nm3, ix3, a3⟩ := t
 obtain ⟨k4, nm4, ix4, a4⟩ := u
 rcases a3 with _ | ⟨b3, d3⟩ <;> rcases a4 with _ | ⟨b4, d4⟩ <;>
 ·refine co [8] [] (x := .of Tryz.f91 Mg Nd) ?_; refine on hc ?_; refine ob hcz ?_
  cases cz <;> exact fi
theorem IE (t u : Ty) (h : t.size < 1000000000) : ae 91 [.dat t.enc, .dat u.enc] (bv (JW t u)) := OX t u (qD t h)
/-- Terms that are being gathered. -/
def Jr : List Ty -> ac
 | [] => .dat nl
 | t :: r => .own (ap (t :: r))
theorem Oj {l : List Ty} {d : an} (h : d ∈ ap l) : ∃ t, d = Ty.enc t := by
 rw [od] at h
 obtain ⟨t, _, rfl⟩ := List.mem_map.1 h
 exact ⟨t, rfl⟩
theorem Em (a b : List Ty) : ap (a ++ b) = ap a ++ ap b := by simp [od]
theorem J2 (t : Ty) : t.enc.cells.length = 4 := by cases t; rfl
theorem ym (l : List Ty) : sizedB 4 (ap l) = true := jG (fun d hd => by obtain ⟨t, rfl⟩ := Oj hd; exact J2 t)
theorem GK (l : List Ty) : eY (ap l) = false := by
 cases l with
 | nil => rfl
 | cons t r => cases t; rfl
theorem Kn {pre : List Ty} {t : Ty} (hl : pre.length < 1000000000) : cZ (env az.aU) false 30 [.own (ap pre), .dat (.slice [t.enc])] none = some ⟨.own (ap (pre ++ [t])), .keep⟩ := by
 rw [Em]
 refine sf (i := VW) (ds := [t.enc]) (k := 3) KJ rfl wo ?_ ?_ (by kernel_rfl) ?_ ?_ ?_ (by simp)
 ·exact ym [t]
 ·exact ym pre
 ·have h1 : VW.bytes <= 1000 := fT (by kernel_rfl)
  rw [aC]
  calc (pre.length + 1) * VW.bytes <= 1000000000 * 1000 := Nat.mul_le_mul (by omega) h1
   _ <= 140737488355328 := by decide
 ·rw [aC]; simp [jv]; omega
 unfold iE
 rw [show ap pre ++ [t.enc] = ap (pre ++ [t]) by rw [Em]; rfl, GK]
theorem dG {α : Type} {l : List α} {i : Nat} {t : α} (h : l[i]? = some t) : l.take (i + 1) = l.take i ++ [t] := by rw [List.take_add_one, h]; rfl
noncomputable def NS : Hints := ⟨aq, Bl, aw, rowsOf aw 125⟩
def HX (k : Int) (nm : List UInt8) (ix : Int) (pre : List Ty) : Heap := [(.loc 3, .cells [iv k, .dat (sb nm), iv ix, Jr pre]), (.loc 2, .cells [iv 0, .dat (sb []), iv 0, .dat nl])]
def qG (k : Int) (nm : List UInt8) (ix : Int) (es : List an) (pre : List Ty) (i : Int) : ab := ⟨[(11, iv i), (10, iv (Int.ofNat es.length)), (9, .dat (.slice es)), (3, .ptr (.loc 3) 0), (2, .ptr (.loc 2) 0)], HX k nm ix pre, [], 0⟩
def CH (k : Int) (nm : List UInt8) (ix : Int) (es : List an) (pre : List Ty) (i : Int) : ab := ⟨[(12, bv false), (11, iv i), (10, iv (Int.ofNat es.length)), (9, .dat (.slice es)), (3, .ptr (.loc 3) 0), (2, .ptr (.loc 2) 0)], HX k nm ix pre, [], 0⟩
theorem Ey {k : Int} {nm : List UInt8} {ix : Int} {l pre : List Ty} {i : Nat} {t : Ty} (hi : i < (ap l).length) (ht : l[i]? = some t) (hc : ae 125 [.dat t.enc] (.dat t.enc)) (hp : pre.length < 1000000000) {T : Exit -> aa -> Prop}
  (e : T .normal ((qG k nm ix (ap l) (pre ++ [t]) (aE .i64 (Int.ofNat i + 1))).au Tryz.f125.ntmps)) :
  KD (roundOf Tryz.f125 0) T ((qG k nm ix (ap l) pre (Int.ofNat i)).au Tryz.f125.ntmps) := by
 have h1 := bq hi
 have h2 := jg ht
 have h3 := Kn (t := t) hp
 clear ht hi hp
 rcases pre with _ | ⟨d, r⟩ <;>
 ·refine ax [12] [13, 20] (H := NS) (live := vP) (by kernel_rfl) ?_; refine ob h1 ?_; refine oo h2 ?_
  obtain ⟨v0, v1, v2, v3⟩ := t
  rcases v3 with _ | ⟨v4, v5⟩ <;>
  ·refine on hc ?_; refine oo h3 ?_; exact oe e
theorem GS {k : Int} {nm : List UInt8} {ix : Int} {l pre : List Ty} {T : Exit -> aa -> Prop}
  (e : T (.exit 0) ((CH k nm ix (ap l) pre (Int.ofNat (ap l).length)).au Tryz.f125.ntmps)) :
  KD (roundOf Tryz.f125 0) T ((qG k nm ix (ap l) pre (Int.ofNat (ap l).length)).au Tryz.f125.ntmps) := by
 have h1 := bu (i := (ap l).length) (L := (ap l).length) (by omega)
 rcases pre with _ | ⟨d, r⟩ <;>
 ·refine ax [12] [] (H := NS) (live := vP) (by kernel_rfl) ?_; refine ob h1 ?_; exact oe e
theorem OM {k : Int} {nm : List UInt8} {ix : Int} {b : Ty} {d : List Ty} (ih : ∀ t ∈ b :: d, ae 125 [.dat t.enc] (.dat t.enc)) (hb : (b :: d).length < 1000000000) :
  ae 125 [.dat (Ty.mk k nm ix (b :: d)).enc] (.dat (Ty.mk k nm ix (b :: d)).enc) := by
 have hl : KD (.loop (roundOf Tryz.f125 0)) (fun e s => e = .exit 0 /\ s = (CH k nm ix (ap (b :: d)) (b :: d) (Int.ofNat (ap (b :: d)).length)).au Tryz.f125.ntmps)
   ((qG k nm ix (ap (b :: d)) [] (Int.ofNat 0)).au Tryz.f125.ntmps) := by
  refine bi (St := fun i => (qG k nm ix (ap (b :: d)) ((b :: d).take i) (Int.ofNat i)).au Tryz.f125.ntmps) (ap (b :: d)).length ?_ ?_ (i := 0) (Nat.zero_le _)
  ·intro i hi
   obtain ⟨t, ht, hm⟩ := get_mem hi
   refine Ey hi ht (ih t hm) (by simp at hb ⊢; omega) ?_
   rw [aC] at hi
   rw [aZ (by omega), ← dG ht]
   rfl
  refine GS ⟨rfl, ?_⟩
  rw [aC, List.take_length]
 clear ih hb
 refine co [] [] (x := .of Tryz.f125 Bl vP) ?_; refine lo hl ?_; rintro ex s ⟨rfl, rfl⟩; refine ⟨_, rfl, ?_⟩; exact fi
theorem Ke {k : Int} {nm : List UInt8} {ix : Int} : ae 125 [.dat (Ty.mk k nm ix []).enc] (.dat (Ty.mk k nm ix []).enc) := oG _ _ _ _ _ (by kernel_rfl)
mutual
theorem EG : ∀ t : Ty, t.thin -> ae 125 [.dat t.enc] (.dat t.enc)
 | .mk k nm ix [], _ => Ke
 | .mk k nm ix (t :: r), h => by
  simp only [Ty.thin] at h
  exact OM (AF (t :: r) h.2) h.1
theorem AF : ∀ l : List Ty, eU l -> ∀ t ∈ l, ae 125 [.dat t.enc] (.dat t.enc)
 | [], _, t, ht => by simp at ht
 | u :: r, h, t, ht => by
  simp only [eU] at h
  rcases List.mem_cons.1 ht with h1 | ht
  ·rw [h1]; exact EG u h.1
  exact AF r h.2 t ht
end
/-- What stands for variable ix under u binders. -/
def instAt (ls : List Ty) (ix : Int) (u : Nat) : Option Ty := match bn ix (Int.ofNat u) with
 | true => none
 | false => ls[(ix - Int.ofNat u).toNat]?
mutual
def Ty.inst (ls : List Ty) : Ty -> Nat -> Ty
 | .mk k nm ix args, u => match aX k 5, instAt ls ix u with
  | true, some t => t
  | _, _ => .mk k nm ix (instL ls k 0 args u)
def instL (ls : List Ty) (k : Int) : Nat -> List Ty -> Nat -> List Ty
 | _, [], _ => []
 | i, t :: r, u => t.inst ls (u + cM k i) :: instL ls k (i + 1) r u
end
theorem qB {u j : Nat} (h : u + j < 9223372036854775808) : aE .i64 (Int.ofNat (u + j) - Int.ofNat u) = Int.ofNat j := by
 rw [dx]
 rw [show (Int.ofNat (u + j) - Int.ofNat u : Int) = Int.ofNat j by simp; omega]
 exact wrap_i64 (by simp <;> omega) (by simp <;> omega)
def Tz : an := .flat (.pointer none)
theorem inst1_lo {ls : List Ty} {ix : Int} {u : Nat} (h : bn ix (Int.ofNat u) = true) : ae 95 [iv ix, iv (Int.ofNat u), .ref [sl (ap ls)]] (.tup [.dat Tz, iv ix]) := by
 refine co [13] [] (x := .of Tryz.f95 Dl Bz) ?_; refine ox h ?_; exact fi
theorem inst1_hi {ls : List Ty} {j : Nat} {u : Nat} (hb : u + j < 1000000000) (h : ¬ j < (ap ls).length) : ae 95 [iv (Int.ofNat (u + j)), iv (Int.ofNat u), .ref [sl (ap ls)]] (.tup [.dat Tz, iv (Int.ofNat (u + j))]) := by
 have h1 := bu (i := u + j) (L := u) (by omega)
 have h2 := bu h
 have h4 : bn (aE .i64 (Int.ofNat (u + j) - Int.ofNat u)) (Int.ofNat (ap ls).length) = false := by rw [qB (by omega)]; exact h2
 clear h
 refine co [13, 18] [] (x := .of Tryz.f95 Dl Bz) ?_; refine ox h1 ?_
 rcases ls with _ | ⟨v0, v1⟩ <;>
 ·refine ob h4 ?_; exact fi
theorem inst1_in {ls : List Ty} {j : Nat} {u : Nat} {t : Ty} (hb : u + j < 1000000000) (h : ls[j]? = some t) : ae 95 [iv (Int.ofNat (u + j)), iv (Int.ofNat u), .ref [sl (ap ls)]] (.tup [.ref t.cells, iv 0]) := by
 have h1 := bu (i := u + j) (L := u) (by omega)
 have hj : j < (ap ls).length := by rw [aC]; exact (List.getElem?_eq_some_iff.1 h).1
 have h2 := bq hj
 have h4 : bn (aE .i64 (Int.ofNat (u + j) - Int.ofNat u)) (Int.ofNat (ap ls).length) = true := by rw [qB (by omega)]; exact h2
 have h5 : aL (env az.aU) 30 [.dat (.slice (ap ls)), .dat (.flat (.int .i64 (aE .i64 (Int.ofNat (u + j) - Int.ofNat u))))] = some ⟨.ref t.cells, .keep⟩ := by rw [qB (by omega)]; exact jg h
 clear h hj
 refine co [13, 18] [22] (x := .of Tryz.f95 Dl Bz) ?_; refine ox h1 ?_
 rcases ls with _ | ⟨v0, v1⟩ <;>
 ·refine ob h4 ?_; refine oo h5 ?_; exact fi
noncomputable def SH : Hints := ⟨aq, Dm, aw, rowsOf aw 94⟩
def nU (ls : List Ty) : ac := .fn (.func 95) [] [.ref [sl (ap ls)]]
def Nb (k : Int) (nm : List UInt8) (ix : Int) (a : an) (pre : List Ty) : Heap := [(.loc 7, .cells [iv k, .dat (sb nm), iv ix, Jr pre]), (.loc 6, .cells [iv 0, .dat (sb []), iv 0, .dat nl]), (.loc 3, .cells [iv k, .dat (sb nm), iv ix, .dat a])]
def sE (ls : List Ty) (u : Nat) (k : Int) (nm : List UInt8) (ix : Int) (a : an) (n : Nat) (pre : List Ty) (i : Int) : ab := ⟨[(36, iv i), (35, iv (Int.ofNat n)), (34, .dat a), (7, .ptr (.loc 7) 0), (6, .ptr (.loc 6) 0), (3, .ptr (.loc 3) 0), (1, iv (Int.ofNat u)), (2, nU ls)], Nb k nm ix a pre, [], 0⟩
def AV (ls : List Ty) (u : Nat) (k : Int) (nm : List UInt8) (ix : Int) (a : an) (n : Nat) (pre : List Ty) (i : Int) : ab := ⟨[(37, bv false), (36, iv i), (35, iv (Int.ofNat n)), (34, .dat a), (7, .ptr (.loc 7) 0), (6, .ptr (.loc 6) 0), (3, .ptr (.loc 3) 0), (1, iv (Int.ofNat u)), (2, nU ls)], Nb k nm ix a pre, [], 0⟩
theorem Fh {ls : List Ty} {u : Nat} {k : Int} {nm : List UInt8} {ix : Int} {l pre : List Ty} {i : Nat} {t t2 : Ty} (hi : i < (ap l).length) (ht : l[i]? = some t) (hc : ae 94 [.dat t.enc, iv (aE .i64 (Int.ofNat u + Int.ofNat (cM k i))), nU ls] (.dat t2.enc)) (hp : pre.length < 1000000000) {T : Exit -> aa -> Prop}
  (e : T .normal ((sE ls u k nm ix (.slice (ap l)) (ap l).length (pre ++ [t2]) (aE .i64 (Int.ofNat i + 1))).au Tryz.f94.ntmps)) :
  KD (roundOf Tryz.f94 0) T ((sE ls u k nm ix (.slice (ap l)) (ap l).length pre (Int.ofNat i)).au Tryz.f94.ntmps) := by
 have h1 := bq hi
 have h2 := jg ht
 have h3 := Kn (t := t2) hp
 have h4 := tG k nm ix (.slice (ap l)) (.inr ⟨_, rfl⟩) i
 clear ht hi hp
 rcases pre with _ | ⟨d, r⟩ <;>
 ·refine ax [37] [39, 52] (H := SH) (live := xK) (by kernel_rfl) ?_; refine ob h1 ?_; refine oo h2 ?_
  obtain ⟨v0, v1, v2, v3⟩ := t
  rcases v3 with _ | ⟨v8, v9⟩
  ·refine on h4 ?_; refine on hc ?_
   obtain ⟨v4, v5, v6, v7⟩ := t2
   refine oo h3 ?_; exact oe e
  refine on h4 ?_; refine on hc ?_
  obtain ⟨v10, v11, v12, v13⟩ := t2
  refine oo h3 ?_; exact oe e
theorem Jf {ls : List Ty} {u : Nat} {k : Int} {nm : List UInt8} {ix : Int} {a : an} {n : Nat} {pre : List Ty} {T : Exit -> aa -> Prop}
  (e : T (.exit 0) ((AV ls u k nm ix a n pre (Int.ofNat n)).au Tryz.f94.ntmps)) :
  KD (roundOf Tryz.f94 0) T ((sE ls u k nm ix a n pre (Int.ofNat n)).au Tryz.f94.ntmps) := by
 have h1 := bu (i := n) (L := n) (by omega)
 rcases pre with _ | ⟨d, r⟩ <;>
 ·refine ax [37] [] (H := SH) (live := xK) (by kernel_rfl) ?_; refine ob h1 ?_; exact oe e
mutual
def Ty.dy : Ty -> Prop
 | .mk k _ ix args => (aX k 5 = true -> bn ix 500000000 = true) /\ cI args
def cI : List Ty -> Prop
 | [] => True
 | t :: r => t.dy /\ cI r
end
theorem instL_get {ls : List Ty} {k : Int} {u : Nat} : ∀ {l : List Ty} {i j : Nat} {t : Ty}, l[i]? = some t -> (instL ls k j l u)[i]? = some (t.inst ls (u + cM k (j + i)))
 | [], i, j, t, h => by simp at h
 | x :: r, 0, j, t, h => by simp at h; subst h; simp [instL]
 | x :: r, i + 1, j, t, h => by
  simp only [instL, List.getElem?_cons_succ] at h ⊢
  rw [instL_get h, show j + 1 + i = j + (i + 1) by omega]
theorem instL_length {ls : List Ty} {k : Int} {u : Nat} : ∀ {l : List Ty} {j : Nat}, (instL ls k j l u).length = l.length
 | [], _ => by simp [instL]
 | x :: r, _ => by simp [instL, instL_length]
theorem EM (k : Int) (i : Nat) : cM k i <= 1 := by unfold cM; split <;> omega
theorem Je {ls : List Ty} {u : Nat} {k : Int} {nm : List UInt8} {ix : Int} {l : List Ty} {a : an} (ha : a = sl (ap l)) (hu : u < 1000000000000000) (hb : l.length < 1000000000)
  (ih : ∀ t ∈ l, ∀ v, v <= u + 1 -> ae 94 [.dat t.enc, iv (Int.ofNat v), nU ls] (.dat (t.inst ls v).enc)) :
  KD (.loop (roundOf Tryz.f94 0)) (fun e s => e = .exit 0 /\ s = (AV ls u k nm ix a (ap l).length (instL ls k 0 l u) (Int.ofNat (ap l).length)).au Tryz.f94.ntmps)
   ((sE ls u k nm ix a (ap l).length [] (Int.ofNat 0)).au Tryz.f94.ntmps) := by
 refine bi (St := fun i => (sE ls u k nm ix a (ap l).length ((instL ls k 0 l u).take i) (Int.ofNat i)).au Tryz.f94.ntmps) (ap l).length ?_ ?_ (i := 0) (Nat.zero_le _)
 ·intro i hi
  obtain ⟨t, ht, hm⟩ := get_mem hi
  have hbn := EM k i
  have hg := instL_get (ls := ls) (k := k) (u := u) (j := 0) ht
  rw [Nat.zero_add] at hg
  have ha2 : a = .slice (ap l) := by
   rw [ha]
   cases l with
   | nil => simp at ht
   | cons x r => rfl
  subst ha2
  refine Fh (t2 := t.inst ls (u + cM k i)) hi ht ?_ (by rw [List.length_take, instL_length]; omega) ?_
  ·rw [wrap_add (by omega)]; exact ih t hm _ (by omega)
  rw [aC] at hi
  rw [aZ (by omega), ← dG hg]
  rfl
 refine Jf ⟨rfl, ?_⟩
 rw [aC, show l.length = (instL ls k 0 l u).length by rw [instL_length], List.take_length]
theorem sL {ls : List Ty} {u : Nat} {k : Int} {nm : List UInt8} {ix : Int} {l : List Ty} {ck : Bool} (hk : aX k 5 = ck) (hc : ck = true -> ae 95 [iv ix, iv (Int.ofNat u), .ref [sl (ap ls)]] (.tup [.dat Tz, iv ix])) {r : List Ty}
  (hl : KD (.loop (roundOf Tryz.f94 0)) (fun e s => e = .exit 0 /\ s = (AV ls u k nm ix (sl (ap l)) (ap l).length r (Int.ofNat (ap l).length)).au Tryz.f94.ntmps)
   ((sE ls u k nm ix (sl (ap l)) (ap l).length [] (Int.ofNat 0)).au Tryz.f94.ntmps)) :
  ae 94 [.dat (Ty.mk k nm ix l).enc, iv (Int.ofNat u), nU ls] (.dat (Ty.mk k nm ix r).enc) := by
 refine co [16] [] (x := .of Tryz.f94 Dm xK) ?_
 rcases l with _ | ⟨v4, v5⟩
 ·refine ob hk ?_
  cases ck
  ·refine lo hl ?_; rintro ex s ⟨rfl, rfl⟩; refine ⟨_, rfl, ?_⟩
   rcases r with _ | ⟨v2, v3⟩ <;>
   ·exact fi
  refine on (hc rfl) ?_; refine lo hl ?_; rintro ex s ⟨rfl, rfl⟩; refine ⟨_, rfl, ?_⟩
  rcases r with _ | ⟨v0, v1⟩ <;>
  ·exact fi
 refine ob hk ?_
 cases ck
 ·refine lo hl ?_; rintro ex s ⟨rfl, rfl⟩; refine ⟨_, rfl, ?_⟩
  rcases r with _ | ⟨v8, v9⟩ <;>
  ·exact fi
 refine on (hc rfl) ?_; refine lo hl ?_; rintro ex s ⟨rfl, rfl⟩; refine ⟨_, rfl, ?_⟩
 rcases r with _ | ⟨v6, v7⟩ <;>
 ·exact fi
theorem Jd {ls : List Ty} {u : Nat} {k : Int} {nm : List UInt8} {ix : Int} {l : List Ty} {t : Ty} (hk : aX k 5 = true) (hc : ae 95 [iv ix, iv (Int.ofNat u), .ref [sl (ap ls)]] (.tup [.ref t.cells, iv 0])) (hcl : ae 125 [.dat t.enc] (.dat t.enc)) :
  ae 94 [.dat (Ty.mk k nm ix l).enc, iv (Int.ofNat u), nU ls] (.dat t.enc) := by
 refine co [16] [] (x := .of Tryz.f94 Dm xK) ?_
 rcases l with _ | ⟨v6, v7⟩
 ·refine ob hk ?_; refine on hc ?_
  obtain ⟨v0, v1, v2, v3⟩ := t
  refine on hcl ?_
  rcases v3 with _ | ⟨v4, v5⟩ <;>
  ·exact fi
 refine ob hk ?_; refine on hc ?_
 obtain ⟨v8, v9, v10, v11⟩ := t
 refine on hcl ?_
 rcases v11 with _ | ⟨v12, v13⟩ <;>
 ·exact fi
theorem instAt_lo {ls : List Ty} {ix : Int} {u : Nat} (h : bn ix (Int.ofNat u) = true) : instAt ls ix u = none := by unfold instAt; rw [h]
theorem instAt_at {ls : List Ty} {u j : Nat} : instAt ls (Int.ofNat (u + j)) u = ls[j]? := by
 unfold instAt
 rw [bu (by omega)]
 show ls[(Int.ofNat (u + j) - Int.ofNat u).toNat]? = _
 rw [show (Int.ofNat (u + j) - Int.ofNat u : Int) = Int.ofNat j by simp; omega]
 rfl
theorem inst_none {ls : List Ty} {k : Int} {nm : List UInt8} {ix : Int} {l : List Ty} {u : Nat} (h : aX k 5 = false ∨ instAt ls ix u = none) : (Ty.mk k nm ix l).inst ls u = .mk k nm ix (instL ls k 0 l u) := by
 rw [Ty.inst]
 rcases h with h | h
 ·rw [h]
 rw [h]; cases aX k 5 <;> rfl
theorem inst_some {ls : List Ty} {k : Int} {nm : List UInt8} {ix : Int} {l : List Ty} {u : Nat} {t : Ty} (hk : aX k 5 = true) (h : instAt ls ix u = some t) : (Ty.mk k nm ix l).inst ls u = t := by
 rw [Ty.inst, hk, h]
theorem Af {ix : Int} {u : Nat} (h : bn ix (Int.ofNat u) = false) (h2 : bn ix 500000000 = true) : ∃ j : Nat, ix = Int.ofNat (u + j) /\ u + j < 500000000 := by
 rw [gl] at h h2
 simp only [decide_eq_false_iff_not, decide_eq_true_eq] at h h2
 refine ⟨(ix - u).toNat, ?_, ?_⟩
 ·simp only [Int.ofNat_eq_natCast] at h ⊢; omega
 simp only [Int.ofNat_eq_natCast] at h; omega
mutual
theorem AD {ls : List Ty} (hls : ∀ t ∈ ls, ae 125 [.dat t.enc] (.dat t.enc)) : ∀ (t : Ty) (u : Nat), t.thin -> t.dy -> u + t.depth < 1000000000000000 -> ae 94 [.dat t.enc, iv (Int.ofNat u), nU ls] (.dat (t.inst ls u).enc)
 | .mk k nm ix l, u, hs, hx, hd => by
  simp only [Ty.thin] at hs
  simp only [Ty.depth] at hd
  simp only [Ty.dy] at hx
  have ih := yz hls l u hs.2 hx.2 (by omega)
  have hl := Je (ls := ls) (u := u) (k := k) (nm := nm) (ix := ix) (l := l) (a := sl (ap l)) rfl (by omega) hs.1 ih
  cases hk : aX k 5 with
  | false =>
   rw [inst_none (.inl hk)]
   exact sL hk (fun h => by simp at h) hl
  | true =>
   cases hlo : bn ix (Int.ofNat u) with
   | true =>
    rw [inst_none (.inr (instAt_lo hlo))]
    exact sL hk (fun _ => inst1_lo hlo) hl
   | false =>
    obtain ⟨j, rfl, hj⟩ := Af hlo (hx.1 hk)
    by_cases hin : j < ls.length
    ·have hg : ls[j]? = some ls[j] := List.getElem?_eq_getElem hin
     rw [inst_some hk (instAt_at.trans hg)]
     exact Jd hk (inst1_in (by omega) hg) (hls _ (List.getElem_mem hin))
    rw [inst_none (.inr (instAt_at.trans (List.getElem?_eq_none (by omega))))]
    exact sL hk (fun _ => inst1_hi (by omega) (by rw [aC]; exact hin)) hl
theorem yz {ls : List Ty} (hls : ∀ t ∈ ls, ae 125 [.dat t.enc] (.dat t.enc)) : ∀ (l : List Ty) (u : Nat), eU l -> cI l -> u + bA l + 1 < 1000000000000000 -> ∀ t ∈ l, ∀ v, v <= u + 1 -> ae 94 [.dat t.enc, iv (Int.ofNat v), nU ls] (.dat (t.inst ls v).enc)
 | [], _, _, _, _, t, ht, _, _ => by simp at ht
 | x :: r, u, hs, hx, hd, t, ht, v, hv => by
  simp only [eU] at hs
  simp only [bA] at hd
  simp only [cI] at hx
  rcases List.mem_cons.1 ht with h1 | ht
  ·rw [h1]; exact AD hls x v hs.1 hx.1 (by omega)
  exact yz hls r u hs.2 hx.2 (by omega) t ht v hv
end
theorem O0 {t : Ty} {ls : List Ty} (hls : ∀ t ∈ ls, ae 125 [.dat t.enc] (.dat t.enc)) (hs : t.thin) (hx : t.dy) (hd : t.depth < 1000000000000000) : ae 60 [.dat t.enc, .dat (sl (ap ls))] (.dat (t.inst ls 0).enc) := by
 have h := AD hls t 0 hs hx (by omega)
 generalize t.inst ls 0 = r at h
 clear hls hs hx hd
 refine co [] [] (x := .of Tryz.f60 Mt Nr) ?_
 obtain ⟨v0, v1, v2, v3⟩ := t
 rcases v3 with _ | ⟨v18, v19⟩
 ·rcases ls with _ | ⟨v10, v11⟩
  ·refine on h ?_
   obtain ⟨v4, v5, v6, v7⟩ := r
   rcases v7 with _ | ⟨v8, v9⟩ <;>
   ·exact fi
  refine on h ?_
  obtain ⟨v12, v13, v14, v15⟩ := r
  rcases v15 with _ | ⟨v16, v17⟩ <;>
  ·exact fi
 rcases ls with _ | ⟨v26, v27⟩
 ·refine on h ?_
  obtain ⟨v20, v21, v22, v23⟩ := r
  rcases v23 with _ | ⟨v24, v25⟩ <;>
  ·exact fi
 refine on h ?_
 obtain ⟨v28, v29, v30, v31⟩ := r
 rcases v31 with _ | ⟨v32, v33⟩ <;>
 ·exact fi
mutual
theorem inst_nil : ∀ (t : Ty) (u : Nat), t.inst [] u = t
 | .mk k nm ix l, u => by
  have h : instAt [] ix u = none := by unfold instAt; split <;> simp
  rw [inst_none (.inr h), instL_nil l]
theorem instL_nil : ∀ (l : List Ty) {k : Int} {i u : Nat}, instL [] k i l u = l
 | [], _, _, _ => by rw [instL]
 | t :: r, k, i, u => by rw [instL, inst_nil t, instL_nil r]
end
theorem rQ {t : Ty} (hs : t.thin) (hx : t.dy) (hd : t.depth < 1000000000000000) : ae 58 [.dat t.enc] (.dat t.enc) := by
 have h := O0 (t := t) (ls := []) (fun t ht => by simp at ht) hs hx hd
 rw [inst_nil] at h
 clear hs hx hd
 refine co [] [] (x := .of Tryz.f58 Mu Ns) ?_
 obtain ⟨v0, v1, v2, v3⟩ := t
 rcases v3 with _ | ⟨v4, v5⟩ <;>
 ·refine on h ?_; exact fi
theorem EH {t : Ty} (hs : t.size < 1000000000) (hx : t.dy) (hd : t.depth < 500000000) : ae 58 [.dat t.enc] (.dat t.enc) := rQ (qD t hs) hx (by omega)
structure cC where
 nm : List UInt8
 ty : Ty
structure bd where
 nm : List UInt8
 ar : Int
 sup : Ty
 con : Bool
 fl : List cC
def bl (b : Bool) : an := .flat (.bool b)
def cC.cells (f : cC) : List an := sb f.nm :: f.ty.cells
def cC.enc (f : cC) : an := .agg f.cells
def aG : List cC -> List an
 | [] => []
 | f :: r => f.enc :: aG r
def bd.cells (d : bd) : List an := sb d.nm :: i64 d.ar :: (d.sup.cells ++ [bl d.con, sl (aG d.fl)])
def bd.enc (d : bd) : an := .agg d.cells
def bd.zero : bd := ⟨[], 0, .mk 0 [] 0 [], false, []⟩
def av (l : List an) : List ac := l.map .dat
def du : List bd -> List an
 | [] => []
 | d :: r => d.cells ++ du r
def Y2 (d : bd) (i : Nat) : Go.Value × an := (.string ⟨⟨d.nm⟩⟩, i64 (Int.ofNat i))
def cW : List bd -> Nat -> List (Go.Value × an)
 | [], _ => []
 | d :: r, i => Y2 d i :: cW r (i + 1)
def hP : ac := .ptr (.out 1) 0
/-- A hierarchy: the row, the object, the index. -/
def hG (r : Nat) (cs : List ac) (es : List (Go.Value × an)) (n : Nat) : Heap := [(.out r, .cells cs), (.out 1, .cells [.win (.out r) 8 0 n, .map (.out 0)]), (.out 0, .map es)]
theorem kz (k : Nat) : ∀ cs : List an, dJ k (av cs) = false
 | [] => rfl
 | d :: r => by show (dF k (.dat d) || dJ k (av r)) = false; rw [kz k r]; rfl
theorem pT (ρ : Nat -> Nat) : ∀ cs : List an, hO ρ (av cs) = av cs
 | [] => rfl
 | d :: r => by show eZ ρ (.dat d) :: hO ρ (av r) = _; rw [pT ρ r]; rfl
theorem Yx {v : ac} {r m n : Nat} {cs : List an} {es : List (Go.Value × an)} (hv : dF m v = false) (hr : Nat.blt r m = true) (hm : Nat.blt 1 m = true) : sx m ⟨v, hG r (av cs) es n, m⟩ = ⟨v, hG r (av cs) es n, m⟩ := by
 have h0 : Nat.blt 0 m = true := by simp [Nat.blt_eq] at *; omega
 have hr2 : Nat.ble m r = false := by rw [Nat.blt_eq] at hr; rw [Bool.eq_false_iff, ne_eq, Nat.ble_eq]; omega
 have hr3 : Nat.ble m 0 = false := by rw [Nat.blt_eq] at h0; rw [Bool.eq_false_iff, ne_eq, Nat.ble_eq]; omega
 have h1 : eG m (hG r (av cs) es n) = hG r (av cs) es n := by simp [eG, hG, jr, h0, hr, hm]
 have h2 : cP m (hG r (av cs) es n) = false := by simp [cP, hG, nC, kz, dJ, dF, hr2, hr3]
 unfold sx
 dsimp only
 rw [h1, h2, hv]
 rfl
def dU (nm : List UInt8) (ar k : Int) (nm2 : List UInt8) (ix : Int) (la : List an) (con : Bool) (lb : List an) : an := .agg [sb nm, i64 ar, i64 k, sb nm2, i64 ix, sl la, bl con, sl lb]
theorem N9 {cs : List an} {es : List (Go.Value × an)} {n i : Nat} {nm nm1 nm2 : List UInt8} {ar k ix : Int} {con : Bool} {la lb : List an}
  (h1 : fN (env az.aU) 80 true [.map (.out 0), .dat (sb nm)] (some (.map es)) = some ⟨.tup [.dat (i64 (Int.ofNat i)), bv true], .keep⟩)
  (h2 : aL (env az.aU) 23 [.win (.out 2) 8 0 n, iv (Int.ofNat i)] = some ⟨.ptr (.out 2) (0 + i * 8), .keep⟩)
  (h3 : kM (env az.aU) false 35 [.ptr (.out 2) (0 + i * 8)] (some (.cells (av cs))) = some ⟨.dat (dU nm1 ar k nm2 ix la con lb), .keep⟩)
  : KC 49 [hP, .dat (sb nm)] (hG 2 (av cs) es n) 3 (XQ ⟨.tup [.dat (dU nm1 ar k nm2 ix la con lb), bv true], hG 2 (av cs) es n, 3⟩) := by
 have hg := Yx (v := .tup [.dat (dU nm1 ar k nm2 ix la con lb), bv true]) (r := 2) (m := 3) (n := n) (cs := cs) (es := es) rfl rfl rfl
 rcases la with _ | ⟨x, la⟩ <;>
 ·rcases lb with _ | ⟨y, lb⟩ <;>
  ·refine co [] [14, 25, 26] (x := .of Tryz.f49 HG F3) ?_; refine oo h1 ?_; refine oo h2 ?_; refine oo h3 ?_
   exact bp (by kernel_rfl) hg
theorem Rg {cs : List an} {es : List (Go.Value × an)} {n : Nat} {nm : List UInt8} 
  (h1 : fN (env az.aU) 80 true [.map (.out 0), .dat (sb nm)] (some (.map es)) = some ⟨.tup [.dat (i64 0), bv false], .keep⟩)
  : KC 49 [hP, .dat (sb nm)] (hG 2 (av cs) es n) 3 (XQ ⟨.tup [.dat bd.zero.enc, bv false], hG 2 (av cs) es n, 3⟩) := by
 have hg := Yx (v := .tup [.dat bd.zero.enc, bv false]) (r := 2) (m := 3) (n := n) (cs := cs) (es := es) rfl rfl rfl
 refine co [] [14] (x := .of Tryz.f49 HG F3) ?_; refine oo h1 ?_
 exact bp (by kernel_rfl) hg
def fV : List bd -> List UInt8 -> Option Nat
 | [], _ => none
 | d :: r, nm => match dX nm d.nm with | true => some 0 | false => (fV r nm).map (· + 1)
def aM : List bd -> List UInt8 -> Option bd
 | [], _ => none
 | d :: r, nm => match dX nm d.nm with | true => some d | false => aM r nm
theorem nt : ∀ {ds : List bd} {nm : List UInt8} {k : Nat}, fV ds nm = some k -> ∃ d, ds[k]? = some d /\ aM ds nm = some d /\ dX nm d.nm = true
 | [], nm, k, h => by simp [fV] at h
 | d :: r, nm, k, h => by
  unfold fV at h
  unfold aM
  cases he : dX nm d.nm with
  | true => rw [he] at h; simp at h; subst h; exact ⟨d, rfl, rfl, he⟩
  | false =>
   rw [he] at h
   simp only [Option.map_eq_some_iff] at h
   obtain ⟨j, hj, rfl⟩ := h
   exact nt hj
theorem sR : ∀ {ds : List bd} {nm : List UInt8}, fV ds nm = none -> aM ds nm = none
 | [], nm, h => rfl
 | d :: r, nm, h => by
  unfold fV at h
  unfold aM
  cases he : dX nm d.nm with
  | true => rw [he] at h; simp at h
  | false =>
   rw [he] at h
   simp only [Option.map_eq_none_iff] at h
   exact sR h
theorem lB : ∀ (ds : List bd) (nm : List UInt8) (i j : Nat), findF .string (.string ⟨⟨nm⟩⟩) (cW ds i) j = some ((fV ds nm).map fun k => (j + k, i64 (Int.ofNat (i + k))))
 | [], nm, i, j => rfl
 | d :: r, nm, i, j => by
  show (match wP .string (.string ⟨⟨nm⟩⟩) (.string ⟨⟨d.nm⟩⟩) with | some true => some (some (j, i64 (Int.ofNat i))) | some false => findF .string (.string ⟨⟨nm⟩⟩) (cW r (i + 1)) (j + 1) | none => none) = _
  rw [show wP .string (.string ⟨⟨nm⟩⟩) (.string ⟨⟨d.nm⟩⟩) = some (dX nm d.nm) from rfl]
  unfold fV
  cases he : dX nm d.nm with
  | true => rfl
  | false =>
   dsimp only
   rw [lB r nm (i + 1) (j + 1)]
   cases fV r nm with
   | none => rfl
   | some k => simp only [Option.map_some]; rw [show j + 1 + k = j + (k + 1) by omega, show i + 1 + k = i + (k + 1) by omega]
theorem JB {ds : List bd} {nm : List UInt8} {k : Nat} (h : fV ds nm = some k) : fN (env az.aU) 80 true [.map (.out 0), .dat (sb nm)] (some (.map (cW ds 0))) = some ⟨.tup [.dat (i64 (Int.ofNat k)), bv true], .keep⟩ := by
 have h1 : fN (env az.aU) 80 true [.map (.out 0), .dat (sb nm)] (some (.map (cW ds 0))) = (match findF .string (.string ⟨⟨nm⟩⟩) (cW ds 0) 0 with
  | some (some (_, d)) => some (found true d true) | some none => some ⟨.tup [.dat (i64 0), bv false], .keep⟩ | none => none) := by kernel_rfl
 rw [h1, lB, h]
 simp only [Option.map_some, Nat.zero_add]
 rfl
theorem JD {ds : List bd} {nm : List UInt8} (h : fV ds nm = none) : fN (env az.aU) 80 true [.map (.out 0), .dat (sb nm)] (some (.map (cW ds 0))) = some ⟨.tup [.dat (i64 0), bv false], .keep⟩ := by
 have h1 : fN (env az.aU) 80 true [.map (.out 0), .dat (sb nm)] (some (.map (cW ds 0))) = (match findF .string (.string ⟨⟨nm⟩⟩) (cW ds 0) 0 with
  | some (some (_, d)) => some (found true d true) | some none => some ⟨.tup [.dat (i64 0), bv false], .keep⟩ | none => none) := by kernel_rfl
 rw [h1, lB, h]
 rfl
theorem vU {r n k : Nat} (h : k < n) : aL (env az.aU) 23 [.win (.out r) 8 0 n, iv (Int.ofNat k)] = some ⟨.ptr (.out r) (0 + k * 8), .keep⟩ := by
 have h1 : aL (env az.aU) 23 [.win (.out r) 8 0 n, iv (Int.ofNat k)] = (if (Nat.blt k n && Nat.beq 8 8) = true then some ⟨.ptr (.out r) (0 + k * 8), .keep⟩ else none) := by kernel_rfl
 rw [h1, if_pos]
 simp [Nat.blt_eq, h]
theorem iS : ∀ ds : List bd, (du ds).length = ds.length * 8
 | [] => rfl
 | d :: r => by
  have : d.cells.length = 8 := by obtain ⟨a, b, ⟨e, f, g, h⟩, i, j⟩ := d; rfl
  simp only [du, List.length_append, this, iS r, List.length_cons]
  omega
theorem zM : ∀ {ds : List bd} {k : Nat} {d : bd} {tl : List an}, ds[k]? = some d -> ((du ds ++ tl).drop (0 + k * 8)).take 8 = d.cells
 | [], k, d, tl, h => by simp at h
 | x :: r, k, d, tl, h => by
  have h8 : x.cells.length = 8 := by obtain ⟨a, b, ⟨e, f, g, h⟩, i, j⟩ := x; rfl
  cases k with
  | zero =>
   simp at h; subst h
   simp only [du, Nat.zero_mul, Nat.add_zero, List.drop_zero, List.append_assoc]
   rw [List.take_append_of_le_length (by omega), List.take_of_length_le (by omega)]
  | succ k =>
   simp at h
   have := zM (tl := tl) h
   rw [← this]
   simp only [du, List.append_assoc]
   rw [show 0 + (k + 1) * 8 = x.cells.length + (0 + k * 8) by omega, List.drop_length_add_append]
theorem CA (n : Nat) : ∀ l : List an, ev n (av l) = av (l.take n) := by
 intro l; induction l generalizing n with
 | nil => cases n <;> rfl
 | cons x r ih => cases n with | zero => rfl | succ n => show ac.dat x :: ev n (av r) = _; rw [ih]; rfl
theorem Ox (n : Nat) : ∀ l : List an, fY n (av l) = av (l.drop n) := by
 intro l; induction l generalizing n with
 | nil => cases n <;> rfl
 | cons x r ih => cases n with | zero => rfl | succ n => show fY n (av r) = _; rw [ih]; rfl
theorem DK {ds : List bd} {k r : Nat} {d : bd} {tl : List an} (h : ds[k]? = some d) : kM (env az.aU) false 35 [.ptr (.out r) (0 + k * 8)] (some (.cells (av (du ds ++ tl)))) = some ⟨.dat d.enc, .keep⟩ := by
 have h1 : ∀ cs, kM (env az.aU) false 35 [.ptr (.out r) (0 + k * 8)] (some (.cells cs)) = uB (if (ev 8 (fY (0 + k * 8) cs)).length = 8 then some (jl (bj (ev 8 (fY (0 + k * 8) cs)))) else none) := fun cs => by kernel_rfl
 rw [h1, Ox, CA, zM h]
 obtain ⟨a, b, ⟨e, f, g, i⟩, j, l⟩ := d
 rcases i with _ | ⟨x, i⟩ <;> rcases l with _ | ⟨y, l⟩ <;> rfl
def hY (o : Option bd) : bd := match o with | some d => d | none => bd.zero
def iL {α : Type} (o : Option α) : Bool := match o with | some _ => true | none => false
def hH (r : Nat) (ds : List bd) (tl : List an) : Heap := hG r (av (du ds ++ tl)) (cW ds 0) ds.length
theorem rO (ds : List bd) (tl : List an) (nm : List UInt8) : KC 49 [hP, .dat (sb nm)] (hH 2 ds tl) 3 (XQ ⟨.tup [.dat (hY (aM ds nm)).enc, bv (iL (aM ds nm))], hH 2 ds tl, 3⟩) := by
 cases h : fV ds nm with
 | none =>
  rw [sR h]
  exact Rg (JD h)
 | some k =>
  obtain ⟨d, hd, hf, _⟩ := nt h
  rw [hf]
  have hk : k < ds.length := by
   rcases Nat.lt_or_ge k ds.length with h | h
   ·exact h
   rw [List.getElem?_eq_none h] at hd; simp at hd
  have h3 := DK (r := 2) (tl := tl) hd
  obtain ⟨a, b, ⟨e, f, g, i⟩, j, l⟩ := d
  exact N9 (JB h) (vU hk) h3
theorem aB.lW {g : FuncId} {args : List ac} {heap : Heap} {next : Nat} {Q Q' : ac -> Heap -> Nat -> Prop} (h : KC g args heap next Q) (hq : ∀ v h m, Q v h m -> ∃ h2, h.Perm h2 /\ Q' v h2 m) : KC g args heap next Q' := by
 intro w R N cargs bsA bsH bsF ha hh hnd hnx hg hF
 refine (h w R N cargs bsA bsH bsF ha hh hnd hnx hg hF).mono ?_
 rintro e w' ⟨v, cv, h1, next', R', N', bsV, bsH', rfl, hq1, hv, hh', hnd', hnx', hk, hN⟩
 obtain ⟨h2, hp, hq2⟩ := hq _ _ _ hq1
 obtain ⟨bs2, k1, k2⟩ := hh'.perm hp
 refine ⟨v, cv, h2, next', R', N', bsV, bs2, rfl, hq2, hv, k1, ?_, hnx', hk, hN⟩
 exact (List.Perm.nodup_iff (List.Perm.append_left _ (List.Perm.append_right _ k2))).1 hnd'
def Pm (r o : Nat) : Nat := match Nat.beq o 2 with | true => r | false => o
abbrev cE (g : FuncId) (args : List ac) (cs : List an) (es : List (Go.Value × an)) (n : Nat) (v : ac) : Prop := KC g args (hG 2 (av cs) es n) 3 (XQ ⟨v, hG 2 (av cs) es n, 3⟩)
/-- What only reads serves under another name of the row, beside other objects. -/
theorem oO {g : FuncId} {args : List ac} {v : ac} {cs : List an} {es : List (Go.Value × an)} {n r m : Nat} (ha : dJ 3 args = false) (he : hO (Pm r) args = args) (hv : eZ (jm (Pm r) 3 m) v = v) (pre : Heap) (h : cE g args cs es n v) :
  KC g args (pre ++ hG r (av cs) es n) m (XQ ⟨v, pre ++ hG r (av cs) es n, m⟩) := by
 have e1 : ∀ ρ : Nat -> Nat, ρ 0 = 0 -> ρ 1 = 1 -> ρ 2 = r -> ni ρ (hG 2 (av cs) es n) = hG r (av cs) es n := by
  intro ρ h0 h1 h2
  simp [hG, ni, qx, zi, pT, hO, eZ, h0, h1, h2]
 have hf := aB.frame h (Pm r) (heap := pre ++ hG r (av cs) es n) (rest := pre) (next := m) (by rw [e1 _ rfl rfl rfl]; exact List.perm_append_comm) (by rfl) (by simp [cP, hG, nC, kz, dJ, dF]; exact ⟨rfl, rfl⟩) (by rfl) ha
 rw [he] at hf
 refine aB.lW hf ?_
 rintro v' h' m' ⟨v0, h1, n1, ⟨rfl, rfl, rfl⟩, rfl, rfl, rfl⟩
 rw [hv, e1 _ rfl rfl rfl]
 exact ⟨_, List.perm_append_comm, rfl, rfl, rfl⟩
theorem Vh (r m : Nat) (pre : Heap) (ds : List bd) (tl : List an) (nm : List UInt8) : KC 49 [hP, .dat (sb nm)] (pre ++ hH r ds tl) m (XQ ⟨.tup [.dat (hY (aM ds nm)).enc, bv (iL (aM ds nm))], pre ++ hH r ds tl, m⟩) :=
 oO rfl rfl rfl pre (rO ds tl nm)
theorem NV (v : ac) (cs : List an) (es : List (Go.Value × an)) (n : Nat) (hv : dF 3 v = false) : sx 3 ⟨v, hG 2 (av cs) es n, 3⟩ = ⟨v, hG 2 (av cs) es n, 3⟩ := Yx hv rfl rfl
theorem B6 {cs : List an} {es : List (Go.Value × an)} {n : Nat} {nm : List UInt8} {k ix : Int} {l : List an} {nm1 nm2 : List UInt8} {ar k1 ix1 : Int} {con c : Bool} {la lb : List an}
  (hf : cE 49 [hP, .dat (sb nm)] cs es n (.tup [.dat (dU nm1 ar k1 nm2 ix1 la con lb), bv true])) (hc : aX ar (Int.ofNat l.length) = c) :
  cE 59 [hP, .dat (.agg [i64 k, sb nm, i64 ix, sl l])] cs es n (bv c) := by
 have hg := fun b => NV (bv b) cs es n rfl
 have hg1 := hg true
 have hg2 := hg false
 rcases l with _ | ⟨z, l⟩ <;>
 ·rcases la with _ | ⟨x, la⟩ <;>
  ·rcases lb with _ | ⟨y, lb⟩ <;>
   ·refine co [21] [] (x := .of Tryz.f59 HC FZ) ?_; refine oh hf ?_; refine ob hc ?_
    cases c
    ·exact bp (by kernel_rfl) hg2
    exact bp (by kernel_rfl) hg1
theorem Et {cs : List an} {es : List (Go.Value × an)} {n : Nat} {nm : List UInt8} {k ix : Int} {l : List an}
  (hf : cE 49 [hP, .dat (sb nm)] cs es n (.tup [.dat bd.zero.enc, bv false])) :
  cE 59 [hP, .dat (.agg [i64 k, sb nm, i64 ix, sl l])] cs es n (bv false) := by
 have hg := NV (bv false) cs es n rfl
 rcases l with _ | ⟨z, l⟩ <;>
 ·refine co [] [] (x := .of Tryz.f59 HC FZ) ?_; refine oh hf ?_
  exact bp (by kernel_rfl) hg
/-! ### A search below a closure that reads the hierarchy -/
def box : Name × aN := (.out 3, .cells [hP])
def hB (cs : List an) (es : List (Go.Value × an)) (n : Nat) : Heap := box :: hG 2 (av cs) es n
def bP : ac := .ptr (.out 3) 0
theorem YW (v : ac) (cs : List an) (es : List (Go.Value × an)) (n : Nat) (hv : dF 4 v = false) : sx 4 ⟨v, hB cs es n, 4⟩ = ⟨v, hB cs es n, 4⟩ := by
 have h1 : eG 4 (hB cs es n) = hB cs es n := rfl
 have h2 : cP 4 (hB cs es n) = false := by simp [cP, hB, hG, nC, kz, dJ, dF, box, hP]; exact ⟨rfl, rfl, rfl⟩
 unfold sx
 dsimp only
 rw [h1, h2, hv]
 rfl
theorem Y1 (v : ac) (cs : List an) (es : List (Go.Value × an)) (n : Nat) (hv : dF 3 v = false) : sx 3 ⟨v, hB cs es n, 4⟩ = ⟨v, hG 2 (av cs) es n, 3⟩ := by
 have h1 : eG 3 (hB cs es n) = hG 2 (av cs) es n := rfl
 have h2 : cP 3 (hG 2 (av cs) es n) = false := by simp [cP, hG, nC, kz, dJ, dF]; exact ⟨rfl, rfl⟩
 unfold sx
 dsimp only
 rw [h1, h2, hv]
 rfl
abbrev Cq (g : FuncId) (args : List ac) (cs : List an) (es : List (Go.Value × an)) (n : Nat) (v : ac) : Prop := KC g args (hB cs es n) 4 (XQ ⟨v, hB cs es n, 4⟩)
theorem JG {cs : List an} {es : List (Go.Value × an)} {n : Nat} {k ix : Int} {nm : List UInt8} {l : List an} {c : Bool} (h : Cq 39 [hP, .dat (.agg [i64 k, sb nm, i64 ix, sl l])] cs es n (bv c)) :
  Cq 70 [.dat (.agg [i64 k, sb nm, i64 ix, sl l]), bP] cs es n (bv (!c)) := by
 have hg := YW (bv (!c)) cs es n rfl
 rcases l with _ | ⟨z, l⟩ <;>
 ·refine co [] [] (x := .of Tryz.f70 Mp Nn) ?_; refine oh h ?_
  exact bp (by kernel_rfl) hg
theorem df {α : Type} {l : List α} {i : Nat} {t : α} (h : l[i]? = some t) : l.drop i = t :: l.drop (i + 1) := by
 obtain ⟨hi, rfl⟩ := List.getElem?_eq_some_iff.1 h
 exact List.drop_eq_getElem_cons hi
def oX {α : Type} (p : α -> Bool) : List α -> Nat -> Int
 | [], _ => -1
 | x :: r, i => match p x with | true => Int.ofNat i | false => oX p r (i + 1)
theorem BK {α : Type} {p : α -> Bool} : ∀ {l : List α} {i : Nat}, bn (oX p l i) 0 = !(l.any p)
 | [], _ => rfl
 | x :: r, i => by
  simp only [oX, List.any_cons]
  cases p x with
  | true => exact bu (i := i) (L := 0) (by omega)
  | false => rw [BK, Bool.false_or]
theorem rp {α : Type} {p : α -> Bool} {l : List α} {i : Nat} {t : α} (h : l[i]? = some t) : oX p (l.drop i) i = match p t with | true => Int.ofNat i | false => oX p (l.drop (i + 1)) (i + 1) := by rw [df h]; rfl
noncomputable def Q2 : Hints := ⟨aq, uv, aw, rowsOf aw 99⟩
def Rd : ac := .fn (.func 70) [] [bP]
def Wb (H : Heap) (nx : Nat) (l : List an) (i : Int) : ab := ⟨[(8, iv i), (7, iv (Int.ofNat l.length)), (0, .dat (.slice l)), (1, Rd)], [], H, nx⟩
def V9 (H : Heap) (nx : Nat) (l : List an) : ab := ⟨[(9, bv false), (8, iv (Int.ofNat l.length)), (7, iv (Int.ofNat l.length)), (0, .dat (.slice l)), (1, Rd)], [], H, nx⟩
def Wa (H : Heap) (nx : Nat) (i : Nat) : ab := ⟨[(4, iv (Int.ofNat i))], [], H, nx⟩
def S7 (H : Heap) (nx : Nat) : ab := ⟨[(8, iv 0), (7, iv 0), (0, .dat nl), (1, Rd)], [], H, nx⟩
def Sd (H : Heap) (nx : Nat) : ab := ⟨[(9, bv false), (8, iv 0), (7, iv 0), (0, .dat nl), (1, Rd)], [], H, nx⟩
theorem DU {l : List Ty} {t : Ty} {H : Heap} {nx i : Nat} {c : Bool} {T : Exit -> aa -> Prop} (hi : i < (ap l).length) (ht : l[i]? = some t) (hc : KC 70 [.dat t.enc, bP] H nx (XQ ⟨bv c, H, nx⟩))
  (e1 : c = false -> T .normal ((Wb H nx (ap l) (aE .i64 (Int.ofNat i + 1))).au Tryz.f99.ntmps)) (e2 : c = true -> T .ret ((Wa H nx i).au Tryz.f99.ntmps)) :
  KD (roundOf Tryz.f99 0) T ((Wb H nx (ap l) (Int.ofNat i)).au Tryz.f99.ntmps) := by
 have h1 := bq hi
 have h2 := jg ht
 generalize ap l = es at *
 clear ht hi
 obtain ⟨k2, nm2, ix2, a2⟩ := t
 rcases a2 with _ | ⟨b, d⟩ <;>
 ·cases c
  ·refine ax [9] [14] (H := Q2) (live := iu) (by kernel_rfl) ?_; refine ob h1 ?_; refine oo h2 ?_; refine oh hc ?_; exact oe (e1 rfl)
  refine ax [9] [14] (H := Q2) (live := iu) (by kernel_rfl) ?_; refine ob h1 ?_; refine oo h2 ?_; refine oh hc ?_; exact oe (e2 rfl)
theorem JL {l : List an} {H : Heap} {nx : Nat} {T : Exit -> aa -> Prop} (e1 : T (.exit 0) ((V9 H nx l).au Tryz.f99.ntmps)) :
  KD (roundOf Tryz.f99 0) T ((Wb H nx l (Int.ofNat l.length)).au Tryz.f99.ntmps) := by
 have h1 := bu (i := l.length) (L := l.length) (by omega)
 refine ax [9] [] (H := Q2) (live := iu) (by kernel_rfl) ?_; refine ob h1 ?_; exact oe e1
theorem Gm {H : Heap} {nx : Nat} {T : Exit -> aa -> Prop} (e1 : T (.exit 0) ((Sd H nx).au Tryz.f99.ntmps)) :
  KD (roundOf Tryz.f99 0) T ((S7 H nx).au Tryz.f99.ntmps) := by
 refine ax [] [] (H := Q2) (live := iu) (by kernel_rfl) ?_; exact oe e1
theorem Gp {l : List Ty} {p : Ty -> Bool} {H : Heap} {nx : Nat} {x : an} {r : List an} (hl0 : ap l = x :: r) (hg : ∀ v, dF nx v = false -> sx nx ⟨v, H, nx⟩ = ⟨v, H, nx⟩) (hp : ∀ t ∈ l, KC 70 [.dat t.enc, bP] H nx (XQ ⟨bv (p t), H, nx⟩)) (hb : l.length < 1000000000) :
  KC 99 [.dat (.slice (x :: r)), Rd] H nx (XQ ⟨iv (oX p l 0), H, nx⟩) := by
 have hl : KD (.loop (roundOf Tryz.f99 0)) (fun e s => (e = .exit 0 /\ oX p l 0 = -1 /\ s = (V9 H nx (x :: r)).au Tryz.f99.ntmps) ∨ (e = .ret /\ ∃ i : Nat, oX p l 0 = Int.ofNat i /\ s = (Wa H nx i).au Tryz.f99.ntmps)) ((Wb H nx (x :: r) (Int.ofNat 0)).au Tryz.f99.ntmps) := by
  rw [← hl0]
  refine bW (St := fun i => (Wb H nx (ap l) (Int.ofNat i)).au Tryz.f99.ntmps) (fun i => oX p l 0 = oX p (l.drop i) i) (ap l).length ?_ ?_ (i := 0) (Nat.zero_le _) rfl
  ·intro i hi hI
   obtain ⟨t, ht, hm⟩ := get_mem hi
   have ha := rp (p := p) ht
   have hw : aE .i64 (Int.ofNat i + 1) = Int.ofNat (i + 1) := aZ (by rw [aC] at hi; omega)
   have hc := hp t hm
   rw [← hI] at ha
   generalize p t = c at hc ha
   refine DU hi ht hc ?_ ?_
   ·rintro rfl
    rw [hw]
    exact ⟨rfl, ha⟩
   rintro rfl
   exact .inr ⟨rfl, i, ha, rfl⟩
  intro hI
  refine JL (.inl ⟨rfl, ?_, rfl⟩)
  rw [hI, aC, List.drop_length]
  rfl
 have hg1 := hg (iv (oX p l 0)) rfl
 clear hp hb hg
 generalize hj : oX p l 0 = j at hg1 hl
 clear hj hl0
 refine co [] [] (x := .of Tryz.f99 uv iu) ?_; refine lo hl ?_
 rintro ex s (⟨rfl, rfl, rfl⟩ | ⟨rfl, ⟨x0, rfl, rfl⟩⟩) <;>
 ·refine ⟨_, rfl, ?_⟩
  exact bp (by kernel_rfl) hg1
theorem Vo {l : List Ty} {p : Ty -> Bool} {H : Heap} {nx : Nat} (hg : ∀ v, dF nx v = false -> sx nx ⟨v, H, nx⟩ = ⟨v, H, nx⟩) (hp : ∀ t ∈ l, KC 70 [.dat t.enc, bP] H nx (XQ ⟨bv (p t), H, nx⟩)) (hb : l.length < 1000000000) :
  KC 69 [.dat (sl (ap l)), Rd] H nx (XQ ⟨bv (l.any p), H, nx⟩) := by
 cases l with
 | nil =>
  have h0 : KC 99 [.dat nl, Rd] H nx (XQ ⟨iv (-1), H, nx⟩) := by
   have hg1 := hg (iv (-1)) rfl
   have hl : KD (.loop (roundOf Tryz.f99 0)) (fun e s => (e = .exit 0 /\ s = (Sd H nx).au Tryz.f99.ntmps)) ((S7 H nx).au Tryz.f99.ntmps) := by
    refine bi (St := fun _ => (S7 H nx).au Tryz.f99.ntmps) 0 (fun i hi => absurd hi (Nat.not_lt_zero i)) ?_ (i := 0) (Nat.le_refl _)
    exact Gm ⟨rfl, rfl⟩
   clear hg hp hb
   refine co [] [] (x := .of Tryz.f99 uv iu) ?_; refine lo hl ?_; rintro ex s ⟨rfl, rfl⟩; refine ⟨_, rfl, ?_⟩
   exact bp (by kernel_rfl) hg1
  have hg1 := hg (bv false) rfl
  clear hg hp hb
  refine co [] [] (x := .of Tryz.f69 Aa xM) ?_; refine oh h0 ?_
  exact bp (by kernel_rfl) hg1
 | cons t r =>
  have h := Gp (l := t :: r) (x := t.enc) (r := ap r) rfl hg hp hb
  have h3 := BK (p := p) (l := t :: r) (i := 0)
  have hg1 := hg (bv (!(!((t :: r).any p)))) rfl
  generalize (t :: r).any p = c at h3 hg1
  have hg2 : sx nx ⟨bv (!(!c)), H, nx⟩ = ⟨bv c, H, nx⟩ := by rw [hg1, Bool.not_not]
  clear hg1
  generalize oX p (t :: r) 0 = j at h3 h
  show KC 69 [.dat (.slice (t.enc :: ap r)), Rd] H nx _
  generalize t.enc = x at h
  generalize ap r = xs at h
  clear hp hb hg
  refine co [8] [] (x := .of Tryz.f69 Aa xM) ?_; refine oh h ?_; refine ox h3 ?_
  exact bp (by kernel_rfl) hg2
theorem NE {cs : List an} {es : List (Go.Value × an)} {n : Nat} {k ix : Int} {nm : List UInt8} {l : List an} {c kn d : Bool} (hk : aX k 2 = kn) (hd : cE 59 [hP, .dat (.agg [i64 k, sb nm, i64 ix, sl l])] cs es n (bv d))
  (h : Cq 69 [.dat (sl l), Rd] cs es n (bv c)) :
  cE 39 [hP, .dat (.agg [i64 k, sb nm, i64 ix, sl l])] cs es n (bv (!(kn && !d) && !c)) := by
 have hg1 := Y1 (bv (!c)) cs es n rfl
 have hg3 := NV (bv false) cs es n rfl
 rcases l with _ | ⟨z, l⟩
 ·refine co [7] [] (x := .of Tryz.f39 HJ F5) ?_; refine ob hk ?_
  cases kn
  ·refine oh h ?_
   exact bp (by kernel_rfl) hg1
  refine oh hd ?_
  cases d
  ·exact bp (by kernel_rfl) hg3
  refine oh h ?_
  exact bp (by kernel_rfl) hg1
 refine co [7] [] (x := .of Tryz.f39 HJ F5) ?_; refine ob hk ?_
 cases kn
 ·refine oh h ?_
  exact bp (by kernel_rfl) hg1
 refine oh hd ?_
 cases d
 ·exact bp (by kernel_rfl) hg3
 refine oh h ?_
 exact bp (by kernel_rfl) hg1
/-! ### The contracts -/
def fE (ds : List bd) (t : Ty) : Bool := match t with | .mk _ nm _ l => (match aM ds nm with | some d => aX d.ar (Int.ofNat (ap l).length) | none => false)
mutual
def cj (ds : List bd) : Ty -> Bool
 | .mk k nm ix l => !(aX k 2 && !fE ds (.mk k nm ix l)) && !jc ds l
def jc (ds : List bd) : List Ty -> Bool
 | [] => false
 | t :: r => !cj ds t || jc ds r
end
theorem xF (ds : List bd) : ∀ l : List Ty, jc ds l = l.any (fun t => !cj ds t)
 | [] => by simp [jc]
 | t :: r => by simp [jc, xF ds r]
abbrev oH (g : FuncId) (args : List ac) (ds : List bd) (tl : List an) (v : ac) : Prop := cE g args (du ds ++ tl) (cW ds 0) ds.length v
theorem mE (ds : List bd) (tl : List an) (t : Ty) : oH 59 [hP, .dat t.enc] ds tl (bv (fE ds t)) := by
 obtain ⟨k, nm, ix, l⟩ := t
 have h := rO ds tl nm
 have e : fE ds (.mk k nm ix l) = (match aM ds nm with | some d => aX d.ar (Int.ofNat (ap l).length) | none => false) := rfl
 rw [e]
 clear e
 cases hf : aM ds nm with
 | none => rw [hf] at h; exact Et h
 | some d =>
  rw [hf] at h
  obtain ⟨a, b, ⟨k2, nm2, ix2, l2⟩, j, fl⟩ := d
  exact B6 h rfl
mutual
theorem Cg (ds : List bd) (tl : List an) : ∀ t : Ty, t.size < 1000000000 -> oH 39 [hP, .dat t.enc] ds tl (bv (cj ds t))
 | .mk k nm ix l, hs => by
  have hsl : aR l < 1000000000 := by simp only [Ty.size] at hs; omega
  have hlen := ee l
  have ih := EC ds tl l hsl
  have h1 : ∀ t ∈ l, Cq 70 [.dat t.enc, bP] (du ds ++ tl) (cW ds 0) ds.length (bv (!cj ds t)) := by
   intro t ht
   have h2 := oO (r := 2) (m := 4) rfl rfl rfl [box] (ih t ht)
   obtain ⟨k2, nm2, ix2, l2⟩ := t
   exact JG h2
  have h3 := Vo (p := fun t => !cj ds t) (fun v hv => YW v _ _ _ hv) h1 (by omega)
  rw [← xF] at h3
  have h4 := NE rfl (mE ds tl (.mk k nm ix l)) h3
  rw [cj]
  exact h4
theorem EC (ds : List bd) (tl : List an) : ∀ l : List Ty, aR l < 1000000000 -> ∀ t ∈ l, oH 39 [hP, .dat t.enc] ds tl (bv (cj ds t))
 | [], _, t, ht => by simp at ht
 | x :: r, h, t, ht => by
  simp only [aR] at h
  rcases List.mem_cons.1 ht with h1 | ht
  ·rw [h1]; exact Cg ds tl x (by omega)
  exact EC ds tl r (by omega) t ht
end
noncomputable def VX : TI := match Go.Tp.elemOf (env az.aU) 33 with | some t => t | none => default
theorem KL : Go.Tp.elemOf (env az.aU) 33 = some VX := by kernel_rfl
theorem wq : VX.size = 5 := by kernel_rfl
theorem og : ∀ l : List cC, aG l = l.map cC.enc
 | [] => by simp [aG]
 | t :: r => by simp [aG, og r]
theorem aS (l : List cC) : (aG l).length = l.length := by simp [og]
theorem On {l : List cC} {i : Nat} {t : cC} (h : l[i]? = some t) : (aG l)[i]? = some t.enc := by simp [og, h]
theorem Ob (f : cC) : f.enc.cells.length = 5 := by obtain ⟨a, ⟨b, c, d, e⟩⟩ := f; rfl
theorem nO {l : List cC} {i : Nat} {t : cC} (h : l[i]? = some t) : aL (env az.aU) 33 [.dat (.slice (aG l)), .dat (.flat (.int .i64 (Int.ofNat i)))] = some ⟨.ref t.cells, .keep⟩ :=
 sd KL rfl (On h) (by rw [wq]; exact Ob t) (by rw [wq]; decide)
theorem eO {l : List cC} {i : Nat} (h : i < (aG l).length) : ∃ t, l[i]? = some t /\ t ∈ l := by
 rw [aS] at h
 exact ⟨l[i], List.getElem?_eq_getElem h, List.getElem_mem h⟩
def gK : List cC -> ac
 | [] => .dat nl
 | t :: r => .own (aG (t :: r))
theorem Om {l : List cC} {d : an} (h : d ∈ aG l) : ∃ t, d = cC.enc t := by
 rw [og] at h
 obtain ⟨t, _, rfl⟩ := List.mem_map.1 h
 exact ⟨t, rfl⟩
theorem En (a b : List cC) : aG (a ++ b) = aG a ++ aG b := by simp [og]
theorem yn (l : List cC) : sizedB 5 (aG l) = true := jG (fun d hd => by obtain ⟨t, rfl⟩ := Om hd; exact Ob t)
theorem GL (l : List cC) : eY (aG l) = false := by
 cases l with
 | nil => rfl
 | cons t r => rfl
theorem Vn {pre : List cC} {t : cC} (hl : pre.length < 1000000000) : cZ (env az.aU) false 33 [.own (aG pre), .dat (.slice [t.enc])] none = some ⟨.own (aG (pre ++ [t])), .keep⟩ := by
 rw [En]
 refine sf (i := VX) (ds := [t.enc]) (k := 4) KL rfl wq ?_ ?_ (by kernel_rfl) ?_ ?_ ?_ (by simp)
 ·exact yn [t]
 ·exact yn pre
 ·have h1 : VX.bytes <= 1000 := fT (by kernel_rfl)
  rw [aS]
  calc (pre.length + 1) * VX.bytes <= 1000000000 * 1000 := Nat.mul_le_mul (by omega) h1
   _ <= 140737488355328 := by decide
 ·rw [aS]; simp [jv]; omega
 unfold iE
 rw [show aG pre ++ [t.enc] = aG (pre ++ [t]) by rw [En]; rfl, GL]
noncomputable def It : Hints := ⟨aq, HF, aw, rowsOf aw 53⟩
def FY (nm : List UInt8) (ar k : Int) (nm2 : List UInt8) (ix : Int) (a : ac) (con : Bool) (b : ac) : Heap := [(.loc 3, .cells [.dat (sb nm), iv ar, iv k, .dat (sb nm2), iv ix, a, .dat (bl con), b]), (.loc 2, .cells [.dat (sb []), iv 0, iv 0, .dat (sb []), iv 0, .dat nl, .dat (bl false), .dat nl])]
def Lm (lo : Heap) (a : an) (n : Nat) (i : Int) : ab := ⟨[(15, iv i), (14, iv (Int.ofNat n)), (13, .dat a), (3, .ptr (.loc 3) 0), (2, .ptr (.loc 2) 0)], lo, [], 0⟩
def Sm (lo : Heap) (a : an) (n : Nat) (i : Int) : ab := ⟨[(16, bv false), (15, iv i), (14, iv (Int.ofNat n)), (13, .dat a), (3, .ptr (.loc 3) 0), (2, .ptr (.loc 2) 0)], lo, [], 0⟩
theorem OQ {nm : List UInt8} {ar k : Int} {nm2 : List UInt8} {ix : Int} {la : List an} {con : Bool} {l pre : List cC} {i : Nat} {t : cC} (hi : i < (aG l).length) (ht : l[i]? = some t) (hc : ae 58 [.dat t.ty.enc] (.dat t.ty.enc)) (hp : pre.length < 1000000000) {T : Exit -> aa -> Prop}
  (e : T .normal ((Lm (FY nm ar k nm2 ix (.dat (sl la)) con (gK (pre ++ [t]))) (.slice (aG l)) (aG l).length (aE .i64 (Int.ofNat i + 1))).au Tryz.f53.ntmps)) :
  KD (roundOf Tryz.f53 0) T ((Lm (FY nm ar k nm2 ix (.dat (sl la)) con (gK pre)) (.slice (aG l)) (aG l).length (Int.ofNat i)).au Tryz.f53.ntmps) := by
 have h1 := bq hi
 have h2 := nO ht
 have h3 := Vn (t := t) hp
 clear ht hi hp
 obtain ⟨fn, k2, fnm, fix, fl⟩ := t
 generalize aG l = es at *
 rcases pre with _ | ⟨d, r⟩ <;>
 ·rcases la with _ | ⟨x, la⟩ <;>
  ·rcases fl with _ | ⟨y, fl⟩ <;>
   ·refine ax [16] [17, 28] (H := It) (live := BA) (by kernel_rfl) ?_; refine ob h1 ?_; refine oo h2 ?_; refine on hc ?_; refine oo h3 ?_; exact oe e
theorem RA {nm : List UInt8} {ar k : Int} {nm2 : List UInt8} {ix : Int} {la : List an} {con : Bool} {pre : List cC} {a : an} {n : Nat} {T : Exit -> aa -> Prop}
  (e : T (.exit 0) ((Sm (FY nm ar k nm2 ix (.dat (sl la)) con (gK pre)) a n (Int.ofNat n)).au Tryz.f53.ntmps)) :
  KD (roundOf Tryz.f53 0) T ((Lm (FY nm ar k nm2 ix (.dat (sl la)) con (gK pre)) a n (Int.ofNat n)).au Tryz.f53.ntmps) := by
 have h1 := bu (i := n) (L := n) (by omega)
 rcases pre with _ | ⟨d, r⟩ <;>
 ·refine ax [16] [] (H := It) (live := BA) (by kernel_rfl) ?_; refine ob h1 ?_; exact oe e
theorem Rz {nm : List UInt8} {ar k : Int} {nm2 : List UInt8} {ix : Int} {la : List an} {con : Bool} {l : List cC} {a : an} (ha : a = sl (aG l)) (ih : ∀ t ∈ l, ae 58 [.dat t.ty.enc] (.dat t.ty.enc)) (hb : l.length < 1000000000) :
  KD (.loop (roundOf Tryz.f53 0)) (fun e s => e = .exit 0 /\ s = (Sm (FY nm ar k nm2 ix (.dat (sl la)) con (gK l)) a (aG l).length (Int.ofNat (aG l).length)).au Tryz.f53.ntmps)
   ((Lm (FY nm ar k nm2 ix (.dat (sl la)) con (gK [])) a (aG l).length (Int.ofNat 0)).au Tryz.f53.ntmps) := by
 refine bi (St := fun i => (Lm (FY nm ar k nm2 ix (.dat (sl la)) con (gK (l.take i))) a (aG l).length (Int.ofNat i)).au Tryz.f53.ntmps) (aG l).length ?_ ?_ (i := 0) (Nat.zero_le _)
 ·intro i hi
  obtain ⟨t, ht, hm⟩ := eO hi
  have ha2 : a = .slice (aG l) := by
   rw [ha]
   cases l with
   | nil => simp at ht
   | cons x r => rfl
  subst ha2
  refine OQ hi ht (ih t hm) (by rw [List.length_take]; omega) ?_
  rw [aS] at hi
  rw [aZ (by omega), ← dG ht]
  rfl
 refine RA ⟨rfl, ?_⟩
 rw [aS, List.take_length]
theorem Vg {nm : List UInt8} {ar k ix : Int} {nm2 : List UInt8} {la : List an} {con : Bool} {l : List cC} (hs : ae 58 [.dat (.agg [i64 k, sb nm2, i64 ix, sl la])] (.dat (.agg [i64 k, sb nm2, i64 ix, sl la])))
  (ih : ∀ t ∈ l, ae 58 [.dat t.ty.enc] (.dat t.ty.enc)) (hb : l.length < 1000000000) :
  ae 53 [.dat (dU nm ar k nm2 ix la con (aG l))] (.dat (dU nm ar k nm2 ix la con (aG l))) := by
 have hl := Rz (nm := nm) (ar := ar) (k := k) (nm2 := nm2) (ix := ix) (la := la) (con := con) (l := l) rfl ih hb
 clear ih hb
 rcases l with _ | ⟨f, l⟩ <;>
 ·rcases la with _ | ⟨x, la⟩ <;>
  ·refine co [] [] (x := .of Tryz.f53 HF BA) ?_; refine on hs ?_; refine lo hl ?_; rintro ex s ⟨rfl, rfl⟩; refine ⟨_, rfl, ?_⟩; exact fi
/-- Bounds under which a term can be reckoned with. -/
def Ty.ct (t : Ty) : Prop := t.size < 100000000 /\ t.dy
def bd.ct (d : bd) : Prop := d.sup.ct /\ (∀ f ∈ d.fl, f.ty.ct) /\ d.fl.length < 1000000000
theorem EI {t : Ty} (h : t.ct) : ae 58 [.dat t.enc] (.dat t.enc) := EH (by have := h.1; omega) h.2 (by have := h.1; have := iC t; omega)
theorem uZ {d : bd} (h : d.ct) : ae 53 [.dat d.enc] (.dat d.enc) := by
 obtain ⟨h1, h2, h3⟩ := h
 obtain ⟨a, b, ⟨k2, nm2, ix2, l2⟩, j, fl⟩ := d
 exact Vg (EI h1) (fun t ht => EI (h2 t ht)) h3
theorem YC {nm nm2 : List UInt8} {t u : Ty} {c d : Bool} (h1 : dX nm nm2 = c) (h : ae 91 [.dat t.enc, .dat u.enc] (bv d)) :
  ae 90 [.dat (cC.enc ⟨nm, t⟩), .dat (cC.enc ⟨nm2, u⟩)] (bv (c && d)) := by
 obtain ⟨k, tn, ix, l⟩ := t
 obtain ⟨k2, tn2, ix2, l2⟩ := u
 rcases l with _ | ⟨x, l⟩ <;>
 ·rcases l2 with _ | ⟨x2, l2⟩ <;>
  ·refine co [9] [] (x := .of Tryz.f90 Mh Nf) ?_; refine ob h1 ?_
   cases c
   ·exact fi
   refine on h ?_; exact fi
def XX : ac := .fn (.func 90) [] []
noncomputable def TX : Hints := ⟨aq, uw, aw, rowsOf aw 92⟩
def Vw (a b : an) (n : Nat) (i : Int) : ab := ⟨[(17, iv i), (16, iv (Int.ofNat n)), (15, .dat a), (1, .dat b), (2, XX)], [], [], 0⟩
def S9 (a b : an) (n : Nat) (i : Int) : ab := ⟨[(18, bv false), (17, iv i), (16, iv (Int.ofNat n)), (15, .dat a), (1, .dat b), (2, XX)], [], [], 0⟩
def Ta (c : Bool) : ab := ⟨[(6, bv c)], [], [], 0⟩
def cC.eq (f g : cC) : Bool := dX f.nm g.nm && JW f.ty g.ty
def qo : List cC -> List cC -> Bool
 | f :: r, g :: s => f.eq g && qo r s
 | _, _ => true
theorem Ou {l l2 : List cC} {t u : cC} {i : Nat} {c : Bool} {T : Exit -> aa -> Prop} (hi : i < (aG l).length) (ht : l[i]? = some t) (hu : l2[i]? = some u) (hc : ae 90 [.dat t.enc, .dat u.enc] (bv c))
  (e1 : c = true -> T .normal ((Vw (.slice (aG l)) (.slice (aG l2)) (aG l).length (aE .i64 (Int.ofNat i + 1))).au Tryz.f92.ntmps)) (e2 : c = false -> T .ret ((Ta false).au Tryz.f92.ntmps)) :
  KD (roundOf Tryz.f92 0) T ((Vw (.slice (aG l)) (.slice (aG l2)) (aG l).length (Int.ofNat i)).au Tryz.f92.ntmps) := by
 have h1 := bq hi
 have h2 := nO ht
 have h3 := nO hu
 generalize aG l = es at *
 generalize aG l2 = es2 at *
 clear ht hi hu
 obtain ⟨nm, k, tn, ix, a⟩ := t
 obtain ⟨nm2, k2, tn2, ix2, b⟩ := u
 rcases a with _ | ⟨x, a⟩ <;>
 ·rcases b with _ | ⟨y, b⟩ <;>
  ·cases c
   ·refine ax [18] [20, 24] (H := TX) (live := ma) (by kernel_rfl) ?_; refine ob h1 ?_; refine oo h2 ?_; refine oo h3 ?_; refine on hc ?_; exact oe (e2 rfl)
   refine ax [18] [20, 24] (H := TX) (live := ma) (by kernel_rfl) ?_; refine ob h1 ?_; refine oo h2 ?_; refine oo h3 ?_; refine on hc ?_; exact oe (e1 rfl)
theorem Ro {a b : an} {n : Nat} {T : Exit -> aa -> Prop} (e : T (.exit 0) ((S9 a b n (Int.ofNat n)).au Tryz.f92.ntmps)) :
  KD (roundOf Tryz.f92 0) T ((Vw a b n (Int.ofNat n)).au Tryz.f92.ntmps) := by
 have h1 := bu (i := n) (L := n) (by omega)
 refine ax [18] [] (H := TX) (live := ma) (by kernel_rfl) ?_; refine ob h1 ?_; exact oe e
theorem Au {l l2 : List cC} {i : Nat} {t u : cC} (ht : l[i]? = some t) (hu : l2[i]? = some u) : qo (l.drop i) (l2.drop i) = (t.eq u && qo (l.drop (i + 1)) (l2.drop (i + 1))) := by rw [df ht, df hu]; rfl
theorem Rn {l l2 : List cC} {a b : an} (ha : a = sl (aG l)) (hb : b = sl (aG l2)) (hlen : l.length = l2.length) (hn : l.length < 1000000000) (hc : ∀ t ∈ l, ∀ u ∈ l2, ae 90 [.dat t.enc, .dat u.enc] (bv (t.eq u))) :
  KD (.loop (roundOf Tryz.f92 0)) (fun e s => (e = .exit 0 /\ qo l l2 = true /\ s = (S9 a b (aG l).length (Int.ofNat (aG l).length)).au Tryz.f92.ntmps) ∨ (e = .ret /\ qo l l2 = false /\ s = (Ta false).au Tryz.f92.ntmps)) ((Vw a b (aG l).length (Int.ofNat 0)).au Tryz.f92.ntmps) := by
 refine bW (St := fun i => (Vw a b (aG l).length (Int.ofNat i)).au Tryz.f92.ntmps) (fun i => qo l l2 = qo (l.drop i) (l2.drop i)) (aG l).length ?_ ?_ (i := 0) (Nat.zero_le _) rfl
 ·intro i hi hI
  obtain ⟨t, ht, hm⟩ := eO hi
  have hi2 := hi
  rw [aS] at hi2
  have hu : l2[i]? = some l2[i] := List.getElem?_eq_getElem (by omega)
  have hm2 : l2[i] ∈ l2 := List.getElem_mem _
  generalize l2[i] = u at hu hm2
  have h := hc t hm u hm2
  have hd := Au ht hu
  rw [← hI] at hd
  have hw : aE .i64 (Int.ofNat i + 1) = Int.ofNat (i + 1) := aZ (by omega)
  have ha2 : a = .slice (aG l) := by
   rw [ha]
   cases l with
   | nil => simp at ht
   | cons x r => rfl
  have hb2 : b = .slice (aG l2) := by
   rw [hb]
   cases l2 with
   | nil => simp at hu
   | cons x r => rfl
  subst ha2
  subst hb2
  generalize t.eq u = c at h hd
  refine Ou hi ht hu h ?_ ?_
  ·rintro rfl
   rw [hw]
   exact ⟨rfl, hd⟩
  rintro rfl
  exact .inr ⟨rfl, hd, rfl⟩
 intro hI
 refine Ro (.inl ⟨rfl, ?_, rfl⟩)
 rw [hI, aS, List.drop_length]
 cases l2.drop l.length <;> rfl
def U8 (l l2 : List cC) : Bool := aX (Int.ofNat (aG l).length) (Int.ofNat (aG l2).length) && qo l l2
theorem Iy {l l2 : List cC} {c : Bool} (h : aX (Int.ofNat (aG l).length) (Int.ofNat (aG l2).length) = c) : c = true -> l.length = l2.length := by
 rintro rfl
 rw [tz, aS, aS] at h
 simpa using h
theorem Vb {a b : an} {la lb : List an} (ha : a = sl la) (hb : b = sl lb) {c d : Bool} (h : aX (Int.ofNat la.length) (Int.ofNat lb.length) = c)
  (hl : c = true -> KD (.loop (roundOf Tryz.f92 0)) (fun e s => (e = .exit 0 /\ d = true /\ s = (S9 a b la.length (Int.ofNat la.length)).au Tryz.f92.ntmps) ∨ (e = .ret /\ d = false /\ s = (Ta false).au Tryz.f92.ntmps)) ((Vw a b la.length (Int.ofNat 0)).au Tryz.f92.ntmps)) :
  ae 92 [.dat a, .dat b, XX] (bv (c && d)) := by
 subst ha
 subst hb
 rcases la with _ | ⟨x, la⟩
 ·rcases lb with _ | ⟨y, lb⟩
  ·cases c
   ·exact Bool.noConfusion (show true = false from h)
   have hl2 := hl rfl
   clear hl
   refine co [] [] (x := .of Tryz.f92 uw ma) ?_; refine lo hl2 ?_
   rintro ex s (⟨rfl, rfl, rfl⟩ | ⟨rfl, rfl, rfl⟩) <;>
   ·refine ⟨_, rfl, ?_⟩; exact fi
  cases c
  ·refine co [] [] (x := .of Tryz.f92 uw ma) ?_; exact fi
  exact Bool.noConfusion (show false = true from h)
 rcases lb with _ | ⟨y, lb⟩
 ·cases c
  ·refine co [] [] (x := .of Tryz.f92 uw ma) ?_; exact fi
  exact Bool.noConfusion (show false = true from h)
 cases c
 ·refine co [14] [] (x := .of Tryz.f92 uw ma) ?_; refine ox h ?_; exact fi
 have hl2 := hl rfl
 clear hl
 refine co [14] [] (x := .of Tryz.f92 uw ma) ?_; refine ox h ?_; refine lo hl2 ?_
 rintro ex s (⟨rfl, rfl, rfl⟩ | ⟨rfl, rfl, rfl⟩) <;>
 ·refine ⟨_, rfl, ?_⟩; exact fi
def bd.eq (a b : bd) : Bool := dX a.nm b.nm && (aX a.ar b.ar && ((a.con == b.con) && (JW a.sup b.sup && U8 a.fl b.fl)))
theorem Rm {nm nm2 : List UInt8} {ar ar2 : Int} {con con2 : Bool} {k ix k2 ix2 : Int} {tn tn2 : List UInt8} {la la2 lb lb2 : List an} {c1 c2 c4 c5 : Bool} (h1 : dX nm nm2 = c1) (h2 : aX ar ar2 = c2)
  (h4 : ae 91 [.dat (.agg [i64 k, sb tn, i64 ix, sl la]), .dat (.agg [i64 k2, sb tn2, i64 ix2, sl la2])] (bv c4)) (h5 : ae 92 [.dat (sl lb), .dat (sl lb2), XX] (bv c5)) :
  ae 51 [.dat (dU nm ar k tn ix la con lb), .dat (dU nm2 ar2 k2 tn2 ix2 la2 con2 lb2)] (bv (c1 && (c2 && ((con == con2) && (c4 && c5))))) := by
 rcases la with _ | ⟨x, la⟩ <;>
 ·rcases la2 with _ | ⟨x2, la2⟩ <;>
  ·rcases lb with _ | ⟨y, lb⟩ <;>
   ·rcases lb2 with _ | ⟨y2, lb2⟩ <;>
    ·refine co [10, 16] [] (x := .of Tryz.f51 My Nw) ?_; refine ob h1 ?_
     cases c1
     ·exact fi
     refine ob h2 ?_
     cases c2
     ·exact fi
     cases con
     ·cases con2
      ·refine on h4 ?_
       cases c4
       ·exact fi
       refine on h5 ?_; exact fi
      exact fi
     cases con2
     ·exact fi
     refine on h4 ?_
     cases c4
     ·exact fi
     refine on h5 ?_; exact fi
theorem Ci {a b : bd} (ha : a.ct) (hb : b.ct) : ae 51 [.dat a.enc, .dat b.enc] (bv (a.eq b)) := by
 obtain ⟨a1, a2, a3⟩ := ha
 obtain ⟨b1, b2, b3⟩ := hb
 have h4 : ae 91 [.dat a.sup.enc, .dat b.sup.enc] (bv (JW a.sup b.sup)) := IE _ _ (by have := a1.1; omega)
 have hf : ∀ t ∈ a.fl, ∀ u ∈ b.fl, ae 90 [.dat t.enc, .dat u.enc] (bv (t.eq u)) := by
  intro t ht u hu
  exact YC rfl (IE _ _ (by have := (a2 t ht).1; omega))
 have h5 : ae 92 [.dat (sl (aG a.fl)), .dat (sl (aG b.fl)), XX] (bv (U8 a.fl b.fl)) :=
  Vb rfl rfl rfl (fun h => Rn rfl rfl (Iy rfl h) a3 hf)
 obtain ⟨anm, aar, ⟨k, tn, ix, la⟩, acon, afl⟩ := a
 obtain ⟨bnm, bar, ⟨k2, tn2, ix2, la2⟩, bcon, bfl⟩ := b
 exact Rm rfl rfl h4 h5
end Go.Proofs.YtiihadmgkoamoaaGreatDoor

namespace Go.Proofs
open Go.Shelf
def Tryz.JK : Go.Shelf.Ren := ⟨fun | 21 => 191 | 27 => 201 | 28 => 202 | 35 => 204 | 39 => 206 | n => n, fun | 22 => 22 | 3 => 3 | 4 => 4 | 0 => 0 | n => n, fun | n => n⟩
theorem Tryz.SC : Go.Proofs.Lays2.n21 Tryz.prog Tryz.JK := {
 mixed := by kernel_rfl
 f21 := Tryz.func191.trans (congrArg some (by kernel_rfl))
 f27 := Tryz.func201.trans (congrArg some (by kernel_rfl))
 f28 := Tryz.func202.trans (congrArg some (by kernel_rfl))
 f35 := Tryz.func204.trans (congrArg some (by kernel_rfl))
 f39 := Tryz.func206.trans (congrArg some (by kernel_rfl))
 t0 := Tryz.underlying0
 a0 := Tryz.isAgg0
 z0 := Tryz.sizeOf0
 v0 := Tryz.zeroValue0
 t3 := Tryz.underlying3
 a3 := Tryz.isAgg3
 z3 := Tryz.sizeOf3
 v3 := Tryz.zeroValue3
 t4 := Tryz.underlying4
 a4 := Tryz.isAgg4
 z4 := Tryz.sizeOf4
 v4 := Tryz.zeroValue4
 t22 := Tryz.underlying22
 a22 := Tryz.isAgg22
 z22 := Tryz.sizeOf22
 v22 := Tryz.zeroValue22
 i3 := by kernel_rfl }
def Tryz.O3 : Go.Shelf.Ren := ⟨fun | 25 => 190 | 31 => 199 | 32 => 200 | 37 => 171 | n => n, fun | 22 => 22 | 3 => 3 | 4 => 4 | 40 => 157 | 0 => 0 | n => n, fun | n => n⟩
theorem Tryz.YE : Go.Proofs.Lays2.n25 Tryz.prog Tryz.O3 := {
 mixed := by kernel_rfl
 f25 := Tryz.func190.trans (congrArg some (by kernel_rfl))
 f31 := Tryz.func199.trans (congrArg some (by kernel_rfl))
 f32 := Tryz.func200.trans (congrArg some (by kernel_rfl))
 f37 := Tryz.func171.trans (congrArg some (by kernel_rfl))
 t0 := Tryz.underlying0
 a0 := Tryz.isAgg0
 z0 := Tryz.sizeOf0
 v0 := Tryz.zeroValue0
 t3 := Tryz.underlying3
 a3 := Tryz.isAgg3
 z3 := Tryz.sizeOf3
 v3 := Tryz.zeroValue3
 t4 := Tryz.underlying4
 a4 := Tryz.isAgg4
 z4 := Tryz.sizeOf4
 v4 := Tryz.zeroValue4
 t22 := Tryz.underlying22
 a22 := Tryz.isAgg22
 z22 := Tryz.sizeOf22
 v22 := Tryz.zeroValue22
 t40 := Tryz.underlying157
 a40 := Tryz.isAgg157
 z40 := Tryz.sizeOf157
 v40 := Tryz.zeroValue157 }
end Go.Proofs
