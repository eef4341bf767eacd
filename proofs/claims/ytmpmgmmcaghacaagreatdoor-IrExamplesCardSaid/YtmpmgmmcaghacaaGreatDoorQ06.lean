/- Part 6 of what the last text proves. -/
import Derived.Test.YtmpmgmmcaghacaaGreatDoorProg
import Derived.KernelRfl
import Derived.Ground.NamesProg
import Derived.Shelf.Strings.OnBuilder
import Derived.Shelf.SlMaps.Clone
import Derived.Shelf.SlicesE.Clone
import Derived.Shelf.SlicesE.Delete
import Derived.Shelf.Strconv.Itoa4
import Derived.Lib.ItoaLen
import Derived.Lib.AppendIntMem
import Derived.Lib.LaidTab
import Derived.Ground.Names2Prog
import Derived.Shelf.Lays2
import Derived.Shelf.Slices.SearchI
import Derived.Shelf.Spec.SlicesInsert
import Derived.Shelf.Spec.SlicesInsertGrow
import Derived.Shelf.SortM.Plain
import Derived.Shelf.SortM.SortNone
import Derived.Shelf.SlicesE.Compact
import Derived.Shelf.SlIter.Nil
import Derived.Shelf.SlIterI.Sorted
import Derived.Shelf.SlGeneric
import Derived.Ground.SlgnProg
import Derived.Ground.SlgmProg
import Derived.Shelf.SlLaysE
import Derived.Shelf.SlLaysE0
import Derived.Test.YtmpmgmmcaghacaaGreatDoorQ05
set_option linter.unusedVariables false
set_option linter.unusedSimpArgs false
set_option maxRecDepth 100000
set_option maxHeartbeats 4000000
namespace Go.Proofs.YtmpmgmmcaghacaaGreatDoor
open Go.Tp

theorem tok2 : TI.ok Tryz.prog 2 ⟨.int .i64, 1, 8, .int .i64 0⟩ := ⟨⟨Tryz.t2, by kernel_rfl, rfl, rfl, rfl, rfl⟩, Tryz.underlying2⟩
theorem tok3 : TI.ok Tryz.prog 3 ⟨.int .i64, 1, 8, .int .i64 0⟩ := ⟨⟨Tryz.t3, by kernel_rfl, rfl, rfl, rfl, rfl⟩, Tryz.underlying3⟩
theorem tok4 : TI.ok Tryz.prog 4 ⟨.bool, 1, 1, .bool false⟩ := ⟨⟨Tryz.t4, by kernel_rfl, rfl, rfl, rfl, rfl⟩, Tryz.underlying4⟩
theorem tok5 : TI.ok Tryz.prog 5 ⟨.int .u8, 1, 1, .int .u8 0⟩ := ⟨⟨Tryz.t5, by kernel_rfl, rfl, rfl, rfl, rfl⟩, Tryz.underlying5⟩
theorem tok9 : TI.ok Tryz.prog 9 ⟨.string, 1, 16, .string ⟨#[]⟩⟩ := ⟨⟨Tryz.t9, by kernel_rfl, rfl, rfl, rfl, rfl⟩, Tryz.underlying9⟩
theorem tok22 : TI.ok Tryz.prog 22 ⟨.slice 3, 1, 24, .slice none 0 0⟩ := ⟨⟨Tryz.t22, by kernel_rfl, rfl, rfl, rfl, rfl⟩, Tryz.underlying22⟩
theorem tok23 : TI.ok Tryz.prog 23 ⟨.slice 45, 1, 24, .slice none 0 0⟩ := ⟨⟨Tryz.t23, by kernel_rfl, rfl, rfl, rfl, rfl⟩, Tryz.underlying23⟩
theorem tok24 : TI.ok Tryz.prog 24 ⟨.slice 54, 1, 24, .slice none 0 0⟩ := ⟨⟨Tryz.t24, by kernel_rfl, rfl, rfl, rfl, rfl⟩, Tryz.underlying24⟩
theorem tok26 : TI.ok Tryz.prog 26 ⟨.struct [(0, 3), (1, 3), (2, 23), (3, 24)], 4, 64, .agg #[.int .i64 0, .int .i64 0, .slice none 0 0, .slice none 0 0]⟩ := ⟨⟨Tryz.t26, by kernel_rfl, rfl, rfl, rfl, rfl⟩, ⟨_, Tryz.underlying26, rfl, [(0, 1), (1, 1), (2, 1), (3, 1)], by kernel_rfl⟩⟩
theorem tok32 : TI.ok Tryz.prog 32 ⟨.int .i64, 1, 8, .int .i64 0⟩ := ⟨⟨Tryz.t32, by kernel_rfl, rfl, rfl, rfl, rfl⟩, Tryz.underlying32⟩
theorem tok38 : TI.ok Tryz.prog 38 ⟨.slice 40, 1, 24, .slice none 0 0⟩ := ⟨⟨Tryz.t38, by kernel_rfl, rfl, rfl, rfl, rfl⟩, Tryz.underlying38⟩
theorem tok40 : TI.ok Tryz.prog 40 ⟨.struct [(0, 3), (1, 9), (2, 3), (3, 38)], 4, 56, .agg #[.int .i64 0, .string ⟨#[]⟩, .int .i64 0, .slice none 0 0]⟩ := ⟨⟨Tryz.t40, by kernel_rfl, rfl, rfl, rfl, rfl⟩, ⟨_, Tryz.underlying40, rfl, [(0, 1), (1, 1), (2, 1), (3, 1)], by kernel_rfl⟩⟩
theorem tok41 : TI.ok Tryz.prog 41 ⟨.slice 43, 1, 24, .slice none 0 0⟩ := ⟨⟨Tryz.t41, by kernel_rfl, rfl, rfl, rfl, rfl⟩, Tryz.underlying41⟩
theorem tok43 : TI.ok Tryz.prog 43 ⟨.struct [(0, 3), (1, 2), (2, 9), (3, 41)], 4, 56, .agg #[.int .i64 0, .int .i64 0, .string ⟨#[]⟩, .slice none 0 0]⟩ := ⟨⟨Tryz.t43, by kernel_rfl, rfl, rfl, rfl, rfl⟩, ⟨_, Tryz.underlying43, rfl, [(0, 1), (1, 1), (2, 1), (3, 1)], by kernel_rfl⟩⟩
theorem tok45 : TI.ok Tryz.prog 45 ⟨.struct [(0, 3), (1, 3), (2, 3), (3, 3), (4, 3), (5, 9), (6, 22), (7, 40), (11, 43)], 15, 192, .agg #[.int .i64 0, .int .i64 0, .int .i64 0, .int .i64 0, .int .i64 0, .string ⟨#[]⟩, .slice none 0 0, .int .i64 0, .string ⟨#[]⟩, .int .i64 0, .slice none 0 0, .int .i64 0, .int .i64 0, .string ⟨#[]⟩, .slice none 0 0]⟩ := ⟨⟨Tryz.t45, by kernel_rfl, rfl, rfl, rfl, rfl⟩, ⟨_, Tryz.underlying45, rfl, [(0, 1), (1, 1), (2, 1), (3, 1), (4, 1), (5, 1), (6, 1), (7, 4), (11, 4)], by kernel_rfl⟩⟩
theorem tok49 : TI.ok Tryz.prog 49 ⟨.slice 139, 1, 24, .slice none 0 0⟩ := ⟨⟨Tryz.t49, by kernel_rfl, rfl, rfl, rfl, rfl⟩, Tryz.underlying49⟩
theorem tok51 : TI.ok Tryz.prog 51 ⟨.struct [(0, 9), (1, 3), (2, 40), (6, 4), (7, 49)], 8, 112, .agg #[.string ⟨#[]⟩, .int .i64 0, .int .i64 0, .string ⟨#[]⟩, .int .i64 0, .slice none 0 0, .bool false, .slice none 0 0]⟩ := ⟨⟨Tryz.t51, by kernel_rfl, rfl, rfl, rfl, rfl⟩, ⟨_, Tryz.underlying51, rfl, [(0, 1), (1, 1), (2, 4), (6, 1), (7, 1)], by kernel_rfl⟩⟩
theorem tok53 : TI.ok Tryz.prog 53 ⟨.struct [(0, 3), (1, 51), (9, 9), (10, 40), (14, 3), (15, 26), (19, 9)], 20, 280, .agg #[.int .i64 0, .string ⟨#[]⟩, .int .i64 0, .int .i64 0, .string ⟨#[]⟩, .int .i64 0, .slice none 0 0, .bool false, .slice none 0 0, .string ⟨#[]⟩, .int .i64 0, .string ⟨#[]⟩, .int .i64 0, .slice none 0 0, .int .i64 0, .int .i64 0, .int .i64 0, .slice none 0 0, .slice none 0 0, .string ⟨#[]⟩]⟩ := ⟨⟨Tryz.t53, by kernel_rfl, rfl, rfl, rfl, rfl⟩, ⟨_, Tryz.underlying53, rfl, [(0, 1), (1, 8), (9, 1), (10, 4), (14, 1), (15, 4), (19, 1)], by kernel_rfl⟩⟩
theorem tok54 : TI.ok Tryz.prog 54 ⟨.slice 53, 1, 24, .slice none 0 0⟩ := ⟨⟨Tryz.t54, by kernel_rfl, rfl, rfl, rfl, rfl⟩, Tryz.underlying54⟩
theorem tok55 : TI.ok Tryz.prog 55 ⟨.slice 22, 1, 24, .slice none 0 0⟩ := ⟨⟨Tryz.t55, by kernel_rfl, rfl, rfl, rfl, rfl⟩, Tryz.underlying55⟩
theorem tok70 : TI.ok Tryz.prog 70 ⟨.slice 9, 1, 24, .slice none 0 0⟩ := ⟨⟨Tryz.t70, by kernel_rfl, rfl, rfl, rfl, rfl⟩, Tryz.underlying70⟩
theorem tok74 : TI.ok Tryz.prog 74 ⟨.pointer, 1, 8, .pointer none⟩ := ⟨⟨Tryz.t74, by kernel_rfl, rfl, rfl, rfl, rfl⟩, ⟨_, Tryz.underlying74⟩⟩
theorem tok75 : TI.ok Tryz.prog 75 ⟨.slice 5, 1, 24, .slice none 0 0⟩ := ⟨⟨Tryz.t75, by kernel_rfl, rfl, rfl, rfl, rfl⟩, Tryz.underlying75⟩
theorem tok77 : TI.ok Tryz.prog 77 ⟨.struct [(0, 74), (1, 75)], 2, 32, .agg #[.pointer none, .slice none 0 0]⟩ := ⟨⟨Tryz.t77, by kernel_rfl, rfl, rfl, rfl, rfl⟩, ⟨_, Tryz.underlying77, rfl, [(0, 1), (1, 1)], by kernel_rfl⟩⟩
theorem tok91 : TI.ok Tryz.prog 91 ⟨.slice 92, 1, 24, .slice none 0 0⟩ := ⟨⟨Tryz.t91, by kernel_rfl, rfl, rfl, rfl, rfl⟩, Tryz.underlying91⟩
theorem tok92 : TI.ok Tryz.prog 92 ⟨.map 3 4, 1, 8, .map none⟩ := ⟨⟨Tryz.t92, by kernel_rfl, rfl, rfl, rfl, rfl⟩, Tryz.underlying92⟩
theorem tok98 : TI.ok Tryz.prog 98 ⟨.func, 1, 8, .nilFunc⟩ := ⟨⟨Tryz.t98, by kernel_rfl, rfl, rfl, rfl, rfl⟩, ⟨_, _, _, Tryz.underlying98⟩⟩
theorem tok101 : TI.ok Tryz.prog 101 ⟨.struct [(0, 9), (1, 4), (2, 4), (3, 4), (4, 4), (5, 4), (6, 4), (7, 4), (8, 4), (9, 4), (10, 4), (11, 4)], 12, 32, .agg #[.string ⟨#[]⟩, .bool false, .bool false, .bool false, .bool false, .bool false, .bool false, .bool false, .bool false, .bool false, .bool false, .bool false]⟩ := ⟨⟨Tryz.t101, by kernel_rfl, rfl, rfl, rfl, rfl⟩, ⟨_, Tryz.underlying101, rfl, [(0, 1), (1, 1), (2, 1), (3, 1), (4, 1), (5, 1), (6, 1), (7, 1), (8, 1), (9, 1), (10, 1), (11, 1)], by kernel_rfl⟩⟩
theorem tok122 : TI.ok Tryz.prog 122 ⟨.pointer, 1, 8, .pointer none⟩ := ⟨⟨Tryz.t122, by kernel_rfl, rfl, rfl, rfl, rfl⟩, ⟨_, Tryz.underlying122⟩⟩
theorem tok131 : TI.ok Tryz.prog 131 ⟨.array 23 101, 276, 736, .agg #[.string ⟨#[]⟩, .bool false, .bool false, .bool false, .bool false, .bool false, .bool false, .bool false, .bool false, .bool false, .bool false, .bool false, .string ⟨#[]⟩, .bool false, .bool false, .bool false, .bool false, .bool false, .bool false, .bool false, .bool false, .bool false, .bool false, .bool false, .string ⟨#[]⟩, .bool false, .bool false, .bool false, .bool false, .bool false, .bool false, .bool false, .bool false, .bool false, .bool false, .bool false, .string ⟨#[]⟩, .bool false, .bool false, .bool false, .bool false, .bool false, .bool false, .bool false, .bool false, .bool false, .bool false, .bool false, .string ⟨#[]⟩, .bool false, .bool false, .bool false, .bool false, .bool false, .bool false, .bool false, .bool false, .bool false, .bool false, .bool false, .string ⟨#[]⟩, .bool false, .bool false, .bool false, .bool false, .bool false, .bool false, .bool false, .bool false, .bool false, .bool false, .bool false, .string ⟨#[]⟩, .bool false, .bool false, .bool false, .bool false, .bool false, .bool false, .bool false, .bool false, .bool false, .bool false, .bool false, .string ⟨#[]⟩, .bool false, .bool false, .bool false, .bool false, .bool false, .bool false, .bool false, .bool false, .bool false, .bool false, .bool false, .string ⟨#[]⟩, .bool false, .bool false, .bool false, .bool false, .bool false, .bool false, .bool false, .bool false, .bool false, .bool false, .bool false, .string ⟨#[]⟩, .bool false, .bool false, .bool false, .bool false, .bool false, .bool false, .bool false, .bool false, .bool false, .bool false, .bool false, .string ⟨#[]⟩, .bool false, .bool false, .bool false, .bool false, .bool false, .bool false, .bool false, .bool false, .bool false, .bool false, .bool false, .string ⟨#[]⟩, .bool false, .bool false, .bool false, .bool false, .bool false, .bool false, .bool false, .bool false, .bool false, .bool false, .bool false, .string ⟨#[]⟩, .bool false, .bool false, .bool false, .bool false, .bool false, .bool false, .bool false, .bool false, .bool false, .bool false, .bool false, .string ⟨#[]⟩, .bool false, .bool false, .bool false, .bool false, .bool false, .bool false, .bool false, .bool false, .bool false, .bool false, .bool false, .string ⟨#[]⟩, .bool false, .bool false, .bool false, .bool false, .bool false, .bool false, .bool false, .bool false, .bool false, .bool false, .bool false, .string ⟨#[]⟩, .bool false, .bool false, .bool false, .bool false, .bool false, .bool false, .bool false, .bool false, .bool false, .bool false, .bool false, .string ⟨#[]⟩, .bool false, .bool false, .bool false, .bool false, .bool false, .bool false, .bool false, .bool false, .bool false, .bool false, .bool false, .string ⟨#[]⟩, .bool false, .bool false, .bool false, .bool false, .bool false, .bool false, .bool false, .bool false, .bool false, .bool false, .bool false, .string ⟨#[]⟩, .bool false, .bool false, .bool false, .bool false, .bool false, .bool false, .bool false, .bool false, .bool false, .bool false, .bool false, .string ⟨#[]⟩, .bool false, .bool false, .bool false, .bool false, .bool false, .bool false, .bool false, .bool false, .bool false, .bool false, .bool false, .string ⟨#[]⟩, .bool false, .bool false, .bool false, .bool false, .bool false, .bool false, .bool false, .bool false, .bool false, .bool false, .bool false, .string ⟨#[]⟩, .bool false, .bool false, .bool false, .bool false, .bool false, .bool false, .bool false, .bool false, .bool false, .bool false, .bool false, .string ⟨#[]⟩, .bool false, .bool false, .bool false, .bool false, .bool false, .bool false, .bool false, .bool false, .bool false, .bool false, .bool false]⟩ := ⟨⟨Tryz.t131, by kernel_rfl, rfl, rfl, rfl, rfl⟩, Tryz.underlying131⟩
theorem tok134 : TI.ok Tryz.prog 134 ⟨.int .u64, 1, 8, .int .u64 0⟩ := ⟨⟨Tryz.t134, by kernel_rfl, rfl, rfl, rfl, rfl⟩, Tryz.underlying134⟩
theorem tok139 : TI.ok Tryz.prog 139 ⟨.struct [(0, 9), (1, 40)], 5, 72, .agg #[.string ⟨#[]⟩, .int .i64 0, .string ⟨#[]⟩, .int .i64 0, .slice none 0 0]⟩ := ⟨⟨Tryz.t139, by kernel_rfl, rfl, rfl, rfl, rfl⟩, ⟨_, Tryz.underlying139, rfl, [(0, 1), (1, 4)], by kernel_rfl⟩⟩
theorem tok142 : TI.ok Tryz.prog 142 ⟨.func, 1, 8, .nilFunc⟩ := ⟨⟨Tryz.t142, by kernel_rfl, rfl, rfl, rfl, rfl⟩, ⟨_, _, _, Tryz.underlying142⟩⟩
theorem tok145 : TI.ok Tryz.prog 145 ⟨.struct [(0, 3), (1, 3)], 2, 16, .agg #[.int .i64 0, .int .i64 0]⟩ := ⟨⟨Tryz.t145, by kernel_rfl, rfl, rfl, rfl, rfl⟩, ⟨_, Tryz.underlying145, rfl, [(0, 1), (1, 1)], by kernel_rfl⟩⟩
theorem tok146 : TI.ok Tryz.prog 146 ⟨.slice 145, 1, 24, .slice none 0 0⟩ := ⟨⟨Tryz.t146, by kernel_rfl, rfl, rfl, rfl, rfl⟩, Tryz.underlying146⟩
theorem tok157 : TI.ok Tryz.prog 157 ⟨.slice 159, 1, 24, .slice none 0 0⟩ := ⟨⟨Tryz.t157, by kernel_rfl, rfl, rfl, rfl, rfl⟩, Tryz.underlying157⟩
theorem tok159 : TI.ok Tryz.prog 159 ⟨.struct [(0, 3), (1, 9), (2, 157), (3, 3)], 4, 56, .agg #[.int .i64 0, .string ⟨#[]⟩, .slice none 0 0, .int .i64 0]⟩ := ⟨⟨Tryz.t159, by kernel_rfl, rfl, rfl, rfl, rfl⟩, ⟨_, Tryz.underlying159, rfl, [(0, 1), (1, 1), (2, 1), (3, 1)], by kernel_rfl⟩⟩
theorem tok162 : TI.ok Tryz.prog 162 ⟨.int .u64, 1, 8, .int .u64 0⟩ := ⟨⟨Tryz.t162, by kernel_rfl, rfl, rfl, rfl, rfl⟩, Tryz.underlying162⟩
theorem tok170 : TI.ok Tryz.prog 170 ⟨.int .i64, 1, 8, .int .i64 0⟩ := ⟨⟨Tryz.t170, by kernel_rfl, rfl, rfl, rfl, rfl⟩, Tryz.underlying170⟩
theorem tok178 : TI.ok Tryz.prog 178 ⟨.int .u32, 1, 4, .int .u32 0⟩ := ⟨⟨Tryz.t178, by kernel_rfl, rfl, rfl, rfl, rfl⟩, Tryz.underlying178⟩
theorem tok182 : TI.ok Tryz.prog 182 ⟨.func, 1, 8, .nilFunc⟩ := ⟨⟨Tryz.t182, by kernel_rfl, rfl, rfl, rfl, rfl⟩, ⟨_, _, _, Tryz.underlying182⟩⟩
theorem tok186 : TI.ok Tryz.prog 186 ⟨.array 24 5, 24, 24, .agg #[.int .u8 0, .int .u8 0, .int .u8 0, .int .u8 0, .int .u8 0, .int .u8 0, .int .u8 0, .int .u8 0, .int .u8 0, .int .u8 0, .int .u8 0, .int .u8 0, .int .u8 0, .int .u8 0, .int .u8 0, .int .u8 0, .int .u8 0, .int .u8 0, .int .u8 0, .int .u8 0, .int .u8 0, .int .u8 0, .int .u8 0, .int .u8 0]⟩ := ⟨⟨Tryz.t186, by kernel_rfl, rfl, rfl, rfl, rfl⟩, Tryz.underlying186⟩
theorem tok195 : TI.ok Tryz.prog 195 ⟨.int .u64, 1, 8, .int .u64 0⟩ := ⟨⟨Tryz.t195, by kernel_rfl, rfl, rfl, rfl, rfl⟩, Tryz.underlying195⟩
theorem tok199 : TI.ok Tryz.prog 199 ⟨.pointer, 1, 8, .pointer none⟩ := ⟨⟨Tryz.t199, by kernel_rfl, rfl, rfl, rfl, rfl⟩, ⟨_, Tryz.underlying199⟩⟩
theorem tok202 : TI.ok Tryz.prog 202 ⟨.struct [(0, 22)], 1, 24, .agg #[.slice none 0 0]⟩ := ⟨⟨Tryz.t202, by kernel_rfl, rfl, rfl, rfl, rfl⟩, ⟨_, Tryz.underlying202, rfl, [(0, 1)], by kernel_rfl⟩⟩
theorem tok204 : TI.ok Tryz.prog 204 ⟨.pointer, 1, 8, .pointer none⟩ := ⟨⟨Tryz.t204, by kernel_rfl, rfl, rfl, rfl, rfl⟩, ⟨_, Tryz.underlying204⟩⟩
theorem tok206 : TI.ok Tryz.prog 206 ⟨.array 20 162, 20, 160, .agg #[.int .u64 0, .int .u64 0, .int .u64 0, .int .u64 0, .int .u64 0, .int .u64 0, .int .u64 0, .int .u64 0, .int .u64 0, .int .u64 0, .int .u64 0, .int .u64 0, .int .u64 0, .int .u64 0, .int .u64 0, .int .u64 0, .int .u64 0, .int .u64 0, .int .u64 0, .int .u64 0]⟩ := ⟨⟨Tryz.t206, by kernel_rfl, rfl, rfl, rfl, rfl⟩, Tryz.underlying206⟩
theorem tok207 : TI.ok Tryz.prog 207 ⟨.array 65 5, 65, 65, .agg #[.int .u8 0, .int .u8 0, .int .u8 0, .int .u8 0, .int .u8 0, .int .u8 0, .int .u8 0, .int .u8 0, .int .u8 0, .int .u8 0, .int .u8 0, .int .u8 0, .int .u8 0, .int .u8 0, .int .u8 0, .int .u8 0, .int .u8 0, .int .u8 0, .int .u8 0, .int .u8 0, .int .u8 0, .int .u8 0, .int .u8 0, .int .u8 0, .int .u8 0, .int .u8 0, .int .u8 0, .int .u8 0, .int .u8 0, .int .u8 0, .int .u8 0, .int .u8 0, .int .u8 0, .int .u8 0, .int .u8 0, .int .u8 0, .int .u8 0, .int .u8 0, .int .u8 0, .int .u8 0, .int .u8 0, .int .u8 0, .int .u8 0, .int .u8 0, .int .u8 0, .int .u8 0, .int .u8 0, .int .u8 0, .int .u8 0, .int .u8 0, .int .u8 0, .int .u8 0, .int .u8 0, .int .u8 0, .int .u8 0, .int .u8 0, .int .u8 0, .int .u8 0, .int .u8 0, .int .u8 0, .int .u8 0, .int .u8 0, .int .u8 0, .int .u8 0, .int .u8 0]⟩ := ⟨⟨Tryz.t207, by kernel_rfl, rfl, rfl, rfl, rfl⟩, Tryz.underlying207⟩
theorem tok221 : TI.ok Tryz.prog 221 ⟨.array 32 5, 32, 32, .agg #[.int .u8 0, .int .u8 0, .int .u8 0, .int .u8 0, .int .u8 0, .int .u8 0, .int .u8 0, .int .u8 0, .int .u8 0, .int .u8 0, .int .u8 0, .int .u8 0, .int .u8 0, .int .u8 0, .int .u8 0, .int .u8 0, .int .u8 0, .int .u8 0, .int .u8 0, .int .u8 0, .int .u8 0, .int .u8 0, .int .u8 0, .int .u8 0, .int .u8 0, .int .u8 0, .int .u8 0, .int .u8 0, .int .u8 0, .int .u8 0, .int .u8 0, .int .u8 0]⟩ := ⟨⟨Tryz.t221, by kernel_rfl, rfl, rfl, rfl, rfl⟩, Tryz.underlying221⟩
theorem tok222 : TI.ok Tryz.prog 222 ⟨.array 64 5, 64, 64, .agg #[.int .u8 0, .int .u8 0, .int .u8 0, .int .u8 0, .int .u8 0, .int .u8 0, .int .u8 0, .int .u8 0, .int .u8 0, .int .u8 0, .int .u8 0, .int .u8 0, .int .u8 0, .int .u8 0, .int .u8 0, .int .u8 0, .int .u8 0, .int .u8 0, .int .u8 0, .int .u8 0, .int .u8 0, .int .u8 0, .int .u8 0, .int .u8 0, .int .u8 0, .int .u8 0, .int .u8 0, .int .u8 0, .int .u8 0, .int .u8 0, .int .u8 0, .int .u8 0, .int .u8 0, .int .u8 0, .int .u8 0, .int .u8 0, .int .u8 0, .int .u8 0, .int .u8 0, .int .u8 0, .int .u8 0, .int .u8 0, .int .u8 0, .int .u8 0, .int .u8 0, .int .u8 0, .int .u8 0, .int .u8 0, .int .u8 0, .int .u8 0, .int .u8 0, .int .u8 0, .int .u8 0, .int .u8 0, .int .u8 0, .int .u8 0, .int .u8 0, .int .u8 0, .int .u8 0, .int .u8 0, .int .u8 0, .int .u8 0, .int .u8 0, .int .u8 0]⟩ := ⟨⟨Tryz.t222, by kernel_rfl, rfl, rfl, rfl, rfl⟩, Tryz.underlying222⟩
def tyTab : Tr := (.node (.node (.node (.node (.node (.node .nil 2 ⟨.int .i64, 1, 8, .int .i64 0⟩ .nil) 3 ⟨.int .i64, 1, 8, .int .i64 0⟩ (.node .nil 4 ⟨.bool, 1, 1, .bool false⟩ .nil)) 5 ⟨.int .u8, 1, 1, .int .u8 0⟩ (.node (.node .nil 9 ⟨.string, 1, 16, .string ⟨#[]⟩⟩ .nil) 22 ⟨.slice 3, 1, 24, .slice none 0 0⟩ .nil)) 23 ⟨.slice 45, 1, 24, .slice none 0 0⟩ (.node (.node (.node .nil 24 ⟨.slice 54, 1, 24, .slice none 0 0⟩ .nil) 26 ⟨.struct [(0, 3), (1, 3), (2, 23), (3, 24)], 4, 64, .agg #[.int .i64 0, .int .i64 0, .slice none 0 0, .slice none 0 0]⟩ .nil) 32 ⟨.int .i64, 1, 8, .int .i64 0⟩ (.node (.node .nil 38 ⟨.slice 40, 1, 24, .slice none 0 0⟩ .nil) 40 ⟨.struct [(0, 3), (1, 9), (2, 3), (3, 38)], 4, 56, .agg #[.int .i64 0, .string ⟨#[]⟩, .int .i64 0, .slice none 0 0]⟩ .nil))) 41 ⟨.slice 43, 1, 24, .slice none 0 0⟩ (.node (.node (.node (.node .nil 43 ⟨.struct [(0, 3), (1, 2), (2, 9), (3, 41)], 4, 56, .agg #[.int .i64 0, .int .i64 0, .string ⟨#[]⟩, .slice none 0 0]⟩ .nil) 45 ⟨.struct [(0, 3), (1, 3), (2, 3), (3, 3), (4, 3), (5, 9), (6, 22), (7, 40), (11, 43)], 15, 192, .agg #[.int .i64 0, .int .i64 0, .int .i64 0, .int .i64 0, .int .i64 0, .string ⟨#[]⟩, .slice none 0 0, .int .i64 0, .string ⟨#[]⟩, .int .i64 0, .slice none 0 0, .int .i64 0, .int .i64 0, .string ⟨#[]⟩, .slice none 0 0]⟩ (.node .nil 49 ⟨.slice 139, 1, 24, .slice none 0 0⟩ .nil)) 51 ⟨.struct [(0, 9), (1, 3), (2, 40), (6, 4), (7, 49)], 8, 112, .agg #[.string ⟨#[]⟩, .int .i64 0, .int .i64 0, .string ⟨#[]⟩, .int .i64 0, .slice none 0 0, .bool false, .slice none 0 0]⟩ (.node (.node .nil 53 ⟨.struct [(0, 3), (1, 51), (9, 9), (10, 40), (14, 3), (15, 26), (19, 9)], 20, 280, .agg #[.int .i64 0, .string ⟨#[]⟩, .int .i64 0, .int .i64 0, .string ⟨#[]⟩, .int .i64 0, .slice none 0 0, .bool false, .slice none 0 0, .string ⟨#[]⟩, .int .i64 0, .string ⟨#[]⟩, .int .i64 0, .slice none 0 0, .int .i64 0, .int .i64 0, .int .i64 0, .slice none 0 0, .slice none 0 0, .string ⟨#[]⟩]⟩ .nil) 54 ⟨.slice 53, 1, 24, .slice none 0 0⟩ .nil)) 55 ⟨.slice 22, 1, 24, .slice none 0 0⟩ (.node (.node (.node .nil 70 ⟨.slice 9, 1, 24, .slice none 0 0⟩ .nil) 74 ⟨.pointer, 1, 8, .pointer none⟩ .nil) 75 ⟨.slice 5, 1, 24, .slice none 0 0⟩ (.node (.node .nil 77 ⟨.struct [(0, 74), (1, 75)], 2, 32, .agg #[.pointer none, .slice none 0 0]⟩ .nil) 91 ⟨.slice 92, 1, 24, .slice none 0 0⟩ .nil)))) 92 ⟨.map 3 4, 1, 8, .map none⟩ (.node (.node (.node (.node (.node .nil 98 ⟨.func, 1, 8, .nilFunc⟩ .nil) 101 ⟨.struct [(0, 9), (1, 4), (2, 4), (3, 4), (4, 4), (5, 4), (6, 4), (7, 4), (8, 4), (9, 4), (10, 4), (11, 4)], 12, 32, .agg #[.string ⟨#[]⟩, .bool false, .bool false, .bool false, .bool false, .bool false, .bool false, .bool false, .bool false, .bool false, .bool false, .bool false]⟩ (.node .nil 122 ⟨.pointer, 1, 8, .pointer none⟩ .nil)) 131 ⟨.array 23 101, 276, 736, .agg #[.string ⟨#[]⟩, .bool false, .bool false, .bool false, .bool false, .bool false, .bool false, .bool false, .bool false, .bool false, .bool false, .bool false, .string ⟨#[]⟩, .bool false, .bool false, .bool false, .bool false, .bool false, .bool false, .bool false, .bool false, .bool false, .bool false, .bool false, .string ⟨#[]⟩, .bool false, .bool false, .bool false, .bool false, .bool false, .bool false, .bool false, .bool false, .bool false, .bool false, .bool false, .string ⟨#[]⟩, .bool false, .bool false, .bool false, .bool false, .bool false, .bool false, .bool false, .bool false, .bool false, .bool false, .bool false, .string ⟨#[]⟩, .bool false, .bool false, .bool false, .bool false, .bool false, .bool false, .bool false, .bool false, .bool false, .bool false, .bool false, .string ⟨#[]⟩, .bool false, .bool false, .bool false, .bool false, .bool false, .bool false, .bool false, .bool false, .bool false, .bool false, .bool false, .string ⟨#[]⟩, .bool false, .bool false, .bool false, .bool false, .bool false, .bool false, .bool false, .bool false, .bool false, .bool false, .bool false, .string ⟨#[]⟩, .bool false, .bool false, .bool false, .bool false, .bool false, .bool false, .bool false, .bool false, .bool false, .bool false, .bool false, .string ⟨#[]⟩, .bool false, .bool false, .bool false, .bool false, .bool false, .bool false, .bool false, .bool false, .bool false, .bool false, .bool false, .string ⟨#[]⟩, .bool false, .bool false, .bool false, .bool false, .bool false, .bool false, .bool false, .bool false, .bool false, .bool false, .bool false, .string ⟨#[]⟩, .bool false, .bool false, .bool false, .bool false, .bool false, .bool false, .bool false, .bool false, .bool false, .bool false, .bool false, .string ⟨#[]⟩, .bool false, .bool false, .bool false, .bool false, .bool false, .bool false, .bool false, .bool false, .bool false, .bool false, .bool false, .string ⟨#[]⟩, .bool false, .bool false, .bool false, .bool false, .bool false, .bool false, .bool false, .bool false, .bool false, .bool false, .bool false, .string ⟨#[]⟩, .bool false, .bool false, .bool false, .bool false, .bool false, .bool false, .bool false, .bool false, .bool false, .bool false, .bool false, .string ⟨#[]⟩, .bool false, .bool false, .bool false, .bool false, .bool false, .bool false, .bool false, .bool false, .bool false, .bool false, .bool false, .string ⟨#[]⟩, .bool false, .bool false, .bool false, .bool false, .bool false, .bool false, .bool false, .bool false, .bool false, .bool false, .bool false, .string ⟨#[]⟩, .bool false, .bool false, .bool false, .bool false, .bool false, .bool false, .bool false, .bool false, .bool false, .bool false, .bool false, .string ⟨#[]⟩, .bool false, .bool false, .bool false, .bool false, .bool false, .bool false, .bool false, .bool false, .bool false, .bool false, .bool false, .string ⟨#[]⟩, .bool false, .bool false, .bool false, .bool false, .bool false, .bool false, .bool false, .bool false, .bool false, .bool false, .bool false, .string ⟨#[]⟩, .bool false, .bool false, .bool false, .bool false, .bool false, .bool false, .bool false, .bool false, .bool false, .bool false, .bool false, .string ⟨#[]⟩, .bool false, .bool false, .bool false, .bool false, .bool false, .bool false, .bool false, .bool false, .bool false, .bool false, .bool false, .string ⟨#[]⟩, .bool false, .bool false, .bool false, .bool false, .bool false, .bool false, .bool false, .bool false, .bool false, .bool false, .bool false, .string ⟨#[]⟩, .bool false, .bool false, .bool false, .bool false, .bool false, .bool false, .bool false, .bool false, .bool false, .bool false, .bool false]⟩ (.node (.node .nil 134 ⟨.int .u64, 1, 8, .int .u64 0⟩ .nil) 139 ⟨.struct [(0, 9), (1, 40)], 5, 72, .agg #[.string ⟨#[]⟩, .int .i64 0, .string ⟨#[]⟩, .int .i64 0, .slice none 0 0]⟩ .nil)) 142 ⟨.func, 1, 8, .nilFunc⟩ (.node (.node (.node .nil 145 ⟨.struct [(0, 3), (1, 3)], 2, 16, .agg #[.int .i64 0, .int .i64 0]⟩ .nil) 146 ⟨.slice 145, 1, 24, .slice none 0 0⟩ .nil) 157 ⟨.slice 159, 1, 24, .slice none 0 0⟩ (.node (.node .nil 159 ⟨.struct [(0, 3), (1, 9), (2, 157), (3, 3)], 4, 56, .agg #[.int .i64 0, .string ⟨#[]⟩, .slice none 0 0, .int .i64 0]⟩ .nil) 162 ⟨.int .u64, 1, 8, .int .u64 0⟩ .nil))) 170 ⟨.int .i64, 1, 8, .int .i64 0⟩ (.node (.node (.node (.node .nil 178 ⟨.int .u32, 1, 4, .int .u32 0⟩ .nil) 182 ⟨.func, 1, 8, .nilFunc⟩ .nil) 186 ⟨.array 24 5, 24, 24, .agg #[.int .u8 0, .int .u8 0, .int .u8 0, .int .u8 0, .int .u8 0, .int .u8 0, .int .u8 0, .int .u8 0, .int .u8 0, .int .u8 0, .int .u8 0, .int .u8 0, .int .u8 0, .int .u8 0, .int .u8 0, .int .u8 0, .int .u8 0, .int .u8 0, .int .u8 0, .int .u8 0, .int .u8 0, .int .u8 0, .int .u8 0, .int .u8 0]⟩ (.node (.node .nil 195 ⟨.int .u64, 1, 8, .int .u64 0⟩ .nil) 199 ⟨.pointer, 1, 8, .pointer none⟩ .nil)) 202 ⟨.struct [(0, 22)], 1, 24, .agg #[.slice none 0 0]⟩ (.node (.node (.node .nil 204 ⟨.pointer, 1, 8, .pointer none⟩ .nil) 206 ⟨.array 20 162, 20, 160, .agg #[.int .u64 0, .int .u64 0, .int .u64 0, .int .u64 0, .int .u64 0, .int .u64 0, .int .u64 0, .int .u64 0, .int .u64 0, .int .u64 0, .int .u64 0, .int .u64 0, .int .u64 0, .int .u64 0, .int .u64 0, .int .u64 0, .int .u64 0, .int .u64 0, .int .u64 0, .int .u64 0]⟩ .nil) 207 ⟨.array 65 5, 65, 65, .agg #[.int .u8 0, .int .u8 0, .int .u8 0, .int .u8 0, .int .u8 0, .int .u8 0, .int .u8 0, .int .u8 0, .int .u8 0, .int .u8 0, .int .u8 0, .int .u8 0, .int .u8 0, .int .u8 0, .int .u8 0, .int .u8 0, .int .u8 0, .int .u8 0, .int .u8 0, .int .u8 0, .int .u8 0, .int .u8 0, .int .u8 0, .int .u8 0, .int .u8 0, .int .u8 0, .int .u8 0, .int .u8 0, .int .u8 0, .int .u8 0, .int .u8 0, .int .u8 0, .int .u8 0, .int .u8 0, .int .u8 0, .int .u8 0, .int .u8 0, .int .u8 0, .int .u8 0, .int .u8 0, .int .u8 0, .int .u8 0, .int .u8 0, .int .u8 0, .int .u8 0, .int .u8 0, .int .u8 0, .int .u8 0, .int .u8 0, .int .u8 0, .int .u8 0, .int .u8 0, .int .u8 0, .int .u8 0, .int .u8 0, .int .u8 0, .int .u8 0, .int .u8 0, .int .u8 0, .int .u8 0, .int .u8 0, .int .u8 0, .int .u8 0, .int .u8 0, .int .u8 0]⟩ (.node (.node .nil 221 ⟨.array 32 5, 32, 32, .agg #[.int .u8 0, .int .u8 0, .int .u8 0, .int .u8 0, .int .u8 0, .int .u8 0, .int .u8 0, .int .u8 0, .int .u8 0, .int .u8 0, .int .u8 0, .int .u8 0, .int .u8 0, .int .u8 0, .int .u8 0, .int .u8 0, .int .u8 0, .int .u8 0, .int .u8 0, .int .u8 0, .int .u8 0, .int .u8 0, .int .u8 0, .int .u8 0, .int .u8 0, .int .u8 0, .int .u8 0, .int .u8 0, .int .u8 0, .int .u8 0, .int .u8 0, .int .u8 0]⟩ .nil) 222 ⟨.array 64 5, 64, 64, .agg #[.int .u8 0, .int .u8 0, .int .u8 0, .int .u8 0, .int .u8 0, .int .u8 0, .int .u8 0, .int .u8 0, .int .u8 0, .int .u8 0, .int .u8 0, .int .u8 0, .int .u8 0, .int .u8 0, .int .u8 0, .int .u8 0, .int .u8 0, .int .u8 0, .int .u8 0, .int .u8 0, .int .u8 0, .int .u8 0, .int .u8 0, .int .u8 0, .int .u8 0, .int .u8 0, .int .u8 0, .int .u8 0, .int .u8 0, .int .u8 0, .int .u8 0, .int .u8 0, .int .u8 0, .int .u8 0, .int .u8 0, .int .u8 0, .int .u8 0, .int .u8 0, .int .u8 0, .int .u8 0, .int .u8 0, .int .u8 0, .int .u8 0, .int .u8 0, .int .u8 0, .int .u8 0, .int .u8 0, .int .u8 0, .int .u8 0, .int .u8 0, .int .u8 0, .int .u8 0, .int .u8 0, .int .u8 0, .int .u8 0, .int .u8 0, .int .u8 0, .int .u8 0, .int .u8 0, .int .u8 0, .int .u8 0, .int .u8 0, .int .u8 0, .int .u8 0]⟩ .nil)))))
theorem tyTab_ok : tyTab.All Tryz.prog := (Tr.all_node (Tr.all_node (Tr.all_node (Tr.all_node (Tr.all_node (Tr.all_node Tr.all_nil tok2 Tr.all_nil) tok3 (Tr.all_node Tr.all_nil tok4 Tr.all_nil)) tok5 (Tr.all_node (Tr.all_node Tr.all_nil tok9 Tr.all_nil) tok22 Tr.all_nil)) tok23 (Tr.all_node (Tr.all_node (Tr.all_node Tr.all_nil tok24 Tr.all_nil) tok26 Tr.all_nil) tok32 (Tr.all_node (Tr.all_node Tr.all_nil tok38 Tr.all_nil) tok40 Tr.all_nil))) tok41 (Tr.all_node (Tr.all_node (Tr.all_node (Tr.all_node Tr.all_nil tok43 Tr.all_nil) tok45 (Tr.all_node Tr.all_nil tok49 Tr.all_nil)) tok51 (Tr.all_node (Tr.all_node Tr.all_nil tok53 Tr.all_nil) tok54 Tr.all_nil)) tok55 (Tr.all_node (Tr.all_node (Tr.all_node Tr.all_nil tok70 Tr.all_nil) tok74 Tr.all_nil) tok75 (Tr.all_node (Tr.all_node Tr.all_nil tok77 Tr.all_nil) tok91 Tr.all_nil)))) tok92 (Tr.all_node (Tr.all_node (Tr.all_node (Tr.all_node (Tr.all_node Tr.all_nil tok98 Tr.all_nil) tok101 (Tr.all_node Tr.all_nil tok122 Tr.all_nil)) tok131 (Tr.all_node (Tr.all_node Tr.all_nil tok134 Tr.all_nil) tok139 Tr.all_nil)) tok142 (Tr.all_node (Tr.all_node (Tr.all_node Tr.all_nil tok145 Tr.all_nil) tok146 Tr.all_nil) tok157 (Tr.all_node (Tr.all_node Tr.all_nil tok159 Tr.all_nil) tok162 Tr.all_nil))) tok170 (Tr.all_node (Tr.all_node (Tr.all_node (Tr.all_node Tr.all_nil tok178 Tr.all_nil) tok182 Tr.all_nil) tok186 (Tr.all_node (Tr.all_node Tr.all_nil tok195 Tr.all_nil) tok199 Tr.all_nil)) tok202 (Tr.all_node (Tr.all_node (Tr.all_node Tr.all_nil tok204 Tr.all_nil) tok206 Tr.all_nil) tok207 (Tr.all_node (Tr.all_node Tr.all_nil tok221 Tr.all_nil) tok222 Tr.all_nil)))))
def efn (f : Nat) : Bool := Nat.ble 0 f && Nat.ble f 215 && !(match f with | 0 => true | 1 => true | 111 => true | 189 => true | 212 => true | _ => false)
def ety (t : Nat) : Option TI := match t with
  | 0 => none
  | t => tyTab.find t
def env (pr : Prims) : TEnv := ⟨ety, efn, pr⟩
theorem fns_ok : (List.range 216).all (fun k => !(efn (0 + k)) || fnOk Tryz.prog (0 + k)) = true := by kernel_rfl
theorem efn_range (f : Nat) (h : efn f = true) : 0 ≤ f ∧ f ≤ 215 := by
  unfold efn at h
  simp only [Bool.and_eq_true, Nat.ble_eq] at h
  exact h.1
theorem fn_ok (f : Nat) (h : efn f = true) : fnOk Tryz.prog f = true := by
  have hb := efn_range f h
  have h1 := List.all_eq_true.1 fns_ok (f - 0) (List.mem_range.2 (by omega))
  rw [show 0 + (f - 0) = f by omega] at h1
  rw [h, Bool.not_true, Bool.false_or] at h1
  exact h1
theorem env_ok : (env Prims.std).Ok Tryz.prog where
  ty t i h := by
    have h : ety t = some i := h
    unfold ety at h
    split at h
    · simp at h
    · exact Tr.find_ok tyTab_ok h
  fn f h := by
    have h1 := fn_ok f h
    unfold fnOk at h1
    split at h1
    · rename_i g hg
      simp at h1
      exact ⟨g, hg, by simp [h1.1], by simpa using h1.2⟩
    · simp at h1
  mixed := by kernel_rfl
  std := rfl

def xmoves : FuncId → Bool := fun f => match f with | 207 => true | _ => false
def xcaps : FuncId → Bool := fun f => match f with | 4000000 => true | 1000011 => true | 1000015 => true | 1000021 => true | 1000024 => true | 1000026 => true | 1000027 => true | 1000040 => true | 1000068 => true | 1000071 => true | 1000195 => true | 2000042 => true | 2000075 => true | 2000076 => true | 2000086 => true | 2000104 => true | 2000113 => true | 2000114 => true | _ => false
def ord6 : Nat → RHint := fun _ => default
def live6 : Nat → Nat := fun n => match n with | 0 => 0 | 1 => 2 | 2 => 6 | 3 => 14 | 4 => 30 | 5 => 62 | 6 => 254 | 7 => 766 | 8 => 1 | _ => 0
theorem fok6 : fnOkX Tryz.prog xmoves xcaps 6 Tryz.f6 ord6 := fnOkX_mk Tryz.func6 (by kernel_rfl)
def ord12 : Nat → RHint := fun _ => default
def live12 : Nat → Nat := fun n => match n with | 0 => 0 | 1 => 2 | 2 => 1 | _ => 0
theorem fok12 : fnOkX Tryz.prog xmoves xcaps 12 Tryz.f12 ord12 := fnOkX_mk Tryz.func12 (by kernel_rfl)
def ord13 : Nat → RHint := fun _ => default
def live13 : Nat → Nat := fun n => match n with | 0 => 2 | 1 => 4 | _ => 0
theorem fok13 : fnOkX Tryz.prog xmoves xcaps 13 Tryz.f13 ord13 := fnOkX_mk Tryz.func13 (by kernel_rfl)
def ord16 : Nat → RHint := fun _ => default
def live16 : Nat → Nat := fun n => match n with | 0 => 6 | 1 => 8198 | 2 => 16 | 3 => 16 | _ => 0
theorem fok16 : fnOkX Tryz.prog xmoves xcaps 16 Tryz.f16 ord16 := fnOkX_mk Tryz.func16 (by kernel_rfl)
def ord17 : Nat → RHint := fun n => match n with | 4 => ⟨[(0, false), (1, false), (5, false), (6, false), (2, true), (3, false), (4, false), (7, true), (8, false), (9, false)], none, [], [10]⟩ | 8 => ⟨[(0, false), (3, false), (1, true), (2, false), (4, true), (5, false), (6, false)], none, [], [7]⟩ | _ => default
def live17 : Nat → Nat := fun n => match n with | 0 => 2 | 1 => 258 | 2 => 4 | 3 => 10 | 4 => 10 | 5 => 14680072 | 6 => 31457288 | 7 => 14680120 | 8 => 14680072 | 9 => 14680072 | 10 => 4 | _ => 0
theorem fok17 : fnOkX Tryz.prog xmoves xcaps 17 Tryz.f17 ord17 := fnOkX_mk Tryz.func17 (by kernel_rfl)
def ord21 : Nat → RHint := fun _ => default
def live21 : Nat → Nat := fun n => match n with | 0 => 2 | 1 => 2097154 | 2 => 4 | 3 => 10 | 4 => 1877490722242957624872829180435341496724700098100283274460625329492637173681270245761408411049731203702734872618769510830040014131372041737509569386532117887241904300959844699137769324319635466404046613775211702424542813935648836980421603625974932396761795424304082300269676754082443695342254061823340538609531908514107639682502317669663681500314797335324943893622639668297747395498745762177028020499491750441442269164082711285254276222251984105530890643495787038835061974088337280329375413633916444796382640148613966582189470689858262573842718580303528077559712773603632935703500067952561169438356098133486564517039427396159107268796275165897559426150595849536951589067763490785316416993769747839819662724856547324922632131864922254772606755475239323370610204061202509641360345293472994640721638000761877425765953796863438657220422192125386641334314055984766186323786943900169865080654843883682635344894620210914425806918834492585431487638196081082780252276301518494881632302710172093333395720988740976057096835550749863080746440754655249087581510612392073586323748205223023085938674861596998002557757181131629264349612092483946559961088496134888998178721882995203630812827375954695021897215612858898975153639297277445444474175266343835870590702938059969357077134905684379819613000341267568632012618492570395808315383447143245938796881260027803044841450689970286565413242719284402997303612437382766580360521399647072371678262086743847196895014854614590190925113537445109771795598947173720612604679126916219977682688555907263946115046854098954 | 5 => 939524106 | 6 => 402653210 | 7 => 402653194 | 8 => 402653194 | 9 => 42 | 10 => 68719476778 | 11 => 42 | 12 => 6007970311177464399593053377393092789519040313920906478274001054376438955780064786436506915359139851848751592380062434656128045220390533560030622036902777239174093763071503037240861837822833492492949164080677447758537004594076278337349131603119783669637745357773063360862965613063819825095212997834689723550502107245144446984007416542923780801007351473039820459592446938552791665595986438966489665598373601412615261325064676112813683911206349137698850059186518524272198317082679297054001323628532623348424448475564693063006306207546440236296699456971289848191080875531625394251200217448195742202739514027157006454526167667709143260148080530872190163681906718518245085016843170513012534380063193087422920719540951439752422821967751215272341617520765834785952652995848030852353104939113582850309241602438007762451052149963003703105351014801237252269804979151251796236118220480543568258095500427784433103662784674926162582140270376273380760442227459464896807284164859183621223368672550698666866307163971123382709873762399561858388610414896797080260833959654635476235994256713673875003759557110393608184822979621213645918758695948628991875483187631644794171910025584651618601047603055024070071089961148476720491645751287825422317360852300274785890249401791901942646831698190015422761601092056219622440379176225266586609227030858387004150020032088969743492642207904917009322376701710089591371559799624853057153668478870631589370438677580311030064047534766688610960363319824351269745916630955905960334973206131903928584603378903244627568698400440362 | 13 => 2199023255658 | 14 => 234 | 15 => 490 | 16 => 2026 | 17 => 126100789566375912 | 18 => 270215977642231784 | 19 => 126100789566380008 | 20 => 18572844863275927528 | 21 => 92359821158114133992 | 22 => 18572844863275935720 | 23 => 37797504707820437645288 | 24 => 18572844863275927528 | 25 => 126100789566375912 | 26 => 67699845898419233783546216 | 27 => 145071098353755500964741480 | 28 => 67699845898419233783578984 | 29 => 67699845898419233783546216 | 30 => 67699845898419233783546216 | 31 => 0 | 32 => 40564819207303340847894502572042 | 33 => 42 | 34 => 65544 | 35 => 4543259751217974174964184288133120 | 36 => 9735556609752801803494680617353216 | 37 => 4543259751217974174964184288526336 | 38 => 4543259751217974174964184288133120 | 39 => 4543259751217974174964184288133120 | 40 => 4 | _ => 0
theorem fok21 : fnOkX Tryz.prog xmoves xcaps 21 Tryz.f21 ord21 := fnOkX_mk Tryz.func21 (by kernel_rfl)
def ord22 : Nat → RHint := fun _ => default
def live22 : Nat → Nat := fun n => match n with | 0 => 2 | 1 => 18 | 2 => 16386 | 3 => 12 | 4 => 12 | _ => 0
theorem fok22 : fnOkX Tryz.prog xmoves xcaps 22 Tryz.f22 ord22 := fnOkX_mk Tryz.func22 (by kernel_rfl)
def ord23 : Nat → RHint := fun n => match n with | 6 => ⟨[(0, false), (1, false), (2, false), (3, false), (4, false), (5, false), (6, false), (7, false), (8, false)], none, [], []⟩ | _ => default
def live23 : Nat → Nat := fun n => match n with | 0 => 3 | 1 => 1027 | 2 => 16 | 3 => 35 | 4 => 16419 | 5 => 35 | 6 => 33554467 | 7 => 16 | 8 => 16 | _ => 0
theorem fok23 : fnOkX Tryz.prog xmoves xcaps 23 Tryz.f23 ord23 := fnOkX_mk Tryz.func23 (by kernel_rfl)
def ord24 : Nat → RHint := fun _ => default
def live24 : Nat → Nat := fun n => match n with | 0 => 2 | 1 => 10 | 2 => 42 | 3 => 8234 | 4 => 42 | 5 => 2147483682 | 6 => 34 | 7 => 32 | 8 => 32 | 9 => 4 | _ => 0
theorem fok24 : fnOkX Tryz.prog xmoves xcaps 24 Tryz.f24 ord24 := fnOkX_mk Tryz.func24 (by kernel_rfl)
def ord38 : Nat → RHint := fun _ => default
def live38 : Nat → Nat := fun n => match n with | 0 => 6 | 1 => 16390 | 2 => 16 | 3 => 17179869190 | 4 => 16 | 5 => 1008806316530991110 | 6 => 2161727821137838086 | 7 => 1008806316530991174 | 8 => 74795782611369197574 | 9 => 16 | 10 => 1008806316530991110 | 11 => 134 | 12 => 154742504910672534362390534 | 13 => 16 | 14 => 4332790137498830962146934786 | 15 => 9284550294640352061743431682 | 16 => 4332790137498830962146935810 | 17 => 281631358937424012539550760962 | 18 => 598544008994481362913726562306 | 19 => 281631358937424012539550765058 | 20 => 281631358937424012539550769154 | 21 => 40846450566240764860434053341186 | 22 => 16 | 23 => 281631358937424012539550760962 | 24 => 4332790137498830962146934786 | 25 => 16 | _ => 0
theorem fok38 : fnOkX Tryz.prog xmoves xcaps 38 Tryz.f38 ord38 := fnOkX_mk Tryz.func38 (by kernel_rfl)
def ord40 : Nat → RHint := fun _ => default
def live40 : Nat → Nat := fun n => match n with | 0 => 6 | 1 => 38 | 2 => 102 | 3 => 358 | 4 => 1073742178 | 5 => 352 | 6 => 4398046511392 | 7 => 256 | 8 => 256 | 9 => 16 | _ => 0
theorem fok40 : fnOkX Tryz.prog xmoves xcaps 40 Tryz.f40 ord40 := fnOkX_mk Tryz.func40 (by kernel_rfl)
def ord41 : Nat → RHint := fun _ => default
def live41 : Nat → Nat := fun n => match n with | 0 => 3 | 1 => 3 | 2 => 2 | 3 => 48 | _ => 0
theorem fok41 : fnOkX Tryz.prog xmoves xcaps 41 Tryz.f41 ord41 := fnOkX_mk Tryz.func41 (by kernel_rfl)
def ord42 : Nat → RHint := fun _ => default
def live42 : Nat → Nat := fun n => match n with | 0 => 1 | 1 => 4 | _ => 0
theorem fok42 : fnOkX Tryz.prog xmoves xcaps 42 Tryz.f42 ord42 := fnOkX_mk Tryz.func42 (by kernel_rfl)
def ord43 : Nat → RHint := fun n => match n with | 7 => ⟨[(0, false), (1, false), (2, false), (3, false), (4, false), (5, false), (6, false), (7, true)], none, [0], [8]⟩ | 14 => ⟨[(0, false), (1, false), (2, false), (3, true), (4, false), (5, true)], none, [0], [6]⟩ | 16 => ⟨[(0, false), (1, false), (2, false), (3, true), (4, false), (5, true)], none, [0], [6]⟩ | 18 => ⟨[(0, false), (1, false), (2, false), (3, true), (4, false), (5, true)], none, [0], [6]⟩ | _ => default
def live43 : Nat → Nat := fun n => match n with | 0 => 2 | 1 => 10 | 2 => 42 | 3 => 106 | 4 => 106 | 5 => 234 | 6 => 268435690 | 7 => 106 | 8 => 234 | 9 => 234 | 10 => 140737488355562 | 11 => 234 | 12 => 106 | 13 => 590295810358705651818 | 14 => 106 | 15 => 151115727451828646838378 | 16 => 106 | 17 => 38685626227668133590597730 | 18 => 98 | 19 => 69324642199981295394350956640 | 20 => 148552804714245632987894906976 | 21 => 69324642199981295394350957152 | 22 => 69324642199981295394350956640 | 23 => 69324642199981295394350956640 | 24 => 4 | _ => 0
theorem fok43 : fnOkX Tryz.prog xmoves xcaps 43 Tryz.f43 ord43 := fnOkX_mk Tryz.func43 (by kernel_rfl)
def ord44 : Nat → RHint := fun n => match n with | 1 => ⟨[], none, [], [1000000]⟩ | _ => default
def live44 : Nat → Nat := fun n => match n with | 0 => 1 | 1 => 4 | _ => 0
theorem fok44 : fnOkX Tryz.prog xmoves xcaps 44 Tryz.f44 ord44 := fnOkX_mk Tryz.func44 (by kernel_rfl)
def ord55 : Nat → RHint := fun _ => default
def live55 : Nat → Nat := fun n => match n with | 0 => 2 | 1 => 4 | _ => 0
theorem fok55 : fnOkX Tryz.prog xmoves xcaps 55 Tryz.f55 ord55 := fnOkX_mk Tryz.func55 (by kernel_rfl)
def ord56 : Nat → RHint := fun _ => default
def live56 : Nat → Nat := fun n => match n with | 0 => 1 | 1 => 8 | 2 => 8 | 3 => 4 | _ => 0
theorem fok56 : fnOkX Tryz.prog xmoves xcaps 56 Tryz.f56 ord56 := fnOkX_mk Tryz.func56 (by kernel_rfl)
def ord57 : Nat → RHint := fun _ => default
def live57 : Nat → Nat := fun n => match n with | 0 => 2 | 1 => 4 | _ => 0
theorem fok57 : fnOkX Tryz.prog xmoves xcaps 57 Tryz.f57 ord57 := fnOkX_mk Tryz.func57 (by kernel_rfl)
def ord58 : Nat → RHint := fun _ => default
def live58 : Nat → Nat := fun n => match n with | 0 => 5 | 1 => 21 | 2 => 8589934613 | 3 => 12 | 4 => 12 | _ => 0
theorem fok58 : fnOkX Tryz.prog xmoves xcaps 58 Tryz.f58 ord58 := fnOkX_mk Tryz.func58 (by kernel_rfl)
def ord59 : Nat → RHint := fun _ => default
def live59 : Nat → Nat := fun n => match n with | 0 => 5 | 1 => 0 | _ => 0
theorem fok59 : fnOkX Tryz.prog xmoves xcaps 59 Tryz.f59 ord59 := fnOkX_mk Tryz.func59 (by kernel_rfl)
def ord60 : Nat → RHint := fun n => match n with | 6 => ⟨[(0, false), (1, false), (2, false), (3, false), (4, false), (5, false), (6, false), (7, false), (8, false), (9, false)], none, [], []⟩ | 11 => ⟨[(0, false), (1, false), (2, false), (3, false), (4, false), (5, false), (6, false), (7, false), (8, false), (9, false)], none, [], []⟩ | _ => default
def live60 : Nat → Nat := fun n => match n with | 0 => 1 | 1 => 257 | 2 => 4 | 3 => 9 | 4 => 8201 | 5 => 9 | 6 => 33554441 | 7 => 25 | 8 => 57 | 9 => 4294967353 | 10 => 57 | 11 => 17592186044473 | 12 => 57 | 13 => 57 | 14 => 9 | 15 => 4 | 16 => 4 | _ => 0
theorem fok60 : fnOkX Tryz.prog xmoves xcaps 60 Tryz.f60 ord60 := fnOkX_mk Tryz.func60 (by kernel_rfl)
def ord67 : Nat → RHint := fun _ => default
def live67 : Nat → Nat := fun n => match n with | 0 => 12 | 1 => 108 | 2 => 8232 | 3 => 16 | 4 => 536870952 | 5 => 16 | 6 => 281474976710696 | 7 => 16 | 8 => 16 | _ => 0
theorem fok67 : fnOkX Tryz.prog xmoves xcaps 67 Tryz.f67 ord67 := fnOkX_mk Tryz.func67 (by kernel_rfl)
def ord68 : Nat → RHint := fun n => match n with | 8 => ⟨[(0, false), (1, false), (2, false), (3, false), (4, false), (5, false), (6, false), (7, false), (8, false), (13, false), (9, true), (10, false), (11, false), (12, false)], some 13, [], [14, 15]⟩ | 13 => ⟨[(0, false), (1, false), (2, false), (3, false), (4, false)], none, [], [5, 6]⟩ | _ => default
def live68 : Nat → Nat := fun n => match n with | 0 => 2 | 1 => 10 | 2 => 393226 | 3 => 917514 | 4 => 393242 | 5 => 6007970311177464399593053377393092789519040313920906478274001054376438955780064786436506915359139851848751592380062434656128045220390533560030622036902777239174093763071503037240861837822833492492949164080677447758537004594076278337349131603119783669637745357773063360862965613063819825095212997834689723550502107245144446984007416542923780801007351473039820459592446938552791665595986438966489665598373601412615261325064676112813683911206349137698850059186518524272198317082679297054001323628532623348424448475564693063006306207546440236296699456971289848191080875531625394251200217448195742202739514027157006454526167667709143260148080530872190163681906718518245085016843170513012534380063193087422920719540951439752422821967751215272341617520765834785952652995848030852353104939113582850309241602438007762451052149963003703105351014801237252269804979151251796236118220480543568258095500427784433103662784674926162582140270376273380760442227459464896807284164859183621223368672550698666866307163971123382709873762399561858388610414896797080260833959654635476235994256713673875003759557110393608184822979621213645918758695948628991875483187631644794171910025584651618601047603055024070071089961148476720491645751287825422317360852300274785890249401791901942646831698190015422761601092056219622440379176225266586609227030858387004150020032088969743492642207904917009322376701710089591371559799624853057153668478870631589370438677580311030064047534766688610960363319824351269745916630955905960334973206131903928584603378903244627568148645019690 | 6 => 67502122 | 7 => 393322 | 8 => 393450 | 9 => 9223372036855169130 | 10 => 393258 | 11 => 393258 | 12 => 393322 | 13 => 393834 | 14 => 9903520314283042199193387626 | 15 => 393258 | 16 => 393258 | 17 => 394346 | 18 => 394282 | 19 => 10633823966279326983230456482243150890 | 20 => 4 | 21 => 340282366920938463463374607431768605738 | 22 => 393258 | 23 => 393226 | 24 => 4 | _ => 0
theorem fok68 : fnOkX Tryz.prog xmoves xcaps 68 Tryz.f68 ord68 := fnOkX_mk Tryz.func68 (by kernel_rfl)
def ord69 : Nat → RHint := fun _ => default
def live69 : Nat → Nat := fun n => match n with | 0 => 6 | 1 => 38 | 2 => 16 | 3 => 16390 | 4 => 16 | 5 => 16777222 | 6 => 16 | 7 => 16 | _ => 0
theorem fok69 : fnOkX Tryz.prog xmoves xcaps 69 Tryz.f69 ord69 := fnOkX_mk Tryz.func69 (by kernel_rfl)
def ord72 : Nat → RHint := fun _ => default
def live72 : Nat → Nat := fun n => match n with | 0 => 65 | 1 => 0 | 2 => 524288 | _ => 0
theorem fok72 : fnOkX Tryz.prog xmoves xcaps 72 Tryz.f72 ord72 := fnOkX_mk Tryz.func72 (by kernel_rfl)
def ord73 : Nat → RHint := fun _ => default
def live73 : Nat → Nat := fun n => match n with | 0 => 1 | 1 => 4 | _ => 0
theorem fok73 : fnOkX Tryz.prog xmoves xcaps 73 Tryz.f73 ord73 := fnOkX_mk Tryz.func73 (by kernel_rfl)
def ord74 : Nat → RHint := fun n => match n with | 1 => ⟨[(0, false), (1, false), (2, true), (3, false), (4, false), (5, true)], none, [0], [6]⟩ | _ => default
def live74 : Nat → Nat := fun n => match n with | 0 => 38 | 1 => 0 | _ => 0
theorem fok74 : fnOkX Tryz.prog xmoves xcaps 74 Tryz.f74 ord74 := fnOkX_mk Tryz.func74 (by kernel_rfl)
def ord75 : Nat → RHint := fun _ => default
def live75 : Nat → Nat := fun n => match n with | 0 => 2 | 1 => 2 | 2 => 130 | 3 => 2050 | 4 => 4 | 5 => 10 | 6 => 65666 | 7 => 4 | 8 => 262274 | 9 => 4 | 10 => 1048706 | 11 => 4 | 12 => 67108994 | 13 => 10 | 14 => 268435586 | 15 => 10 | 16 => 1073741826 | 17 => 10 | 18 => 60129542152 | 19 => 128849018888 | 20 => 60129542184 | 21 => 60129542152 | 22 => 60129542152 | 23 => 4 | _ => 0
theorem fok75 : fnOkX Tryz.prog xmoves xcaps 75 Tryz.f75 ord75 := fnOkX_mk Tryz.func75 (by kernel_rfl)
def ord76 : Nat → RHint := fun _ => default
def live76 : Nat → Nat := fun n => match n with | 0 => 2 | 1 => 66 | 2 => 194 | 3 => 4 | 4 => 4162 | 5 => 4 | 6 => 262146 | 7 => 8 | 8 => 4 | 9 => 4 | _ => 0
theorem fok76 : fnOkX Tryz.prog xmoves xcaps 76 Tryz.f76 ord76 := fnOkX_mk Tryz.func76 (by kernel_rfl)
def ord77 : Nat → RHint := fun _ => default
def live77 : Nat → Nat := fun n => match n with | 0 => 3 | 1 => 4099 | 2 => 12291 | 3 => 16 | 4 => 32771 | 5 => 16 | 6 => 35 | 7 => 4194339 | 8 => 536870947 | 9 => 35 | 10 => 35 | 11 => 3848290697251 | 12 => 8246337208355 | 13 => 3848290697379 | 14 => 566798244118691 | 15 => 3848290697379 | 16 => 3848290697251 | 17 => 3848290697251 | 18 => 291 | 19 => 259 | 20 => 259 | 21 => 64563604257983430914 | 22 => 138350580552821637378 | 23 => 64563604257983431938 | 24 => 64563604257983431938 | 25 => 64563604257983430914 | 26 => 64563604257983430914 | 27 => 16 | _ => 0
theorem fok77 : fnOkX Tryz.prog xmoves xcaps 77 Tryz.f77 ord77 := fnOkX_mk Tryz.func77 (by kernel_rfl)
def ord82 : Nat → RHint := fun _ => default
def live82 : Nat → Nat := fun n => match n with | 0 => 12 | 1 => 16 | _ => 0
theorem fok82 : fnOkX Tryz.prog xmoves xcaps 82 Tryz.f82 ord82 := fnOkX_mk Tryz.func82 (by kernel_rfl)
def ord89 : Nat → RHint := fun _ => default
def live89 : Nat → Nat := fun n => match n with | 0 => 11 | 1 => 267 | 2 => 11 | 3 => 262155 | _ => 0
theorem fok89 : fnOkX Tryz.prog xmoves xcaps 89 Tryz.f89 ord89 := fnOkX_mk Tryz.func89 (by kernel_rfl)
def ord90 : Nat → RHint := fun _ => default
def live90 : Nat → Nat := fun n => match n with | 0 => 1 | 1 => 4 | _ => 0
theorem fok90 : fnOkX Tryz.prog xmoves xcaps 90 Tryz.f90 ord90 := fnOkX_mk Tryz.func90 (by kernel_rfl)
def ord91 : Nat → RHint := fun _ => default
def live91 : Nat → Nat := fun n => match n with | 0 => 33 | 1 => 161 | 2 => 41 | 3 => 8225 | _ => 0
theorem fok91 : fnOkX Tryz.prog xmoves xcaps 91 Tryz.f91 ord91 := fnOkX_mk Tryz.func91 (by kernel_rfl)
def ord92 : Nat → RHint := fun n => match n with | 17 => ⟨[(0, false), (1, false), (2, false), (3, false), (4, false), (5, false), (6, false), (7, false), (8, false), (9, false), (10, false), (11, false)], none, [], [12, 13, 14]⟩ | _ => default
def live92 : Nat → Nat := fun n => match n with | 0 => 271 | 1 => 783 | 2 => 1807 | 3 => 8390415 | 4 => 0 | 5 => 536872719 | 6 => 0 | 7 => 34359740175 | 8 => 1807 | 9 => 1807 | 10 => 7951 | 11 => 1125899906850575 | 12 => 3855 | 13 => 3855 | 14 => 7951 | 15 => 295147905179352829711 | 16 => 4722366482869645217551 | 17 => 154742504910672534362394383 | 18 => 8973 | 19 => 783 | 20 => 50191 | 21 => 17935 | 22 => 214543 | 23 => 475663 | 24 => 10384593717069655257060992658915855 | 25 => 17167 | 26 => 17165 | 27 => 783 | 28 => 17167 | 29 => 17163 | 30 => 783 | _ => 0
theorem fok92 : fnOkX Tryz.prog xmoves xcaps 92 Tryz.f92 ord92 := fnOkX_mk Tryz.func92 (by kernel_rfl)
def ord93 : Nat → RHint := fun _ => default
def live93 : Nat → Nat := fun n => match n with | 0 => 1 | 1 => 4 | 2 => 4 | _ => 0
theorem fok93 : fnOkX Tryz.prog xmoves xcaps 93 Tryz.f93 ord93 := fnOkX_mk Tryz.func93 (by kernel_rfl)
def ord97 : Nat → RHint := fun _ => default
def live97 : Nat → Nat := fun n => match n with | 0 => 56 | 1 => 176 | 2 => 57520 | 3 => 123056 | 4 => 58032 | 5 => 16834736 | 6 => 64 | 7 => 57520 | 8 => 1200 | 9 => 64 | _ => 0
theorem fok97 : fnOkX Tryz.prog xmoves xcaps 97 Tryz.f97 ord97 := fnOkX_mk Tryz.func97 (by kernel_rfl)
def ord98 : Nat → RHint := fun _ => default
def live98 : Nat → Nat := fun n => match n with | 0 => 12 | 1 => 76 | 2 => 204 | 3 => 204 | 4 => 16 | 5 => 2097228 | 6 => 16 | 7 => 2147483724 | 8 => 16 | 9 => 2199023255628 | 10 => 16 | 11 => 18014398509482056 | 12 => 18014398509481992 | 13 => 16 | 14 => 16 | _ => 0
theorem fok98 : fnOkX Tryz.prog xmoves xcaps 98 Tryz.f98 ord98 := fnOkX_mk Tryz.func98 (by kernel_rfl)
def ord99 : Nat → RHint := fun _ => default
def live99 : Nat → Nat := fun n => match n with | 0 => 1 | 1 => 4 | _ => 0
theorem fok99 : fnOkX Tryz.prog xmoves xcaps 99 Tryz.f99 ord99 := fnOkX_mk Tryz.func99 (by kernel_rfl)
def ord100 : Nat → RHint := fun _ => default
def live100 : Nat → Nat := fun n => match n with | 0 => 2 | 1 => 4 | _ => 0
theorem fok100 : fnOkX Tryz.prog xmoves xcaps 100 Tryz.f100 ord100 := fnOkX_mk Tryz.func100 (by kernel_rfl)
def ord101 : Nat → RHint := fun _ => default
def live101 : Nat → Nat := fun n => match n with | 0 => 2 | 1 => 4 | _ => 0
theorem fok101 : fnOkX Tryz.prog xmoves xcaps 101 Tryz.f101 ord101 := fnOkX_mk Tryz.func101 (by kernel_rfl)
def ord102 : Nat → RHint := fun _ => default
def live102 : Nat → Nat := fun n => match n with | 0 => 2 | 1 => 131074 | 2 => 4 | 3 => 524290 | 4 => 1572866 | 5 => 4 | 6 => 34078722 | 7 => 4 | 8 => 134742018 | 9 => 4 | 10 => 137438953474 | 11 => 10 | 12 => 8796093022218 | 13 => 10 | 14 => 2251799813685258 | 15 => 4 | 16 => 4 | 17 => 4 | _ => 0
theorem fok102 : fnOkX Tryz.prog xmoves xcaps 102 Tryz.f102 ord102 := fnOkX_mk Tryz.func102 (by kernel_rfl)
def ord103 : Nat → RHint := fun _ => default
def live103 : Nat → Nat := fun n => match n with | 0 => 2 | 1 => 4 | _ => 0
theorem fok103 : fnOkX Tryz.prog xmoves xcaps 103 Tryz.f103 ord103 := fnOkX_mk Tryz.func103 (by kernel_rfl)
def ord112 : Nat → RHint := fun _ => default
def live112 : Nat → Nat := fun n => match n with | 0 => 3 | 1 => 2051 | 2 => 131073 | 3 => 16 | 4 => 33 | 5 => 97 | 6 => 8388705 | 7 => 97 | 8 => 225 | 9 => 161 | 10 => 17179869344 | 11 => 160 | 12 => 16 | 13 => 16 | 14 => 512 | 15 => 16 | _ => 0
theorem fok112 : fnOkX Tryz.prog xmoves xcaps 112 Tryz.f112 ord112 := fnOkX_mk Tryz.func112 (by kernel_rfl)
def ord113 : Nat → RHint := fun _ => default
def live113 : Nat → Nat := fun n => match n with | 0 => 3 | 1 => 16 | _ => 0
theorem fok113 : fnOkX Tryz.prog xmoves xcaps 113 Tryz.f113 ord113 := fnOkX_mk Tryz.func113 (by kernel_rfl)
def ord114 : Nat → RHint := fun _ => default
def live114 : Nat → Nat := fun n => match n with | 0 => 1 | 1 => 4 | _ => 0
theorem fok114 : fnOkX Tryz.prog xmoves xcaps 114 Tryz.f114 ord114 := fnOkX_mk Tryz.func114 (by kernel_rfl)
def ord115 : Nat → RHint := fun _ => default
def live115 : Nat → Nat := fun n => match n with | 0 => 2 | 1 => 130 | 2 => 12 | 3 => 18 | 4 => 16 | 5 => 12 | _ => 0
theorem fok115 : fnOkX Tryz.prog xmoves xcaps 115 Tryz.f115 ord115 := fnOkX_mk Tryz.func115 (by kernel_rfl)
def ord116 : Nat → RHint := fun n => match n with | 3 => ⟨[], some 999999, [], []⟩ | _ => default
def live116 : Nat → Nat := fun n => match n with | 0 => 3 | 1 => 131 | 2 => 3 | 3 => 2097155 | 4 => 0 | _ => 0
theorem fok116 : fnOkX Tryz.prog xmoves xcaps 116 Tryz.f116 ord116 := fnOkX_mk Tryz.func116 (by kernel_rfl)
def ord119 : Nat → RHint := fun n => match n with | 1 => ⟨[(0, false), (1, false), (2, false), (3, false), (5, false), (6, false), (7, false), (8, false), (10, false), (11, false), (12, false), (13, false), (15, false), (16, false), (17, false), (18, false), (19, false), (20, false), (4, true), (9, true), (14, true)], none, [], [21, 22, 23, 24]⟩ | 5 => ⟨[(0, false), (1, false), (2, false), (3, false), (4, false), (5, false), (6, false), (7, false), (8, false), (9, false)], none, [], [10, 11]⟩ | _ => default
def live119 : Nat → Nat := fun n => match n with | 0 => 12 | 1 => 44 | 2 => 108 | 3 => 549755813996 | 4 => 108 | 5 => 108 | 6 => 16 | _ => 0
theorem fok119 : fnOkX Tryz.prog xmoves xcaps 119 Tryz.f119 ord119 := fnOkX_mk Tryz.func119 (by kernel_rfl)
def ord125 : Nat → RHint := fun _ => default
def live125 : Nat → Nat := fun n => match n with | 0 => 6 | 1 => 68 | 2 => 36 | 3 => 0 | 4 => 16 | _ => 0
theorem fok125 : fnOkX Tryz.prog xmoves xcaps 125 Tryz.f125 ord125 := fnOkX_mk Tryz.func125 (by kernel_rfl)
def ord126 : Nat → RHint := fun n => match n with | 4 => ⟨[(0, false), (1, false), (2, false), (3, false), (4, false), (5, false), (6, false), (7, false), (8, false), (9, false), (10, false), (11, false), (12, false)], none, [], [13, 14]⟩ | 6 => ⟨[], some 999999, [], []⟩ | _ => default
def live126 : Nat → Nat := fun n => match n with | 0 => 71 | 1 => 4167 | 2 => 71 | 3 => 199 | 4 => 1073742023 | 5 => 199 | 6 => 199 | _ => 0
theorem fok126 : fnOkX Tryz.prog xmoves xcaps 126 Tryz.f126 ord126 := fnOkX_mk Tryz.func126 (by kernel_rfl)
def ord127 : Nat → RHint := fun n => match n with | 10 => ⟨[], some 999999, [], []⟩ | _ => default
def live127 : Nat → Nat := fun n => match n with | 0 => 71 | 1 => 199 | 2 => 449 | 3 => 961 | 4 => 525249 | 5 => 961 | 6 => 961 | 7 => 1217 | 8 => 1073743041 | 9 => 1217 | 10 => 1217 | 11 => 1217 | _ => 0
theorem fok127 : fnOkX Tryz.prog xmoves xcaps 127 Tryz.f127 ord127 := fnOkX_mk Tryz.func127 (by kernel_rfl)
def ord128 : Nat → RHint := fun n => match n with | 10 => ⟨[], some 999999, [], []⟩ | _ => default
def live128 : Nat → Nat := fun n => match n with | 0 => 67 | 1 => 32835 | 2 => 195 | 3 => 451 | 4 => 963 | 5 => 8589935555 | 6 => 963 | 7 => 1987 | 8 => 8796093024195 | 9 => 1987 | 10 => 963 | _ => 0
theorem fok128 : fnOkX Tryz.prog xmoves xcaps 128 Tryz.f128 ord128 := fnOkX_mk Tryz.func128 (by kernel_rfl)
def ord129 : Nat → RHint := fun _ => default
def live129 : Nat → Nat := fun n => match n with | 0 => 7 | 1 => 259 | 2 => 771 | 3 => 1795 | 4 => 3843 | 5 => 7937 | 6 => 4294975233 | 7 => 17179876865 | 8 => 7681 | 9 => 7681 | 10 => 7681 | 11 => 2560 | 12 => 562949953423360 | 13 => 192 | 14 => 2814749767108608 | 15 => 192 | 16 => 18014398509484032 | 17 => 192 | _ => 0
theorem fok129 : fnOkX Tryz.prog xmoves xcaps 129 Tryz.f129 ord129 := fnOkX_mk Tryz.func129 (by kernel_rfl)
def ord130 : Nat → RHint := fun n => match n with | 3 => ⟨[(0, false), (1, false), (2, false), (3, false), (4, false), (5, false), (6, false), (7, false), (8, false), (9, false), (10, false), (11, false), (12, false), (13, true), (14, false), (15, true)], none, [], []⟩ | _ => default
def live130 : Nat → Nat := fun n => match n with | 0 => 69 | 1 => 193 | 2 => 8385 | 3 => 193 | 4 => 193 | 5 => 193 | _ => 0
theorem fok130 : fnOkX Tryz.prog xmoves xcaps 130 Tryz.f130 ord130 := fnOkX_mk Tryz.func130 (by kernel_rfl)
def ord131 : Nat → RHint := fun n => match n with | 5 => ⟨[(0, false), (1, false), (2, false), (3, false), (4, false), (5, false), (6, false), (7, false), (8, false), (9, false), (10, false), (11, false), (12, false)], none, [], [13, 14, 15]⟩ | 11 => ⟨[], some 999999, [], []⟩ | 16 => ⟨[(0, false), (1, false), (2, false), (3, false), (4, false), (5, false), (6, false), (7, false), (8, false)], none, [], [9, 10]⟩ | 17 => ⟨[], some 999999, [], []⟩ | 22 => ⟨[(0, false), (1, false), (2, false), (3, false), (4, false), (5, false), (6, false), (7, false), (8, false)], none, [], [9, 10]⟩ | 23 => ⟨[], some 999999, [], []⟩ | _ => default
def live131 : Nat → Nat := fun n => match n with | 0 => 7 | 1 => 135 | 2 => 391 | 3 => 16775 | 4 => 391 | 5 => 4294967687 | 6 => 391 | 7 => 137438953863 | 8 => 64 | 9 => 2199023255943 | 10 => 64 | 11 => 391 | 12 => 2305843009213694343 | 13 => 903 | 14 => 36893488147419104135 | 15 => 903 | 16 => 302231454903657293677447 | 17 => 903 | 18 => 316912650057057350374175801735 | 19 => 1415 | 20 => 10141204801825835211973625644423 | 21 => 1415 | 22 => 83076749736557242056487941267522951 | 23 => 1415 | 24 => 64 | _ => 0
theorem fok131 : fnOkX Tryz.prog xmoves xcaps 131 Tryz.f131 ord131 := fnOkX_mk Tryz.func131 (by kernel_rfl)
def ord132 : Nat → RHint := fun _ => default
def live132 : Nat → Nat := fun n => match n with | 0 => 3 | 1 => 16 | _ => 0
theorem fok132 : fnOkX Tryz.prog xmoves xcaps 132 Tryz.f132 ord132 := fnOkX_mk Tryz.func132 (by kernel_rfl)
def ord133 : Nat → RHint := fun n => match n with | 1 => ⟨[(0, false), (1, false), (2, false), (3, false), (4, false), (5, false), (6, false), (7, false), (8, false), (9, false), (10, false), (11, false), (12, false), (13, true), (14, false), (15, true)], none, [], []⟩ | 3 => ⟨[(0, false), (1, false), (2, false), (3, false), (4, false), (5, false), (6, false), (7, false), (8, false), (9, false), (10, false), (11, false)], none, [], [12, 13, 14]⟩ | 5 => ⟨[(0, false), (1, false), (2, false), (3, false), (4, false), (5, false), (6, false), (7, false), (8, false), (9, false), (10, false), (11, false)], none, [], [12, 13]⟩ | 8 => ⟨[(0, false), (1, false), (2, false), (3, false), (4, false), (5, false), (6, false), (7, false), (8, false), (9, false), (10, false), (11, false), (12, false), (13, true), (14, false), (15, true)], none, [], []⟩ | _ => default
def live133 : Nat → Nat := fun n => match n with | 0 => 15 | 1 => 7 | 2 => 1539 | 3 => 8796093023747 | 4 => 1539 | 5 => 576460752303425027 | 6 => 1539 | 7 => 18446744073709553155 | 8 => 1539 | 9 => 1539 | 10 => 1539 | 11 => 256 | _ => 0
theorem fok133 : fnOkX Tryz.prog xmoves xcaps 133 Tryz.f133 ord133 := fnOkX_mk Tryz.func133 (by kernel_rfl)
def ord134 : Nat → RHint := fun n => match n with | 1 => ⟨[(0, false), (1, false), (2, false), (3, false), (4, false), (5, false), (6, false), (7, false), (8, false), (9, false), (10, false), (11, false), (12, false), (13, true), (14, false), (15, true)], none, [], []⟩ | 3 => ⟨[(0, false), (1, false), (2, false), (3, false), (4, false), (5, false), (6, false), (7, false), (8, false), (9, false), (10, false), (11, false)], none, [], [12, 13]⟩ | 5 => ⟨[(0, false), (1, false), (2, false), (3, false), (4, false), (5, false), (6, false), (7, false), (8, false), (9, false), (10, false), (11, false)], none, [], [12, 13, 14]⟩ | 8 => ⟨[(0, false), (1, false), (2, false), (3, false), (4, false), (5, false), (6, false), (7, false), (8, false), (9, false), (10, false), (11, false), (12, false), (13, true), (14, false), (15, true)], none, [], []⟩ | 10 => ⟨[(0, false), (1, false), (2, false), (3, false), (4, false), (5, false), (6, false), (7, false), (8, false), (9, false), (10, false), (11, false), (12, false), (13, true), (14, false), (15, true)], none, [], []⟩ | 13 => ⟨[(0, false), (1, false), (2, false), (3, false), (4, false), (5, false), (6, false), (7, false), (8, false), (9, false), (10, false), (11, false)], none, [], [12, 13]⟩ | 15 => ⟨[(0, false), (1, false), (2, false), (3, false), (4, false), (5, false), (6, false), (7, false), (8, false), (9, false), (10, false), (11, false)], none, [], [12, 13, 14]⟩ | 18 => ⟨[(0, false), (1, false), (2, false), (3, false), (4, false), (5, false), (6, false), (7, false), (8, false), (9, false), (10, false), (11, false), (12, false), (13, true), (14, false), (15, true)], none, [], []⟩ | 21 => ⟨[(0, false), (1, false), (2, false), (3, false), (4, false), (5, false), (6, false), (7, false), (8, false), (9, false), (10, false), (11, false), (12, false), (13, true), (14, false), (15, true)], none, [], []⟩ | _ => default
def live134 : Nat → Nat := fun n => match n with | 0 => 15 | 1 => 7 | 2 => 3075 | 3 => 8796093025283 | 4 => 3075 | 5 => 1152921504606850051 | 6 => 3075 | 7 => 36893488147419106307 | 8 => 2048 | 9 => 768 | 10 => 3075 | 11 => 3075 | 12 => 3075 | 13 => 5192296858534827628530496329223171 | 14 => 3075 | 15 => 680564733841876926926749214863536425987 | 16 => 3075 | 17 => 21778071482940061661655974875633165536259 | 18 => 3075 | 19 => 3075 | 20 => 3075 | 21 => 2048 | 22 => 768 | _ => 0
theorem fok134 : fnOkX Tryz.prog xmoves xcaps 134 Tryz.f134 ord134 := fnOkX_mk Tryz.func134 (by kernel_rfl)
def ord135 : Nat → RHint := fun _ => default
def live135 : Nat → Nat := fun n => match n with | 0 => 5 | 1 => 21 | 2 => 1 | 3 => 5 | 4 => 261 | 5 => 5 | 6 => 5 | 7 => 4 | _ => 0
theorem fok135 : fnOkX Tryz.prog xmoves xcaps 135 Tryz.f135 ord135 := fnOkX_mk Tryz.func135 (by kernel_rfl)
def ord136 : Nat → RHint := fun _ => default
def live136 : Nat → Nat := fun n => match n with | 0 => 5 | 1 => 21 | 2 => 1 | 3 => 5 | 4 => 261 | 5 => 5 | 6 => 5 | 7 => 16389 | 8 => 5 | 9 => 5 | 10 => 4 | _ => 0
theorem fok136 : fnOkX Tryz.prog xmoves xcaps 136 Tryz.f136 ord136 := fnOkX_mk Tryz.func136 (by kernel_rfl)
def ord141 : Nat → RHint := fun _ => default
def live141 : Nat → Nat := fun n => match n with | 0 => 7 | 1 => 32 | _ => 0
theorem fok141 : fnOkX Tryz.prog xmoves xcaps 141 Tryz.f141 ord141 := fnOkX_mk Tryz.func141 (by kernel_rfl)
def ord142 : Nat → RHint := fun _ => default
def live142 : Nat → Nat := fun n => match n with | 0 => 1 | 1 => 4 | _ => 0
theorem fok142 : fnOkX Tryz.prog xmoves xcaps 142 Tryz.f142 ord142 := fnOkX_mk Tryz.func142 (by kernel_rfl)
def ord143 : Nat → RHint := fun _ => default
def live143 : Nat → Nat := fun n => match n with | 0 => 3 | 1 => 35 | 2 => 547 | 3 => 35 | 4 => 131107 | 5 => 16 | 6 => 16 | _ => 0
theorem fok143 : fnOkX Tryz.prog xmoves xcaps 143 Tryz.f143 ord143 := fnOkX_mk Tryz.func143 (by kernel_rfl)
def ord144 : Nat → RHint := fun _ => default
def live144 : Nat → Nat := fun n => match n with | 0 => 1 | 1 => 4 | _ => 0
theorem fok144 : fnOkX Tryz.prog xmoves xcaps 144 Tryz.f144 ord144 := fnOkX_mk Tryz.func144 (by kernel_rfl)
def ord145 : Nat → RHint := fun _ => default
def live145 : Nat → Nat := fun n => match n with | 0 => 1 | 1 => 4 | _ => 0
theorem fok145 : fnOkX Tryz.prog xmoves xcaps 145 Tryz.f145 ord145 := fnOkX_mk Tryz.func145 (by kernel_rfl)
def ord146 : Nat → RHint := fun _ => default
def live146 : Nat → Nat := fun n => match n with | 0 => 2 | 1 => 10 | 2 => 4 | 3 => 4096 | 4 => 4 | 5 => 4 | _ => 0
theorem fok146 : fnOkX Tryz.prog xmoves xcaps 146 Tryz.f146 ord146 := fnOkX_mk Tryz.func146 (by kernel_rfl)
def ord147 : Nat → RHint := fun _ => default
def live147 : Nat → Nat := fun n => match n with | 0 => 2 | 1 => 10 | 2 => 8 | 3 => 4 | _ => 0
theorem fok147 : fnOkX Tryz.prog xmoves xcaps 147 Tryz.f147 ord147 := fnOkX_mk Tryz.func147 (by kernel_rfl)
def ord148 : Nat → RHint := fun _ => default
def live148 : Nat → Nat := fun n => match n with | 0 => 1 | 1 => 4 | _ => 0
theorem fok148 : fnOkX Tryz.prog xmoves xcaps 148 Tryz.f148 ord148 := fnOkX_mk Tryz.func148 (by kernel_rfl)
def ord155 : Nat → RHint := fun _ => default
def live155 : Nat → Nat := fun n => match n with | 0 => 1 | 1 => 17 | 2 => 4 | 3 => 4 | _ => 0
theorem fok155 : fnOkX Tryz.prog xmoves xcaps 155 Tryz.f155 ord155 := fnOkX_mk Tryz.func155 (by kernel_rfl)
def ord156 : Nat → RHint := fun _ => default
def live156 : Nat → Nat := fun n => match n with | 0 => 1 | 1 => 9 | 2 => 4 | _ => 0
theorem fok156 : fnOkX Tryz.prog xmoves xcaps 156 Tryz.f156 ord156 := fnOkX_mk Tryz.func156 (by kernel_rfl)
def ord157 : Nat → RHint := fun n => match n with | 7 => ⟨[], some 999999, [], []⟩ | 8 => ⟨[], some 999999, [], []⟩ | 9 => ⟨[], some 999999, [], []⟩ | 10 => ⟨[], some 999999, [], []⟩ | 17 => ⟨[], some 999999, [], []⟩ | 18 => ⟨[], some 999999, [], []⟩ | 23 => ⟨[], some 999999, [], []⟩ | _ => default
def live157 : Nat → Nat := fun n => match n with | 0 => 19 | 1 => 1048595 | 2 => 51 | 3 => 51 | 4 => 211 | 5 => 851 | 6 => 3859 | 7 => 3347 | 8 => 3091 | 9 => 1043 | 10 => 19 | 11 => 19 | 12 => 4113 | 13 => 633825300114114700748351606801 | 14 => 12305 | 15 => 12305 | 16 => 53265 | 17 => 20497 | 18 => 4113 | 19 => 4113 | 20 => 696898287454081973172991196020261297066001 | 21 => 69649 | 22 => 69649 | 23 => 4113 | 24 => 4113 | 25 => 2923003274661805836407369665432566039311865090049 | 26 => 0 | _ => 0
theorem fok157 : fnOkX Tryz.prog xmoves xcaps 157 Tryz.f157 ord157 := fnOkX_mk Tryz.func157 (by kernel_rfl)
def ord158 : Nat → RHint := fun _ => default
def live158 : Nat → Nat := fun n => match n with | 0 => 3103 | 1 => 268438559 | 2 => 3103 | 3 => 7199 | 4 => 15391 | 5 => 1073757215 | 6 => 15391 | 7 => 17179884575 | 8 => 31775 | 9 => 64543 | 10 => 130075 | 11 => 70368744307739 | 12 => 130075 | 13 => 130075 | 14 => 130075 | 15 => 15387 | 16 => 15385 | 17 => 146459 | 18 => 295147905179352972315 | 19 => 146459 | 20 => 408603 | 21 => 408601 | 22 => 146459 | 23 => 15387 | 24 => 15385 | 25 => 618970019642690137449577489 | 26 => 15377 | 27 => 15377 | 28 => 19807040628566084398386002945 | 29 => 3072 | 30 => 3072 | _ => 0
theorem fok158 : fnOkX Tryz.prog xmoves xcaps 158 Tryz.f158 ord158 := fnOkX_mk Tryz.func158 (by kernel_rfl)
def ord159 : Nat → RHint := fun _ => default
def live159 : Nat → Nat := fun n => match n with | 0 => 1 | 1 => 8 | 2 => 4 | 3 => 4 | _ => 0
theorem fok159 : fnOkX Tryz.prog xmoves xcaps 159 Tryz.f159 ord159 := fnOkX_mk Tryz.func159 (by kernel_rfl)
def ord160 : Nat → RHint := fun _ => default
def live160 : Nat → Nat := fun n => match n with | 0 => 2 | 1 => 4 | _ => 0
theorem fok160 : fnOkX Tryz.prog xmoves xcaps 160 Tryz.f160 ord160 := fnOkX_mk Tryz.func160 (by kernel_rfl)
def ord161 : Nat → RHint := fun _ => default
def live161 : Nat → Nat := fun n => match n with | 0 => 9 | 1 => 521 | 2 => 1545 | 3 => 0 | 4 => 66057 | 5 => 9 | 6 => 25 | 7 => 16777241 | 8 => 25 | 9 => 57 | 10 => 68719476761 | 11 => 25 | 12 => 25 | 13 => 0 | 14 => 140737488355337 | 15 => 9 | 16 => 31525197391593473 | 17 => 67553994410557441 | 18 => 31525197391593665 | 19 => 1184446701998440577 | 20 => 31525197391593601 | 21 => 31525197391593473 | 22 => 31525197391593473 | 23 => 0 | _ => 0
theorem fok161 : fnOkX Tryz.prog xmoves xcaps 161 Tryz.f161 ord161 := fnOkX_mk Tryz.func161 (by kernel_rfl)
def ord162 : Nat → RHint := fun n => match n with | 0 => ⟨[], some 999999, [], []⟩ | _ => default
def live162 : Nat → Nat := fun n => match n with | 0 => 17 | 1 => 17 | 2 => 0 | _ => 0
theorem fok162 : fnOkX Tryz.prog xmoves xcaps 162 Tryz.f162 ord162 := fnOkX_mk Tryz.func162 (by kernel_rfl)
def ord163 : Nat → RHint := fun _ => default
def live163 : Nat → Nat := fun n => match n with | 0 => 1 | 1 => 9 | 2 => 456 | 3 => 968 | 4 => 488 | 5 => 16872 | 6 => 4 | 7 => 456 | 8 => 4 | _ => 0
theorem fok163 : fnOkX Tryz.prog xmoves xcaps 163 Tryz.f163 ord163 := fnOkX_mk Tryz.func163 (by kernel_rfl)
def ord164 : Nat → RHint := fun _ => default
def live164 : Nat → Nat := fun n => match n with | 0 => 3 | 1 => 35 | 2 => 99 | 3 => 2115 | 4 => 4096 | 5 => 16 | 6 => 16 | 7 => 8195 | 8 => 16 | 9 => 65539 | 10 => 16 | 11 => 524288 | 12 => 16 | 13 => 16 | _ => 0
theorem fok164 : fnOkX Tryz.prog xmoves xcaps 164 Tryz.f164 ord164 := fnOkX_mk Tryz.func164 (by kernel_rfl)
def ord165 : Nat → RHint := fun _ => default
def live165 : Nat → Nat := fun n => match n with | 0 => 3 | 1 => 35 | 2 => 99 | 3 => 2115 | 4 => 4096 | 5 => 16 | 6 => 16 | 7 => 8195 | 8 => 16 | 9 => 65539 | 10 => 16 | 11 => 524288 | 12 => 16 | 13 => 16 | _ => 0
theorem fok165 : fnOkX Tryz.prog xmoves xcaps 165 Tryz.f165 ord165 := fnOkX_mk Tryz.func165 (by kernel_rfl)
def ord167 : Nat → RHint := fun n => match n with | 3 => ⟨[(0, false), (1, false), (2, false), (3, false), (4, false), (5, false), (6, false), (7, false), (8, false), (9, false), (10, false), (11, false), (12, false), (13, false), (14, false), (15, false), (16, false), (17, false)], none, [], [18, 19]⟩ | 5 => ⟨[(0, false), (1, false), (2, false), (3, false), (4, false), (5, false), (6, false), (7, false), (8, false), (9, false), (10, false), (11, false)], none, [], [12, 13]⟩ | 6 => ⟨[], some 999999, [], []⟩ | _ => default
def live167 : Nat → Nat := fun n => match n with | 0 => 269 | 1 => 781 | 2 => 66317 | 3 => 68719477517 | 4 => 781 | 5 => 4503599627371277 | 6 => 525 | 7 => 269 | _ => 0
theorem fok167 : fnOkX Tryz.prog xmoves xcaps 167 Tryz.f167 ord167 := fnOkX_mk Tryz.func167 (by kernel_rfl)
def ord168 : Nat → RHint := fun _ => default
def live168 : Nat → Nat := fun n => match n with | 0 => 1 | 1 => 4 | _ => 0
theorem fok168 : fnOkX Tryz.prog xmoves xcaps 168 Tryz.f168 ord168 := fnOkX_mk Tryz.func168 (by kernel_rfl)
def ord169 : Nat → RHint := fun n => match n with | 1 => ⟨[(0, false), (1, false), (2, false), (3, false), (4, false), (5, false), (6, false), (7, false), (8, false)], none, [], [9]⟩ | 2 => ⟨[(0, false), (1, false), (2, false), (3, false), (4, false), (5, false), (6, false), (7, false), (8, false)], none, [], [9]⟩ | 3 => ⟨[(0, false), (1, false), (2, false), (3, false), (4, false), (5, false), (6, false), (7, false), (8, false)], none, [], [9]⟩ | _ => default
def live169 : Nat → Nat := fun n => match n with | 0 => 1 | 1 => 1 | 2 => 1 | 3 => 1 | 4 => 4 | _ => 0
theorem fok169 : fnOkX Tryz.prog xmoves xcaps 169 Tryz.f169 ord169 := fnOkX_mk Tryz.func169 (by kernel_rfl)
def ord170 : Nat → RHint := fun _ => default
def live170 : Nat → Nat := fun n => match n with | 0 => 7 | 1 => 64 | _ => 0
theorem fok170 : fnOkX Tryz.prog xmoves xcaps 170 Tryz.f170 ord170 := fnOkX_mk Tryz.func170 (by kernel_rfl)
def ord171 : Nat → RHint := fun _ => default
def live171 : Nat → Nat := fun n => match n with | 0 => 31 | 1 => 31 | 2 => 23 | 3 => 4 | 4 => 1024 | _ => 0
theorem fok171 : fnOkX Tryz.prog xmoves xcaps 171 Tryz.f171 ord171 := fnOkX_mk Tryz.func171 (by kernel_rfl)
def ord172 : Nat → RHint := fun _ => default
def live172 : Nat → Nat := fun n => match n with | 0 => 1 | 1 => 4 | _ => 0
theorem fok172 : fnOkX Tryz.prog xmoves xcaps 172 Tryz.f172 ord172 := fnOkX_mk Tryz.func172 (by kernel_rfl)
def ord174 : Nat → RHint := fun _ => default
def live174 : Nat → Nat := fun n => match n with | 0 => 1 | 1 => 4 | _ => 0
theorem fok174 : fnOkX Tryz.prog xmoves xcaps 174 Tryz.f174 ord174 := fnOkX_mk Tryz.func174 (by kernel_rfl)
def ord175 : Nat → RHint := fun _ => default
def live175 : Nat → Nat := fun n => match n with | 0 => 2 | 1 => 10 | 2 => 904 | 3 => 1928 | 4 => 936 | 5 => 904 | 6 => 904 | 7 => 4 | _ => 0
theorem fok175 : fnOkX Tryz.prog xmoves xcaps 175 Tryz.f175 ord175 := fnOkX_mk Tryz.func175 (by kernel_rfl)
def ord176 : Nat → RHint := fun _ => default
def live176 : Nat → Nat := fun n => match n with | 0 => 2 | 1 => 10 | 2 => 904 | 3 => 1928 | 4 => 936 | 5 => 904 | 6 => 904 | 7 => 4 | _ => 0
theorem fok176 : fnOkX Tryz.prog xmoves xcaps 176 Tryz.f176 ord176 := fnOkX_mk Tryz.func176 (by kernel_rfl)
def ord177 : Nat → RHint := fun _ => default
def live177 : Nat → Nat := fun n => match n with | 0 => 2 | 1 => 4 | _ => 0
theorem fok177 : fnOkX Tryz.prog xmoves xcaps 177 Tryz.f177 ord177 := fnOkX_mk Tryz.func177 (by kernel_rfl)
def ord178 : Nat → RHint := fun n => match n with | 6 => ⟨[(0, false), (1, false), (2, false), (3, false), (6, false), (4, true), (5, false)], none, [], [7]⟩ | _ => default
def live178 : Nat → Nat := fun n => match n with | 0 => 14 | 1 => 65550 | 2 => 14 | 3 => 117440526 | 4 => 251658254 | 5 => 117440718 | 6 => 117440526 | 7 => 117440526 | _ => 0
theorem fok178 : fnOkX Tryz.prog xmoves xcaps 178 Tryz.f178 ord178 := fnOkX_mk Tryz.func178 (by kernel_rfl)
def ord183 : Nat → RHint := fun _ => default
def live183 : Nat → Nat := fun n => match n with | 0 => 1 | 1 => 4 | _ => 0
theorem fok183 : fnOkX Tryz.prog xmoves xcaps 183 Tryz.f183 ord183 := fnOkX_mk Tryz.func183 (by kernel_rfl)
def ord184 : Nat → RHint := fun _ => default
def live184 : Nat → Nat := fun n => match n with | 0 => 1 | 1 => 8 | 2 => 4 | 3 => 4 | _ => 0
theorem fok184 : fnOkX Tryz.prog xmoves xcaps 184 Tryz.f184 ord184 := fnOkX_mk Tryz.func184 (by kernel_rfl)
def ord185 : Nat → RHint := fun _ => default
def live185 : Nat → Nat := fun n => match n with | 0 => 1 | 1 => 4 | _ => 0
theorem fok185 : fnOkX Tryz.prog xmoves xcaps 185 Tryz.f185 ord185 := fnOkX_mk Tryz.func185 (by kernel_rfl)
def ord186 : Nat → RHint := fun _ => default
def live186 : Nat → Nat := fun n => match n with | 0 => 1 | 1 => 4 | 2 => 4 | _ => 0
theorem fok186 : fnOkX Tryz.prog xmoves xcaps 186 Tryz.f186 ord186 := fnOkX_mk Tryz.func186 (by kernel_rfl)
def ord187 : Nat → RHint := fun _ => default
def live187 : Nat → Nat := fun n => match n with | 0 => 6 | 1 => 262 | 2 => 774 | 3 => 16 | 4 => 4294967558 | 5 => 16 | 6 => 562949953421318 | 7 => 144115188075855878 | 8 => 16 | 9 => 4035225266123964418 | 10 => 8646911284551352322 | 11 => 4035225266123964482 | 12 => 594331035624829616130 | 13 => 16 | 14 => 4035225266123964418 | 15 => 16 | 16 => 16 | _ => 0
theorem fok187 : fnOkX Tryz.prog xmoves xcaps 187 Tryz.f187 ord187 := fnOkX_mk Tryz.func187 (by kernel_rfl)
def ord188 : Nat → RHint := fun _ => default
def live188 : Nat → Nat := fun n => match n with | 0 => 3 | 1 => 3 | 2 => 0 | 3 => 16 | _ => 0
theorem fok188 : fnOkX Tryz.prog xmoves xcaps 188 Tryz.f188 ord188 := fnOkX_mk Tryz.func188 (by kernel_rfl)
def ord190 : Nat → RHint := fun _ => default
def live190 : Nat → Nat := fun n => match n with | 0 => 1 | 1 => 4 | _ => 0
theorem fok190 : fnOkX Tryz.prog xmoves xcaps 190 Tryz.f190 ord190 := fnOkX_mk Tryz.func190 (by kernel_rfl)
def ord191 : Nat → RHint := fun n => match n with | 1 => ⟨[(0, false), (1, false), (2, false), (3, false), (4, false), (5, false), (6, false), (7, false)], none, [], [8]⟩ | _ => default
def live191 : Nat → Nat := fun n => match n with | 0 => 15 | 1 => 262158 | 2 => 6 | 3 => 768 | 4 => 768 | _ => 0
theorem fok191 : fnOkX Tryz.prog xmoves xcaps 191 Tryz.f191 ord191 := fnOkX_mk Tryz.func191 (by kernel_rfl)
def ord192 : Nat → RHint := fun _ => default
def live192 : Nat → Nat := fun n => match n with | 0 => 2 | 1 => 1048578 | 2 => 4 | 3 => 4194306 | 4 => 12582914 | 5 => 12582914 | 6 => 4 | 7 => 1077936130 | 8 => 4 | 9 => 4503599631564802 | 10 => 4 | 11 => 288230376155906050 | 12 => 4 | 13 => 18446744073713745922 | 14 => 4 | 15 => 1208925819614629174706178 | 16 => 4 | 17 => 4 | _ => 0
theorem fok192 : fnOkX Tryz.prog xmoves xcaps 192 Tryz.f192 ord192 := fnOkX_mk Tryz.func192 (by kernel_rfl)
def ord193 : Nat → RHint := fun _ => default
def live193 : Nat → Nat := fun n => match n with | 0 => 3 | 1 => 16 | _ => 0
theorem fok193 : fnOkX Tryz.prog xmoves xcaps 193 Tryz.f193 ord193 := fnOkX_mk Tryz.func193 (by kernel_rfl)
def ord194 : Nat → RHint := fun _ => default
def live194 : Nat → Nat := fun n => match n with | 0 => 2 | 1 => 4 | _ => 0
theorem fok194 : fnOkX Tryz.prog xmoves xcaps 194 Tryz.f194 ord194 := fnOkX_mk Tryz.func194 (by kernel_rfl)
def ord195 : Nat → RHint := fun _ => default
def live195 : Nat → Nat := fun n => match n with | 0 => 51 | 1 => 65555 | 2 => 0 | _ => 0
theorem fok195 : fnOkX Tryz.prog xmoves xcaps 195 Tryz.f195 ord195 := fnOkX_mk Tryz.func195 (by kernel_rfl)
def ord196 : Nat → RHint := fun _ => default
def live196 : Nat → Nat := fun n => match n with | 0 => 6 | 1 => 2048 | 2 => 16 | 3 => 16 | _ => 0
theorem fok196 : fnOkX Tryz.prog xmoves xcaps 196 Tryz.f196 ord196 := fnOkX_mk Tryz.func196 (by kernel_rfl)
def ord199 : Nat → RHint := fun _ => default
def live199 : Nat → Nat := fun n => match n with | 0 => 1 | 1 => 17 | 2 => 4 | 3 => 4 | _ => 0
theorem fok199 : fnOkX Tryz.prog xmoves xcaps 199 Tryz.f199 ord199 := fnOkX_mk Tryz.func199 (by kernel_rfl)
def ord200 : Nat → RHint := fun _ => default
def live200 : Nat → Nat := fun n => match n with | 0 => 1 | 1 => 17 | 2 => 4 | 3 => 4 | _ => 0
theorem fok200 : fnOkX Tryz.prog xmoves xcaps 200 Tryz.f200 ord200 := fnOkX_mk Tryz.func200 (by kernel_rfl)
def ord201 : Nat → RHint := fun _ => default
def live201 : Nat → Nat := fun n => match n with | 0 => 1 | 1 => 4 | _ => 0
theorem fok201 : fnOkX Tryz.prog xmoves xcaps 201 Tryz.f201 ord201 := fnOkX_mk Tryz.func201 (by kernel_rfl)
def ord202 : Nat → RHint := fun _ => default
def live202 : Nat → Nat := fun n => match n with | 0 => 3 | 1 => 16 | _ => 0
theorem fok202 : fnOkX Tryz.prog xmoves xcaps 202 Tryz.f202 ord202 := fnOkX_mk Tryz.func202 (by kernel_rfl)
def ord203 : Nat → RHint := fun _ => default
def live203 : Nat → Nat := fun n => match n with | 0 => 2 | 1 => 4 | _ => 0
theorem fok203 : fnOkX Tryz.prog xmoves xcaps 203 Tryz.f203 ord203 := fnOkX_mk Tryz.func203 (by kernel_rfl)
def ord204 : Nat → RHint := fun n => match n with | 6 => ⟨[(0, false), (1, false), (2, false), (3, false), (4, true), (5, false)], none, [], [6, 7]⟩ | _ => default
def live204 : Nat → Nat := fun n => match n with | 0 => 6 | 1 => 32774 | 2 => 16 | 3 => 917510 | 4 => 1966086 | 5 => 917606 | 6 => 2148401158 | 7 => 16 | 8 => 917510 | 9 => 16 | _ => 0
theorem fok204 : fnOkX Tryz.prog xmoves xcaps 204 Tryz.f204 ord204 := fnOkX_mk Tryz.func204 (by kernel_rfl)
def ord205 : Nat → RHint := fun _ => default
def live205 : Nat → Nat := fun n => match n with | 0 => 3 | 1 => 387 | 2 => 899 | 3 => 419 | 4 => 65955 | 5 => 16 | 6 => 387 | 7 => 16 | _ => 0
theorem fok205 : fnOkX Tryz.prog xmoves xcaps 205 Tryz.f205 ord205 := fnOkX_mk Tryz.func205 (by kernel_rfl)
def ord206 : Nat → RHint := fun _ => default
def live206 : Nat → Nat := fun n => match n with | 0 => 3 | 1 => 67 | 2 => 451 | 3 => 33219 | 4 => 963 | 5 => 134218691 | 6 => 451 | 7 => 451 | 8 => 48 | _ => 0
theorem fok206 : fnOkX Tryz.prog xmoves xcaps 206 Tryz.f206 ord206 := fnOkX_mk Tryz.func206 (by kernel_rfl)
def ord207 : Nat → RHint := fun n => match n with | 11 => ⟨[(0, false), (1, false), (2, false), (3, false), (4, false), (5, false), (6, false), (7, false)], none, [], [8]⟩ | 15 => ⟨[(0, false), (1, false), (2, false), (3, false), (4, false), (5, false), (6, false), (7, false)], none, [], [8]⟩ | _ => default
def live207 : Nat → Nat := fun n => match n with | 0 => 7 | 1 => 7 | 2 => 135 | 3 => 65671 | 4 => 64 | 5 => 391 | 6 => 4194695 | 7 => 64 | 8 => 2147484039 | 9 => 647 | 10 => 643 | 11 => 512 | 12 => 64 | 13 => 391 | 14 => 295147905179352826247 | 15 => 7 | 16 => 1 | 17 => 64 | 18 => 131 | 19 => 1 | 20 => 64 | _ => 0
theorem fok207 : fnOkX Tryz.prog xmoves xcaps 207 Tryz.f207 ord207 := fnOkX_mk Tryz.func207 (by kernel_rfl)
def ord208 : Nat → RHint := fun _ => default
def live208 : Nat → Nat := fun n => match n with | 0 => 3 | 1 => 387 | 2 => 899 | 3 => 419 | 4 => 65955 | 5 => 16 | 6 => 387 | 7 => 16 | _ => 0
theorem fok208 : fnOkX Tryz.prog xmoves xcaps 208 Tryz.f208 ord208 := fnOkX_mk Tryz.func208 (by kernel_rfl)
def ord209 : Nat → RHint := fun _ => default
def live209 : Nat → Nat := fun n => match n with | 0 => 2 | 1 => 4 | _ => 0
theorem fok209 : fnOkX Tryz.prog xmoves xcaps 209 Tryz.f209 ord209 := fnOkX_mk Tryz.func209 (by kernel_rfl)
def ord210 : Nat → RHint := fun _ => default
def live210 : Nat → Nat := fun n => match n with | 0 => 2 | 1 => 4 | _ => 0
theorem fok210 : fnOkX Tryz.prog xmoves xcaps 210 Tryz.f210 ord210 := fnOkX_mk Tryz.func210 (by kernel_rfl)
def ord211 : Nat → RHint := fun _ => default
def live211 : Nat → Nat := fun n => match n with | 0 => 1 | 1 => 4 | _ => 0
theorem fok211 : fnOkX Tryz.prog xmoves xcaps 211 Tryz.f211 ord211 := fnOkX_mk Tryz.func211 (by kernel_rfl)
def ord213 : Nat → RHint := fun _ => default
def live213 : Nat → Nat := fun n => match n with | 0 => 0 | _ => 0
theorem fok213 : fnOkX Tryz.prog xmoves xcaps 213 Tryz.f213 ord213 := fnOkX_mk Tryz.func213 (by kernel_rfl)
def ord214 : Nat → RHint := fun _ => default
def live214 : Nat → Nat := fun n => match n with | 0 => 3 | 1 => 1 | 2 => 0 | _ => 0
theorem fok214 : fnOkX Tryz.prog xmoves xcaps 214 Tryz.f214 ord214 := fnOkX_mk Tryz.func214 (by kernel_rfl)
def ord215 : Nat → RHint := fun n => match n with | 3 => ⟨[(0, false), (1, false), (2, false), (3, false), (4, false), (5, false), (6, false), (7, false), (8, false), (9, false), (10, false), (11, false), (12, false), (13, true), (14, false), (15, true)], none, [], []⟩ | _ => default
def live215 : Nat → Nat := fun n => match n with | 0 => 13 | 1 => 525 | 2 => 13 | 3 => 13 | _ => 0
theorem fok215 : fnOkX Tryz.prog xmoves xcaps 215 Tryz.f215 ord215 := fnOkX_mk Tryz.func215 (by kernel_rfl)
noncomputable def ftab : FTr := (.node (.node (.node (.node (.node (.node (.node .nil 6 Tryz.f6 ord6 live6 .nil) 12 Tryz.f12 ord12 live12 (.node .nil 13 Tryz.f13 ord13 live13 .nil)) 16 Tryz.f16 ord16 live16 (.node (.node .nil 17 Tryz.f17 ord17 live17 .nil) 21 Tryz.f21 ord21 live21 (.node .nil 22 Tryz.f22 ord22 live22 .nil))) 23 Tryz.f23 ord23 live23 (.node (.node (.node .nil 24 Tryz.f24 ord24 live24 .nil) 38 Tryz.f38 ord38 live38 (.node .nil 40 Tryz.f40 ord40 live40 .nil)) 41 Tryz.f41 ord41 live41 (.node (.node .nil 42 Tryz.f42 ord42 live42 .nil) 43 Tryz.f43 ord43 live43 (.node .nil 44 Tryz.f44 ord44 live44 .nil)))) 55 Tryz.f55 ord55 live55 (.node (.node (.node (.node .nil 56 Tryz.f56 ord56 live56 .nil) 57 Tryz.f57 ord57 live57 (.node .nil 58 Tryz.f58 ord58 live58 .nil)) 59 Tryz.f59 ord59 live59 (.node (.node .nil 60 Tryz.f60 ord60 live60 .nil) 67 Tryz.f67 ord67 live67 (.node .nil 68 Tryz.f68 ord68 live68 .nil))) 69 Tryz.f69 ord69 live69 (.node (.node (.node .nil 72 Tryz.f72 ord72 live72 .nil) 73 Tryz.f73 ord73 live73 (.node .nil 74 Tryz.f74 ord74 live74 .nil)) 75 Tryz.f75 ord75 live75 (.node (.node .nil 76 Tryz.f76 ord76 live76 .nil) 77 Tryz.f77 ord77 live77 .nil)))) 82 Tryz.f82 ord82 live82 (.node (.node (.node (.node (.node .nil 89 Tryz.f89 ord89 live89 .nil) 90 Tryz.f90 ord90 live90 (.node .nil 91 Tryz.f91 ord91 live91 .nil)) 92 Tryz.f92 ord92 live92 (.node (.node .nil 93 Tryz.f93 ord93 live93 .nil) 97 Tryz.f97 ord97 live97 (.node .nil 98 Tryz.f98 ord98 live98 .nil))) 99 Tryz.f99 ord99 live99 (.node (.node (.node .nil 100 Tryz.f100 ord100 live100 .nil) 101 Tryz.f101 ord101 live101 (.node .nil 102 Tryz.f102 ord102 live102 .nil)) 103 Tryz.f103 ord103 live103 (.node (.node .nil 112 Tryz.f112 ord112 live112 .nil) 113 Tryz.f113 ord113 live113 .nil))) 114 Tryz.f114 ord114 live114 (.node (.node (.node (.node .nil 115 Tryz.f115 ord115 live115 .nil) 116 Tryz.f116 ord116 live116 (.node .nil 119 Tryz.f119 ord119 live119 .nil)) 125 Tryz.f125 ord125 live125 (.node (.node .nil 126 Tryz.f126 ord126 live126 .nil) 127 Tryz.f127 ord127 live127 (.node .nil 128 Tryz.f128 ord128 live128 .nil))) 129 Tryz.f129 ord129 live129 (.node (.node (.node .nil 130 Tryz.f130 ord130 live130 .nil) 131 Tryz.f131 ord131 live131 (.node .nil 132 Tryz.f132 ord132 live132 .nil)) 133 Tryz.f133 ord133 live133 (.node (.node .nil 134 Tryz.f134 ord134 live134 .nil) 135 Tryz.f135 ord135 live135 .nil))))) 136 Tryz.f136 ord136 live136 (.node (.node (.node (.node (.node (.node .nil 141 Tryz.f141 ord141 live141 .nil) 142 Tryz.f142 ord142 live142 (.node .nil 143 Tryz.f143 ord143 live143 .nil)) 144 Tryz.f144 ord144 live144 (.node (.node .nil 145 Tryz.f145 ord145 live145 .nil) 146 Tryz.f146 ord146 live146 (.node .nil 147 Tryz.f147 ord147 live147 .nil))) 148 Tryz.f148 ord148 live148 (.node (.node (.node .nil 155 Tryz.f155 ord155 live155 .nil) 156 Tryz.f156 ord156 live156 (.node .nil 157 Tryz.f157 ord157 live157 .nil)) 158 Tryz.f158 ord158 live158 (.node (.node .nil 159 Tryz.f159 ord159 live159 .nil) 160 Tryz.f160 ord160 live160 .nil))) 161 Tryz.f161 ord161 live161 (.node (.node (.node (.node .nil 162 Tryz.f162 ord162 live162 .nil) 163 Tryz.f163 ord163 live163 (.node .nil 164 Tryz.f164 ord164 live164 .nil)) 165 Tryz.f165 ord165 live165 (.node (.node .nil 167 Tryz.f167 ord167 live167 .nil) 168 Tryz.f168 ord168 live168 (.node .nil 169 Tryz.f169 ord169 live169 .nil))) 170 Tryz.f170 ord170 live170 (.node (.node (.node .nil 171 Tryz.f171 ord171 live171 .nil) 172 Tryz.f172 ord172 live172 (.node .nil 174 Tryz.f174 ord174 live174 .nil)) 175 Tryz.f175 ord175 live175 (.node (.node .nil 176 Tryz.f176 ord176 live176 .nil) 177 Tryz.f177 ord177 live177 .nil)))) 178 Tryz.f178 ord178 live178 (.node (.node (.node (.node (.node .nil 183 Tryz.f183 ord183 live183 .nil) 184 Tryz.f184 ord184 live184 (.node .nil 185 Tryz.f185 ord185 live185 .nil)) 186 Tryz.f186 ord186 live186 (.node (.node .nil 187 Tryz.f187 ord187 live187 .nil) 188 Tryz.f188 ord188 live188 (.node .nil 190 Tryz.f190 ord190 live190 .nil))) 191 Tryz.f191 ord191 live191 (.node (.node (.node .nil 192 Tryz.f192 ord192 live192 .nil) 193 Tryz.f193 ord193 live193 (.node .nil 194 Tryz.f194 ord194 live194 .nil)) 195 Tryz.f195 ord195 live195 (.node (.node .nil 196 Tryz.f196 ord196 live196 .nil) 199 Tryz.f199 ord199 live199 .nil))) 200 Tryz.f200 ord200 live200 (.node (.node (.node (.node .nil 201 Tryz.f201 ord201 live201 .nil) 202 Tryz.f202 ord202 live202 (.node .nil 203 Tryz.f203 ord203 live203 .nil)) 204 Tryz.f204 ord204 live204 (.node (.node .nil 205 Tryz.f205 ord205 live205 .nil) 206 Tryz.f206 ord206 live206 (.node .nil 207 Tryz.f207 ord207 live207 .nil))) 208 Tryz.f208 ord208 live208 (.node (.node (.node .nil 209 Tryz.f209 ord209 live209 .nil) 210 Tryz.f210 ord210 live210 (.node .nil 211 Tryz.f211 ord211 live211 .nil)) 213 Tryz.f213 ord213 live213 (.node (.node .nil 214 Tryz.f214 ord214 live214 .nil) 215 Tryz.f215 ord215 live215 .nil))))))
theorem ftab_ok : FOk Tryz.prog xmoves xcaps ftab.find := FTr.ok (FTr.all_node (FTr.all_node (FTr.all_node (FTr.all_node (FTr.all_node (FTr.all_node (FTr.all_node FTr.all_nil fok6 FTr.all_nil) fok12 (FTr.all_node FTr.all_nil fok13 FTr.all_nil)) fok16 (FTr.all_node (FTr.all_node FTr.all_nil fok17 FTr.all_nil) fok21 (FTr.all_node FTr.all_nil fok22 FTr.all_nil))) fok23 (FTr.all_node (FTr.all_node (FTr.all_node FTr.all_nil fok24 FTr.all_nil) fok38 (FTr.all_node FTr.all_nil fok40 FTr.all_nil)) fok41 (FTr.all_node (FTr.all_node FTr.all_nil fok42 FTr.all_nil) fok43 (FTr.all_node FTr.all_nil fok44 FTr.all_nil)))) fok55 (FTr.all_node (FTr.all_node (FTr.all_node (FTr.all_node FTr.all_nil fok56 FTr.all_nil) fok57 (FTr.all_node FTr.all_nil fok58 FTr.all_nil)) fok59 (FTr.all_node (FTr.all_node FTr.all_nil fok60 FTr.all_nil) fok67 (FTr.all_node FTr.all_nil fok68 FTr.all_nil))) fok69 (FTr.all_node (FTr.all_node (FTr.all_node FTr.all_nil fok72 FTr.all_nil) fok73 (FTr.all_node FTr.all_nil fok74 FTr.all_nil)) fok75 (FTr.all_node (FTr.all_node FTr.all_nil fok76 FTr.all_nil) fok77 FTr.all_nil)))) fok82 (FTr.all_node (FTr.all_node (FTr.all_node (FTr.all_node (FTr.all_node FTr.all_nil fok89 FTr.all_nil) fok90 (FTr.all_node FTr.all_nil fok91 FTr.all_nil)) fok92 (FTr.all_node (FTr.all_node FTr.all_nil fok93 FTr.all_nil) fok97 (FTr.all_node FTr.all_nil fok98 FTr.all_nil))) fok99 (FTr.all_node (FTr.all_node (FTr.all_node FTr.all_nil fok100 FTr.all_nil) fok101 (FTr.all_node FTr.all_nil fok102 FTr.all_nil)) fok103 (FTr.all_node (FTr.all_node FTr.all_nil fok112 FTr.all_nil) fok113 FTr.all_nil))) fok114 (FTr.all_node (FTr.all_node (FTr.all_node (FTr.all_node FTr.all_nil fok115 FTr.all_nil) fok116 (FTr.all_node FTr.all_nil fok119 FTr.all_nil)) fok125 (FTr.all_node (FTr.all_node FTr.all_nil fok126 FTr.all_nil) fok127 (FTr.all_node FTr.all_nil fok128 FTr.all_nil))) fok129 (FTr.all_node (FTr.all_node (FTr.all_node FTr.all_nil fok130 FTr.all_nil) fok131 (FTr.all_node FTr.all_nil fok132 FTr.all_nil)) fok133 (FTr.all_node (FTr.all_node FTr.all_nil fok134 FTr.all_nil) fok135 FTr.all_nil))))) fok136 (FTr.all_node (FTr.all_node (FTr.all_node (FTr.all_node (FTr.all_node (FTr.all_node FTr.all_nil fok141 FTr.all_nil) fok142 (FTr.all_node FTr.all_nil fok143 FTr.all_nil)) fok144 (FTr.all_node (FTr.all_node FTr.all_nil fok145 FTr.all_nil) fok146 (FTr.all_node FTr.all_nil fok147 FTr.all_nil))) fok148 (FTr.all_node (FTr.all_node (FTr.all_node FTr.all_nil fok155 FTr.all_nil) fok156 (FTr.all_node FTr.all_nil fok157 FTr.all_nil)) fok158 (FTr.all_node (FTr.all_node FTr.all_nil fok159 FTr.all_nil) fok160 FTr.all_nil))) fok161 (FTr.all_node (FTr.all_node (FTr.all_node (FTr.all_node FTr.all_nil fok162 FTr.all_nil) fok163 (FTr.all_node FTr.all_nil fok164 FTr.all_nil)) fok165 (FTr.all_node (FTr.all_node FTr.all_nil fok167 FTr.all_nil) fok168 (FTr.all_node FTr.all_nil fok169 FTr.all_nil))) fok170 (FTr.all_node (FTr.all_node (FTr.all_node FTr.all_nil fok171 FTr.all_nil) fok172 (FTr.all_node FTr.all_nil fok174 FTr.all_nil)) fok175 (FTr.all_node (FTr.all_node FTr.all_nil fok176 FTr.all_nil) fok177 FTr.all_nil)))) fok178 (FTr.all_node (FTr.all_node (FTr.all_node (FTr.all_node (FTr.all_node FTr.all_nil fok183 FTr.all_nil) fok184 (FTr.all_node FTr.all_nil fok185 FTr.all_nil)) fok186 (FTr.all_node (FTr.all_node FTr.all_nil fok187 FTr.all_nil) fok188 (FTr.all_node FTr.all_nil fok190 FTr.all_nil))) fok191 (FTr.all_node (FTr.all_node (FTr.all_node FTr.all_nil fok192 FTr.all_nil) fok193 (FTr.all_node FTr.all_nil fok194 FTr.all_nil)) fok195 (FTr.all_node (FTr.all_node FTr.all_nil fok196 FTr.all_nil) fok199 FTr.all_nil))) fok200 (FTr.all_node (FTr.all_node (FTr.all_node (FTr.all_node FTr.all_nil fok201 FTr.all_nil) fok202 (FTr.all_node FTr.all_nil fok203 FTr.all_nil)) fok204 (FTr.all_node (FTr.all_node FTr.all_nil fok205 FTr.all_nil) fok206 (FTr.all_node FTr.all_nil fok207 FTr.all_nil))) fok208 (FTr.all_node (FTr.all_node (FTr.all_node FTr.all_nil fok209 FTr.all_nil) fok210 (FTr.all_node FTr.all_nil fok211 FTr.all_nil)) fok213 (FTr.all_node (FTr.all_node FTr.all_nil fok214 FTr.all_nil) fok215 FTr.all_nil))))))
end Go.Proofs.YtmpmgmmcaghacaaGreatDoor

namespace Go.Proofs
open Go.Shelf
def Tryz.lays169_ren : Go.Shelf.Ren := ⟨fun | 169 => 44 | n => n, fun | 70 => 74 | 9 => 9 | 0 => 0 | 72 => 77 | 37 => 75 | 127 => 122 | 3 => 3 | 5 => 5 | n => n, fun | n => n⟩
theorem Tryz.lays169 : Go.Proofs.Lays.n169 Tryz.prog Tryz.lays169_ren := {
 mixed := by kernel_rfl
 f169 := Tryz.func44.trans (congrArg some (by kernel_rfl))
 t0 := Tryz.underlying0
 a0 := Tryz.isAgg0
 z0 := Tryz.sizeOf0
 v0 := Tryz.zeroValue0
 t3 := Tryz.underlying3
 a3 := Tryz.isAgg3
 z3 := Tryz.sizeOf3
 v3 := Tryz.zeroValue3
 t9 := Tryz.underlying9
 a9 := Tryz.isAgg9
 z9 := Tryz.sizeOf9
 v9 := Tryz.zeroValue9
 t37 := Tryz.underlying75
 a37 := Tryz.isAgg75
 z37 := Tryz.sizeOf75
 v37 := Tryz.zeroValue75
 t70 := Tryz.underlying74
 a70 := Tryz.isAgg74
 z70 := Tryz.sizeOf74
 v70 := Tryz.zeroValue74
 t72 := Tryz.underlying77
 a72 := Tryz.isAgg77
 z72 := Tryz.sizeOf77
 v72 := Tryz.zeroValue77
 t127 := Tryz.underlying122
 a127 := Tryz.isAgg122
 z127 := Tryz.sizeOf122
 v127 := Tryz.zeroValue122 }
theorem Tryz.Builder_Extra_169 : Builder.Extra Tryz.prog Tryz.lays169_ren := {
 sizeBuilder := by kernel_rfl
 liesBuilder := by kernel_rfl
 t5 := Tryz.underlying5
 a5 := Tryz.isAgg5
 z5 := Tryz.sizeOf5
 v5 := Tryz.zeroValue5
 infoByte := by kernel_rfl
 cellsByte := by kernel_rfl
 sizeByte := by kernel_rfl
 neB5 := by decide }
def Tryz.lays156_ren : Go.Shelf.Ren := ⟨fun | 156 => 77 | 165 => 116 | 166 => 41 | 169 => 44 | 240 => 72 | 241 => 162 | 276 => 111 | 277 => 189 | n => n, fun | 31 => 70 | 9 => 9 | 3 => 3 | 4 => 4 | 0 => 0 | 20 => 20 | 72 => 77 | 76 => 80 | 70 => 74 | 37 => 75 | 75 => 79 | 127 => 122 | 164 => 151 | 5 => 5 | 80 => 84 | n => n, fun | n => n⟩
theorem Tryz.lays156 : Go.Proofs.Lays.n156 Tryz.prog Tryz.lays156_ren := {
 mixed := by kernel_rfl
 f156 := Tryz.func77.trans (congrArg some (by kernel_rfl))
 f165 := Tryz.func116.trans (congrArg some (by kernel_rfl))
 f166 := Tryz.func41.trans (congrArg some (by kernel_rfl))
 f169 := Tryz.func44.trans (congrArg some (by kernel_rfl))
 f240 := Tryz.func72.trans (congrArg some (by kernel_rfl))
 f241 := Tryz.func162.trans (congrArg some (by kernel_rfl))
 f276 := Tryz.func111.trans (congrArg some (by kernel_rfl))
 f277 := Tryz.func189.trans (congrArg some (by kernel_rfl))
 t0 := Tryz.underlying0
 a0 := Tryz.isAgg0
 z0 := Tryz.sizeOf0
 v0 := Tryz.zeroValue0
 t3 := Tryz.underlying3
 a3 := Tryz.isAgg3
 z3 := Tryz.sizeOf3
 v3 := Tryz.zeroValue3
 t4 := Tryz.underlying4
 a4 := Tryz.isAgg4
 z4 := Tryz.sizeOf4
 v4 := Tryz.zeroValue4
 t9 := Tryz.underlying9
 a9 := Tryz.isAgg9
 z9 := Tryz.sizeOf9
 v9 := Tryz.zeroValue9
 t20 := Tryz.underlying20
 a20 := Tryz.isAgg20
 z20 := Tryz.sizeOf20
 v20 := Tryz.zeroValue20
 t31 := Tryz.underlying70
 a31 := Tryz.isAgg70
 z31 := Tryz.sizeOf70
 v31 := Tryz.zeroValue70
 t37 := Tryz.underlying75
 a37 := Tryz.isAgg75
 z37 := Tryz.sizeOf75
 v37 := Tryz.zeroValue75
 t70 := Tryz.underlying74
 a70 := Tryz.isAgg74
 z70 := Tryz.sizeOf74
 v70 := Tryz.zeroValue74
 t72 := Tryz.underlying77
 a72 := Tryz.isAgg77
 z72 := Tryz.sizeOf77
 v72 := Tryz.zeroValue77
 t75 := Tryz.underlying79
 a75 := Tryz.isAgg79
 z75 := Tryz.sizeOf79
 v75 := Tryz.zeroValue79
 t76 := Tryz.underlying80
 a76 := Tryz.isAgg80
 z76 := Tryz.sizeOf80
 v76 := Tryz.zeroValue80
 t127 := Tryz.underlying122
 a127 := Tryz.isAgg122
 z127 := Tryz.sizeOf122
 v127 := Tryz.zeroValue122
 t164 := Tryz.underlying151
 a164 := Tryz.isAgg151
 z164 := Tryz.sizeOf151
 v164 := Tryz.zeroValue151 }
theorem Tryz.Builder_Extra_156 : Builder.Extra Tryz.prog Tryz.lays156_ren := {
 sizeBuilder := by kernel_rfl
 liesBuilder := by kernel_rfl
 t5 := Tryz.underlying5
 a5 := Tryz.isAgg5
 z5 := Tryz.sizeOf5
 v5 := Tryz.zeroValue5
 infoByte := by kernel_rfl
 cellsByte := by kernel_rfl
 sizeByte := by kernel_rfl
 neB5 := by decide }
end Go.Proofs

namespace Go.Tp
open Go.Proofs Go.Shelf Go.RowKit Go.Maps
/-! ### What they do -/
section
variable {P : Program} {ρ : Ren} {G : Globs}
/-! ### slices.Delete of all from i on -/
end
end Go.Tp

namespace Go.Tp
open Go.Proofs Go.Shelf Go.RowKit
section
variable {P : Program} {ρ : Ren} {G : Globs}
/-! ### copyCheck -/
def copyX (args : List AVal) (heap : Heap) (next : Nat) : Option XRes :=
 match args with
 | [.ptr (.out k) 0] => (match agetF (.out k) heap with
  | some (.cells [.dat (.flat (.pointer none)), q]) => (match isS q with | true => some ⟨.tup [], asetF (.out k) (.cells [.ptr (.out k) 0, q]) heap, next⟩ | false => none)
  | some (.cells [.ptr (.out m) 0, q]) => (match Nat.beq m k && isS q with | true => some ⟨.tup [], heap, next⟩ | false => none)
  | _ => none)
 | _ => none
/-- A builder's block. -/
theorem bld_block {w : World} {R : Own} {N : Name -> Option Nat} {p q : AVal} {b : Nat} {b1 : List Nat} (h : RepObj w R N (.cells [p, q]) b b1) (hp : isP p = true) (hq : isS q = true) :
  ∃ v0 v1 c0 c1, w.heap[b]? = some (.cells #[v0, v1] bldId (0, 0)) /\ b1 = c0 ++ c1 /\ RepV w R N p v0 c0 /\ RepV w R N q v1 c1 /\ ∀ j, j < 2 -> R b j := by
 obtain ⟨vs, elem, sp, hblk, hr, hR, hsh⟩ := h
 obtain ⟨rfl, rfl⟩ := hsh (bldSh_iff.2 ⟨p, _, rfl, hp, hq⟩)
 simp only [List.replicate_zero, List.append_nil] at hr
 obtain ⟨v0, r1, c0, d1, e1, rfl, h0, hr1⟩ := repVs_cons_inv hr
 obtain ⟨v1, r2, c1, d2, rfl, rfl, h1, hr2⟩ := repVs_cons_inv hr1
 obtain ⟨rfl, rfl⟩ := repVs_nil_inv hr2
 have hvs : vs = #[v0, v1] := by apply Array.toList_inj.1; rw [e1]
 subst hvs
 exact ⟨v0, v1, c0, c1, hblk, by simp, h0, h1, fun j hj => hR j (by simpa using hj)⟩
theorem one_ptr {w : World} {R : Own} {N : Name -> Option Nat} {k : Nat} {cargs : List Value} {bs : List Nat} (h : RepVs w R (outs N) [.ptr (.out k) 0] cargs bs) :
  ∃ b, N (.out k) = some b /\ cargs = [.pointer (some ⟨b, 0, none⟩)] /\ bs = [] := by
 obtain ⟨v, vs', b1, b2, rfl, rfl, h1, h2⟩ := repVs_cons_inv h
 obtain ⟨rfl, rfl⟩ := repVs_nil_inv h2
 simp only [RepV] at h1
 obtain ⟨rfl, b, hb, rfl⟩ := h1
 exact ⟨b, by simpa [outs] using hb, rfl, rfl⟩
theorem c_copy (L : Lays.n240 P ρ) (X : Builder.X72 P ρ) (hT : ρ.t 72 = bldId) {args : List AVal} {heap : Heap} {next : Nat} {r : XRes} (h : copyX args heap next = some r) : ACalls P G (ρ.f 240) args heap next (XQ r) := by
 unfold copyX at h
 split at h
 rotate_left
 ·simp at h
 rename_i k
 rw [agetF_eq] at h
 intro w R N cargs bsA bsH bsF hargs hheap hnd hnx hglob hF
 obtain ⟨b, hb, rfl, rfl⟩ := one_ptr hargs
 split at h
 ·rename_i q hget
  split at h
  rotate_left
  ·simp at h
  rename_i hq
  simp only [Option.some.injEq] at h
  subst h
  obtain ⟨pre, b', b1, post, rfl, hb', hobj, hset⟩ := RepObjs.split hheap hget
  have : b' = b := by simp only [outs] at hb'; rw [hb] at hb'; simpa using hb'.symm
  subst this
  obtain ⟨v0, v1, c0, c1, hblk, rfl, h0, h1, hR⟩ := bld_block hobj rfl hq
  obtain ⟨rfl, rfl, _⟩ := repV_flat_inv h0
  have hcell : w.cell? ⟨b', 0, none⟩ = some (.pointer none) := by simp [World.cell?, hblk]
  have hshape : w.shape? b' = some ((ρ.t 72), 2) := by simp [World.shape?, hblk, hT]
  have hfz : w.frozen? ⟨b', 0, none⟩ = false := by simp [World.frozen?, hblk]
  refine (Any.Builder_copyCheck_fresh L X b' w hcell hshape hfz).mono ?_
  rintro e w' ⟨rfl, rfl⟩
  rw [setCell_eq_setRow w b' 0 _ _ _ _ hblk]
  have hnd2 := hnd
  simp only [List.nil_append] at hnd2
  have hbn : ∀ c ∈ c1 ++ (pre ++ (post ++ bsF)), c ≠ b' := by
   intro c hc e
   subst e
   have hp : ((pre ++ (c :: ([] ++ c1)) ++ post) ++ bsF).Perm (c :: (c1 ++ (pre ++ (post ++ bsF)))) := by
    rw [List.perm_iff_count]; intro q; simp only [List.count_append, List.count_cons, List.count_nil]; omega
   exact (List.nodup_cons.1 (hp.nodup_iff.1 hnd2)).1 hc
  have hk : ∀ bs : List Nat, b' ∉ bs -> Keep w R (w.setRow b' ((#[Value.pointer none, v1]).setIfInBounds 0 (.pointer (some ⟨b', 0, none⟩)))) R bs := fun bs hbs =>
   step_setRow hblk _ (by simp) (fun _ _ h => h) (fun _ _ _ h => h) (fun off hnR => by
    have : ¬ off < 2 := fun hlt => hnR (hR off hlt)
    rw [Array.getElem?_eq_none (by simp; omega), Array.getElem?_eq_none (by simp; omega)]) ⟨0, hR 0 (by omega)⟩ bs hbs
  have hobj' : RepObj (w.setRow b' ((#[Value.pointer none, v1]).setIfInBounds 0 (.pointer (some ⟨b', 0, none⟩)))) R (outs N) (.cells [.ptr (.out k) 0, q]) b' ([] ++ c1) := by
   refine ⟨_, bldId, 0, setRow_heap w b' _ _ _ _ hblk, ?_, fun j hj => hR j (by simpa using hj), fun _ => ⟨rfl, rfl⟩⟩
   have q1 : RepV (w.setRow b' ((#[Value.pointer none, v1]).setIfInBounds 0 (.pointer (some ⟨b', 0, none⟩)))) R (outs N) (.ptr (.out k) 0) (.pointer (some ⟨b', 0, none⟩)) [] := by
    simp only [RepV]; exact ⟨trivial, b', by simpa [outs] using hb, rfl⟩
   have q2 : RepV (w.setRow b' ((#[Value.pointer none, v1]).setIfInBounds 0 (.pointer (some ⟨b', 0, none⟩)))) R (outs N) q v1 c1 := by
    exact h1.keep (hk c1 (fun hc => hbn b' (by simp [hc]) rfl))
   simpa using repVs_cons q1 (repVs_cons q2 repVs_nil)
  have hH := hset _ R _ ([] ++ c1) (hk (pre ++ post) (fun hc => hbn b' (by simp at hc ⊢; rcases hc with h | h <;> simp [h]) rfl)) hobj'
  refine ⟨.tup [], .tuple #[], _, next, R, N, [], _, rfl, ⟨rfl, rfl, rfl⟩, by simp [RepV, RepVs], by rw [asetF_eq]; exact hH, by simpa using hnd, hnx, hk bsF (fun hc => hbn b' (by simp [hc]) rfl), fun _ _ h => h⟩
 ·rename_i m q hget
  split at h
  ·rename_i hm0
   simp only [Bool.and_eq_true] at hm0
   obtain ⟨hm, hq⟩ := hm0
   simp only [Option.some.injEq] at h
   subst h
   have hmk : m = k := Nat.eq_of_beq_eq_true hm
   subst hmk
   obtain ⟨pre, b', b1, post, rfl, hb', hobj, hset⟩ := RepObjs.split hheap hget
   have : b' = b := by simp only [outs] at hb'; rw [hb] at hb'; simpa using hb'.symm
   subst this
   obtain ⟨v0, v1, c0, c1, hblk, rfl, h0, h1, hR⟩ := bld_block hobj rfl hq
   simp only [RepV] at h0
   obtain ⟨rfl, b2, hb2, rfl⟩ := h0
   have : b2 = b' := by simp only [outs] at hb2; rw [hb] at hb2; simpa using hb2.symm
   subst this
   have hcell : w.cell? ⟨b2, 0, none⟩ = some (.pointer (some ⟨b2, 0, none⟩)) := by simp [World.cell?, hblk]
   refine (Any.Builder_copyCheck_used L X b2 w hcell).mono ?_
   rintro e w' ⟨rfl, rfl⟩
   exact ⟨.tup [], .tuple #[], _, next, R, N, [], _, rfl, ⟨rfl, rfl, rfl⟩, by simp [RepV, RepVs], hheap, by simpa using hnd, hnx, keep_refl _, fun _ _ h => h⟩
  simp at h
 simp at h
/-! ### String -/
def bytesD : List Dat -> Option (List UInt8)
 | [] => some []
 | .flat (.int .u8 (.ofNat n)) :: r => (match bytesD r with | some l => some (UInt8.ofNat n :: l) | none => none)
 | _ => none
def strX (args : List AVal) (heap : Heap) (next : Nat) : Option XRes :=
 match args with
 | [.ptr (.out k) 0] => (match agetF (.out k) heap with
  | some (.cells [p, .own (e :: es)]) => (match isP p, bytesD (e :: es) with
   | true, some l => some ⟨.dat (.flat (.string ⟨⟨l⟩⟩)), asetF (.out k) (.cells [p, .dat (.slice (e :: es))]) heap, next⟩
   | _, _ => none)
  | some (.cells [p, .dat (.flat (.slice none 0 0))]) => (match isP p with
   | true => some ⟨.dat (.flat (.string .empty)), heap, next⟩
   | false => none)
  | _ => none)
 | _ => none
theorem bytesD_spec : ∀ {es : List Dat} {l : List UInt8}, bytesD es = some l -> l.length = es.length /\ ∀ (j : Nat) x, l[j]? = some x -> ∃ n : Nat, es[j]? = some (.flat (.int .u8 (.ofNat n))) /\ x = UInt8.ofNat n
 | [], l, h => by simp [bytesD] at h; subst h; exact ⟨rfl, fun j x hj => by simp at hj⟩
 | d :: r, l, h => by
  unfold bytesD at h
  split at h
  ·simp at *
  ·rename_i n r' heq
   simp at heq
   obtain ⟨rfl, rfl⟩ := heq
   split at h
   ·rename_i l' hl'
    simp at h
    subst h
    obtain ⟨h1, h2⟩ := bytesD_spec hl'
    refine ⟨by simp [h1], fun j x hj => ?_⟩
    cases j with
    | zero => simp at hj; exact ⟨n, rfl, hj.symm⟩
    | succ j => simpa using h2 j x (by simpa using hj)
   simp at h
  simp at h
theorem u8_back {n : Nat} (h : isFlat (.int .u8 (Int.ofNat n)) = true) : ((UInt8.ofNat n).toNat : Int) = Int.ofNat n := by
 simp only [isFlat, Bool.and_eq_true, decide_eq_true_eq] at h
 have h2 : IntKind.u8.max = 255 := by decide
 rw [h2] at h
 have : n < 256 := by have := h.2; simp at this; omega
 simp [Nat.mod_eq_of_lt this]
set_option maxHeartbeats 2000000 in
set_option maxRecDepth 100000 in
theorem string_exact (L : Lays.n169 P ρ) (X : Builder.Extra P ρ) (T : TypeId) (b g cap : Nat) (p : Value) (cur : Array Value) (l : List UInt8) (w : World) (h0 : l ≠ []) (hbk : w.heap[b]? = some (.cells #[p, .slice (some ⟨g, 0, none⟩) l.length cap] T (0, 0)))
  (hg : w.heap[g]? = some (.cells cur (ρ.t 5) (0, 0))) (hcap : l.length <= cap) (hlc : l.length <= cur.size) (hmax : l.length <= maxLen) (hby : ∀ (j : Nat) x, l[j]? = some x -> w.cell? ⟨g, j, none⟩ = some (.int .u8 x.toNat)) :
  Calls P (ρ.f 169) #[.pointer (some ⟨b, 0, none⟩)] w fun e w' => e = .returned (.string ⟨l.toArray⟩) /\ w' = w.drew.freeze ⟨g, 0, none⟩ l.length := by
 have hl0 : l.length ≠ 0 := by simpa using h0
 have c1 : w.drew.cell? ⟨b, 1, none⟩ = some (.slice (some ⟨g, 0, none⟩) l.length cap) := by
  have : w.drew.heap[b]? = some (.cells #[p, .slice (some ⟨g, 0, none⟩) l.length cap] T (0, 0)) := hbk
  rw [Lib.cell_of_heap this]; rfl
 have hSD : (Builtin.unsafeSliceData_ #[(ρ.t 37)] (ρ.t 127) #[.slice (some ⟨g, 0, none⟩) l.length cap]).run P w.drew = .ok (.pointer (some ⟨g, 0, none⟩)) w.drew :=
  Lib.run_unsafeSliceData_row _ _ _ _ _ _ (by omega)
 have hUS : (Builtin.unsafeString_ #[(ρ.t 127), (ρ.t 3)] (ρ.t 9) #[.pointer (some ⟨g, 0, none⟩), .int .i64 l.length]).run P w.drew = .ok (.string ⟨l.toArray⟩) (w.drew.freeze ⟨g, 0, none⟩ l.length) := by
  refine Lib.run_unsafeString_row w.drew (ρ.t 127) (ρ.t 3) (ρ.t 9) (ρ.t 5) L.t127 X.cellsByte g cur.size (by have hg' : w.drew.heap[g]? = some (.cells cur (ρ.t 5) (0, 0)) := hg; simp [World.shape?, hg']) l h0 (by omega) (by unfold maxLen at hmax; omega) ?_
  intro j x hx
  rw [add_plain, Nat.zero_add]
  exact hby j x hx
 have mixed := L.mixed
 have t72 := L.t72; have a72 := L.a72; have z72 := L.z72; have v72 := L.v72; have u72 := run_underlying L.t72
 have t70 := L.t70; have a70 := L.a70; have z70 := L.z70; have v70 := L.v70; have u70 := run_underlying L.t70
 have t37 := L.t37; have a37 := L.a37; have z37 := L.z37; have v37 := L.v37; have u37 := run_underlying L.t37
 have t127 := L.t127; have a127 := L.a127; have z127 := L.z127; have v127 := L.v127; have u127 := run_underlying L.t127
 have t3 := L.t3; have a3 := L.a3; have z3 := L.z3; have v3 := L.v3; have u3 := run_underlying L.t3
 have t9 := L.t9; have a9 := L.a9; have z9 := L.z9; have v9 := L.v9; have u9 := run_underlying L.t9
 have t5 := X.t5; have a5 := X.a5; have z5 := X.z5; have v5 := X.v5; have u5 := run_underlying X.t5
 go_enter L.f169, Body.n169_ntmps ρ
 go_wp2
 go_region_o
 all_goals (go_wp2; go_ret; exact ⟨rfl, rfl⟩)
set_option maxHeartbeats 2000000 in
set_option maxRecDepth 100000 in
theorem string_nil (L : Lays.n169 P ρ) (X : Builder.Extra P ρ) (T : TypeId) (b : Nat) (p : Value) (w : World) (hbk : w.heap[b]? = some (.cells #[p, .slice none 0 0] T (0, 0))) :
  Calls P (ρ.f 169) #[.pointer (some ⟨b, 0, none⟩)] w fun e w' => e = .returned (.string .empty) /\ w' = w.drew := by
 have c1 : w.drew.cell? ⟨b, 1, none⟩ = some (.slice none 0 0) := by
  have : w.drew.heap[b]? = some (.cells #[p, .slice none 0 0] T (0, 0)) := hbk
  rw [Lib.cell_of_heap this]; rfl
 have hSD : (Builtin.unsafeSliceData_ #[(ρ.t 37)] (ρ.t 127) #[.slice none 0 0]).run P w.drew = .ok (.pointer none) w.drew := rfl
 have hUS : (Builtin.unsafeString_ #[(ρ.t 127), (ρ.t 3)] (ρ.t 9) #[.pointer none, .int .i64 0]).run P w.drew = .ok (.string .empty) w.drew :=
  Lib.run_unsafeString_none (w := w.drew) (ρ.t 127) (ρ.t 3) (ρ.t 9) none
 have mixed := L.mixed
 have t72 := L.t72; have a72 := L.a72; have z72 := L.z72; have v72 := L.v72; have u72 := run_underlying L.t72
 have t70 := L.t70; have a70 := L.a70; have z70 := L.z70; have v70 := L.v70; have u70 := run_underlying L.t70
 have t37 := L.t37; have a37 := L.a37; have z37 := L.z37; have v37 := L.v37; have u37 := run_underlying L.t37
 have t127 := L.t127; have a127 := L.a127; have z127 := L.z127; have v127 := L.v127; have u127 := run_underlying L.t127
 have t3 := L.t3; have a3 := L.a3; have z3 := L.z3; have v3 := L.v3; have u3 := run_underlying L.t3
 have t9 := L.t9; have a9 := L.a9; have z9 := L.z9; have v9 := L.v9; have u9 := run_underlying L.t9
 have t5 := X.t5; have a5 := X.a5; have z5 := X.z5; have v5 := X.v5; have u5 := run_underlying X.t5
 go_enter L.f169, Body.n169_ntmps ρ
 go_wp2
 go_region_o
 all_goals (go_wp2; go_ret; exact ⟨rfl, rfl⟩)
theorem freeze_heap_other {w : World} {g n c : Nat} (h : c ≠ g) : (w.freeze ⟨g, 0, none⟩ n).heap[c]? = w.heap[c]? := by
 unfold World.freeze
 split
 ·rfl
 simp only [Array.getElem?_modify]
 rw [if_neg (fun e => h e.symm)]
theorem freeze_heap_self {w : World} {g n : Nat} {cs : Array Value} {t : TypeId} (h : w.heap[g]? = some (.cells cs t (0, 0))) : ∃ fr, (w.freeze ⟨g, 0, none⟩ n).heap[g]? = some (.cells cs t fr) := by
 unfold World.freeze
 split
 ·exact ⟨_, h⟩
 refine ⟨(0, 0 + n), ?_⟩
 simp only [Array.getElem?_modify, if_pos, h, Option.map_some]
 simp
theorem keep_drewB {w : World} {R : Own} (bs : List Nat) : Keep w R w.drew R bs :=
 ⟨⟨rfl, rfl, rfl, Nat.le_refl _, fun _ _ h => ⟨rfl, h⟩, fun _ _ _ h => ⟨h, rfl⟩, fun _ _ => rfl⟩, fun _ _ _ => ⟨rfl, fun _ h => h⟩⟩
theorem freeze_size {w : World} {g n : Nat} : (w.freeze ⟨g, 0, none⟩ n).heap.size = w.heap.size := by
 unfold World.freeze
 split <;> simp
theorem freeze_rest {w : World} {g n : Nat} : (w.freeze ⟨g, 0, none⟩ n).os = w.os /\ (w.freeze ⟨g, 0, none⟩ n).tape = w.tape /\ (w.freeze ⟨g, 0, none⟩ n).output = w.output := by
 unfold World.freeze
 split <;> simp
theorem keep_freeze {w : World} {R : Own} {g n : Nat} {cs : Array Value} {t : TypeId} (hg : w.heap[g]? = some (.cells cs t (0, 0))) (hR : ∃ off, R g off) (bs : List Nat) (hb : g ∉ bs) : Keep w R (w.drew.freeze ⟨g, 0, none⟩ n) R bs := by
 have hg' : w.drew.heap[g]? = some (.cells cs t (0, 0)) := hg
 obtain ⟨fr, hfr⟩ := freeze_heap_self (n := n) hg'
 obtain ⟨e1, e2, e3⟩ := freeze_rest (w := w.drew) (g := g) (n := n)
 have hoth : ∀ c, c ≠ g -> (w.drew.freeze ⟨g, 0, none⟩ n).heap[c]? = w.heap[c]? := fun c hc => freeze_heap_other hc
 refine ⟨⟨e1, e2, e3, ?_, ?_, ?_, ?_⟩, ?_⟩
 ·rw [freeze_size]; exact Nat.le_refl _
 ·intro c _ hno
  obtain ⟨off, ho⟩ := hR
  exact ⟨hoth c (fun e => hno off (e ▸ ho)), hno⟩
 ·intro c off _ hno
  refine ⟨hno, ?_⟩
  by_cases hc : c = g
  ·subst hc
   simp only [World.cell?, hg, hfr]
  exact World.cell?_of_block (a := ⟨c, off, none⟩) (hoth c hc)
 ·intro c _
  by_cases hc : c = g
  ·subst hc
   simp only [rowSize, hg, hfr]
  exact rowSize_same (hoth c hc)
 intro c hc _
 exact ⟨hoth c (fun e => hb (e ▸ hc)), fun _ h => h⟩
theorem str_some (L : Lays.n169 P ρ) (X : Builder.Extra P ρ) (hB : ρ.t 5 = byteId) {w : World} {R : Own} {N : Name -> Option Nat} {heap : Heap} {next k b : Nat} {p : AVal} {d : Dat} {es : List Dat} {l : List UInt8} {bsH bsF : List Nat}
  (hb : N (.out k) = some b) (hheap : RepObjs w R (outs N) heap bsH) (hnd : ([] ++ (bsH ++ bsF)).Nodup) (hnx : ∀ o b, N (.out o) = some b -> o < next)
  (hget : aget (.out k) heap = some (.cells [p, .own (d :: es)])) (hp : isP p = true) (hl : bytesD (d :: es) = some l) :
  Calls P (ρ.f 169) #[.pointer (some ⟨b, 0, none⟩)] w fun e w' => ∃ v cv heap' next' R' N' bsV bsH', e = .returned cv /\ XQ ⟨.dat (.flat (.string ⟨⟨l⟩⟩)), asetF (.out k) (.cells [p, .dat (.slice (d :: es))]) heap, next⟩ v heap' next' /\ RepV w' R' (outs N') v cv bsV /\ RepObjs w' R' (outs N') heap' bsH' ∧
   (bsV ++ (bsH' ++ bsF)).Nodup /\ (∀ o b, N' (.out o) = some b -> o < next') /\ Keep w R w' R' bsF /\ (∀ o b, N (.out o) = some b -> N' (.out o) = some b) := by
 obtain ⟨pre, b', b1, post, rfl, hb', hobj, hset⟩ := RepObjs.split hheap hget
 have : b' = b := by simp only [outs] at hb'; rw [hb] at hb'; simpa using hb'.symm
 subst this
 obtain ⟨v0, v1, c0, c1, hblk, rfl, h0, h1, hR⟩ := bld_block hobj hp rfl
 replace h1 := repV_own_inv h1
 obtain ⟨hll, hle⟩ := bytesD_spec hl
 rcases repOwn_inv h1 with ⟨_, he, _⟩ | ⟨g, cap, s, cur, t, rfl, rfl, hg, hs0, hs, hcap, _, hin, hrep, hsp, hty⟩
 ·simp at he
 have hd : ∃ n : Nat, d = .flat (.int .u8 (.ofNat n)) := by
  cases l with
  | nil => simp at hll
  | cons x l => obtain ⟨n, hn, _⟩ := hle 0 x rfl; simp at hn; exact ⟨n, hn⟩
 obtain ⟨n0, rfl⟩ := hd
 have hs1 : s = 1 := by have := hs _ (List.mem_cons_self ..); simpa [Dat.cells] using this.symm
 subst hs1
 have htb : t = byteId := (hty rfl).1
 have hfr := (hty rfl).2
 subst htb
 obtain ⟨g', off', cap', cells, hv, _, hcs, hcell⟩ := repC_flat hrep (by simp) hs
 simp at hv
 obtain ⟨⟨rfl, rfl⟩, rfl⟩ := hv
 have hfl : (Dat.flat (.int .u8 (.ofNat n0)) :: es).flatMap Dat.cells = Dat.flat (.int .u8 (.ofNat n0)) :: es := by
  have key : ∀ es' : List Dat, (∀ e ∈ es', ∃ n : Nat, e = .flat (.int .u8 (.ofNat n))) -> es'.flatMap Dat.cells = es' := by
   intro es'
   induction es' with
   | nil => intro _; rfl
   | cons e es' ih =>
    intro hall
    obtain ⟨n, rfl⟩ := hall e (by simp)
    simp only [List.flatMap_cons, Dat.cells, List.singleton_append]
    rw [ih (fun e he => hall e (by simp [he]))]
  refine key _ (fun e he => ?_)
  obtain ⟨j, hj⟩ := List.getElem?_of_mem he
  have hjl : j < l.length := by
   rw [hll]
   rcases Nat.lt_or_ge j (Dat.flat (.int .u8 (.ofNat n0)) :: es).length with h' | h'
   ·exact h'
   rw [List.getElem?_eq_none h'] at hj; simp at hj
  obtain ⟨n, hn, _⟩ := hle j l[j] (by simp)
  rw [hj] at hn
  simp at hn
  exact ⟨n, hn⟩
 rw [hfl] at hcs
 have hby : ∀ (j : Nat) x, l[j]? = some x -> w.cell? ⟨g, j, none⟩ = some (.int .u8 x.toNat) := by
  intro j x hx
  obtain ⟨n, hn, rfl⟩ := hle j x hx
  obtain ⟨v, hv, hrv⟩ := repCs_get hcs hn
  have hc := (hcell j v hv).1
  cases hrv with
  | flat hfv =>
   rw [Nat.zero_add] at hc
   rw [hc, u8_back hfv]
 have hlen : (Dat.flat (.int .u8 (.ofNat n0)) :: es).length = l.length := hll.symm
 have hlim := (RepC.bnd hrep)
 simp only [bndD] at hlim
 rw [hlen] at hblk hcap hlim hsp
 have hnd2 := hnd
 simp only [List.nil_append] at hnd2
 have hperm : ((pre ++ (b' :: (c0 ++ [g])) ++ post) ++ bsF).Perm (g :: (b' :: (c0 ++ (pre ++ (post ++ bsF))))) := by
  rw [List.perm_iff_count]; intro q; simp only [List.count_append, List.count_cons, List.count_nil]; omega
 have hnd3 := hperm.nodup_iff.1 hnd2
 have hgn : ∀ c ∈ b' :: (c0 ++ (pre ++ (post ++ bsF))), c ≠ g := fun c hc e => (List.nodup_cons.1 hnd3).1 (e ▸ hc)
 have hlc : l.length <= cur.size := by have : l.length * 1 <= cap * 1 := Nat.mul_le_mul_right _ hcap; omega
 refine (string_exact L X bldId b' g cap v0 cur l w (by intro e; rw [e] at hll; simp at hll) hblk (by rw [hB]; exact hg) hcap hlc (by unfold maxLen; have := hlim.1; unfold lim at this; omega) hby).mono ?_
 rintro e w' ⟨rfl, rfl⟩
 have hRg : ∃ off, R g off := ⟨cur.size, hfr _ (Nat.le_refl _)⟩
 have hk : ∀ bs : List Nat, g ∉ bs -> Keep w R (w.drew.freeze ⟨g, 0, none⟩ l.length) R bs := fun bs hbs => keep_freeze hg hRg bs hbs
 have hblk' : (w.drew.freeze ⟨g, 0, none⟩ l.length).heap[b']? = some (.cells #[v0, .slice (some ⟨g, 0, none⟩) l.length cap] bldId (0, 0)) := by
  rw [freeze_heap_other (hgn b' (by simp))]; exact hblk
 have hobj' : RepObj (w.drew.freeze ⟨g, 0, none⟩ l.length) R (outs N) (.cells [p, .dat (.slice (.flat (.int .u8 (.ofNat n0)) :: es))]) b' (c0 ++ []) := by
  refine ⟨_, bldId, 0, hblk', ?_, fun j hj => hR j (by simpa using hj), fun _ => ⟨rfl, rfl⟩⟩
  have q1 := h0.keep (hk c0 (fun hc => hgn g (by simp [hc]) rfl))
  have q2 : RepV (w.drew.freeze ⟨g, 0, none⟩ l.length) R (outs N) (.dat (.slice (.flat (.int .u8 (.ofNat n0)) :: es))) (.slice (some ⟨g, 0, none⟩) l.length cap) [] := by
   have := hrep.step (hk [] (by simp)).step
   rw [hlen] at this
   exact repV_dat (d := .slice _) this
  simpa using repVs_cons q1 (repVs_cons q2 repVs_nil)
 have hH := hset _ R _ (c0 ++ []) (hk (pre ++ post) (fun hc => hgn g (by simp at hc ⊢; rcases hc with h | h <;> simp [h]) rfl)) hobj'
 refine ⟨_, .string ⟨l.toArray⟩, _, next, R, N, [], _, rfl, ⟨rfl, rfl, rfl⟩, ?_, by rw [asetF_eq]; exact hH, ?_, hnx, hk bsF (fun hc => hgn g (by simp [hc]) rfl), fun _ _ h => h⟩
 ·refine repV_flat ?_
  simp only [isFlat, decide_eq_true_eq]
  have h2 := hlim.1
  unfold lim at h2
  have : (ByteArray.mk ⟨l⟩).size = l.length := rfl
  rw [this]
  omega
 simp only [List.nil_append, List.append_nil]
 have hp2 : (b' :: (c0 ++ (pre ++ (post ++ bsF)))).Perm ((pre ++ (b' :: c0) ++ post) ++ bsF) := by
  rw [List.perm_iff_count]; intro q; simp only [List.count_append, List.count_cons]; omega
 exact hp2.nodup_iff.1 (List.nodup_cons.1 hnd3).2
theorem c_str (L : Lays.n169 P ρ) (X : Builder.Extra P ρ) (hB : ρ.t 5 = byteId) {args : List AVal} {heap : Heap} {next : Nat} {r : XRes} (h : strX args heap next = some r) : ACalls P G (ρ.f 169) args heap next (XQ r) := by
 unfold strX at h
 split at h
 rotate_left
 ·simp at h
 rename_i k
 rw [agetF_eq] at h
 intro w R N cargs bsA bsH bsF hargs hheap hnd hnx hglob hF
 obtain ⟨b, hb, rfl, rfl⟩ := one_ptr hargs
 split at h
 ·rename_i p d es hget
  revert h
  intro h
  split at h
  rotate_left
  ·simp at h
  rename_i l hp hl
  simp only [Option.some.injEq] at h
  subst h
  exact str_some L X hB hb hheap hnd hnx hget hp hl
 ·rename_i p hget
  split at h
  rotate_left
  ·simp at h
  rename_i hp
  simp only [Option.some.injEq] at h
  subst h
  obtain ⟨pre, b', b1, post, rfl, hb', hobj, hset⟩ := RepObjs.split hheap hget
  have : b' = b := by simp only [outs] at hb'; rw [hb] at hb'; simpa using hb'.symm
  subst this
  obtain ⟨v0, v1, c0, c1, hblk, rfl, h0, h1, hR⟩ := bld_block hobj hp rfl
  obtain ⟨_, rfl, _⟩ := repV_flat_inv h1
  refine (string_nil L X bldId b' v0 w hblk).mono ?_
  rintro e w' ⟨rfl, rfl⟩
  have hk : ∀ bs : List Nat, Keep w R w.drew R bs := fun bs => keep_drewB bs
  exact ⟨_, _, _, next, R, N, [], _, rfl, ⟨rfl, rfl, rfl⟩, repV_flat rfl, hheap.keep (hk _), by simpa using hnd, hnx, hk bsF, fun _ _ h => h⟩
 simp at h
/-! ### Join -/
def strsOf : List Dat -> Option (List ByteArray)
 | [] => some []
 | .flat (.string s) :: r => (match strsOf r with | some l => some (s :: l) | none => none)
 | _ => none
def joinL (sep : List UInt8) : List ByteArray -> List UInt8
 | [] => []
 | [x] => x.data.toList
 | x :: r => x.data.toList ++ (sep ++ joinL sep r)
theorem joinL_eq (sep : List UInt8) : ∀ xs : List ByteArray, joinL sep xs = Lib.join (xs.map (·.data.toList)) sep
 | [] => rfl
 | [x] => by simp only [joinL, List.map_cons, List.map_nil]; rw [Lib.join_one]
 | x :: y :: r => by
  have ih := joinL_eq sep (y :: r)
  simp only [joinL, List.map_cons] at ih ⊢
  rw [Lib.join_cons] at ih ⊢
  rw [ih]
  simp [Lib.joinTail]
def joinX (args : List AVal) (heap : Heap) (next : Nat) : Option XRes :=
 match args with
 | [a, .dat (.flat (.string sep))] => (match nz a with
  | .dat (.slice es) => (match strsOf es with
   | some xs => (match Nat.ble (joinL sep.data.toList xs).length 140737488355328 && Nat.ble xs.length 140737488355328 with
    | true => some ⟨.dat (.flat (.string ⟨⟨joinL sep.data.toList xs⟩⟩)), heap, next⟩
    | false => none)
   | none => none)
  | _ => none)
 | _ => none
theorem strsOf_spec : ∀ {es : List Dat} {xs : List ByteArray}, strsOf es = some xs -> xs.length = es.length /\ ∀ (j : Nat) x, xs[j]? = some x -> es[j]? = some (.flat (.string x))
 | [], l, h => by simp [strsOf] at h; subst h; exact ⟨rfl, fun j x hj => by simp at hj⟩
 | d :: r, l, h => by
  unfold strsOf at h
  split at h
  ·simp at *
  ·rename_i s r' heq
   simp at heq
   obtain ⟨rfl, rfl⟩ := heq
   split at h
   ·rename_i l' hl'
    simp at h
    subst h
    obtain ⟨h1, h2⟩ := strsOf_spec hl'
    refine ⟨by simp [h1], fun j x hj => ?_⟩
    cases j with
    | zero => simp at hj; simp [hj]
    | succ j => simpa using h2 j x (by simpa using hj)
   simp at h
  simp at h
/-- A call that leaves what lay there as it was. -/
theorem keep_below {w w' : World} {R : Own} (h : Below w.heap.size w w') (bs : List Nat) : Keep w R w' (fun b off => b < w.heap.size /\ R b off) bs :=
 ⟨⟨h.os, h.tape, h.output, h.size, fun b hb hno => ⟨h.block b hb, fun off hr => hno off hr.2⟩, fun b off hb hno => ⟨fun hr => hno hr.2, World.cell?_of_block (a := ⟨b, off, none⟩) (h.block b hb)⟩, fun b hb => rowSize_same (h.block b hb)⟩,
  fun b _ hb => ⟨h.block b hb, fun off hr => ⟨hb, hr⟩⟩⟩
theorem c_join (L : Lays.n156 P ρ) (X : Builder.Extra P ρ) {args : List AVal} {heap : Heap} {next : Nat} {r : XRes} (h : joinX args heap next = some r) : ACalls P G (ρ.f 156) args heap next (XQ r) := by
 unfold joinX at h
 split at h
 rotate_left
 ·simp at h
 rename_i a sep
 split at h
 rotate_left
 ·simp at h
 rename_i es hnz
 split at h
 rotate_left
 ·simp at h
 rename_i xs hxs
 split at h
 rotate_left
 ·simp at h
 rename_i hc
 simp only [Bool.and_eq_true, Nat.ble_eq] at hc
 simp only [Option.some.injEq] at h
 subst h
 intro w R N cargs bsA bsH bsF hargs hheap hnd hnx hglob hF
 obtain ⟨v0, r1, c0, d1, rfl, rfl, h0, hr1⟩ := repVs_cons_inv hargs
 obtain ⟨v1, r2, c1, d2, rfl, rfl, h1, hr2⟩ := repVs_cons_inv hr1
 obtain ⟨rfl, rfl⟩ := repVs_nil_inv hr2
 replace h0 := repV_nz h0
 rw [hnz] at h0
 obtain ⟨rfl, hxr⟩ := repV_slice_inv h0
 obtain ⟨rfl, rfl, _⟩ := repV_flat_inv h1
 obtain ⟨hxl, hxe⟩ := strsOf_spec hxs
 have fin : ∀ {w' : World}, Below w.heap.size w w' -> ∃ v cv heap' next' R' N' bsV bsH', Ending.returned (.string ⟨(Lib.join (xs.map (·.data.toList)) sep.data.toList).toArray⟩) = .returned cv /\ XQ ⟨.dat (.flat (.string ⟨⟨joinL sep.data.toList xs⟩⟩)), heap, next⟩ v heap' next' /\ RepV w' R' (outs N') v cv bsV /\ RepObjs w' R' (outs N') heap' bsH' ∧
   (bsV ++ (bsH' ++ bsF)).Nodup /\ (∀ o b, N' (.out o) = some b -> o < next') /\ Keep w R w' R' bsF /\ (∀ o b, N (.out o) = some b -> N' (.out o) = some b) := by
  intro w' hb
  refine ⟨_, _, _, next, _, N, [], bsH, rfl, ⟨rfl, rfl, rfl⟩, ?_, hheap.keep (keep_below hb bsH), by simpa using hnd, hnx, keep_below hb bsF, fun _ _ h => h⟩
  rw [← joinL_eq]
  refine repV_flat ?_
  simp only [isFlat, decide_eq_true_eq]
  have : (ByteArray.mk ⟨joinL sep.data.toList xs⟩).size = (joinL sep.data.toList xs).length := rfl
  rw [this]
  omega
 by_cases hne : es = []
 ·subst hne
  have hx0 : xs = [] := by simpa using hxl
  subst hx0
  have hv : ∃ a c, v0 = .slice a 0 c := by cases hxr with | nil a c => exact ⟨a, c, rfl⟩ | slice b off cap s es vs => exact ⟨_, _, rfl⟩
  obtain ⟨a, c, rfl⟩ := hv
  refine (Any.strings_Join_none L X a c sep w).mono ?_
  rintro e w' ⟨rfl, rfl⟩
  exact fin (Below.refl _ _)
 have hs1 : ∀ d ∈ es, d.cells.length = 1 := by
  intro d hd
  obtain ⟨j, hj⟩ := List.getElem?_of_mem hd
  have hjl : j < xs.length := by
   rw [hxl]
   rcases Nat.lt_or_ge j es.length with h' | h'
   ·exact h'
   rw [List.getElem?_eq_none h'] at hj; simp at hj
  have := hxe j xs[j] (by simp)
  rw [hj] at this
  simp at this
  rw [this]; rfl
 obtain ⟨bk, off, cap, cells, rfl, hcap, hcs, hcell⟩ := repC_flat hxr hne hs1
 have hfl : es.flatMap Dat.cells = es := by
  have key : ∀ (es' : List Dat), (∀ e ∈ es', ∃ s, e = Dat.flat (.string s)) -> es'.flatMap Dat.cells = es' := by
   intro es'
   induction es' with
   | nil => intro _; rfl
   | cons e es' ih =>
    intro hall
    obtain ⟨s, rfl⟩ := hall e (by simp)
    simp only [List.flatMap_cons, Dat.cells, List.singleton_append]
    rw [ih (fun e he => hall e (by simp [he]))]
  refine key _ (fun e he => ?_)
  obtain ⟨j, hj⟩ := List.getElem?_of_mem he
  have hjl : j < xs.length := by
   rw [hxl]
   rcases Nat.lt_or_ge j es.length with h' | h'
   ·exact h'
   rw [List.getElem?_eq_none h'] at hj; simp at hj
  have := hxe j xs[j] (by simp)
  rw [hj] at this
  simp at this
  exact ⟨_, this⟩
 rw [hfl] at hcs
 have hcells : ∀ (j : Nat) x, xs[j]? = some x -> w.cell? ⟨bk, off + j, none⟩ = some (.string x) := by
  intro j x hx
  obtain ⟨v, hv, hrv⟩ := repCs_get hcs (hxe j x hx)
  have hc := (hcell j v hv).1
  cases hrv with
  | flat _ => exact hc
 have hpos : 0 < xs.length := by
  rcases Nat.eq_zero_or_pos xs.length with h' | h'
  ·rw [hxl] at h'; exact absurd (List.eq_nil_of_length_eq_zero h') hne
  exact h'
 have hbk : bk < w.heap.size := by
  have := hcells 0 xs[0] (by simp)
  exact block_lt_of_cell this
 rw [← hxl]
 refine (Any.strings_Join L X bk off cap xs sep w hcells hbk hc.2 (by rw [hxl]; exact hcap) (by rw [← joinL_eq]; exact hc.1)).mono ?_
 rintro e w' ⟨rfl, hb⟩
 exact fin hb
end
end Go.Tp

namespace Go.Tp
open Go.Proofs Go.Shelf Go.RowKit Go.Sort
/-- A table's numbers, as data. -/
def tabD (k : IntKind) (zs : List Int) : List Dat := zs.map fun z => .flat (.int k z)
/-- A package-level variable that holds a table of integers. -/
theorem glob_tab {P : Program} {W : World} {name : String} {g n : Nat} {t e : TypeId} {k : IntKind} {zs : List Int} (hg : P.globalNamed name = some g) (hty : (P.globals[g]?).map (·.type) = some t) (ht : P.underlying t = some (.array n e)) (he : P.underlying e = some (.int k)) (hce : P.cellsOf e = 1) (hct : P.cellsOf t = n)
  (hz : (zs.all fun z => isFlat (.int k z)) = true) (h : ∃ g t cs fuel p, P.globalNamed name = some g /\ (P.globals[g]?).map (·.type) = some t /\ W.var? P name = some cs /\ DataW.trod (fun _ => ()) P W 0 (fun _ => true) false fuel t cs.toList = some (Lib.tabData k zs, p)) :
  GlobAt W noOwn g (tabD k zs) := by
 obtain ⟨g', t', cs, fuel, p, hg', ht', hvar, hd⟩ := h
 obtain rfl := Option.some.inj (hg.symm.trans hg')
 obtain rfl := Option.some.inj (hty.symm.trans ht')
 have hcell := World.var?_cell hg hvar
 have hcs := Lib.cells_of_tab ht he hce hct hd
 have hl : (tabD k zs).length = zs.length := by simp [tabD]
 refine ⟨?_, by rw [hl]; exact glob_size hg hvar (by rw [← Array.length_toList, hcs]; simp)⟩
 have key : ∀ (ys : List Int) (off : Nat), zs.drop off = ys -> RepAt W noOwn g off (tabD k ys) := by
  intro ys
  induction ys with
  | nil => intro off _; trivial
  | cons y ys ih =>
   intro off ho
   have h1 : zs[off]? = some y := by
    have := congrArg (fun l : List Int => l[0]?) ho
    simpa using this
   refine ⟨⟨.int k y, ?_, fun h => h, .flat ?_⟩, ih (off + 1) ?_⟩
   ·rw [hcell off, ← Array.getElem?_toList, hcs]
    simp [h1]
   ·exact List.all_eq_true.1 hz y (List.mem_of_getElem? h1)
   rw [← List.drop_drop, ho]; rfl
 exact key zs 0 rfl
variable {P : Program} {ρ : Ren} {G : Globs}
end Go.Tp

namespace Go.Proofs.YtmpmgmmcaghacaaGreatDoor
open Go.Tp Go.Shelf
def encS (l : List (List UInt8)) : List Dat := l.map fun b => .flat (.string ⟨⟨b⟩⟩)
def anyN : List (List UInt8) := [[66, 111, 120], [73, 110, 116], [80, 97, 105, 114], [65], [120, 95, 49], [], [116, 117, 112, 108, 101], [65, 110, 121], [49, 120], [97, 45, 98], [97, 98, 99, 100, 101, 102, 103, 104, 105, 106, 107, 108, 109, 110, 111, 112, 113, 114, 115, 116, 117, 118, 119, 120, 121]]
def strN : List (List UInt8) := [[], [97, 32, 98], [113, 117, 111, 116, 101, 32, 34, 32, 97, 110, 100, 32, 92], [126], [40, 110, 111, 116, 32, 97, 32, 108, 105, 115, 116, 41], [59, 32, 110, 111, 32, 99, 111, 109, 109, 101, 110, 116]]
def funN : List (List UInt8) := [[102], [103], [104]]
def fldN : List (List UInt8) := [[105, 116, 101, 109], [114, 97, 100, 105, 117, 115], [102, 105, 114, 115, 116], [105, 110, 110, 101, 114], [112, 97, 114, 116], [110, 111, 110, 101]]
def primN : List (List UInt8) := [[], [97, 100, 100], [115, 117, 98], [109, 117, 108], [108, 101, 115, 115], [110, 111, 116], [99, 111, 110, 99, 97, 116], [115, 97, 109, 101]]
def leafN : List (List UInt8) := [[73, 110, 116], [66, 111, 111, 108], [83, 116, 114, 105, 110, 103], [78, 105, 108]]
def resv : List (List UInt8) := [[65, 110, 121], [78, 101, 118, 101, 114], [116, 117, 112, 108, 101], [117, 110, 105, 111, 110], [101, 120, 105, 115, 116, 115]]
def xglobs : Globs := fun g => match g with | 4 => some [.slice (encS primN)] | 8 => some [.slice (encS resv)] | 6 => some (tabD .u64 Go.Lib.pow10Tab) | _ => none
theorem envF : (env Prims.fast).Ok Tryz.prog := by rw [fast_std]; exact env_ok
/-- Contracts of the library's functions. -/
def libX : XCalls := fun g args heap next =>
 match g with
 | 72 => copyX args heap next
 | 44 => strX args heap next
 | 77 => joinX args heap next
 | _ => none
theorem lays240J : Lays.n240 Tryz.prog Tryz.lays156_ren :=
 {mixed := Tryz.lays156.mixed, f240 := Tryz.lays156.f240, f276 := Tryz.lays156.f276,
  t0 := Tryz.lays156.t0, a0 := Tryz.lays156.a0, z0 := Tryz.lays156.z0, v0 := Tryz.lays156.v0,
  t4 := Tryz.lays156.t4, a4 := Tryz.lays156.a4, z4 := Tryz.lays156.z4, v4 := Tryz.lays156.v4,
  t9 := Tryz.lays156.t9, a9 := Tryz.lays156.a9, z9 := Tryz.lays156.z9, v9 := Tryz.lays156.v9,
  t20 := Tryz.lays156.t20, a20 := Tryz.lays156.a20, z20 := Tryz.lays156.z20, v20 := Tryz.lays156.v20,
  t70 := Tryz.lays156.t70, a70 := Tryz.lays156.a70, z70 := Tryz.lays156.z70, v70 := Tryz.lays156.v70,
  t72 := Tryz.lays156.t72, a72 := Tryz.lays156.a72, z72 := Tryz.lays156.z72, v72 := Tryz.lays156.v72,
  t164 := Tryz.lays156.t164, a164 := Tryz.lays156.a164, z164 := Tryz.lays156.z164, v164 := Tryz.lays156.v164 }
theorem libX_ok : XOk Tryz.prog xglobs libX := by
 intro f args heap next r h
 unfold libX at h
 split at h
 ·exact c_copy (ρ := Tryz.lays156_ren) lays240J Tryz.Builder_Extra_156.toX72 rfl h
 ·exact c_str (ρ := Tryz.lays169_ren) Tryz.lays169 Tryz.Builder_Extra_169 rfl h
 ·exact c_join (ρ := Tryz.lays156_ren) Tryz.lays156 Tryz.Builder_Extra_156 h
 simp at h
noncomputable def X : XCalls := fcall (env Prims.fast) xglobs xmoves xcaps ftab.find libX 3000 60
theorem X_ok : XOk Tryz.prog xglobs X := fun f args heap next r h => fcall_sound 3000 envF ftab_ok (M := libX) libX_ok 60 f args heap next r h
theorem call_of (ls bs : List Nat) {g : FuncId} {x : XFn} (hx : ftab.find g = some x) {args : List AVal} {heap : Heap} {next : Nat} {r : XRes} (h : (qfun (inL ls) (inL bs) (env Prims.fast) xglobs xmoves xcaps x g args heap next).Ok Tryz.prog xglobs (fun y => y = r)) :
  ACalls Tryz.prog xglobs g args heap next (XQ r) := acalls_eq (qfun_ok envF ftab_ok hx (fun _ _ => h))
abbrev KD := ACode Tryz.prog xglobs
abbrev KC := ACalls Tryz.prog xglobs
theorem co (ls bs : List Nat) {g : FuncId} {x : XFn} {args : List AVal} {heap : Heap} {next : Nat} {r : XRes} (h : (qfun (inL ls) (inL bs) (env Prims.fast) xglobs xmoves xcaps x g args heap next).Ok Tryz.prog xglobs (fun y => y = r)) (hx : ftab.find g = some x := by kernel_rfl) : ACalls Tryz.prog xglobs g args heap next (XQ r) := call_of ls bs hx h
theorem run_of (ls bs : List Nat) {H : Hints} {n : Nat} {live : Nat -> Nat} {c : Code} (hc : chkAll H c = true) {f : FState} {T : Exit -> AState -> Prop}
  (h : (qcode (inL ls) (inL bs) (env Prims.fast) xglobs H n live c f (fun r => .fin r)).Ok Tryz.prog xglobs (fun r => T r.1 (r.2.toA n))) : ACode Tryz.prog xglobs c T (f.toA n) := qcode_run envF live hc h
theorem ok_boolN {α : Type} {T : α -> Prop} {q : Qy α} {c b : Bool} (hc : c = b) (e : q.bool? = some (!c)) (h : (q.ofB (!b)).Ok Tryz.prog xglobs T) : q.Ok Tryz.prog xglobs T := ok_bool (by rw [hc]) e h
abbrev Calls1 (g : FuncId) (args : List AVal) (v : AVal) : Prop := ACalls Tryz.prog xglobs g args [] 0 (XQ ⟨v, [], 0⟩)
def i64 (n : Int) : Dat := .flat (.int .i64 n)
def sb (b : List UInt8) : Dat := .flat (.string ⟨⟨b⟩⟩)
def nl : Dat := .flat (.slice none 0 0)
/-- A slice, nil where it is empty. -/
def sl : List Dat -> Dat
 | [] => nl
 | d :: r => .slice (d :: r)
inductive Ty where
 |mk (k : Int) (nm : List UInt8) (ix : Int) (args : List Ty)
mutual
def Ty.cells : Ty -> List Dat
 | .mk k nm ix args => [i64 k, sb nm, i64 ix, sl (encL args)]
def encL : List Ty -> List Dat
 | [] => []
 | t :: r => .agg t.cells :: encL r
end
def Ty.enc (t : Ty) : Dat := .agg t.cells
def Ty.args : Ty -> List Ty
 | .mk _ _ _ a => a
mutual
def Ty.size : Ty -> Nat
 | .mk _ _ _ args => sizeL args + 1
def sizeL : List Ty -> Nat
 | [] => 0
 | t :: r => t.size + sizeL r
end
/-! ### Size -/
/-! ### Depth -/
mutual
def Ty.depth : Ty -> Nat
 | .mk _ _ _ args => depthL args + 1
def depthL : List Ty -> Nat
 | [] => 0
 | t :: r => max t.depth (depthL r)
end
/-! ### Closed terms -/
def bindN (k : Int) (i : Nat) : Nat := if eqF k 6 = true /\ i = 1 then 1 else 0
mutual
def Ty.closed : Ty -> Nat -> Bool
 | .mk k _ ix args, u => !(eqF k 5 && !ltF ix (Int.ofNat u)) && closedL k 0 args u
def closedL (k : Int) : Nat -> List Ty -> Nat -> Bool
 | _, [], _ => true
 | i, t :: r, u => t.closed (u + bindN k i) && closedL k (i + 1) r u
end
theorem drop_get {l : List Ty} {i : Nat} {t : Ty} (h : l[i]? = some t) : l.drop i = t :: l.drop (i + 1) := by
 obtain ⟨hi, rfl⟩ := List.getElem?_eq_some_iff.1 h
 exact List.drop_eq_getElem_cons hi
/-! ### plainArgsF -/
/-! ### validNodesF -/
/-! ### Plain terms -/
mutual
def Ty.plain : Ty -> Bool
 | .mk k nm ix args => eqF k 5 || (Ty.mk k nm ix args).closed 0 || (eqF k 2 && !anyNP args)
def anyNP : List Ty -> Bool
 | [] => false
 | t :: r => !t.plain || anyNP r
end
def letterN (n : Nat) : Bool := (Nat.ble 97 n && Nat.ble n 122) || (Nat.ble 65 n && Nat.ble n 90)
def wordN (n : Nat) : Bool := letterN n || (Nat.ble 48 n && Nat.ble n 57) || Nat.beq n 95 || Nat.beq n 45
def identN (n : Nat) : Bool := !Nat.beq n 45 && wordN n
def isIdent : List UInt8 -> Bool
 | [] => false
 | c :: r => Nat.ble (r.length + 1) 24 && letterN c.toNat && (c :: r).all (fun c => identN c.toNat)
/-! ### The reserved words -/
def isResv (b : List UInt8) : Bool := resv.any (fun r => eqB b r)
def cmpI (x y : Int) : Int := match ltF x y with | true => -1 | false => (match ltF y x with | true => 1 | false => 0)
def cmpS (x y : List UInt8) : Int := match ltB x y with | true => -1 | false => (match !(ltB x y || eqB x y) with | true => 1 | false => 0)
def orI : List Int -> Int
 | [] => 0
 | x :: r => match eqF x 0 with | true => orI r | false => x
theorem eqF_self (x : Int) : eqF x x = true := by rw [eqF_eq]; simp
/-! ### The first that is not 0 -/
/-! ### Terms -/
mutual
def cmpT : Ty -> Ty -> Int
 | .mk k nm ix l, .mk k2 nm2 ix2 l2 => match eqF (orI [cmpI k k2, cmpS nm nm2, cmpI ix ix2, cmpI (Int.ofNat (encL l).length) (Int.ofNat (encL l2).length)]) 0 with
  | true => cmpL l l2
  | false => orI [cmpI k k2, cmpS nm nm2, cmpI ix ix2, cmpI (Int.ofNat (encL l).length) (Int.ofNat (encL l2).length)]
def cmpL : List Ty -> List Ty -> Int
 | t :: r, u :: v => match eqF (cmpT t u) 0 with | true => cmpL r v | false => cmpT t u
 | _, _ => 0
end
def eqT (t u : Ty) : Bool := eqF (cmpT t u) 0
structure Fld where
 nm : List UInt8
 ty : Ty
structure Dcl where
 nm : List UInt8
 ar : Int
 sup : Ty
 con : Bool
 fl : List Fld
def bl (b : Bool) : Dat := .flat (.bool b)
def Fld.cells (f : Fld) : List Dat := sb f.nm :: f.ty.cells
def Fld.enc (f : Fld) : Dat := .agg f.cells
def encF : List Fld -> List Dat
 | [] => []
 | f :: r => f.enc :: encF r
def Dcl.cells (d : Dcl) : List Dat := sb d.nm :: i64 d.ar :: (d.sup.cells ++ [bl d.con, sl (encF d.fl)])
def Dcl.enc (d : Dcl) : Dat := .agg d.cells
def Dcl.zero : Dcl := ⟨[], 0, .mk 0 [] 0 [], false, []⟩
def av (l : List Dat) : List AVal := l.map .dat
def rowC : List Dcl -> List Dat
 | [] => []
 | d :: r => d.cells ++ rowC r
def ent (d : Dcl) (i : Nat) : Go.Value × Dat := (.string ⟨⟨d.nm⟩⟩, i64 (Int.ofNat i))
def idxD : List Dcl -> Nat -> List (Go.Value × Dat)
 | [], _ => []
 | d :: r, i => ent d i :: idxD r (i + 1)
def hP : AVal := .ptr (.out 1) 0
/-- A hierarchy: the row, the object, the index. -/
def hG (r : Nat) (cs : List AVal) (es : List (Go.Value × Dat)) (n : Nat) : Heap := [(.out r, .cells cs), (.out 1, .cells [.win (.out r) 8 0 n, .map (.out 0)]), (.out 0, .map es)]
def isS {α : Type} (o : Option α) : Bool := match o with | some _ => true | none => false
def hH (r : Nat) (ds : List Dcl) (tl : List Dat) : Heap := hG r (av (rowC ds ++ tl)) (idxD ds 0) ds.length
/-! ### A search below a closure that reads the hierarchy -/
def box : Name × AObj := (.out 3, .cells [hP])
def hB (cs : List Dat) (es : List (Go.Value × Dat)) (n : Nat) : Heap := box :: hG 2 (av cs) es n
/-! ### The contracts -/
end Go.Proofs.YtmpmgmmcaghacaaGreatDoor

namespace Go.Proofs
open Go.Shelf
end Go.Proofs

namespace Go.Tp
open Go.Proofs Go.Shelf Go.RowKit
def ivs (l : List Int) : List AVal := l.map iv
def ints (l : List Int) : List Value := l.map (Value.int .i64)
section
variable {w : World} {R : Own} {N : Name -> Option Nat}
theorem ivs_inv : ∀ {l : List Int} {us : List Value} {bs : List Nat}, RepVs w R N (ivs l) us bs -> us = ints l /\ bs = [] /\ ∀ x ∈ l, isFlat (.int .i64 x) = true
 | [], us, bs, h => by obtain ⟨rfl, rfl⟩ := repVs_nil_inv h; simp [ints]
 | x :: l, us, bs, h => by
  have h : RepVs w R N (iv x :: ivs l) us bs := h
  obtain ⟨v, vs', b1, b2, rfl, rfl, h1, h2⟩ := repVs_cons_inv h
  obtain ⟨rfl, rfl, h3⟩ := ivs_inv h2
  simp only [RepV] at h1
  obtain ⟨rfl, h1⟩ := h1
  have h1 : RepC w R v (.flat (.int .i64 x)) := h1
  cases h1 with
  | flat hf => exact ⟨rfl, rfl, by rintro y hy; rcases List.mem_cons.1 hy with rfl | hy; exact hf; exact h3 y hy⟩
theorem ivs_mk : ∀ {l : List Int}, (∀ x ∈ l, isFlat (.int .i64 x) = true) -> RepVs w R N (ivs l) (ints l) []
 | [], _ => repVs_nil
 | x :: l, h => by
  have h1 : RepV w R N (iv x) (.int .i64 x) [] := by
   simp only [RepV]
   exact ⟨trivial, .flat (h x (by simp))⟩
  exact repVs_cons (b1 := []) (b2 := []) h1 (ivs_mk (l := l) (fun y hy => h y (by simp [hy])))
end
section
variable {P : Program} {ρ : Ren} {G : Globs}
/-- The row with one more. -/
def insAt (l : List Int) (i : Nat) (x : Int) : List Int := l.take i ++ x :: l.drop i
theorem ivs_bld (l : List Int) : bldSh (ivs l) = false := by
 rcases l with _ | ⟨a, _ | ⟨b, _ | ⟨c, r⟩⟩⟩ <;> rfl
theorem undefs_bs {w : World} {R : Own} {N : Name -> Option Nat} : ∀ {n : Nat} {us : List Value} {bs : List Nat}, RepVs w R N (List.replicate n .undef) us bs -> bs = [] /\ us.length = n
 | 0, us, bs, h => by obtain ⟨rfl, rfl⟩ := repVs_nil_inv h; exact ⟨rfl, rfl⟩
 | n + 1, us, bs, h => by
  have h : RepVs w R N (.undef :: List.replicate n .undef) us bs := h
  obtain ⟨v, vs', b1, b2, rfl, rfl, h1, h2⟩ := repVs_cons_inv h
  obtain ⟨rfl, h3⟩ := undefs_bs h2
  simp only [RepV] at h1
  subst h1
  exact ⟨rfl, by simp [h3]⟩
end
end Go.Tp

namespace Go.Proofs.YtmpmgmmcaghacaaGreatDoor
open Go.Tp
/-- A set of integers: the row's name, its elements. -/
def hS (r : Nat) : List Int -> Heap
 | [] => [(.out 0, .cells [.dat nl])]
 | x :: l => [(.out r, .cells (ivs (x :: l))), (.out 0, .cells [.win (.out r) 1 0 (x :: l).length])]
def hR (r : Nat) (l : List Int) (n : Nat) : Heap := [(.out r, .cells (ivs l)), (.out 0, .cells [.win (.out r) 1 0 n])]
/-! ### BinarySearch, Insert, beside the set -/
/-! ### add -/
def setAdd (l : List Int) (x : Int) : List Int := match l.contains x with | true => l | false => insAt l (l.countP (· < x)) x
/-! ### collectFree -/
/-- What a root gives. -/
def rootF (k ix : Int) (u : Nat) (s : List Int) : List Int := match eqF k 5 with | false => s | true => (match ltF ix (Int.ofNat u) with | true => s | false => setAdd s (ix - Int.ofNat u))
mutual
def Ty.cf : Ty -> Nat -> List Int -> List Int
 | .mk k _ ix args, u, s => cfL k args 0 u (rootF k ix u s)
def cfL (k : Int) : List Ty -> Nat -> Nat -> List Int -> List Int
 | [], _, _, s => s
 | t :: r, j, u, s => cfL k r (j + 1) u (t.cf (u + bindN k j) s)
end
/-! ### FreeVars -/
def iN (x : Int) : Dat := .flat (.int .i64 x)
def Ty.fv (t : Ty) : List Int := t.cf 0 []
/-- A slice; where it is empty, nil or not. -/
def sx (z : Bool) : List Dat -> Dat
 | [] => (match z with | true => .slice [] | false => nl)
 | d :: r => .slice (d :: r)
structure Ins where
 op : Int
 dst : Int
 a : Int
 b : Int
 im : Int
 nm : List UInt8
 az : Bool
 ar : List Int
 ty : Ty
 ck : Int
 ci : Int
 cs : List UInt8
def Ins.cells (x : Ins) : List Dat := [i64 x.op, i64 x.dst, i64 x.a, i64 x.b, i64 x.im, sb x.nm, sx x.az (x.ar.map iN)] ++ (x.ty.cells ++ [i64 x.ck, i64 x.ci, sb x.cs, nl])
def Ins.enc (x : Ins) : Dat := .agg x.cells
def encI : List Ins -> List Dat
 | [] => []
 | x :: r => x.enc :: encI r
theorem encI_map : ∀ l : List Ins, encI l = l.map Ins.enc
 | [] => rfl
 | x :: r => by simp [encI, encI_map r]
theorem encI_length (l : List Ins) : (encI l).length = l.length := by simp [encI_map]
theorem encI_get {l : List Ins} {i : Nat} {t : Ins} (h : l[i]? = some t) : (encI l)[i]? = some t.enc := by simp [encI_map, h]
theorem icells (x : Ins) : x.cells.length = 15 := by
 obtain ⟨op, dst, a, b, im, nm, az, ar, ⟨k, tn, ix, la⟩, ck, ci, cs⟩ := x
 rfl
mutual
inductive Cde where
 |mk (pa sl : Int) (iz : Bool) (ins : List Ins) (ez : Bool) (eds : List (List Edt))
inductive Edt where
 |mk (kind : Int) (decl : Dcl) (func : List UInt8) (sig : Ty) (pa : Int) (code : Cde) (pkg : List UInt8)
end
mutual
def Cde.cells : Cde -> List Dat
 | .mk pa s iz ins ez eds => [i64 pa, i64 s, sx iz (encI ins), sx ez (encEE eds)]
def encEE : List (List Edt) -> List Dat
 | [] => []
 | l :: r => .slice (encE l) :: encEE r
def encE : List Edt -> List Dat
 | [] => []
 | e :: r => .agg e.cells :: encE r
def Edt.cells : Edt -> List Dat
 | .mk k d f sg pa c pk => i64 k :: (d.cells ++ (sb f :: (sg.cells ++ (i64 pa :: (c.cells ++ [sb pk])))))
end
def Cde.enc (c : Cde) : Dat := .agg c.cells
def Edt.enc (e : Edt) : Dat := .agg e.cells
def Cde.sl : Cde -> Int | .mk _ s _ _ _ _ => s
noncomputable def tiIn : TI := match Go.Tp.elemOf (env Prims.fast) 23 with | some t => t | none => default
theorem tiIn_eq : Go.Tp.elemOf (env Prims.fast) 23 = some tiIn := by kernel_rfl
theorem tiIn_size : tiIn.size = 15 := by kernel_rfl
theorem idxIn {l : List Ins} {i : Nat} {t : Ins} (h : l[i]? = some t) : aIndexAddr (env Prims.fast) 23 [.dat (.slice (encI l)), .dat (.flat (.int .i64 (Int.ofNat i)))] = some ⟨.ref t.cells, .keep⟩ :=
 ans_idx tiIn_eq rfl (encI_get h) (by rw [tiIn_size]; exact icells t) (by rw [tiIn_size]; decide)
structure Shp where
 w : List UInt8
 dst : Bool
 a : Bool
 b : Bool
 im : Bool
 nm : Bool
 ar : Bool
 ty : Bool
 con : Bool
 call : Bool
 cond : Bool
 fin : Bool
def Shp.enc (s : Shp) : Dat := .agg [sb s.w, bl s.dst, bl s.a, bl s.b, bl s.im, bl s.nm, bl s.ar, bl s.ty, bl s.con, bl s.call, bl s.cond, bl s.fin]
def Shp.zero : Shp := ⟨[], false, false, false, false, false, false, false, false, false, false, false⟩
def shpN : Nat -> Option Shp
 | 1 => some ⟨[99, 111, 110, 115, 116], true, false, false, false, false, false, false, true, false, false, false⟩
 | 2 => some ⟨[109, 111, 118, 101], true, true, false, false, false, false, false, false, false, false, false⟩
 | 3 => some ⟨[112, 114, 105, 109], true, true, true, true, false, false, false, false, false, false, false⟩
 | 4 => some ⟨[110, 101, 119], true, false, false, false, false, true, true, false, false, false, false⟩
 | 5 => some ⟨[103, 101, 116], true, true, false, false, true, false, false, false, false, false, false⟩
 | 6 => some ⟨[115, 101, 116], false, true, true, false, true, false, false, false, false, false, false⟩
 | 7 => some ⟨[116, 117, 112, 108, 101], true, false, false, false, false, true, false, false, false, false, false⟩
 | 8 => some ⟨[101, 108, 101, 109, 101, 110, 116], true, true, false, true, false, false, false, false, false, false, false⟩
 | 9 => some ⟨[105, 115, 105, 110, 115, 116, 97, 110, 99, 101], true, true, false, false, false, false, true, false, false, false, false⟩
 | 10 => some ⟨[99, 97, 108, 108], true, false, false, false, true, true, false, false, true, false, false⟩
 | 11 => some ⟨[108, 97, 116, 101, 115, 116], true, false, false, false, true, true, false, false, true, false, false⟩
 | 12 => some ⟨[106, 117, 109, 112], false, false, false, true, false, false, false, false, false, false, true⟩
 | 13 => some ⟨[98, 114, 97, 110, 99, 104], false, true, false, true, false, false, false, false, false, true, false⟩
 | 14 => some ⟨[116, 105, 99, 107], false, false, false, false, false, false, false, false, true, false, false⟩
 | 15 => some ⟨[111, 117, 116, 112, 117, 116], false, true, false, false, false, false, false, false, false, false, false⟩
 | 16 => some ⟨[102, 97, 105, 108], false, true, false, false, false, false, false, false, false, false, true⟩
 | 17 => some ⟨[101, 100, 105, 116], false, false, false, true, false, false, false, false, false, false, false⟩
 | 18 => some ⟨[112, 97, 117, 115, 101], false, false, false, false, false, false, false, false, false, false, false⟩
 | 19 => some ⟨[114, 101, 116, 117, 114, 110], false, true, false, false, false, false, false, false, false, false, true⟩
 | 20 => some ⟨[101, 110, 116, 101, 114], false, false, false, true, false, false, false, false, true, false, false⟩
 | 21 => some ⟨[108, 101, 97, 118, 101], false, false, false, false, false, false, false, false, false, false, false⟩
 | 22 => some ⟨[105, 110, 118, 111, 107, 101], true, false, false, true, false, true, false, false, true, false, false⟩
 | _ => none
def shpI (op : Int) : Option Shp := match op with | .ofNat n => shpN n | _ => none
def shO (o : Option Shp) : Shp := match o with | some s => s | none => Shp.zero
def shS (o : Option Shp) : Bool := match o with | some _ => true | none => false
theorem shapeN : ∀ n : Nat, 1 <= n -> n <= 22 -> Calls1 58 [iv (Int.ofNat n)] (.tup [.dat (shO (shpN n)).enc, bv (shS (shpN n))])
 | 0, h, _ => absurd h (by omega)
 | 1, _, _ => X_ok _ _ _ _ _ (by kernel_rfl)
 | 2, _, _ => X_ok _ _ _ _ _ (by kernel_rfl)
 | 3, _, _ => X_ok _ _ _ _ _ (by kernel_rfl)
 | 4, _, _ => X_ok _ _ _ _ _ (by kernel_rfl)
 | 5, _, _ => X_ok _ _ _ _ _ (by kernel_rfl)
 | 6, _, _ => X_ok _ _ _ _ _ (by kernel_rfl)
 | 7, _, _ => X_ok _ _ _ _ _ (by kernel_rfl)
 | 8, _, _ => X_ok _ _ _ _ _ (by kernel_rfl)
 | 9, _, _ => X_ok _ _ _ _ _ (by kernel_rfl)
 | 10, _, _ => X_ok _ _ _ _ _ (by kernel_rfl)
 | 11, _, _ => X_ok _ _ _ _ _ (by kernel_rfl)
 | 12, _, _ => X_ok _ _ _ _ _ (by kernel_rfl)
 | 13, _, _ => X_ok _ _ _ _ _ (by kernel_rfl)
 | 14, _, _ => X_ok _ _ _ _ _ (by kernel_rfl)
 | 15, _, _ => X_ok _ _ _ _ _ (by kernel_rfl)
 | 16, _, _ => X_ok _ _ _ _ _ (by kernel_rfl)
 | 17, _, _ => X_ok _ _ _ _ _ (by kernel_rfl)
 | 18, _, _ => X_ok _ _ _ _ _ (by kernel_rfl)
 | 19, _, _ => X_ok _ _ _ _ _ (by kernel_rfl)
 | 20, _, _ => X_ok _ _ _ _ _ (by kernel_rfl)
 | 21, _, _ => X_ok _ _ _ _ _ (by kernel_rfl)
 | 22, _, _ => X_ok _ _ _ _ _ (by kernel_rfl)
 | n + 23, _, h => absurd h (by omega)
theorem shape_lo {op : Int} (h1 : ltF op 1 = true) : Calls1 58 [iv op] (.tup [.dat Shp.zero.enc, bv false]) := by
 refine co [29] [] (x := .of Tryz.f58 ord58 live58) ?_; refine ob h1 ?_; exact fi
theorem shape_hi {op : Int} (h1 : ltF op 1 = false) (h2 : ltF op 23 = false) : Calls1 58 [iv op] (.tup [.dat Shp.zero.enc, bv false]) := by
 refine co [29, 32] [] (x := .of Tryz.f58 ord58 live58) ?_; refine ob h1 ?_; refine ox h2 ?_; exact fi
theorem shpI_lo {op : Int} (h : ltF op 1 = true) : shpI op = none := by
 rw [ltF_eq] at h
 simp only [decide_eq_true_eq] at h
 unfold shpI
 split
 ·rename_i n
  have : n = 0 := by simp only [Int.ofNat_eq_natCast] at h; omega
  subst this; rfl
 rfl
theorem shpN_hi : ∀ n : Nat, shpN (n + 23) = none := fun n => rfl
theorem shpI_hi {op : Int} (h : ltF op 23 = false) : shpI op = none := by
 rw [ltF_eq] at h
 simp only [decide_eq_false_iff_not] at h
 unfold shpI
 split
 ·rename_i n
  obtain ⟨m, rfl⟩ : ∃ m, n = m + 23 := ⟨n - 23, by simp only [Int.ofNat_eq_natCast] at h; omega⟩
  exact shpN_hi m
 rfl
theorem shpI_mid {op : Int} (h1 : ltF op 1 = false) (h2 : ltF op 23 = true) : ∃ n : Nat, op = Int.ofNat n /\ 1 <= n /\ n <= 22 := by
 rw [ltF_eq] at h1 h2
 simp only [decide_eq_false_iff_not, decide_eq_true_eq] at h1 h2
 exact ⟨op.toNat, by simp only [Int.ofNat_eq_natCast]; omega, by omega, by omega⟩
theorem c_shape (op : Int) : Calls1 58 [iv op] (.tup [.dat (shO (shpI op)).enc, bv (shS (shpI op))]) := by
 cases h1 : ltF op 1 with
 | true => rw [shpI_lo h1]; exact shape_lo h1
 | false =>
  cases h2 : ltF op 23 with
  | false => rw [shpI_hi h2]; exact shape_hi h1 h2
  | true =>
   obtain ⟨n, rfl, a, b⟩ := shpI_mid h1 h2
   exact shapeN n a b
/-! ### The reference -/
theorem c_Backward {es : List Dat} : Calls1 55 [.dat (.slice es)] (.fn (.func 89) [] [.ref [.slice es]]) := by
 refine co [] [] (x := .of Tryz.f55 ord55 live55) ?_; exact fi
noncomputable def hBk : Hints := ⟨xmoves, ord89, xcaps, rowsOf xcaps 89⟩
def stB (l : Nat) (es : List Dat) (i : Int) (hp : Heap) (nx : Nat) : FState := ⟨[(3, iv i), (1, .ref [.slice es]), (0, .fn (.yield l) [] [])], [], hp, nx⟩
def stB1 (l : Nat) (es : List Dat) (i : Int) (b : Bool) (hp : Heap) (nx : Nat) : FState := ⟨[(8, bv b), (3, iv i), (1, .ref [.slice es]), (0, .fn (.yield l) [] [])], [], hp, nx⟩
theorem bk_0 {l : Nat} {es : List Dat} {hp : Heap} {nx : Nat} {T : Exit -> AState -> Prop} (e : T .normal ((stB l es (wrapF .i64 (Int.ofNat es.length - 1)) hp nx).toA Tryz.f89.ntmps)) :
  KD (seqL (bodyOf Tryz.f89)) T ((⟨slOf 0 [.fn (.yield l) [] [], .ref [.slice es]], [], hp, nx⟩ : FState).toA Tryz.f89.ntmps) := by
 refine run_of [] [] (H := hBk) (live := live89) (by kernel_rfl) ?_; exact oe e
theorem bk_1 {l : Nat} {es : List Dat} {hp : Heap} {nx : Nat} {i : Int} {T : Exit -> AState -> Prop} {c : Bool} (h : ltF i 0 = c) (e : T .normal ((stB1 l es i (!c) hp nx).toA Tryz.f89.ntmps)) :
  KD (seqL (seqL (roundOf Tryz.f89 0))) T ((stB l es i hp nx).toA Tryz.f89.ntmps) := by
 refine run_of [8] [] (H := hBk) (live := live89) (by kernel_rfl) ?_; refine ox h ?_
 cases c <;>
 ·exact oe e
theorem bk_2 {l : Nat} {es : List Dat} {hp : Heap} {nx : Nat} {i : Int} {T : Exit -> AState -> Prop} (e : T .normal ((stB l es (wrapF .i64 (i - 1)) hp nx).toA Tryz.f89.ntmps)) :
  KD (seqR (seqR (roundOf Tryz.f89 0))) T ((stB l es i hp nx).toA Tryz.f89.ntmps) := by
 refine run_of [] [] (H := hBk) (live := live89) (by kernel_rfl) ?_; exact oe e
/-! ### The iterator -/
noncomputable def bkY : List Oper := regOps (seqL (inBlk (seqL (seqR (roundOf Tryz.f89 0)))))
def stB2 (l : Nat) (es : List Dat) (i : Int) (cs : List Dat) (d : Dat) (hp : Heap) (nx : Nat) : FState := ⟨[(16, .dat d), (15, .ref cs), (14, iv i), (13, .dat (.slice es)), (12, iv i), (11, .fn (.yield l) [] []), (3, iv i), (1, .ref [.slice es]), (0, .fn (.yield l) [] [])], [], hp, nx⟩
def stB3 (l : Nat) (es : List Dat) (i : Int) (cs : List Dat) (d : Dat) (hp : Heap) (nx : Nat) : FState := ⟨[(18, bv false), (17, bv true), (16, .dat d), (15, .ref cs), (14, iv i), (13, .dat (.slice es)), (12, iv i), (11, .fn (.yield l) [] []), (3, iv i), (1, .ref [.slice es]), (0, .fn (.yield l) [] [])], [], hp, nx⟩
def stB3a (l : Nat) (es : List Dat) (i : Int) (cs : List Dat) (d : Dat) (hp : Heap) (nx : Nat) : FState := ⟨[(17, bv true), (16, .dat d), (15, .ref cs), (14, iv i), (13, .dat (.slice es)), (12, iv i), (11, .fn (.yield l) [] []), (3, iv i), (1, .ref [.slice es]), (0, .fn (.yield l) [] [])], [], hp, nx⟩
theorem bk_pre {l : Nat} {es : List Dat} {hp : Heap} {nx : Nat} {i : Int} {cs : List Dat} {d : Dat} (f1 : aIndexAddr (env Prims.fast) 23 [.dat (.slice es), iv i] = some ⟨.ref cs, .keep⟩) (f2 : aLoad (env Prims.fast) false 45 [.ref cs] none = some ⟨.dat d, .keep⟩) {T : AState -> Prop} (h : T ((stB2 l es i cs d hp nx).toA Tryz.f89.ntmps)) :
  (qops (inL []) (inL [15, 16]) (env Prims.fast) xglobs (hBk.at 3) Tryz.f89.ntmps bkY (bkY.take 6) (stB l es i hp nx) (fun f' => Qy.fin f')).Ok Tryz.prog xglobs (fun f' => T (f'.toA Tryz.f89.ntmps)) := by
 refine oo f1 ?_; refine oo f2 ?_
 exact ok_finS (stB2 l es i cs d hp nx) (by kernel_rfl) (by kernel_rfl) h
theorem bk_suf {l : Nat} {es : List Dat} {hp : Heap} {nx : Nat} {i : Int} {cs : List Dat} {d : Dat} {T : AState -> Prop} (h : T ((stB3 l es i cs d hp nx).toA Tryz.f89.ntmps)) :
  (qops (inL []) (inL []) (env Prims.fast) xglobs (hBk.at 3) Tryz.f89.ntmps bkY (bkY.drop 7) (stB3a l es i cs d hp nx) (fun f' => Qy.fin f')).Ok Tryz.prog xglobs (fun f' => T (f'.toA Tryz.f89.ntmps)) :=
 ok_finS (stB3 l es i cs d hp nx) (by kernel_rfl) (by kernel_rfl) h
theorem back_icode {l : Nat} {rec : Loop} {ts : List AVal} {es : List Dat} {hp : Heap} {nx : Nat} (I : Nat -> Heap -> Nat -> Prop) (hst : rec.state = .ready) (hpe : rec.pending = none) (hps : rec.params.size = 2) (hlen : es.length < 1000000000)
  (round : ∀ k, k < es.length -> ∃ cs d, aIndexAddr (env Prims.fast) 23 [.dat (.slice es), iv (Int.ofNat k)] = some ⟨.ref cs, .keep⟩ /\ aLoad (env Prims.fast) false 45 [.ref cs] none = some ⟨.dat d, .keep⟩ ∧
   ∀ hp nx, I (k + 1) hp nx -> Round Tryz.prog xglobs rec.params.toList rec.assign rec.body ts [iv (Int.ofNat k), .dat d] hp nx (fun hp nx => I k hp nx)) (h0 : I es.length hp nx) :
  ICode Tryz.prog xglobs l rec ts (bodyOf Tryz.f89) (bodyQ (env Prims.fast) Tryz.f89.results.toList (fun _ hp nx => I 0 hp nx)) (enter Tryz.f89.ntmps [.fn (.yield l) [] [], .ref [.slice es]] hp nx) := by
 rw [← enter_slOf _ _ _ _ (by show 2 <= Tryz.f89.ntmps; decide)]
 have hidx : ∀ k : Nat, k < 1000000000 -> wrapF .i64 (Int.ofNat k - 1) = Int.ofNat k - 1 := by
  intro k hk
  rw [wrapF_eq]
  exact wrap_i64 (by show _ <= (k : Int) - 1; omega) (by show (k : Int) - 1 <= _; omega)
 refine icode_seqP (by kernel_rfl) (icode_of_acode (bk_0 ?_))
 refine icode_blockP 0 (by kernel_rfl) ?_
 refine icode_loopP (α := Nat × Heap × Nat) (by kernel_rfl) [0, 1, 3] [] (fun x => (stB l es (Int.ofNat x.1 - 1) x.2.1 x.2.2).toA Tryz.f89.ntmps) (fun x => x.1 <= es.length /\ I x.1 x.2.1 x.2.2) (fun x => x.1) (es.length, hp, nx) ⟨Nat.le_refl _, h0⟩ ?_ ?_
 ·rw [hidx _ hlen]; kernel_rfl
 rintro ⟨k, hp, nx⟩ ⟨hk, hI⟩
 have e : inLoop (inBlk (seqR (bodyOf Tryz.f89))) = roundOf Tryz.f89 0 := by kernel_rfl
 rw [e]
 dsimp only at hk hI ⊢
 refine icode_seqP (by kernel_rfl) (icode_seqP (by kernel_rfl) (icode_of_acode (bk_1 rfl ?_)))
 dsimp only
 cases k with
 | zero =>
  have e1 : condIs 8 (seqR (seqL (roundOf Tryz.f89 0))) = true := by kernel_rfl
  refine icode_condP e1 (b := false) (by kernel_rfl) ?_
  have e2 : condF (seqR (seqL (roundOf Tryz.f89 0))) = .exit 0 := by kernel_rfl
  simp only [Bool.false_eq_true, if_false]
  rw [e2]
  refine icode_exit ?_
  exact hI
 | succ k =>
  have ei : Int.ofNat (k + 1) - 1 = Int.ofNat k := by simp
  rw [ei]
  have hlt : ltF (Int.ofNat k) 0 = false := by rw [ltF_eq]; simp
  rw [hlt]
  have e1 : condIs 8 (seqR (seqL (roundOf Tryz.f89 0))) = true := by kernel_rfl
  refine icode_condP e1 (b := true) (by kernel_rfl) ?_
  have e2 : condT (seqR (seqL (roundOf Tryz.f89 0))) = .skip := by kernel_rfl
  simp only [if_true]
  rw [e2]
  refine icode_skip ?_
  refine icode_seqP (by kernel_rfl) (icode_blockP 1 (by kernel_rfl) (icode_seqP (by kernel_rfl) ?_))
  obtain ⟨cs, d, f1, f2, hr⟩ := round k hk
  refine icode_forget [0, 1, 3] [] ?_
  have e3 : ((stB1 l es (Int.ofNat k) (!false) hp nx).toA Tryz.f89.ntmps).keep [0, 1, 3] [] = (stB l es (Int.ofNat k) hp nx).toA Tryz.f89.ntmps := by kernel_rfl
  rw [e3]
  refine icode_regP (H := hBk.at 3) envF hst hpe (by kernel_rfl) ?_
  have h6 : bkY.drop 6 = opAt bkY 6 :: bkY.drop 7 := drop_opAt (by kernel_rfl)
  have hy := yops_pre (T := fun s => s = (stB2 l es (Int.ofNat k) cs d hp nx).toA Tryz.f89.ntmps) (l := l) (rec := rec) (ts := ts) (all := bkY) (pre := bkY.take 6) (rest := bkY.drop 6) (by rw [h6]; simp) (Q := fun s => s = (stB3 l es (Int.ofNat k) cs d s.heap s.next).toA Tryz.f89.ntmps /\ I k s.heap s.next) (bk_pre (T := fun s => s = (stB2 l es (Int.ofNat k) cs d hp nx).toA Tryz.f89.ntmps) f1 f2 rfl) ?_
  ·rw [List.take_append_drop] at hy
   refine yops_mono ?_ hy
   rintro s ⟨hs, hI2⟩
   dsimp only
   generalize s.heap = hp2 at *
   generalize s.next = nx2 at *
   subst hs
   have e4 : condIs 18 (seqR (inBlk (seqL (seqR (roundOf Tryz.f89 0))))) = true := by kernel_rfl
   refine icode_condP e4 (b := false) (by kernel_rfl) ?_
   have e5 : condF (seqR (inBlk (seqL (seqR (roundOf Tryz.f89 0))))) = .skip := by kernel_rfl
   simp only [Bool.false_eq_true, if_false]
   rw [e5]
   refine icode_skip ?_
   dsimp only
   refine icode_forget [0, 1, 3] [] ?_
   have e6 : ((stB3 l es (Int.ofNat k) cs d hp2 nx2).toA Tryz.f89.ntmps).keep [0, 1, 3] [] = (stB l es (Int.ofNat k) hp2 nx2).toA Tryz.f89.ntmps := by kernel_rfl
   rw [e6]
   refine icode_of_acode (bk_2 ?_)
   refine ⟨(k, hp2, nx2), ⟨by dsimp only; omega, hI2⟩, by dsimp only; omega, ?_⟩
   rw [hidx k (by omega)]
   kernel_rfl
  rintro s rfl
  rw [h6]
  refine yops_call 11 #[.tmp 12, .tmp 16] #[3, 45] (by kernel_rfl) (by kernel_rfl) (by kernel_rfl) (by rw [hps]; rfl) (vs := [iv (Int.ofNat k), .dat d]) (by kernel_rfl) (by kernel_rfl) ?_
  refine (hr hp nx hI).mono ?_
  intro hp2 nx2 hI2
  have e7 : (({ (stB2 l es (Int.ofNat k) cs d hp nx).toA Tryz.f89.ntmps with heap := hp2, next := nx2 } : AState).put (opAt bkY 6).dst (.dat (.flat (.bool true)))) = (stB3a l es (Int.ofNat k) cs d hp2 nx2).toA Tryz.f89.ntmps := by kernel_rfl
  rw [e7]
  refine yops_end (T := fun s => s = (stB3 l es (Int.ofNat k) cs d hp2 nx2).toA Tryz.f89.ntmps) (bk_suf (T := fun s => s = (stB3 l es (Int.ofNat k) cs d hp2 nx2).toA Tryz.f89.ntmps) rfl) ?_
  rintro s rfl
  exact ⟨rfl, hI2⟩
def Fld.eq (f g : Fld) : Bool := eqB f.nm g.nm && eqT f.ty g.ty
def eqFL : List Fld -> List Fld -> Bool
 | f :: r, g :: s => f.eq g && eqFL r s
 | _, _ => true
def eqFs (l l2 : List Fld) : Bool := eqF (Int.ofNat (encF l).length) (Int.ofNat (encF l2).length) && eqFL l l2
def Dcl.eq (a b : Dcl) : Bool := eqB a.nm b.nm && (eqF a.ar b.ar && ((a.con == b.con) && (eqT a.sup b.sup && eqFs a.fl b.fl)))
def firstClosed : List Ty -> Bool
 | t :: _ => t.closed 0
 | [] => false
def nodeOk (k : Int) (nm : List UInt8) (ix : Int) (l : List Ty) : Bool :=
 if (!eqF k 2 && !eqB nm []) = true then false
 else if (!eqF k 5 && !eqF ix 0) = true then false
 else if (eqF k 0 || eqF k 1) = true then eqF (Int.ofNat (encL l).length) 0
 else if eqF k 2 = true then isIdent nm && (!isResv nm && (!ltF 6 (Int.ofNat (encL l).length) && !anyNP l))
 else if eqF k 3 = true then !ltF 6 (Int.ofNat (encL l).length)
 else if eqF k 4 = true then !ltF (Int.ofNat (encL l).length) 2
 else if eqF k 5 = true then eqF (Int.ofNat (encL l).length) 0 && (!ltF ix 0 && !ltF 200 ix)
 else if eqF k 6 = true then eqF (Int.ofNat (encL l).length) 2 && firstClosed l
 else false
mutual
def Ty.valid : Ty -> Bool
 | .mk k nm ix l => nodeOk k nm ix l && !anyNV l
def anyNV : List Ty -> Bool
 | [] => false
 | t :: r => !t.valid || anyNV r
end
/-- What Validate answers. -/
def Ty.validate (t : Ty) : Int := match ltF 200 (Int.ofNat t.size) || ltF 12 (Int.ofNat t.depth) with | true => 4 | false => (match t.valid with | true => 0 | false => 2)
noncomputable def tiI : TI := match Go.Tp.elemOf (env Prims.fast) 22 with | some t => t | none => default
theorem tiI_eq : Go.Tp.elemOf (env Prims.fast) 22 = some tiI := by kernel_rfl
theorem tiI_size : tiI.size = 1 := by kernel_rfl
theorem idxI {l : List Int} {i : Nat} {t : Int} (h : l[i]? = some t) : aIndexAddr (env Prims.fast) 22 [.dat (.slice (l.map iN)), .dat (.flat (.int .i64 (Int.ofNat i)))] = some ⟨.ref [iN t], .keep⟩ :=
 ans_idx (d := iN t) tiI_eq rfl (by rw [List.getElem?_map, h]; rfl) (by rw [tiI_size]; rfl) (by rw [tiI_size]; decide)
def Ty.over (t : Ty) (ar : Int) : Bool := eqF t.validate 0 && (t.plain && !(t.fv.any (fun x => !ltF x ar)))
def seenB : List Fld -> List UInt8 -> Bool
 | [], _ => false
 | f :: r, nm => match eqB nm f.nm with | true => true | false => seenB r nm
def wfL (ar : Int) : List Fld -> List Fld -> Bool
 | _, [] => true
 | pre, f :: r => (isIdent f.nm && (!seenB pre f.nm && f.ty.over ar)) && wfL ar (pre ++ [f]) r
def lenP (l : List Dat) : Bool := match l with | [] => false | _ => true
def Ty.kind : Ty -> Int
 | .mk k _ _ _ => k
def Dcl.wf (d : Dcl) : Bool := isIdent d.nm && (!isResv d.nm && (!ltF d.ar 0 && (!(!d.con && lenP (encF d.fl)) && ((eqF d.sup.kind 0 || eqF d.sup.kind 2) && (d.sup.over d.ar && wfL d.ar [] d.fl)))))
def r3 (c : Int) (cs : List Dat) (es : List (Go.Value × Dat)) (n : Nat) : XRes := ⟨iv c, hG 2 (av cs) es n, 3⟩
def Ty.nm : Ty -> List UInt8
 | .mk _ n _ _ => n
/-! ### Equal terms are the same -/
theorem sized_ints (l : List Int) : sizedB 1 (l.map iN) = true := sizedB_of (fun d hd => by obtain ⟨x, _, rfl⟩ := List.mem_map.1 hd; rfl)
/-! ### freeVars -/
def Ins.unary (x : Ins) : Bool := eqF x.op 3 && eqF x.im 5
/-- A slice as data. -/
def SlD (d : Dat) : Prop := d = nl ∨ ∃ es, d = .slice es
theorem slD_sl (l : List Dat) : SlD (sl l) := by cases l with | nil => exact .inl rfl | cons a b => exact .inr ⟨_, rfl⟩
theorem slD_sx (z : Bool) (l : List Dat) : SlD (sx z l) := by
 cases l with
 | nil => cases z with
  | true => exact .inr ⟨_, rfl⟩
  | false => exact .inl rfl
 | cons a b => exact .inr ⟨_, rfl⟩
def codeD (p s : Int) (d1 d2 : Dat) : Dat := .agg [i64 p, i64 s, d1, d2]
def insD (op dst a b im : Int) (nm : List UInt8) (d : Dat) (k : Int) (tn : List UInt8) (ix : Int) (d2 : Dat) (ck ci : Int) (cs : List UInt8) : Dat := .agg [i64 op, i64 dst, i64 a, i64 b, i64 im, sb nm, d, i64 k, sb tn, i64 ix, d2, i64 ck, i64 ci, sb cs, nl]
theorem bx_code {p s : Int} {d1 d2 : Dat} (h1 : SlD d1) (h2 : SlD d2) : aBox [.dat (codeD p s d1 d2)] = some ⟨.undef, .new (.cells [.dat (i64 p), .dat (i64 s), .dat d1, .dat d2])⟩ := by
 rcases h1 with rfl | ⟨e1, rfl⟩ <;> rcases h2 with rfl | ⟨e2, rfl⟩ <;> kernel_rfl
theorem bx_ins {op dst a b im : Int} {nm : List UInt8} {d : Dat} {k : Int} {tn : List UInt8} {ix : Int} {d2 : Dat} {ck ci : Int} {cs : List UInt8} (h1 : SlD d) (h2 : SlD d2) :
  aBox [.dat (insD op dst a b im nm d k tn ix d2 ck ci cs)] = some ⟨.undef, .new (.cells [.dat (i64 op), .dat (i64 dst), .dat (i64 a), .dat (i64 b), .dat (i64 im), .dat (sb nm), .dat d, .dat (i64 k), .dat (sb tn), .dat (i64 ix), .dat d2, .dat (i64 ck), .dat (i64 ci), .dat (sb cs), .dat nl])⟩ := by
 rcases h1 with rfl | ⟨e1, rfl⟩ <;> rcases h2 with rfl | ⟨e2, rfl⟩ <;> kernel_rfl
def cC (p s : Int) (d1 d2 : Dat) : List AVal := [.dat (i64 p), .dat (i64 s), .dat d1, .dat d2]
def hC (p s : Int) (d1 d2 : Dat) : Heap := [(.out 0, .cells (cC p s d1 d2))]
def cX (op dst a b im : Int) (nm : List UInt8) (d : Dat) (k : Int) (tn : List UInt8) (ix : Int) (d2 : Dat) (ck ci : Int) (cs : List UInt8) : List AVal := [.dat (i64 op), .dat (i64 dst), .dat (i64 a), .dat (i64 b), .dat (i64 im), .dat (sb nm), .dat d, .dat (i64 k), .dat (sb tn), .dat (i64 ix), .dat d2, .dat (i64 ck), .dat (i64 ci), .dat (sb cs), .dat nl]
def cS (s : Shp) : List AVal := [.dat (sb s.w), bv s.dst, bv s.a, bv s.b, bv s.im, bv s.nm, bv s.ar, bv s.ty, bv s.con, bv s.call, bv s.cond, bv s.fin]
end Go.Proofs.YtmpmgmmcaghacaaGreatDoor

namespace Go.Tp
open Go.Proofs Go.Shelf Go.RowKit Go.Maps Go.Sort Go.Lib
def intDat (n : Int) : Dat := .flat (.int .i64 n)
section
variable {P : Program} {ρ ρ' : Ren} {G : Globs}
def intCells : List AVal -> Option (List Int)
 | [] => some []
 | .dat (.flat (.int .i64 n)) :: r => (match intCells r with | some l => some (n :: l) | none => none)
 | _ => none
theorem intCells_spec : ∀ {cs : List AVal} {zs : List Int}, intCells cs = some zs -> cs = zs.map (fun n => .dat (intDat n))
 | [], zs, h => by simp [intCells] at h; subst h; rfl
 | c :: r, zs, h => by
  unfold intCells at h
  split at h
  ·simp at *
  ·rename_i n r' heq
   simp at heq
   obtain ⟨rfl, rfl⟩ := heq
   split at h
   ·rename_i l hl
    simp at h
    subst h
    rw [intCells_spec hl]
    rfl
   simp at h
  simp at h
def compactX (args : List AVal) (heap : Heap) (next : Nat) : Option XRes :=
 match args with
 | [.win (.out m) 1 0 len] => (match agetF (.out m) heap with
  | some (.cells cs) => (match Nat.beq len cs.length && Nat.ble 1 len && Nat.ble len 4294967296 with
   | true => (match intCells cs with
    | some zs => some ⟨.dat (.slice ((compactUpTo zs.toArray zs.length).map intDat)), adelF (.out m) heap, next⟩
    | none => none)
   | false => none)
  | _ => none)
 | _ => none
/-- A row's cells set anew, the block out of what may be written. -/
theorem keep_putRow {w : World} {R R' : Own} {blk : Nat} {vs : Array Value} {elem : TypeId} (hblk : w.heap[blk]? = some (.cells vs elem (0, 0))) (hR : R' = fun c off => c ≠ blk /\ R c off) (hRv : ∀ j, j < vs.size -> R blk j) (h0 : 0 < vs.size) (q : Nat) (d : Array Int) (bs : List Nat) (hb : blk ∉ bs) :
  Keep w R (putRow (Value.int .i64) (Sort.ahead w q) blk 0 d) R' bs := by
 have hother : ∀ c, c ≠ blk -> (putRow (Value.int .i64) (Sort.ahead w q) blk 0 d).heap[c]? = w.heap[c]? := fun c hc => by
  simp [putRow, mapBlock, Sort.ahead, Array.getElem?_modify, Ne.symm hc]
 have hself : (putRow (Value.int .i64) (Sort.ahead w q) blk 0 d).heap[blk]? = some (.cells (putCells (Value.int .i64) 0 d vs) elem (0, 0)) := by
  simp [putRow, mapBlock, Sort.ahead, Array.getElem?_modify, hblk, onCells]
 have hsz : (putCells (Value.int .i64) 0 d vs).size = vs.size := by simp [putCells]
 subst hR
 refine ⟨⟨rfl, rfl, rfl, by simp [Sort.ahead], fun c hc hno => ?_, fun c off hc hno => ⟨fun h => hno h.2, ?_⟩, fun c hc => ?_⟩, fun c hc _ => ?_⟩
 ·have hne : c ≠ blk := fun e => hno 0 (e ▸ hRv 0 h0)
  exact ⟨hother c hne, fun off h => hno off h.2⟩
 ·by_cases hcb : c = blk
  ·subst hcb
   have ho : vs.size <= off := by
    rcases Nat.lt_or_ge off vs.size with h' | h'
    ·exact (hno (hRv off h')).elim
    exact h'
   rw [cell_of_row _ c off _ elem (0, 0) hself, cell_of_row w c off vs elem (0, 0) hblk, Array.getElem?_eq_none (by omega), Array.getElem?_eq_none ho]
  exact World.cell?_of_block (a := ⟨c, off, none⟩) (hother c hcb)
 ·by_cases hcb : c = blk
  ·subst hcb
   rw [rowSize_of hself, rowSize_of hblk, hsz]
  exact rowSize_same (hother c hcb)
 have hne : c ≠ blk := fun e => hb (e ▸ hc)
 exact ⟨hother c hne, fun off h => ⟨hne, h⟩⟩
theorem c_compact (L : SlLaysE.n43 P ρ) (v23 : ∀ w, (zeroValue (ρ.t 23)).run P w = .ok (.int .i64 0) w) {args : List AVal} {heap : Heap} {next : Nat} {r : XRes} (h : compactX args heap next = some r) : ACalls P G (ρ.f 43) args heap next (XQ r) := by
 unfold compactX at h
 split at h
 rotate_left
 ·simp at h
 rename_i m len
 split at h
 rotate_left
 ·simp at h
 rename_i cs hm
 split at h
 rotate_left
 ·simp at h
 rename_i hc
 simp only [Bool.and_eq_true, Nat.ble_eq] at hc
 obtain ⟨⟨hl, h1⟩, h2⟩ := hc
 have hl := Nat.eq_of_beq_eq_true hl
 split at h
 rotate_left
 ·simp at h
 rename_i zs hzs
 simp only [Option.some.injEq] at h
 subst h
 have hcs := intCells_spec hzs
 have hzl : zs.length = len := by rw [hl, hcs]; simp
 rw [agetF_eq] at hm
 rw [adelF_eq]
 intro w R N cargs bsA bsH bsF hargs hheap hnd hnx hglob hF
 obtain ⟨v0, r1, c0, d1, rfl, rfl, h0, hr1⟩ := repVs_cons_inv hargs
 obtain ⟨rfl, rfl⟩ := repVs_nil_inv hr1
 simp only [RepV] at h0
 obtain ⟨rfl, b, cap, hb, rfl, hcap, _, hblt, hrow⟩ := h0
 obtain ⟨pre, b', b1, post, e1, hb', hobj, _, bs', hdel, hsub⟩ := RepObjs.split_del hheap hm
 have : b' = b := by rw [hb] at hb'; simpa using hb'.symm
 subst this
 subst e1
 obtain ⟨vs, elem, sp, hblk, hrv, hRv, _⟩ := hobj
 have hvs : cap = vs.size := by rw [rowSize, hblk] at hrow; simpa using hrow
 have hval : ∀ j (hj : j < zs.length), vs[j]? = some (.int .i64 zs[j]) /\ isFlat (.int .i64 zs[j]) = true := by
  intro j hj
  have ha : cs[j]? = some (.dat (intDat zs[j])) := by rw [hcs, List.getElem?_map, List.getElem?_eq_getElem hj]; rfl
  obtain ⟨x, bx, q1, q2, _⟩ := repVs_get hrv (get_pad ha)
  obtain ⟨_, rfl, hf⟩ := repV_flat_inv q2
  exact ⟨by rw [← Array.getElem?_toList]; exact q1, hf⟩
 have hH : Holds (Value.int .i64) w b' 0 zs.toArray := by
  intro j hj
  have hj : j < zs.length := by simpa using hj
  obtain ⟨q1, _⟩ := hval j hj
  rw [Nat.zero_add]
  refine ⟨?_, by simp [World.frozen?, hblk]⟩
  simp [World.cell?, hblk, q1, hj]
 have hsz : zs.toArray.size = len := by simpa using hzl
 rw [← hsz]
 refine (AnyE.slices_Compact L (Value.int .i64) (fun _ => rfl) (EqlAt.intD P (ρ.t 23) .i64) (NeqAt.intD P (ρ.t 23) .i64) 0 v23 b' 0 cap zs.toArray w hH (by rw [hsz]; omega) (by rw [hsz]; exact hcap)).mono ?_
 rintro e w' ⟨rfl, q, rfl⟩
 obtain ⟨out, hout⟩ : ∃ out, out = compactUpTo zs.toArray zs.toArray.size := ⟨_, rfl⟩
 have hout' : compactUpTo zs.toArray zs.length = out := by rw [hout]; simp
 rw [hout', ← hout]
 have hol : out.length <= len := by
  rw [hout, ← hsz]
  simp only [compactUpTo, List.length_map]
  exact Nat.le_trans (List.length_filter_le _ _) (by simp)
 have hmem : ∀ n ∈ out, isFlat (.int .i64 n) = true := by
  intro n hn
  rw [hout] at hn
  simp only [compactUpTo, List.mem_map, List.mem_filter, List.mem_range] at hn
  obtain ⟨j, ⟨hj, _⟩, rfl⟩ := hn
  have hj : j < zs.length := by simpa using hj
  have := (hval j hj).2
  simpa [hj] using this
 obtain ⟨d', hd'⟩ : ∃ d', d' = (out ++ List.replicate (zs.toArray.size - out.length) (0 : Int)).toArray := ⟨_, rfl⟩
 rw [← hd']
 have hds : d'.size = zs.toArray.size := by rw [hd']; simp; omega
 obtain ⟨R', hR'⟩ : ∃ R' : Own, R' = fun c off => c ≠ b' /\ R c off := ⟨_, rfl⟩
 have hk : ∀ bs, b' ∉ bs -> Keep w R (putRow (Value.int .i64) (Sort.ahead w q) b' 0 d') R' bs := fun bs hbs => keep_putRow hblk hR' hRv (by omega) q d' bs hbs
 have hp : ([] ++ ((pre ++ (b' :: b1) ++ post) ++ bsF)).Perm (b' :: (b1 ++ ((pre ++ post) ++ bsF))) := by
  rw [List.perm_iff_count]; intro x; simp only [List.count_append, List.count_cons, List.count_nil]; omega
 have hnd2 := List.nodup_cons.1 (hp.nodup_iff.1 (by simpa using hnd))
 have hno := hnd2.1
 simp only [List.mem_append, not_or] at hno
 obtain ⟨_, ⟨n3, n3'⟩, n4⟩ := hno
 have n5 : b' ∉ bs' := fun hm => by
  rcases List.mem_append.1 (hsub.subset hm) with h | h
  ·exact n3 h
  exact n3' h
 refine ⟨_, _, _, next, R', N, [], bs', rfl, ⟨rfl, rfl, rfl⟩, repV_dat (d := .slice (out.map intDat)) ?_, hdel.keep (hk bs' n5), ?_, hnx, hk bsF n4, fun _ _ h => h⟩
 ·have hel : (out.map intDat).length = out.length := by simp
  have hH2 := holds_putRow (Value.int .i64) (Sort.ahead w q) b' 0 zs.toArray d' (holds_ahead _ w q b' 0 zs.toArray hH) hds
  have hget : ∀ i (hi : i < out.length), (putRow (Value.int .i64) (Sort.ahead w q) b' 0 d').cell? ⟨b', 0 + i, none⟩ = some (.int .i64 out[i]) := by
   intro i hi
   have hi2 : i < d'.size := by rw [hds, hsz]; omega
   have := (hH2 i hi2).1
   rw [this]
   congr 2
   rw [getElem!_pos d' i hi2]
   subst hd'
   simp [hi]
  rw [← hel]
  show RepC _ _ _ _
  refine .slice b' 0 cap 1 _ (fun i _ => .int .i64 (out[i]?.getD 0)) (by omega) ?_ (by rw [hel]; omega) (by rw [hel]; simp only [lim]; omega) ?_ ?_
  ·intro e he
   simp only [List.mem_map] at he
   obtain ⟨y, _, rfl⟩ := he
   rfl
  ·intro i j hi hj
   rw [hel] at hi
   have : j = 0 := by omega
   subst this
   refine ⟨?_, fun h => by subst hR'; exact h.1 rfl⟩
   have := hget i hi
   simpa [hi] using this
  intro i j e c he hc
  have hi : i < out.length := by
   rcases Nat.lt_or_ge i out.length with h' | h'
   ·exact h'
   rw [List.getElem?_eq_none (by simpa using h')] at he; simp at he
  have he' : e = intDat out[i] := by
   rw [List.getElem?_map, List.getElem?_eq_getElem hi] at he
   simpa using he.symm
  subst he'
  have hc' : c = intDat out[i] := by
   cases j with
   | zero => simpa [intDat, Dat.cells] using hc.symm
   | succ j => simp [intDat, Dat.cells] at hc
  subst hc'
  have e2 : out[i]?.getD 0 = out[i] := by rw [List.getElem?_eq_getElem hi]; rfl
  rw [e2]
  exact .flat (hmem _ (List.getElem_mem hi))
 have h2 := (List.nodup_append.1 hnd2.2).2.1
 rw [List.nil_append]
 exact List.Nodup.sublist (List.Sublist.append hsub (.refl _)) h2
/-- slices.Sort at []int, on a row. -/
def sortI (l : List Int) : List Int := l.mergeSort (fun x y => decide (x <= y))
theorem sortI_perm (l : List Int) : (sortI l).Perm l := List.mergeSort_perm _ _
theorem sortI_length (l : List Int) : (sortI l).length = l.length := (sortI_perm l).length_eq
theorem keep_grow {w : World} {R : Own} (os : Array Obj) (bs : List Nat) : Keep w R (grow w os) (fun b off => b < w.heap.size /\ R b off) bs := by
 have h1 : ∀ b, b < w.heap.size -> (grow w os).heap[b]? = w.heap[b]? := fun b hb => by simp [grow, Array.getElem?_append, hb]
 refine ⟨⟨rfl, rfl, rfl, by simp [grow], fun b hb hno => ⟨h1 b hb, fun off h => hno off h.2⟩, fun b off hb hno => ⟨fun h => hno h.2, World.cell?_of_block (a := ⟨b, off, none⟩) (h1 b hb)⟩, fun b hb => rowSize_same (h1 b hb)⟩, fun b hb hlt => ⟨h1 b hlt, fun off h => ⟨hlt, h⟩⟩⟩
theorem c_sortRow (L : SlLaysM.n5 P ρ) {l : List Int} (hl : l ≠ []) (hn : l.length < 1000000000) :
  ACalls P G (ρ.f 5) [.win (.out 0) 1 0 l.length] [(.out 0, .cells (ivs l))] 1 (XQ ⟨.tup [], [(.out 0, .cells (ivs (sortI l)))], 1⟩) := by
 intro w R N cargs bsA bsH bsF hargs hheap hnd hnx hglob hF
 obtain ⟨v0, r1, c0, d1, rfl, rfl, h0, hr1⟩ := repVs_cons_inv hargs
 obtain ⟨rfl, rfl⟩ := repVs_nil_inv hr1
 obtain ⟨b, b1, b2, rfl, hb, hobj, hrest⟩ := hheap
 have hrest : b2 = [] := hrest
 subst hrest
 obtain ⟨vs, elem, sp, hblk, hrv, hRv, _⟩ := hobj
 simp only [RepV] at h0
 obtain ⟨rfl, b', cap, hb', rfl, hcap, hcm, hblt, hrow⟩ := h0
 have : b' = b := by rw [hb] at hb'; simpa using hb'.symm
 subst this
 obtain ⟨us1, us2, q1, q2, hus, rfl, hr1, hq2⟩ := repVs_split hrv
 obtain ⟨rfl, rfl, hfl⟩ := ivs_inv hr1
 obtain ⟨rfl, husp⟩ := undefs_bs hq2
 have hlp : 0 < l.length := List.length_pos_iff.2 hl
 have hvs : vs.toList.length = l.length + us2.length := by rw [hus]; simp [ints]
 have hcell : ∀ j (hj : j < l.length), vs[j]? = some (.int .i64 l[j]) := by
  intro j hj
  rw [← Array.getElem?_toList, hus, List.getElem?_append_left (by simpa [ints] using hj)]
  simp [ints, hj]
 have hH : Holds (Value.int .i64) w b' 0 l.toArray := by
  intro j hj
  have hj : j < l.length := by simpa using hj
  rw [Nat.zero_add]
  refine ⟨?_, by simp [World.frozen?, hblk]⟩
  simp [World.cell?, hblk, hcell j hj, hj]
 refine (AnyM.slices_Sort_int L b' 0 cap l w hH hblt (by omega)).mono ?_
 rintro e w' ⟨rfl, n, os, rfl⟩
 obtain ⟨d, hd⟩ : ∃ d, d = (sortI l).toArray := ⟨_, rfl⟩
 show ∃ v cv heap' next' R' N' bsV bsH', _
 have hds : d.size = l.length := by rw [hd]; simp [sortI_length]
 rw [show (l.mergeSort fun x y => decide (x <= y)).toArray = d from hd.symm]
 have hself : (putRow (Value.int .i64) (Sort.ahead w n) b' 0 d).heap[b']? = some (.cells (putCells (Value.int .i64) 0 d vs) elem (0, 0)) := by
  simp [putRow, mapBlock, Sort.ahead, Array.getElem?_modify, hblk, onCells]
 have hother : ∀ c, c ≠ b' -> (putRow (Value.int .i64) (Sort.ahead w n) b' 0 d).heap[c]? = w.heap[c]? := fun c hc => by
  simp [putRow, mapBlock, Sort.ahead, Array.getElem?_modify, Ne.symm hc]
 have hsz : (putCells (Value.int .i64) 0 d vs).size = vs.size := by simp [putCells]
 have hvp : 0 < vs.size := by rw [← Array.length_toList]; omega
 have hhs : (putRow (Value.int .i64) (Sort.ahead w n) b' 0 d).heap.size = w.heap.size := by simp [putRow, mapBlock, Sort.ahead]
 obtain ⟨R', hR'⟩ : ∃ R' : Own, R' = fun c off => c < w.heap.size /\ R c off := ⟨_, rfl⟩
 have hk1 : ∀ bs, b' ∉ bs -> Keep w R (putRow (Value.int .i64) (Sort.ahead w n) b' 0 d) R bs := by
  intro bs hbs
  refine ⟨⟨rfl, rfl, rfl, by rw [hhs]; exact Nat.le_refl _, fun c hc hno => ?_, fun c off hc hno => ⟨hno, ?_⟩, fun c hc => ?_⟩, fun c hc _ => ?_⟩
  ·have hne : c ≠ b' := fun e => hno 0 (e ▸ hRv 0 hvp)
   exact ⟨hother c hne, hno⟩
  ·by_cases hcb : c = b'
   ·subst hcb
    have ho : vs.size <= off := by
     rcases Nat.lt_or_ge off vs.size with h' | h'
     ·exact (hno (hRv off h')).elim
     exact h'
    rw [cell_of_row _ c off _ elem (0, 0) hself, cell_of_row w c off vs elem (0, 0) hblk, Array.getElem?_eq_none (by omega), Array.getElem?_eq_none ho]
   exact World.cell?_of_block (a := ⟨c, off, none⟩) (hother c hcb)
  ·by_cases hcb : c = b'
   ·subst hcb
    rw [rowSize_of hself, rowSize_of hblk, hsz]
   exact rowSize_same (hother c hcb)
  have hne : c ≠ b' := fun e => hbs (e ▸ hc)
  exact ⟨hother c hne, fun off h => h⟩
 have hk : ∀ bs, b' ∉ bs -> Keep w R (grow (putRow (Value.int .i64) (Sort.ahead w n) b' 0 d) os) R' bs := by
  intro bs hbs
  have h := (hk1 bs hbs).trans (keep_grow (R := R) os bs)
  rw [hhs] at h
  rw [hR']
  exact h
 have hbF : b' ∉ bsF := by
  have h1 : (b' :: bsF).Nodup := by simpa using hnd
  exact (List.nodup_cons.1 h1).1
 have hg : (grow (putRow (Value.int .i64) (Sort.ahead w n) b' 0 d) os).heap[b']? = some (.cells (putCells (Value.int .i64) 0 d vs) elem (0, 0)) := by
  have hlt : b' < (putRow (Value.int .i64) (Sort.ahead w n) b' 0 d).heap.size := by rw [hhs]; exact hblt
  rw [show (grow (putRow (Value.int .i64) (Sort.ahead w n) b' 0 d) os).heap[b']? = (putRow (Value.int .i64) (Sort.ahead w n) b' 0 d).heap[b']? by rw [grow, Array.getElem?_append_left hlt]]
  exact hself
 refine ⟨_, _, _, 1, R', N, [], [b'], rfl, ⟨rfl, rfl, rfl⟩, by simp only [RepV]; exact ⟨[], rfl, repVs_nil⟩, ?_, by simpa using hnd, hnx, hk bsF hbF, fun _ _ h => h⟩
 refine ⟨b', [], [], rfl, hb, ?_, rfl⟩
 refine ⟨putCells (Value.int .i64) 0 d vs, elem, sp, hg, ?_, fun j hj => by rw [hsz] at hj; subst hR'; exact ⟨hblt, hRv j hj⟩, fun h => by rw [ivs_bld] at h; simp at h⟩
 have hfl2 : ∀ x ∈ sortI l, isFlat (.int .i64 x) = true := fun x hx => hfl x ((sortI_perm l).mem_iff.1 hx)
 have hlist : (putCells (Value.int .i64) 0 d vs).toList = ints (sortI l) ++ us2 := by
  apply List.ext_getElem?
  intro j
  rw [Array.getElem?_toList]
  simp only [putCells, Array.getElem?_mapIdx, Nat.zero_le, true_and, Nat.zero_add, Nat.sub_zero]
  have hvj : vs[j]? = (ints l ++ us2)[j]? := by rw [← Array.getElem?_toList, hus]
  rw [hvj]
  by_cases hj : j < l.length
  ·rw [List.getElem?_append_left (by simpa [ints] using hj), List.getElem?_append_left (by simpa [ints, sortI_length] using hj)]
   have hj2 : j < d.size := by omega
   have hj3 : j < (sortI l).length := by rw [sortI_length]; exact hj
   simp only [ints, List.getElem?_map, List.getElem?_eq_getElem hj, List.getElem?_eq_getElem hj3, Option.map_some, hj2, if_true]
   rw [getElem!_pos d j hj2]
   subst hd
   simp
  rw [List.getElem?_append_right (by simpa [ints] using hj), List.getElem?_append_right (by simpa [ints, sortI_length] using hj)]
  simp only [ints, List.length_map, sortI_length]
  cases us2[j - l.length]? with
  | none => rfl
  | some u => simp only [Option.map_some]; rw [if_neg (by omega)]
 rw [hlist]
 have h2 := repVs_undefs (w := grow (putRow (Value.int .i64) (Sort.ahead w n) b' 0 d) os) (R := R') (N := outs N) us2
 rw [husp] at h2
 have h3 : RepVs (grow (putRow (Value.int .i64) (Sort.ahead w n) b' 0 d) os) R' (outs N) (ivs (sortI l)) (ints (sortI l)) [] := ivs_mk hfl2
 simpa using repVs_append h3 h2
/-- .. on nothing. -/
theorem c_sortNil (L : SlLaysM.n5 P ρ) : ACalls P G (ρ.f 5) [.dat (.flat (.slice none 0 0))] [] 0 (XQ ⟨.tup [], [], 0⟩) := by
 intro w R N cargs bsA bsH bsF hargs hheap hnd hnx hglob hF
 obtain ⟨v0, r1, c0, d1, rfl, rfl, h0, hr1⟩ := repVs_cons_inv hargs
 obtain ⟨rfl, rfl⟩ := repVs_nil_inv hr1
 simp only [RepV] at h0
 obtain ⟨rfl, h0⟩ := h0
 have h0 : RepC w R v0 (.flat (.slice none 0 0)) := h0
 have e0 : v0 = .slice none 0 0 := by cases h0 with | flat _ => rfl
 subst e0
 refine (AnyM.slices_Sort_int_none L none 0 w).mono ?_
 rintro e w' ⟨rfl, rfl⟩
 exact ⟨_, _, _, 0, R, N, [], bsH, rfl, ⟨rfl, rfl, rfl⟩, by simp only [RepV]; exact ⟨[], rfl, repVs_nil⟩, hheap, by simpa using hnd, hnx, ⟨Step.refl _ _, fun _ _ _ => ⟨rfl, fun _ h => h⟩⟩, fun _ _ h => h⟩
end
end Go.Tp

namespace Go.Tp
open Go.Proofs Go.RowKit Go.Maps Go.Sort Go.Shelf
/-- A set as a map's entries. -/
def setM (ks : List Int) : List (Value × Dat) := ks.map fun k => (.int .i64 k, .flat (.bool true))
theorem setM_keys {w : World} {R : Own} : ∀ {ks : List Int} {ents : List MapEntry}, RepMap w R (setM ks) ents -> ents.map (·.key) = ks.map encZ
 | [], ents, h => by simp [setM, RepMap] at h; subst h; rfl
 | k :: ks, ents, ⟨e, es', e1, e2, e3, e4⟩ => by
  subst e1
  simp [setM_keys (ks := ks) e4, e2]
def in64 (x : Int) : Prop := -9223372036854775808 <= x /\ x <= 9223372036854775807
theorem in64_flat {x : Int} (h : in64 x) : isFlat (.int .i64 x) = true := by
 have e1 : IntKind.i64.min = -9223372036854775808 := by decide
 have e2 : IntKind.i64.max = 9223372036854775807 := by decide
 simp only [isFlat, e1, e2, Bool.and_eq_true, decide_eq_true_eq]
 exact h
theorem in64_wf {x : Int} (h : in64 x) : (Lit.int .i64 x).wf = true := in64_flat h
/-- A slice of ints; nil if there are none. -/
def nlI : List Int -> Dat
 | [] => .flat (.slice none 0 0)
 | x :: r => .slice ((x :: r).map fun y => .flat (.int .i64 y))
section
variable {P : Program} {ρ ρ' : Ren} {G : Globs}
/-- A map's object, as the shelf's walk holds it. -/
theorem owns_of_set {w : World} {R : Own} {ents : Array MapEntry} {clock b : Nat} {k : TypeId} (hk : P.underlying k = some (.int .i64)) {ks : List Int} (hin : ∀ x ∈ ks, in64 x) (hnd : ks.Nodup)
  (hlen : ks.length <= 4294967296) (hb : w.heap[b]? = some (.map ents clock)) (hr : RepMap w R (setM ks) ents.toList) (hbo : Borns ents clock) :
  ∃ D0 : DataW Unit, w.ownsMap P k (fun _ => some (.nil, [])) b ents.size D0 /\ Maps.size D0 = ks.length /\ (intKeys D0).Perm ks := by
 have h1 := setM_keys hr
 have hlen2 : ents.size = ks.length := by
  have := congrArg List.length h1
  simpa using this
 have hread : ∀ x ∈ ents.toList, ∃ s : Int, x.key = encZ s /\ s ∈ ks /\ Go.WideElems.rd P k (fun _ => some ((.nil : DataW Unit), [])) x = some (.int .i64 s, .nil) := by
  intro x hx
  have hm : x.key ∈ ents.toList.map (·.key) := List.mem_map.2 ⟨x, hx, rfl⟩
  rw [h1] at hm
  obtain ⟨s, hs, e⟩ := List.mem_map.1 hm
  refine ⟨s, e.symm, hs, ?_⟩
  have hkk : keyOf P k x.key = some (.int .i64 s) := by
   rw [← e]
   obtain ⟨h1, h2⟩ := hin s hs
   exact Maps.keyOf_int_mk (k := k) hk (in64_wf ⟨h1, h2⟩)
  simp [Go.WideElems.rd, hkk]
 refine ⟨_, ⟨ents, clock, hb, ⟨by rw [hlen2]; simp only [maxLen]; omega, ⟨hbo.1, hbo.2, ?_⟩, fun x hx => (hread x hx).elim fun s hs => ⟨_, hs.2.2⟩⟩, Nat.le_refl _, rfl⟩, ?_, ?_⟩
 ·rw [h1]
  exact hnd.map _ (fun a b hab => fun e => hab (encZ_inj e))
 ·simp [Maps.size, length_sorted, hlen2]
 have p1 := Go.WideShapes.sorted_perm (ents.toList.map (Go.WideElems.rg P k (fun _ => some ((.nil : DataW Unit), []))))
 have p2 := p1.map (fun p => intOf p.1)
 refine p2.trans ?_
 rw [List.map_map]
 have e3 : ents.toList.map ((fun p : Lit × DataW Unit => intOf p.1) ∘ Go.WideElems.rg P k (fun _ => some (.nil, []))) = ks := by
  have key : ∀ (l : List MapEntry) (ks : List Int), l.map (·.key) = ks.map encZ -> (∀ x ∈ l, ∃ s : Int, x.key = encZ s /\ Go.WideElems.rd P k (fun _ => some ((.nil : DataW Unit), [])) x = some (.int .i64 s, .nil)) ->
    l.map ((fun p : Lit × DataW Unit => intOf p.1) ∘ Go.WideElems.rg P k (fun _ => some (.nil, []))) = ks := by
   intro l
   induction l with
   | nil => intro ks h _; cases ks with | nil => rfl | cons _ _ => simp at h
   | cons x l ih =>
    intro ks h hall
    cases ks with
    | nil => simp at h
    | cons s ks =>
     simp only [List.map_cons, List.cons.injEq] at h ⊢
     obtain ⟨s', hs', hrd⟩ := hall x (by simp)
     have : s' = s := encZ_inj (hs'.symm.trans h.1)
     subst this
     exact ⟨by simp [Go.WideElems.rg, hrd, intOf], ih ks h.2 fun y hy => hall y (by simp [hy])⟩
  exact key _ _ h1 fun x hx => (hread x hx).elim fun s hs => ⟨s, hs.1, hs.2.2⟩
 rw [e3]
theorem c_sortedK (L6 : SlLaysZI.n6 P ρ) (L10 : SlLaysZI.n10 P ρ') (hsort : AnyZI.SortsIn P ρ Fence.wide 4) (e9 : Enters P (ρ.f 9)) (e10 : Enters P (ρ'.f 10)) (hk : P.underlying (ρ'.t 26) = some (.int .i64))
  {heap : Heap} {next k m : Nat} {tl : List AVal} {ks : List Int} (hbox : aget (.out k) heap = some (.cells (.map (.out m) :: tl))) (hmap : aget (.out m) heap = some (.map (setM ks))) (hlen : ks.length <= 4294967296) (hnd0 : ks.Nodup) (hin : ∀ x ∈ ks, in64 x) :
  ACalls P G (ρ.f 6) [.fn (.func (ρ'.f 10)) [] [.ptr (.out k) 0]] heap next (XQ ⟨.dat (nlI (sortI ks)), heap, next⟩) := by
 intro w R N cargs bsA bsH bsF hargs hheap hnd hnx hglob hF
 obtain ⟨v0, r1, c0, d1, rfl, rfl, h0, hr1⟩ := repVs_cons_inv hargs
 obtain ⟨rfl, rfl⟩ := repVs_nil_inv hr1
 simp only [RepV] at h0
 obtain ⟨rfl, vs, us, rfl, hvs, hus⟩ := h0
 obtain ⟨rfl, _⟩ := repVs_nil_inv hvs
 obtain ⟨Bm, hBm, rfl, _⟩ := one_ptr (k := k) (by simpa using hus)
 obtain ⟨pre, b', b1, post, rfl, hb', hobj, _⟩ := RepObjs.split hheap hbox
 have : b' = Bm := by simp only [outs] at hb'; rw [hBm] at hb'; simpa using hb'.symm
 subst this
 obtain ⟨xs, elem, sp, hblk, hrx, _, _⟩ := hobj
 rw [List.cons_append] at hrx
 obtain ⟨x0, xr, f0, f1, hx, _, hx0, _⟩ := repVs_cons_inv hrx
 simp only [RepV] at hx0
 obtain ⟨_, bm, hbm, rfl⟩ := hx0
 have hcell : w.cell? ⟨b', 0, none⟩ = some (.map (some bm)) := by
  have : xs[0]? = some (.map (some bm)) := by rw [← Array.getElem?_toList, hx]; rfl
  simp [World.cell?, hblk, this]
 obtain ⟨pre2, b2, b3, post2, _, hb2, hobj2, _⟩ := RepObjs.split hheap hmap
 have : b2 = bm := by rw [hb2] at hbm; simpa using hbm
 subst this
 obtain ⟨_, _, ents, clock, hmb, hrm, hbo⟩ := hobj2
 obtain ⟨D0, hown, hsz, hperm⟩ := owns_of_set hk hin hnd0 hlen hmb hrm hbo
 have hseq := AnyZI.keys_gives L10 Fence.wide 2 trivial rfl (by omega) b' b2 ents.size D0 w (lt_of_heap hblk) hcell hown
 have cS := AnyZI.sorted_in L6 Fence.wide 5 trivial trivial trivial trivial rfl (by omega) hsort e9 (ρ'.f 10) #[.pointer (some ⟨b', 0, none⟩)] trivial e10 _ (Maps.size D0) (by rw [hsz]; simp only [maxLen]; omega) (by rw [hsz]; omega) w hseq
 refine (callsIn_wide.1 cS).mono ?_
 rintro e w' ⟨v, ss, rfl, hS, hrow, hnil, hb⟩
 have hss : ss.mergeSort (fun x y => decide (x <= y)) = sortI ks := mergeSort_of_perm_i (hS.trans hperm)
 have hssl : ss.length = ks.length := (hS.trans hperm).length_eq
 rw [hss] at hrow
 refine ⟨_, _, _, next, _, N, [], _, rfl, ⟨rfl, rfl, rfl⟩, repV_dat (d := nlI (sortI ks)) ?_, hheap.keep (keep_below hb _), by simpa using hnd, hnx, keep_below hb bsF, fun _ _ h => h⟩
 have hmem : ∀ y ∈ sortI ks, in64 y := fun y hy => hin y ((sortI_perm ks).mem_iff.1 hy)
 have hsl : (sortI ks).length = ks.length := sortI_length ks
 revert hmem hsl hrow
 generalize sortI ks = L
 intro hrow hmem hsl
 cases L with
 | nil =>
  have hs0 : ss = [] := List.eq_nil_of_length_eq_zero (by simp at hsl; omega)
  have hv := hnil.2 hs0
  subst hv
  exact .flat rfl
 | cons x r' =>
  obtain ⟨hl, hrow⟩ := hrow
  have hlen' : ss.length = (x :: r').length := by rw [hsl]; exact hssl
  rcases hrow with ⟨_, hz⟩ | ⟨g, cap, cur, rfl, hbase, hgb, q1, q2, q3, q4⟩
  ·rw [hlen'] at hz; simp at hz
  have hel : ((x :: r').map fun y => (Dat.flat (.int .i64 y))).length = ss.length := by simp [hlen']
  show RepC _ _ _ _
  show RepC _ _ _ (.slice ((x :: r').map fun y => (Dat.flat (.int .i64 y))))
  rw [← hel]
  refine .slice g 0 cap 1 _ (fun i _ => cur[i]?.getD default) (by omega) ?_ (by rw [hel]; exact q1) (by rw [hel, hssl]; simp only [lim]; omega) ?_ ?_
  ·intro e he
   simp only [List.mem_map] at he
   obtain ⟨y, _, rfl⟩ := he
   rfl
  ·intro i j hi hj
   rw [hel] at hi
   have hci : i < cur.size := by omega
   refine ⟨?_, fun hR => by omega⟩
   have : j = 0 := by omega
   subst this
   simp [World.cell?, hgb, hci]
  intro i j e c he hc
  have hi : i < (x :: r').length := by
   rcases Nat.lt_or_ge i (x :: r').length with h' | h'
   ·exact h'
   rw [List.getElem?_eq_none (by simpa using h')] at he; simp at he
  have hcur : cur[i]? = some (encZ (x :: r')[i]) := by
   have hti : (cur.toList.take (ss.length * 1))[i]? = some (encZ (x :: r')[i]) := by
    rw [q4, List.getElem?_map, List.getElem?_eq_getElem hi]; rfl
   rw [List.getElem?_take_of_lt (by omega)] at hti
   simpa using hti
  have he' : e = .flat (.int .i64 (x :: r')[i]) := by
   rw [List.getElem?_map, List.getElem?_eq_getElem hi] at he
   simpa using he.symm
  subst he'
  have hc' : c = .flat (.int .i64 (x :: r')[i]) := by
   cases j with
   | zero => simpa [Dat.cells] using hc.symm
   | succ j => simp [Dat.cells] at hc
  subst hc'
  rw [hcur]
  exact .flat (w := w') (v := .int .i64 _) (in64_flat (hmem _ (List.getElem_mem hi)))
end
end Go.Tp

namespace Go.Proofs.YtmpmgmmcaghacaaGreatDoor
open Go.Tp
/-! ### Objects -/
def lvRow (nm : Nat -> Nat) (n : Nat) : List AVal := (List.range n).map fun k => .map (.out (nm k))
def lvM (a : Nat) : List (List Int) -> Heap
 | [] => []
 | e :: es => (.out a, .map (setM e)) :: lvM (a + 1) es
theorem rnL_map {α : Type} (ρ : Nat -> Nat) (f : α -> AVal) : ∀ l : List α, rnL ρ (l.map f) = l.map (fun x => rnV ρ (f x))
 | [] => rfl
 | a :: r => by show rnV ρ (f a) :: rnL ρ (r.map f) = _; rw [rnL_map ρ f r]; rfl
theorem rnL_row (ρ nm : Nat -> Nat) (n : Nat) : rnL ρ (lvRow nm n) = lvRow (fun k => ρ (nm k)) n := by
 unfold lvRow
 rw [rnL_map]
 rfl
theorem lvRow_congr {f g : Nat -> Nat} {n : Nat} (h : ∀ k, k < n -> f k = g k) : lvRow f n = lvRow g n := by
 unfold lvRow
 apply List.map_congr_left
 intro k hk
 rw [h k (List.mem_range.1 hk)]
theorem hiL_of {k : Nat} {l : List AVal} (h : ∀ a ∈ l, hiV k a = false) : hiL k l = false := by
 induction l with
 | nil => rfl
 | cons a r ih =>
  show (hiV k a || hiL k r) = false
  rw [h a (by simp), ih (fun b hb => h b (by simp [hb]))]; rfl
theorem hiL_row {nm : Nat -> Nat} {n m : Nat} (h : ∀ k, k < n -> nm k < m) : hiL m (lvRow nm n) = false := by
 refine hiL_of ?_
 intro a ha
 obtain ⟨k, hk, rfl⟩ := List.mem_map.1 ha
 have := h k (List.mem_range.1 hk)
 show Nat.ble m (nm k) = false
 cases e : Nat.ble m (nm k) with
 | true => have := ble_to e; omega
 | false => rfl
theorem row_get {nm : Nat -> Nat} {n k : Nat} (h : k < n) : (lvRow nm n)[k]? = some (.map (.out (nm k))) := by
 unfold lvRow
 rw [List.getElem?_map, List.getElem?_range h]; rfl
theorem lvM_has : ∀ {es : List (List Int)} {a k : Nat}, k < es.length -> hasName (a + k) (lvM a es) = true
 | [], _, _, h => by simp at h
 | e :: es, a, 0, _ => by simp [lvM, hasName]
 | e :: es, a, k + 1, h => by
  have := lvM_has (es := es) (a := a + 1) (k := k) (by simpa using h)
  simp only [lvM, hasName]
  rw [show a + (k + 1) = a + 1 + k by omega, this, Bool.or_true]
def namesLt (a : Nat) (h : Heap) : Prop := ∀ p ∈ h, ∃ o, p.1 = .out o /\ a <= o
theorem lvM_lo : ∀ (es : List (List Int)) (a : Nat), namesLt a (lvM a es)
 | [], _, p, hp => by simp [lvM] at hp
 | e :: es, a, p, hp => by
  simp only [lvM, List.mem_cons] at hp
  rcases hp with rfl | hp
  ·exact ⟨a, rfl, Nat.le_refl _⟩
  obtain ⟨o, h1, h2⟩ := lvM_lo es (a + 1) p hp
  exact ⟨o, h1, by omega⟩
theorem lvM_nd : ∀ (es : List (List Int)) (a : Nat), ((lvM a es).map (·.1)).Nodup
 | [], _ => List.nodup_nil
 | e :: es, a => by
  simp only [lvM, List.map_cons]
  refine List.nodup_cons.2 ⟨?_, lvM_nd es (a + 1)⟩
  intro h
  obtain ⟨p, hp, e⟩ := List.mem_map.1 h
  obtain ⟨o, h1, h2⟩ := lvM_lo es (a + 1) p hp
  rw [h1] at e
  simp at e
  omega
theorem lvM_get : ∀ {es : List (List Int)} {a k : Nat} {e : List Int}, es[k]? = some e -> aget (.out (a + k)) (lvM a es) = some (.map (setM e))
 | [], _, _, _, h => by simp at h
 | e0 :: es, a, 0, e, h => by simp at h; subst h; simp [lvM, aget]
 | e0 :: es, a, k + 1, e, h => by
  simp only [lvM, aget]
  rw [if_neg (by simp)]
  have := lvM_get (es := es) (a := a + 1) (k := k) (by simpa using h)
  rw [show a + (k + 1) = a + 1 + k by omega]; exact this
theorem lvM_set : ∀ {es : List (List Int)} {a k : Nat} {e : List Int}, lvM a (es.set k e) = aset (.out (a + k)) (.map (setM e)) (lvM a es)
 | [], _, _, _ => rfl
 | e0 :: es, a, 0, e => by simp [lvM, aset]
 | e0 :: es, a, k + 1, e => by
  simp only [List.set_cons_succ, lvM, aset]
  rw [if_neg (by simp), lvM_set (es := es), show a + (k + 1) = a + 1 + k by omega]
theorem adel_aset {n : Name} {o : AObj} : ∀ {h : Heap}, adel n (aset n o h) = adel n h
 | [] => rfl
 |(m, x) :: r => by
  by_cases hm : m = n
  ·simp [aset, adel, hm]
  simp [aset, adel, hm, adel_aset (h := r)]
theorem adel_none {n : Name} : ∀ {h : Heap}, n ∉ h.map (·.1) -> adel n h = h
 | [], _ => rfl
 |(m, x) :: r, h => by
  simp only [List.map_cons, List.mem_cons, not_or] at h
  simp only [adel]
  rw [if_neg (fun e => h.1 e.symm), adel_none h.2]
theorem perm_adel {n : Name} {o : AObj} : ∀ {h : Heap}, (h.map (·.1)).Nodup -> aget n h = some o -> h.Perm ((n, o) :: adel n h)
 | [], _, h => by simp [aget] at h
 |(m, x) :: r, hnd, h => by
  simp only [List.map_cons] at hnd
  obtain ⟨h1, h2⟩ := List.nodup_cons.1 hnd
  simp only [aget] at h
  by_cases hm : m = n
  ·subst hm
   simp at h
   subst h
   simp only [adel, if_true]
   rw [adel_none h1]
  rw [if_neg hm] at h
  simp only [adel, if_neg hm]
  exact ((perm_adel h2 h).cons _).trans (List.Perm.swap _ _ _)
theorem adel_nd {n : Name} : ∀ {h : Heap}, (h.map (·.1)).Nodup -> ((adel n h).map (·.1)).Nodup
 | [], h => h
 |(m, x) :: r, hnd => by
  simp only [List.map_cons] at hnd
  obtain ⟨h1, h2⟩ := List.nodup_cons.1 hnd
  by_cases hm : m = n
  ·simp only [adel, hm, if_true]; exact adel_nd h2
  simp only [adel, if_neg hm, List.map_cons]
  refine List.nodup_cons.2 ⟨fun hx => h1 ?_, adel_nd h2⟩
  obtain ⟨p, hp, e⟩ := List.mem_map.1 hx
  have sub : ∀ {h : Heap}, p ∈ adel n h -> p ∈ h := by
   intro h
   induction h with
   | nil => intro h; exact h
   | cons q l ih =>
    obtain ⟨a, b⟩ := q
    simp only [adel]
    split
    ·intro hh; exact List.mem_cons_of_mem _ (ih hh)
    intro hh
    rcases List.mem_cons.1 hh with rfl | hh
    ·exact List.mem_cons_self
    exact List.mem_cons_of_mem _ (ih hh)
  exact List.mem_map.2 ⟨p, sub hp, e⟩
theorem adel_get {n m : Name} (hne : n ≠ m) : ∀ {h : Heap}, aget m (adel n h) = aget m h
 | [] => rfl
 |(k, x) :: r => by
  by_cases hk : k = n
  ·subst hk
   simp only [adel, if_true, aget, if_neg hne]
   exact adel_get hne
  simp only [adel, if_neg hk, aget]
  split
  ·rfl
  exact adel_get hne
theorem perm_one {es : List (List Int)} {a i : Nat} {e : List Int} (h : es[i]? = some e) : (lvM a es).Perm ((.out (a + i), .map (setM e)) :: adel (.out (a + i)) (lvM a es)) := perm_adel (lvM_nd es a) (lvM_get h)
theorem perm_two {es : List (List Int)} {a i j : Nat} {e f : List Int} (hij : i ≠ j) (h : es[i]? = some e) (k : es[j]? = some f) :
  (lvM a es).Perm ((.out (a + i), .map (setM e)) :: (.out (a + j), .map (setM f)) :: adel (.out (a + j)) (adel (.out (a + i)) (lvM a es))) := by
 have hne : Name.out (a + i) ≠ .out (a + j) := by simp; exact hij
 exact (perm_one h).trans ((perm_adel (adel_nd (lvM_nd es a)) (by rw [adel_get hne]; exact lvM_get k)).cons _)
/-! ### The state -/
section
variable (n : Nat) (p s : Int) (d1 d2 : Dat)
def lvBo (q : Nat) (oc fs : List AVal) : Heap := [(.out q, .cells oc), (.out 2, .cells [.win (.out 0) 1 0 n]), (.out 1, .cells (cC p s d1 d2)), (.out 0, .cells fs)]
def lvB (q : Nat) (ch : Bool) (fs : List AVal) : Heap := lvBo n p s d1 d2 q [bv ch] fs
/-- The whole of it. -/
def lvHo (oc : List AVal) (es : List (List Int)) : Heap := lvBo n p s d1 d2 (3 + n) oc (lvRow (fun k => 3 + k) n) ++ lvM 3 es
def lvH (ch : Bool) (es : List (List Int)) : Heap := lvHo n p s d1 d2 [bv ch] es
end
noncomputable abbrev tmL (sl : Sl) : List AVal := ((⟨sl, [], [], 0⟩ : FState).toA Tryz.f21.ntmps).tmps
/-- Slots that name the two boxes alone; locals that name nothing. -/
structure Fit (F : Nat -> Nat -> Sl) (L : Heap) : Prop where
 rn : ∀ ρ : Nat -> Nat, ρ 0 = 0 -> ρ 1 = 1 -> rnL ρ (tmL (F 2 3)) = tmL (F (ρ 2) (ρ 3))
 lo : hiL 4 (tmL (F 2 3)) = false
 rl : ∀ ρ, rnH ρ L = L
 ll : ∀ k, hiH k L = false
/-- Data alone. -/
def DatL (l : List AVal) : Prop := ∀ a ∈ l, ∃ d, a = .dat d
theorem DatL.rn {l : List AVal} (h : DatL l) (ρ : Nat -> Nat) : rnL ρ l = l := by
 induction l with
 | nil => rfl
 | cons a r ih =>
  obtain ⟨d, rfl⟩ := h a List.mem_cons_self
  show .dat d :: rnL ρ r = _
  rw [ih (fun b hb => h b (List.mem_cons_of_mem _ hb))]
theorem DatL.hi {l : List AVal} (h : DatL l) (m : Nat) : hiL m l = false := by
 refine hiL_of ?_
 intro a ha
 obtain ⟨d, rfl⟩ := h a ha
 rfl
theorem datL_bv (b : Bool) : DatL [bv b] := by
 intro a ha
 simp at ha
 exact ⟨_, ha⟩
theorem view_core {n : Nat} {p s : Int} {d1 d2 : Dat} {c : Code} {Q : Exit -> AState -> Prop} {F : Nat -> Nat -> Sl} {L : Heap} {oc : List AVal} {es : List (List Int)} (ρ nm : Nat -> Nat) (m : Nat) (pl rest : Heap) (hes : es.length = n)
  (r0 : ρ 0 = 0) (r1 : ρ 1 = 1) (r2 : ρ 2 = 2) (r3 : ρ 3 = 3 + n) (rk : ∀ k, k < n -> ρ (nm k) = 3 + k /\ nm k < m) (h4 : 4 <= m) (hr : ∀ o, o < m -> ρ o <= 3 + n)
  (hpl : (lvM 3 es).Perm (rnH ρ pl ++ rest)) (hp2 : hiH m pl = false) (hF : Fit F L) (hoc : DatL oc)
  (h : KD c (fun e s1 => ∃ F' L' oc' pl' es', Fit F' L' /\ DatL oc' /\ s1 = (⟨F' 2 3, L', lvBo n p s d1 d2 3 oc' (lvRow nm n) ++ pl', m⟩ : FState).toA Tryz.f21.ntmps /\ (lvM 3 es').Perm (rnH ρ pl' ++ rest) /\ (∀ ρ', (∀ o, o < m -> ρ' o = ρ o) -> rnH ρ' pl' = rnH ρ pl') ∧
   Q e ((⟨F' 2 (3 + n), L', lvHo n p s d1 d2 oc' es', 4 + n⟩ : FState).toA Tryz.f21.ntmps)) ((⟨F 2 3, L, lvBo n p s d1 d2 3 oc (lvRow nm n) ++ pl, m⟩ : FState).toA Tryz.f21.ntmps)) :
  KD c Q ((⟨F 2 (3 + n), L, lvHo n p s d1 d2 oc es, 4 + n⟩ : FState).toA Tryz.f21.ntmps) := by
 have hcc : ∀ ρ : Nat -> Nat, rnL ρ (cC p s d1 d2) = cC p s d1 d2 := fun _ => rfl
 have lvB_rn : ∀ (ρ' : Nat -> Nat) (oc : List AVal), DatL oc -> ρ' 0 = 0 -> ρ' 1 = 1 -> ρ' 2 = 2 -> ρ' 3 = 3 + n -> (∀ k, k < n -> ρ' (nm k) = 3 + k) -> rnH ρ' (lvBo n p s d1 d2 3 oc (lvRow nm n)) = lvBo n p s d1 d2 (3 + n) oc (lvRow (fun k => 3 + k) n) := by
  intro ρ' oc ho e0 e1 e2 e3 ek
  simp only [lvBo, rnH, rnN, rnO, rnL_row, hcc, e0, e1, e2, e3]
  rw [lvRow_congr ek, ho.rn ρ']
  simp only [rnL, rnV, e0]
 have rnH_app : ∀ (ρ' : Nat -> Nat) (a b : Heap), rnH ρ' (a ++ b) = rnH ρ' a ++ rnH ρ' b := by
  intro ρ' a b
  induction a with
  | nil => rfl
  | cons x r ih =>
   obtain ⟨nm, o⟩ := x
   simp only [List.cons_append, rnH, ih]
 have hv := ACode.view h ρ (4 + n) (lvHo n p s d1 d2 oc es) rest (by
  show (lvBo n p s d1 d2 (3 + n) oc (lvRow (fun k => 3 + k) n) ++ lvM 3 es).Perm (rnH ρ (lvBo n p s d1 d2 3 oc (lvRow nm n) ++ pl) ++ rest)
  rw [rnH_app, lvB_rn ρ oc hoc r0 r1 r2 r3 (fun k hk => (rk k hk).1), List.append_assoc]
  exact List.Perm.append_left _ hpl) (hiL_mono h4 hF.lo) (hF.ll _) (by
  show hiH m (lvBo n p s d1 d2 3 oc (lvRow nm n) ++ pl) = false
  have hi_app : ∀ (a b : Heap), hiH m a = false -> hiH m b = false -> hiH m (a ++ b) = false := by
   intro a b ha hb
   induction a with
   | nil => exact hb
   | cons x r ih =>
    obtain ⟨nm, o⟩ := x
    cases nm with
    | loc i =>
     simp only [List.cons_append, hiH, Bool.or_eq_false_iff] at ha ⊢
     exact ⟨ha.1, ih ha.2⟩
    | out i =>
     simp only [List.cons_append, hiH, Bool.or_eq_false_iff] at ha ⊢
     exact ⟨ha.1, ha.2.1, ih ha.2.2⟩
  refine hi_app _ _ ?_ hp2
  have hb : ∀ q, q < 4 -> Nat.ble m q = false := by
   intro q hq
   cases e : Nat.ble m q with
   | true => have := ble_to e; omega
   | false => rfl
  simp only [lvBo, hiH, hiO, hiL, hiV, hoc.hi m, hb 3 (by omega), hb 2 (by omega), hb 1 (by omega), hb 0 (by omega), bv, Bool.or_false, Bool.false_or, hiL_row (fun k hk => (rk k hk).2)]
  rfl) (by
  intro o ho
  have hle := hr o ho
  show hasName (ρ o) (lvBo n p s d1 d2 (3 + n) oc (lvRow (fun k => 3 + k) n) ++ lvM 3 es) = true
  generalize ρ o = x at hle
  have hx : x = 0 ∨ x = 1 ∨ x = 2 ∨ (∃ k, k < n /\ x = 3 + k) ∨ x = 3 + n := by
   by_cases h3 : x < 3
   ·omega
   by_cases h5 : x < 3 + n
   ·exact .inr (.inr (.inr (.inl ⟨x - 3, by omega, by omega⟩)))
   omega
  simp only [lvBo, List.cons_append, List.nil_append, hasName, Bool.or_eq_true, Nat.beq_eq]
  rcases hx with rfl | rfl | rfl | ⟨k, hk, rfl⟩ | rfl
  ·exact .inr (.inr (.inr (.inl rfl)))
  ·exact .inr (.inr (.inl rfl))
  ·exact .inr (.inl rfl)
  ·exact .inr (.inr (.inr (.inr (lvM_has (by rw [hes]; exact hk)))))
  exact .inl rfl)
 have e1 : rnL ρ ((⟨F 2 3, L, lvBo n p s d1 d2 3 oc (lvRow nm n) ++ pl, m⟩ : FState).toA Tryz.f21.ntmps).tmps = tmL (F 2 (3 + n)) := by
  have := hF.rn ρ r0 r1
  rw [r2, r3] at this
  exact this
 have e2 : rnH ρ ((⟨F 2 3, L, lvBo n p s d1 d2 3 oc (lvRow nm n) ++ pl, m⟩ : FState).toA Tryz.f21.ntmps).locs = L := hF.rl ρ
 rw [e1, e2] at hv
 refine ACode.lessQ hv ?_
 rintro e s2 ⟨s1, ⟨F', L', oc', pl', es', hF', hoc', rfl, hp', hρ', hQ⟩, rfl⟩
 have hlt : ∀ o, o < m -> liftN ρ m (4 + n) o = ρ o := by
  intro o ho
  unfold liftN
  rw [show Nat.blt o m = true by rw [Nat.blt_eq]; exact ho]
 refine ⟨lvHo n p s d1 d2 oc' es', [], ?_, ?_⟩
 ·rw [List.append_nil]
  show (rnH (liftN ρ m (4 + n)) (lvBo n p s d1 d2 3 oc' (lvRow nm n) ++ pl') ++ rest).Perm (lvHo n p s d1 d2 oc' es')
  rw [rnH_app, lvB_rn _ oc' hoc' (by rw [hlt 0 (by omega), r0]) (by rw [hlt 1 (by omega), r1]) (by rw [hlt 2 (by omega), r2]) (by rw [hlt 3 (by omega), r3]) (fun k hk => by rw [hlt _ (rk k hk).2, (rk k hk).1]), hρ' _ hlt, List.append_assoc]
  exact List.Perm.append_left _ hp'.symm
 have k1 : rnL (liftN ρ m (4 + n)) (tmL (F' 2 3)) = tmL (F' 2 (3 + n)) := by
  have := hF'.rn (liftN ρ m (4 + n)) (by rw [hlt 0 (by omega), r0]) (by rw [hlt 1 (by omega), r1])
  rw [hlt 2 (by omega), hlt 3 (by omega), r2, r3] at this
  exact this
 have k2 : rnH (liftN ρ m (4 + n)) L' = L' := hF'.rl _
 have k3 : (4 + n) + (m - m) = 4 + n := by omega
 show Q e (⟨rnL (liftN ρ m (4 + n)) (tmL (F' 2 3)), rnH (liftN ρ m (4 + n)) L', lvHo n p s d1 d2 oc' es', (4 + n) + (m - m)⟩ : AState)
 rw [k1, k2, k3]
 exact hQ
/-- What a piece sees that needs one set alone. -/
def nm1 (i k : Nat) : Nat := if k = i then 4 else 5 + k
def ρ1 (n i : Nat) : Nat -> Nat
 | 0 => 0
 | 1 => 1
 | 2 => 2
 | 3 => 3 + n
 | 4 => 3 + i
 | o => 3 + (o - 5)
def lH1 (n : Nat) (p s : Int) (d1 d2 : Dat) (i : Nat) (ch : Bool) (m : List Int) : Heap := lvB n p s d1 d2 3 ch (lvRow (nm1 i) n) ++ [(.out 4, .map (setM m))]
theorem view1 {n : Nat} {p s : Int} {d1 d2 : Dat} {c : Code} {Q : Exit -> AState -> Prop} {F : Nat -> Nat -> Sl} {L : Heap} {ch : Bool} {es : List (List Int)} {i : Nat} {m : List Int} (hes : es.length = n) (hm : es[i]? = some m) (hF : Fit F L)
  (h : KD c (fun e s1 => ∃ F' L' ch' m', Fit F' L' /\ s1 = (⟨F' 2 3, L', lH1 n p s d1 d2 i ch' m', 5 + n⟩ : FState).toA Tryz.f21.ntmps /\ Q e ((⟨F' 2 (3 + n), L', lvH n p s d1 d2 ch' (es.set i m'), 4 + n⟩ : FState).toA Tryz.f21.ntmps))
   ((⟨F 2 3, L, lH1 n p s d1 d2 i ch m, 5 + n⟩ : FState).toA Tryz.f21.ntmps)) : KD c Q ((⟨F 2 (3 + n), L, lvH n p s d1 d2 ch es, 4 + n⟩ : FState).toA Tryz.f21.ntmps) := by
 have hi : i < n := by rw [← hes]; exact (List.getElem?_eq_some_iff.1 hm).1
 refine view_core (ρ1 n i) (nm1 i) (5 + n) [(.out 4, .map (setM m))] (adel (.out (3 + i)) (lvM 3 es)) hes rfl rfl rfl rfl ?_ (by omega) ?_ (perm_one hm) ?_ hF (datL_bv ch) (h.mono ?_)
 ·intro k hk
  unfold nm1
  split
  ·rename_i e; subst e; exact ⟨rfl, by omega⟩
  refine ⟨?_, by omega⟩
  rw [show 5 + k = k + 5 by omega]
  show 3 + (k + 5 - 5) = 3 + k
  omega
 ·intro o ho
  match o, ho with
  | 0, _ => exact Nat.zero_le _
  | 1, _ => show 1 <= _; omega
  | 2, _ => show 2 <= _; omega
  | 3, _ => exact Nat.le_refl _
  | 4, _ => show 3 + i <= _; omega
  | o + 5, ho => show 3 + (o + 5 - 5) <= _; omega
 ·show (Nat.ble (5 + n) 4 || (false || false)) = false
  cases e : Nat.ble (5 + n) 4 with
  | true => have := ble_to e; omega
  | false => rfl
 rintro e s1 ⟨F', L', ch', m', hF', hs, hQ⟩
 refine ⟨F', L', [bv ch'], [(.out 4, .map (setM m'))], es.set i m', hF', datL_bv _, hs, ?_, ?_, hQ⟩
 ·have := perm_one (a := 3) (es := es.set i m') (i := i) (e := m') (by rw [List.getElem?_set]; simp [hes, hi])
  rw [lvM_set, adel_aset] at this
  rw [lvM_set]
  exact this
 intro ρ' hρ
 simp only [rnH, rnN, rnO, hρ 4 (by omega)]
/-- The same beside a row of data. -/
def lH3 (n : Nat) (p s : Int) (d1 d2 : Dat) (i : Nat) (oc : List AVal) (m : List Int) : Heap := lvBo n p s d1 d2 3 oc (lvRow (nm1 i) n) ++ [(.out 4, .map (setM m))]
theorem view3 {n : Nat} {p s : Int} {d1 d2 : Dat} {c : Code} {Q : Exit -> AState -> Prop} {F : Nat -> Nat -> Sl} {L : Heap} {oc : List AVal} {es : List (List Int)} {i : Nat} {m : List Int} (hes : es.length = n) (hm : es[i]? = some m) (hF : Fit F L) (hoc : DatL oc)
  (h : KD c (fun e s1 => ∃ F' L' oc', Fit F' L' /\ DatL oc' /\ s1 = (⟨F' 2 3, L', lH3 n p s d1 d2 i oc' m, 5 + n⟩ : FState).toA Tryz.f21.ntmps /\ Q e ((⟨F' 2 (3 + n), L', lvHo n p s d1 d2 oc' es, 4 + n⟩ : FState).toA Tryz.f21.ntmps))
   ((⟨F 2 3, L, lH3 n p s d1 d2 i oc m, 5 + n⟩ : FState).toA Tryz.f21.ntmps)) : KD c Q ((⟨F 2 (3 + n), L, lvHo n p s d1 d2 oc es, 4 + n⟩ : FState).toA Tryz.f21.ntmps) := by
 have hi : i < n := by rw [← hes]; exact (List.getElem?_eq_some_iff.1 hm).1
 refine view_core (ρ1 n i) (nm1 i) (5 + n) [(.out 4, .map (setM m))] (adel (.out (3 + i)) (lvM 3 es)) hes rfl rfl rfl rfl ?_ (by omega) ?_ (perm_one hm) ?_ hF hoc (h.mono ?_)
 ·intro k hk
  unfold nm1
  split
  ·rename_i e; subst e; exact ⟨rfl, by omega⟩
  refine ⟨?_, by omega⟩
  rw [show 5 + k = k + 5 by omega]
  show 3 + (k + 5 - 5) = 3 + k
  omega
 ·intro o ho
  match o, ho with
  | 0, _ => exact Nat.zero_le _
  | 1, _ => show 1 <= _; omega
  | 2, _ => show 2 <= _; omega
  | 3, _ => exact Nat.le_refl _
  | 4, _ => show 3 + i <= _; omega
  | o + 5, ho => show 3 + (o + 5 - 5) <= _; omega
 ·show (Nat.ble (5 + n) 4 || (false || false)) = false
  cases e : Nat.ble (5 + n) 4 with
  | true => have := ble_to e; omega
  | false => rfl
 rintro e s1 ⟨F', L', oc', hF', ho', hs, hQ⟩
 refine ⟨F', L', oc', [(.out 4, .map (setM m))], es, hF', ho', hs, perm_one hm, ?_, hQ⟩
 intro ρ' hρ
 simp only [rnH, rnN, rnO, hρ 4 (by omega)]
/-- .. that needs two sets. -/
def nm2 (i j k : Nat) : Nat := if k = i then 4 else if k = j then 5 else 6 + k
def ρ2 (n i j : Nat) : Nat -> Nat
 | 0 => 0
 | 1 => 1
 | 2 => 2
 | 3 => 3 + n
 | 4 => 3 + i
 | 5 => 3 + j
 | o => 3 + (o - 6)
def lH2 (n : Nat) (p s : Int) (d1 d2 : Dat) (i j : Nat) (ch : Bool) (m e : List Int) : Heap := lvB n p s d1 d2 3 ch (lvRow (nm2 i j) n) ++ [(.out 4, .map (setM m)), (.out 5, .map (setM e))]
theorem view2 {n : Nat} {p s : Int} {d1 d2 : Dat} {c : Code} {Q : Exit -> AState -> Prop} {F : Nat -> Nat -> Sl} {L : Heap} {ch : Bool} {es : List (List Int)} {i j : Nat} {m f : List Int} (hij : i ≠ j) (hes : es.length = n) (hm : es[i]? = some m) (hf : es[j]? = some f) (hF : Fit F L)
  (h : KD c (fun e s1 => ∃ F' L' ch' m', Fit F' L' /\ s1 = (⟨F' 2 3, L', lH2 n p s d1 d2 i j ch' m' f, 6 + n⟩ : FState).toA Tryz.f21.ntmps /\ Q e ((⟨F' 2 (3 + n), L', lvH n p s d1 d2 ch' (es.set i m'), 4 + n⟩ : FState).toA Tryz.f21.ntmps))
   ((⟨F 2 3, L, lH2 n p s d1 d2 i j ch m f, 6 + n⟩ : FState).toA Tryz.f21.ntmps)) : KD c Q ((⟨F 2 (3 + n), L, lvH n p s d1 d2 ch es, 4 + n⟩ : FState).toA Tryz.f21.ntmps) := by
 have hi : i < n := by rw [← hes]; exact (List.getElem?_eq_some_iff.1 hm).1
 have hj : j < n := by rw [← hes]; exact (List.getElem?_eq_some_iff.1 hf).1
 refine view_core (ρ2 n i j) (nm2 i j) (6 + n) [(.out 4, .map (setM m)), (.out 5, .map (setM f))] (adel (.out (3 + j)) (adel (.out (3 + i)) (lvM 3 es))) hes rfl rfl rfl rfl ?_ (by omega) ?_ (perm_two hij hm hf) ?_ hF (datL_bv ch) (h.mono ?_)
 ·intro k hk
  unfold nm2
  split
  ·rename_i e; subst e; exact ⟨rfl, by omega⟩
  split
  ·rename_i e; subst e; exact ⟨rfl, by omega⟩
  refine ⟨?_, by omega⟩
  rw [show 6 + k = k + 6 by omega]
  show 3 + (k + 6 - 6) = 3 + k
  omega
 ·intro o ho
  match o, ho with
  | 0, _ => exact Nat.zero_le _
  | 1, _ => show 1 <= _; omega
  | 2, _ => show 2 <= _; omega
  | 3, _ => exact Nat.le_refl _
  | 4, _ => show 3 + i <= _; omega
  | 5, _ => show 3 + j <= _; omega
  | o + 6, ho => show 3 + (o + 6 - 6) <= _; omega
 ·show (Nat.ble (6 + n) 4 || (false || (Nat.ble (6 + n) 5 || (false || false)))) = false
  cases e : Nat.ble (6 + n) 4 with
  | true => have := ble_to e; omega
  | false =>
   cases e2 : Nat.ble (6 + n) 5 with
   | true => have := ble_to e2; omega
   | false => rfl
 rintro e s1 ⟨F', L', ch', m', hF', hs, hQ⟩
 refine ⟨F', L', [bv ch'], [(.out 4, .map (setM m')), (.out 5, .map (setM f))], es.set i m', hF', datL_bv _, hs, ?_, ?_, hQ⟩
 ·have := perm_two (a := 3) (es := es.set i m') (i := i) (j := j) (e := m') (f := f) hij (by rw [List.getElem?_set]; simp [hes, hi]) (by rw [List.getElem?_set, if_neg hij]; exact hf)
  rw [lvM_set, adel_aset] at this
  rw [lvM_set]
  exact this
 intro ρ' hρ
 simp only [rnH, rnN, rnO, hρ 4 (by omega), hρ 5 (by omega)]
end Go.Proofs.YtmpmgmmcaghacaaGreatDoor

namespace Go.Proofs
open Go.Shelf
def Tryz.sortI_ren : Go.Shelf.Ren := ⟨fun | 5 => 59 | 8 => 93 | 7 => 92 | 19 => 135 | 20 => 136 | 10 => 126 | 11 => 127 | 12 => 128 | 13 => 129 | 14 => 130 | 15 => 131 | 16 => 132 | 17 => 133 | 18 => 134 | 30 => 167 | 31 => 168 | 32 => 169 | 33 => 170 | 34 => 171 | 35 => 172 | 40 => 191 | n => n, fun | 23 => 22 | 25 => 3 | 3 => 3 | 32 => 134 | 22 => 22 | 0 => 0 | 44 => 178 | 46 => 162 | 4 => 4 | 36 => 171 | 35 => 170 | 41 => 57 | 5 => 5 | 9 => 9 | 53 => 195 | 57 => 199 | 63 => 211 | 64 => 212 | n => n, fun | n => n⟩
theorem Tryz.sortI : Go.Proofs.SlLaysM.n5 Tryz.prog Tryz.sortI_ren := {
 mixed := by kernel_rfl
 f5 := ⟨Tryz.f59.name, by decide, Tryz.func59.trans (congrArg some (by kernel_rfl))⟩
 f7 := ⟨Tryz.f92.name, by decide, Tryz.func92.trans (congrArg some (by kernel_rfl))⟩
 f8 := Tryz.func93.trans (congrArg some (by kernel_rfl))
 f10 := ⟨Tryz.f126.name, by decide, Tryz.func126.trans (congrArg some (by kernel_rfl))⟩
 f11 := ⟨Tryz.f127.name, by decide, Tryz.func127.trans (congrArg some (by kernel_rfl))⟩
 f12 := ⟨Tryz.f128.name, by decide, Tryz.func128.trans (congrArg some (by kernel_rfl))⟩
 f13 := ⟨Tryz.f129.name, by decide, Tryz.func129.trans (congrArg some (by kernel_rfl))⟩
 f14 := ⟨Tryz.f130.name, by decide, Tryz.func130.trans (congrArg some (by kernel_rfl))⟩
 f15 := ⟨Tryz.f131.name, by decide, Tryz.func131.trans (congrArg some (by kernel_rfl))⟩
 f16 := ⟨Tryz.f132.name, by decide, Tryz.func132.trans (congrArg some (by kernel_rfl))⟩
 f17 := ⟨Tryz.f133.name, by decide, Tryz.func133.trans (congrArg some (by kernel_rfl))⟩
 f18 := ⟨Tryz.f134.name, by decide, Tryz.func134.trans (congrArg some (by kernel_rfl))⟩
 f19 := Tryz.func135.trans (congrArg some (by kernel_rfl))
 f20 := Tryz.func136.trans (congrArg some (by kernel_rfl))
 f30 := ⟨Tryz.f167.name, by decide, Tryz.func167.trans (congrArg some (by kernel_rfl))⟩
 f31 := Tryz.func168.trans (congrArg some (by kernel_rfl))
 f32 := Tryz.func169.trans (congrArg some (by kernel_rfl))
 f33 := ⟨Tryz.f170.name, by decide, Tryz.func170.trans (congrArg some (by kernel_rfl))⟩
 f34 := ⟨Tryz.f171.name, by decide, Tryz.func171.trans (congrArg some (by kernel_rfl))⟩
 f35 := ⟨Tryz.f172.name, by decide, Tryz.func172.trans (congrArg some (by kernel_rfl))⟩
 f40 := ⟨Tryz.f191.name, by decide, Tryz.func191.trans (congrArg some (by kernel_rfl))⟩
 t0 := Tryz.underlying0
 a0 := Tryz.isAgg0
 z0 := Tryz.sizeOf0
 v0 := Tryz.zeroValue0
 t3 := Tryz.underlying3
 a3 := Tryz.isAgg3
 z3 := Tryz.sizeOf3
 v3 := Tryz.zeroValue3
 t4 := Tryz.underlying4
 a4 := Tryz.isAgg4
 z4 := Tryz.sizeOf4
 v4 := Tryz.zeroValue4
 t5 := Tryz.underlying5
 a5 := Tryz.isAgg5
 z5 := Tryz.sizeOf5
 v5 := Tryz.zeroValue5
 t9 := Tryz.underlying9
 a9 := Tryz.isAgg9
 z9 := Tryz.sizeOf9
 v9 := Tryz.zeroValue9
 t22 := Tryz.underlying22
 a22 := Tryz.isAgg22
 z22 := Tryz.sizeOf22
 v22 := Tryz.zeroValue22
 t23 := Tryz.underlying22
 a23 := Tryz.isAgg22
 z23 := Tryz.sizeOf22
 v23 := Tryz.zeroValue22
 t25 := Tryz.underlying3
 a25 := Tryz.isAgg3
 z25 := Tryz.sizeOf3
 v25 := Tryz.zeroValue3
 t32 := Tryz.underlying134
 a32 := Tryz.isAgg134
 z32 := Tryz.sizeOf134
 v32 := Tryz.zeroValue134
 t35 := Tryz.underlying170
 a35 := Tryz.isAgg170
 z35 := Tryz.sizeOf170
 v35 := Tryz.zeroValue170
 t36 := Tryz.underlying171
 a36 := Tryz.isAgg171
 z36 := Tryz.sizeOf171
 v36 := Tryz.zeroValue171
 t41 := Tryz.underlying57
 a41 := Tryz.isAgg57
 z41 := Tryz.sizeOf57
 v41 := Tryz.zeroValue57
 t44 := Tryz.underlying178
 a44 := Tryz.isAgg178
 z44 := Tryz.sizeOf178
 v44 := Tryz.zeroValue178
 t46 := Tryz.underlying162
 a46 := Tryz.isAgg162
 z46 := Tryz.sizeOf162
 v46 := Tryz.zeroValue162
 t53 := Tryz.underlying195
 a53 := Tryz.isAgg195
 z53 := Tryz.sizeOf195
 v53 := Tryz.zeroValue195
 t57 := Tryz.underlying199
 a57 := Tryz.isAgg199
 z57 := Tryz.sizeOf199
 v57 := Tryz.zeroValue199
 t63 := Tryz.underlying211
 a63 := Tryz.isAgg211
 z63 := Tryz.sizeOf211
 v63 := Tryz.zeroValue211
 t64 := Tryz.underlying212
 a64 := Tryz.isAgg212
 z64 := Tryz.sizeOf212
 v64 := Tryz.zeroValue212 }
def Tryz.compactI_ren : Go.Shelf.Ren := ⟨fun | 43 => 60 | n => n, fun | 22 => 22 | 23 => 3 | 3 => 3 | 4 => 4 | 0 => 0 | n => n, fun | n => n⟩
theorem Tryz.compactI : Go.Proofs.SlLaysE.n43 Tryz.prog Tryz.compactI_ren := {
 mixed := by kernel_rfl
 f43 := ⟨Tryz.f60.name, by decide, Tryz.func60.trans (congrArg some (by kernel_rfl))⟩
 t0 := Tryz.underlying0
 a0 := Tryz.isAgg0
 z0 := Tryz.sizeOf0
 v0 := Tryz.zeroValue0
 t3 := Tryz.underlying3
 a3 := Tryz.isAgg3
 z3 := Tryz.sizeOf3
 v3 := Tryz.zeroValue3
 t4 := Tryz.underlying4
 a4 := Tryz.isAgg4
 z4 := Tryz.sizeOf4
 v4 := Tryz.zeroValue4
 t22 := Tryz.underlying22
 a22 := Tryz.isAgg22
 z22 := Tryz.sizeOf22
 v22 := Tryz.zeroValue22
 a23 := Tryz.isAgg3
 z23 := Tryz.sizeOf3 }
end Go.Proofs
