/- HierarchyLookup returns true and changes nothing, for arguments of bulk at most 1048576 (the card of the second form; conditions: those of the given row). Names are shortened by a program, for the claim's bound. Part 4. -/
import Derived.Test.YtiihadmgkoamoaaGreatDoorProg
import Derived.KernelRfl
import Derived.Shelf.SlMaps.Clone
import Derived.Shelf.SlicesE.Clone
import Derived.Shelf.SlicesE.Delete
import Derived.Test.YtiihadmgkoamoaaGreatDoorQ03
set_option linter.unusedVariables false
set_option linter.unusedSimpArgs false
set_option maxRecDepth 100000
set_option maxHeartbeats 4000000
namespace Go.Proofs.YtiihadmgkoamoaaGreatDoor
open Go.Tp
theorem agy:TI.ok Tryz.prog 2 ⟨.int .i64,1,8,.int .i64 0⟩:=⟨⟨Tryz.t2,by kernel_rfl,rfl,rfl,rfl,rfl⟩,Tryz.underlying2⟩
theorem agx:TI.ok Tryz.prog 3 ⟨.int .i64,1,8,.int .i64 0⟩:=⟨⟨Tryz.t3,by kernel_rfl,rfl,rfl,rfl,rfl⟩,Tryz.underlying3⟩
theorem agw:TI.ok Tryz.prog 4 ⟨.bool,1,1,.bool false⟩:=⟨⟨Tryz.t4,by kernel_rfl,rfl,rfl,rfl,rfl⟩,Tryz.underlying4⟩
theorem agv:TI.ok Tryz.prog 5 ⟨.int .u8,1,1,.int .u8 0⟩:=⟨⟨Tryz.t5,by kernel_rfl,rfl,rfl,rfl,rfl⟩,Tryz.underlying5⟩
theorem agu:TI.ok Tryz.prog 9 ⟨.string,1,16,.string ⟨#[]⟩⟩:=⟨⟨Tryz.t9,by kernel_rfl,rfl,rfl,rfl,rfl⟩,Tryz.underlying9⟩
theorem adX:TI.ok Tryz.prog 22 ⟨.slice 3,1,24,.slice none 0 0⟩:=⟨⟨Tryz.t22,by kernel_rfl,rfl,rfl,rfl,rfl⟩,Tryz.underlying22⟩
theorem adW:TI.ok Tryz.prog 23 ⟨.slice 35,1,24,.slice none 0 0⟩:=⟨⟨Tryz.t23,by kernel_rfl,rfl,rfl,rfl,rfl⟩,Tryz.underlying23⟩
theorem adV:TI.ok Tryz.prog 25 ⟨.pointer,1,8,.pointer none⟩:=⟨⟨Tryz.t25,by kernel_rfl,rfl,rfl,rfl,rfl⟩,⟨_,Tryz.underlying25⟩⟩
theorem adU:TI.ok Tryz.prog 26 ⟨.pointer,1,8,.pointer none⟩:=⟨⟨Tryz.t26,by kernel_rfl,rfl,rfl,rfl,rfl⟩,⟨_,Tryz.underlying26⟩⟩
theorem adT:TI.ok Tryz.prog 30 ⟨.slice 32,1,24,.slice none 0 0⟩:=⟨⟨Tryz.t30,by kernel_rfl,rfl,rfl,rfl,rfl⟩,Tryz.underlying30⟩
theorem adS:TI.ok Tryz.prog 32 ⟨.struct [(0,3),(1,9),(2,3),(3,30)],4,56,.agg #[.int .i64 0,.string ⟨#[]⟩,.int .i64 0,.slice none 0 0]⟩:=⟨⟨Tryz.t32,by kernel_rfl,rfl,rfl,rfl,rfl⟩,⟨_,Tryz.underlying32,rfl,[(0,1),(1,1),(2,1),(3,1)],by kernel_rfl⟩⟩
theorem adR:TI.ok Tryz.prog 33 ⟨.slice 75,1,24,.slice none 0 0⟩:=⟨⟨Tryz.t33,by kernel_rfl,rfl,rfl,rfl,rfl⟩,Tryz.underlying33⟩
theorem adQ:TI.ok Tryz.prog 35 ⟨.struct [(0,9),(1,3),(2,32),(6,4),(7,33)],8,112,.agg #[.string ⟨#[]⟩,.int .i64 0,.int .i64 0,.string ⟨#[]⟩,.int .i64 0,.slice none 0 0,.bool false,.slice none 0 0]⟩:=⟨⟨Tryz.t35,by kernel_rfl,rfl,rfl,rfl,rfl⟩,⟨_,Tryz.underlying35,rfl,[(0,1),(1,1),(2,4),(6,1),(7,1)],by kernel_rfl⟩⟩
theorem adP:TI.ok Tryz.prog 39 ⟨.pointer,1,8,.pointer none⟩:=⟨⟨Tryz.t39,by kernel_rfl,rfl,rfl,rfl,rfl⟩,⟨_,Tryz.underlying39⟩⟩
theorem adO:TI.ok Tryz.prog 41 ⟨.int .i64,1,8,.int .i64 0⟩:=⟨⟨Tryz.t41,by kernel_rfl,rfl,rfl,rfl,rfl⟩,Tryz.underlying41⟩
theorem adN:TI.ok Tryz.prog 60 ⟨.slice 9,1,24,.slice none 0 0⟩:=⟨⟨Tryz.t60,by kernel_rfl,rfl,rfl,rfl,rfl⟩,Tryz.underlying60⟩
theorem adM:TI.ok Tryz.prog 67 ⟨.func,1,8,.nilFunc⟩:=⟨⟨Tryz.t67,by kernel_rfl,rfl,rfl,rfl,rfl⟩,⟨_,_,_,Tryz.underlying67⟩⟩
theorem adL:TI.ok Tryz.prog 75 ⟨.struct [(0,9),(1,32)],5,72,.agg #[.string ⟨#[]⟩,.int .i64 0,.string ⟨#[]⟩,.int .i64 0,.slice none 0 0]⟩:=⟨⟨Tryz.t75,by kernel_rfl,rfl,rfl,rfl,rfl⟩,⟨_,Tryz.underlying75,rfl,[(0,1),(1,4)],by kernel_rfl⟩⟩
theorem adK:TI.ok Tryz.prog 78 ⟨.struct [(0,22),(1,3)],2,32,.agg #[.slice none 0 0,.int .i64 0]⟩:=⟨⟨Tryz.t78,by kernel_rfl,rfl,rfl,rfl,rfl⟩,⟨_,Tryz.underlying78,rfl,[(0,1),(1,1)],by kernel_rfl⟩⟩
theorem adJ:TI.ok Tryz.prog 80 ⟨.map 9 3,1,8,.map none⟩:=⟨⟨Tryz.t80,by kernel_rfl,rfl,rfl,rfl,rfl⟩,Tryz.underlying80⟩
theorem adI:TI.ok Tryz.prog 82 ⟨.struct [(0,23),(1,80)],2,32,.agg #[.slice none 0 0,.map none]⟩:=⟨⟨Tryz.t82,by kernel_rfl,rfl,rfl,rfl,rfl⟩,⟨_,Tryz.underlying82,rfl,[(0,1),(1,1)],by kernel_rfl⟩⟩
theorem adH:TI.ok Tryz.prog 86 ⟨.func,1,8,.nilFunc⟩:=⟨⟨Tryz.t86,by kernel_rfl,rfl,rfl,rfl,rfl⟩,⟨_,_,_,Tryz.underlying86⟩⟩
theorem adG:TI.ok Tryz.prog 88 ⟨.struct [(0,23)],1,24,.agg #[.slice none 0 0]⟩:=⟨⟨Tryz.t88,by kernel_rfl,rfl,rfl,rfl,rfl⟩,⟨_,Tryz.underlying88,rfl,[(0,1)],by kernel_rfl⟩⟩
theorem adF:TI.ok Tryz.prog 97 ⟨.map 9 4,1,8,.map none⟩:=⟨⟨Tryz.t97,by kernel_rfl,rfl,rfl,rfl,rfl⟩,Tryz.underlying97⟩
theorem adE:TI.ok Tryz.prog 99 ⟨.pointer,1,8,.pointer none⟩:=⟨⟨Tryz.t99,by kernel_rfl,rfl,rfl,rfl,rfl⟩,⟨_,Tryz.underlying99⟩⟩
theorem ZS:TI.ok Tryz.prog 100 ⟨.slice 5,1,24,.slice none 0 0⟩:=⟨⟨Tryz.t100,by kernel_rfl,rfl,rfl,rfl,rfl⟩,Tryz.underlying100⟩
theorem ZR:TI.ok Tryz.prog 102 ⟨.struct [(0,99),(1,100)],2,32,.agg #[.pointer none,.slice none 0 0]⟩:=⟨⟨Tryz.t102,by kernel_rfl,rfl,rfl,rfl,rfl⟩,⟨_,Tryz.underlying102,rfl,[(0,1),(1,1)],by kernel_rfl⟩⟩
theorem ZQ:TI.ok Tryz.prog 105 ⟨.func,1,8,.nilFunc⟩:=⟨⟨Tryz.t105,by kernel_rfl,rfl,rfl,rfl,rfl⟩,⟨_,_,_,Tryz.underlying105⟩⟩
theorem ZP:TI.ok Tryz.prog 125 ⟨.func,1,8,.nilFunc⟩:=⟨⟨Tryz.t125,by kernel_rfl,rfl,rfl,rfl,rfl⟩,⟨_,_,_,Tryz.underlying125⟩⟩
theorem ZO:TI.ok Tryz.prog 128 ⟨.pointer,1,8,.pointer none⟩:=⟨⟨Tryz.t128,by kernel_rfl,rfl,rfl,rfl,rfl⟩,⟨_,Tryz.underlying128⟩⟩
theorem ZN:TI.ok Tryz.prog 129 ⟨.func,1,8,.nilFunc⟩:=⟨⟨Tryz.t129,by kernel_rfl,rfl,rfl,rfl,rfl⟩,⟨_,_,_,Tryz.underlying129⟩⟩
theorem ZM:TI.ok Tryz.prog 137 ⟨.pointer,1,8,.pointer none⟩:=⟨⟨Tryz.t137,by kernel_rfl,rfl,rfl,rfl,rfl⟩,⟨_,Tryz.underlying137⟩⟩
theorem ZL:TI.ok Tryz.prog 140 ⟨.int .u64,1,8,.int .u64 0⟩:=⟨⟨Tryz.t140,by kernel_rfl,rfl,rfl,rfl,rfl⟩,Tryz.underlying140⟩
theorem ZK:TI.ok Tryz.prog 141 ⟨.func,1,8,.nilFunc⟩:=⟨⟨Tryz.t141,by kernel_rfl,rfl,rfl,rfl,rfl⟩,⟨_,_,_,Tryz.underlying141⟩⟩
theorem ZJ:TI.ok Tryz.prog 147 ⟨.func,1,8,.nilFunc⟩:=⟨⟨Tryz.t147,by kernel_rfl,rfl,rfl,rfl,rfl⟩,⟨_,_,_,Tryz.underlying147⟩⟩
theorem ZI:TI.ok Tryz.prog 151 ⟨.struct [(0,60)],1,24,.agg #[.slice none 0 0]⟩:=⟨⟨Tryz.t151,by kernel_rfl,rfl,rfl,rfl,rfl⟩,⟨_,Tryz.underlying151,rfl,[(0,1)],by kernel_rfl⟩⟩
theorem ZH:TI.ok Tryz.prog 153 ⟨.pointer,1,8,.pointer none⟩:=⟨⟨Tryz.t153,by kernel_rfl,rfl,rfl,rfl,rfl⟩,⟨_,Tryz.underlying153⟩⟩
theorem ZG:TI.ok Tryz.prog 157 ⟨.int .u64,1,8,.int .u64 0⟩:=⟨⟨Tryz.t157,by kernel_rfl,rfl,rfl,rfl,rfl⟩,Tryz.underlying157⟩
theorem ZF:TI.ok Tryz.prog 165 ⟨.struct [(0,22)],1,24,.agg #[.slice none 0 0]⟩:=⟨⟨Tryz.t165,by kernel_rfl,rfl,rfl,rfl,rfl⟩,⟨_,Tryz.underlying165,rfl,[(0,1)],by kernel_rfl⟩⟩
theorem ZE:TI.ok Tryz.prog 167 ⟨.pointer,1,8,.pointer none⟩:=⟨⟨Tryz.t167,by kernel_rfl,rfl,rfl,rfl,rfl⟩,⟨_,Tryz.underlying167⟩⟩
theorem ZD:TI.ok Tryz.prog 172 ⟨.int .i64,1,8,.int .i64 0⟩:=⟨⟨Tryz.t172,by kernel_rfl,rfl,rfl,rfl,rfl⟩,Tryz.underlying172⟩
theorem ZC:TI.ok Tryz.prog 179 ⟨.int .u32,1,4,.int .u32 0⟩:=⟨⟨Tryz.t179,by kernel_rfl,rfl,rfl,rfl,rfl⟩,Tryz.underlying179⟩
theorem ZB:TI.ok Tryz.prog 181 ⟨.array 24 5,24,24,.agg #[.int .u8 0,.int .u8 0,.int .u8 0,.int .u8 0,.int .u8 0,.int .u8 0,.int .u8 0,.int .u8 0,.int .u8 0,.int .u8 0,.int .u8 0,.int .u8 0,.int .u8 0,.int .u8 0,.int .u8 0,.int .u8 0,.int .u8 0,.int .u8 0,.int .u8 0,.int .u8 0,.int .u8 0,.int .u8 0,.int .u8 0,.int .u8 0]⟩:=⟨⟨Tryz.t181,by kernel_rfl,rfl,rfl,rfl,rfl⟩,Tryz.underlying181⟩
theorem ZA:TI.ok Tryz.prog 189 ⟨.int .u64,1,8,.int .u64 0⟩:=⟨⟨Tryz.t189,by kernel_rfl,rfl,rfl,rfl,rfl⟩,Tryz.underlying189⟩
theorem Zz:TI.ok Tryz.prog 193 ⟨.pointer,1,8,.pointer none⟩:=⟨⟨Tryz.t193,by kernel_rfl,rfl,rfl,rfl,rfl⟩,⟨_,Tryz.underlying193⟩⟩
theorem Zy:TI.ok Tryz.prog 195 ⟨.array 20 140,20,160,.agg #[.int .u64 0,.int .u64 0,.int .u64 0,.int .u64 0,.int .u64 0,.int .u64 0,.int .u64 0,.int .u64 0,.int .u64 0,.int .u64 0,.int .u64 0,.int .u64 0,.int .u64 0,.int .u64 0,.int .u64 0,.int .u64 0,.int .u64 0,.int .u64 0,.int .u64 0,.int .u64 0]⟩:=⟨⟨Tryz.t195,by kernel_rfl,rfl,rfl,rfl,rfl⟩,Tryz.underlying195⟩
theorem Zx:TI.ok Tryz.prog 196 ⟨.array 65 5,65,65,.agg #[.int .u8 0,.int .u8 0,.int .u8 0,.int .u8 0,.int .u8 0,.int .u8 0,.int .u8 0,.int .u8 0,.int .u8 0,.int .u8 0,.int .u8 0,.int .u8 0,.int .u8 0,.int .u8 0,.int .u8 0,.int .u8 0,.int .u8 0,.int .u8 0,.int .u8 0,.int .u8 0,.int .u8 0,.int .u8 0,.int .u8 0,.int .u8 0,.int .u8 0,.int .u8 0,.int .u8 0,.int .u8 0,.int .u8 0,.int .u8 0,.int .u8 0,.int .u8 0,.int .u8 0,.int .u8 0,.int .u8 0,.int .u8 0,.int .u8 0,.int .u8 0,.int .u8 0,.int .u8 0,.int .u8 0,.int .u8 0,.int .u8 0,.int .u8 0,.int .u8 0,.int .u8 0,.int .u8 0,.int .u8 0,.int .u8 0,.int .u8 0,.int .u8 0,.int .u8 0,.int .u8 0,.int .u8 0,.int .u8 0,.int .u8 0,.int .u8 0,.int .u8 0,.int .u8 0,.int .u8 0,.int .u8 0,.int .u8 0,.int .u8 0,.int .u8 0,.int .u8 0]⟩:=⟨⟨Tryz.t196,by kernel_rfl,rfl,rfl,rfl,rfl⟩,Tryz.underlying196⟩
theorem Zw:TI.ok Tryz.prog 207 ⟨.array 32 5,32,32,.agg #[.int .u8 0,.int .u8 0,.int .u8 0,.int .u8 0,.int .u8 0,.int .u8 0,.int .u8 0,.int .u8 0,.int .u8 0,.int .u8 0,.int .u8 0,.int .u8 0,.int .u8 0,.int .u8 0,.int .u8 0,.int .u8 0,.int .u8 0,.int .u8 0,.int .u8 0,.int .u8 0,.int .u8 0,.int .u8 0,.int .u8 0,.int .u8 0,.int .u8 0,.int .u8 0,.int .u8 0,.int .u8 0,.int .u8 0,.int .u8 0,.int .u8 0,.int .u8 0]⟩:=⟨⟨Tryz.t207,by kernel_rfl,rfl,rfl,rfl,rfl⟩,Tryz.underlying207⟩
theorem Zv:TI.ok Tryz.prog 208 ⟨.array 64 5,64,64,.agg #[.int .u8 0,.int .u8 0,.int .u8 0,.int .u8 0,.int .u8 0,.int .u8 0,.int .u8 0,.int .u8 0,.int .u8 0,.int .u8 0,.int .u8 0,.int .u8 0,.int .u8 0,.int .u8 0,.int .u8 0,.int .u8 0,.int .u8 0,.int .u8 0,.int .u8 0,.int .u8 0,.int .u8 0,.int .u8 0,.int .u8 0,.int .u8 0,.int .u8 0,.int .u8 0,.int .u8 0,.int .u8 0,.int .u8 0,.int .u8 0,.int .u8 0,.int .u8 0,.int .u8 0,.int .u8 0,.int .u8 0,.int .u8 0,.int .u8 0,.int .u8 0,.int .u8 0,.int .u8 0,.int .u8 0,.int .u8 0,.int .u8 0,.int .u8 0,.int .u8 0,.int .u8 0,.int .u8 0,.int .u8 0,.int .u8 0,.int .u8 0,.int .u8 0,.int .u8 0,.int .u8 0,.int .u8 0,.int .u8 0,.int .u8 0,.int .u8 0,.int .u8 0,.int .u8 0,.int .u8 0,.int .u8 0,.int .u8 0,.int .u8 0,.int .u8 0]⟩:=⟨⟨Tryz.t208,by kernel_rfl,rfl,rfl,rfl,rfl⟩,Tryz.underlying208⟩
def Ys:Tr:=(.node (.node (.node (.node (.node (.node .nil 2 ⟨.int .i64,1,8,.int .i64 0⟩ .nil) 3 ⟨.int .i64,1,8,.int .i64 0⟩ (.node .nil 4 ⟨.bool,1,1,.bool false⟩ .nil)) 5 ⟨.int .u8,1,1,.int .u8 0⟩ (.node (.node .nil 9 ⟨.string,1,16,.string ⟨#[]⟩⟩ .nil) 22 ⟨.slice 3,1,24,.slice none 0 0⟩ .nil)) 23 ⟨.slice 35,1,24,.slice none 0 0⟩ (.node (.node (.node .nil 25 ⟨.pointer,1,8,.pointer none⟩ .nil) 26 ⟨.pointer,1,8,.pointer none⟩ .nil) 30 ⟨.slice 32,1,24,.slice none 0 0⟩ (.node (.node .nil 32 ⟨.struct [(0,3),(1,9),(2,3),(3,30)],4,56,.agg #[.int .i64 0,.string ⟨#[]⟩,.int .i64 0,.slice none 0 0]⟩ .nil) 33 ⟨.slice 75,1,24,.slice none 0 0⟩ .nil))) 35 ⟨.struct [(0,9),(1,3),(2,32),(6,4),(7,33)],8,112,.agg #[.string ⟨#[]⟩,.int .i64 0,.int .i64 0,.string ⟨#[]⟩,.int .i64 0,.slice none 0 0,.bool false,.slice none 0 0]⟩ (.node (.node (.node (.node .nil 39 ⟨.pointer,1,8,.pointer none⟩ .nil) 41 ⟨.int .i64,1,8,.int .i64 0⟩ .nil) 60 ⟨.slice 9,1,24,.slice none 0 0⟩ (.node (.node .nil 67 ⟨.func,1,8,.nilFunc⟩ .nil) 75 ⟨.struct [(0,9),(1,32)],5,72,.agg #[.string ⟨#[]⟩,.int .i64 0,.string ⟨#[]⟩,.int .i64 0,.slice none 0 0]⟩ .nil)) 78 ⟨.struct [(0,22),(1,3)],2,32,.agg #[.slice none 0 0,.int .i64 0]⟩ (.node (.node (.node .nil 80 ⟨.map 9 3,1,8,.map none⟩ .nil) 82 ⟨.struct [(0,23),(1,80)],2,32,.agg #[.slice none 0 0,.map none]⟩ .nil) 86 ⟨.func,1,8,.nilFunc⟩ (.node (.node .nil 88 ⟨.struct [(0,23)],1,24,.agg #[.slice none 0 0]⟩ .nil) 97 ⟨.map 9 4,1,8,.map none⟩ .nil)))) 99 ⟨.pointer,1,8,.pointer none⟩ (.node (.node (.node (.node (.node .nil 100 ⟨.slice 5,1,24,.slice none 0 0⟩ .nil) 102 ⟨.struct [(0,99),(1,100)],2,32,.agg #[.pointer none,.slice none 0 0]⟩ (.node .nil 105 ⟨.func,1,8,.nilFunc⟩ .nil)) 125 ⟨.func,1,8,.nilFunc⟩ (.node (.node .nil 128 ⟨.pointer,1,8,.pointer none⟩ .nil) 129 ⟨.func,1,8,.nilFunc⟩ .nil)) 137 ⟨.pointer,1,8,.pointer none⟩ (.node (.node (.node .nil 140 ⟨.int .u64,1,8,.int .u64 0⟩ .nil) 141 ⟨.func,1,8,.nilFunc⟩ .nil) 147 ⟨.func,1,8,.nilFunc⟩ (.node (.node .nil 151 ⟨.struct [(0,60)],1,24,.agg #[.slice none 0 0]⟩ .nil) 153 ⟨.pointer,1,8,.pointer none⟩ .nil))) 157 ⟨.int .u64,1,8,.int .u64 0⟩ (.node (.node (.node (.node .nil 165 ⟨.struct [(0,22)],1,24,.agg #[.slice none 0 0]⟩ .nil) 167 ⟨.pointer,1,8,.pointer none⟩ .nil) 172 ⟨.int .i64,1,8,.int .i64 0⟩ (.node (.node .nil 179 ⟨.int .u32,1,4,.int .u32 0⟩ .nil) 181 ⟨.array 24 5,24,24,.agg #[.int .u8 0,.int .u8 0,.int .u8 0,.int .u8 0,.int .u8 0,.int .u8 0,.int .u8 0,.int .u8 0,.int .u8 0,.int .u8 0,.int .u8 0,.int .u8 0,.int .u8 0,.int .u8 0,.int .u8 0,.int .u8 0,.int .u8 0,.int .u8 0,.int .u8 0,.int .u8 0,.int .u8 0,.int .u8 0,.int .u8 0,.int .u8 0]⟩ .nil)) 189 ⟨.int .u64,1,8,.int .u64 0⟩ (.node (.node (.node .nil 193 ⟨.pointer,1,8,.pointer none⟩ .nil) 195 ⟨.array 20 140,20,160,.agg #[.int .u64 0,.int .u64 0,.int .u64 0,.int .u64 0,.int .u64 0,.int .u64 0,.int .u64 0,.int .u64 0,.int .u64 0,.int .u64 0,.int .u64 0,.int .u64 0,.int .u64 0,.int .u64 0,.int .u64 0,.int .u64 0,.int .u64 0,.int .u64 0,.int .u64 0,.int .u64 0]⟩ .nil) 196 ⟨.array 65 5,65,65,.agg #[.int .u8 0,.int .u8 0,.int .u8 0,.int .u8 0,.int .u8 0,.int .u8 0,.int .u8 0,.int .u8 0,.int .u8 0,.int .u8 0,.int .u8 0,.int .u8 0,.int .u8 0,.int .u8 0,.int .u8 0,.int .u8 0,.int .u8 0,.int .u8 0,.int .u8 0,.int .u8 0,.int .u8 0,.int .u8 0,.int .u8 0,.int .u8 0,.int .u8 0,.int .u8 0,.int .u8 0,.int .u8 0,.int .u8 0,.int .u8 0,.int .u8 0,.int .u8 0,.int .u8 0,.int .u8 0,.int .u8 0,.int .u8 0,.int .u8 0,.int .u8 0,.int .u8 0,.int .u8 0,.int .u8 0,.int .u8 0,.int .u8 0,.int .u8 0,.int .u8 0,.int .u8 0,.int .u8 0,.int .u8 0,.int .u8 0,.int .u8 0,.int .u8 0,.int .u8 0,.int .u8 0,.int .u8 0,.int .u8 0,.int .u8 0,.int .u8 0,.int .u8 0,.int .u8 0,.int .u8 0,.int .u8 0,.int .u8 0,.int .u8 0,.int .u8 0,.int .u8 0]⟩ (.node (.node .nil 207 ⟨.array 32 5,32,32,.agg #[.int .u8 0,.int .u8 0,.int .u8 0,.int .u8 0,.int .u8 0,.int .u8 0,.int .u8 0,.int .u8 0,.int .u8 0,.int .u8 0,.int .u8 0,.int .u8 0,.int .u8 0,.int .u8 0,.int .u8 0,.int .u8 0,.int .u8 0,.int .u8 0,.int .u8 0,.int .u8 0,.int .u8 0,.int .u8 0,.int .u8 0,.int .u8 0,.int .u8 0,.int .u8 0,.int .u8 0,.int .u8 0,.int .u8 0,.int .u8 0,.int .u8 0,.int .u8 0]⟩ .nil) 208 ⟨.array 64 5,64,64,.agg #[.int .u8 0,.int .u8 0,.int .u8 0,.int .u8 0,.int .u8 0,.int .u8 0,.int .u8 0,.int .u8 0,.int .u8 0,.int .u8 0,.int .u8 0,.int .u8 0,.int .u8 0,.int .u8 0,.int .u8 0,.int .u8 0,.int .u8 0,.int .u8 0,.int .u8 0,.int .u8 0,.int .u8 0,.int .u8 0,.int .u8 0,.int .u8 0,.int .u8 0,.int .u8 0,.int .u8 0,.int .u8 0,.int .u8 0,.int .u8 0,.int .u8 0,.int .u8 0,.int .u8 0,.int .u8 0,.int .u8 0,.int .u8 0,.int .u8 0,.int .u8 0,.int .u8 0,.int .u8 0,.int .u8 0,.int .u8 0,.int .u8 0,.int .u8 0,.int .u8 0,.int .u8 0,.int .u8 0,.int .u8 0,.int .u8 0,.int .u8 0,.int .u8 0,.int .u8 0,.int .u8 0,.int .u8 0,.int .u8 0,.int .u8 0,.int .u8 0,.int .u8 0,.int .u8 0,.int .u8 0,.int .u8 0,.int .u8 0,.int .u8 0,.int .u8 0]⟩ .nil)))))
theorem ON:Ys.HL Tryz.prog:=(Tr.ae (Tr.ae (Tr.ae (Tr.ae (Tr.ae (Tr.ae Tr.all_nil agy Tr.all_nil) agx (Tr.ae Tr.all_nil agw Tr.all_nil)) agv (Tr.ae (Tr.ae Tr.all_nil agu Tr.all_nil) adX Tr.all_nil)) adW (Tr.ae (Tr.ae (Tr.ae Tr.all_nil adV Tr.all_nil) adU Tr.all_nil) adT (Tr.ae (Tr.ae Tr.all_nil adS Tr.all_nil) adR Tr.all_nil))) adQ (Tr.ae (Tr.ae (Tr.ae (Tr.ae Tr.all_nil adP Tr.all_nil) adO Tr.all_nil) adN (Tr.ae (Tr.ae Tr.all_nil adM Tr.all_nil) adL Tr.all_nil)) adK (Tr.ae (Tr.ae (Tr.ae Tr.all_nil adJ Tr.all_nil) adI Tr.all_nil) adH (Tr.ae (Tr.ae Tr.all_nil adG Tr.all_nil) adF Tr.all_nil)))) adE (Tr.ae (Tr.ae (Tr.ae (Tr.ae (Tr.ae Tr.all_nil ZS Tr.all_nil) ZR (Tr.ae Tr.all_nil ZQ Tr.all_nil)) ZP (Tr.ae (Tr.ae Tr.all_nil ZO Tr.all_nil) ZN Tr.all_nil)) ZM (Tr.ae (Tr.ae (Tr.ae Tr.all_nil ZL Tr.all_nil) ZK Tr.all_nil) ZJ (Tr.ae (Tr.ae Tr.all_nil ZI Tr.all_nil) ZH Tr.all_nil))) ZG (Tr.ae (Tr.ae (Tr.ae (Tr.ae Tr.all_nil ZF Tr.all_nil) ZE Tr.all_nil) ZD (Tr.ae (Tr.ae Tr.all_nil ZC Tr.all_nil) ZB Tr.all_nil)) ZA (Tr.ae (Tr.ae (Tr.ae Tr.all_nil Zz Tr.all_nil) Zy Tr.all_nil) Zx (Tr.ae (Tr.ae Tr.all_nil Zw Tr.all_nil) Zv Tr.all_nil)))))
def efn (f:Nat):Bool:=Nat.ble 0 f&&Nat.ble f 206&&!(match f with|0=>true|1=>true|97=>true|132=>true|194=>true|201=>true|_=>false)
def ety (t:Nat):Option TI:=match t with
  | 0=>none
  | t=>Ys.find t
def env (pr:au):bG:=⟨ety,efn,pr⟩
theorem acN:(List.range 207).all (fun k=>!(efn (0+k))||acO Tryz.prog (0+k))=true:=by kernel_rfl
theorem NW (f:Nat) (h:efn f=true):0≤f∧f≤206:=by
  unfold efn at h;simp only[Bool.and_eq_true,Nat.ble_eq] at h;exact h.1
theorem af1 (f:Nat) (h:efn f=true):acO Tryz.prog f=true:=by
  have hb:=NW f h;have h1:=List.all_eq_true.1 acN (f - 0) (List.mem_range.2 (by omega));rw[show 0+(f - 0)=f by omega] at h1;rw[h,Bool.not_true,Bool.false_or] at h1;exact h1
theorem acZ:(env au.mL).Ok Tryz.prog where
  ty t i h:=by
    have h:ety t=some i:=h;unfold ety at h
    split at h
    · simp at h
    · exact Tr.Eh ON h
  fn f h:=by
    have h1:=af1 f h;unfold acO at h1
    split at h1
    · rename_i g hg;simp at h1;exact⟨g,hg,by simp[h1.1],by simpa using h1.2⟩
    · simp at h1
  mixed:=by kernel_rfl
  mL:=rfl
def an:FuncId→Bool:=fun f=>match f with|28=>true|180=>true|191=>true|_=>false
def ap:FuncId→Bool:=fun f=>match f with|4000000=>true|1000052=>true|1000151=>true|1000170=>true|2000024=>true|2000075=>true|2000082=>true|3000019=>true|3000062=>true|_=>false
def aaw:Nat→ay:=fun n=>match n with|6=>⟨[(0,false),(1,false),(2,false),(3,false),(8,false),(9,false),(10,false),(11,false),(4,true),(5,false),(6,false),(7,false),(12,true),(13,false),(14,false),(15,false),(16,false)],none,[],[17]⟩|12=>⟨[(0,false),(1,false),(2,false),(3,false),(4,false),(5,false),(6,true),(7,false),(8,false),(9,false),(10,false),(11,false),(12,false),(13,false),(14,false),(15,false),(16,false),(18,false),(19,false),(20,false),(17,true),(21,true),(22,false),(23,false),(24,false),(25,false),(26,false),(27,true),(28,false),(29,false),(30,false),(31,false),(32,true),(33,false),(34,false),(35,false),(36,false),(37,false),(38,false),(40,false),(41,false),(42,false),(39,true),(43,true),(44,false),(45,false),(46,false),(47,false),(48,false),(50,false),(51,false),(49,true),(52,true),(53,false),(54,false),(55,false),(56,false),(57,false),(59,false),(60,false),(58,true),(61,true),(62,false),(63,false)],none,[],[64]⟩|_=>default
def Y5:Nat→Nat:=fun n=>match n with|0=>31|1=>2078|2=>30750|3=>1099511642142|4=>1024|5=>47134|6=>210962|7=>997394|8=>4143122|9=>12531730|10=>46086162|11=>113192976|12=>1024|_=>0
theorem agO:aD Tryz.prog an ap 7 Tryz.f7 aaw:=aj Tryz.func7 (by kernel_rfl)
def aav:Nat→ay:=fun _=>default
def Y4:Nat→Nat:=fun n=>match n with|0=>1|1=>4|_=>0
theorem agN:aD Tryz.prog an ap 9 Tryz.f9 aav:=aj Tryz.func9 (by kernel_rfl)
def Lj:Nat→ay:=fun n=>match n with|7=>⟨[(0,false),(1,false),(2,false),(3,false),(4,false),(6,false),(7,false),(8,false),(9,false),(10,false),(5,true)],none,[],[11,12]⟩|_=>default
def DY:Nat→Nat:=fun n=>match n with|0=>1|1=>97|2=>2145|3=>28|4=>225|5=>65761|6=>225|7=>2147483873|8=>28|9=>28|_=>0
theorem af0:aD Tryz.prog an ap 10 Tryz.f10 Lj:=aj Tryz.func10 (by kernel_rfl)
def Y2:Nat→ay:=fun n=>match n with|5=>⟨[(0,false),(1,false),(2,false),(3,true),(4,false),(5,true)],none,[],[6,7,8,9,10,11,12,13,14]⟩|_=>default
def aaO:Nat→Nat:=fun n=>match n with|0=>0|1=>2|2=>2097154|3=>1|4=>14|5=>1|_=>0
theorem afZ:aD Tryz.prog an ap 11 Tryz.f11 Y2:=aj Tryz.func11 (by kernel_rfl)
def RO:Nat→ay:=fun _=>default
def SO:Nat→Nat:=fun n=>match n with|0=>3|1=>3|2=>515|3=>1|4=>16|_=>0
theorem afY:aD Tryz.prog an ap 13 Tryz.f13 RO:=aj Tryz.func13 (by kernel_rfl)
def RI:Nat→ay:=fun _=>default
def SN:Nat→Nat:=fun n=>match n with|0=>71|1=>64|_=>0
theorem afX:aD Tryz.prog an ap 14 Tryz.f14 RI:=aj Tryz.func14 (by kernel_rfl)
def RE:Nat→ay:=fun _=>default
def SM:Nat→Nat:=fun n=>match n with|0=>1|1=>4|_=>0
theorem afW:aD Tryz.prog an ap 15 Tryz.f15 RE:=aj Tryz.func15 (by kernel_rfl)
def Li:Nat→ay:=fun n=>match n with|14=>⟨[(0,false),(1,false),(2,true)],none,[],[3]⟩|_=>default
def Jf:Nat→Nat:=fun n=>match n with|0=>12|1=>108|2=>65644|3=>16|4=>1048684|5=>16|6=>1073741900|7=>16|8=>137438953484|9=>16|10=>549755813900|11=>16|12=>70368744177676|13=>16|14=>12|15=>576460752303423500|16=>0|17=>16|18=>140|19=>151115727451828646838276|20=>0|21=>16|22=>16|_=>0
theorem afV:aD Tryz.prog an ap 16 Tryz.f16 Li:=aj Tryz.func16 (by kernel_rfl)
def FZ:Nat→ay:=fun n=>match n with|11=>⟨[(0,false),(2,false),(3,false),(1,true)],none,[],[4,5,6,7]⟩|_=>default
def vH:Nat→Nat:=fun n=>match n with|0=>9|1=>41|2=>32809|3=>16|4=>201|5=>16777289|6=>134217728|7=>16|8=>16|9=>8589934601|10=>16|11=>265|12=>35184372089097|13=>16|14=>777|15=>1125899906843401|16=>777|17=>2305843009213694729|18=>16|19=>3329|20=>18889465931478580855041|21=>16|22=>0|23=>16|_=>0
theorem afU:aD Tryz.prog an ap 17 Tryz.f17 FZ:=aj Tryz.func17 (by kernel_rfl)
def Lh:Nat→ay:=fun n=>match n with|6=>⟨[(0,false),(1,false),(2,false),(3,false),(4,false),(5,false),(6,false),(7,false)],none,[],[8,9]⟩|_=>default
def DU:Nat→Nat:=fun n=>match n with|0=>3|1=>1027|2=>16|3=>35|4=>16419|5=>35|6=>67108899|7=>16|8=>16|_=>0
theorem afT:aD Tryz.prog an ap 18 Tryz.f18 Lh:=aj Tryz.func18 (by kernel_rfl)
def Lg:Nat→ay:=fun _=>default
def DT:Nat→Nat:=fun n=>match n with|0=>1|1=>9|2=>3592|3=>7688|4=>3624|5=>3592|6=>3592|7=>4|_=>0
theorem afS:aD Tryz.prog an ap 19 Tryz.f19 Lg:=aj Tryz.func19 (by kernel_rfl)
def Q3:Nat→ay:=fun _=>default
def SL:Nat→Nat:=fun n=>match n with|0=>1|1=>4|_=>0
theorem afR:aD Tryz.prog an ap 20 Tryz.f20 Q3:=aj Tryz.func20 (by kernel_rfl)
def Y1:Nat→ay:=fun _=>default
def aaN:Nat→Nat:=fun n=>match n with|0=>85|1=>4181|2=>65621|3=>192|4=>4194389|5=>341|6=>85|7=>192|_=>0
theorem afQ:aD Tryz.prog an ap 23 Tryz.f23 Y1:=aj Tryz.func23 (by kernel_rfl)
def QW:Nat→ay:=fun _=>default
def SK:Nat→Nat:=fun n=>match n with|0=>12|1=>16|_=>0
theorem afP:aD Tryz.prog an ap 24 Tryz.f24 QW:=aj Tryz.func24 (by kernel_rfl)
def Co:Nat→ay:=fun _=>default
def pH:Nat→Nat:=fun n=>match n with|0=>7|1=>387|2=>134218115|3=>387|4=>64|_=>0
theorem afO:aD Tryz.prog an ap 25 Tryz.f25 Co:=aj Tryz.func25 (by kernel_rfl)
def Lf:Nat→ay:=fun n=>match n with|5=>⟨[(0,false),(1,false),(2,false),(3,false),(4,false),(6,false),(10,false),(5,true),(7,true),(8,false),(9,false)],some 10,[],[11]⟩|18=>⟨[(0,false),(1,false),(2,false),(3,false),(4,false),(5,false),(6,false),(7,true),(8,false),(9,true),(10,false),(11,false)],none,[2],[12]⟩|_=>default
def js:Nat→Nat:=fun n=>match n with|0=>3|1=>35|2=>99|3=>65635|4=>99|5=>227|6=>2147483875|7=>483|8=>995|9=>34359739363|10=>995|11=>8796093023203|12=>995|13=>1251|14=>1251|15=>3299|16=>36893488147419106531|17=>3299|18=>3299|19=>77371252455336267181195491|20=>227|21=>99|22=>16|_=>0
theorem afN:aD Tryz.prog an ap 28 Tryz.f28 Lf:=aj Tryz.func28 (by kernel_rfl)
def QV:Nat→ay:=fun _=>default
def SJ:Nat→Nat:=fun n=>match n with|0=>19|1=>208|2=>48|_=>0
theorem afM:aD Tryz.prog an ap 35 Tryz.f35 QV:=aj Tryz.func35 (by kernel_rfl)
def Le:Nat→ay:=fun _=>default
def DS:Nat→Nat:=fun n=>match n with|0=>19|1=>83|2=>8275|3=>83|4=>33554515|5=>48|6=>48|_=>0
theorem afL:aD Tryz.prog an ap 36 Tryz.f36 Le:=aj Tryz.func36 (by kernel_rfl)
def zU:Nat→ay:=fun n=>match n with|6=>⟨[(0,false),(1,false),(2,false),(3,false),(4,false),(5,false),(6,false),(7,false),(8,false),(9,false),(10,false),(11,false),(12,false),(13,false),(14,false),(15,false),(16,false),(17,false),(18,false),(19,false),(20,false),(21,false),(22,false),(23,false),(24,false),(25,false)],none,[],[26,27,28]⟩|_=>default
def pG:Nat→Nat:=fun n=>match n with|0=>12|1=>2199023255564|2=>16|3=>44|4=>70368744177708|5=>44|6=>151115727451828646838316|7=>16|8=>16|_=>0
theorem afK:aD Tryz.prog an ap 37 Tryz.f37 zU:=aj Tryz.func37 (by kernel_rfl)
def Ld:Nat→ay:=fun _=>default
def sB:Nat→Nat:=fun n=>match n with|0=>7|1=>391|2=>65671|3=>64|4=>8388739|5=>64|6=>134217859|7=>64|8=>7|_=>0
theorem afJ:aD Tryz.prog an ap 38 Tryz.f38 Ld:=aj Tryz.func38 (by kernel_rfl)
def Lc:Nat→ay:=fun _=>default
def Je:Nat→Nat:=fun n=>match n with|0=>12|1=>8204|2=>16|3=>16|_=>0
theorem afI:aD Tryz.prog an ap 39 Tryz.f39 Lc:=aj Tryz.func39 (by kernel_rfl)
def Lb:Nat→ay:=fun _=>default
def Ap:Nat→Nat:=fun n=>match n with|0=>9|1=>1033|2=>105|3=>134217737|4=>16|5=>137|6=>4294967433|7=>137|8=>4398046511241|9=>16|10=>16|_=>0
theorem afH:aD Tryz.prog an ap 40 Tryz.f40 Lb:=aj Tryz.func40 (by kernel_rfl)
def La:Nat→ay:=fun _=>default
def nQ:Nat→Nat:=fun n=>match n with|0=>3|1=>35|2=>33|3=>97|4=>7340097|5=>15728705|6=>7340353|7=>7340865|8=>7340609|9=>7340609|10=>17592193385025|11=>7340609|12=>985162425827393|13=>2111062332670017|14=>985162425831489|15=>985162425831489|16=>985162425827393|17=>985162425827393|18=>7340097|19=>7340097|20=>16|_=>0
theorem afG:aD Tryz.prog an ap 41 Tryz.f41 La:=aj Tryz.func41 (by kernel_rfl)
def K9:Nat→ay:=fun n=>match n with|7=>⟨[(0,false),(1,false),(2,false),(3,false),(4,false),(5,false),(9,false),(10,false),(6,true),(7,false),(8,false),(11,true),(12,false),(13,false)],none,[],[14]⟩|13=>⟨[(0,false),(1,false),(2,false),(3,false),(4,false),(5,false),(6,false),(7,false),(8,false),(9,false),(10,false),(11,false),(12,false),(13,false),(14,false),(15,true),(16,false),(17,false)],none,[],[18]⟩|_=>default
def pF:Nat→Nat:=fun n=>match n with|0=>3|1=>35|2=>97|3=>225|4=>131297|5=>225|6=>481|7=>481|8=>17592186044897|9=>481|10=>1505|11=>2251799813686753|12=>1505|13=>1505|14=>225|15=>16|_=>0
theorem afF:aD Tryz.prog an ap 42 Tryz.f42 K9:=aj Tryz.func42 (by kernel_rfl)
def Y0:Nat→ay:=fun n=>match n with|2=>⟨[(0,false),(1,false),(2,false),(4,false),(5,false),(6,false),(15,false),(23,false),(24,false),(29,false),(30,false),(34,false),(35,false),(3,true),(7,false),(8,true),(9,false),(10,true),(11,true),(12,false),(13,false),(14,false),(16,true),(17,false),(18,true),(19,true),(20,false),(21,false),(22,false),(25,true),(26,false),(27,false),(28,false),(31,true),(32,false),(33,true),(36,true),(37,false),(38,false),(39,false),(40,false)],none,[],[41]⟩|_=>default
def aaM:Nat→Nat:=fun n=>match n with|0=>0|1=>2|2=>1|_=>0
theorem afE:aD Tryz.prog an ap 43 Tryz.f43 Y0:=aj Tryz.func43 (by kernel_rfl)
def YZ:Nat→ay:=fun _=>default
def aaL:Nat→Nat:=fun n=>match n with|0=>0|1=>2|2=>898|3=>1922|4=>906|5=>898|6=>898|7=>1|_=>0
theorem afD:aD Tryz.prog an ap 44 Tryz.f44 YZ:=aj Tryz.func44 (by kernel_rfl)
def YY:Nat→ay:=fun _=>default
def aaK:Nat→Nat:=fun n=>match n with|0=>0|1=>2|2=>450|3=>962|4=>458|5=>450|6=>450|7=>1|_=>0
theorem afC:aD Tryz.prog an ap 45 Tryz.f45 YY:=aj Tryz.func45 (by kernel_rfl)
def K8:Nat→ay:=fun _=>default
def Jd:Nat→Nat:=fun n=>match n with|0=>19|1=>16|_=>0
theorem afB:aD Tryz.prog an ap 46 Tryz.f46 K8:=aj Tryz.func46 (by kernel_rfl)
def QU:Nat→ay:=fun _=>default
def SI:Nat→Nat:=fun n=>match n with|0=>5|1=>4|_=>0
theorem afA:aD Tryz.prog an ap 47 Tryz.f47 QU:=aj Tryz.func47 (by kernel_rfl)
def fT:Nat→ay:=fun n=>match n with|7=>⟨[(0,false),(1,false),(2,true),(3,false),(4,false)],none,[],[5,6]⟩|29=>⟨[(0,false),(1,false),(2,false),(3,false),(4,false),(5,false),(6,false),(7,true),(8,false),(9,true),(10,false)],none,[1],[11]⟩|35=>⟨[(0,false),(1,false),(2,false),(3,false),(4,false),(5,false),(6,false),(7,true)],none,[],[8,9]⟩|_=>default
def dV:Nat→Nat:=fun n=>match n with|0=>271|1=>783|2=>2097935|3=>783|4=>4194575|5=>12583183|6=>12583183|7=>256|8=>4299161871|9=>256|10=>34363932943|11=>34363932943|12=>549755814159|13=>256|14=>256|15=>562949957615887|16=>562949957615887|17=>562949957615887|18=>256|19=>288230376155906319|20=>288230376155906319|21=>256|22=>37778931862957165904143|23=>37778931862957165904143|24=>1295|25=>3343|26=>7439|27=>9671406556917033397656847|28=>7439|29=>7439|30=>256|31=>316912650057057350374175801615|32=>8463|33=>10141204801825835211973625651471|34=>8463|35=>256|36=>332306998946228968225951765070086400|37=>256|38=>256|_=>0
theorem afz:aD Tryz.prog an ap 48 Tryz.f48 fT:=aj Tryz.func48 (by kernel_rfl)
def K7:Nat→ay:=fun _=>default
def Jc:Nat→Nat:=fun n=>match n with|0=>19|1=>209|2=>262225|3=>48|4=>48|_=>0
theorem afy:aD Tryz.prog an ap 49 Tryz.f49 K7:=aj Tryz.func49 (by kernel_rfl)
def FY:Nat→ay:=fun _=>default
def Ao:Nat→Nat:=fun n=>match n with|0=>2|1=>2147483650|2=>4|3=>562949953421314|4=>4|5=>10|6=>31525197391593482|7=>67553994410557450|8=>31525197391593514|9=>37778963388154553303082|10=>4|11=>31525197391593482|12=>31525197391593482|13=>4|_=>0
theorem afx:aD Tryz.prog an ap 50 Tryz.f50 FY:=aj Tryz.func50 (by kernel_rfl)
def QT:Nat→ay:=fun _=>default
def SH:Nat→Nat:=fun n=>match n with|0=>12|1=>44|2=>16|_=>0
theorem afw:aD Tryz.prog an ap 51 Tryz.f51 QT:=aj Tryz.func51 (by kernel_rfl)
def QS:Nat→ay:=fun n=>match n with|1=>⟨[(0,false),(1,false),(2,false),(3,false),(4,false),(5,false),(6,false),(7,false),(8,false),(9,false),(10,false)],none,[],[11]⟩|2=>⟨[(0,false),(1,false),(2,false),(3,false),(4,false),(5,false),(6,false)],none,[4],[7,8,9,10]⟩|_=>default
def SG:Nat→Nat:=fun n=>match n with|0=>9|1=>9|2=>0|_=>0
theorem afv:aD Tryz.prog an ap 52 Tryz.f52 QS:=aj Tryz.func52 (by kernel_rfl)
def K6:Nat→ay:=fun n=>match n with|7=>⟨[(0,false),(1,false),(2,false),(3,false),(4,false),(5,false),(6,true),(7,false),(8,false),(9,true),(10,false)],none,[1],[11]⟩|_=>default
def DR:Nat→Nat:=fun n=>match n with|0=>6|1=>14|2=>14|3=>14|4=>57356|5=>122892|6=>57388|7=>57356|8=>57356|9=>4|_=>0
theorem afu:aD Tryz.prog an ap 53 Tryz.f53 K6:=aj Tryz.func53 (by kernel_rfl)
def K5:Nat→ay:=fun _=>default
def Jb:Nat→Nat:=fun n=>match n with|0=>3|1=>16|_=>0
theorem aft:aD Tryz.prog an ap 54 Tryz.f54 K5:=aj Tryz.func54 (by kernel_rfl)
def QR:Nat→ay:=fun _=>default
def SF:Nat→Nat:=fun n=>match n with|0=>6|1=>8|_=>0
theorem afs:aD Tryz.prog an ap 55 Tryz.f55 QR:=aj Tryz.func55 (by kernel_rfl)
def QQ:Nat→ay:=fun n=>match n with|1=>⟨[(0,false),(1,false),(2,false),(3,false),(4,false),(5,false),(6,false),(7,false),(8,false),(9,false),(10,false),(11,false)],none,[],[12]⟩|_=>default
def SE:Nat→Nat:=fun n=>match n with|0=>5|1=>5|2=>0|_=>0
theorem afr:aD Tryz.prog an ap 56 Tryz.f56 QQ:=aj Tryz.func56 (by kernel_rfl)
def K4:Nat→ay:=fun _=>default
def Ja:Nat→Nat:=fun n=>match n with|0=>2|1=>34|2=>4|3=>16384|4=>4|5=>4|_=>0
theorem afq:aD Tryz.prog an ap 57 Tryz.f57 K4:=aj Tryz.func57 (by kernel_rfl)
def QP:Nat→ay:=fun _=>default
def SD:Nat→Nat:=fun n=>match n with|0=>6|1=>4|_=>0
theorem afp:aD Tryz.prog an ap 58 Tryz.f58 QP:=aj Tryz.func58 (by kernel_rfl)
def K3:Nat→ay:=fun _=>default
def I9:Nat→Nat:=fun n=>match n with|0=>9|1=>104|2=>16|_=>0
theorem afo:aD Tryz.prog an ap 59 Tryz.f59 K3:=aj Tryz.func59 (by kernel_rfl)
def QO:Nat→ay:=fun _=>default
def SC:Nat→Nat:=fun n=>match n with|0=>28|1=>16|_=>0
theorem afn:aD Tryz.prog an ap 60 Tryz.f60 QO:=aj Tryz.func60 (by kernel_rfl)
def wX:Nat→ay:=fun n=>match n with|12=>⟨[(0,false),(1,false),(2,false),(3,false),(4,false),(5,false),(6,false),(7,false),(8,false),(9,false)],none,[],[10,11]⟩|_=>default
def nP:Nat→Nat:=fun n=>match n with|0=>12|1=>140|2=>16|3=>524300|4=>16|5=>2147483660|6=>16|7=>8796093022220|8=>16|9=>44|10=>9223372036854775852|11=>44|12=>108|13=>302231454903657293676652|14=>16|15=>16|_=>0
theorem afm:aD Tryz.prog an ap 61 Tryz.f61 wX:=aj Tryz.func61 (by kernel_rfl)
def QN:Nat→ay:=fun n=>match n with|1=>⟨[(0,false),(1,false),(2,false),(3,false),(4,false),(5,false),(6,false),(7,false),(8,false),(9,false)],none,[],[]⟩|4=>⟨[(0,false),(1,false),(2,false),(3,false),(4,false),(5,false),(6,false),(7,false),(8,false),(9,false),(10,false),(11,false)],none,[],[12,13]⟩|_=>default
def SB:Nat→Nat:=fun n=>match n with|0=>3|1=>16387|2=>16|3=>3|4=>16|_=>0
theorem afk:aD Tryz.prog an ap 64 Tryz.f64 QN:=aj Tryz.func64 (by kernel_rfl)
def wW:Nat→ay:=fun n=>match n with|5=>⟨[(0,false),(1,false),(2,true),(3,false),(4,false)],none,[],[5,6]⟩|_=>default
def sA:Nat→Nat:=fun n=>match n with|0=>271|1=>783|2=>4879|3=>256|4=>8389391|5=>256|6=>4294967567|7=>256|8=>256|_=>0
theorem afj:aD Tryz.prog an ap 65 Tryz.f65 wW:=aj Tryz.func65 (by kernel_rfl)
def FX:Nat→ay:=fun _=>default
def sy:Nat→Nat:=fun n=>match n with|0=>3|1=>387|2=>899|3=>419|4=>65955|5=>16|6=>387|7=>16|_=>0
theorem afi:aD Tryz.prog an ap 67 Tryz.f67 FX:=aj Tryz.func67 (by kernel_rfl)
def Cn:Nat→ay:=fun _=>default
def An:Nat→Nat:=fun n=>match n with|0=>3|1=>16|_=>0
theorem afh:aD Tryz.prog an ap 69 Tryz.f69 Cn:=aj Tryz.func69 (by kernel_rfl)
def QM:Nat→ay:=fun _=>default
def SA:Nat→Nat:=fun n=>match n with|0=>6|1=>8|_=>0
theorem afg:aD Tryz.prog an ap 70 Tryz.f70 QM:=aj Tryz.func70 (by kernel_rfl)
def Cm:Nat→ay:=fun _=>default
def pE:Nat→Nat:=fun n=>match n with|0=>199|1=>33554503|2=>69|3=>325|4=>30064771333|5=>64424509701|6=>30064772357|7=>30064771333|8=>30064771333|9=>123145302310917|10=>263882790666245|11=>123145302315013|12=>123145302310917|13=>123145302310917|_=>0
theorem aff:aD Tryz.prog an ap 71 Tryz.f71 Cm:=aj Tryz.func71 (by kernel_rfl)
def YX:Nat→ay:=fun _=>default
def aaJ:Nat→Nat:=fun n=>match n with|0=>1|1=>8|2=>8|3=>4|_=>0
theorem afe:aD Tryz.prog an ap 72 Tryz.f72 YX:=aj Tryz.func72 (by kernel_rfl)
def QL:Nat→ay:=fun _=>default
def Sz:Nat→Nat:=fun n=>match n with|0=>2|1=>4|_=>0
theorem afd:aD Tryz.prog an ap 73 Tryz.f73 QL:=aj Tryz.func73 (by kernel_rfl)
def K1:Nat→ay:=fun _=>default
def I8:Nat→Nat:=fun n=>match n with|0=>3|1=>3|2=>2|3=>48|_=>0
theorem afc:aD Tryz.prog an ap 74 Tryz.f74 K1:=aj Tryz.func74 (by kernel_rfl)
def YW:Nat→ay:=fun _=>default
def aaI:Nat→Nat:=fun n=>match n with|0=>1|1=>4|_=>0
theorem afb:aD Tryz.prog an ap 75 Tryz.f75 YW:=aj Tryz.func75 (by kernel_rfl)
def jc:Nat→ay:=fun _=>default
def gu:Nat→Nat:=fun n=>match n with|0=>9|1=>41|2=>521|3=>0|4=>0|5=>1048617|6=>0|7=>16777257|8=>0|9=>268435497|10=>0|11=>68719476777|12=>0|13=>4398046511145|14=>0|15=>281474976710665|16=>0|_=>0
theorem afa:aD Tryz.prog an ap 76 Tryz.f76 jc:=aj Tryz.func76 (by kernel_rfl)
def K0:Nat→ay:=fun _=>default
def I7:Nat→Nat:=fun n=>match n with|0=>3|1=>3|2=>0|3=>16|_=>0
theorem ae9:aD Tryz.prog an ap 77 Tryz.f77 K0:=aj Tryz.func77 (by kernel_rfl)
def YV:Nat→ay:=fun n=>match n with|1=>⟨[],none,[],[1000000]⟩|_=>default
def aaH:Nat→Nat:=fun n=>match n with|0=>1|1=>4|_=>0
theorem ae8:aD Tryz.prog an ap 78 Tryz.f78 YV:=aj Tryz.func78 (by kernel_rfl)
def Cl:Nat→ay:=fun _=>default
def nO:Nat→Nat:=fun n=>match n with|0=>7|1=>391|2=>16777351|3=>64|4=>133|5=>645|6=>1669|7=>68719478405|8=>1669|9=>1669|10=>2565|11=>2251799813687813|12=>2565|13=>2565|14=>64|_=>0
theorem ae7:aD Tryz.prog an ap 79 Tryz.f79 Cl:=aj Tryz.func79 (by kernel_rfl)
def YU:Nat→ay:=fun _=>default
def aaG:Nat→Nat:=fun n=>match n with|0=>1|1=>17|2=>4|3=>4|_=>0
theorem ae6:aD Tryz.prog an ap 80 Tryz.f80 YU:=aj Tryz.func80 (by kernel_rfl)
def rD:Nat→ay:=fun _=>default
def lf:Nat→Nat:=fun n=>match n with|0=>2|1=>10|2=>74|3=>202|4=>4|5=>586|6=>4|7=>2122|8=>4|9=>131146|10=>4194306|11=>4|12=>10|13=>268435530|14=>10|15=>1073741834|16=>10|17=>26|18=>68719476762|19=>26|20=>26|21=>4|_=>0
theorem ae5:aD Tryz.prog an ap 81 Tryz.f81 rD:=aj Tryz.func81 (by kernel_rfl)
def QK:Nat→ay:=fun _=>default
def Sy:Nat→Nat:=fun n=>match n with|0=>1|1=>1|_=>0
theorem ae4:aD Tryz.prog an ap 82 Tryz.f82 QK:=aj Tryz.func82 (by kernel_rfl)
def FW:Nat→ay:=fun n=>match n with|9=>⟨[(0,false),(1,false),(2,false),(3,false),(4,false),(5,false),(6,false),(7,true),(8,false),(9,true),(10,false)],none,[1],[11]⟩|_=>default
def Am:Nat→Nat:=fun n=>match n with|0=>271|1=>783|2=>525071|3=>256|4=>1295|5=>3343|6=>7439|7=>68719484175|8=>7439|9=>7439|10=>256|_=>0
theorem ae3:aD Tryz.prog an ap 83 Tryz.f83 FW:=aj Tryz.func83 (by kernel_rfl)
def QJ:Nat→ay:=fun _=>default
def Sx:Nat→Nat:=fun n=>match n with|0=>5|1=>4|_=>0
theorem ae2:aD Tryz.prog an ap 84 Tryz.f84 QJ:=aj Tryz.func84 (by kernel_rfl)
def QI:Nat→ay:=fun _=>default
def Sw:Nat→Nat:=fun n=>match n with|0=>28|1=>16|_=>0
theorem ae1:aD Tryz.prog an ap 85 Tryz.f85 QI:=aj Tryz.func85 (by kernel_rfl)
def QH:Nat→ay:=fun _=>default
def Sv:Nat→Nat:=fun n=>match n with|0=>1|1=>1|_=>0
theorem ae0:aD Tryz.prog an ap 86 Tryz.f86 QH:=aj Tryz.func86 (by kernel_rfl)
def QG:Nat→ay:=fun _=>default
def Su:Nat→Nat:=fun n=>match n with|0=>1|1=>4|_=>0
theorem aeZ:aD Tryz.prog an ap 87 Tryz.f87 QG:=aj Tryz.func87 (by kernel_rfl)
def QF:Nat→ay:=fun _=>default
def Ss:Nat→Nat:=fun n=>match n with|0=>3|1=>16|_=>0
theorem aeY:aD Tryz.prog an ap 88 Tryz.f88 QF:=aj Tryz.func88 (by kernel_rfl)
def QE:Nat→ay:=fun _=>default
def Sr:Nat→Nat:=fun n=>match n with|0=>12|1=>16|_=>0
theorem aeX:aD Tryz.prog an ap 89 Tryz.f89 QE:=aj Tryz.func89 (by kernel_rfl)
def QD:Nat→ay:=fun _=>default
def Sq:Nat→Nat:=fun n=>match n with|0=>12|1=>16|_=>0
theorem aeW:aD Tryz.prog an ap 90 Tryz.f90 QD:=aj Tryz.func90 (by kernel_rfl)
def QC:Nat→ay:=fun _=>default
def Sp:Nat→Nat:=fun n=>match n with|0=>12|1=>16|_=>0
theorem aeV:aD Tryz.prog an ap 91 Tryz.f91 QC:=aj Tryz.func91 (by kernel_rfl)
def wV:Nat→ay:=fun _=>default
def nN:Nat→Nat:=fun n=>match n with|0=>7|1=>16391|2=>64|3=>229382|4=>491526|5=>229766|6=>230150|7=>1073971206|8=>64|9=>229382|10=>64|_=>0
theorem aeU:aD Tryz.prog an ap 92 Tryz.f92 wV:=aj Tryz.func92 (by kernel_rfl)
def FV:Nat→ay:=fun n=>match n with|3=>⟨[(0,false),(1,false),(2,false),(3,false),(4,false),(5,false),(6,false),(7,true),(8,true),(9,false),(10,false),(11,false),(12,false),(13,false),(14,false),(15,false)],none,[],[16,17,18]⟩|8=>⟨[(0,false),(1,false),(2,false),(3,false),(4,false),(5,false),(6,true),(7,false),(8,false),(9,false),(10,false),(11,false),(12,false),(13,false),(14,false),(15,false),(16,false)],none,[],[17,18,19]⟩|13=>⟨[(0,false),(1,false),(2,false),(3,false),(4,false),(5,false),(6,false),(7,false),(8,false),(9,false),(10,false),(11,false),(12,false)],none,[],[]⟩|_=>default
def pD:Nat→Nat:=fun n=>match n with|0=>2|1=>536870914|2=>4|3=>281474976710658|4=>4|5=>10|6=>9007199254741002|7=>10|8=>37778931862957161709578|9=>4|10=>26|11=>302231454903657293676570|12=>26|13=>9903520314283042199192993818|14=>4|15=>4|_=>0
theorem aeT:aD Tryz.prog an ap 93 Tryz.f93 FV:=aj Tryz.func93 (by kernel_rfl)
def FU:Nat→ay:=fun n=>match n with|11=>⟨[(0,false),(1,false),(2,false),(3,false),(4,false),(5,false),(8,false),(6,true),(7,false),(9,true),(10,false),(11,true),(12,false)],none,[1],[13]⟩|_=>default
def Al:Nat→Nat:=fun n=>match n with|0=>78|1=>206|2=>206|3=>65742|4=>974|5=>67109838|6=>64|7=>206|8=>120259084494|9=>257698037966|10=>120259087566|11=>120259084494|12=>120259084494|13=>64|_=>0
theorem aeS:aD Tryz.prog an ap 94 Tryz.f94 FU:=aj Tryz.func94 (by kernel_rfl)
def FT:Nat→ay:=fun _=>default
def DQ:Nat→Nat:=fun n=>match n with|0=>7|1=>135|2=>524421|3=>96|4=>96|_=>0
theorem aeR:aD Tryz.prog an ap 95 Tryz.f95 FT:=aj Tryz.func95 (by kernel_rfl)
def YT:Nat→ay:=fun _=>default
def aaF:Nat→Nat:=fun n=>match n with|0=>1|1=>8|2=>4|3=>4|_=>0
theorem aeQ:aD Tryz.prog an ap 96 Tryz.f96 YT:=aj Tryz.func96 (by kernel_rfl)
def wU:Nat→ay:=fun _=>default
def jr:Nat→Nat:=fun n=>match n with|0=>3|1=>387|2=>899|3=>419|4=>65955|5=>16|6=>387|7=>16|_=>0
theorem aeP:aD Tryz.prog an ap 99 Tryz.f99 wU:=aj Tryz.func99 (by kernel_rfl)
def DI:Nat→ay:=fun _=>default
def DX:Nat→Nat:=fun n=>match n with|0=>2|1=>10|2=>8|3=>4|_=>0
theorem acM:aD Tryz.prog an ap 100 Tryz.f100 DI:=aj Tryz.func100 (by kernel_rfl)
def RZ:Nat→ay:=fun _=>default
def W3:Nat→Nat:=fun n=>match n with|0=>1|1=>4|_=>0
theorem acL:aD Tryz.prog an ap 101 Tryz.f101 RZ:=aj Tryz.func101 (by kernel_rfl)
def RY:Nat→ay:=fun _=>default
def W2:Nat→Nat:=fun n=>match n with|0=>5|1=>0|_=>0
theorem acK:aD Tryz.prog an ap 102 Tryz.f102 RY:=aj Tryz.func102 (by kernel_rfl)
def RX:Nat→ay:=fun _=>default
def W1:Nat→Nat:=fun n=>match n with|0=>33|1=>161|2=>41|3=>8225|_=>0
theorem acJ:aD Tryz.prog an ap 103 Tryz.f103 RX:=aj Tryz.func103 (by kernel_rfl)
def RW:Nat→ay:=fun _=>default
def W0:Nat→Nat:=fun n=>match n with|0=>65|1=>0|2=>524288|_=>0
theorem acI:aD Tryz.prog an ap 104 Tryz.f104 RW:=aj Tryz.func104 (by kernel_rfl)
def RV:Nat→ay:=fun _=>default
def WZ:Nat→Nat:=fun n=>match n with|0=>1|1=>4|_=>0
theorem acH:aD Tryz.prog an ap 105 Tryz.f105 RV:=aj Tryz.func105 (by kernel_rfl)
def Ab:Nat→ay:=fun _=>default
def tZ:Nat→Nat:=fun n=>match n with|0=>5|1=>28673|2=>61441|3=>28801|4=>28801|5=>28673|6=>28673|7=>0|_=>0
theorem acG:aD Tryz.prog an ap 106 Tryz.f106 Ab:=aj Tryz.func106 (by kernel_rfl)
def DH:Nat→ay:=fun _=>default
def tY:Nat→Nat:=fun n=>match n with|0=>3|1=>35|2=>547|3=>35|4=>131107|5=>16|6=>16|_=>0
theorem acF:aD Tryz.prog an ap 107 Tryz.f107 DH:=aj Tryz.func107 (by kernel_rfl)
def vA:Nat→ay:=fun n=>match n with|6=>⟨[(0,false),(1,false),(2,false),(3,false),(5,false),(6,false),(8,false),(9,false),(10,false),(4,true),(7,true)],none,[],[2000000,11,12]⟩|_=>default
def nV:Nat→Nat:=fun n=>match n with|0=>3|1=>35|2=>131107|3=>35|4=>2147483683|5=>16|6=>16|_=>0
theorem acE:aD Tryz.prog an ap 108 Tryz.f108 vA:=aj Tryz.func108 (by kernel_rfl)
def IU:Nat→ay:=fun _=>default
def LL:Nat→Nat:=fun n=>match n with|0=>2|1=>4|_=>0
theorem acD:aD Tryz.prog an ap 109 Tryz.f109 IU:=aj Tryz.func109 (by kernel_rfl)
def RU:Nat→ay:=fun _=>default
def WY:Nat→Nat:=fun n=>match n with|0=>1|1=>9|2=>2057|3=>4|4=>4|_=>0
theorem acC:aD Tryz.prog an ap 110 Tryz.f110 RU:=aj Tryz.func110 (by kernel_rfl)
def RT:Nat→ay:=fun _=>default
def WX:Nat→Nat:=fun n=>match n with|0=>1|1=>4|_=>0
theorem acB:aD Tryz.prog an ap 111 Tryz.f111 RT:=aj Tryz.func111 (by kernel_rfl)
def DG:Nat→ay:=fun _=>default
def yu:Nat→Nat:=fun n=>match n with|0=>3|1=>35|2=>547|3=>35|4=>131107|5=>16|6=>16|_=>0
theorem acA:aD Tryz.prog an ap 112 Tryz.f112 DG:=aj Tryz.func112 (by kernel_rfl)
def RS:Nat→ay:=fun _=>default
def WW:Nat→Nat:=fun n=>match n with|0=>1|1=>4|_=>0
theorem acz:aD Tryz.prog an ap 113 Tryz.f113 RS:=aj Tryz.func113 (by kernel_rfl)
def RR:Nat→ay:=fun _=>default
def WV:Nat→Nat:=fun n=>match n with|0=>1|1=>4|_=>0
theorem acy:aD Tryz.prog an ap 114 Tryz.f114 RR:=aj Tryz.func114 (by kernel_rfl)
def DF:Nat→ay:=fun _=>default
def lS:Nat→Nat:=fun n=>match n with|0=>3|1=>387|2=>899|3=>419|4=>65955|5=>16|6=>387|7=>16|_=>0
theorem acx:aD Tryz.prog an ap 115 Tryz.f115 DF:=aj Tryz.func115 (by kernel_rfl)
def IT:Nat→ay:=fun _=>default
def LK:Nat→Nat:=fun n=>match n with|0=>2|1=>10|2=>4|3=>4096|4=>4|5=>4|_=>0
theorem acw:aD Tryz.prog an ap 116 Tryz.f116 IT:=aj Tryz.func116 (by kernel_rfl)
def IS:Nat→ay:=fun _=>default
def LJ:Nat→Nat:=fun n=>match n with|0=>2|1=>4|_=>0
theorem acv:aD Tryz.prog an ap 117 Tryz.f117 IS:=aj Tryz.func117 (by kernel_rfl)
def IQ:Nat→ay:=fun _=>default
def LI:Nat→Nat:=fun n=>match n with|0=>3|1=>16|_=>0
theorem acu:aD Tryz.prog an ap 118 Tryz.f118 IQ:=aj Tryz.func118 (by kernel_rfl)
def DE:Nat→ay:=fun _=>default
def DW:Nat→Nat:=fun n=>match n with|0=>2|1=>10|2=>8|3=>4|_=>0
theorem acs:aD Tryz.prog an ap 119 Tryz.f119 DE:=aj Tryz.func119 (by kernel_rfl)
def IP:Nat→ay:=fun _=>default
def LH:Nat→Nat:=fun n=>match n with|0=>3|1=>8|_=>0
theorem acr:aD Tryz.prog an ap 120 Tryz.f120 IP:=aj Tryz.func120 (by kernel_rfl)
def DD:Nat→ay:=fun n=>match n with|1=>⟨[(0,false),(1,false),(2,false),(3,false),(5,false),(6,false),(7,false),(8,false),(10,false),(11,false),(12,false),(13,false),(15,false),(16,false),(17,false),(18,false),(19,false),(20,false),(4,true),(9,true),(14,true)],none,[],[21,22,23,24]⟩|5=>⟨[(0,false),(1,false),(2,false),(3,false),(4,false),(5,false),(6,false),(7,false),(8,false),(9,false)],none,[],[10,11]⟩|_=>default
def nU:Nat→Nat:=fun n=>match n with|0=>12|1=>44|2=>108|3=>549755813996|4=>108|5=>108|6=>16|_=>0
theorem acq:aD Tryz.prog an ap 121 Tryz.f121 DD:=aj Tryz.func121 (by kernel_rfl)
def Aa:Nat→ay:=fun _=>default
def tX:Nat→Nat:=fun n=>match n with|0=>1|1=>131073|2=>4|3=>9|4=>2097161|5=>9|6=>17179869193|7=>4|8=>4|_=>0
theorem acp:aD Tryz.prog an ap 122 Tryz.f122 Aa:=aj Tryz.func122 (by kernel_rfl)
def IN:Nat→ay:=fun _=>default
def LG:Nat→Nat:=fun n=>match n with|0=>1|1=>4|_=>0
theorem aco:aD Tryz.prog an ap 123 Tryz.f123 IN:=aj Tryz.func123 (by kernel_rfl)
def DC:Nat→ay:=fun _=>default
def DV:Nat→Nat:=fun n=>match n with|0=>6|1=>38|2=>16|_=>0
theorem acn:aD Tryz.prog an ap 124 Tryz.f124 DC:=aj Tryz.func124 (by kernel_rfl)
def RQ:Nat→ay:=fun n=>match n with|6=>⟨[(0,false),(1,false),(2,false),(3,true),(4,false),(5,true),(6,false)],none,[1],[7]⟩|_=>default
def WU:Nat→Nat:=fun n=>match n with|0=>6|1=>14|2=>14|3=>3596|4=>7692|5=>3628|6=>3596|7=>3596|8=>4|_=>0
theorem acm:aD Tryz.prog an ap 125 Tryz.f125 RQ:=aj Tryz.func125 (by kernel_rfl)
def IM:Nat→ay:=fun _=>default
def LF:Nat→Nat:=fun n=>match n with|0=>6|1=>2048|2=>16|3=>16|_=>0
theorem ack:aD Tryz.prog an ap 126 Tryz.f126 IM:=aj Tryz.func126 (by kernel_rfl)
def IL:Nat→ay:=fun _=>default
def LD:Nat→Nat:=fun n=>match n with|0=>6|1=>2048|2=>16|3=>16|_=>0
theorem acj:aD Tryz.prog an ap 127 Tryz.f127 IL:=aj Tryz.func127 (by kernel_rfl)
def zZ:Nat→ay:=fun _=>default
def tW:Nat→Nat:=fun n=>match n with|0=>6|1=>262|2=>6|3=>114690|4=>245762|5=>114722|6=>114690|7=>114690|_=>0
theorem aci:aD Tryz.prog an ap 128 Tryz.f128 zZ:=aj Tryz.func128 (by kernel_rfl)
def RP:Nat→ay:=fun _=>default
def WT:Nat→Nat:=fun n=>match n with|0=>6|1=>68|4=>16|_=>0
theorem ach:aD Tryz.prog an ap 129 Tryz.f129 RP:=aj Tryz.func129 (by kernel_rfl)
def RM:Nat→ay:=fun n=>match n with|17=>⟨[(0,false),(1,false),(2,false),(3,false),(4,false),(5,false),(6,false),(7,false),(8,false),(9,false),(10,false),(11,false)],none,[],[12,13,14]⟩|_=>default
def WS:Nat→Nat:=fun n=>match n with|0=>271|1=>783|2=>1807|3=>8390415|4=>0|5=>536872719|6=>0|7=>34359740175|8=>1807|9=>1807|10=>7951|11=>1125899906850575|12=>3855|13=>3855|14=>7951|15=>295147905179352829711|16=>4722366482869645217551|17=>154742504910672534362394383|18=>8973|19=>783|20=>50191|21=>17935|22=>214543|23=>475663|24=>10384593717069655257060992658915855|25=>17167|26=>17165|27=>783|28=>17167|29=>17163|30=>783|_=>0
theorem acg:aD Tryz.prog an ap 130 Tryz.f130 RM:=aj Tryz.func130 (by kernel_rfl)
def RL:Nat→ay:=fun _=>default
def WR:Nat→Nat:=fun n=>match n with|0=>1|1=>4|2=>4|_=>0
theorem acf:aD Tryz.prog an ap 131 Tryz.f131 RL:=aj Tryz.func131 (by kernel_rfl)
def RK:Nat→ay:=fun _=>default
def WQ:Nat→Nat:=fun n=>match n with|0=>3|1=>2051|2=>131073|3=>16|4=>33|5=>97|6=>8388705|7=>97|8=>225|9=>161|10=>17179869344|11=>160|12=>16|13=>16|14=>512|15=>16|_=>0
theorem ace:aD Tryz.prog an ap 133 Tryz.f133 RK:=aj Tryz.func133 (by kernel_rfl)
def vz:Nat→ay:=fun _=>default
def nT:Nat→Nat:=fun n=>match n with|0=>6|1=>262|2=>6|3=>38|4=>131110|5=>38|6=>38|7=>16|_=>0
theorem acd:aD Tryz.prog an ap 134 Tryz.f134 vz:=aj Tryz.func134 (by kernel_rfl)
def RJ:Nat→ay:=fun _=>default
def WO:Nat→Nat:=fun n=>match n with|0=>1|1=>4|_=>0
theorem acb:aD Tryz.prog an ap 135 Tryz.f135 RJ:=aj Tryz.func135 (by kernel_rfl)
def DB:Nat→ay:=fun _=>default
def yt:Nat→Nat:=fun n=>match n with|0=>2|1=>10|2=>904|3=>1928|4=>936|5=>904|6=>904|7=>4|_=>0
theorem aca:aD Tryz.prog an ap 136 Tryz.f136 DB:=aj Tryz.func136 (by kernel_rfl)
def DA:Nat→ay:=fun _=>default
def yr:Nat→Nat:=fun n=>match n with|0=>2|1=>10|2=>904|3=>1928|4=>936|5=>904|6=>904|7=>4|_=>0
theorem ab9:aD Tryz.prog an ap 137 Tryz.f137 DA:=aj Tryz.func137 (by kernel_rfl)
def IK:Nat→ay:=fun _=>default
def LC:Nat→Nat:=fun n=>match n with|0=>2|1=>4|_=>0
theorem ab8:aD Tryz.prog an ap 138 Tryz.f138 IK:=aj Tryz.func138 (by kernel_rfl)
def zY:Nat→ay:=fun n=>match n with|6=>⟨[(0,false),(1,false),(2,false),(3,false),(4,true),(5,false)],none,[],[6,7]⟩|_=>default
def qJ:Nat→Nat:=fun n=>match n with|0=>6|1=>32774|2=>16|3=>917510|4=>1966086|5=>917606|6=>2148401158|7=>16|8=>917510|9=>16|_=>0
theorem ab7:aD Tryz.prog an ap 139 Tryz.f139 zY:=aj Tryz.func139 (by kernel_rfl)
def IJ:Nat→ay:=fun _=>default
def LB:Nat→Nat:=fun n=>match n with|0=>2|1=>4|_=>0
theorem ab6:aD Tryz.prog an ap 140 Tryz.f140 IJ:=aj Tryz.func140 (by kernel_rfl)
def Dz:Nat→ay:=fun _=>default
def tV:Nat→Nat:=fun n=>match n with|0=>3|1=>387|2=>899|3=>419|4=>65955|5=>16|6=>387|7=>16|_=>0
theorem ab5:aD Tryz.prog an ap 141 Tryz.f141 Dz:=aj Tryz.func141 (by kernel_rfl)
def vy:Nat→ay:=fun n=>match n with|6=>⟨[(0,false),(1,false),(2,false),(3,false),(6,false),(4,true),(5,false)],none,[],[7]⟩|_=>default
def qI:Nat→Nat:=fun n=>match n with|0=>14|1=>65550|2=>14|3=>117440526|4=>251658254|5=>117440718|6=>117440526|7=>117440526|_=>0
theorem ab4:aD Tryz.prog an ap 142 Tryz.f142 vy:=aj Tryz.func142 (by kernel_rfl)
def Dy:Nat→ay:=fun _=>default
def nS:Nat→Nat:=fun n=>match n with|0=>1|1=>9|2=>456|3=>968|4=>488|5=>16872|6=>4|7=>456|8=>4|_=>0
theorem ab3:aD Tryz.prog an ap 143 Tryz.f143 Dy:=aj Tryz.func143 (by kernel_rfl)
def II:Nat→ay:=fun _=>default
def LA:Nat→Nat:=fun n=>match n with|0=>3|1=>35|2=>99|3=>2115|4=>4096|5=>16|6=>16|7=>8195|8=>16|9=>65539|10=>16|11=>524288|12=>16|13=>16|_=>0
theorem ab2:aD Tryz.prog an ap 144 Tryz.f144 II:=aj Tryz.func144 (by kernel_rfl)
def IH:Nat→ay:=fun _=>default
def Ly:Nat→Nat:=fun n=>match n with|0=>3|1=>35|2=>99|3=>2115|4=>4096|5=>16|6=>16|7=>8195|8=>16|9=>65539|10=>16|11=>524288|12=>16|13=>16|_=>0
theorem ab1:aD Tryz.prog an ap 145 Tryz.f145 IH:=aj Tryz.func145 (by kernel_rfl)
def RH:Nat→ay:=fun _=>default
def WN:Nat→Nat:=fun n=>match n with|0=>1|1=>4|_=>0
theorem ab0:aD Tryz.prog an ap 146 Tryz.f146 RH:=aj Tryz.func146 (by kernel_rfl)
def RG:Nat→ay:=fun _=>default
def WM:Nat→Nat:=fun n=>match n with|0=>1|1=>4|_=>0
theorem abZ:aD Tryz.prog an ap 147 Tryz.f147 RG:=aj Tryz.func147 (by kernel_rfl)
def IG:Nat→ay:=fun _=>default
def Lx:Nat→Nat:=fun n=>match n with|0=>2|1=>4|_=>0
theorem abY:aD Tryz.prog an ap 148 Tryz.f148 IG:=aj Tryz.func148 (by kernel_rfl)
def IF:Nat→ay:=fun _=>default
def Lw:Nat→Nat:=fun n=>match n with|0=>2|1=>10|2=>4|3=>4096|4=>4|5=>4|_=>0
theorem abX:aD Tryz.prog an ap 149 Tryz.f149 IF:=aj Tryz.func149 (by kernel_rfl)
def Dx:Nat→ay:=fun _=>default
def tU:Nat→Nat:=fun n=>match n with|0=>2|1=>1026|2=>4|3=>10|4=>32778|5=>10|6=>16777226|7=>4|8=>4|_=>0
theorem abW:aD Tryz.prog an ap 150 Tryz.f150 Dx:=aj Tryz.func150 (by kernel_rfl)
def zX:Nat→ay:=fun _=>default
def yq:Nat→Nat:=fun n=>match n with|0=>51|1=>65555|2=>0|_=>0
theorem abV:aD Tryz.prog an ap 151 Tryz.f151 zX:=aj Tryz.func151 (by kernel_rfl)
def RD:Nat→ay:=fun n=>match n with|4=>⟨[(0,false),(1,false),(2,false),(3,false),(4,false),(5,false),(6,false),(7,false),(8,false),(9,false),(10,false),(11,false),(12,false)],none,[],[13,14]⟩|6=>⟨[],some 999999,[],[]⟩|_=>default
def WL:Nat→Nat:=fun n=>match n with|0=>71|1=>4167|2=>71|3=>199|4=>1073742023|5=>199|6=>199|_=>0
theorem abU:aD Tryz.prog an ap 152 Tryz.f152 RD:=aj Tryz.func152 (by kernel_rfl)
def RC:Nat→ay:=fun n=>match n with|10=>⟨[],some 999999,[],[]⟩|_=>default
def WK:Nat→Nat:=fun n=>match n with|0=>71|1=>199|2=>449|3=>961|4=>525249|5=>961|6=>961|7=>1217|8=>1073743041|9=>1217|10=>1217|11=>1217|_=>0
theorem abT:aD Tryz.prog an ap 153 Tryz.f153 RC:=aj Tryz.func153 (by kernel_rfl)
def RB:Nat→ay:=fun n=>match n with|10=>⟨[],some 999999,[],[]⟩|_=>default
def WJ:Nat→Nat:=fun n=>match n with|0=>67|1=>32835|2=>195|3=>451|4=>963|5=>8589935555|6=>963|7=>1987|8=>8796093024195|9=>1987|10=>963|_=>0
theorem abS:aD Tryz.prog an ap 154 Tryz.f154 RB:=aj Tryz.func154 (by kernel_rfl)
def RA:Nat→ay:=fun _=>default
def WI:Nat→Nat:=fun n=>match n with|0=>7|1=>259|2=>771|3=>1795|4=>3843|5=>7937|6=>4294975233|7=>17179876865|8=>7681|9=>7681|10=>7681|11=>2560|12=>562949953423360|13=>192|14=>2814749767108608|15=>192|16=>18014398509484032|17=>192|_=>0
theorem abR:aD Tryz.prog an ap 155 Tryz.f155 RA:=aj Tryz.func155 (by kernel_rfl)
def Rz:Nat→ay:=fun n=>match n with|3=>⟨[(0,false),(1,false),(2,false),(3,false),(4,false),(5,false),(6,false),(7,false),(8,false),(9,false),(10,false),(11,false),(12,false),(13,true),(14,false),(15,true)],none,[],[]⟩|_=>default
def WH:Nat→Nat:=fun n=>match n with|0=>69|1=>193|2=>8385|3=>193|4=>193|5=>193|_=>0
theorem abQ:aD Tryz.prog an ap 156 Tryz.f156 Rz:=aj Tryz.func156 (by kernel_rfl)
def Ry:Nat→ay:=fun n=>match n with|5=>⟨[(0,false),(1,false),(2,false),(3,false),(4,false),(5,false),(6,false),(7,false),(8,false),(9,false),(10,false),(11,false),(12,false)],none,[],[13,14,15]⟩|11=>⟨[],some 999999,[],[]⟩|16=>⟨[(0,false),(1,false),(2,false),(3,false),(4,false),(5,false),(6,false),(7,false),(8,false)],none,[],[9,10]⟩|17=>⟨[],some 999999,[],[]⟩|22=>⟨[(0,false),(1,false),(2,false),(3,false),(4,false),(5,false),(6,false),(7,false),(8,false)],none,[],[9,10]⟩|23=>⟨[],some 999999,[],[]⟩|_=>default
def WG:Nat→Nat:=fun n=>match n with|0=>7|1=>135|2=>391|3=>16775|4=>391|5=>4294967687|6=>391|7=>137438953863|8=>64|9=>2199023255943|10=>64|11=>391|12=>2305843009213694343|13=>903|14=>36893488147419104135|15=>903|16=>302231454903657293677447|17=>903|18=>316912650057057350374175801735|19=>1415|20=>10141204801825835211973625644423|21=>1415|22=>83076749736557242056487941267522951|23=>1415|24=>64|_=>0
theorem abP:aD Tryz.prog an ap 157 Tryz.f157 Ry:=aj Tryz.func157 (by kernel_rfl)
def Rx:Nat→ay:=fun _=>default
def WE:Nat→Nat:=fun n=>match n with|0=>3|1=>16|_=>0
theorem abO:aD Tryz.prog an ap 158 Tryz.f158 Rx:=aj Tryz.func158 (by kernel_rfl)
def Rw:Nat→ay:=fun n=>match n with|1=>⟨[(0,false),(1,false),(2,false),(3,false),(4,false),(5,false),(6,false),(7,false),(8,false),(9,false),(10,false),(11,false),(12,false),(13,true),(14,false),(15,true)],none,[],[]⟩|3=>⟨[(0,false),(1,false),(2,false),(3,false),(4,false),(5,false),(6,false),(7,false),(8,false),(9,false),(10,false),(11,false)],none,[],[12,13,14]⟩|5=>⟨[(0,false),(1,false),(2,false),(3,false),(4,false),(5,false),(6,false),(7,false),(8,false),(9,false),(10,false),(11,false)],none,[],[12,13]⟩|8=>⟨[(0,false),(1,false),(2,false),(3,false),(4,false),(5,false),(6,false),(7,false),(8,false),(9,false),(10,false),(11,false),(12,false),(13,true),(14,false),(15,true)],none,[],[]⟩|_=>default
def WD:Nat→Nat:=fun n=>match n with|0=>15|1=>7|2=>1539|3=>8796093023747|4=>1539|5=>576460752303425027|6=>1539|7=>18446744073709553155|8=>1539|9=>1539|10=>1539|11=>256|_=>0
theorem abN:aD Tryz.prog an ap 159 Tryz.f159 Rw:=aj Tryz.func159 (by kernel_rfl)
def Rv:Nat→ay:=fun n=>match n with|1=>⟨[(0,false),(1,false),(2,false),(3,false),(4,false),(5,false),(6,false),(7,false),(8,false),(9,false),(10,false),(11,false),(12,false),(13,true),(14,false),(15,true)],none,[],[]⟩|3=>⟨[(0,false),(1,false),(2,false),(3,false),(4,false),(5,false),(6,false),(7,false),(8,false),(9,false),(10,false),(11,false)],none,[],[12,13]⟩|5=>⟨[(0,false),(1,false),(2,false),(3,false),(4,false),(5,false),(6,false),(7,false),(8,false),(9,false),(10,false),(11,false)],none,[],[12,13,14]⟩|8=>⟨[(0,false),(1,false),(2,false),(3,false),(4,false),(5,false),(6,false),(7,false),(8,false),(9,false),(10,false),(11,false),(12,false),(13,true),(14,false),(15,true)],none,[],[]⟩|10=>⟨[(0,false),(1,false),(2,false),(3,false),(4,false),(5,false),(6,false),(7,false),(8,false),(9,false),(10,false),(11,false),(12,false),(13,true),(14,false),(15,true)],none,[],[]⟩|13=>⟨[(0,false),(1,false),(2,false),(3,false),(4,false),(5,false),(6,false),(7,false),(8,false),(9,false),(10,false),(11,false)],none,[],[12,13]⟩|15=>⟨[(0,false),(1,false),(2,false),(3,false),(4,false),(5,false),(6,false),(7,false),(8,false),(9,false),(10,false),(11,false)],none,[],[12,13,14]⟩|18=>⟨[(0,false),(1,false),(2,false),(3,false),(4,false),(5,false),(6,false),(7,false),(8,false),(9,false),(10,false),(11,false),(12,false),(13,true),(14,false),(15,true)],none,[],[]⟩|21=>⟨[(0,false),(1,false),(2,false),(3,false),(4,false),(5,false),(6,false),(7,false),(8,false),(9,false),(10,false),(11,false),(12,false),(13,true),(14,false),(15,true)],none,[],[]⟩|_=>default
def WC:Nat→Nat:=fun n=>match n with|0=>15|1=>7|2=>3075|3=>8796093025283|4=>3075|5=>1152921504606850051|6=>3075|7=>36893488147419106307|8=>2048|9=>768|10=>3075|11=>3075|12=>3075|13=>5192296858534827628530496329223171|14=>3075|15=>680564733841876926926749214863536425987|16=>3075|17=>21778071482940061661655974875633165536259|18=>3075|19=>3075|20=>3075|21=>2048|22=>768|_=>0
theorem abM:aD Tryz.prog an ap 160 Tryz.f160 Rv:=aj Tryz.func160 (by kernel_rfl)
def Ru:Nat→ay:=fun _=>default
def WA:Nat→Nat:=fun n=>match n with|0=>5|1=>21|2=>1|3=>5|4=>261|5=>5|6=>5|7=>4|_=>0
theorem abL:aD Tryz.prog an ap 161 Tryz.f161 Ru:=aj Tryz.func161 (by kernel_rfl)
def Rt:Nat→ay:=fun _=>default
def Wz:Nat→Nat:=fun n=>match n with|0=>5|1=>21|2=>1|3=>5|4=>261|5=>5|6=>5|7=>16389|8=>5|9=>5|10=>4|_=>0
theorem abK:aD Tryz.prog an ap 162 Tryz.f162 Rt:=aj Tryz.func162 (by kernel_rfl)
def Rs:Nat→ay:=fun _=>default
def Wy:Nat→Nat:=fun n=>match n with|0=>1|1=>17|2=>4|3=>4|_=>0
theorem abJ:aD Tryz.prog an ap 163 Tryz.f163 Rs:=aj Tryz.func163 (by kernel_rfl)
def Rr:Nat→ay:=fun _=>default
def Wx:Nat→Nat:=fun n=>match n with|0=>1|1=>9|2=>4|_=>0
theorem abI:aD Tryz.prog an ap 164 Tryz.f164 Rr:=aj Tryz.func164 (by kernel_rfl)
def Rq:Nat→ay:=fun n=>match n with|7=>⟨[],some 999999,[],[]⟩|8=>⟨[],some 999999,[],[]⟩|9=>⟨[],some 999999,[],[]⟩|10=>⟨[],some 999999,[],[]⟩|17=>⟨[],some 999999,[],[]⟩|18=>⟨[],some 999999,[],[]⟩|23=>⟨[],some 999999,[],[]⟩|_=>default
def Ww:Nat→Nat:=fun n=>match n with|0=>19|1=>1048595|2=>51|3=>51|4=>211|5=>851|6=>3859|7=>3347|8=>3091|9=>1043|10=>19|11=>19|12=>4113|13=>633825300114114700748351606801|14=>12305|15=>12305|16=>53265|17=>20497|18=>4113|19=>4113|20=>696898287454081973172991196020261297066001|21=>69649|22=>69649|23=>4113|24=>4113|25=>2923003274661805836407369665432566039311865090049|26=>0|_=>0
theorem abH:aD Tryz.prog an ap 165 Tryz.f165 Rq:=aj Tryz.func165 (by kernel_rfl)
def Rp:Nat→ay:=fun _=>default
def Wv:Nat→Nat:=fun n=>match n with|0=>3103|1=>268438559|2=>3103|3=>7199|4=>15391|5=>1073757215|6=>15391|7=>17179884575|8=>31775|9=>64543|10=>130075|11=>70368744307739|12=>130075|13=>130075|14=>130075|15=>15387|16=>15385|17=>146459|18=>295147905179352972315|19=>146459|20=>408603|21=>408601|22=>146459|23=>15387|24=>15385|25=>618970019642690137449577489|26=>15377|27=>15377|28=>19807040628566084398386002945|29=>3072|30=>3072|_=>0
theorem abG:aD Tryz.prog an ap 166 Tryz.f166 Rp:=aj Tryz.func166 (by kernel_rfl)
def IE:Nat→ay:=fun _=>default
def Lv:Nat→Nat:=fun n=>match n with|0=>2|1=>1048578|2=>4|3=>4194306|4=>12582914|5=>12582914|6=>4|7=>1077936130|8=>4|9=>4503599631564802|10=>4|11=>288230376155906050|12=>4|13=>18446744073713745922|14=>4|15=>1208925819614629174706178|16=>4|17=>4|_=>0
theorem abF:aD Tryz.prog an ap 167 Tryz.f167 IE:=aj Tryz.func167 (by kernel_rfl)
def ID:Nat→ay:=fun _=>default
def Lu:Nat→Nat:=fun n=>match n with|0=>2|1=>4|_=>0
theorem abE:aD Tryz.prog an ap 168 Tryz.f168 ID:=aj Tryz.func168 (by kernel_rfl)
def IC:Nat→ay:=fun _=>default
def Lt:Nat→Nat:=fun n=>match n with|0=>2|1=>4|_=>0
theorem abD:aD Tryz.prog an ap 169 Tryz.f169 IC:=aj Tryz.func169 (by kernel_rfl)
def zW:Nat→ay:=fun _=>default
def yp:Nat→Nat:=fun n=>match n with|0=>51|1=>65555|2=>0|_=>0
theorem abC:aD Tryz.prog an ap 170 Tryz.f170 zW:=aj Tryz.func170 (by kernel_rfl)
def IB:Nat→ay:=fun _=>default
def Ls:Nat→Nat:=fun n=>match n with|0=>1|1=>4|_=>0
theorem abB:aD Tryz.prog an ap 171 Tryz.f171 IB:=aj Tryz.func171 (by kernel_rfl)
def IA:Nat→ay:=fun _=>default
def Lr:Nat→Nat:=fun n=>match n with|0=>1|1=>4|_=>0
theorem abA:aD Tryz.prog an ap 172 Tryz.f172 IA:=aj Tryz.func172 (by kernel_rfl)
def Ro:Nat→ay:=fun _=>default
def Wu:Nat→Nat:=fun n=>match n with|0=>1|1=>4|_=>0
theorem abz:aD Tryz.prog an ap 173 Tryz.f173 Ro:=aj Tryz.func173 (by kernel_rfl)
def vx:Nat→ay:=fun n=>match n with|6=>⟨[(0,false),(1,false),(2,false),(3,false),(4,false),(5,false),(6,false),(7,false),(10,false),(8,true),(9,false)],none,[],[11,12]⟩|_=>default
def nR:Nat→Nat:=fun n=>match n with|0=>14|1=>65550|2=>14|3=>142|4=>134217870|5=>142|6=>142|7=>64|_=>0
theorem aby:aD Tryz.prog an ap 174 Tryz.f174 vx:=aj Tryz.func174 (by kernel_rfl)
def Dw:Nat→ay:=fun _=>default
def tT:Nat→Nat:=fun n=>match n with|0=>2|1=>10|2=>26|3=>538|4=>26|5=>26|6=>4|_=>0
theorem abx:aD Tryz.prog an ap 175 Tryz.f175 Dw:=aj Tryz.func175 (by kernel_rfl)
def Dv:Nat→ay:=fun _=>default
def tS:Nat→Nat:=fun n=>match n with|0=>2|1=>10|2=>26|3=>538|4=>26|5=>26|6=>4|_=>0
theorem abw:aD Tryz.prog an ap 176 Tryz.f176 Dv:=aj Tryz.func176 (by kernel_rfl)
def fD:Nat→ay:=fun _=>default
def dm:Nat→Nat:=fun n=>match n with|0=>2|1=>10|2=>67108874|3=>4|4=>268435466|5=>4|6=>805306378|7=>805306378|8=>4|9=>17448304650|10=>4|11=>281475245146122|12=>4611686018427387914|13=>4|14=>26|15=>36893488147419103258|16=>26|17=>18889465931478580854810|18=>4|19=>37778931862957430145034|20=>302231454903657293676554|21=>4|22=>604462909807314855788554|23=>4835703278458516698824714|24=>4|25=>9671406556917033397649418|26=>19807040628566084398385987594|27=>4|28=>42|29=>158456325028528675187087900714|30=>42|31=>81129638414606681695789005144106|32=>4|33=>4|_=>0
theorem abv:aD Tryz.prog an ap 177 Tryz.f177 fD:=aj Tryz.func177 (by kernel_rfl)
def Iz:Nat→ay:=fun _=>default
def Lq:Nat→Nat:=fun n=>match n with|0=>2|1=>4|_=>0
theorem abu:aD Tryz.prog an ap 178 Tryz.f178 Iz:=aj Tryz.func178 (by kernel_rfl)
def Rn:Nat→ay:=fun _=>default
def Wt:Nat→Nat:=fun n=>match n with|0=>3|1=>67|2=>451|3=>33219|4=>963|5=>134218691|6=>451|7=>451|8=>48|_=>0
theorem abt:aD Tryz.prog an ap 179 Tryz.f179 Rn:=aj Tryz.func179 (by kernel_rfl)
def Rm:Nat→ay:=fun n=>match n with|11=>⟨[(0,false),(1,false),(2,false),(3,false),(4,false),(5,false),(6,false),(7,false)],none,[],[8]⟩|15=>⟨[(0,false),(1,false),(2,false),(3,false),(4,false),(5,false),(6,false),(7,false)],none,[],[8]⟩|_=>default
def Ws:Nat→Nat:=fun n=>match n with|0=>7|1=>7|2=>135|3=>65671|4=>64|5=>391|6=>4194695|7=>64|8=>2147484039|9=>647|10=>643|11=>512|12=>64|13=>391|14=>295147905179352826247|15=>7|16=>1|17=>64|18=>131|19=>1|20=>64|_=>0
theorem abr:aD Tryz.prog an ap 180 Tryz.f180 Rm:=aj Tryz.func180 (by kernel_rfl)
def Rl:Nat→ay:=fun n=>match n with|3=>⟨[(0,false),(1,false),(2,false),(3,false),(4,false),(5,false),(6,false),(7,false),(8,false),(9,false),(10,false),(11,false),(12,false),(13,false),(14,false),(15,false),(16,false),(17,false)],none,[],[18,19]⟩|5=>⟨[(0,false),(1,false),(2,false),(3,false),(4,false),(5,false),(6,false),(7,false),(8,false),(9,false),(10,false),(11,false)],none,[],[12,13]⟩|6=>⟨[],some 999999,[],[]⟩|_=>default
def Wr:Nat→Nat:=fun n=>match n with|0=>269|1=>781|2=>66317|3=>68719477517|4=>781|5=>4503599627371277|6=>525|7=>269|_=>0
theorem abq:aD Tryz.prog an ap 181 Tryz.f181 Rl:=aj Tryz.func181 (by kernel_rfl)
def Rk:Nat→ay:=fun _=>default
def Wq:Nat→Nat:=fun n=>match n with|0=>1|1=>4|_=>0
theorem abp:aD Tryz.prog an ap 182 Tryz.f182 Rk:=aj Tryz.func182 (by kernel_rfl)
def Rj:Nat→ay:=fun n=>match n with|1=>⟨[(0,false),(1,false),(2,false),(3,false),(4,false),(5,false),(6,false),(7,false),(8,false)],none,[],[9]⟩|2=>⟨[(0,false),(1,false),(2,false),(3,false),(4,false),(5,false),(6,false),(7,false),(8,false)],none,[],[9]⟩|3=>⟨[(0,false),(1,false),(2,false),(3,false),(4,false),(5,false),(6,false),(7,false),(8,false)],none,[],[9]⟩|_=>default
def Wp:Nat→Nat:=fun n=>match n with|0=>1|1=>1|2=>1|3=>1|4=>4|_=>0
theorem abo:aD Tryz.prog an ap 183 Tryz.f183 Rj:=aj Tryz.func183 (by kernel_rfl)
def Ri:Nat→ay:=fun _=>default
def Wo:Nat→Nat:=fun n=>match n with|0=>7|1=>64|_=>0
theorem abn:aD Tryz.prog an ap 184 Tryz.f184 Ri:=aj Tryz.func184 (by kernel_rfl)
def Rh:Nat→ay:=fun _=>default
def Wn:Nat→Nat:=fun n=>match n with|0=>31|1=>31|2=>23|3=>4|4=>1024|_=>0
theorem abm:aD Tryz.prog an ap 185 Tryz.f185 Rh:=aj Tryz.func185 (by kernel_rfl)
def Rg:Nat→ay:=fun _=>default
def Wm:Nat→Nat:=fun n=>match n with|0=>1|1=>4|_=>0
theorem abl:aD Tryz.prog an ap 186 Tryz.f186 Rg:=aj Tryz.func186 (by kernel_rfl)
def Rf:Nat→ay:=fun _=>default
def Wl:Nat→Nat:=fun n=>match n with|0=>1|1=>8|2=>4|3=>4|_=>0
theorem abk:aD Tryz.prog an ap 187 Tryz.f187 Rf:=aj Tryz.func187 (by kernel_rfl)
def Re:Nat→ay:=fun _=>default
def Wk:Nat→Nat:=fun n=>match n with|0=>1|1=>4|_=>0
theorem abj:aD Tryz.prog an ap 188 Tryz.f188 Re:=aj Tryz.func188 (by kernel_rfl)
def Rc:Nat→ay:=fun _=>default
def Wj:Nat→Nat:=fun n=>match n with|0=>1|1=>4|2=>4|_=>0
theorem abi:aD Tryz.prog an ap 189 Tryz.f189 Rc:=aj Tryz.func189 (by kernel_rfl)
def Rb:Nat→ay:=fun _=>default
def Wi:Nat→Nat:=fun n=>match n with|0=>3|1=>67|2=>451|3=>33219|4=>963|5=>134218691|6=>451|7=>451|8=>48|_=>0
theorem abh:aD Tryz.prog an ap 190 Tryz.f190 Rb:=aj Tryz.func190 (by kernel_rfl)
def Ra:Nat→ay:=fun n=>match n with|11=>⟨[(0,false),(1,false),(2,false),(3,false),(4,false),(5,false),(6,false),(7,false)],none,[],[8]⟩|15=>⟨[(0,false),(1,false),(2,false),(3,false),(4,false),(5,false),(6,false),(7,false)],none,[],[8]⟩|_=>default
def Wh:Nat→Nat:=fun n=>match n with|0=>7|1=>7|2=>135|3=>65671|4=>64|5=>391|6=>4194695|7=>64|8=>2147484039|9=>647|10=>643|11=>512|12=>64|13=>391|14=>295147905179352826247|15=>7|16=>1|17=>64|18=>131|19=>1|20=>64|_=>0
theorem abg:aD Tryz.prog an ap 191 Tryz.f191 Ra:=aj Tryz.func191 (by kernel_rfl)
def zV:Nat→ay:=fun n=>match n with|6=>⟨[(0,false),(1,false),(2,false),(3,false),(5,false),(6,false),(8,false),(9,false),(10,false),(4,true),(7,true)],none,[],[2000000,11,12]⟩|_=>default
def tR:Nat→Nat:=fun n=>match n with|0=>3|1=>35|2=>131107|3=>35|4=>2147483683|5=>16|6=>16|_=>0
theorem abf:aD Tryz.prog an ap 192 Tryz.f192 zV:=aj Tryz.func192 (by kernel_rfl)
def Q9:Nat→ay:=fun _=>default
def Wg:Nat→Nat:=fun n=>match n with|0=>1|1=>4|_=>0
theorem abe:aD Tryz.prog an ap 193 Tryz.f193 Q9:=aj Tryz.func193 (by kernel_rfl)
def Q8:Nat→ay:=fun _=>default
def Wf:Nat→Nat:=fun n=>match n with|0=>0|_=>0
theorem abd:aD Tryz.prog an ap 195 Tryz.f195 Q8:=aj Tryz.func195 (by kernel_rfl)
def Q7:Nat→ay:=fun n=>match n with|1=>⟨[(0,false),(1,false),(2,false),(3,false),(4,false),(5,false),(6,false),(7,false)],none,[],[8]⟩|_=>default
def We:Nat→Nat:=fun n=>match n with|0=>15|1=>262158|2=>6|3=>768|4=>768|_=>0
theorem abc:aD Tryz.prog an ap 196 Tryz.f196 Q7:=aj Tryz.func196 (by kernel_rfl)
def Q6:Nat→ay:=fun _=>default
def Wd:Nat→Nat:=fun n=>match n with|0=>1|1=>17|2=>4|3=>4|_=>0
theorem abb:aD Tryz.prog an ap 197 Tryz.f197 Q6:=aj Tryz.func197 (by kernel_rfl)
def Q5:Nat→ay:=fun _=>default
def Wc:Nat→Nat:=fun n=>match n with|0=>1|1=>17|2=>4|3=>4|_=>0
theorem aba:aD Tryz.prog an ap 198 Tryz.f198 Q5:=aj Tryz.func198 (by kernel_rfl)
def Q4:Nat→ay:=fun _=>default
def Wb:Nat→Nat:=fun n=>match n with|0=>3|1=>16|_=>0
theorem aa9:aD Tryz.prog an ap 199 Tryz.f199 Q4:=aj Tryz.func199 (by kernel_rfl)
def Q2:Nat→ay:=fun _=>default
def Wa:Nat→Nat:=fun n=>match n with|0=>1|1=>4|_=>0
theorem aa8:aD Tryz.prog an ap 200 Tryz.f200 Q2:=aj Tryz.func200 (by kernel_rfl)
def Q1:Nat→ay:=fun _=>default
def V9:Nat→Nat:=fun n=>match n with|0=>0|_=>0
theorem aa7:aD Tryz.prog an ap 202 Tryz.f202 Q1:=aj Tryz.func202 (by kernel_rfl)
def Q0:Nat→ay:=fun _=>default
def V8:Nat→Nat:=fun n=>match n with|0=>3|1=>1|2=>0|_=>0
theorem aa6:aD Tryz.prog an ap 203 Tryz.f203 Q0:=aj Tryz.func203 (by kernel_rfl)
def QZ:Nat→ay:=fun _=>default
def V7:Nat→Nat:=fun n=>match n with|0=>3|1=>1|2=>0|_=>0
theorem aa5:aD Tryz.prog an ap 204 Tryz.f204 QZ:=aj Tryz.func204 (by kernel_rfl)
def QY:Nat→ay:=fun n=>match n with|3=>⟨[(0,false),(1,false),(2,false),(3,false),(4,false),(5,false),(6,false),(7,false),(8,false),(9,false),(10,false),(11,false),(12,false),(13,true),(14,false),(15,true)],none,[],[]⟩|_=>default
def V6:Nat→Nat:=fun n=>match n with|0=>13|1=>525|2=>13|3=>13|_=>0
theorem aa4:aD Tryz.prog an ap 205 Tryz.f205 QY:=aj Tryz.func205 (by kernel_rfl)
def QX:Nat→ay:=fun n=>match n with|3=>⟨[(0,false),(1,false),(2,false),(3,false),(4,false),(5,false),(6,false),(7,false),(8,false),(9,false),(10,false),(11,false),(12,false),(13,true),(14,false),(15,true)],none,[],[]⟩|_=>default
def V5:Nat→Nat:=fun n=>match n with|0=>13|1=>525|2=>13|3=>13|_=>0
theorem aa3:aD Tryz.prog an ap 206 Tryz.f206 QX:=aj Tryz.func206 (by kernel_rfl)
noncomputable def JG:aO:=(.node (.node (.node (.node (.node (.node (.node (.node .nil 7 Tryz.f7 aaw Y5 .nil) 9 Tryz.f9 aav Y4 .nil) 10 Tryz.f10 Lj DY (.node (.node .nil 11 Tryz.f11 Y2 aaO .nil) 13 Tryz.f13 RO SO .nil)) 14 Tryz.f14 RI SN (.node (.node (.node .nil 15 Tryz.f15 RE SM .nil) 16 Tryz.f16 Li Jf .nil) 17 Tryz.f17 FZ vH (.node (.node .nil 18 Tryz.f18 Lh DU .nil) 19 Tryz.f19 Lg DT .nil))) 20 Tryz.f20 Q3 SL (.node (.node (.node (.node .nil 23 Tryz.f23 Y1 aaN .nil) 24 Tryz.f24 QW SK .nil) 25 Tryz.f25 Co pH (.node (.node .nil 28 Tryz.f28 Lf js .nil) 35 Tryz.f35 QV SJ .nil)) 36 Tryz.f36 Le DS (.node (.node (.node .nil 37 Tryz.f37 zU pG .nil) 38 Tryz.f38 Ld sB .nil) 39 Tryz.f39 Lc Je (.node .nil 40 Tryz.f40 Lb Ap .nil)))) 41 Tryz.f41 La nQ (.node (.node (.node (.node (.node .nil 42 Tryz.f42 K9 pF .nil) 43 Tryz.f43 Y0 aaM .nil) 44 Tryz.f44 YZ aaL (.node (.node .nil 45 Tryz.f45 YY aaK .nil) 46 Tryz.f46 K8 Jd .nil)) 47 Tryz.f47 QU SI (.node (.node (.node .nil 48 Tryz.f48 fT dV .nil) 49 Tryz.f49 K7 Jc .nil) 50 Tryz.f50 FY Ao (.node .nil 51 Tryz.f51 QT SH .nil))) 52 Tryz.f52 QS SG (.node (.node (.node (.node .nil 53 Tryz.f53 K6 DR .nil) 54 Tryz.f54 K5 Jb .nil) 55 Tryz.f55 QR SF (.node (.node .nil 56 Tryz.f56 QQ SE .nil) 57 Tryz.f57 K4 Ja .nil)) 58 Tryz.f58 QP SD (.node (.node (.node .nil 59 Tryz.f59 K3 I9 .nil) 60 Tryz.f60 QO SC .nil) 61 Tryz.f61 wX nP (.node .nil 64 Tryz.f64 QN SB .nil))))) 65 Tryz.f65 wW sA (.node (.node (.node (.node (.node (.node .nil 67 Tryz.f67 FX sy .nil) 69 Tryz.f69 Cn An .nil) 70 Tryz.f70 QM SA (.node (.node .nil 71 Tryz.f71 Cm pE .nil) 72 Tryz.f72 YX aaJ .nil)) 73 Tryz.f73 QL Sz (.node (.node (.node .nil 74 Tryz.f74 K1 I8 .nil) 75 Tryz.f75 YW aaI .nil) 76 Tryz.f76 jc gu (.node (.node .nil 77 Tryz.f77 K0 I7 .nil) 78 Tryz.f78 YV aaH .nil))) 79 Tryz.f79 Cl nO (.node (.node (.node (.node .nil 80 Tryz.f80 YU aaG .nil) 81 Tryz.f81 rD lf .nil) 82 Tryz.f82 QK Sy (.node (.node .nil 83 Tryz.f83 FW Am .nil) 84 Tryz.f84 QJ Sx .nil)) 85 Tryz.f85 QI Sw (.node (.node (.node .nil 86 Tryz.f86 QH Sv .nil) 87 Tryz.f87 QG Su .nil) 88 Tryz.f88 QF Ss (.node .nil 89 Tryz.f89 QE Sr .nil)))) 90 Tryz.f90 QD Sq (.node (.node (.node (.node (.node .nil 91 Tryz.f91 QC Sp .nil) 92 Tryz.f92 wV nN .nil) 93 Tryz.f93 FV pD (.node (.node .nil 94 Tryz.f94 FU Al .nil) 95 Tryz.f95 FT DQ .nil)) 96 Tryz.f96 YT aaF (.node (.node (.node .nil 99 Tryz.f99 wU jr .nil) 100 Tryz.f100 DI DX .nil) 101 Tryz.f101 RZ W3 (.node .nil 102 Tryz.f102 RY W2 .nil))) 103 Tryz.f103 RX W1 (.node (.node (.node (.node .nil 104 Tryz.f104 RW W0 .nil) 105 Tryz.f105 RV WZ .nil) 106 Tryz.f106 Ab tZ (.node (.node .nil 107 Tryz.f107 DH tY .nil) 108 Tryz.f108 vA nV .nil)) 109 Tryz.f109 IU LL (.node (.node (.node .nil 110 Tryz.f110 RU WY .nil) 111 Tryz.f111 RT WX .nil) 112 Tryz.f112 DG yu (.node .nil 113 Tryz.f113 RS WW .nil)))))) 114 Tryz.f114 RR WV (.node (.node (.node (.node (.node (.node (.node .nil 115 Tryz.f115 DF lS .nil) 116 Tryz.f116 IT LK .nil) 117 Tryz.f117 IS LJ (.node (.node .nil 118 Tryz.f118 IQ LI .nil) 119 Tryz.f119 DE DW .nil)) 120 Tryz.f120 IP LH (.node (.node (.node .nil 121 Tryz.f121 DD nU .nil) 122 Tryz.f122 Aa tX .nil) 123 Tryz.f123 IN LG (.node (.node .nil 124 Tryz.f124 DC DV .nil) 125 Tryz.f125 RQ WU .nil))) 126 Tryz.f126 IM LF (.node (.node (.node (.node .nil 127 Tryz.f127 IL LD .nil) 128 Tryz.f128 zZ tW .nil) 129 Tryz.f129 RP WT (.node (.node .nil 130 Tryz.f130 RM WS .nil) 131 Tryz.f131 RL WR .nil)) 133 Tryz.f133 RK WQ (.node (.node (.node .nil 134 Tryz.f134 vz nT .nil) 135 Tryz.f135 RJ WO .nil) 136 Tryz.f136 DB yt (.node .nil 137 Tryz.f137 DA yr .nil)))) 138 Tryz.f138 IK LC (.node (.node (.node (.node (.node .nil 139 Tryz.f139 zY qJ .nil) 140 Tryz.f140 IJ LB .nil) 141 Tryz.f141 Dz tV (.node (.node .nil 142 Tryz.f142 vy qI .nil) 143 Tryz.f143 Dy nS .nil)) 144 Tryz.f144 II LA (.node (.node (.node .nil 145 Tryz.f145 IH Ly .nil) 146 Tryz.f146 RH WN .nil) 147 Tryz.f147 RG WM (.node .nil 148 Tryz.f148 IG Lx .nil))) 149 Tryz.f149 IF Lw (.node (.node (.node (.node .nil 150 Tryz.f150 Dx tU .nil) 151 Tryz.f151 zX yq .nil) 152 Tryz.f152 RD WL (.node (.node .nil 153 Tryz.f153 RC WK .nil) 154 Tryz.f154 RB WJ .nil)) 155 Tryz.f155 RA WI (.node (.node (.node .nil 156 Tryz.f156 Rz WH .nil) 157 Tryz.f157 Ry WG .nil) 158 Tryz.f158 Rx WE (.node .nil 159 Tryz.f159 Rw WD .nil))))) 160 Tryz.f160 Rv WC (.node (.node (.node (.node (.node (.node .nil 161 Tryz.f161 Ru WA .nil) 162 Tryz.f162 Rt Wz .nil) 163 Tryz.f163 Rs Wy (.node (.node .nil 164 Tryz.f164 Rr Wx .nil) 165 Tryz.f165 Rq Ww .nil)) 166 Tryz.f166 Rp Wv (.node (.node (.node .nil 167 Tryz.f167 IE Lv .nil) 168 Tryz.f168 ID Lu .nil) 169 Tryz.f169 IC Lt (.node (.node .nil 170 Tryz.f170 zW yp .nil) 171 Tryz.f171 IB Ls .nil))) 172 Tryz.f172 IA Lr (.node (.node (.node (.node .nil 173 Tryz.f173 Ro Wu .nil) 174 Tryz.f174 vx nR .nil) 175 Tryz.f175 Dw tT (.node (.node .nil 176 Tryz.f176 Dv tS .nil) 177 Tryz.f177 fD dm .nil)) 178 Tryz.f178 Iz Lq (.node (.node (.node .nil 179 Tryz.f179 Rn Wt .nil) 180 Tryz.f180 Rm Ws .nil) 181 Tryz.f181 Rl Wr (.node .nil 182 Tryz.f182 Rk Wq .nil)))) 183 Tryz.f183 Rj Wp (.node (.node (.node (.node (.node .nil 184 Tryz.f184 Ri Wo .nil) 185 Tryz.f185 Rh Wn .nil) 186 Tryz.f186 Rg Wm (.node (.node .nil 187 Tryz.f187 Rf Wl .nil) 188 Tryz.f188 Re Wk .nil)) 189 Tryz.f189 Rc Wj (.node (.node (.node .nil 190 Tryz.f190 Rb Wi .nil) 191 Tryz.f191 Ra Wh .nil) 192 Tryz.f192 zV tR (.node .nil 193 Tryz.f193 Q9 Wg .nil))) 195 Tryz.f195 Q8 Wf (.node (.node (.node (.node .nil 196 Tryz.f196 Q7 We .nil) 197 Tryz.f197 Q6 Wd .nil) 198 Tryz.f198 Q5 Wc (.node (.node .nil 199 Tryz.f199 Q4 Wb .nil) 200 Tryz.f200 Q2 Wa .nil)) 202 Tryz.f202 Q1 V9 (.node (.node (.node .nil 203 Tryz.f203 Q0 V8 .nil) 204 Tryz.f204 QZ V7 .nil) 205 Tryz.f205 QY V6 (.node .nil 206 Tryz.f206 QX V5 .nil)))))))
theorem um:FOk Tryz.prog an ap JG.find:=aO.ok (aO.ae (aO.ae (aO.ae (aO.ae (aO.ae (aO.ae (aO.ae (aO.ae aO.all_nil agO aO.all_nil) agN aO.all_nil) af0 (aO.ae (aO.ae aO.all_nil afZ aO.all_nil) afY aO.all_nil)) afX (aO.ae (aO.ae (aO.ae aO.all_nil afW aO.all_nil) afV aO.all_nil) afU (aO.ae (aO.ae aO.all_nil afT aO.all_nil) afS aO.all_nil))) afR (aO.ae (aO.ae (aO.ae (aO.ae aO.all_nil afQ aO.all_nil) afP aO.all_nil) afO (aO.ae (aO.ae aO.all_nil afN aO.all_nil) afM aO.all_nil)) afL (aO.ae (aO.ae (aO.ae aO.all_nil afK aO.all_nil) afJ aO.all_nil) afI (aO.ae aO.all_nil afH aO.all_nil)))) afG (aO.ae (aO.ae (aO.ae (aO.ae (aO.ae aO.all_nil afF aO.all_nil) afE aO.all_nil) afD (aO.ae (aO.ae aO.all_nil afC aO.all_nil) afB aO.all_nil)) afA (aO.ae (aO.ae (aO.ae aO.all_nil afz aO.all_nil) afy aO.all_nil) afx (aO.ae aO.all_nil afw aO.all_nil))) afv (aO.ae (aO.ae (aO.ae (aO.ae aO.all_nil afu aO.all_nil) aft aO.all_nil) afs (aO.ae (aO.ae aO.all_nil afr aO.all_nil) afq aO.all_nil)) afp (aO.ae (aO.ae (aO.ae aO.all_nil afo aO.all_nil) afn aO.all_nil) afm (aO.ae aO.all_nil afk aO.all_nil))))) afj (aO.ae (aO.ae (aO.ae (aO.ae (aO.ae (aO.ae aO.all_nil afi aO.all_nil) afh aO.all_nil) afg (aO.ae (aO.ae aO.all_nil aff aO.all_nil) afe aO.all_nil)) afd (aO.ae (aO.ae (aO.ae aO.all_nil afc aO.all_nil) afb aO.all_nil) afa (aO.ae (aO.ae aO.all_nil ae9 aO.all_nil) ae8 aO.all_nil))) ae7 (aO.ae (aO.ae (aO.ae (aO.ae aO.all_nil ae6 aO.all_nil) ae5 aO.all_nil) ae4 (aO.ae (aO.ae aO.all_nil ae3 aO.all_nil) ae2 aO.all_nil)) ae1 (aO.ae (aO.ae (aO.ae aO.all_nil ae0 aO.all_nil) aeZ aO.all_nil) aeY (aO.ae aO.all_nil aeX aO.all_nil)))) aeW (aO.ae (aO.ae (aO.ae (aO.ae (aO.ae aO.all_nil aeV aO.all_nil) aeU aO.all_nil) aeT (aO.ae (aO.ae aO.all_nil aeS aO.all_nil) aeR aO.all_nil)) aeQ (aO.ae (aO.ae (aO.ae aO.all_nil aeP aO.all_nil) acM aO.all_nil) acL (aO.ae aO.all_nil acK aO.all_nil))) acJ (aO.ae (aO.ae (aO.ae (aO.ae aO.all_nil acI aO.all_nil) acH aO.all_nil) acG (aO.ae (aO.ae aO.all_nil acF aO.all_nil) acE aO.all_nil)) acD (aO.ae (aO.ae (aO.ae aO.all_nil acC aO.all_nil) acB aO.all_nil) acA (aO.ae aO.all_nil acz aO.all_nil)))))) acy (aO.ae (aO.ae (aO.ae (aO.ae (aO.ae (aO.ae (aO.ae aO.all_nil acx aO.all_nil) acw aO.all_nil) acv (aO.ae (aO.ae aO.all_nil acu aO.all_nil) acs aO.all_nil)) acr (aO.ae (aO.ae (aO.ae aO.all_nil acq aO.all_nil) acp aO.all_nil) aco (aO.ae (aO.ae aO.all_nil acn aO.all_nil) acm aO.all_nil))) ack (aO.ae (aO.ae (aO.ae (aO.ae aO.all_nil acj aO.all_nil) aci aO.all_nil) ach (aO.ae (aO.ae aO.all_nil acg aO.all_nil) acf aO.all_nil)) ace (aO.ae (aO.ae (aO.ae aO.all_nil acd aO.all_nil) acb aO.all_nil) aca (aO.ae aO.all_nil ab9 aO.all_nil)))) ab8 (aO.ae (aO.ae (aO.ae (aO.ae (aO.ae aO.all_nil ab7 aO.all_nil) ab6 aO.all_nil) ab5 (aO.ae (aO.ae aO.all_nil ab4 aO.all_nil) ab3 aO.all_nil)) ab2 (aO.ae (aO.ae (aO.ae aO.all_nil ab1 aO.all_nil) ab0 aO.all_nil) abZ (aO.ae aO.all_nil abY aO.all_nil))) abX (aO.ae (aO.ae (aO.ae (aO.ae aO.all_nil abW aO.all_nil) abV aO.all_nil) abU (aO.ae (aO.ae aO.all_nil abT aO.all_nil) abS aO.all_nil)) abR (aO.ae (aO.ae (aO.ae aO.all_nil abQ aO.all_nil) abP aO.all_nil) abO (aO.ae aO.all_nil abN aO.all_nil))))) abM (aO.ae (aO.ae (aO.ae (aO.ae (aO.ae (aO.ae aO.all_nil abL aO.all_nil) abK aO.all_nil) abJ (aO.ae (aO.ae aO.all_nil abI aO.all_nil) abH aO.all_nil)) abG (aO.ae (aO.ae (aO.ae aO.all_nil abF aO.all_nil) abE aO.all_nil) abD (aO.ae (aO.ae aO.all_nil abC aO.all_nil) abB aO.all_nil))) abA (aO.ae (aO.ae (aO.ae (aO.ae aO.all_nil abz aO.all_nil) aby aO.all_nil) abx (aO.ae (aO.ae aO.all_nil abw aO.all_nil) abv aO.all_nil)) abu (aO.ae (aO.ae (aO.ae aO.all_nil abt aO.all_nil) abr aO.all_nil) abq (aO.ae aO.all_nil abp aO.all_nil)))) abo (aO.ae (aO.ae (aO.ae (aO.ae (aO.ae aO.all_nil abn aO.all_nil) abm aO.all_nil) abl (aO.ae (aO.ae aO.all_nil abk aO.all_nil) abj aO.all_nil)) abi (aO.ae (aO.ae (aO.ae aO.all_nil abh aO.all_nil) abg aO.all_nil) abf (aO.ae aO.all_nil abe aO.all_nil))) abd (aO.ae (aO.ae (aO.ae (aO.ae aO.all_nil abc aO.all_nil) abb aO.all_nil) aba (aO.ae (aO.ae aO.all_nil aa9 aO.all_nil) aa8 aO.all_nil)) aa7 (aO.ae (aO.ae (aO.ae aO.all_nil aa6 aO.all_nil) aa5 aO.all_nil) aa4 (aO.ae aO.all_nil aa3 aO.all_nil)))))))
end Go.Proofs.YtiihadmgkoamoaaGreatDoor
namespace Go.Tp
open Go.Proofs Go.Shelf Go.RowKit Go.Maps
section
variable {P:Program} {ρ:Ren} {G:bJ}
theorem tt {N:Name->Option Nat} {next b:Nat} (hnx:∀o b,N (.out o)=some b->o < next):∀m c,N m=some c->bK N (.out next) b m=some c:=fun m c hm=>by
 have hne:m≠.out next:=by
  rintro rfl
  have:=hnx next c hm
  omega
 simp[bK,hne,hm]
theorem tH {N N':Name->Option Nat} (h:∀m c,N m=some c->N' m=some c):∀m c,outs N m=some c->outs N' m=some c:=fun m c hm=>by
 cases m with
 | loc i=>simp[outs] at hm
 | out o=>exact h _ _ hm
end
end Go.Tp
namespace Go.Proofs.YtiihadmgkoamoaaGreatDoor
open Go.Tp Go.Shelf
def encS (l:List (List UInt8)):List aq:=l.map fun b=>.flat (.string ⟨⟨b⟩⟩)
def oW:List (List UInt8):=[[65,110,121],[78,101,118,101,114],[116,117,112,108,101],[117,110,105,111,110],[101,120,105,115,116,115]]
def iT:List (List UInt8):=[[88,97],[88,98],[88,99],[88,100]]
def gw:List (List UInt8):=[[73,110,116],[66,111,111,108],[83,116,114,105,110,103],[78,105,108]]
def cJ:bJ:=fun g=>match g with|0=>some [.slice (encS iT)]|1=>some [.slice (encS gw)]|2=>some [.slice (encS oW)]|4=>some [.slice (encS oW)]|_=>none
theorem G8:(env au.aI).Ok Tryz.prog:=by rw[To];exact acZ
def W5:jB:=fun _ _ _ _=>none
theorem W4:HI Tryz.prog cJ W5:=by intro f args heap next r h;simp[W5] at h
noncomputable def X:jB:=AO (env au.aI) cJ an ap JG.find W5 3000 60
theorem aM:HI Tryz.prog cJ X:=fun f args heap next r h=>pV 3000 G8 um (M:=W5) W4 60 f args heap next r h
theorem X1 (ls bs:List Nat) {g:FuncId} {x:fL} (hx:JG.find g=some x) {args:List ac} {heap:Heap} {next:Nat} {r:ew} (h:(Ql (Oz ls) (Oz bs) (env au.aI) cJ an ap x g args heap next).Ok Tryz.prog cJ (fun y=>y=r)) :
  aC Tryz.prog cJ g args heap next (XQ r):=wv (KT G8 um hx (fun _ _=>h))
abbrev KD:=dz Tryz.prog cJ
abbrev KC:=aC Tryz.prog cJ
theorem co (ls bs:List Nat) {g:FuncId} {x:fL} {args:List ac} {heap:Heap} {next:Nat} {r:ew} (h:(Ql (Oz ls) (Oz bs) (env au.aI) cJ an ap x g args heap next).Ok Tryz.prog cJ (fun y=>y=r)) (hx:JG.find g=some x:=by kernel_rfl):aC Tryz.prog cJ g args heap next (XQ r):=X1 ls bs hx h
theorem aB (ls bs:List Nat) {H:Hints} {n:Nat} {live:Nat->Nat} {c:Code} (hc:cR H c=true) {f:ab} {T:Exit->aa->Prop}
  (h:(tE (Oz ls) (Oz bs) (env au.aI) cJ H n live c f (fun r=>.fin r)).Ok Tryz.prog cJ (fun r=>T r.1 (r.2.aw n))):dz Tryz.prog cJ c T (f.aw n):=M5 G8 live hc h
theorem aex {α:Type} {T:α->Prop} {q:Qy α} {c b:Bool} (hc:c=b) (e:q.Bd=some (!c)) (h:(q.ofB (!b)).Ok Tryz.prog cJ T):q.Ok Tryz.prog cJ T:=bz (by rw[hc]) e h
abbrev ag (g:FuncId) (args:List ac) (v:ac):Prop:=aC Tryz.prog cJ g args [] 0 (XQ ⟨v,[],0⟩)
def i64 (n:Int):aq:=.flat (.int .i64 n)
def sb (b:List UInt8):aq:=.flat (.string ⟨⟨b⟩⟩)
def nl:aq:=.flat (.slice none 0 0)
def sl:List aq->aq
 | []=>nl
 | d::r=>.slice (d::r)
inductive Ty where
 |mk (k:Int) (nm:List UInt8) (ix:Int) (args:List Ty)
mutual
def Ty.cells:Ty->List aq
 | .mk k nm ix args=>[i64 k,sb nm,i64 ix,sl (ax args)]
def ax:List Ty->List aq
 | []=>[]
 | t::r=>.agg t.cells::ax r
end
def Ty.enc (t:Ty):aq:=.agg t.cells
def Ty.args:Ty->List Ty
 | .mk _ _ _ a=>a
theorem qb:∀l:List Ty,ax l=l.map Ty.enc
 | []=>by simp[ax]
 | t::r=>by simp[ax,qb r,Ty.enc]
theorem aE (l:List Ty):(ax l).length=l.length:=by simp[qb]
theorem Tz {l:List Ty} {i:Nat} {t:Ty} (h:l[i]?=some t):(ax l)[i]?=some t.enc:=by simp[qb,h]
mutual
def Ty.size:Ty->Nat
 | .mk _ _ _ args=>aS args+1
def aS:List Ty->Nat
 | []=>0
 | t::r=>t.size+aS r
end
theorem ij {l:List Ty} {i:Nat} {t:Ty} (h:l[i]?=some t):aS (l.take (i+1))=aS (l.take i)+t.size:=by
 induction l generalizing i with
 | nil=>simp at h
 | cons x r ih=>
  cases i with
  | zero=>simp at h;subst h;simp[aS]
  | succ i=>
   simp at h;simp only[List.take_succ_cons,aS];rw[ih h];omega
theorem mM {l:List Ty} (i:Nat):aS (l.take i)<=aS l:=by
 induction l generalizing i with
 | nil=>simp[aS]
 | cons x r ih=>
  cases i with
  | zero=>simp[aS]
  | succ i=>simp only[List.take_succ_cons,aS];have:=ih i;omega
theorem wrap_add {n m:Nat} (h:n+m < 9223372036854775808):aG .i64 (Int.ofNat n+Int.ofNat m)=Int.ofNat (n+m):=by
 rw[dR];exact wrap_i64 (by simp;omega) (by simp;omega)
noncomputable def tiT:TI:=match Go.Tp.elemOf (env au.aI) 30 with|some t=>t|none=>default
theorem OT:Go.Tp.elemOf (env au.aI) 30=some tiT:=by kernel_rfl
theorem yR:tiT.size=4:=by kernel_rfl
theorem jU {l:List Ty} {i:Nat} {t:Ty} (h:l[i]?=some t):aJ (env au.aI) 30 [.dat (.slice (ax l)),.dat (.flat (.int .i64 (Int.ofNat i)))]=some ⟨.ref t.cells,.keep⟩:=
 uO OT rfl (Tz h) (by rw[yR];cases t;rfl) (by rw[yR];decide)
theorem get_mem {l:List Ty} {i:Nat} (h:i < (ax l).length):∃t,l[i]?=some t/\t∈l:=by
 rw[aE] at h;exact⟨l[i],List.getElem?_eq_getElem h,List.getElem_mem h⟩
noncomputable def Zd:Hints:=⟨an,DB,ap,rowsOf ap 136⟩
def mh (l:List Ty) (i n:Int):ab:=⟨[(9,iv i),(8,iv (Int.ofNat (ax l).length)),(7,.dat (.slice (ax l))),(3,iv n)],[],[],0⟩
def qx (l:List Ty) (n:Int):ab:=⟨[(10,bv false),(9,iv (Int.ofNat (ax l).length)),(8,iv (Int.ofNat (ax l).length)),(7,.dat (.slice (ax l))),(3,iv n)],[],[],0⟩
theorem Ve {k:Int} {nm:List UInt8} {ix:Int} {l:List Ty} (ih:∀t∈l,ag 136 [.dat t.enc] (iv (Int.ofNat t.size))) (hb:aS l < 1000000000) :
  ag 136 [.dat (.agg [i64 k,sb nm,i64 ix,.slice (ax l)])] (iv (Int.ofNat (aS l+1))):=by
 have hlen:l.length<=aS l:=by
  clear ih hb
  induction l with
  | nil=>simp[aS]
  | cons t r ih=>cases t;simp only[List.length_cons,aS,Ty.size];omega
 refine co [] [] (x:=.of Tryz.f136 DB yt) ?_;refine iL (n:=Tryz.f136.ntmps) (c:=roundOf Tryz.f136 0) (f:=mh l (Int.ofNat 0) (Int.ofNat (1+aS (l.take 0)))) (L:=fun e s=>e=.exit 0/\s=(qx l (Int.ofNat (1+aS l))).aw Tryz.f136.ntmps) (by kernel_rfl) (by kernel_rfl) ?_ ?_
 ·refine ba (St:=fun i=>(mh l (Int.ofNat i) (Int.ofNat (1+aS (l.take i)))).aw Tryz.f136.ntmps) (ax l).length ?_ ?_ (i:=0) (Nat.zero_le _)
  ·intro i hi;obtain⟨t,ht,hm⟩:=get_mem hi;have hs:=ij ht;have hle:=mM (l:=l) (i+1);rw[aE] at hi;have hi':i < (ax l).length:=by rw[aE];exact hi
   have e:iY (fun s=>s=(mh l (Int.ofNat (i+1)) (Int.ofNat (1+aS (l.take (i+1))))).aw Tryz.f136.ntmps) (fun e s=>e=.exit 0/\s=(qx l (Int.ofNat (1+aS l))).aw Tryz.f136.ntmps) .normal
     ((mh l (aG .i64 (Int.ofNat i+1)) (aG .i64 (Int.ofNat (1+aS (l.take i))+Int.ofNat t.size))).aw Tryz.f136.ntmps):=by
    rw[bb (by omega),wrap_add (by omega),hs];show _=_;rw[Nat.add_assoc]
   have hc:=ih t hm;clear hs hle ih hb hlen;obtain⟨k2,nm2,ix2,a2⟩:=t
   rcases a2 with _|⟨b,c⟩ <;>
   ·refine aB [10] [11] (H:=Zd) (live:=yt) (by kernel_rfl) ?_;refine bz (b:=true) (bd hi') (by kernel_rfl) ?_;refine oo (jU ht) ?_;refine on hc ?_;exact bZ (ex:=.normal) (mh l (aG .i64 (Int.ofNat i+1)) (aG .i64 (Int.ofNat (1+aS (l.take i))+Int.ofNat (Ty.size _)))) (by kernel_rfl) (by kernel_rfl) e
  refine aB [10] [11] (H:=Zd) (live:=yt) (by kernel_rfl) ?_;refine bz (b:=false) (br (i:=(ax l).length) (L:=(ax l).length) (by omega)) (by kernel_rfl) ?_;refine bZ (ex:=.exit 0) (qx l (Int.ofNat (1+aS (l.take (ax l).length)))) (by kernel_rfl) (by kernel_rfl) ⟨rfl,?_⟩;rw[aE,List.take_length]
 rintro e s ⟨rfl,rfl⟩;refine⟨_,rfl,bB (a:=⟨iv (Int.ofNat (1+aS l)),[],0⟩) (by kernel_rfl) ?_⟩;rw[Nat.add_comm]
theorem PE {k:Int} {nm:List UInt8} {ix:Int}:ag 136 [.dat (.agg [i64 k,sb nm,i64 ix,nl])] (iv (Int.ofNat 1)):=aM _ _ _ _ _ (by kernel_rfl)
mutual
theorem T9:∀t:Ty,t.size < 1000000000->ag 136 [.dat t.enc] (iv (Int.ofNat t.size))
 | .mk k nm ix [],_=>PE
 | .mk k nm ix (t::r),h=>by
  have h2:aS (t::r) < 1000000000:=by simp only[Ty.size] at h;omega
  have:=Ve (k:=k) (nm:=nm) (ix:=ix) (l:=t::r) (Mb (t::r) h2) h2
  exact this
theorem Mb:∀l:List Ty,aS l < 1000000000->∀t∈l,ag 136 [.dat t.enc] (iv (Int.ofNat t.size))
 | [],_,t,ht=>by simp at ht
 | u::r,h,t,ht=>by
  simp only[aS] at h
  rcases List.mem_cons.1 ht with h1|ht
  ·rw[h1];exact T9 u (by omega)
  exact Mb r (by omega) t ht
end
mutual
def Ty.depth:Ty->Nat
 | .mk _ _ _ args=>cK args+1
def cK:List Ty->Nat
 | []=>0
 | t::r=>max t.depth (cK r)
end
theorem xt {l:List Ty} {i:Nat} {t:Ty} (h:l[i]?=some t):cK (l.take (i+1))=max (cK (l.take i)) t.depth:=by
 induction l generalizing i with
 | nil=>simp at h
 | cons x r ih=>
  cases i with
  | zero=>simp at h;subst h;simp[cK]
  | succ i=>
   simp at h;simp only[List.take_succ_cons,cK];rw[ih h,Nat.max_assoc]
mutual
theorem ln:∀t:Ty,t.depth<=t.size
 | .mk _ _ _ args=>by simp only[Ty.depth,Ty.size];have:=jZ args;omega
theorem jZ:∀l:List Ty,cK l<=aS l
 | []=>by simp[cK,aS]
 | t::r=>by simp only[cK,aS];have:=ln t;have:=jZ r;omega
end
theorem aeB {n m:Nat}:au.aI.mx (Int.ofNat n) (Int.ofNat m)=Int.ofNat (max n m):=by
 show (match bn (Int.ofNat n) (Int.ofNat m) with|true=>Int.ofNat m|false=>Int.ofNat n)=_;rw[iM]
 by_cases h:n < m
 ·rw[decide_eq_true h];simp;omega
 rw[decide_eq_false h];simp;omega
theorem eh (l:List Ty):l.length<=aS l:=by
 induction l with
 | nil=>simp[aS]
 | cons t r ih=>cases t;simp only[List.length_cons,aS,Ty.size];omega
noncomputable def S8:Hints:=⟨an,DA,ap,rowsOf ap 137⟩
theorem TL {k:Int} {nm:List UInt8} {ix:Int} {l:List Ty} (ih:∀t∈l,ag 137 [.dat t.enc] (iv (Int.ofNat t.depth))) (hb:aS l < 1000000000) :
  ag 137 [.dat (.agg [i64 k,sb nm,i64 ix,.slice (ax l)])] (iv (Int.ofNat (cK l+1))):=by
 have hlen:=eh l;have hdl:=jZ l;rw[←bb (by omega)];refine co [] [] (x:=.of Tryz.f137 DA yr) ?_;refine iL (n:=Tryz.f137.ntmps) (c:=roundOf Tryz.f137 0) (f:=mh l (Int.ofNat 0) (Int.ofNat (cK (l.take 0)))) (L:=fun e s=>e=.exit 0/\s=(qx l (Int.ofNat (cK l))).aw Tryz.f137.ntmps) (by kernel_rfl) (by kernel_rfl) ?_ ?_
 ·refine ba (St:=fun i=>(mh l (Int.ofNat i) (Int.ofNat (cK (l.take i)))).aw Tryz.f137.ntmps) (ax l).length ?_ ?_ (i:=0) (Nat.zero_le _)
  ·intro i hi;obtain⟨t,ht,hm⟩:=get_mem hi;have e:iY (fun s=>s=(mh l (Int.ofNat (i+1)) (Int.ofNat (cK (l.take (i+1))))).aw Tryz.f137.ntmps) (fun e s=>e=.exit 0/\s=(qx l (Int.ofNat (cK l))).aw Tryz.f137.ntmps) .normal
     ((mh l (aG .i64 (Int.ofNat i+1)) (au.aI.mx (Int.ofNat (cK (l.take i))) (Int.ofNat t.depth))).aw Tryz.f137.ntmps):=by
    rw[aE] at hi;rw[bb (by omega),aeB,xt ht];rfl
   have hc:=ih t hm;clear ih hb hlen hdl;obtain⟨k2,nm2,ix2,a2⟩:=t
   rcases a2 with _|⟨b,c⟩ <;>
   ·refine aB [10] [11] (H:=S8) (live:=yr) (by kernel_rfl) ?_;refine bz (b:=true) (bd hi) (by kernel_rfl) ?_;refine oo (jU ht) ?_;refine on hc ?_;exact bZ (ex:=.normal) (mh l (aG .i64 (Int.ofNat i+1)) (au.aI.mx (Int.ofNat (cK (l.take i))) (Int.ofNat (Ty.depth _)))) (by kernel_rfl) (by kernel_rfl) e
  refine aB [10] [11] (H:=S8) (live:=yr) (by kernel_rfl) ?_;refine bz (b:=false) (br (i:=(ax l).length) (L:=(ax l).length) (by omega)) (by kernel_rfl) ?_;refine bZ (ex:=.exit 0) (qx l (Int.ofNat (cK (l.take (ax l).length)))) (by kernel_rfl) (by kernel_rfl) ⟨rfl,?_⟩;rw[aE,List.take_length]
 rintro e s ⟨rfl,rfl⟩;exact⟨_,rfl,bB (by kernel_rfl) rfl⟩
theorem NZ {k:Int} {nm:List UInt8} {ix:Int}:ag 137 [.dat (.agg [i64 k,sb nm,i64 ix,nl])] (iv (Int.ofNat 1)):=aM _ _ _ _ _ (by kernel_rfl)
mutual
theorem Mf:∀t:Ty,t.size < 1000000000->ag 137 [.dat t.enc] (iv (Int.ofNat t.depth))
 | .mk k nm ix [],_=>NZ
 | .mk k nm ix (t::r),h=>by
  have h2:aS (t::r) < 1000000000:=by simp only[Ty.size] at h;omega
  have:=TL (k:=k) (nm:=nm) (ix:=ix) (l:=t::r) (Hs (t::r) h2) h2
  exact this
theorem Hs:∀l:List Ty,aS l < 1000000000->∀t∈l,ag 137 [.dat t.enc] (iv (Int.ofNat t.depth))
 | [],_,t,ht=>by simp at ht
 | u::r,h,t,ht=>by
  simp only[aS] at h
  rcases List.mem_cons.1 ht with h1|ht
  ·rw[h1];exact Mf u (by omega)
  exact Hs r (by omega) t ht
end
def dr (k:Int) (i:Nat):Nat:=if aQ k 6=true/\i=1 then 1 else 0
mutual
def Ty.closed:Ty->Nat->Bool
 | .mk k _ ix args,u=>!(aQ k 5&&!bn ix (Int.ofNat u))&&eW k 0 args u
def eW (k:Int):Nat->List Ty->Nat->Bool
 | _,[],_=>true
 | i,t::r,u=>t.closed (u+dr k i)&&eW k (i+1) r u
end
theorem wg (k:Int) (nm:List UInt8) (ix:Int) (a:aq) (ha:a=nl∨∃es,a=.slice es) (i:Nat):ag 126 [.dat (.agg [i64 k,sb nm,i64 ix,a]),iv (Int.ofNat i)] (iv (Int.ofNat (dr k i))):=by
 rcases ha with rfl|⟨es,rfl⟩ <;>
 ·refine co [7,10] [] (x:=.of Tryz.f126 IM LF) ?_;refine F4 (c:=aQ k 6) (by kernel_rfl) (fun h6=>?_) (fun h6=>?_)
  ·refine F4 (c:=aQ (Int.ofNat i) (Int.ofNat 1)) (by kernel_rfl) (fun h1=>?_) (fun h1=>?_)
   ·rw[qa,decide_eq_true_eq] at h1
    have:dr k i=1:=by unfold dr;rw[if_pos ⟨h6,h1⟩]
    rw[this];exact fi
   rw[qa,decide_eq_false_iff_not] at h1
   have:dr k i=0:=by unfold dr;rw[if_neg (fun h=>h1 h.2)]
   rw[this];exact fi
  have:dr k i=0:=by unfold dr;rw[if_neg (fun h=>by rw[h6] at h;simp at h)]
  rw[this];exact fi
noncomputable def D5:Hints:=⟨an,zY,ap,rowsOf ap 139⟩
def aeF (k:Int) (nm:List UInt8) (ix:Int) (l:List Ty):Heap:=[(.loc 2,.cells [iv k,.dat (sb nm),iv ix,.dat (.slice (ax l))])]
def Vb (k:Int) (nm:List UInt8) (ix:Int) (l:List Ty) (u:Nat) (i:Int):ab:=⟨[(19,iv i),(18,iv (Int.ofNat (ax l).length)),(17,.dat (.slice (ax l))),(2,.ptr (.loc 2) 0),(1,iv (Int.ofNat u))],aeF k nm ix l,[],0⟩
def Pv (k:Int) (nm:List UInt8) (ix:Int) (l:List Ty) (u:Nat):ab:=⟨[(20,bv false),(19,iv (Int.ofNat (ax l).length)),(18,iv (Int.ofNat (ax l).length)),(17,.dat (.slice (ax l))),(2,.ptr (.loc 2) 0),(1,iv (Int.ofNat u))],aeF k nm ix l,[],0⟩
def Pw:ab:=⟨[(4,bv false)],[],[],0⟩
theorem iU {l:List Ty} {i:Nat} {t:Ty} (h:l[i]?=some t):l.drop i=t::l.drop (i+1):=by
 obtain⟨hi,rfl⟩:=List.getElem?_eq_some_iff.1 h;exact List.drop_eq_getElem_cons hi
theorem Hk {k:Int} {nm:List UInt8} {ix:Int} {l:List Ty} {u:Nat} (ih:∀t∈l,∀v,v<=u+1->ag 139 [.dat t.enc,iv (Int.ofNat v)] (bv (t.closed v))) (hb:aS l < 1000000000) (hu:u < 2000000000) :
  KD (.loop (roundOf Tryz.f139 0)) (fun e s=>(e=.exit 0/\eW k 0 l u=true/\s=(Pv k nm ix l u).aw Tryz.f139.ntmps)∨(e=.ret/\eW k 0 l u=false/\s=Pw.aw Tryz.f139.ntmps)) ((Vb k nm ix l u (Int.ofNat 0)).aw Tryz.f139.ntmps):=by
 have hlen:=eh l;refine cE (St:=fun i=>(Vb k nm ix l u (Int.ofNat i)).aw Tryz.f139.ntmps) (fun i=>eW k 0 l u=eW k i (l.drop i) u) (ax l).length ?_ ?_ (i:=0) (Nat.zero_le _) rfl
 ·intro i hi hI;obtain⟨t,ht,hm⟩:=get_mem hi;have hcl:eW k i (l.drop i) u=(t.closed (u+dr k i)&&eW k (i+1) (l.drop (i+1)) u):=by rw[iU ht];rfl
  have hbn:dr k i<=1:=by unfold dr;split <;> omega
  have hc:ag 139 [.dat t.enc,iv (aG .i64 (Int.ofNat u+Int.ofNat (dr k i)))] (bv (t.closed (u+dr k i))):=by
   rw[wrap_add (by omega)];exact ih t hm _ (by omega)
  have hw:aG .i64 (Int.ofNat i+1)=Int.ofNat (i+1):=bb (by rw[aE] at hi;omega);have hbi:=wg k nm ix (.slice (ax l)) (.inr ⟨_,rfl⟩) i;generalize ht2:t.closed (u+dr k i)=tc at hc hcl;clear ih hb hlen hu hbn ht2;obtain⟨k2,nm2,ix2,a2⟩:=t
  rcases a2 with _|⟨b,c⟩ <;> cases tc <;>
  ·refine aB [20] [22] (H:=D5) (live:=qJ) (by kernel_rfl) ?_;refine bz (b:=true) (bd hi) (by kernel_rfl) ?_;refine oo (jU ht) ?_;refine on hbi ?_;refine on hc ?_
   first
    |exact bZ (ex:=.normal) (Vb k nm ix l u (aG .i64 (Int.ofNat i+1))) (by kernel_rfl) (by kernel_rfl) ⟨by rw[hw],by rw[hI,hcl];rfl⟩
    |exact bZ (ex:=.ret) Pw (by kernel_rfl) (by kernel_rfl) (.inr ⟨rfl,by rw[hI,hcl];rfl,rfl⟩)
 intro hI;have h1:eW k 0 l u=true:=by
  rw[hI,aE,List.drop_length];rfl
 refine aB [20] [22] (H:=D5) (live:=qJ) (by kernel_rfl) ?_;refine bz (b:=false) (br (i:=(ax l).length) (L:=(ax l).length) (by omega)) (by kernel_rfl) ?_;exact bZ (ex:=.exit 0) (Pv k nm ix l u) (by kernel_rfl) (by kernel_rfl) (.inl ⟨rfl,h1,rfl⟩)
theorem BO (k:Int) (nm:List UInt8) (ix:Int) (l:List Ty) (u:Nat):(Ty.mk k nm ix l).closed u=(!(aQ k 5&&!bn ix (Int.ofNat u))&&eW k 0 l u):=by rw[Ty.closed]
theorem Oc {k:Int} {nm:List UInt8} {ix:Int} {l:List Ty} {u:Nat} (ih:∀t∈l,∀v,v<=u+1->ag 139 [.dat t.enc,iv (Int.ofNat v)] (bv (t.closed v))) (hb:aS l < 1000000000) (hu:u < 2000000000) :
  ag 139 [.dat (.agg [i64 k,sb nm,i64 ix,.slice (ax l)]),iv (Int.ofNat u)] (bv ((Ty.mk k nm ix l).closed u)):=by
 have hl:=Hk (k:=k) (nm:=nm) (ix:=ix) ih hb hu;rw[BO];clear ih hb hu;have key:∀c5:Bool,c5=aQ k 5->∀cu:Bool,cu=!bn ix (Int.ofNat u)->ag 139 [.dat (.agg [i64 k,sb nm,i64 ix,.slice (ax l)]),iv (Int.ofNat u)] (bv (!(c5&&cu)&&eW k 0 l u)):=by
  intro c5 h5 cu hcu;refine co [9,14] [] (x:=.of Tryz.f139 zY qJ) ?_;refine bz (b:=c5) h5.symm (by kernel_rfl) ?_;have go:∀{q:Qy ew} (hs:q.Gj.aw Tryz.f139.ntmps=(Vb k nm ix l u (Int.ofNat 0)).aw Tryz.f139.ntmps) (e:q.Ct=some (Tryz.f139.ntmps,roundOf Tryz.f139 0))
    (e1:(q.ofL (.exit 0,Pv k nm ix l u)).JN=some ⟨bv true,[],0⟩) (e2:(q.ofL (.ret,Pw)).JN=some ⟨bv false,[],0⟩),q.Ok Tryz.prog cJ (fun y=>y=⟨bv (eW k 0 l u),[],0⟩):=by
   intro q hs e e1 e2;refine iL (n:=Tryz.f139.ntmps) e hs hl ?_;rintro ex s (⟨rfl,hc,rfl⟩|⟨rfl,hc,rfl⟩)
   ·rw[hc];exact⟨_,rfl,bB e1 rfl⟩
   rw[hc];exact⟨_,rfl,bB e2 rfl⟩
  cases c5 with
  | false=>exact go (by kernel_rfl) (by kernel_rfl) (by kernel_rfl) (by kernel_rfl)
  | true=>
   refine bz (b:=cu) hcu.symm (by kernel_rfl) ?_
   cases cu
   ·exact go (by kernel_rfl) (by kernel_rfl) (by kernel_rfl) (by kernel_rfl)
   exact fi
 exact key _ rfl _ rfl
def YJ (k:Int) (nm:List UInt8) (ix:Int) (u:Nat):ab:=⟨[(19,iv 0),(18,iv 0),(17,.dat nl),(2,.ptr (.loc 2) 0),(1,iv (Int.ofNat u))],[(.loc 2,.cells [iv k,.dat (sb nm),iv ix,.dat nl])],[],0⟩
def Px (k:Int) (nm:List UInt8) (ix:Int) (u:Nat):ab:=⟨[(20,bv false),(19,iv 0),(18,iv 0),(17,.dat nl),(2,.ptr (.loc 2) 0),(1,iv (Int.ofNat u))],[(.loc 2,.cells [iv k,.dat (sb nm),iv ix,.dat nl])],[],0⟩
theorem Hj (k:Int) (nm:List UInt8) (ix:Int) (u:Nat):iS X (env au.aI) cJ D5 Tryz.f139.ntmps qJ 3000 (.loop (roundOf Tryz.f139 0)) (YJ k nm ix u)=some (.exit 0,Px k nm ix u):=by kernel_rfl
theorem J1 (k:Int) (nm:List UInt8) (ix:Int) (u:Nat):ag 139 [.dat (.agg [i64 k,sb nm,i64 ix,nl]),iv (Int.ofNat u)] (bv ((Ty.mk k nm ix []).closed u)):=by
 rw[BO];have key:∀c5:Bool,c5=aQ k 5->∀cu:Bool,cu=!bn ix (Int.ofNat u)->ag 139 [.dat (.agg [i64 k,sb nm,i64 ix,nl]),iv (Int.ofNat u)] (bv (!(c5&&cu)&&eW k 0 [] u)):=by
  intro c5 h5 cu hcu;refine co [9,14] [] (x:=.of Tryz.f139 zY qJ) ?_;refine bz (b:=c5) h5.symm (by kernel_rfl) ?_;have go:∀{q:Qy ew} (hs:q.Gj.aw Tryz.f139.ntmps=(YJ k nm ix u).aw Tryz.f139.ntmps) (e:q.Ct=some (Tryz.f139.ntmps,roundOf Tryz.f139 0))
    (e1:(q.ofL (.exit 0,Px k nm ix u)).JN=some ⟨bv true,[],0⟩),q.Ok Tryz.prog cJ (fun y=>y=⟨bv true,[],0⟩):=by
   intro q hs e e1;refine iL (n:=Tryz.f139.ntmps) e hs (TY G8 aM 3000 (by kernel_rfl) (Hj k nm ix u)) ?_;rintro ex s ⟨rfl,rfl⟩;exact⟨_,rfl,bB e1 rfl⟩
  cases c5 with
  | false=>exact go (by kernel_rfl) (by kernel_rfl) (by kernel_rfl)
  | true=>
   refine bz (b:=cu) hcu.symm (by kernel_rfl) ?_
   cases cu
   ·exact go (by kernel_rfl) (by kernel_rfl) (by kernel_rfl)
   exact fi
 exact key _ rfl _ rfl
mutual
theorem Ht:∀(t:Ty) (u:Nat),t.size < 1000000000->u+t.depth < 2000000000->ag 139 [.dat t.enc,iv (Int.ofNat u)] (bv (t.closed u))
 | .mk k nm ix [],u,_,_=>J1 k nm ix u
 | .mk k nm ix (t::r),u,h,hu=>by
  have h2:aS (t::r) < 1000000000:=by simp only[Ty.size] at h;omega
  have h3:u+1+cK (t::r) < 2000000000:=by simp only[Ty.depth] at hu;omega
  exact Oc (l:=t::r) (fun x hx v hv=>we (t::r) v h2 (by omega) x hx) h2 (by omega)
theorem we:∀(l:List Ty) (u:Nat),aS l < 1000000000->u+cK l < 2000000000->∀t∈l,ag 139 [.dat t.enc,iv (Int.ofNat u)] (bv (t.closed u))
 | [],_,_,_,t,ht=>by simp at ht
 | x::r,u,h,hu,t,ht=>by
  simp only[aS] at h;simp only[cK] at hu
  rcases List.mem_cons.1 ht with h1|ht
  ·rw[h1];exact Ht x u (by omega) (by omega)
  exact we r u (by omega) (by omega) t ht
end
mutual
def Ty.thin:Ty->Prop
 | .mk _ _ _ l=>l.length < 1000000000/\kT l
def kT:List Ty->Prop
 | []=>True
 | t::r=>t.thin/\kT r
end
mutual
theorem nC:∀t:Ty,t.size < 1000000000->t.thin
 | .mk _ _ _ l,h=>by
  simp only[Ty.size] at h
  have:=eh l
  simp only[Ty.thin];exact⟨by omega,EY l (by omega)⟩
theorem EY:∀l:List Ty,aS l < 1000000000->kT l
 | [],_=>by simp[kT]
 | t::r,h=>by
  simp only[aS] at h;simp only[kT];exact⟨nC t (by omega),EY r (by omega)⟩
end
theorem A4 (ls bs:List Nat) {g:FuncId} {x:fL} (hx:JG.find g=some x) {args:List ac} {heap:Heap} {next:Nat} {T:ew->Prop} (h:(Ql (Oz ls) (Oz bs) (env au.aI) cJ an ap x g args heap next).Ok Tryz.prog cJ T) :
  KC g args heap next (fun v h m=>T ⟨v,h,m⟩):=KT G8 um hx (fun _ _=>h)
def oF (b:Bool) (v:ac):Prop:=∃j:Int,v=iv j/\bn j (Int.ofNat 0)=!b
theorem HD {l:List Ty} {p:Ty->Bool} {i:Nat} {t:Ty} (h:l[i]?=some t):(l.drop i).any p=(p t||(l.drop (i+1)).any p):=by rw[iU h];rfl
noncomputable def yz:Hints:=⟨an,wU,ap,rowsOf ap 99⟩
def iR:ac:=.fn (.func 169) [] []
def jC (l:List Ty) (i:Int):ab:=⟨[(8,iv i),(7,iv (Int.ofNat (ax l).length)),(0,.dat (.slice (ax l))),(1,iR)],[],[],0⟩
def pd (l:List Ty):ab:=⟨[(9,bv false),(8,iv (Int.ofNat (ax l).length)),(7,iv (Int.ofNat (ax l).length)),(0,.dat (.slice (ax l))),(1,iR)],[],[],0⟩
def pe (i:Nat):ab:=⟨[(4,iv (Int.ofNat i))],[],[],0⟩
theorem xW {l:List Ty} {p:Ty->Bool} (hp:∀t∈l,ag 169 [.dat t.enc] (bv (p t))) (hb:l.length < 1000000000) :
  KC 99 [.dat (.slice (ax l)),iR] [] 0 (fun v h m=>oF (l.any p) v/\h=[]/\m=0):=by
 have hl:KD (.loop (roundOf Tryz.f99 0)) (fun e s=>(e=.exit 0/\l.any p=false/\s=(pd l).aw Tryz.f99.ntmps)∨(e=.ret/\l.any p=true/\∃i:Nat,s=(pe i).aw Tryz.f99.ntmps)) ((jC l (Int.ofNat 0)).aw Tryz.f99.ntmps):=by
  refine cE (St:=fun i=>(jC l (Int.ofNat i)).aw Tryz.f99.ntmps) (fun i=>l.any p=(l.drop i).any p) (ax l).length ?_ ?_ (i:=0) (Nat.zero_le _) rfl
  ·intro i hi hI;obtain⟨t,ht,hm⟩:=get_mem hi;have ha:=HD (p:=p) ht;have hw:aG .i64 (Int.ofNat i+1)=Int.ofNat (i+1):=bb (by rw[aE] at hi;omega);have hc:=hp t hm;generalize ht2:p t=tc at hc ha;clear hp hb ht2;obtain⟨k2,nm2,ix2,a2⟩:=t
   rcases a2 with _|⟨b,c⟩ <;> cases tc <;>
   ·refine aB [9] [14] (H:=yz) (live:=jr) (by kernel_rfl) ?_;refine bz (b:=true) (bd hi) (by kernel_rfl) ?_;refine oo (jU ht) ?_;refine on hc ?_
    first
     |exact bZ (ex:=.normal) (jC l (aG .i64 (Int.ofNat i+1))) (by kernel_rfl) (by kernel_rfl) ⟨by rw[hw],by rw[hI,ha];rfl⟩
     |exact bZ (ex:=.ret) (pe i) (by kernel_rfl) (by kernel_rfl) (.inr ⟨rfl,by rw[hI,ha];rfl,i,rfl⟩)
  intro hI;have h1:l.any p=false:=by rw[hI,aE,List.drop_length];rfl
  refine aB [9] [14] (H:=yz) (live:=jr) (by kernel_rfl) ?_;refine bz (b:=false) (br (i:=(ax l).length) (L:=(ax l).length) (by omega)) (by kernel_rfl) ?_;exact bZ (ex:=.exit 0) (pd l) (by kernel_rfl) (by kernel_rfl) (.inl ⟨rfl,h1,rfl⟩)
 clear hp hb;refine A4 [] [] (x:=fL.of Tryz.f99 wU jr) (T:=fun r=>oF (l.any p) r.val/\r.heap=[]/\r.next=0) (by kernel_rfl) ?_;refine iL (n:=Tryz.f99.ntmps) (c:=roundOf Tryz.f99 0) (f:=jC l (Int.ofNat 0)) (by kernel_rfl) (by kernel_rfl) hl ?_;rintro ex s (⟨rfl,hc,rfl⟩|⟨rfl,hc,i,rfl⟩)
 ·rw[hc];exact⟨_,rfl,bB (a:=⟨iv (-1),[],0⟩) (by kernel_rfl) ⟨⟨_,rfl,rfl⟩,rfl,rfl⟩⟩
 rw[hc];exact⟨_,rfl,bB (a:=⟨iv (Int.ofNat i),[],0⟩) (by kernel_rfl) ⟨⟨_,rfl,br (by omega)⟩,rfl,rfl⟩⟩
theorem BI {l:List Ty} {p:Ty->Bool} (hp:∀t∈l,ag 169 [.dat t.enc] (bv (p t))) (hb:l.length < 1000000000) :
  ag 69 [.dat (sl (ax l)),iR] (bv (l.any p)):=by
 cases l with
 | nil=>exact aM _ _ _ _ _ (by kernel_rfl)
 | cons t r=>
  have h:=xW hp hb;generalize (t::r).any p=c at h;show ag 69 [.dat (.slice (ax (t::r))),iR] (bv c);refine co [8] [] (x:=.of Tryz.f69 Cn An) ?_;refine IV (Q:=oF c) h (by kernel_rfl) (by kernel_rfl) (by rintro v ⟨j,rfl,_⟩;rfl) ?_;rintro v ⟨j,rfl,hj⟩ _;refine bz (b:=c) (c:=!bn j (Int.ofNat 0)) (by rw[hj];simp) (by kernel_rfl) ?_;exact bB (a:=⟨bv c,[],0⟩) (by cases c <;> kernel_rfl) rfl
def hO:ac:=.fn (.func 168) [] []
def iD (l:List Ty) (i:Int):ab:=⟨[(8,iv i),(7,iv (Int.ofNat (ax l).length)),(0,.dat (.slice (ax l))),(1,hO)],[],[],0⟩
def oI (l:List Ty):ab:=⟨[(9,bv false),(8,iv (Int.ofNat (ax l).length)),(7,iv (Int.ofNat (ax l).length)),(0,.dat (.slice (ax l))),(1,hO)],[],[],0⟩
def oJ (i:Nat):ab:=⟨[(4,iv (Int.ofNat i))],[],[],0⟩
theorem vN {l:List Ty} {p:Ty->Bool} (hp:∀t∈l,ag 168 [.dat t.enc] (bv (p t))) (hb:l.length < 1000000000) :
  KC 99 [.dat (.slice (ax l)),hO] [] 0 (fun v h m=>oF (l.any p) v/\h=[]/\m=0):=by
 have hl:KD (.loop (roundOf Tryz.f99 0)) (fun e s=>(e=.exit 0/\l.any p=false/\s=(oI l).aw Tryz.f99.ntmps)∨(e=.ret/\l.any p=true/\∃i:Nat,s=(oJ i).aw Tryz.f99.ntmps)) ((iD l (Int.ofNat 0)).aw Tryz.f99.ntmps):=by
  refine cE (St:=fun i=>(iD l (Int.ofNat i)).aw Tryz.f99.ntmps) (fun i=>l.any p=(l.drop i).any p) (ax l).length ?_ ?_ (i:=0) (Nat.zero_le _) rfl
  ·intro i hi hI;obtain⟨t,ht,hm⟩:=get_mem hi;have ha:=HD (p:=p) ht;have hw:aG .i64 (Int.ofNat i+1)=Int.ofNat (i+1):=bb (by rw[aE] at hi;omega);have hc:=hp t hm;generalize ht2:p t=tc at hc ha;clear hp hb ht2;obtain⟨k2,nm2,ix2,a2⟩:=t
   rcases a2 with _|⟨b,c⟩ <;> cases tc <;>
   ·refine aB [9] [14] (H:=yz) (live:=jr) (by kernel_rfl) ?_;refine bz (b:=true) (bd hi) (by kernel_rfl) ?_;refine oo (jU ht) ?_;refine on hc ?_
    first
     |exact bZ (ex:=.normal) (iD l (aG .i64 (Int.ofNat i+1))) (by kernel_rfl) (by kernel_rfl) ⟨by rw[hw],by rw[hI,ha];rfl⟩
     |exact bZ (ex:=.ret) (oJ i) (by kernel_rfl) (by kernel_rfl) (.inr ⟨rfl,by rw[hI,ha];rfl,i,rfl⟩)
  intro hI;have h1:l.any p=false:=by rw[hI,aE,List.drop_length];rfl
  refine aB [9] [14] (H:=yz) (live:=jr) (by kernel_rfl) ?_;refine bz (b:=false) (br (i:=(ax l).length) (L:=(ax l).length) (by omega)) (by kernel_rfl) ?_;exact bZ (ex:=.exit 0) (oI l) (by kernel_rfl) (by kernel_rfl) (.inl ⟨rfl,h1,rfl⟩)
 clear hp hb;refine A4 [] [] (x:=fL.of Tryz.f99 wU jr) (T:=fun r=>oF (l.any p) r.val/\r.heap=[]/\r.next=0) (by kernel_rfl) ?_;refine iL (n:=Tryz.f99.ntmps) (c:=roundOf Tryz.f99 0) (f:=iD l (Int.ofNat 0)) (by kernel_rfl) (by kernel_rfl) hl ?_;rintro ex s (⟨rfl,hc,rfl⟩|⟨rfl,hc,i,rfl⟩)
 ·rw[hc];exact⟨_,rfl,bB (a:=⟨iv (-1),[],0⟩) (by kernel_rfl) ⟨⟨_,rfl,rfl⟩,rfl,rfl⟩⟩
 rw[hc];exact⟨_,rfl,bB (a:=⟨iv (Int.ofNat i),[],0⟩) (by kernel_rfl) ⟨⟨_,rfl,br (by omega)⟩,rfl,rfl⟩⟩
theorem Bj {l:List Ty} {p:Ty->Bool} (hp:∀t∈l,ag 168 [.dat t.enc] (bv (p t))) (hb:l.length < 1000000000) :
  ag 69 [.dat (sl (ax l)),hO] (bv (l.any p)):=by
 cases l with
 | nil=>exact aM _ _ _ _ _ (by kernel_rfl)
 | cons t r=>
  have h:=vN hp hb;generalize (t::r).any p=c at h;show ag 69 [.dat (.slice (ax (t::r))),hO] (bv c);refine co [8] [] (x:=.of Tryz.f69 Cn An) ?_;refine IV (Q:=oF c) h (by kernel_rfl) (by kernel_rfl) (by rintro v ⟨j,rfl,_⟩;rfl) ?_;rintro v ⟨j,rfl,hj⟩ _;refine bz (b:=c) (c:=!bn j (Int.ofNat 0)) (by rw[hj];simp) (by kernel_rfl) ?_;exact bB (a:=⟨bv c,[],0⟩) (by cases c <;> kernel_rfl) rfl
mutual
def Ty.plain:Ty->Bool
 | .mk k nm ix args=>aQ k 5||(Ty.mk k nm ix args).closed 0||(aQ k 2&&!hZ args)
def hZ:List Ty->Bool
 | []=>false
 | t::r=>!t.plain||hZ r
end
theorem C2:∀l:List Ty,hZ l=l.any (fun t=>!t.plain)
 | []=>by simp[hZ]
 | t::r=>by simp[hZ,C2 r]
theorem xy {k:Int} {nm:List UInt8} {ix:Int} {l:List Ty} (hp:∀t∈l,ag 117 [.dat t.enc] (bv t.plain)) (hb:l.length < 1000000000):ag 140 [.dat (Ty.mk k nm ix l).enc] (bv (!hZ l)):=by
 have h1:∀t∈l,ag 169 [.dat t.enc] (bv (!t.plain)):=by
  intro t ht;have hc:=hp t ht;generalize t.plain=c at hc;obtain⟨k2,nm2,ix2,a2⟩:=t
  rcases a2 with _|⟨b,d⟩ <;> cases c <;>
  ·refine co [] [] (x:=.of Tryz.f169 IC Lt) ?_;refine on hc ?_;exact fi
 have h2:=BI h1 hb;rw[C2];generalize l.any (fun t=>!t.plain)=c at h2
 rcases l with _|⟨b,d⟩ <;> cases c <;>
 ·refine co [] [] (x:=.of Tryz.f140 IJ LB) ?_;refine on h2 ?_;exact fi
theorem Iw {k:Int} {nm:List UInt8} {ix:Int} {l:List Ty} (hp:∀t∈l,ag 117 [.dat t.enc] (bv t.plain)) (hs:(Ty.mk k nm ix l).size < 1000000000):ag 117 [.dat (Ty.mk k nm ix l).enc] (bv (Ty.mk k nm ix l).plain):=by
 have hb:l.length < 1000000000:=by have:=eh l;simp only[Ty.size] at hs;omega
 have h1:=Ht (Ty.mk k nm ix l) 0 hs (by have:=ln (Ty.mk k nm ix l);omega);have h2:=xy (k:=k) (nm:=nm) (ix:=ix) hp hb;have e:(Ty.mk k nm ix l).plain=(aQ k 5||(Ty.mk k nm ix l).closed 0||(aQ k 2&&!hZ l)):=by rw[Ty.plain]
 rw[e];clear e hp hs hb;generalize (Ty.mk k nm ix l).closed 0=cc at h1;generalize (!hZ l)=ca at h2;generalize h5:aQ k 5=c5;generalize h6:aQ k 2=c2
 rcases l with _|⟨b,d⟩ <;>
 ·refine co [5,13] [] (x:=.of Tryz.f117 IS LJ) ?_;refine ob h5 ?_
  cases c5
  ·refine on h1 ?_
   cases cc
   ·refine ob h6 ?_
    cases c2 with
    | false=>exact fi
    | true=>
     refine on h2 ?_
     cases ca <;> exact fi
   exact fi
  exact fi
mutual
theorem Md:∀t:Ty,t.size < 1000000000->ag 117 [.dat t.enc] (bv t.plain)
 | .mk k nm ix l,h=>Iw (A6 l (by simp only[Ty.size] at h;omega)) h
theorem A6:∀l:List Ty,aS l < 1000000000->∀t∈l,ag 117 [.dat t.enc] (bv t.plain)
 | [],_,t,ht=>by simp at ht
 | x::r,h,t,ht=>by
  simp only[aS] at h
  rcases List.mem_cons.1 ht with h1|ht
  ·rw[h1];exact Md x (by omega)
  exact A6 r (by omega) t ht
end
def jF (n:Nat):Bool:=(Nat.ble 97 n&&Nat.ble n 122)||(Nat.ble 65 n&&Nat.ble n 90)
def BM (n:Nat):Bool:=jF n||(Nat.ble 48 n&&Nat.ble n 57)||Nat.beq n 95||Nat.beq n 45
def dQ (n:Nat):Bool:=!Nat.beq n 45&&BM n
def isIdent:List UInt8->Bool
 | []=>false
 | c::r=>Nat.ble (r.length+1) 24&&jF c.toNat&&(c::r).all (fun c=>dQ c.toNat)
def Ox (n:Nat):ac:=.dat (.flat (.int .u8 (Int.ofNat n)))
def Kj (p:Nat->Bool):Nat->Bool
 | 0=>true
 | k+1=>p k&&Kj p k
theorem uR {p:Nat->Bool}:∀{k:Nat},Kj p k=true->∀i,i < k->p i=true
 | 0,_,i,hi=>by omega
 | k+1,h,i,hi=>by
  simp only[Kj,Bool.and_eq_true] at h
  rcases Nat.lt_or_ge i k with h1|h1
  ·exact uR h.2 i h1
  have:i=k:=by omega
  subst this;exact h.1
def CX (c:Bool):Option ew->Bool
 | some ⟨.dat (.flat (.bool b)),[],0⟩=>match b with|true=>c|false=>!c
 | _=>false
theorem uI {c:Bool} {r:Option ew} (h:CX c r=true):r=some ⟨bv c,[],0⟩:=by
 unfold CX at h
 split at h
 ·rename_i b
  cases b <;> simp at h <;> subst h <;> rfl
 simp at h
theorem Jg:Kj (fun n=>CX (jF n) (X 111 [Ox n] [] 0)) 256=true:=by kernel_rfl
theorem J4 (c:UInt8):ag 111 [Ox c.toNat] (bv (jF c.toNat)):=aM _ _ _ _ _ (uI (uR Jg _ c.toNat_lt))
theorem NA:Kj (fun n=>CX (dQ n) (X 113 [Ox n] [] 0)) 256=true:=by kernel_rfl
theorem Ud (c:UInt8):ag 113 [Ox c.toNat] (bv (dQ c.toNat)):=aM _ _ _ _ _ (uI (uR NA _ c.toNat_lt))
theorem af5:(env au.aI).desc 9=some .string:=by kernel_rfl
theorem uP {b:List UInt8} {i:Nat} {c:UInt8} (h:b[i]?=some c):wy (env au.aI) 9 [.dat (sb b),.dat (.flat (.int .i64 (Int.ofNat i)))]=some ⟨Ox c.toNat,.keep⟩:=by
 have hg:au.aI.byte ⟨⟨b⟩⟩ (Int.ofNat i)=some c:=Xo h;have hp:(env au.aI).pr=au.aI:=rfl;simp only[wy,sb,af5,hp,hg];rfl
def fnI:ac:=.fn (.func 113) [] []
noncomputable def S7:Hints:=⟨an,DG,ap,rowsOf ap 112⟩
def Va (b:List UInt8) (i:Int):ab:=⟨[(5,iv i),(0,.dat (sb b)),(1,fnI)],[],[],0⟩
def YD (b:List UInt8):ab:=⟨[(9,bv false),(5,iv (Int.ofNat b.length)),(0,.dat (sb b)),(1,fnI)],[],[],0⟩
def YE:ab:=⟨[(4,bv false)],[],[],0⟩
theorem X4 {b:List UInt8} (hb:b.length < 1000000000):ag 112 [.dat (sb b),fnI] (bv (b.all (fun c=>dQ c.toNat))):=by
 have hl:KD (.loop (roundOf Tryz.f112 0)) (fun e s=>(e=.exit 0/\b.all (fun c=>dQ c.toNat)=true/\s=(YD b).aw Tryz.f112.ntmps)∨(e=.ret/\b.all (fun c=>dQ c.toNat)=false/\s=YE.aw Tryz.f112.ntmps)) ((Va b (Int.ofNat 0)).aw Tryz.f112.ntmps):=by
  refine cE (St:=fun i=>(Va b (Int.ofNat i)).aw Tryz.f112.ntmps) (fun i=>b.all (fun c=>dQ c.toNat)=(b.drop i).all (fun c=>dQ c.toNat)) b.length ?_ ?_ (i:=0) (Nat.zero_le _) rfl
  ·intro i hi hI;have hg:b[i]?=some b[i]:=List.getElem?_eq_getElem hi;have hd:(b.drop i).all (fun c=>dQ c.toNat)=(dQ b[i].toNat&&(b.drop (i+1)).all (fun c=>dQ c.toNat)):=by rw[List.drop_eq_getElem_cons hi];rfl
   have hw:aG .i64 (Int.ofNat i+1)=Int.ofNat (i+1):=bb (by omega);have hc:=Ud b[i];generalize b[i]=c at hg hd hc;generalize dQ c.toNat=tc at hd hc;refine aB [9] [15] (H:=S7) (live:=yu) (by kernel_rfl) ?_;refine bz (b:=true) (bd hi) (by kernel_rfl) ?_;refine oo (uP hg) ?_;refine on hc ?_
   cases tc
   ·exact bZ (ex:=.ret) YE (by kernel_rfl) (by kernel_rfl) (.inr ⟨rfl,by rw[hI,hd];rfl,rfl⟩)
   exact bZ (ex:=.normal) (Va b (aG .i64 (Int.ofNat i+1))) (by kernel_rfl) (by kernel_rfl) ⟨by rw[hw],by rw[hI,hd];rfl⟩
  intro hI;have h1:b.all (fun c=>dQ c.toNat)=true:=by rw[hI,List.drop_length];rfl
  refine aB [9] [15] (H:=S7) (live:=yu) (by kernel_rfl) ?_;refine bz (b:=false) (br (i:=b.length) (L:=b.length) (by omega)) (by kernel_rfl) ?_;exact bZ (ex:=.exit 0) (YD b) (by kernel_rfl) (by kernel_rfl) (.inl ⟨rfl,h1,rfl⟩)
 generalize b.all (fun c=>dQ c.toNat)=c at hl;refine co [] [] (x:=.of Tryz.f112 DG yu) ?_;refine iL (n:=Tryz.f112.ntmps) (c:=roundOf Tryz.f112 0) (f:=Va b (Int.ofNat 0)) (by kernel_rfl) (by kernel_rfl) hl ?_;rintro ex s (⟨rfl,rfl,rfl⟩|⟨rfl,rfl,rfl⟩) <;>
 ·exact⟨_,rfl,bB (by kernel_rfl) rfl⟩
theorem wc (b:List UInt8):ag 87 [.dat (sb b)] (bv (isIdent b)):=by
 cases b with
 | nil=>exact aM _ _ _ _ _ (by kernel_rfl)
 | cons c r=>
  have hev:Nat.ble (r.length+1) 24=true->ag 112 [.dat (sb (c::r)),fnI] (bv ((c::r).all (fun c=>dQ c.toNat))):=fun h=>X4 (by have:=fH h;simp;omega)
  have hle:=J4 c;have e:isIdent (c::r)=(Nat.ble (r.length+1) 24&&jF c.toNat&&(c::r).all (fun c=>dQ c.toNat)):=rfl;rw[e];generalize (c::r).all (fun c=>dQ c.toNat)=ca at hev;generalize jF c.toNat=cl at hle;have hlt:bn (Int.ofNat 24) (Int.ofNat (r.length+1))=!Nat.ble (r.length+1) 24:=by
   rw[iM]
   by_cases h:24 < r.length+1
   ·rw[decide_eq_true h,show Nat.ble (r.length+1) 24=false from by rw[Bool.eq_false_iff];intro e;have:=fH e;omega];rfl
   rw[decide_eq_false h,fS (by omega)];rfl
  generalize Nat.ble (r.length+1) 24=cb at hlt hev;refine co [8] [12] (x:=.of Tryz.f87 QG Su) ?_;refine bz (b:=cb) (c:=!bn (Int.ofNat 24) (Int.ofNat (r.length+1))) (by rw[hlt];simp) (by kernel_rfl) ?_
  cases cb with
  | false=>exact fi
  | true=>
   refine oo (uP (b:=c::r) (i:=0) rfl) ?_;refine on hle ?_
   cases cl with
   | false=>exact fi
   | true=>
    refine on (hev rfl) ?_
    cases ca <;> exact fi
def gS (b:List UInt8):Bool:=oW.any (fun r=>dv b r)
noncomputable def qN:Hints:=⟨an,DF,ap,rowsOf ap 115⟩
def E7 (b:List UInt8) (i:Int):ab:=⟨[(8,iv i),(7,iv 5),(0,.dat (.slice (encS oW))),(1,.dat (sb b))],[],[],0⟩
def YA (b:List UInt8):ab:=⟨[(9,bv false),(8,iv 5),(7,iv 5),(0,.dat (.slice (encS oW))),(1,.dat (sb b))],[],[],0⟩
def B0 (i:Nat):ab:=⟨[(4,iv (Int.ofNat i))],[],[],0⟩
theorem Uc (b:List UInt8):KC 115 [.dat (.slice (encS oW)),.dat (sb b)] [] 0 (fun v h m=>oF (gS b) v/\h=[]/\m=0):=by
 have hl:KD (.loop (roundOf Tryz.f115 0)) (fun e s=>(e=.exit 0/\gS b=false/\s=(YA b).aw Tryz.f115.ntmps)∨(e=.ret/\gS b=true/\∃i:Nat,s=(B0 i).aw Tryz.f115.ntmps)) ((E7 b (Int.ofNat 0)).aw Tryz.f115.ntmps):=by
  refine cE (St:=fun i=>(E7 b (Int.ofNat i)).aw Tryz.f115.ntmps) (fun i=>gS b=(oW.drop i).any (fun r=>dv b r)) 5 ?_ ?_ (i:=0) (Nat.zero_le _) rfl
  ·intro i hi hI;have hcases:i=0∨i=1∨i=2∨i=3∨i=4:=by omega
   have hd:(oW.drop i).any (fun r=>dv b r)=(dv b (oW.getD i [])||(oW.drop (i+1)).any (fun r=>dv b r)):=by rcases hcases with rfl|rfl|rfl|rfl|rfl <;> rfl
   rw[hd] at hI;clear hd;generalize hcw:dv b (oW.getD i [])=cw at hI
   rcases hcases with rfl|rfl|rfl|rfl|rfl
   ·refine aB [16] [] (H:=qN) (live:=lS) (by kernel_rfl) ?_;refine ob hcw ?_
    cases cw
    ·exact bZ (ex:=.normal) (E7 b (Int.ofNat (0+1))) (by kernel_rfl) (by kernel_rfl) ⟨rfl,hI⟩
    exact bZ (ex:=.ret) (B0 0) (by kernel_rfl) (by kernel_rfl) (.inr ⟨rfl,hI,0,rfl⟩)
   ·refine aB [16] [] (H:=qN) (live:=lS) (by kernel_rfl) ?_;refine ob hcw ?_
    cases cw
    ·exact bZ (ex:=.normal) (E7 b (Int.ofNat (1+1))) (by kernel_rfl) (by kernel_rfl) ⟨rfl,hI⟩
    exact bZ (ex:=.ret) (B0 1) (by kernel_rfl) (by kernel_rfl) (.inr ⟨rfl,hI,1,rfl⟩)
   ·refine aB [16] [] (H:=qN) (live:=lS) (by kernel_rfl) ?_;refine ob hcw ?_
    cases cw
    ·exact bZ (ex:=.normal) (E7 b (Int.ofNat (2+1))) (by kernel_rfl) (by kernel_rfl) ⟨rfl,hI⟩
    exact bZ (ex:=.ret) (B0 2) (by kernel_rfl) (by kernel_rfl) (.inr ⟨rfl,hI,2,rfl⟩)
   ·refine aB [16] [] (H:=qN) (live:=lS) (by kernel_rfl) ?_;refine ob hcw ?_
    cases cw
    ·exact bZ (ex:=.normal) (E7 b (Int.ofNat (3+1))) (by kernel_rfl) (by kernel_rfl) ⟨rfl,hI⟩
    exact bZ (ex:=.ret) (B0 3) (by kernel_rfl) (by kernel_rfl) (.inr ⟨rfl,hI,3,rfl⟩)
   refine aB [16] [] (H:=qN) (live:=lS) (by kernel_rfl) ?_;refine ob hcw ?_
   cases cw
   ·exact bZ (ex:=.normal) (E7 b (Int.ofNat (4+1))) (by kernel_rfl) (by kernel_rfl) ⟨rfl,hI⟩
   exact bZ (ex:=.ret) (B0 4) (by kernel_rfl) (by kernel_rfl) (.inr ⟨rfl,hI,4,rfl⟩)
  intro hI;have h1:gS b=false:=by rw[hI];rfl
  refine aB [16] [] (H:=qN) (live:=lS) (by kernel_rfl) ?_;exact bZ (ex:=.exit 0) (YA b) (by kernel_rfl) (by kernel_rfl) (.inl ⟨rfl,h1,rfl⟩)
 generalize gS b=c at hl;refine A4 [] [] (x:=fL.of Tryz.f115 DF lS) (T:=fun r=>oF c r.val/\r.heap=[]/\r.next=0) (by kernel_rfl) ?_;refine iL (n:=Tryz.f115.ntmps) (c:=roundOf Tryz.f115 0) (f:=E7 b (Int.ofNat 0)) (by kernel_rfl) (by kernel_rfl) hl ?_;rintro ex s (⟨rfl,rfl,rfl⟩|⟨rfl,rfl,i,rfl⟩)
 ·exact⟨_,rfl,bB (a:=⟨iv (-1),[],0⟩) (by kernel_rfl) ⟨⟨_,rfl,rfl⟩,rfl,rfl⟩⟩
 exact⟨_,rfl,bB (a:=⟨iv (Int.ofNat i),[],0⟩) (by kernel_rfl) ⟨⟨_,rfl,br (by omega)⟩,rfl,rfl⟩⟩
theorem xz (b:List UInt8):ag 88 [.dat (.slice (encS oW)),.dat (sb b)] (bv (gS b)):=by
 have h:=Uc b;generalize gS b=c at h;refine co [8] [] (x:=.of Tryz.f88 QF Ss) ?_;refine IV (Q:=oF c) h (by kernel_rfl) (by kernel_rfl) (by rintro v ⟨j,rfl,_⟩;rfl) ?_;rintro v ⟨j,rfl,hj⟩ _;refine bz (b:=c) (c:=!bn j (Int.ofNat 0)) (by rw[hj];simp) (by kernel_rfl) ?_
 cases c <;> exact fi
def fG (x y:Int):Int:=match bn x y with|true=>-1|false=>(match bn y x with|true=>1|false=>0)
def qf (x y:List UInt8):Int:=match jE x y with|true=>-1|false=>(match !(jE x y||dv x y) with|true=>1|false=>0)
def Bu:List Int->Int
 | []=>0
 | x::r=>match aQ x 0 with|true=>Bu r|false=>x
theorem ep (x:Int):aQ x x=true:=by rw[gV];simp
theorem hU (x:List UInt8):dv x x=true:=by rw[io];simp
theorem Uj (x:Int):ag 171 [iv x] (bv false):=by
 refine co [5] [] (x:=.of Tryz.f171 IB Ls) ?_;refine bz (b:=false) (c:=!aQ x x) (by rw[ep];rfl) (by kernel_rfl) ?_;exact fi
theorem Ui (x:List UInt8):ag 172 [.dat (sb x)] (bv false):=by
 refine co [5] [] (x:=.of Tryz.f172 IA Lr) ?_;refine bz (b:=false) (c:=!dv x x) (by rw[hU];rfl) (by kernel_rfl) ?_;exact fi
theorem J7 (x y:Int):ag 144 [iv x,iv y] (iv (fG x y)):=by
 unfold fG;generalize h1:bn x y=a;generalize h2:bn y x=b;refine co [16,19] [] (x:=.of Tryz.f144 II LA) ?_;refine on (Uj x) ?_;refine on (Uj y) ?_;refine ob h1 ?_
 cases a
 ·refine ob h2 ?_
  cases b <;> exact fi
 exact fi
theorem ac9 (x y:List UInt8):ag 145 [.dat (sb x),.dat (sb y)] (iv (qf x y)):=by
 unfold qf;generalize h2:(!(jE x y||dv x y))=b;generalize h1:jE x y=a;refine co [16,19] [] (x:=.of Tryz.f145 IH Ly) ?_;refine on (Ui x) ?_;refine on (Ui y) ?_;refine ob h1 ?_
 cases a
 ·refine ob h2 ?_
  cases b <;> exact fi
 exact fi
noncomputable def hOr:Hints:=⟨an,Dy,ap,rowsOf ap 143⟩
def H9 (a b c d:Int) (i:Int):ab:=⟨[(8,iv i),(7,iv 4),(6,.dat (.slice [i64 a,i64 b,i64 c,i64 d])),(3,iv 0)],[],[],0⟩
def Yu (a b c d:Int):ab:=⟨[(9,bv false),(8,iv 4),(7,iv 4),(6,.dat (.slice [i64 a,i64 b,i64 c,i64 d])),(3,iv 0)],[],[],0⟩
def E6 (a:Int):ab:=⟨[(2,iv a)],[],[],0⟩
theorem agT (a b c d:Int):ag 143 [.dat (.slice [i64 a,i64 b,i64 c,i64 d])] (iv (Bu [a,b,c,d])):=by
 have hl:KD (.loop (roundOf Tryz.f143 0)) (fun e s=>(e=.exit 0/\Bu [a,b,c,d]=0/\s=(Yu a b c d).aw Tryz.f143.ntmps)∨(e=.ret/\s=(E6 (Bu [a,b,c,d])).aw Tryz.f143.ntmps)) ((H9 a b c d (Int.ofNat 0)).aw Tryz.f143.ntmps):=by
  refine cE (St:=fun i=>(H9 a b c d (Int.ofNat i)).aw Tryz.f143.ntmps) (fun i=>Bu [a,b,c,d]=Bu ([a,b,c,d].drop i)) 4 ?_ ?_ (i:=0) (Nat.zero_le _) rfl
  ·intro i hi hI;have hcases:i=0∨i=1∨i=2∨i=3:=by omega
   have hd:Bu ([a,b,c,d].drop i)=(match aQ ([a,b,c,d].getD i 0) 0 with|true=>Bu ([a,b,c,d].drop (i+1))|false=>[a,b,c,d].getD i 0):=by rcases hcases with rfl|rfl|rfl|rfl <;> rfl
   rw[hd] at hI;clear hd;generalize hcw:aQ ([a,b,c,d].getD i 0) 0=cw at hI
   rcases hcases with rfl|rfl|rfl|rfl
   ·refine aB [14] [] (H:=hOr) (live:=nS) (by kernel_rfl) ?_;refine bz (b:=!cw) (c:=!aQ ([a,b,c,d].getD 0 0) 0) (by rw[hcw]) (by kernel_rfl) ?_
    cases cw with
    | false=>exact bZ (ex:=.ret) (E6 ([a,b,c,d].getD 0 0)) (by kernel_rfl) (by kernel_rfl) (.inr ⟨rfl,by rw[hI]⟩)
    | true=>exact bZ (ex:=.normal) (H9 a b c d (Int.ofNat (0+1))) (by kernel_rfl) (by kernel_rfl) ⟨rfl,hI⟩
   ·refine aB [14] [] (H:=hOr) (live:=nS) (by kernel_rfl) ?_;refine bz (b:=!cw) (c:=!aQ ([a,b,c,d].getD 1 0) 0) (by rw[hcw]) (by kernel_rfl) ?_
    cases cw with
    | false=>exact bZ (ex:=.ret) (E6 ([a,b,c,d].getD 1 0)) (by kernel_rfl) (by kernel_rfl) (.inr ⟨rfl,by rw[hI]⟩)
    | true=>exact bZ (ex:=.normal) (H9 a b c d (Int.ofNat (1+1))) (by kernel_rfl) (by kernel_rfl) ⟨rfl,hI⟩
   ·refine aB [14] [] (H:=hOr) (live:=nS) (by kernel_rfl) ?_;refine bz (b:=!cw) (c:=!aQ ([a,b,c,d].getD 2 0) 0) (by rw[hcw]) (by kernel_rfl) ?_
    cases cw with
    | false=>exact bZ (ex:=.ret) (E6 ([a,b,c,d].getD 2 0)) (by kernel_rfl) (by kernel_rfl) (.inr ⟨rfl,by rw[hI]⟩)
    | true=>exact bZ (ex:=.normal) (H9 a b c d (Int.ofNat (2+1))) (by kernel_rfl) (by kernel_rfl) ⟨rfl,hI⟩
   refine aB [14] [] (H:=hOr) (live:=nS) (by kernel_rfl) ?_;refine bz (b:=!cw) (c:=!aQ ([a,b,c,d].getD 3 0) 0) (by rw[hcw]) (by kernel_rfl) ?_
   cases cw with
   | false=>exact bZ (ex:=.ret) (E6 ([a,b,c,d].getD 3 0)) (by kernel_rfl) (by kernel_rfl) (.inr ⟨rfl,by rw[hI]⟩)
   | true=>exact bZ (ex:=.normal) (H9 a b c d (Int.ofNat (3+1))) (by kernel_rfl) (by kernel_rfl) ⟨rfl,hI⟩
  intro hI;have h1:Bu [a,b,c,d]=0:=by rw[hI];rfl
  refine aB [14] [] (H:=hOr) (live:=nS) (by kernel_rfl) ?_;exact bZ (ex:=.exit 0) (Yu a b c d) (by kernel_rfl) (by kernel_rfl) (.inl ⟨rfl,h1,rfl⟩)
 generalize Bu [a,b,c,d]=r at hl;refine co [] [] (x:=.of Tryz.f143 Dy nS) ?_;refine iL (n:=Tryz.f143.ntmps) (c:=roundOf Tryz.f143 0) (f:=H9 a b c d (Int.ofNat 0)) (by kernel_rfl) (by kernel_rfl) hl ?_;rintro ex s (⟨rfl,rfl,rfl⟩|⟨rfl,rfl⟩)
 ·exact⟨_,rfl,bB (by kernel_rfl) rfl⟩
 exact⟨_,rfl,bB (by kernel_rfl) rfl⟩
mutual
def oA:Ty->Ty->Int
 | .mk k nm ix l,.mk k2 nm2 ix2 l2=>match aQ (Bu [fG k k2,qf nm nm2,fG ix ix2,fG (Int.ofNat (ax l).length) (Int.ofNat (ax l2).length)]) 0 with
  | true=>rp l l2
  | false=>Bu [fG k k2,qf nm nm2,fG ix ix2,fG (Int.ofNat (ax l).length) (Int.ofNat (ax l2).length)]
def rp:List Ty->List Ty->Int
 | t::r,u::v=>match aQ (oA t u) 0 with|true=>rp r v|false=>oA t u
 | _,_=>0
end
def aeI (k:Int) (nm:List UInt8) (ix:Int) (l:List Ty) (k2:Int) (nm2:List UInt8) (ix2:Int) (l2:List Ty):Int:=Bu [fG k k2,qf nm nm2,fG ix ix2,fG (Int.ofNat (ax l).length) (Int.ofNat (ax l2).length)]
theorem pZ {x:Int} (h:aQ x 0=true):x=0:=by rw[gV] at h;simpa using h
theorem Ac:∀{l:List Int},Bu l=0->∀x∈l,x=0
 | [],_,x,hx=>by simp at hx
 | y::r,h,x,hx=>by
  unfold Bu at h
  split at h
  ·rename_i hy
   rcases List.mem_cons.1 hx with h1|hx
   ·rw[h1];exact pZ hy
   exact Ac h x hx
  rename_i hy;subst h;rw[ep] at hy;simp at hy
theorem vZ {x y:Int} (h:fG x y=0):x=y:=by
 unfold fG at h
 cases h1:bn x y with
 | true=>rw[h1] at h;simp at h
 | false=>
  rw[h1] at h
  cases h2:bn y x with
  | true=>rw[h2] at h;simp at h
  | false=>
   rw[gr] at h1 h2;simp at h1 h2;omega
theorem AA {k:Int} {nm:List UInt8} {ix:Int} {l:List Ty} {k2:Int} {nm2:List UInt8} {ix2:Int} {l2:List Ty} (h:aQ (aeI k nm ix l k2 nm2 ix2 l2) 0=true):l.length=l2.length:=by
 have h1:=Ac (pZ h) (fG (Int.ofNat (ax l).length) (Int.ofNat (ax l2).length)) (by simp);have h2:=vZ h1;rw[aE,aE] at h2;exact Int.ofNat.inj h2
def nj (l l2:List Ty) (c0:Int):Nat->Int
 | 0=>c0
 | i+1=>match l[i]?,l2[i]? with|some t,some u=>oA t u|_,_=>0
noncomputable def pL:Hints:=⟨an,DD,ap,rowsOf ap 121⟩
def rF (k:Int) (nm:List UInt8) (ix:Int) (l:List Ty) (k2:Int) (nm2:List UInt8) (ix2:Int) (l2:List Ty):Heap:=[(.loc 3,.cells [iv k2,.dat (sb nm2),iv ix2,.dat (.slice (ax l2))]),(.loc 2,.cells [iv k,.dat (sb nm),iv ix,.dat (.slice (ax l))])]
def pf (lo:Heap) (i c:Int):ab:=⟨[(6,iv i),(5,iv c),(3,.ptr (.loc 3) 0),(2,.ptr (.loc 2) 0)],lo,[],0⟩
def kV (lo:Heap) (i c:Int):ab:=⟨[(39,bv false),(6,iv i),(5,iv c),(3,.ptr (.loc 3) 0),(2,.ptr (.loc 2) 0)],lo,[],0⟩
theorem T2 {k:Int} {nm:List UInt8} {ix:Int} {l:List Ty} {k2:Int} {nm2:List UInt8} {ix2:Int} {l2:List Ty} {c0:Int} (hlen:aQ c0 0=true->l.length=l2.length)
  (ih:∀t∈l,∀u∈l2,ag 121 [.dat t.enc,.dat u.enc] (iv (oA t u))) (hb:l.length < 1000000000) :
  KD (.loop (roundOf Tryz.f121 0)) (fun e s=>e=.exit 0/\∃i:Nat,s=(kV (rF k nm ix l k2 nm2 ix2 l2) (Int.ofNat i) (match aQ c0 0 with|true=>rp l l2|false=>c0)).aw Tryz.f121.ntmps) ((pf (rF k nm ix l k2 nm2 ix2 l2) (Int.ofNat 0) c0).aw Tryz.f121.ntmps):=by
 generalize hfin:(match aQ c0 0 with|true=>rp l l2|false=>c0)=fin;refine cE (St:=fun i=>(pf (rF k nm ix l k2 nm2 ix2 l2) (Int.ofNat i) (nj l l2 c0 i)).aw Tryz.f121.ntmps) (fun i=>(0 < i->aQ c0 0=true)/\fin=(match aQ (nj l l2 c0 i) 0 with|true=>rp (l.drop i) (l2.drop i)|false=>nj l l2 c0 i)) (ax l).length ?_ ?_ (i:=0) (Nat.zero_le _) ⟨fun h=>absurd h (Nat.lt_irrefl 0),hfin.symm⟩
 ·rintro i hi ⟨hz,hI⟩;have hz2:aQ (nj l l2 c0 i) 0=true->aQ c0 0=true:=by
   intro h
   cases i with
   | zero=>exact h
   | succ i=>exact hz (Nat.succ_pos i)
  obtain⟨t,ht,hm⟩:=get_mem hi;have hi2:=hi;rw[aE] at hi2;have hw:aG .i64 (Int.ofNat i+1)=Int.ofNat (i+1):=bb (by omega);generalize hca:nj l l2 c0 i=ca at hI hz2;generalize hcz:aQ ca 0=cz at hI hz2
  cases cz with
  | false=>
   refine aB [32,38] [45,50] (H:=pL) (live:=nU) (by kernel_rfl) ?_;refine ob hcz ?_;refine bZ (ex:=.exit 0) (kV (rF k nm ix l k2 nm2 ix2 l2) (Int.ofNat i) ca) (by kernel_rfl) (by kernel_rfl) ⟨rfl,i,?_⟩;rw[hI]
  | true=>
   have hle:=hlen (hz2 rfl);have hu:l2[i]?=some l2[i]:=List.getElem?_eq_getElem (by omega);have hmu:l2[i]∈l2:=List.getElem_mem _;generalize l2[i]=u at hu hmu;have hc:=ih t hm u hmu;have hat:nj l l2 c0 (i+1)=oA t u:=by simp only[nj,ht,hu]
   have hnew:fin=(match aQ (nj l l2 c0 (i+1)) 0 with|true=>rp (l.drop (i+1)) (l2.drop (i+1))|false=>nj l l2 c0 (i+1)):=by
    rw[hI,hat];show rp (l.drop i) (l2.drop i)=_;rw[iU ht,iU hu,rp]
   have hz3:=hz2 rfl;rw[hat] at hnew;have e:iY (fun s=>s=(pf (rF k nm ix l k2 nm2 ix2 l2) (Int.ofNat (i+1)) (nj l l2 c0 (i+1))).aw Tryz.f121.ntmps/\(0 < i+1->aQ c0 0=true)/\fin=(match aQ (nj l l2 c0 (i+1)) 0 with|true=>rp (l.drop (i+1)) (l2.drop (i+1))|false=>nj l l2 c0 (i+1)))
     (fun e s=>e=.exit 0/\∃i:Nat,s=(kV (rF k nm ix l k2 nm2 ix2 l2) (Int.ofNat i) fin).aw Tryz.f121.ntmps) .normal ((pf (rF k nm ix l k2 nm2 ix2 l2) (aG .i64 (Int.ofNat i+1)) (oA t u)).aw Tryz.f121.ntmps):=by
    rw[hw,hat];exact⟨rfl,fun _=>hz3,hnew⟩
   generalize oA t u=cc at hc e;have hx1:=jU ht;have hx2:=jU hu;clear ih hlen hI hat hnew hz hz2 hu hmu ht hm;obtain⟨k3,nm3,ix3,a3⟩:=t;obtain⟨k4,nm4,ix4,a4⟩:=u
   rcases a3 with _|⟨b3,d3⟩ <;> rcases a4 with _|⟨b4,d4⟩ <;>
   ·refine aB [32,38] [45,50] (H:=pL) (live:=nU) (by kernel_rfl) ?_;refine ob hcz ?_;refine bz (b:=true) (bd hi) (by kernel_rfl) ?_;refine oo hx1 ?_;refine oo hx2 ?_;refine on hc ?_;exact bZ (ex:=.normal) (pf (rF k nm ix l k2 nm2 ix2 l2) (aG .i64 (Int.ofNat i+1)) cc) (by kernel_rfl) (by kernel_rfl) e
 rintro⟨hz,hI⟩;generalize hca:nj l l2 c0 (ax l).length=ca at hI;generalize hcz:aQ ca 0=cz at hI;refine aB [32,38] [45,50] (H:=pL) (live:=nU) (by kernel_rfl) ?_;refine ob hcz ?_
 cases cz with
 | false=>
  refine bZ (ex:=.exit 0) (kV (rF k nm ix l k2 nm2 ix2 l2) (Int.ofNat (ax l).length) ca) (by kernel_rfl) (by kernel_rfl) ⟨rfl,(ax l).length,?_⟩;rw[hI]
 | true=>
  have h0:ca=fin:=by
   rw[hI,aE,List.drop_length];exact pZ hcz
  refine bz (b:=false) (br (i:=(ax l).length) (L:=(ax l).length) (by omega)) (by kernel_rfl) ?_;refine bZ (ex:=.exit 0) (kV (rF k nm ix l k2 nm2 ix2 l2) (Int.ofNat (ax l).length) ca) (by kernel_rfl) (by kernel_rfl) ⟨rfl,(ax l).length,?_⟩;rw[h0]
def kc (k:Int) (nm:List UInt8) (ix:Int) (a:aq) (k2:Int) (nm2:List UInt8) (ix2:Int) (a2:aq):Heap:=[(.loc 3,.cells [iv k2,.dat (sb nm2),iv ix2,.dat a2]),(.loc 2,.cells [iv k,.dat (sb nm),iv ix,.dat a])]
theorem L8 (k:Int) (nm:List UInt8) (ix:Int) (k2:Int) (nm2:List UInt8) (ix2:Int) (a2:aq) (ha:a2=nl∨∃es,a2=.slice es) (c0:Int) :
  KD (.loop (roundOf Tryz.f121 0)) (fun e s=>e=.exit 0/\∃i:Nat,s=(kV (kc k nm ix nl k2 nm2 ix2 a2) (Int.ofNat i) c0).aw Tryz.f121.ntmps) ((pf (kc k nm ix nl k2 nm2 ix2 a2) (Int.ofNat 0) c0).aw Tryz.f121.ntmps):=by
 refine ba (St:=fun _=>(pf (kc k nm ix nl k2 nm2 ix2 a2) (Int.ofNat 0) c0).aw Tryz.f121.ntmps) 0 (fun i hi=>absurd hi (Nat.not_lt_zero i)) ?_ (i:=0) (Nat.le_refl _);generalize hcz:aQ c0 0=cz
 rcases ha with rfl|⟨es,rfl⟩ <;>
 ·refine aB [32,38] [45,50] (H:=pL) (live:=nU) (by kernel_rfl) ?_;refine ob hcz ?_
  cases cz with
  | false=>exact bZ (ex:=.exit 0) (kV (kc k nm ix nl k2 nm2 ix2 _) (Int.ofNat 0) c0) (by kernel_rfl) (by kernel_rfl) ⟨rfl,0,rfl⟩
  | true=>
   refine bz (b:=false) (c:=bn (Int.ofNat 0) (Int.ofNat 0)) rfl (by kernel_rfl) ?_;exact bZ (ex:=.exit 0) (kV (kc k nm ix nl k2 nm2 ix2 _) (Int.ofNat 0) c0) (by kernel_rfl) (by kernel_rfl) ⟨rfl,0,rfl⟩
theorem XY (k:Int) (nm:List UInt8) (ix:Int) (es:List aq) (k2:Int) (nm2:List UInt8) (ix2:Int) (c0:Int) (hcz:aQ c0 0=false) :
  KD (.loop (roundOf Tryz.f121 0)) (fun e s=>e=.exit 0/\∃i:Nat,s=(kV (kc k nm ix (.slice es) k2 nm2 ix2 nl) (Int.ofNat i) c0).aw Tryz.f121.ntmps) ((pf (kc k nm ix (.slice es) k2 nm2 ix2 nl) (Int.ofNat 0) c0).aw Tryz.f121.ntmps):=by
 refine ba (St:=fun _=>(pf (kc k nm ix (.slice es) k2 nm2 ix2 nl) (Int.ofNat 0) c0).aw Tryz.f121.ntmps) 0 (fun i hi=>absurd hi (Nat.not_lt_zero i)) ?_ (i:=0) (Nat.le_refl _);refine aB [32,38] [45,50] (H:=pL) (live:=nU) (by kernel_rfl) ?_;refine ob hcz ?_;exact bZ (ex:=.exit 0) (kV (kc k nm ix (.slice es) k2 nm2 ix2 nl) (Int.ofNat 0) c0) (by kernel_rfl) (by kernel_rfl) ⟨rfl,0,rfl⟩
theorem Es {k:Int} {nm:List UInt8} {ix:Int} {a:aq} {k2:Int} {nm2:List UInt8} {ix2:Int} {a2:aq} (ha:a=nl∨∃es,a=.slice es) (ha2:a2=nl∨∃es,a2=.slice es) {n m:Nat} {r:Int}
  (hn:a=nl/\n=0∨∃es,a=.slice es/\n=es.length) (hm:a2=nl/\m=0∨∃es,a2=.slice es/\m=es.length)
  (hl:KD (.loop (roundOf Tryz.f121 0)) (fun e s=>e=.exit 0/\∃i:Nat,s=(kV (kc k nm ix a k2 nm2 ix2 a2) (Int.ofNat i) r).aw Tryz.f121.ntmps)
   ((pf (kc k nm ix a k2 nm2 ix2 a2) (Int.ofNat 0) (Bu [fG k k2,qf nm nm2,fG ix ix2,fG (Int.ofNat n) (Int.ofNat m)])).aw Tryz.f121.ntmps)) :
  ag 121 [.dat (.agg [i64 k,sb nm,i64 ix,a]),.dat (.agg [i64 k2,sb nm2,i64 ix2,a2])] (iv r):=by
 have h1:=J7 k k2;have h2:=ac9 nm nm2;have h3:=J7 ix ix2;have h4:=J7 (Int.ofNat n) (Int.ofNat m);generalize fG k k2=x1 at h1 hl;generalize qf nm nm2=x2 at h2 hl;generalize fG ix ix2=x3 at h3 hl;generalize fG (Int.ofNat n) (Int.ofNat m)=x4 at h4 hl;have h5:=agT x1 x2 x3 x4;generalize Bu [x1,x2,x3,x4]=c0 at h5 hl;clear ha ha2
 rcases hn with⟨rfl,rfl⟩|⟨es,rfl,rfl⟩ <;> rcases hm with⟨rfl,rfl⟩|⟨es2,rfl,rfl⟩ <;>
 ·refine co [] [] (x:=.of Tryz.f121 DD nU) ?_;refine on h1 ?_;refine on h2 ?_;refine on h3 ?_;refine on h4 ?_;refine on h5 ?_;refine iL (n:=Tryz.f121.ntmps) (c:=roundOf Tryz.f121 0) (f:=pf (kc k nm ix _ k2 nm2 ix2 _) (Int.ofNat 0) c0) (by kernel_rfl) (by kernel_rfl) hl ?_;rintro ex s ⟨rfl,i,rfl⟩;exact⟨_,rfl,bB (by kernel_rfl) rfl⟩
theorem Ep {k:Int} {nm:List UInt8} {ix:Int} {l:List Ty} {k2:Int} {nm2:List UInt8} {ix2:Int} {l2:List Ty} (ih:∀t∈l,∀u∈l2,ag 121 [.dat t.enc,.dat u.enc] (iv (oA t u))) (hb:l.length < 1000000000) :
  ag 121 [.dat (Ty.mk k nm ix l).enc,.dat (Ty.mk k2 nm2 ix2 l2).enc] (iv (oA (.mk k nm ix l) (.mk k2 nm2 ix2 l2))):=by
 rw[oA]
 cases l with
 | nil=>
  have hr:(match aQ (Bu [fG k k2,qf nm nm2,fG ix ix2,fG (Int.ofNat (ax []).length) (Int.ofNat (ax l2).length)]) 0 with|true=>rp [] l2|false=>Bu [fG k k2,qf nm nm2,fG ix ix2,fG (Int.ofNat (ax []).length) (Int.ofNat (ax l2).length)])=Bu [fG k k2,qf nm nm2,fG ix ix2,fG (Int.ofNat (ax []).length) (Int.ofNat (ax l2).length)]:=by
   split
   ·rename_i h;rw[pZ h,rp];simp
   rfl
  rw[hr]
  cases l2 with
  | nil=>exact Es (a:=nl) (a2:=nl) (n:=0) (m:=0) (.inl rfl) (.inl rfl) (.inl ⟨rfl,rfl⟩) (.inl ⟨rfl,rfl⟩) (L8 k nm ix k2 nm2 ix2 nl (.inl rfl) _)
  | cons u v=>exact Es (a:=nl) (a2:=.slice (ax (u::v))) (n:=0) (m:=(ax (u::v)).length) (.inl rfl) (.inr ⟨_,rfl⟩) (.inl ⟨rfl,rfl⟩) (.inr ⟨_,rfl,rfl⟩) (L8 k nm ix k2 nm2 ix2 _ (.inr ⟨_,rfl⟩) _)
 | cons t r=>
  cases l2 with
  | nil=>
   have hcz:aQ (Bu [fG k k2,qf nm nm2,fG ix ix2,fG (Int.ofNat (ax (t::r)).length) (Int.ofNat (ax []).length)]) 0=false:=by
    rw[Bool.eq_false_iff];intro h
    have:=AA (l:=t::r) (l2:=[]) h
    simp at this
   rw[hcz];exact Es (a:=.slice (ax (t::r))) (a2:=nl) (n:=(ax (t::r)).length) (m:=0) (.inr ⟨_,rfl⟩) (.inl rfl) (.inr ⟨_,rfl,rfl⟩) (.inl ⟨rfl,rfl⟩) (XY k nm ix _ k2 nm2 ix2 _ hcz)
  | cons u v=>
   exact Es (a:=.slice (ax (t::r))) (a2:=.slice (ax (u::v))) (n:=(ax (t::r)).length) (m:=(ax (u::v)).length) (.inr ⟨_,rfl⟩) (.inr ⟨_,rfl⟩) (.inr ⟨_,rfl,rfl⟩) (.inr ⟨_,rfl,rfl⟩)
    (T2 (l:=t::r) (l2:=u::v) (fun h=>AA (l:=t::r) (l2:=u::v) h) ih hb)
mutual
theorem A8:∀(t u:Ty),t.thin->ag 121 [.dat t.enc,.dat u.enc] (iv (oA t u))
 | .mk k nm ix l,.mk k2 nm2 ix2 l2,h=>by
  simp only[Ty.thin] at h;exact Ep (fun t ht u _=>xA l h.2 t ht u) h.1
theorem xA:∀(l:List Ty),kT l->∀t∈l,∀u:Ty,ag 121 [.dat t.enc,.dat u.enc] (iv (oA t u))
 | [],_,t,ht,_=>by simp at ht
 | x::r,h,t,ht,u=>by
  simp only[kT] at h
  rcases List.mem_cons.1 ht with h1|ht
  ·rw[h1];exact A8 x u h.1
  exact xA r h.2 t ht u
end
def NP (t u:Ty):Bool:=aQ (oA t u) 0
theorem Uf (t u:Ty) (h:t.thin):ag 91 [.dat t.enc,.dat u.enc] (bv (NP t u)):=by
 have hc:=A8 t u h;unfold NP;generalize oA t u=c at hc;generalize hcz:aQ c 0=cz;clear h;obtain⟨k3,nm3,ix3,a3⟩:=t;obtain⟨k4,nm4,ix4,a4⟩:=u
 rcases a3 with _|⟨b3,d3⟩ <;> rcases a4 with _|⟨b4,d4⟩ <;>
 ·refine co [8] [] (x:=.of Tryz.f91 QC Sp) ?_;refine on hc ?_;refine ob hcz ?_
  cases cz <;> exact fi
theorem Me (t u:Ty) (h:t.size < 1000000000):ag 91 [.dat t.enc,.dat u.enc] (bv (NP t u)):=Uf t u (nC t h)
def VK:List Ty->ac
 | []=>.dat nl
 | t::r=>.own (ax (t::r))
theorem Tx {l:List Ty} {d:aq} (h:d∈ax l):∃t,d=Ty.enc t:=by
 rw[qb] at h;obtain⟨t,_,rfl⟩:=List.mem_map.1 h;exact⟨t,rfl⟩
theorem G9 (a b:List Ty):ax (a++b)=ax a++ax b:=by simp[qb]
theorem NV (t:Ty):t.enc.cells.length=4:=by cases t;rfl
theorem AQ (l:List Ty):sizedB 4 (ax l)=true:=gF (fun d hd=>by obtain⟨t,rfl⟩:=Tx hd;exact NV t)
theorem JV (l:List Ty):ez (ax l)=false:=by
 cases l with
 | nil=>rfl
 | cons t r=>cases t;rfl
theorem Yd {pre:List Ty} {t:Ty} (hl:pre.length < 1000000000):cj (env au.aI) false 30 [.own (ax pre),.dat (.slice [t.enc])] none=some ⟨.own (ax (pre++[t])),.keep⟩:=by
 rw[G9];refine ra (i:=tiT) (ds:=[t.enc]) (k:=3) OT rfl yR ?_ ?_ (by kernel_rfl) ?_ ?_ ?_ (by simp)
 ·exact AQ [t]
 ·exact AQ pre
 ·have h1:tiT.bytes<=1000:=fH (by kernel_rfl);rw[aE]
  calc (pre.length+1)*tiT.bytes<=1000000000*1000:=Nat.mul_le_mul (by omega) h1
   _<=140737488355328:=by decide
 ·rw[aE];simp[lim];omega
 unfold fQ;rw[show ax pre++[t.enc]=ax (pre++[t]) by rw[G9];rfl,JV]
theorem dZ {α:Type} {l:List α} {i:Nat} {t:α} (h:l[i]?=some t):l.take (i+1)=l.take i++[t]:=by rw[List.take_add_one,h];rfl
def instAt (ls:List Ty) (ix:Int) (u:Nat):Option Ty:=match bn ix (Int.ofNat u) with
 | true=>none
 | false=>ls[(ix - Int.ofNat u).toNat]?
mutual
def Ty.inst (ls:List Ty):Ty->Nat->Ty
 | .mk k nm ix args,u=>match aQ k 5,instAt ls ix u with
  | true,some t=>t
  | _,_=>.mk k nm ix (instL ls k 0 args u)
def instL (ls:List Ty) (k:Int):Nat->List Ty->Nat->List Ty
 | _,[],_=>[]
 | i,t::r,u=>t.inst ls (u+dr k i)::instL ls k (i+1) r u
end
theorem yL {u j:Nat} (h:u+j < 9223372036854775808):aG .i64 (Int.ofNat (u+j) - Int.ofNat u)=Int.ofNat j:=by
 rw[dR];rw[show (Int.ofNat (u+j) - Int.ofNat u:Int)=Int.ofNat j by simp;omega];exact wrap_i64 (by simp <;> omega) (by simp <;> omega)
def aay:aq:=.flat (.pointer none)
theorem inst1_lo {ls:List Ty} {ix:Int} {u:Nat} (h:bn ix (Int.ofNat u)=true):ag 95 [iv ix,iv (Int.ofNat u),.ref [sl (ax ls)]] (.tup [.dat aay,iv ix]):=by
 refine co [13] [] (x:=.of Tryz.f95 FT DQ) ?_;refine ox h ?_;exact fi
theorem inst1_hi {ls:List Ty} {j:Nat} {u:Nat} (hb:u+j < 1000000000) (h:¬j < (ax ls).length):ag 95 [iv (Int.ofNat (u+j)),iv (Int.ofNat u),.ref [sl (ax ls)]] (.tup [.dat aay,iv (Int.ofNat (u+j))]):=by
 have h1:=br (i:=u+j) (L:=u) (by omega);have h2:=br h;have h4:bn (aG .i64 (Int.ofNat (u+j) - Int.ofNat u)) (Int.ofNat (ax ls).length)=false:=by rw[yL (by omega)];exact h2
 clear h;refine co [13,18] [] (x:=.of Tryz.f95 FT DQ) ?_;refine ox h1 ?_
 rcases ls with _|⟨v0,v1⟩ <;>
 ·refine ob h4 ?_;exact fi
theorem inst1_in {ls:List Ty} {j:Nat} {u:Nat} {t:Ty} (hb:u+j < 1000000000) (h:ls[j]?=some t):ag 95 [iv (Int.ofNat (u+j)),iv (Int.ofNat u),.ref [sl (ax ls)]] (.tup [.ref t.cells,iv 0]):=by
 have h1:=br (i:=u+j) (L:=u) (by omega);have hj:j < (ax ls).length:=by rw[aE];exact (List.getElem?_eq_some_iff.1 h).1
 have h2:=bd hj;have h4:bn (aG .i64 (Int.ofNat (u+j) - Int.ofNat u)) (Int.ofNat (ax ls).length)=true:=by rw[yL (by omega)];exact h2
 have h5:aJ (env au.aI) 30 [.dat (.slice (ax ls)),.dat (.flat (.int .i64 (aG .i64 (Int.ofNat (u+j) - Int.ofNat u))))]=some ⟨.ref t.cells,.keep⟩:=by rw[yL (by omega)];exact jU h
 clear h hj;refine co [13,18] [22] (x:=.of Tryz.f95 FT DQ) ?_;refine ox h1 ?_
 rcases ls with _|⟨v0,v1⟩ <;>
 ·refine ob h4 ?_;refine oo h5 ?_;exact fi
noncomputable def Ze:Hints:=⟨an,FU,ap,rowsOf ap 94⟩
def pR (ls:List Ty):ac:=.fn (.func 95) [] [.ref [sl (ax ls)]]
def Sm (k:Int) (nm:List UInt8) (ix:Int) (a:aq) (pre:List Ty):Heap:=[(.loc 7,.cells [iv k,.dat (sb nm),iv ix,VK pre]),(.loc 6,.cells [iv 0,.dat (sb []),iv 0,.dat nl]),(.loc 3,.cells [iv k,.dat (sb nm),iv ix,.dat a])]
def vh (ls:List Ty) (u:Nat) (k:Int) (nm:List UInt8) (ix:Int) (a:aq) (n:Nat) (pre:List Ty) (i:Int):ab:=⟨[(36,iv i),(35,iv (Int.ofNat n)),(34,.dat a),(7,.ptr (.loc 7) 0),(6,.ptr (.loc 6) 0),(3,.ptr (.loc 3) 0),(1,iv (Int.ofNat u)),(2,pR ls)],Sm k nm ix a pre,[],0⟩
def Dd (ls:List Ty) (u:Nat) (k:Int) (nm:List UInt8) (ix:Int) (a:aq) (n:Nat) (pre:List Ty) (i:Int):ab:=⟨[(37,bv false),(36,iv i),(35,iv (Int.ofNat n)),(34,.dat a),(7,.ptr (.loc 7) 0),(6,.ptr (.loc 6) 0),(3,.ptr (.loc 3) 0),(1,iv (Int.ofNat u)),(2,pR ls)],Sm k nm ix a pre,[],0⟩
theorem Ij {ls:List Ty} {u:Nat} {k:Int} {nm:List UInt8} {ix:Int} {l pre:List Ty} {i:Nat} {t t2:Ty} (hi:i < (ax l).length) (ht:l[i]?=some t) (hc:ag 94 [.dat t.enc,iv (aG .i64 (Int.ofNat u+Int.ofNat (dr k i))),pR ls] (.dat t2.enc)) (hp:pre.length < 1000000000) {T:Exit->aa->Prop}
  (e:T .normal ((vh ls u k nm ix (.slice (ax l)) (ax l).length (pre++[t2]) (aG .i64 (Int.ofNat i+1))).aw Tryz.f94.ntmps)) :
  KD (roundOf Tryz.f94 0) T ((vh ls u k nm ix (.slice (ax l)) (ax l).length pre (Int.ofNat i)).aw Tryz.f94.ntmps):=by
 have h1:=bd hi;have h2:=jU ht;have h3:=Yd (t:=t2) hp;have h4:=wg k nm ix (.slice (ax l)) (.inr ⟨_,rfl⟩) i;clear ht hi hp
 rcases pre with _|⟨d,r⟩ <;>
 ·refine aB [37] [39,52] (H:=Ze) (live:=Al) (by kernel_rfl) ?_;refine ob h1 ?_;refine oo h2 ?_;obtain⟨v0,v1,v2,v3⟩:=t
  rcases v3 with _|⟨v8,v9⟩
  ·refine on h4 ?_;refine on hc ?_;obtain⟨v4,v5,v6,v7⟩:=t2;refine oo h3 ?_;exact oe e
  refine on h4 ?_;refine on hc ?_;obtain⟨v10,v11,v12,v13⟩:=t2;refine oo h3 ?_;exact oe e
theorem MT {ls:List Ty} {u:Nat} {k:Int} {nm:List UInt8} {ix:Int} {a:aq} {n:Nat} {pre:List Ty} {T:Exit->aa->Prop}
  (e:T (.exit 0) ((Dd ls u k nm ix a n pre (Int.ofNat n)).aw Tryz.f94.ntmps)) :
  KD (roundOf Tryz.f94 0) T ((vh ls u k nm ix a n pre (Int.ofNat n)).aw Tryz.f94.ntmps):=by
 have h1:=br (i:=n) (L:=n) (by omega)
 rcases pre with _|⟨d,r⟩ <;>
 ·refine aB [37] [] (H:=Ze) (live:=Al) (by kernel_rfl) ?_;refine ob h1 ?_;exact oe e
mutual
def Ty.eX:Ty->Prop
 | .mk k _ ix args=>(aQ k 5=true->bn ix 100=true)/\dE args
def dE:List Ty->Prop
 | []=>True
 | t::r=>t.eX/\dE r
end
theorem instL_get {ls:List Ty} {k:Int} {u:Nat}:∀{l:List Ty} {i j:Nat} {t:Ty},l[i]?=some t->(instL ls k j l u)[i]?=some (t.inst ls (u+dr k (j+i)))
 | [],i,j,t,h=>by simp at h
 | x::r,0,j,t,h=>by simp at h;subst h;simp[instL]
 | x::r,i+1,j,t,h=>by
  simp only[instL,List.getElem?_cons_succ] at h ⊢;rw[instL_get h,show j+1+i=j+(i+1) by omega]
theorem instL_length {ls:List Ty} {k:Int} {u:Nat}:∀{l:List Ty} {j:Nat},(instL ls k j l u).length=l.length
 | [],_=>by simp[instL]
 | x::r,_=>by simp[instL,instL_length]
theorem Ur (k:Int) (i:Nat):dr k i<=1:=by unfold dr;split <;> omega
theorem MS {ls:List Ty} {u:Nat} {k:Int} {nm:List UInt8} {ix:Int} {l:List Ty} {a:aq} (ha:a=sl (ax l)) (hu:u < 1000000000000000) (hb:l.length < 1000000000)
  (ih:∀t∈l,∀v,v<=u+1->ag 94 [.dat t.enc,iv (Int.ofNat v),pR ls] (.dat (t.inst ls v).enc)) :
  KD (.loop (roundOf Tryz.f94 0)) (fun e s=>e=.exit 0/\s=(Dd ls u k nm ix a (ax l).length (instL ls k 0 l u) (Int.ofNat (ax l).length)).aw Tryz.f94.ntmps)
   ((vh ls u k nm ix a (ax l).length [] (Int.ofNat 0)).aw Tryz.f94.ntmps):=by
 refine ba (St:=fun i=>(vh ls u k nm ix a (ax l).length ((instL ls k 0 l u).take i) (Int.ofNat i)).aw Tryz.f94.ntmps) (ax l).length ?_ ?_ (i:=0) (Nat.zero_le _)
 ·intro i hi;obtain⟨t,ht,hm⟩:=get_mem hi;have hbn:=Ur k i;have hg:=instL_get (ls:=ls) (k:=k) (u:=u) (j:=0) ht;rw[Nat.zero_add] at hg;have ha2:a=.slice (ax l):=by
   rw[ha]
   cases l with
   | nil=>simp at ht
   | cons x r=>rfl
  subst ha2;refine Ij (t2:=t.inst ls (u+dr k i)) hi ht ?_ (by rw[List.length_take,instL_length];omega) ?_
  ·rw[wrap_add (by omega)];exact ih t hm _ (by omega)
  rw[aE] at hi;rw[bb (by omega),←dZ hg];rfl
 refine MT ⟨rfl,?_⟩;rw[aE,show l.length=(instL ls k 0 l u).length by rw[instL_length],List.take_length]
theorem vp {ls:List Ty} {u:Nat} {k:Int} {nm:List UInt8} {ix:Int} {l:List Ty} {ck:Bool} (hk:aQ k 5=ck) (hc:ck=true->ag 95 [iv ix,iv (Int.ofNat u),.ref [sl (ax ls)]] (.tup [.dat aay,iv ix])) {r:List Ty}
  (hl:KD (.loop (roundOf Tryz.f94 0)) (fun e s=>e=.exit 0/\s=(Dd ls u k nm ix (sl (ax l)) (ax l).length r (Int.ofNat (ax l).length)).aw Tryz.f94.ntmps)
   ((vh ls u k nm ix (sl (ax l)) (ax l).length [] (Int.ofNat 0)).aw Tryz.f94.ntmps)) :
  ag 94 [.dat (Ty.mk k nm ix l).enc,iv (Int.ofNat u),pR ls] (.dat (Ty.mk k nm ix r).enc):=by
 refine co [16] [] (x:=.of Tryz.f94 FU Al) ?_
 rcases l with _|⟨v4,v5⟩
 ·refine ob hk ?_
  cases ck
  ·refine lo hl ?_;rintro ex s ⟨rfl,rfl⟩;refine⟨_,rfl,?_⟩
   rcases r with _|⟨v2,v3⟩ <;>
   ·exact fi
  refine on (hc rfl) ?_;refine lo hl ?_;rintro ex s ⟨rfl,rfl⟩;refine⟨_,rfl,?_⟩
  rcases r with _|⟨v0,v1⟩ <;>
  ·exact fi
 refine ob hk ?_
 cases ck
 ·refine lo hl ?_;rintro ex s ⟨rfl,rfl⟩;refine⟨_,rfl,?_⟩
  rcases r with _|⟨v8,v9⟩ <;>
  ·exact fi
 refine on (hc rfl) ?_;refine lo hl ?_;rintro ex s ⟨rfl,rfl⟩;refine⟨_,rfl,?_⟩
 rcases r with _|⟨v6,v7⟩ <;>
 ·exact fi
theorem MR {ls:List Ty} {u:Nat} {k:Int} {nm:List UInt8} {ix:Int} {l:List Ty} {t:Ty} (hk:aQ k 5=true) (hc:ag 95 [iv ix,iv (Int.ofNat u),.ref [sl (ax ls)]] (.tup [.ref t.cells,iv 0])) (hcl:ag 125 [.dat t.enc] (.dat t.enc)) :
  ag 94 [.dat (Ty.mk k nm ix l).enc,iv (Int.ofNat u),pR ls] (.dat t.enc):=by
 refine co [16] [] (x:=.of Tryz.f94 FU Al) ?_
 rcases l with _|⟨v6,v7⟩
 ·refine ob hk ?_;refine on hc ?_;obtain⟨v0,v1,v2,v3⟩:=t;refine on hcl ?_
  rcases v3 with _|⟨v4,v5⟩ <;>
  ·exact fi
 refine ob hk ?_;refine on hc ?_;obtain⟨v8,v9,v10,v11⟩:=t;refine on hcl ?_
 rcases v11 with _|⟨v12,v13⟩ <;>
 ·exact fi
theorem instAt_lo {ls:List Ty} {ix:Int} {u:Nat} (h:bn ix (Int.ofNat u)=true):instAt ls ix u=none:=by unfold instAt;rw[h]
theorem instAt_at {ls:List Ty} {u j:Nat}:instAt ls (Int.ofNat (u+j)) u=ls[j]?:=by
 unfold instAt;rw[br (by omega)];show ls[(Int.ofNat (u+j) - Int.ofNat u).toNat]?=_;rw[show (Int.ofNat (u+j) - Int.ofNat u:Int)=Int.ofNat j by simp;omega];rfl
theorem inst_none {ls:List Ty} {k:Int} {nm:List UInt8} {ix:Int} {l:List Ty} {u:Nat} (h:aQ k 5=false∨instAt ls ix u=none):(Ty.mk k nm ix l).inst ls u=.mk k nm ix (instL ls k 0 l u):=by
 rw[Ty.inst]
 rcases h with h|h
 ·rw[h]
 rw[h];cases aQ k 5 <;> rfl
theorem inst_some {ls:List Ty} {k:Int} {nm:List UInt8} {ix:Int} {l:List Ty} {u:Nat} {t:Ty} (hk:aQ k 5=true) (h:instAt ls ix u=some t):(Ty.mk k nm ix l).inst ls u=t:=by
 rw[Ty.inst,hk,h]
theorem Nj {ix:Int} {u:Nat} (h:bn ix (Int.ofNat u)=false) (h2:bn ix 100=true):∃j:Nat,ix=Int.ofNat (u+j)/\u+j < 100:=by
 rw[gr] at h h2;simp only[decide_eq_false_iff_not,decide_eq_true_eq] at h h2;refine⟨(ix - u).toNat,?_,?_⟩
 ·simp only[Int.ofNat_eq_natCast] at h ⊢;omega
 simp only[Int.ofNat_eq_natCast] at h;omega
mutual
theorem CU {ls:List Ty} (hls:∀t∈ls,ag 125 [.dat t.enc] (.dat t.enc)):∀(t:Ty) (u:Nat),t.thin->t.eX->u+t.depth < 1000000000000000->ag 94 [.dat t.enc,iv (Int.ofNat u),pR ls] (.dat (t.inst ls u).enc)
 | .mk k nm ix l,u,hs,hx,hd=>by
  simp only[Ty.thin] at hs;simp only[Ty.depth] at hd;simp only[Ty.eX] at hx;have ih:=A5 hls l u hs.2 hx.2 (by omega);have hl:=MS (ls:=ls) (u:=u) (k:=k) (nm:=nm) (ix:=ix) (l:=l) (a:=sl (ax l)) rfl (by omega) hs.1 ih
  cases hk:aQ k 5 with
  | false=>
   rw[inst_none (.inl hk)];exact vp hk (fun h=>by simp at h) hl
  | true=>
   cases hlo:bn ix (Int.ofNat u) with
   | true=>
    rw[inst_none (.inr (instAt_lo hlo))];exact vp hk (fun _=>inst1_lo hlo) hl
   | false=>
    obtain⟨j,rfl,hj⟩:=Nj hlo (hx.1 hk)
    by_cases hin:j < ls.length
    ·have hg:ls[j]?=some ls[j]:=List.getElem?_eq_getElem hin;rw[inst_some hk (instAt_at.trans hg)];exact MR hk (inst1_in (by omega) hg) (hls _ (List.getElem_mem hin))
    rw[inst_none (.inr (instAt_at.trans (List.getElem?_eq_none (by omega))))];exact vp hk (fun _=>inst1_hi (by omega) (by rw[aE];exact hin)) hl
theorem A5 {ls:List Ty} (hls:∀t∈ls,ag 125 [.dat t.enc] (.dat t.enc)):∀(l:List Ty) (u:Nat),kT l->dE l->u+cK l+1 < 1000000000000000->∀t∈l,∀v,v<=u+1->ag 94 [.dat t.enc,iv (Int.ofNat v),pR ls] (.dat (t.inst ls v).enc)
 | [],_,_,_,_,t,ht,_,_=>by simp at ht
 | x::r,u,hs,hx,hd,t,ht,v,hv=>by
  simp only[kT] at hs;simp only[cK] at hd;simp only[dE] at hx
  rcases List.mem_cons.1 ht with h1|ht
  ·rw[h1];exact CU hls x v hs.1 hx.1 (by omega)
  exact A5 hls r u hs.2 hx.2 (by omega) t ht v hv
end
theorem adf {t:Ty} {ls:List Ty} (hls:∀t∈ls,ag 125 [.dat t.enc] (.dat t.enc)) (hs:t.thin) (hx:t.eX) (hd:t.depth < 1000000000000000):ag 60 [.dat t.enc,.dat (sl (ax ls))] (.dat (t.inst ls 0).enc):=by
 have h:=CU hls t 0 hs hx (by omega);generalize t.inst ls 0=r at h;clear hls hs hx hd;refine co [] [] (x:=.of Tryz.f60 QO SC) ?_;obtain⟨v0,v1,v2,v3⟩:=t
 rcases v3 with _|⟨v18,v19⟩
 ·rcases ls with _|⟨v10,v11⟩
  ·refine on h ?_;obtain⟨v4,v5,v6,v7⟩:=r
   rcases v7 with _|⟨v8,v9⟩ <;>
   ·exact fi
  refine on h ?_;obtain⟨v12,v13,v14,v15⟩:=r
  rcases v15 with _|⟨v16,v17⟩ <;>
  ·exact fi
 rcases ls with _|⟨v26,v27⟩
 ·refine on h ?_;obtain⟨v20,v21,v22,v23⟩:=r
  rcases v23 with _|⟨v24,v25⟩ <;>
  ·exact fi
 refine on h ?_;obtain⟨v28,v29,v30,v31⟩:=r
 rcases v31 with _|⟨v32,v33⟩ <;>
 ·exact fi
mutual
theorem inst_nil:∀(t:Ty) (u:Nat),t.inst [] u=t
 | .mk k nm ix l,u=>by
  have h:instAt [] ix u=none:=by unfold instAt;split <;> simp
  rw[inst_none (.inr h),instL_nil l]
theorem instL_nil:∀(l:List Ty) {k:Int} {i u:Nat},instL [] k i l u=l
 | [],_,_,_=>by rw[instL]
 | t::r,k,i,u=>by rw[instL,inst_nil t,instL_nil r]
end
theorem ED {t:Ty} (hs:t.thin) (hx:t.eX) (hd:t.depth < 1000000000000000):ag 58 [.dat t.enc] (.dat t.enc):=by
 have h:=adf (t:=t) (ls:=[]) (fun t ht=>by simp at ht) hs hx hd;rw[inst_nil] at h;clear hs hx hd;refine co [] [] (x:=.of Tryz.f58 QP SD) ?_;obtain⟨v0,v1,v2,v3⟩:=t
 rcases v3 with _|⟨v4,v5⟩ <;>
 ·refine on h ?_;exact fi
theorem Hu {t:Ty} (hs:t.size < 1000000000) (hx:t.eX) (hd:t.depth < 500000000):ag 58 [.dat t.enc] (.dat t.enc):=ED (nC t hs) hx (by omega)
structure dY where
 nm:List UInt8
 ty:Ty
structure aZ where
 nm:List UInt8
 ar:Int
 sup:Ty
 con:Bool
 fl:List dY
def bl (b:Bool):aq:=.flat (.bool b)
def dY.cells (f:dY):List aq:=sb f.nm::f.ty.cells
def dY.enc (f:dY):aq:=.agg f.cells
def aN:List dY->List aq
 | []=>[]
 | f::r=>f.enc::aN r
def aZ.cells (d:aZ):List aq:=sb d.nm::i64 d.ar::(d.sup.cells++[bl d.con,sl (aN d.fl)])
def aZ.enc (d:aZ):aq:=.agg d.cells
def aZ.zero:aZ:=⟨[],0,.mk 0 [] 0 [],false,[]⟩
def av (l:List aq):List ac:=l.map .dat
def bL:List aZ->List aq
 | []=>[]
 | d::r=>d.cells++bL r
def ent (d:aZ) (i:Nat):Go.Value×aq:=(.string ⟨⟨d.nm⟩⟩,i64 (Int.ofNat i))
def bH:List aZ->Nat->List (Go.Value×aq)
 | [],_=>[]
 | d::r,i=>ent d i::bH r (i+1)
def hP:ac:=.ptr (.out 1) 0
def hG (r:Nat) (cs:List ac) (es:List (Go.Value×aq)) (n:Nat):Heap:=[(.out r,.cells cs),(.out 1,.cells [.win (.out r) 8 0 n,.map (.out 0)]),(.out 0,.map es)]
theorem jD (k:Nat):∀cs:List aq,dt k (av cs)=false
 | []=>rfl
 | d::r=>by show (du k (.dat d)||dt k (av r))=false;rw[jD k r];rfl
theorem rW (ρ:Nat->Nat):∀cs:List aq,fO ρ (av cs)=av cs
 | []=>rfl
 | d::r=>by show eN ρ (.dat d)::fO ρ (av r)=_;rw[rW ρ r];rfl
theorem gcG {v:ac} {r m n:Nat} {cs:List aq} {es:List (Go.Value×aq)} (hv:du m v=false) (hr:Nat.blt r m=true) (hm:Nat.blt 1 m=true):ri m ⟨v,hG r (av cs) es n,m⟩=⟨v,hG r (av cs) es n,m⟩:=by
 have h0:Nat.blt 0 m=true:=by simp[Nat.blt_eq] at *;omega
 have hr2:Nat.ble m r=false:=by rw[Nat.blt_eq] at hr;rw[Bool.eq_false_iff,ne_eq,Nat.ble_eq];omega
 have hr3:Nat.ble m 0=false:=by rw[Nat.blt_eq] at h0;rw[Bool.eq_false_iff,ne_eq,Nat.ble_eq];omega
 have h1:eH m (hG r (av cs) es n)=hG r (av cs) es n:=by simp[eH,hG,ko,h0,hr,hm]
 have h2:cC m (hG r (av cs) es n)=false:=by simp[cC,hG,ly,jD,dt,du,hr2,hr3]
 unfold ri;dsimp only;rw[h1,h2,hv];rfl
def dw (nm:List UInt8) (ar k:Int) (nm2:List UInt8) (ix:Int) (la:List aq) (con:Bool) (lb:List aq):aq:=.agg [sb nm,i64 ar,i64 k,sb nm2,i64 ix,sl la,bl con,sl lb]
theorem Tk {cs:List aq} {es:List (Go.Value×aq)} {n i:Nat} {nm nm1 nm2:List UInt8} {ar k ix:Int} {con:Bool} {la lb:List aq}
  (h1:eM (env au.aI) 80 true [.map (.out 0),.dat (sb nm)] (some (.map es))=some ⟨.tup [.dat (i64 (Int.ofNat i)),bv true],.keep⟩)
  (h2:aJ (env au.aI) 23 [.win (.out 2) 8 0 n,iv (Int.ofNat i)]=some ⟨.ptr (.out 2) (0+i*8),.keep⟩)
  (h3:lr (env au.aI) false 35 [.ptr (.out 2) (0+i*8)] (some (.cells (av cs)))=some ⟨.dat (dw nm1 ar k nm2 ix la con lb),.keep⟩)
  : KC 49 [hP,.dat (sb nm)] (hG 2 (av cs) es n) 3 (XQ ⟨.tup [.dat (dw nm1 ar k nm2 ix la con lb),bv true],hG 2 (av cs) es n,3⟩):=by
 have hg:=gcG (v:=.tup [.dat (dw nm1 ar k nm2 ix la con lb),bv true]) (r:=2) (m:=3) (n:=n) (cs:=cs) (es:=es) rfl rfl rfl
 rcases la with _|⟨x,la⟩ <;>
 ·rcases lb with _|⟨y,lb⟩ <;>
  ·refine co [] [14,25,26] (x:=.of Tryz.f49 K7 Jc) ?_;refine oo h1 ?_;refine oo h2 ?_;refine oo h3 ?_;exact bB (by kernel_rfl) hg
theorem XC {cs:List aq} {es:List (Go.Value×aq)} {n:Nat} {nm:List UInt8} 
  (h1:eM (env au.aI) 80 true [.map (.out 0),.dat (sb nm)] (some (.map es))=some ⟨.tup [.dat (i64 0),bv false],.keep⟩)
  : KC 49 [hP,.dat (sb nm)] (hG 2 (av cs) es n) 3 (XQ ⟨.tup [.dat aZ.zero.enc,bv false],hG 2 (av cs) es n,3⟩):=by
 have hg:=gcG (v:=.tup [.dat aZ.zero.enc,bv false]) (r:=2) (m:=3) (n:=n) (cs:=cs) (es:=es) rfl rfl rfl;refine co [] [14] (x:=.of Tryz.f49 K7 Jc) ?_;refine oo h1 ?_;exact bB (by kernel_rfl) hg
def gH:List aZ->List UInt8->Option Nat
 | [],_=>none
 | d::r,nm=>match dv nm d.nm with|true=>some 0|false=>(gH r nm).map (·+1)
def aF:List aZ->List UInt8->Option aZ
 | [],_=>none
 | d::r,nm=>match dv nm d.nm with|true=>some d|false=>aF r nm
theorem iK:∀{ds:List aZ} {nm:List UInt8} {k:Nat},gH ds nm=some k->∃d,ds[k]?=some d/\aF ds nm=some d/\dv nm d.nm=true
 | [],nm,k,h=>by simp[gH] at h
 | d::r,nm,k,h=>by
  unfold gH at h;unfold aF
  cases he:dv nm d.nm with
  | true=>rw[he] at h;simp at h;subst h;exact⟨d,rfl,rfl,he⟩
  | false=>
   rw[he] at h;simp only[Option.map_eq_some_iff] at h;obtain⟨j,hj,rfl⟩:=h;exact iK hj
theorem qC:∀{ds:List aZ} {nm:List UInt8},gH ds nm=none->aF ds nm=none
 | [],nm,h=>rfl
 | d::r,nm,h=>by
  unfold gH at h;unfold aF
  cases he:dv nm d.nm with
  | true=>rw[he] at h;simp at h
  | false=>
   rw[he] at h;simp only[Option.map_eq_none_iff] at h;exact qC h
theorem mZ:∀(ds:List aZ) (nm:List UInt8) (i j:Nat),findF .string (.string ⟨⟨nm⟩⟩) (bH ds i) j=some ((gH ds nm).map fun k=>(j+k,i64 (Int.ofNat (i+k))))
 | [],nm,i,j=>rfl
 | d::r,nm,i,j=>by
  show (match tu .string (.string ⟨⟨nm⟩⟩) (.string ⟨⟨d.nm⟩⟩) with|some true=>some (some (j,i64 (Int.ofNat i)))|some false=>findF .string (.string ⟨⟨nm⟩⟩) (bH r (i+1)) (j+1)|none=>none)=_;rw[show tu .string (.string ⟨⟨nm⟩⟩) (.string ⟨⟨d.nm⟩⟩)=some (dv nm d.nm) from rfl];unfold gH
  cases he:dv nm d.nm with
  | true=>rfl
  | false=>
   dsimp only;rw[mZ r nm (i+1) (j+1)]
   cases gH r nm with
   | none=>rfl
   | some k=>simp only[Option.map_some];rw[show j+1+k=j+(k+1) by omega,show i+1+k=i+(k+1) by omega]
theorem Nl {ds:List aZ} {nm:List UInt8} {k:Nat} (h:gH ds nm=some k):eM (env au.aI) 80 true [.map (.out 0),.dat (sb nm)] (some (.map (bH ds 0)))=some ⟨.tup [.dat (i64 (Int.ofNat k)),bv true],.keep⟩:=by
 have h1:eM (env au.aI) 80 true [.map (.out 0),.dat (sb nm)] (some (.map (bH ds 0)))=(match findF .string (.string ⟨⟨nm⟩⟩) (bH ds 0) 0 with
  | some (some (_,d))=>some (found true d true)|some none=>some ⟨.tup [.dat (i64 0),bv false],.keep⟩|none=>none):=by kernel_rfl
 rw[h1,mZ,h];simp only[Option.map_some,Nat.zero_add];rfl
theorem No {ds:List aZ} {nm:List UInt8} (h:gH ds nm=none):eM (env au.aI) 80 true [.map (.out 0),.dat (sb nm)] (some (.map (bH ds 0)))=some ⟨.tup [.dat (i64 0),bv false],.keep⟩:=by
 have h1:eM (env au.aI) 80 true [.map (.out 0),.dat (sb nm)] (some (.map (bH ds 0)))=(match findF .string (.string ⟨⟨nm⟩⟩) (bH ds 0) 0 with
  | some (some (_,d))=>some (found true d true)|some none=>some ⟨.tup [.dat (i64 0),bv false],.keep⟩|none=>none):=by kernel_rfl
 rw[h1,mZ,h];rfl
theorem yy {r n k:Nat} (h:k < n):aJ (env au.aI) 23 [.win (.out r) 8 0 n,iv (Int.ofNat k)]=some ⟨.ptr (.out r) (0+k*8),.keep⟩:=by
 have h1:aJ (env au.aI) 23 [.win (.out r) 8 0 n,iv (Int.ofNat k)]=(if (Nat.blt k n&&Nat.beq 8 8)=true then some ⟨.ptr (.out r) (0+k*8),.keep⟩ else none):=by kernel_rfl
 rw[h1,if_pos];simp[Nat.blt_eq,h]
theorem jM:∀ds:List aZ,(bL ds).length=ds.length*8
 | []=>rfl
 | d::r=>by
  have:d.cells.length=8:=by obtain⟨a,b,⟨e,f,g,h⟩,i,j⟩:=d;rfl
  simp only[bL,List.length_append,this,jM r,List.length_cons];omega
theorem B8:∀{ds:List aZ} {k:Nat} {d:aZ} {tl:List aq},ds[k]?=some d->((bL ds++tl).drop (0+k*8)).take 8=d.cells
 | [],k,d,tl,h=>by simp at h
 | x::r,k,d,tl,h=>by
  have h8:x.cells.length=8:=by obtain⟨a,b,⟨e,f,g,h⟩,i,j⟩:=x;rfl
  cases k with
  | zero=>
   simp at h;subst h;simp only[bL,Nat.zero_mul,Nat.add_zero,List.drop_zero,List.append_assoc];rw[List.take_append_of_le_length (by omega),List.take_of_length_le (by omega)]
  | succ k=>
   simp at h
   have:=B8 (tl:=tl) h
   rw[←this];simp only[bL,List.append_assoc];rw[show 0+(k+1)*8=x.cells.length+(0+k*8) by omega,List.drop_length_add_append]
theorem E0 (n:Nat):∀l:List aq,fm n (av l)=av (l.take n):=by
 intro l;induction l generalizing n with
 | nil=>cases n <;> rfl
 | cons x r ih=>cases n with|zero=>rfl|succ n=>show ac.dat x::fm n (av r)=_;rw[ih];rfl
theorem TK (n:Nat):∀l:List aq,hY n (av l)=av (l.drop n):=by
 intro l;induction l generalizing n with
 | nil=>cases n <;> rfl
 | cons x r ih=>cases n with|zero=>rfl|succ n=>show hY n (av r)=_;rw[ih];rfl
theorem Gk {ds:List aZ} {k r:Nat} {d:aZ} {tl:List aq} (h:ds[k]?=some d):lr (env au.aI) false 35 [.ptr (.out r) (0+k*8)] (some (.cells (av (bL ds++tl))))=some ⟨.dat d.enc,.keep⟩:=by
 have h1:∀cs,lr (env au.aI) false 35 [.ptr (.out r) (0+k*8)] (some (.cells cs))=uZ (if (fm 8 (hY (0+k*8) cs)).length=8 then some (kf (bu (fm 8 (hY (0+k*8) cs)))) else none):=fun cs=>by kernel_rfl
 rw[h1,TK,E0,B8 h];obtain⟨a,b,⟨e,f,g,i⟩,j,l⟩:=d
 rcases i with _|⟨x,i⟩ <;> rcases l with _|⟨y,l⟩ <;> rfl
def iZ (o:Option aZ):aZ:=match o with|some d=>d|none=>aZ.zero
def fj {α:Type} (o:Option α):Bool:=match o with|some _=>true|none=>false
def hH (r:Nat) (ds:List aZ) (tl:List aq):Heap:=hG r (av (bL ds++tl)) (bH ds 0) ds.length
theorem qX (ds:List aZ) (tl:List aq) (nm:List UInt8):KC 49 [hP,.dat (sb nm)] (hH 2 ds tl) 3 (XQ ⟨.tup [.dat (iZ (aF ds nm)).enc,bv (fj (aF ds nm))],hH 2 ds tl,3⟩):=by
 cases h:gH ds nm with
 | none=>
  rw[qC h];exact XC (No h)
 | some k=>
  obtain⟨d,hd,hf,_⟩:=iK h;rw[hf];have hk:k < ds.length:=by
   rcases Nat.lt_or_ge k ds.length with h|h
   ·exact h
   rw[List.getElem?_eq_none h] at hd;simp at hd
  have h3:=Gk (r:=2) (tl:=tl) hd;obtain⟨a,b,⟨e,f,g,i⟩,j,l⟩:=d;exact Tk (Nl h) (yy hk) h3
theorem aC.jm {g:FuncId} {args:List ac} {heap:Heap} {next:Nat} {Q Q':ac->Heap->Nat->Prop} (h:KC g args heap next Q) (hq:∀v h m,Q v h m->∃h2,h.Perm h2/\Q' v h2 m):KC g args heap next Q':=by
 intro w R N cargs bsA bsH bsF ha hh hnd hnx hg hF;refine (h w R N cargs bsA bsH bsF ha hh hnd hnx hg hF).mono ?_;rintro e w' ⟨v,cv,h1,next',R',N',bsV,bsH',rfl,hq1,hv,hh',hnd',hnx',hk,hN⟩;obtain⟨h2,hp,hq2⟩:=hq _ _ _ hq1;obtain⟨bs2,k1,k2⟩:=hh'.perm hp;refine⟨v,cv,h2,next',R',N',bsV,bs2,rfl,hq2,hv,k1,?_,hnx',hk,hN⟩;exact (List.Perm.nodup_iff (List.Perm.append_left _ (List.Perm.append_right _ k2))).1 hnd'
def Ov (r o:Nat):Nat:=match Nat.beq o 2 with|true=>r|false=>o
abbrev eS (g:FuncId) (args:List ac) (cs:List aq) (es:List (Go.Value×aq)) (n:Nat) (v:ac):Prop:=KC g args (hG 2 (av cs) es n) 3 (XQ ⟨v,hG 2 (av cs) es n,3⟩)
theorem nG {g:FuncId} {args:List ac} {v:ac} {cs:List aq} {es:List (Go.Value×aq)} {n r m:Nat} (ha:dt 3 args=false) (he:fO (Ov r) args=args) (hv:eN (gv (Ov r) 3 m) v=v) (pre:Heap) (h:eS g args cs es n v) :
  KC g args (pre++hG r (av cs) es n) m (XQ ⟨v,pre++hG r (av cs) es n,m⟩):=by
 have e1:∀ρ:Nat->Nat,ρ 0=0->ρ 1=1->ρ 2=r->kK ρ (hG 2 (av cs) es n)=hG r (av cs) es n:=by
  intro ρ h0 h1 h2;simp[hG,kK,mI,rf,rW,fO,eN,h0,h1,h2]
 have hf:=aC.frame h (Ov r) (heap:=pre++hG r (av cs) es n) (rest:=pre) (next:=m) (by rw[e1 _ rfl rfl rfl];exact List.perm_append_comm) (by rfl) (by simp[cC,hG,ly,jD,dt,du];exact⟨rfl,rfl⟩) (by rfl) ha;rw[he] at hf;refine aC.jm hf ?_;rintro v' h' m' ⟨v0,h1,n1,⟨rfl,rfl,rfl⟩,rfl,rfl,rfl⟩;rw[hv,e1 _ rfl rfl rfl];exact⟨_,List.perm_append_comm,rfl,rfl,rfl⟩
theorem EB (r m:Nat) (pre:Heap) (ds:List aZ) (tl:List aq) (nm:List UInt8):KC 49 [hP,.dat (sb nm)] (pre++hH r ds tl) m (XQ ⟨.tup [.dat (iZ (aF ds nm)).enc,bv (fj (aF ds nm))],pre++hH r ds tl,m⟩):=
 nG rfl rfl rfl pre (qX ds tl nm)
theorem gcB (v:ac) (cs:List aq) (es:List (Go.Value×aq)) (n:Nat) (hv:du 3 v=false):ri 3 ⟨v,hG 2 (av cs) es n,3⟩=⟨v,hG 2 (av cs) es n,3⟩:=gcG hv rfl rfl
theorem Em {cs:List aq} {es:List (Go.Value×aq)} {n:Nat} {nm:List UInt8} {k ix:Int} {l:List aq} {nm1 nm2:List UInt8} {ar k1 ix1:Int} {con c:Bool} {la lb:List aq}
  (hf:eS 49 [hP,.dat (sb nm)] cs es n (.tup [.dat (dw nm1 ar k1 nm2 ix1 la con lb),bv true])) (hc:aQ ar (Int.ofNat l.length)=c) :
  eS 59 [hP,.dat (.agg [i64 k,sb nm,i64 ix,sl l])] cs es n (bv c):=by
 have hg:=fun b=>gcB (bv b) cs es n rfl
 have hg1:=hg true;have hg2:=hg false
 rcases l with _|⟨z,l⟩ <;>
 ·rcases la with _|⟨x,la⟩ <;>
  ·rcases lb with _|⟨y,lb⟩ <;>
   ·refine co [21] [] (x:=.of Tryz.f59 K3 I9) ?_;refine oh hf ?_;refine ob hc ?_
    cases c
    ·exact bB (by kernel_rfl) hg2
    exact bB (by kernel_rfl) hg1
theorem Hf {cs:List aq} {es:List (Go.Value×aq)} {n:Nat} {nm:List UInt8} {k ix:Int} {l:List aq}
  (hf:eS 49 [hP,.dat (sb nm)] cs es n (.tup [.dat aZ.zero.enc,bv false])) :
  eS 59 [hP,.dat (.agg [i64 k,sb nm,i64 ix,sl l])] cs es n (bv false):=by
 have hg:=gcB (bv false) cs es n rfl
 rcases l with _|⟨z,l⟩ <;>
 ·refine co [] [] (x:=.of Tryz.f59 K3 I9) ?_;refine oh hf ?_;exact bB (by kernel_rfl) hg
def box:Name×aT:=(.out 3,.cells [hP])
def hB (cs:List aq) (es:List (Go.Value×aq)) (n:Nat):Heap:=box::hG 2 (av cs) es n
def bP:ac:=.ptr (.out 3) 0
theorem gcC (v:ac) (cs:List aq) (es:List (Go.Value×aq)) (n:Nat) (hv:du 4 v=false):ri 4 ⟨v,hB cs es n,4⟩=⟨v,hB cs es n,4⟩:=by
 have h1:eH 4 (hB cs es n)=hB cs es n:=rfl;have h2:cC 4 (hB cs es n)=false:=by simp[cC,hB,hG,ly,jD,dt,du,box,hP];exact⟨rfl,rfl,rfl⟩
 unfold ri;dsimp only;rw[h1,h2,hv];rfl
theorem gcD (v:ac) (cs:List aq) (es:List (Go.Value×aq)) (n:Nat) (hv:du 3 v=false):ri 3 ⟨v,hB cs es n,4⟩=⟨v,hG 2 (av cs) es n,3⟩:=by
 have h1:eH 3 (hB cs es n)=hG 2 (av cs) es n:=rfl;have h2:cC 3 (hG 2 (av cs) es n)=false:=by simp[cC,hG,ly,jD,dt,du];exact⟨rfl,rfl⟩
 unfold ri;dsimp only;rw[h1,h2,hv];rfl
abbrev EO (g:FuncId) (args:List ac) (cs:List aq) (es:List (Go.Value×aq)) (n:Nat) (v:ac):Prop:=KC g args (hB cs es n) 4 (XQ ⟨v,hB cs es n,4⟩)
theorem Ns {cs:List aq} {es:List (Go.Value×aq)} {n:Nat} {k ix:Int} {nm:List UInt8} {l:List aq} {c:Bool} (h:EO 39 [hP,.dat (.agg [i64 k,sb nm,i64 ix,sl l])] cs es n (bv c)) :
  EO 70 [.dat (.agg [i64 k,sb nm,i64 ix,sl l]),bP] cs es n (bv (!c)):=by
 have hg:=gcC (bv (!c)) cs es n rfl
 rcases l with _|⟨z,l⟩ <;>
 ·refine co [] [] (x:=.of Tryz.f70 QM SA) ?_;refine oh h ?_;exact bB (by kernel_rfl) hg
theorem dC {α:Type} {l:List α} {i:Nat} {t:α} (h:l[i]?=some t):l.drop i=t::l.drop (i+1):=by
 obtain⟨hi,rfl⟩:=List.getElem?_eq_some_iff.1 h;exact List.drop_eq_getElem_cons hi
def va {α:Type} (p:α->Bool):List α->Nat->Int
 | [],_=>-1
 | x::r,i=>match p x with|true=>Int.ofNat i|false=>va p r (i+1)
theorem D2 {α:Type} {p:α->Bool}:∀{l:List α} {i:Nat},bn (va p l i) 0=!(l.any p)
 | [],_=>rfl
 | x::r,i=>by
  simp only[va,List.any_cons]
  cases p x with
  | true=>exact br (i:=i) (L:=0) (by omega)
  | false=>rw[D2,Bool.false_or]
theorem Av {α:Type} {p:α->Bool} {l:List α} {i:Nat} {t:α} (h:l[i]?=some t):va p (l.drop i) i=match p t with|true=>Int.ofNat i|false=>va p (l.drop (i+1)) (i+1):=by rw[dC h];rfl
noncomputable def Xi:Hints:=⟨an,wU,ap,rowsOf ap 99⟩
def Xz:ac:=.fn (.func 70) [] [bP]
def stI (H:Heap) (nx:Nat) (l:List aq) (i:Int):ab:=⟨[(8,iv i),(7,iv (Int.ofNat l.length)),(0,.dat (.slice l)),(1,Xz)],[],H,nx⟩
def aed (H:Heap) (nx:Nat) (l:List aq):ab:=⟨[(9,bv false),(8,iv (Int.ofNat l.length)),(7,iv (Int.ofNat l.length)),(0,.dat (.slice l)),(1,Xz)],[],H,nx⟩
def aee (H:Heap) (nx:Nat) (i:Nat):ab:=⟨[(4,iv (Int.ofNat i))],[],H,nx⟩
def Z1 (H:Heap) (nx:Nat):ab:=⟨[(8,iv 0),(7,iv 0),(0,.dat nl),(1,Xz)],[],H,nx⟩
def Yz (H:Heap) (nx:Nat):ab:=⟨[(9,bv false),(8,iv 0),(7,iv 0),(0,.dat nl),(1,Xz)],[],H,nx⟩
theorem Gz {l:List Ty} {t:Ty} {H:Heap} {nx i:Nat} {c:Bool} {T:Exit->aa->Prop} (hi:i < (ax l).length) (ht:l[i]?=some t) (hc:KC 70 [.dat t.enc,bP] H nx (XQ ⟨bv c,H,nx⟩))
  (e1:c=false->T .normal ((stI H nx (ax l) (aG .i64 (Int.ofNat i+1))).aw Tryz.f99.ntmps)) (e2:c=true->T .ret ((aee H nx i).aw Tryz.f99.ntmps)) :
  KD (roundOf Tryz.f99 0) T ((stI H nx (ax l) (Int.ofNat i)).aw Tryz.f99.ntmps):=by
 have h1:=bd hi;have h2:=jU ht;generalize ax l=es at *;clear ht hi;obtain⟨k2,nm2,ix2,a2⟩:=t
 rcases a2 with _|⟨b,d⟩ <;>
 ·cases c
  ·refine aB [9] [14] (H:=Xi) (live:=jr) (by kernel_rfl) ?_;refine ob h1 ?_;refine oo h2 ?_;refine oh hc ?_;exact oe (e1 rfl)
  refine aB [9] [14] (H:=Xi) (live:=jr) (by kernel_rfl) ?_;refine ob h1 ?_;refine oo h2 ?_;refine oh hc ?_;exact oe (e2 rfl)
theorem Ny {l:List aq} {H:Heap} {nx:Nat} {T:Exit->aa->Prop} (e1:T (.exit 0) ((aed H nx l).aw Tryz.f99.ntmps)) :
  KD (roundOf Tryz.f99 0) T ((stI H nx l (Int.ofNat l.length)).aw Tryz.f99.ntmps):=by
 have h1:=br (i:=l.length) (L:=l.length) (by omega);refine aB [9] [] (H:=Xi) (live:=jr) (by kernel_rfl) ?_;refine ob h1 ?_;exact oe e1
theorem Jz {H:Heap} {nx:Nat} {T:Exit->aa->Prop} (e1:T (.exit 0) ((Yz H nx).aw Tryz.f99.ntmps)) :
  KD (roundOf Tryz.f99 0) T ((Z1 H nx).aw Tryz.f99.ntmps):=by
 refine aB [] [] (H:=Xi) (live:=jr) (by kernel_rfl) ?_;exact oe e1
theorem JB {l:List Ty} {p:Ty->Bool} {H:Heap} {nx:Nat} {x:aq} {r:List aq} (hl0:ax l=x::r) (hg:∀v,du nx v=false->ri nx ⟨v,H,nx⟩=⟨v,H,nx⟩) (hp:∀t∈l,KC 70 [.dat t.enc,bP] H nx (XQ ⟨bv (p t),H,nx⟩)) (hb:l.length < 1000000000) :
  KC 99 [.dat (.slice (x::r)),Xz] H nx (XQ ⟨iv (va p l 0),H,nx⟩):=by
 have hl:KD (.loop (roundOf Tryz.f99 0)) (fun e s=>(e=.exit 0/\va p l 0=-1/\s=(aed H nx (x::r)).aw Tryz.f99.ntmps)∨(e=.ret/\∃i:Nat,va p l 0=Int.ofNat i/\s=(aee H nx i).aw Tryz.f99.ntmps)) ((stI H nx (x::r) (Int.ofNat 0)).aw Tryz.f99.ntmps):=by
  rw[←hl0];refine cE (St:=fun i=>(stI H nx (ax l) (Int.ofNat i)).aw Tryz.f99.ntmps) (fun i=>va p l 0=va p (l.drop i) i) (ax l).length ?_ ?_ (i:=0) (Nat.zero_le _) rfl
  ·intro i hi hI;obtain⟨t,ht,hm⟩:=get_mem hi;have ha:=Av (p:=p) ht;have hw:aG .i64 (Int.ofNat i+1)=Int.ofNat (i+1):=bb (by rw[aE] at hi;omega);have hc:=hp t hm;rw[←hI] at ha;generalize p t=c at hc ha;refine Gz hi ht hc ?_ ?_
   ·rintro rfl;rw[hw];exact⟨rfl,ha⟩
   rintro rfl;exact .inr ⟨rfl,i,ha,rfl⟩
  intro hI;refine Ny (.inl ⟨rfl,?_,rfl⟩);rw[hI,aE,List.drop_length];rfl
 have hg1:=hg (iv (va p l 0)) rfl;clear hp hb hg;generalize hj:va p l 0=j at hg1 hl;clear hj hl0;refine co [] [] (x:=.of Tryz.f99 wU jr) ?_;refine lo hl ?_;rintro ex s (⟨rfl,rfl,rfl⟩|⟨rfl,⟨x0,rfl,rfl⟩⟩) <;>
 ·refine⟨_,rfl,?_⟩;exact bB (by kernel_rfl) hg1
theorem adi {l:List Ty} {p:Ty->Bool} {H:Heap} {nx:Nat} (hg:∀v,du nx v=false->ri nx ⟨v,H,nx⟩=⟨v,H,nx⟩) (hp:∀t∈l,KC 70 [.dat t.enc,bP] H nx (XQ ⟨bv (p t),H,nx⟩)) (hb:l.length < 1000000000) :
  KC 69 [.dat (sl (ax l)),Xz] H nx (XQ ⟨bv (l.any p),H,nx⟩):=by
 cases l with
 | nil=>
  have h0:KC 99 [.dat nl,Xz] H nx (XQ ⟨iv (-1),H,nx⟩):=by
   have hg1:=hg (iv (-1)) rfl;have hl:KD (.loop (roundOf Tryz.f99 0)) (fun e s=>(e=.exit 0/\s=(Yz H nx).aw Tryz.f99.ntmps)) ((Z1 H nx).aw Tryz.f99.ntmps):=by
    refine ba (St:=fun _=>(Z1 H nx).aw Tryz.f99.ntmps) 0 (fun i hi=>absurd hi (Nat.not_lt_zero i)) ?_ (i:=0) (Nat.le_refl _);exact Jz ⟨rfl,rfl⟩
   clear hg hp hb;refine co [] [] (x:=.of Tryz.f99 wU jr) ?_;refine lo hl ?_;rintro ex s ⟨rfl,rfl⟩;refine⟨_,rfl,?_⟩;exact bB (by kernel_rfl) hg1
  have hg1:=hg (bv false) rfl;clear hg hp hb;refine co [] [] (x:=.of Tryz.f69 Cn An) ?_;refine oh h0 ?_;exact bB (by kernel_rfl) hg1
 | cons t r=>
  have h:=JB (l:=t::r) (x:=t.enc) (r:=ax r) rfl hg hp hb;have h3:=D2 (p:=p) (l:=t::r) (i:=0);have hg1:=hg (bv (!(!((t::r).any p)))) rfl;generalize (t::r).any p=c at h3 hg1;have hg2:ri nx ⟨bv (!(!c)),H,nx⟩=⟨bv c,H,nx⟩:=by rw[hg1,Bool.not_not]
  clear hg1;generalize va p (t::r) 0=j at h3 h;show KC 69 [.dat (.slice (t.enc::ax r)),Xz] H nx _;generalize t.enc=x at h;generalize ax r=xs at h;clear hp hb hg;refine co [8] [] (x:=.of Tryz.f69 Cn An) ?_;refine oh h ?_;refine ox h3 ?_;exact bB (by kernel_rfl) hg2
theorem SR {cs:List aq} {es:List (Go.Value×aq)} {n:Nat} {k ix:Int} {nm:List UInt8} {l:List aq} {c kn d:Bool} (hk:aQ k 2=kn) (hd:eS 59 [hP,.dat (.agg [i64 k,sb nm,i64 ix,sl l])] cs es n (bv d))
  (h:EO 69 [.dat (sl l),Xz] cs es n (bv c)) :
  eS 39 [hP,.dat (.agg [i64 k,sb nm,i64 ix,sl l])] cs es n (bv (!(kn&&!d)&&!c)):=by
 have hg1:=gcD (bv (!c)) cs es n rfl;have hg3:=gcB (bv false) cs es n rfl
 rcases l with _|⟨z,l⟩
 ·refine co [7] [] (x:=.of Tryz.f39 Lc Je) ?_;refine ob hk ?_
  cases kn
  ·refine oh h ?_;exact bB (by kernel_rfl) hg1
  refine oh hd ?_
  cases d
  ·exact bB (by kernel_rfl) hg3
  refine oh h ?_;exact bB (by kernel_rfl) hg1
 refine co [7] [] (x:=.of Tryz.f39 Lc Je) ?_;refine ob hk ?_
 cases kn
 ·refine oh h ?_;exact bB (by kernel_rfl) hg1
 refine oh hd ?_
 cases d
 ·exact bB (by kernel_rfl) hg3
 refine oh h ?_;exact bB (by kernel_rfl) hg1
def oS (ds:List aZ) (t:Ty):Bool:=match t with|.mk _ nm _ l=>(match aF ds nm with|some d=>aQ d.ar (Int.ofNat (ax l).length)|none=>false)
mutual
def cF (ds:List aZ):Ty->Bool
 | .mk k nm ix l=>!(aQ k 2&&!oS ds (.mk k nm ix l))&&!kb ds l
def kb (ds:List aZ):List Ty->Bool
 | []=>false
 | t::r=>!cF ds t||kb ds r
end
theorem Ae (ds:List aZ):∀l:List Ty,kb ds l=l.any (fun t=>!cF ds t)
 | []=>by simp[kb]
 | t::r=>by simp[kb,Ae ds r]
abbrev oH (g:FuncId) (args:List ac) (ds:List aZ) (tl:List aq) (v:ac):Prop:=eS g args (bL ds++tl) (bH ds 0) ds.length v
theorem J6 (ds:List aZ) (tl:List aq) (t:Ty):oH 59 [hP,.dat t.enc] ds tl (bv (oS ds t)):=by
 obtain⟨k,nm,ix,l⟩:=t;have h:=qX ds tl nm;have e:oS ds (.mk k nm ix l)=(match aF ds nm with|some d=>aQ d.ar (Int.ofNat (ax l).length)|none=>false):=rfl;rw[e];clear e
 cases hf:aF ds nm with
 | none=>rw[hf] at h;exact Hf h
 | some d=>
  rw[hf] at h;obtain⟨a,b,⟨k2,nm2,ix2,l2⟩,j,fl⟩:=d;exact Em h rfl
mutual
theorem yH (ds:List aZ) (tl:List aq):∀t:Ty,t.size < 1000000000->oH 39 [hP,.dat t.enc] ds tl (bv (cF ds t))
 | .mk k nm ix l,hs=>by
  have hsl:aS l < 1000000000:=by simp only[Ty.size] at hs;omega
  have hlen:=eh l;have ih:=Hr ds tl l hsl;have h1:∀t∈l,EO 70 [.dat t.enc,bP] (bL ds++tl) (bH ds 0) ds.length (bv (!cF ds t)):=by
   intro t ht;have h2:=nG (r:=2) (m:=4) rfl rfl rfl [box] (ih t ht);obtain⟨k2,nm2,ix2,l2⟩:=t;exact Ns h2
  have h3:=adi (p:=fun t=>!cF ds t) (fun v hv=>gcC v _ _ _ hv) h1 (by omega);rw[←Ae] at h3;have h4:=SR rfl (J6 ds tl (.mk k nm ix l)) h3;rw[cF];exact h4
theorem Hr (ds:List aZ) (tl:List aq):∀l:List Ty,aS l < 1000000000->∀t∈l,oH 39 [hP,.dat t.enc] ds tl (bv (cF ds t))
 | [],_,t,ht=>by simp at ht
 | x::r,h,t,ht=>by
  simp only[aS] at h
  rcases List.mem_cons.1 ht with h1|ht
  ·rw[h1];exact yH ds tl x (by omega)
  exact Hr ds tl r (by omega) t ht
end
noncomputable def tiF:TI:=match Go.Tp.elemOf (env au.aI) 33 with|some t=>t|none=>default
theorem OW:Go.Tp.elemOf (env au.aI) 33=some tiF:=by kernel_rfl
theorem yS:tiF.size=5:=by kernel_rfl
theorem qc:∀l:List dY,aN l=l.map dY.enc
 | []=>by simp[aN]
 | t::r=>by simp[aN,qc r]
theorem bc (l:List dY):(aN l).length=l.length:=by simp[qc]
theorem TB {l:List dY} {i:Nat} {t:dY} (h:l[i]?=some t):(aN l)[i]?=some t.enc:=by simp[qc,h]
theorem Tn (f:dY):f.enc.cells.length=5:=by obtain⟨a,⟨b,c,d,e⟩⟩:=f;rfl
theorem sG {l:List dY} {i:Nat} {t:dY} (h:l[i]?=some t):aJ (env au.aI) 33 [.dat (.slice (aN l)),.dat (.flat (.int .i64 (Int.ofNat i)))]=some ⟨.ref t.cells,.keep⟩:=
 uO OW rfl (TB h) (by rw[yS];exact Tn t) (by rw[yS];decide)
theorem gx {l:List dY} {i:Nat} (h:i < (aN l).length):∃t,l[i]?=some t/\t∈l:=by
 rw[bc] at h;exact⟨l[i],List.getElem?_eq_getElem h,List.getElem_mem h⟩
def Ix:List dY->ac
 | []=>.dat nl
 | t::r=>.own (aN (t::r))
theorem TA {l:List dY} {d:aq} (h:d∈aN l):∃t,d=dY.enc t:=by
 rw[qc] at h;obtain⟨t,_,rfl⟩:=List.mem_map.1 h;exact⟨t,rfl⟩
theorem Ha (a b:List dY):aN (a++b)=aN a++aN b:=by simp[qc]
theorem AR (l:List dY):sizedB 5 (aN l)=true:=gF (fun d hd=>by obtain⟨t,rfl⟩:=TA hd;exact Tn t)
theorem JW (l:List dY):ez (aN l)=false:=by
 cases l with
 | nil=>rfl
 | cons t r=>rfl
theorem agY {pre:List dY} {t:dY} (hl:pre.length < 1000000000):cj (env au.aI) false 33 [.own (aN pre),.dat (.slice [t.enc])] none=some ⟨.own (aN (pre++[t])),.keep⟩:=by
 rw[Ha];refine ra (i:=tiF) (ds:=[t.enc]) (k:=4) OW rfl yS ?_ ?_ (by kernel_rfl) ?_ ?_ ?_ (by simp)
 ·exact AR [t]
 ·exact AR pre
 ·have h1:tiF.bytes<=1000:=fH (by kernel_rfl);rw[bc]
  calc (pre.length+1)*tiF.bytes<=1000000000*1000:=Nat.mul_le_mul (by omega) h1
   _<=140737488355328:=by decide
 ·rw[bc];simp[lim];omega
 unfold fQ;rw[show aN pre++[t.enc]=aN (pre++[t]) by rw[Ha];rfl,JW]
noncomputable def LV:Hints:=⟨an,K6,ap,rowsOf ap 53⟩
def I6 (nm:List UInt8) (ar k:Int) (nm2:List UInt8) (ix:Int) (a:ac) (con:Bool) (b:ac):Heap:=[(.loc 3,.cells [.dat (sb nm),iv ar,iv k,.dat (sb nm2),iv ix,a,.dat (bl con),b]),(.loc 2,.cells [.dat (sb []),iv 0,iv 0,.dat (sb []),iv 0,.dat nl,.dat (bl false),.dat nl])]
def Py (lo:Heap) (a:aq) (n:Nat) (i:Int):ab:=⟨[(15,iv i),(14,iv (Int.ofNat n)),(13,.dat a),(3,.ptr (.loc 3) 0),(2,.ptr (.loc 2) 0)],lo,[],0⟩
def YK (lo:Heap) (a:aq) (n:Nat) (i:Int):ab:=⟨[(16,bv false),(15,iv i),(14,iv (Int.ofNat n)),(13,.dat a),(3,.ptr (.loc 3) 0),(2,.ptr (.loc 2) 0)],lo,[],0⟩
theorem T6 {nm:List UInt8} {ar k:Int} {nm2:List UInt8} {ix:Int} {la:List aq} {con:Bool} {l pre:List dY} {i:Nat} {t:dY} (hi:i < (aN l).length) (ht:l[i]?=some t) (hc:ag 58 [.dat t.ty.enc] (.dat t.ty.enc)) (hp:pre.length < 1000000000) {T:Exit->aa->Prop}
  (e:T .normal ((Py (I6 nm ar k nm2 ix (.dat (sl la)) con (Ix (pre++[t]))) (.slice (aN l)) (aN l).length (aG .i64 (Int.ofNat i+1))).aw Tryz.f53.ntmps)) :
  KD (roundOf Tryz.f53 0) T ((Py (I6 nm ar k nm2 ix (.dat (sl la)) con (Ix pre)) (.slice (aN l)) (aN l).length (Int.ofNat i)).aw Tryz.f53.ntmps):=by
 have h1:=bd hi;have h2:=sG ht;have h3:=agY (t:=t) hp;clear ht hi hp;obtain⟨fn,k2,fnm,fix,fl⟩:=t;generalize aN l=es at *
 rcases pre with _|⟨d,r⟩ <;>
 ·rcases la with _|⟨x,la⟩ <;>
  ·rcases fl with _|⟨y,fl⟩ <;>
   ·refine aB [16] [17,28] (H:=LV) (live:=DR) (by kernel_rfl) ?_;refine ob h1 ?_;refine oo h2 ?_;refine on hc ?_;refine oo h3 ?_;exact oe e
theorem X0 {nm:List UInt8} {ar k:Int} {nm2:List UInt8} {ix:Int} {la:List aq} {con:Bool} {pre:List dY} {a:aq} {n:Nat} {T:Exit->aa->Prop}
  (e:T (.exit 0) ((YK (I6 nm ar k nm2 ix (.dat (sl la)) con (Ix pre)) a n (Int.ofNat n)).aw Tryz.f53.ntmps)) :
  KD (roundOf Tryz.f53 0) T ((Py (I6 nm ar k nm2 ix (.dat (sl la)) con (Ix pre)) a n (Int.ofNat n)).aw Tryz.f53.ntmps):=by
 have h1:=br (i:=n) (L:=n) (by omega)
 rcases pre with _|⟨d,r⟩ <;>
 ·refine aB [16] [] (H:=LV) (live:=DR) (by kernel_rfl) ?_;refine ob h1 ?_;exact oe e
theorem XZ {nm:List UInt8} {ar k:Int} {nm2:List UInt8} {ix:Int} {la:List aq} {con:Bool} {l:List dY} {a:aq} (ha:a=sl (aN l)) (ih:∀t∈l,ag 58 [.dat t.ty.enc] (.dat t.ty.enc)) (hb:l.length < 1000000000) :
  KD (.loop (roundOf Tryz.f53 0)) (fun e s=>e=.exit 0/\s=(YK (I6 nm ar k nm2 ix (.dat (sl la)) con (Ix l)) a (aN l).length (Int.ofNat (aN l).length)).aw Tryz.f53.ntmps)
   ((Py (I6 nm ar k nm2 ix (.dat (sl la)) con (Ix [])) a (aN l).length (Int.ofNat 0)).aw Tryz.f53.ntmps):=by
 refine ba (St:=fun i=>(Py (I6 nm ar k nm2 ix (.dat (sl la)) con (Ix (l.take i))) a (aN l).length (Int.ofNat i)).aw Tryz.f53.ntmps) (aN l).length ?_ ?_ (i:=0) (Nat.zero_le _)
 ·intro i hi;obtain⟨t,ht,hm⟩:=gx hi;have ha2:a=.slice (aN l):=by
   rw[ha]
   cases l with
   | nil=>simp at ht
   | cons x r=>rfl
  subst ha2;refine T6 hi ht (ih t hm) (by rw[List.length_take];omega) ?_;rw[bc] at hi;rw[bb (by omega),←dZ ht];rfl
 refine X0 ⟨rfl,?_⟩;rw[bc,List.take_length]
theorem ac7 {nm:List UInt8} {ar k ix:Int} {nm2:List UInt8} {la:List aq} {con:Bool} {l:List dY} (hs:ag 58 [.dat (.agg [i64 k,sb nm2,i64 ix,sl la])] (.dat (.agg [i64 k,sb nm2,i64 ix,sl la])))
  (ih:∀t∈l,ag 58 [.dat t.ty.enc] (.dat t.ty.enc)) (hb:l.length < 1000000000) :
  ag 53 [.dat (dw nm ar k nm2 ix la con (aN l))] (.dat (dw nm ar k nm2 ix la con (aN l))):=by
 have hl:=XZ (nm:=nm) (ar:=ar) (k:=k) (nm2:=nm2) (ix:=ix) (la:=la) (con:=con) (l:=l) rfl ih hb;clear ih hb
 rcases l with _|⟨f,l⟩ <;>
 ·rcases la with _|⟨x,la⟩ <;>
  ·refine co [] [] (x:=.of Tryz.f53 K6 DR) ?_;refine on hs ?_;refine lo hl ?_;rintro ex s ⟨rfl,rfl⟩;refine⟨_,rfl,?_⟩;exact fi
def Ty.cX (t:Ty):Prop:=t.size < 100000000/\t.eX
def aZ.cX (d:aZ):Prop:=d.sup.cX/\(∀f∈d.fl,f.ty.cX)/\d.fl.length < 1000000000
theorem Hv {t:Ty} (h:t.cX):ag 58 [.dat t.enc] (.dat t.enc):=Hu (by have:=h.1;omega) h.2 (by have:=h.1;have:=ln t;omega)
theorem qg {d:aZ} (h:d.cX):ag 53 [.dat d.enc] (.dat d.enc):=by
 obtain⟨h1,h2,h3⟩:=h;obtain⟨a,b,⟨k2,nm2,ix2,l2⟩,j,fl⟩:=d;exact ac7 (Hv h1) (fun t ht=>Hv (h2 t ht)) h3
theorem agS {nm nm2:List UInt8} {t u:Ty} {c d:Bool} (h1:dv nm nm2=c) (h:ag 91 [.dat t.enc,.dat u.enc] (bv d)) :
  ag 90 [.dat (dY.enc ⟨nm,t⟩),.dat (dY.enc ⟨nm2,u⟩)] (bv (c&&d)):=by
 obtain⟨k,tn,ix,l⟩:=t;obtain⟨k2,tn2,ix2,l2⟩:=u
 rcases l with _|⟨x,l⟩ <;>
 ·rcases l2 with _|⟨x2,l2⟩ <;>
  ·refine co [9] [] (x:=.of Tryz.f90 QD Sq) ?_;refine ob h1 ?_
   cases c
   ·exact fi
   refine on h ?_;exact fi
def fnE:ac:=.fn (.func 90) [] []
noncomputable def aaX:Hints:=⟨an,wV,ap,rowsOf ap 92⟩
def stE (a b:aq) (n:Nat) (i:Int):ab:=⟨[(17,iv i),(16,iv (Int.ofNat n)),(15,.dat a),(1,.dat b),(2,fnE)],[],[],0⟩
def Z4 (a b:aq) (n:Nat) (i:Int):ab:=⟨[(18,bv false),(17,iv i),(16,iv (Int.ofNat n)),(15,.dat a),(1,.dat b),(2,fnE)],[],[],0⟩
def Z5 (c:Bool):ab:=⟨[(6,bv c)],[],[],0⟩
def dY.eq (f g:dY):Bool:=dv f.nm g.nm&&NP f.ty g.ty
def sK:List dY->List dY->Bool
 | f::r,g::s=>f.eq g&&sK r s
 | _,_=>true
theorem TG {l l2:List dY} {t u:dY} {i:Nat} {c:Bool} {T:Exit->aa->Prop} (hi:i < (aN l).length) (ht:l[i]?=some t) (hu:l2[i]?=some u) (hc:ag 90 [.dat t.enc,.dat u.enc] (bv c))
  (e1:c=true->T .normal ((stE (.slice (aN l)) (.slice (aN l2)) (aN l).length (aG .i64 (Int.ofNat i+1))).aw Tryz.f92.ntmps)) (e2:c=false->T .ret ((Z5 false).aw Tryz.f92.ntmps)) :
  KD (roundOf Tryz.f92 0) T ((stE (.slice (aN l)) (.slice (aN l2)) (aN l).length (Int.ofNat i)).aw Tryz.f92.ntmps):=by
 have h1:=bd hi;have h2:=sG ht;have h3:=sG hu;generalize aN l=es at *;generalize aN l2=es2 at *;clear ht hi hu;obtain⟨nm,k,tn,ix,a⟩:=t;obtain⟨nm2,k2,tn2,ix2,b⟩:=u
 rcases a with _|⟨x,a⟩ <;>
 ·rcases b with _|⟨y,b⟩ <;>
  ·cases c
   ·refine aB [18] [20,24] (H:=aaX) (live:=nN) (by kernel_rfl) ?_;refine ob h1 ?_;refine oo h2 ?_;refine oo h3 ?_;refine on hc ?_;exact oe (e2 rfl)
   refine aB [18] [20,24] (H:=aaX) (live:=nN) (by kernel_rfl) ?_;refine ob h1 ?_;refine oo h2 ?_;refine oo h3 ?_;refine on hc ?_;exact oe (e1 rfl)
theorem XK {a b:aq} {n:Nat} {T:Exit->aa->Prop} (e:T (.exit 0) ((Z4 a b n (Int.ofNat n)).aw Tryz.f92.ntmps)) :
  KD (roundOf Tryz.f92 0) T ((stE a b n (Int.ofNat n)).aw Tryz.f92.ntmps):=by
 have h1:=br (i:=n) (L:=n) (by omega);refine aB [18] [] (H:=aaX) (live:=nN) (by kernel_rfl) ?_;refine ob h1 ?_;exact oe e
theorem CL {l l2:List dY} {i:Nat} {t u:dY} (ht:l[i]?=some t) (hu:l2[i]?=some u):sK (l.drop i) (l2.drop i)=(t.eq u&&sK (l.drop (i+1)) (l2.drop (i+1))):=by rw[dC ht,dC hu];rfl
theorem XJ {l l2:List dY} {a b:aq} (ha:a=sl (aN l)) (hb:b=sl (aN l2)) (hlen:l.length=l2.length) (hn:l.length < 1000000000) (hc:∀t∈l,∀u∈l2,ag 90 [.dat t.enc,.dat u.enc] (bv (t.eq u))) :
  KD (.loop (roundOf Tryz.f92 0)) (fun e s=>(e=.exit 0/\sK l l2=true/\s=(Z4 a b (aN l).length (Int.ofNat (aN l).length)).aw Tryz.f92.ntmps)∨(e=.ret/\sK l l2=false/\s=(Z5 false).aw Tryz.f92.ntmps)) ((stE a b (aN l).length (Int.ofNat 0)).aw Tryz.f92.ntmps):=by
 refine cE (St:=fun i=>(stE a b (aN l).length (Int.ofNat i)).aw Tryz.f92.ntmps) (fun i=>sK l l2=sK (l.drop i) (l2.drop i)) (aN l).length ?_ ?_ (i:=0) (Nat.zero_le _) rfl
 ·intro i hi hI;obtain⟨t,ht,hm⟩:=gx hi;have hi2:=hi;rw[bc] at hi2;have hu:l2[i]?=some l2[i]:=List.getElem?_eq_getElem (by omega);have hm2:l2[i]∈l2:=List.getElem_mem _;generalize l2[i]=u at hu hm2;have h:=hc t hm u hm2;have hd:=CL ht hu;rw[←hI] at hd;have hw:aG .i64 (Int.ofNat i+1)=Int.ofNat (i+1):=bb (by omega);have ha2:a=.slice (aN l):=by
   rw[ha]
   cases l with
   | nil=>simp at ht
   | cons x r=>rfl
  have hb2:b=.slice (aN l2):=by
   rw[hb]
   cases l2 with
   | nil=>simp at hu
   | cons x r=>rfl
  subst ha2;subst hb2;generalize t.eq u=c at h hd;refine TG hi ht hu h ?_ ?_
  ·rintro rfl;rw[hw];exact⟨rfl,hd⟩
  rintro rfl;exact .inr ⟨rfl,hd,rfl⟩
 intro hI;refine XK (.inl ⟨rfl,?_,rfl⟩);rw[hI,bc,List.drop_length]
 cases l2.drop l.length <;> rfl
def acX (l l2:List dY):Bool:=aQ (Int.ofNat (aN l).length) (Int.ofNat (aN l2).length)&&sK l l2
theorem L5 {l l2:List dY} {c:Bool} (h:aQ (Int.ofNat (aN l).length) (Int.ofNat (aN l2).length)=c):c=true->l.length=l2.length:=by
 rintro rfl;rw[qa,bc,bc] at h;simpa using h
theorem ac0 {a b:aq} {la lb:List aq} (ha:a=sl la) (hb:b=sl lb) {c d:Bool} (h:aQ (Int.ofNat la.length) (Int.ofNat lb.length)=c)
  (hl:c=true->KD (.loop (roundOf Tryz.f92 0)) (fun e s=>(e=.exit 0/\d=true/\s=(Z4 a b la.length (Int.ofNat la.length)).aw Tryz.f92.ntmps)∨(e=.ret/\d=false/\s=(Z5 false).aw Tryz.f92.ntmps)) ((stE a b la.length (Int.ofNat 0)).aw Tryz.f92.ntmps)) :
  ag 92 [.dat a,.dat b,fnE] (bv (c&&d)):=by
 subst ha;subst hb
 rcases la with _|⟨x,la⟩
 ·rcases lb with _|⟨y,lb⟩
  ·cases c
   ·exact Bool.noConfusion (show true=false from h)
   have hl2:=hl rfl;clear hl;refine co [] [] (x:=.of Tryz.f92 wV nN) ?_;refine lo hl2 ?_;rintro ex s (⟨rfl,rfl,rfl⟩|⟨rfl,rfl,rfl⟩) <;>
   ·refine⟨_,rfl,?_⟩;exact fi
  cases c
  ·refine co [] [] (x:=.of Tryz.f92 wV nN) ?_;exact fi
  exact Bool.noConfusion (show false=true from h)
 rcases lb with _|⟨y,lb⟩
 ·cases c
  ·refine co [] [] (x:=.of Tryz.f92 wV nN) ?_;exact fi
  exact Bool.noConfusion (show false=true from h)
 cases c
 ·refine co [14] [] (x:=.of Tryz.f92 wV nN) ?_;refine ox h ?_;exact fi
 have hl2:=hl rfl;clear hl;refine co [14] [] (x:=.of Tryz.f92 wV nN) ?_;refine ox h ?_;refine lo hl2 ?_;rintro ex s (⟨rfl,rfl,rfl⟩|⟨rfl,rfl,rfl⟩) <;>
 ·refine⟨_,rfl,?_⟩;exact fi
def aZ.eq (a b:aZ):Bool:=dv a.nm b.nm&&(aQ a.ar b.ar&&((a.con==b.con)&&(NP a.sup b.sup&&acX a.fl b.fl)))
theorem XH {nm nm2:List UInt8} {ar ar2:Int} {con con2:Bool} {k ix k2 ix2:Int} {tn tn2:List UInt8} {la la2 lb lb2:List aq} {c1 c2 c4 c5:Bool} (h1:dv nm nm2=c1) (h2:aQ ar ar2=c2)
  (h4:ag 91 [.dat (.agg [i64 k,sb tn,i64 ix,sl la]),.dat (.agg [i64 k2,sb tn2,i64 ix2,sl la2])] (bv c4)) (h5:ag 92 [.dat (sl lb),.dat (sl lb2),fnE] (bv c5)) :
  ag 51 [.dat (dw nm ar k tn ix la con lb),.dat (dw nm2 ar2 k2 tn2 ix2 la2 con2 lb2)] (bv (c1&&(c2&&((con==con2)&&(c4&&c5))))):=by
 rcases la with _|⟨x,la⟩ <;>
 ·rcases la2 with _|⟨x2,la2⟩ <;>
  ·rcases lb with _|⟨y,lb⟩ <;>
   ·rcases lb2 with _|⟨y2,lb2⟩ <;>
    ·refine co [10,16] [] (x:=.of Tryz.f51 QT SH) ?_;refine ob h1 ?_
     cases c1
     ·exact fi
     refine ob h2 ?_
     cases c2
     ·exact fi
     cases con
     ·cases con2
      ·refine on h4 ?_
       cases c4
       ·exact fi
       refine on h5 ?_;exact fi
      exact fi
     cases con2
     ·exact fi
     refine on h4 ?_
     cases c4
     ·exact fi
     refine on h5 ?_;exact fi
theorem EC {a b:aZ} (ha:a.cX) (hb:b.cX):ag 51 [.dat a.enc,.dat b.enc] (bv (a.eq b)):=by
 obtain⟨a1,a2,a3⟩:=ha;obtain⟨b1,b2,b3⟩:=hb;have h4:ag 91 [.dat a.sup.enc,.dat b.sup.enc] (bv (NP a.sup b.sup)):=Me _ _ (by have:=a1.1;omega);have hf:∀t∈a.fl,∀u∈b.fl,ag 90 [.dat t.enc,.dat u.enc] (bv (t.eq u)):=by
  intro t ht u hu;exact agS rfl (Me _ _ (by have:=(a2 t ht).1;omega))
 have h5:ag 92 [.dat (sl (aN a.fl)),.dat (sl (aN b.fl)),fnE] (bv (acX a.fl b.fl)):=
  ac0 rfl rfl rfl (fun h=>XJ rfl rfl (L5 rfl h) a3 hf)
 obtain⟨anm,aar,⟨k,tn,ix,la⟩,acon,afl⟩:=a;obtain⟨bnm,bar,⟨k2,tn2,ix2,la2⟩,bcon,bfl⟩:=b;exact XH rfl rfl h4 h5
end Go.Proofs.YtiihadmgkoamoaaGreatDoor
