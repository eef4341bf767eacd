/- HierarchyMonotone returns true and changes nothing, for arguments of bulk at most 1048576 (the card of the second form; conditions: those of the given row). Names are shortened by a program, for the claim's bound. Part 4. -/
import Derived.Test.YtiihadmgkoamoaaGreatDoorProg
import Derived.KernelRfl
import Derived.Shelf.SlMaps.Clone
import Derived.Shelf.SlicesE.Clone
import Derived.Shelf.SlicesE.Delete
import Derived.Test.YtiihadmgkoamoaaGreatDoorQ03
set_option linter.unusedVariables false
set_option linter.unusedSimpArgs false
set_option maxRecDepth 100000
set_option maxHeartbeats 4000000
namespace Go.Proofs.YtiihadmgkoamoaaGreatDoor
open Go.Tp
theorem af9:TI.ok Tryz.prog 2 ⟨.int .i64,1,8,.int .i64 0⟩:=⟨⟨Tryz.t2,by kernel_rfl,rfl,rfl,rfl,rfl⟩,Tryz.underlying2⟩
theorem af8:TI.ok Tryz.prog 3 ⟨.int .i64,1,8,.int .i64 0⟩:=⟨⟨Tryz.t3,by kernel_rfl,rfl,rfl,rfl,rfl⟩,Tryz.underlying3⟩
theorem af7:TI.ok Tryz.prog 4 ⟨.bool,1,1,.bool false⟩:=⟨⟨Tryz.t4,by kernel_rfl,rfl,rfl,rfl,rfl⟩,Tryz.underlying4⟩
theorem af6:TI.ok Tryz.prog 5 ⟨.int .u8,1,1,.int .u8 0⟩:=⟨⟨Tryz.t5,by kernel_rfl,rfl,rfl,rfl,rfl⟩,Tryz.underlying5⟩
theorem af5:TI.ok Tryz.prog 9 ⟨.string,1,16,.string ⟨#[]⟩⟩:=⟨⟨Tryz.t9,by kernel_rfl,rfl,rfl,rfl,rfl⟩,Tryz.underlying9⟩
theorem ady:TI.ok Tryz.prog 22 ⟨.slice 3,1,24,.slice none 0 0⟩:=⟨⟨Tryz.t22,by kernel_rfl,rfl,rfl,rfl,rfl⟩,Tryz.underlying22⟩
theorem adx:TI.ok Tryz.prog 23 ⟨.slice 35,1,24,.slice none 0 0⟩:=⟨⟨Tryz.t23,by kernel_rfl,rfl,rfl,rfl,rfl⟩,Tryz.underlying23⟩
theorem adw:TI.ok Tryz.prog 25 ⟨.pointer,1,8,.pointer none⟩:=⟨⟨Tryz.t25,by kernel_rfl,rfl,rfl,rfl,rfl⟩,⟨_,Tryz.underlying25⟩⟩
theorem adv:TI.ok Tryz.prog 26 ⟨.pointer,1,8,.pointer none⟩:=⟨⟨Tryz.t26,by kernel_rfl,rfl,rfl,rfl,rfl⟩,⟨_,Tryz.underlying26⟩⟩
theorem adu:TI.ok Tryz.prog 30 ⟨.slice 32,1,24,.slice none 0 0⟩:=⟨⟨Tryz.t30,by kernel_rfl,rfl,rfl,rfl,rfl⟩,Tryz.underlying30⟩
theorem adt:TI.ok Tryz.prog 32 ⟨.struct [(0,3),(1,9),(2,3),(3,30)],4,56,.agg #[.int .i64 0,.string ⟨#[]⟩,.int .i64 0,.slice none 0 0]⟩:=⟨⟨Tryz.t32,by kernel_rfl,rfl,rfl,rfl,rfl⟩,⟨_,Tryz.underlying32,rfl,[(0,1),(1,1),(2,1),(3,1)],by kernel_rfl⟩⟩
theorem ads:TI.ok Tryz.prog 33 ⟨.slice 75,1,24,.slice none 0 0⟩:=⟨⟨Tryz.t33,by kernel_rfl,rfl,rfl,rfl,rfl⟩,Tryz.underlying33⟩
theorem adr:TI.ok Tryz.prog 35 ⟨.struct [(0,9),(1,3),(2,32),(6,4),(7,33)],8,112,.agg #[.string ⟨#[]⟩,.int .i64 0,.int .i64 0,.string ⟨#[]⟩,.int .i64 0,.slice none 0 0,.bool false,.slice none 0 0]⟩:=⟨⟨Tryz.t35,by kernel_rfl,rfl,rfl,rfl,rfl⟩,⟨_,Tryz.underlying35,rfl,[(0,1),(1,1),(2,4),(6,1),(7,1)],by kernel_rfl⟩⟩
theorem adq:TI.ok Tryz.prog 39 ⟨.pointer,1,8,.pointer none⟩:=⟨⟨Tryz.t39,by kernel_rfl,rfl,rfl,rfl,rfl⟩,⟨_,Tryz.underlying39⟩⟩
theorem adp:TI.ok Tryz.prog 41 ⟨.int .i64,1,8,.int .i64 0⟩:=⟨⟨Tryz.t41,by kernel_rfl,rfl,rfl,rfl,rfl⟩,Tryz.underlying41⟩
theorem ado:TI.ok Tryz.prog 60 ⟨.slice 9,1,24,.slice none 0 0⟩:=⟨⟨Tryz.t60,by kernel_rfl,rfl,rfl,rfl,rfl⟩,Tryz.underlying60⟩
theorem adn:TI.ok Tryz.prog 67 ⟨.func,1,8,.nilFunc⟩:=⟨⟨Tryz.t67,by kernel_rfl,rfl,rfl,rfl,rfl⟩,⟨_,_,_,Tryz.underlying67⟩⟩
theorem adm:TI.ok Tryz.prog 75 ⟨.struct [(0,9),(1,32)],5,72,.agg #[.string ⟨#[]⟩,.int .i64 0,.string ⟨#[]⟩,.int .i64 0,.slice none 0 0]⟩:=⟨⟨Tryz.t75,by kernel_rfl,rfl,rfl,rfl,rfl⟩,⟨_,Tryz.underlying75,rfl,[(0,1),(1,4)],by kernel_rfl⟩⟩
theorem adl:TI.ok Tryz.prog 78 ⟨.struct [(0,22),(1,3)],2,32,.agg #[.slice none 0 0,.int .i64 0]⟩:=⟨⟨Tryz.t78,by kernel_rfl,rfl,rfl,rfl,rfl⟩,⟨_,Tryz.underlying78,rfl,[(0,1),(1,1)],by kernel_rfl⟩⟩
theorem adk:TI.ok Tryz.prog 80 ⟨.map 9 3,1,8,.map none⟩:=⟨⟨Tryz.t80,by kernel_rfl,rfl,rfl,rfl,rfl⟩,Tryz.underlying80⟩
theorem adj:TI.ok Tryz.prog 82 ⟨.struct [(0,23),(1,80)],2,32,.agg #[.slice none 0 0,.map none]⟩:=⟨⟨Tryz.t82,by kernel_rfl,rfl,rfl,rfl,rfl⟩,⟨_,Tryz.underlying82,rfl,[(0,1),(1,1)],by kernel_rfl⟩⟩
theorem adi:TI.ok Tryz.prog 86 ⟨.func,1,8,.nilFunc⟩:=⟨⟨Tryz.t86,by kernel_rfl,rfl,rfl,rfl,rfl⟩,⟨_,_,_,Tryz.underlying86⟩⟩
theorem adh:TI.ok Tryz.prog 88 ⟨.struct [(0,23)],1,24,.agg #[.slice none 0 0]⟩:=⟨⟨Tryz.t88,by kernel_rfl,rfl,rfl,rfl,rfl⟩,⟨_,Tryz.underlying88,rfl,[(0,1)],by kernel_rfl⟩⟩
theorem adg:TI.ok Tryz.prog 97 ⟨.map 9 4,1,8,.map none⟩:=⟨⟨Tryz.t97,by kernel_rfl,rfl,rfl,rfl,rfl⟩,Tryz.underlying97⟩
theorem adf:TI.ok Tryz.prog 99 ⟨.pointer,1,8,.pointer none⟩:=⟨⟨Tryz.t99,by kernel_rfl,rfl,rfl,rfl,rfl⟩,⟨_,Tryz.underlying99⟩⟩
theorem ZK:TI.ok Tryz.prog 100 ⟨.slice 5,1,24,.slice none 0 0⟩:=⟨⟨Tryz.t100,by kernel_rfl,rfl,rfl,rfl,rfl⟩,Tryz.underlying100⟩
theorem ZJ:TI.ok Tryz.prog 102 ⟨.struct [(0,99),(1,100)],2,32,.agg #[.pointer none,.slice none 0 0]⟩:=⟨⟨Tryz.t102,by kernel_rfl,rfl,rfl,rfl,rfl⟩,⟨_,Tryz.underlying102,rfl,[(0,1),(1,1)],by kernel_rfl⟩⟩
theorem ZI:TI.ok Tryz.prog 105 ⟨.func,1,8,.nilFunc⟩:=⟨⟨Tryz.t105,by kernel_rfl,rfl,rfl,rfl,rfl⟩,⟨_,_,_,Tryz.underlying105⟩⟩
theorem ZH:TI.ok Tryz.prog 125 ⟨.func,1,8,.nilFunc⟩:=⟨⟨Tryz.t125,by kernel_rfl,rfl,rfl,rfl,rfl⟩,⟨_,_,_,Tryz.underlying125⟩⟩
theorem ZG:TI.ok Tryz.prog 128 ⟨.pointer,1,8,.pointer none⟩:=⟨⟨Tryz.t128,by kernel_rfl,rfl,rfl,rfl,rfl⟩,⟨_,Tryz.underlying128⟩⟩
theorem ZF:TI.ok Tryz.prog 129 ⟨.func,1,8,.nilFunc⟩:=⟨⟨Tryz.t129,by kernel_rfl,rfl,rfl,rfl,rfl⟩,⟨_,_,_,Tryz.underlying129⟩⟩
theorem ZE:TI.ok Tryz.prog 137 ⟨.pointer,1,8,.pointer none⟩:=⟨⟨Tryz.t137,by kernel_rfl,rfl,rfl,rfl,rfl⟩,⟨_,Tryz.underlying137⟩⟩
theorem ZD:TI.ok Tryz.prog 140 ⟨.int .u64,1,8,.int .u64 0⟩:=⟨⟨Tryz.t140,by kernel_rfl,rfl,rfl,rfl,rfl⟩,Tryz.underlying140⟩
theorem ZC:TI.ok Tryz.prog 141 ⟨.func,1,8,.nilFunc⟩:=⟨⟨Tryz.t141,by kernel_rfl,rfl,rfl,rfl,rfl⟩,⟨_,_,_,Tryz.underlying141⟩⟩
theorem ZB:TI.ok Tryz.prog 147 ⟨.func,1,8,.nilFunc⟩:=⟨⟨Tryz.t147,by kernel_rfl,rfl,rfl,rfl,rfl⟩,⟨_,_,_,Tryz.underlying147⟩⟩
theorem ZA:TI.ok Tryz.prog 151 ⟨.struct [(0,60)],1,24,.agg #[.slice none 0 0]⟩:=⟨⟨Tryz.t151,by kernel_rfl,rfl,rfl,rfl,rfl⟩,⟨_,Tryz.underlying151,rfl,[(0,1)],by kernel_rfl⟩⟩
theorem Zz:TI.ok Tryz.prog 153 ⟨.pointer,1,8,.pointer none⟩:=⟨⟨Tryz.t153,by kernel_rfl,rfl,rfl,rfl,rfl⟩,⟨_,Tryz.underlying153⟩⟩
theorem Zy:TI.ok Tryz.prog 157 ⟨.int .u64,1,8,.int .u64 0⟩:=⟨⟨Tryz.t157,by kernel_rfl,rfl,rfl,rfl,rfl⟩,Tryz.underlying157⟩
theorem Zx:TI.ok Tryz.prog 165 ⟨.struct [(0,22)],1,24,.agg #[.slice none 0 0]⟩:=⟨⟨Tryz.t165,by kernel_rfl,rfl,rfl,rfl,rfl⟩,⟨_,Tryz.underlying165,rfl,[(0,1)],by kernel_rfl⟩⟩
theorem Zw:TI.ok Tryz.prog 167 ⟨.pointer,1,8,.pointer none⟩:=⟨⟨Tryz.t167,by kernel_rfl,rfl,rfl,rfl,rfl⟩,⟨_,Tryz.underlying167⟩⟩
theorem Zv:TI.ok Tryz.prog 172 ⟨.int .i64,1,8,.int .i64 0⟩:=⟨⟨Tryz.t172,by kernel_rfl,rfl,rfl,rfl,rfl⟩,Tryz.underlying172⟩
theorem Zu:TI.ok Tryz.prog 179 ⟨.int .u32,1,4,.int .u32 0⟩:=⟨⟨Tryz.t179,by kernel_rfl,rfl,rfl,rfl,rfl⟩,Tryz.underlying179⟩
theorem Zt:TI.ok Tryz.prog 181 ⟨.array 24 5,24,24,.agg #[.int .u8 0,.int .u8 0,.int .u8 0,.int .u8 0,.int .u8 0,.int .u8 0,.int .u8 0,.int .u8 0,.int .u8 0,.int .u8 0,.int .u8 0,.int .u8 0,.int .u8 0,.int .u8 0,.int .u8 0,.int .u8 0,.int .u8 0,.int .u8 0,.int .u8 0,.int .u8 0,.int .u8 0,.int .u8 0,.int .u8 0,.int .u8 0]⟩:=⟨⟨Tryz.t181,by kernel_rfl,rfl,rfl,rfl,rfl⟩,Tryz.underlying181⟩
theorem Zs:TI.ok Tryz.prog 189 ⟨.int .u64,1,8,.int .u64 0⟩:=⟨⟨Tryz.t189,by kernel_rfl,rfl,rfl,rfl,rfl⟩,Tryz.underlying189⟩
theorem Zr:TI.ok Tryz.prog 193 ⟨.pointer,1,8,.pointer none⟩:=⟨⟨Tryz.t193,by kernel_rfl,rfl,rfl,rfl,rfl⟩,⟨_,Tryz.underlying193⟩⟩
theorem Zq:TI.ok Tryz.prog 195 ⟨.array 20 140,20,160,.agg #[.int .u64 0,.int .u64 0,.int .u64 0,.int .u64 0,.int .u64 0,.int .u64 0,.int .u64 0,.int .u64 0,.int .u64 0,.int .u64 0,.int .u64 0,.int .u64 0,.int .u64 0,.int .u64 0,.int .u64 0,.int .u64 0,.int .u64 0,.int .u64 0,.int .u64 0,.int .u64 0]⟩:=⟨⟨Tryz.t195,by kernel_rfl,rfl,rfl,rfl,rfl⟩,Tryz.underlying195⟩
theorem Zp:TI.ok Tryz.prog 196 ⟨.array 65 5,65,65,.agg #[.int .u8 0,.int .u8 0,.int .u8 0,.int .u8 0,.int .u8 0,.int .u8 0,.int .u8 0,.int .u8 0,.int .u8 0,.int .u8 0,.int .u8 0,.int .u8 0,.int .u8 0,.int .u8 0,.int .u8 0,.int .u8 0,.int .u8 0,.int .u8 0,.int .u8 0,.int .u8 0,.int .u8 0,.int .u8 0,.int .u8 0,.int .u8 0,.int .u8 0,.int .u8 0,.int .u8 0,.int .u8 0,.int .u8 0,.int .u8 0,.int .u8 0,.int .u8 0,.int .u8 0,.int .u8 0,.int .u8 0,.int .u8 0,.int .u8 0,.int .u8 0,.int .u8 0,.int .u8 0,.int .u8 0,.int .u8 0,.int .u8 0,.int .u8 0,.int .u8 0,.int .u8 0,.int .u8 0,.int .u8 0,.int .u8 0,.int .u8 0,.int .u8 0,.int .u8 0,.int .u8 0,.int .u8 0,.int .u8 0,.int .u8 0,.int .u8 0,.int .u8 0,.int .u8 0,.int .u8 0,.int .u8 0,.int .u8 0,.int .u8 0,.int .u8 0,.int .u8 0]⟩:=⟨⟨Tryz.t196,by kernel_rfl,rfl,rfl,rfl,rfl⟩,Tryz.underlying196⟩
theorem Zo:TI.ok Tryz.prog 207 ⟨.array 32 5,32,32,.agg #[.int .u8 0,.int .u8 0,.int .u8 0,.int .u8 0,.int .u8 0,.int .u8 0,.int .u8 0,.int .u8 0,.int .u8 0,.int .u8 0,.int .u8 0,.int .u8 0,.int .u8 0,.int .u8 0,.int .u8 0,.int .u8 0,.int .u8 0,.int .u8 0,.int .u8 0,.int .u8 0,.int .u8 0,.int .u8 0,.int .u8 0,.int .u8 0,.int .u8 0,.int .u8 0,.int .u8 0,.int .u8 0,.int .u8 0,.int .u8 0,.int .u8 0,.int .u8 0]⟩:=⟨⟨Tryz.t207,by kernel_rfl,rfl,rfl,rfl,rfl⟩,Tryz.underlying207⟩
theorem Zn:TI.ok Tryz.prog 208 ⟨.array 64 5,64,64,.agg #[.int .u8 0,.int .u8 0,.int .u8 0,.int .u8 0,.int .u8 0,.int .u8 0,.int .u8 0,.int .u8 0,.int .u8 0,.int .u8 0,.int .u8 0,.int .u8 0,.int .u8 0,.int .u8 0,.int .u8 0,.int .u8 0,.int .u8 0,.int .u8 0,.int .u8 0,.int .u8 0,.int .u8 0,.int .u8 0,.int .u8 0,.int .u8 0,.int .u8 0,.int .u8 0,.int .u8 0,.int .u8 0,.int .u8 0,.int .u8 0,.int .u8 0,.int .u8 0,.int .u8 0,.int .u8 0,.int .u8 0,.int .u8 0,.int .u8 0,.int .u8 0,.int .u8 0,.int .u8 0,.int .u8 0,.int .u8 0,.int .u8 0,.int .u8 0,.int .u8 0,.int .u8 0,.int .u8 0,.int .u8 0,.int .u8 0,.int .u8 0,.int .u8 0,.int .u8 0,.int .u8 0,.int .u8 0,.int .u8 0,.int .u8 0,.int .u8 0,.int .u8 0,.int .u8 0,.int .u8 0,.int .u8 0,.int .u8 0,.int .u8 0,.int .u8 0]⟩:=⟨⟨Tryz.t208,by kernel_rfl,rfl,rfl,rfl,rfl⟩,Tryz.underlying208⟩
def Yp:Tr:=(.node (.node (.node (.node (.node (.node .nil 2 ⟨.int .i64,1,8,.int .i64 0⟩ .nil) 3 ⟨.int .i64,1,8,.int .i64 0⟩ (.node .nil 4 ⟨.bool,1,1,.bool false⟩ .nil)) 5 ⟨.int .u8,1,1,.int .u8 0⟩ (.node (.node .nil 9 ⟨.string,1,16,.string ⟨#[]⟩⟩ .nil) 22 ⟨.slice 3,1,24,.slice none 0 0⟩ .nil)) 23 ⟨.slice 35,1,24,.slice none 0 0⟩ (.node (.node (.node .nil 25 ⟨.pointer,1,8,.pointer none⟩ .nil) 26 ⟨.pointer,1,8,.pointer none⟩ .nil) 30 ⟨.slice 32,1,24,.slice none 0 0⟩ (.node (.node .nil 32 ⟨.struct [(0,3),(1,9),(2,3),(3,30)],4,56,.agg #[.int .i64 0,.string ⟨#[]⟩,.int .i64 0,.slice none 0 0]⟩ .nil) 33 ⟨.slice 75,1,24,.slice none 0 0⟩ .nil))) 35 ⟨.struct [(0,9),(1,3),(2,32),(6,4),(7,33)],8,112,.agg #[.string ⟨#[]⟩,.int .i64 0,.int .i64 0,.string ⟨#[]⟩,.int .i64 0,.slice none 0 0,.bool false,.slice none 0 0]⟩ (.node (.node (.node (.node .nil 39 ⟨.pointer,1,8,.pointer none⟩ .nil) 41 ⟨.int .i64,1,8,.int .i64 0⟩ .nil) 60 ⟨.slice 9,1,24,.slice none 0 0⟩ (.node (.node .nil 67 ⟨.func,1,8,.nilFunc⟩ .nil) 75 ⟨.struct [(0,9),(1,32)],5,72,.agg #[.string ⟨#[]⟩,.int .i64 0,.string ⟨#[]⟩,.int .i64 0,.slice none 0 0]⟩ .nil)) 78 ⟨.struct [(0,22),(1,3)],2,32,.agg #[.slice none 0 0,.int .i64 0]⟩ (.node (.node (.node .nil 80 ⟨.map 9 3,1,8,.map none⟩ .nil) 82 ⟨.struct [(0,23),(1,80)],2,32,.agg #[.slice none 0 0,.map none]⟩ .nil) 86 ⟨.func,1,8,.nilFunc⟩ (.node (.node .nil 88 ⟨.struct [(0,23)],1,24,.agg #[.slice none 0 0]⟩ .nil) 97 ⟨.map 9 4,1,8,.map none⟩ .nil)))) 99 ⟨.pointer,1,8,.pointer none⟩ (.node (.node (.node (.node (.node .nil 100 ⟨.slice 5,1,24,.slice none 0 0⟩ .nil) 102 ⟨.struct [(0,99),(1,100)],2,32,.agg #[.pointer none,.slice none 0 0]⟩ (.node .nil 105 ⟨.func,1,8,.nilFunc⟩ .nil)) 125 ⟨.func,1,8,.nilFunc⟩ (.node (.node .nil 128 ⟨.pointer,1,8,.pointer none⟩ .nil) 129 ⟨.func,1,8,.nilFunc⟩ .nil)) 137 ⟨.pointer,1,8,.pointer none⟩ (.node (.node (.node .nil 140 ⟨.int .u64,1,8,.int .u64 0⟩ .nil) 141 ⟨.func,1,8,.nilFunc⟩ .nil) 147 ⟨.func,1,8,.nilFunc⟩ (.node (.node .nil 151 ⟨.struct [(0,60)],1,24,.agg #[.slice none 0 0]⟩ .nil) 153 ⟨.pointer,1,8,.pointer none⟩ .nil))) 157 ⟨.int .u64,1,8,.int .u64 0⟩ (.node (.node (.node (.node .nil 165 ⟨.struct [(0,22)],1,24,.agg #[.slice none 0 0]⟩ .nil) 167 ⟨.pointer,1,8,.pointer none⟩ .nil) 172 ⟨.int .i64,1,8,.int .i64 0⟩ (.node (.node .nil 179 ⟨.int .u32,1,4,.int .u32 0⟩ .nil) 181 ⟨.array 24 5,24,24,.agg #[.int .u8 0,.int .u8 0,.int .u8 0,.int .u8 0,.int .u8 0,.int .u8 0,.int .u8 0,.int .u8 0,.int .u8 0,.int .u8 0,.int .u8 0,.int .u8 0,.int .u8 0,.int .u8 0,.int .u8 0,.int .u8 0,.int .u8 0,.int .u8 0,.int .u8 0,.int .u8 0,.int .u8 0,.int .u8 0,.int .u8 0,.int .u8 0]⟩ .nil)) 189 ⟨.int .u64,1,8,.int .u64 0⟩ (.node (.node (.node .nil 193 ⟨.pointer,1,8,.pointer none⟩ .nil) 195 ⟨.array 20 140,20,160,.agg #[.int .u64 0,.int .u64 0,.int .u64 0,.int .u64 0,.int .u64 0,.int .u64 0,.int .u64 0,.int .u64 0,.int .u64 0,.int .u64 0,.int .u64 0,.int .u64 0,.int .u64 0,.int .u64 0,.int .u64 0,.int .u64 0,.int .u64 0,.int .u64 0,.int .u64 0,.int .u64 0]⟩ .nil) 196 ⟨.array 65 5,65,65,.agg #[.int .u8 0,.int .u8 0,.int .u8 0,.int .u8 0,.int .u8 0,.int .u8 0,.int .u8 0,.int .u8 0,.int .u8 0,.int .u8 0,.int .u8 0,.int .u8 0,.int .u8 0,.int .u8 0,.int .u8 0,.int .u8 0,.int .u8 0,.int .u8 0,.int .u8 0,.int .u8 0,.int .u8 0,.int .u8 0,.int .u8 0,.int .u8 0,.int .u8 0,.int .u8 0,.int .u8 0,.int .u8 0,.int .u8 0,.int .u8 0,.int .u8 0,.int .u8 0,.int .u8 0,.int .u8 0,.int .u8 0,.int .u8 0,.int .u8 0,.int .u8 0,.int .u8 0,.int .u8 0,.int .u8 0,.int .u8 0,.int .u8 0,.int .u8 0,.int .u8 0,.int .u8 0,.int .u8 0,.int .u8 0,.int .u8 0,.int .u8 0,.int .u8 0,.int .u8 0,.int .u8 0,.int .u8 0,.int .u8 0,.int .u8 0,.int .u8 0,.int .u8 0,.int .u8 0,.int .u8 0,.int .u8 0,.int .u8 0,.int .u8 0,.int .u8 0,.int .u8 0]⟩ (.node (.node .nil 207 ⟨.array 32 5,32,32,.agg #[.int .u8 0,.int .u8 0,.int .u8 0,.int .u8 0,.int .u8 0,.int .u8 0,.int .u8 0,.int .u8 0,.int .u8 0,.int .u8 0,.int .u8 0,.int .u8 0,.int .u8 0,.int .u8 0,.int .u8 0,.int .u8 0,.int .u8 0,.int .u8 0,.int .u8 0,.int .u8 0,.int .u8 0,.int .u8 0,.int .u8 0,.int .u8 0,.int .u8 0,.int .u8 0,.int .u8 0,.int .u8 0,.int .u8 0,.int .u8 0,.int .u8 0,.int .u8 0]⟩ .nil) 208 ⟨.array 64 5,64,64,.agg #[.int .u8 0,.int .u8 0,.int .u8 0,.int .u8 0,.int .u8 0,.int .u8 0,.int .u8 0,.int .u8 0,.int .u8 0,.int .u8 0,.int .u8 0,.int .u8 0,.int .u8 0,.int .u8 0,.int .u8 0,.int .u8 0,.int .u8 0,.int .u8 0,.int .u8 0,.int .u8 0,.int .u8 0,.int .u8 0,.int .u8 0,.int .u8 0,.int .u8 0,.int .u8 0,.int .u8 0,.int .u8 0,.int .u8 0,.int .u8 0,.int .u8 0,.int .u8 0,.int .u8 0,.int .u8 0,.int .u8 0,.int .u8 0,.int .u8 0,.int .u8 0,.int .u8 0,.int .u8 0,.int .u8 0,.int .u8 0,.int .u8 0,.int .u8 0,.int .u8 0,.int .u8 0,.int .u8 0,.int .u8 0,.int .u8 0,.int .u8 0,.int .u8 0,.int .u8 0,.int .u8 0,.int .u8 0,.int .u8 0,.int .u8 0,.int .u8 0,.int .u8 0,.int .u8 0,.int .u8 0,.int .u8 0,.int .u8 0,.int .u8 0,.int .u8 0]⟩ .nil)))))
theorem O0:Yp.Ik Tryz.prog:=(Tr.ae (Tr.ae (Tr.ae (Tr.ae (Tr.ae (Tr.ae Tr.all_nil af9 Tr.all_nil) af8 (Tr.ae Tr.all_nil af7 Tr.all_nil)) af6 (Tr.ae (Tr.ae Tr.all_nil af5 Tr.all_nil) ady Tr.all_nil)) adx (Tr.ae (Tr.ae (Tr.ae Tr.all_nil adw Tr.all_nil) adv Tr.all_nil) adu (Tr.ae (Tr.ae Tr.all_nil adt Tr.all_nil) ads Tr.all_nil))) adr (Tr.ae (Tr.ae (Tr.ae (Tr.ae Tr.all_nil adq Tr.all_nil) adp Tr.all_nil) ado (Tr.ae (Tr.ae Tr.all_nil adn Tr.all_nil) adm Tr.all_nil)) adl (Tr.ae (Tr.ae (Tr.ae Tr.all_nil adk Tr.all_nil) adj Tr.all_nil) adi (Tr.ae (Tr.ae Tr.all_nil adh Tr.all_nil) adg Tr.all_nil)))) adf (Tr.ae (Tr.ae (Tr.ae (Tr.ae (Tr.ae Tr.all_nil ZK Tr.all_nil) ZJ (Tr.ae Tr.all_nil ZI Tr.all_nil)) ZH (Tr.ae (Tr.ae Tr.all_nil ZG Tr.all_nil) ZF Tr.all_nil)) ZE (Tr.ae (Tr.ae (Tr.ae Tr.all_nil ZD Tr.all_nil) ZC Tr.all_nil) ZB (Tr.ae (Tr.ae Tr.all_nil ZA Tr.all_nil) Zz Tr.all_nil))) Zy (Tr.ae (Tr.ae (Tr.ae (Tr.ae Tr.all_nil Zx Tr.all_nil) Zw Tr.all_nil) Zv (Tr.ae (Tr.ae Tr.all_nil Zu Tr.all_nil) Zt Tr.all_nil)) Zs (Tr.ae (Tr.ae (Tr.ae Tr.all_nil Zr Tr.all_nil) Zq Tr.all_nil) Zp (Tr.ae (Tr.ae Tr.all_nil Zo Tr.all_nil) Zn Tr.all_nil)))))
def efn (f:Nat):Bool:=Nat.ble 0 f&&Nat.ble f 206&&!(match f with|0=>true|1=>true|97=>true|132=>true|194=>true|201=>true|_=>false)
def ety (t:Nat):Option TI:=match t with
  | 0=>none
  | t=>Yp.find t
def env (pr:ay):bG:=⟨ety,efn,pr⟩
theorem aco:(List.range 207).all (fun k=>!(efn (0+k))||acp Tryz.prog (0+k))=true:=by kernel_rfl
theorem Od (f:Nat) (h:efn f=true):0≤f∧f≤206:=by
  unfold efn at h;simp only[Bool.and_eq_true,Nat.ble_eq] at h;exact h.1
theorem afx (f:Nat) (h:efn f=true):acp Tryz.prog f=true:=by
  have hb:=Od f h;have h1:=List.all_eq_true.1 aco (f - 0) (List.mem_range.2 (by omega));rw[show 0+(f - 0)=f by omega] at h1;rw[h,Bool.not_true,Bool.false_or] at h1;exact h1
theorem acD:(env ay.mz).Ok Tryz.prog where
  ty t i h:=by
    have h:ety t=some i:=h;unfold ety at h
    split at h
    · simp at h
    · exact Tr.EJ O0 h
  fn f h:=by
    have h1:=afx f h;unfold acp at h1
    split at h1
    · rename_i g hg;simp at h1;exact⟨g,hg,by simp[h1.1],by simpa using h1.2⟩
    · simp at h1
  mixed:=by kernel_rfl
  mz:=rfl
def ao:FuncId→Bool:=fun f=>match f with|28=>true|180=>true|191=>true|_=>false
def aq:FuncId→Bool:=fun f=>match f with|4000000=>true|1000052=>true|1000151=>true|1000170=>true|2000024=>true|2000075=>true|2000082=>true|3000019=>true|3000062=>true|_=>false
def VL:Nat→ax:=fun n=>match n with|7=>⟨[(0,false),(1,false),(2,false),(3,false),(8,false),(9,false),(10,false),(11,false),(4,true),(5,false),(6,false),(7,false),(12,true),(13,false),(14,false),(15,false),(16,false)],none,[],[17]⟩|_=>default
def LM:Nat→Nat:=fun n=>match n with|0=>31|1=>2079|2=>30751|3=>8796093036575|4=>1024|5=>45085|6=>102429|7=>430085|8=>2002949|9=>8294405|10=>33460229|11=>67014656|12=>134123520|13=>39614081257132168796906098688|14=>134123520|15=>134123520|16=>436113408|17=>2046726144|18=>1024|_=>0
theorem agm:aE Tryz.prog ao aq 8 Tryz.f8 VL:=aj Tryz.func8 (by kernel_rfl)
def aae:Nat→ax:=fun _=>default
def YU:Nat→Nat:=fun n=>match n with|0=>1|1=>4|_=>0
theorem agl:aE Tryz.prog ao aq 9 Tryz.f9 aae:=aj Tryz.func9 (by kernel_rfl)
def LC:Nat→ax:=fun n=>match n with|7=>⟨[(0,false),(1,false),(2,false),(3,false),(4,false),(6,false),(7,false),(8,false),(9,false),(10,false),(5,true)],none,[],[11,12]⟩|_=>default
def Eo:Nat→Nat:=fun n=>match n with|0=>1|1=>97|2=>2145|3=>28|4=>225|5=>65761|6=>225|7=>2147483873|8=>28|9=>28|_=>0
theorem afw:aE Tryz.prog ao aq 10 Tryz.f10 LC:=aj Tryz.func10 (by kernel_rfl)
def YR:Nat→ax:=fun n=>match n with|5=>⟨[(0,false),(1,false),(2,false),(3,true),(4,false),(5,true)],none,[],[6,7,8,9,10,11,12,13,14]⟩|_=>default
def aaw:Nat→Nat:=fun n=>match n with|0=>0|1=>2|2=>2097154|3=>1|4=>14|5=>1|_=>0
theorem afv:aE Tryz.prog ao aq 11 Tryz.f11 YR:=aj Tryz.func11 (by kernel_rfl)
def RU:Nat→ax:=fun _=>default
def SS:Nat→Nat:=fun n=>match n with|0=>3|1=>3|2=>515|3=>1|4=>16|_=>0
theorem afu:aE Tryz.prog ao aq 13 Tryz.f13 RU:=aj Tryz.func13 (by kernel_rfl)
def RN:Nat→ax:=fun _=>default
def SR:Nat→Nat:=fun n=>match n with|0=>1|1=>4|_=>0
theorem aft:aE Tryz.prog ao aq 15 Tryz.f15 RN:=aj Tryz.func15 (by kernel_rfl)
def LB:Nat→ax:=fun n=>match n with|14=>⟨[(0,false),(1,false),(2,true)],none,[],[3]⟩|_=>default
def JD:Nat→Nat:=fun n=>match n with|0=>12|1=>108|2=>65644|3=>16|4=>1048684|5=>16|6=>1073741900|7=>16|8=>137438953484|9=>16|10=>549755813900|11=>16|12=>70368744177676|13=>16|14=>12|15=>576460752303423500|16=>0|17=>16|18=>140|19=>151115727451828646838276|20=>0|21=>16|22=>16|_=>0
theorem afs:aE Tryz.prog ao aq 16 Tryz.f16 LB:=aj Tryz.func16 (by kernel_rfl)
def Gu:Nat→ax:=fun n=>match n with|11=>⟨[(0,false),(2,false),(3,false),(1,true)],none,[],[4,5,6,7]⟩|_=>default
def vu:Nat→Nat:=fun n=>match n with|0=>9|1=>41|2=>32809|3=>16|4=>201|5=>16777289|6=>134217728|7=>16|8=>16|9=>8589934601|10=>16|11=>265|12=>35184372089097|13=>16|14=>777|15=>1125899906843401|16=>777|17=>2305843009213694729|18=>16|19=>3329|20=>18889465931478580855041|21=>16|22=>0|23=>16|_=>0
theorem afr:aE Tryz.prog ao aq 17 Tryz.f17 Gu:=aj Tryz.func17 (by kernel_rfl)
def LA:Nat→ax:=fun n=>match n with|6=>⟨[(0,false),(1,false),(2,false),(3,false),(4,false),(5,false),(6,false),(7,false)],none,[],[8,9]⟩|_=>default
def Ek:Nat→Nat:=fun n=>match n with|0=>3|1=>1027|2=>16|3=>35|4=>16419|5=>35|6=>67108899|7=>16|8=>16|_=>0
theorem afq:aE Tryz.prog ao aq 18 Tryz.f18 LA:=aj Tryz.func18 (by kernel_rfl)
def Ly:Nat→ax:=fun _=>default
def Ej:Nat→Nat:=fun n=>match n with|0=>1|1=>9|2=>3592|3=>7688|4=>3624|5=>3592|6=>3592|7=>4|_=>0
theorem afp:aE Tryz.prog ao aq 19 Tryz.f19 Ly:=aj Tryz.func19 (by kernel_rfl)
def Rb:Nat→ax:=fun _=>default
def SQ:Nat→Nat:=fun n=>match n with|0=>1|1=>4|_=>0
theorem afo:aE Tryz.prog ao aq 20 Tryz.f20 Rb:=aj Tryz.func20 (by kernel_rfl)
def Q4:Nat→ax:=fun _=>default
def SP:Nat→Nat:=fun n=>match n with|0=>19|1=>16|_=>0
theorem afn:aE Tryz.prog ao aq 21 Tryz.f21 Q4:=aj Tryz.func21 (by kernel_rfl)
def CC:Nat→ax:=fun _=>default
def pj:Nat→Nat:=fun n=>match n with|0=>85|1=>4181|2=>65621|3=>192|4=>4194389|5=>341|6=>85|7=>192|_=>0
theorem afm:aE Tryz.prog ao aq 23 Tryz.f23 CC:=aj Tryz.func23 (by kernel_rfl)
def Q3:Nat→ax:=fun _=>default
def SO:Nat→Nat:=fun n=>match n with|0=>12|1=>16|_=>0
theorem afk:aE Tryz.prog ao aq 24 Tryz.f24 Q3:=aj Tryz.func24 (by kernel_rfl)
def CB:Nat→ax:=fun _=>default
def ph:Nat→Nat:=fun n=>match n with|0=>7|1=>387|2=>134218115|3=>387|4=>64|_=>0
theorem afj:aE Tryz.prog ao aq 25 Tryz.f25 CB:=aj Tryz.func25 (by kernel_rfl)
def Lx:Nat→ax:=fun n=>match n with|5=>⟨[(0,false),(1,false),(2,false),(3,false),(4,false),(6,false),(10,false),(5,true),(7,true),(8,false),(9,false)],some 10,[],[11]⟩|18=>⟨[(0,false),(1,false),(2,false),(3,false),(4,false),(5,false),(6,false),(7,true),(8,false),(9,true),(10,false),(11,false)],none,[2],[12]⟩|_=>default
def jk:Nat→Nat:=fun n=>match n with|0=>3|1=>35|2=>99|3=>65635|4=>99|5=>227|6=>2147483875|7=>483|8=>995|9=>34359739363|10=>995|11=>8796093023203|12=>995|13=>1251|14=>1251|15=>3299|16=>36893488147419106531|17=>3299|18=>3299|19=>77371252455336267181195491|20=>227|21=>99|22=>16|_=>0
theorem afi:aE Tryz.prog ao aq 28 Tryz.f28 Lx:=aj Tryz.func28 (by kernel_rfl)
def zS:Nat→ax:=fun n=>match n with|10=>⟨[(1,false),(2,false),(3,false),(4,false),(5,false),(6,false),(0,true),(7,true),(8,true),(9,true),(10,true)],none,[],[2000000,11]⟩|_=>default
def rW:Nat→Nat:=fun n=>match n with|0=>9|1=>524297|2=>48|3=>72|4=>536870984|5=>48|6=>328|7=>15032385800|8=>32212254984|9=>15032386824|10=>15032385800|11=>15032385800|12=>48|_=>0
theorem afh:aE Tryz.prog ao aq 30 Tryz.f30 zS:=aj Tryz.func30 (by kernel_rfl)
def Lw:Nat→ax:=fun n=>match n with|6=>⟨[(0,false),(1,false),(2,false),(3,false),(4,false),(5,false),(6,false),(7,false),(8,false),(9,false),(10,false),(11,false),(12,false),(13,false),(14,false),(15,false),(16,false),(17,false),(18,false),(19,false),(20,false),(21,false)],none,[],[22,23,24]⟩|_=>default
def Ei:Nat→Nat:=fun n=>match n with|0=>3|1=>1027|2=>16|3=>35|4=>16419|5=>35|6=>2199023255587|7=>16|8=>16|_=>0
theorem afg:aE Tryz.prog ao aq 32 Tryz.f32 Lw:=aj Tryz.func32 (by kernel_rfl)
def Lv:Nat→ax:=fun _=>default
def Eh:Nat→Nat:=fun n=>match n with|0=>19|1=>83|2=>8275|3=>83|4=>33554515|5=>48|6=>48|_=>0
theorem aff:aE Tryz.prog ao aq 36 Tryz.f36 Lv:=aj Tryz.func36 (by kernel_rfl)
def zR:Nat→ax:=fun n=>match n with|6=>⟨[(0,false),(1,false),(2,false),(3,false),(4,false),(5,false),(6,false),(7,false),(8,false),(9,false),(10,false),(11,false),(12,false),(13,false),(14,false),(15,false),(16,false),(17,false),(18,false),(19,false),(20,false),(21,false),(22,false),(23,false),(24,false),(25,false)],none,[],[26,27,28]⟩|_=>default
def pg:Nat→Nat:=fun n=>match n with|0=>12|1=>2199023255564|2=>16|3=>44|4=>70368744177708|5=>44|6=>151115727451828646838316|7=>16|8=>16|_=>0
theorem afe:aE Tryz.prog ao aq 37 Tryz.f37 zR:=aj Tryz.func37 (by kernel_rfl)
def Lu:Nat→ax:=fun _=>default
def JC:Nat→Nat:=fun n=>match n with|0=>12|1=>8204|2=>16|3=>16|_=>0
theorem afd:aE Tryz.prog ao aq 39 Tryz.f39 Lu:=aj Tryz.func39 (by kernel_rfl)
def Lt:Nat→ax:=fun _=>default
def Ao:Nat→Nat:=fun n=>match n with|0=>9|1=>1033|2=>105|3=>134217737|4=>16|5=>137|6=>4294967433|7=>137|8=>4398046511241|9=>16|10=>16|_=>0
theorem afc:aE Tryz.prog ao aq 40 Tryz.f40 Lt:=aj Tryz.func40 (by kernel_rfl)
def Ls:Nat→ax:=fun _=>default
def nA:Nat→Nat:=fun n=>match n with|0=>3|1=>35|2=>33|3=>97|4=>7340097|5=>15728705|6=>7340353|7=>7340865|8=>7340609|9=>7340609|10=>17592193385025|11=>7340609|12=>985162425827393|13=>2111062332670017|14=>985162425831489|15=>985162425831489|16=>985162425827393|17=>985162425827393|18=>7340097|19=>7340097|20=>16|_=>0
theorem afb:aE Tryz.prog ao aq 41 Tryz.f41 Ls:=aj Tryz.func41 (by kernel_rfl)
def YQ:Nat→ax:=fun n=>match n with|2=>⟨[(0,false),(1,false),(2,false),(4,false),(5,false),(6,false),(15,false),(23,false),(24,false),(29,false),(30,false),(34,false),(35,false),(3,true),(7,false),(8,true),(9,false),(10,true),(11,true),(12,false),(13,false),(14,false),(16,true),(17,false),(18,true),(19,true),(20,false),(21,false),(22,false),(25,true),(26,false),(27,false),(28,false),(31,true),(32,false),(33,true),(36,true),(37,false),(38,false),(39,false),(40,false)],none,[],[41]⟩|_=>default
def aav:Nat→Nat:=fun n=>match n with|0=>0|1=>2|2=>1|_=>0
theorem afa:aE Tryz.prog ao aq 43 Tryz.f43 YQ:=aj Tryz.func43 (by kernel_rfl)
def YP:Nat→ax:=fun _=>default
def aau:Nat→Nat:=fun n=>match n with|0=>0|1=>2|2=>898|3=>1922|4=>906|5=>898|6=>898|7=>1|_=>0
theorem ae9:aE Tryz.prog ao aq 44 Tryz.f44 YP:=aj Tryz.func44 (by kernel_rfl)
def YO:Nat→ax:=fun _=>default
def aat:Nat→Nat:=fun n=>match n with|0=>0|1=>2|2=>450|3=>962|4=>458|5=>450|6=>450|7=>1|_=>0
theorem ae8:aE Tryz.prog ao aq 45 Tryz.f45 YO:=aj Tryz.func45 (by kernel_rfl)
def Lr:Nat→ax:=fun _=>default
def JB:Nat→Nat:=fun n=>match n with|0=>19|1=>16|_=>0
theorem ae7:aE Tryz.prog ao aq 46 Tryz.f46 Lr:=aj Tryz.func46 (by kernel_rfl)
def Q2:Nat→ax:=fun _=>default
def SN:Nat→Nat:=fun n=>match n with|0=>5|1=>4|_=>0
theorem ae6:aE Tryz.prog ao aq 47 Tryz.f47 Q2:=aj Tryz.func47 (by kernel_rfl)
def fU:Nat→ax:=fun n=>match n with|7=>⟨[(0,false),(1,false),(2,true),(3,false),(4,false)],none,[],[5,6]⟩|29=>⟨[(0,false),(1,false),(2,false),(3,false),(4,false),(5,false),(6,false),(7,true),(8,false),(9,true),(10,false)],none,[1],[11]⟩|35=>⟨[(0,false),(1,false),(2,false),(3,false),(4,false),(5,false),(6,false),(7,true)],none,[],[8,9]⟩|_=>default
def dV:Nat→Nat:=fun n=>match n with|0=>271|1=>783|2=>2097935|3=>783|4=>4194575|5=>12583183|6=>12583183|7=>256|8=>4299161871|9=>256|10=>34363932943|11=>34363932943|12=>549755814159|13=>256|14=>256|15=>562949957615887|16=>562949957615887|17=>562949957615887|18=>256|19=>288230376155906319|20=>288230376155906319|21=>256|22=>37778931862957165904143|23=>37778931862957165904143|24=>1295|25=>3343|26=>7439|27=>9671406556917033397656847|28=>7439|29=>7439|30=>256|31=>316912650057057350374175801615|32=>8463|33=>10141204801825835211973625651471|34=>8463|35=>256|36=>332306998946228968225951765070086400|37=>256|38=>256|_=>0
theorem ae5:aE Tryz.prog ao aq 48 Tryz.f48 fU:=aj Tryz.func48 (by kernel_rfl)
def Lq:Nat→ax:=fun _=>default
def JA:Nat→Nat:=fun n=>match n with|0=>19|1=>209|2=>262225|3=>48|4=>48|_=>0
theorem ae4:aE Tryz.prog ao aq 49 Tryz.f49 Lq:=aj Tryz.func49 (by kernel_rfl)
def Gt:Nat→ax:=fun _=>default
def An:Nat→Nat:=fun n=>match n with|0=>2|1=>2147483650|2=>4|3=>562949953421314|4=>4|5=>10|6=>31525197391593482|7=>67553994410557450|8=>31525197391593514|9=>37778963388154553303082|10=>4|11=>31525197391593482|12=>31525197391593482|13=>4|_=>0
theorem ae3:aE Tryz.prog ao aq 50 Tryz.f50 Gt:=aj Tryz.func50 (by kernel_rfl)
def Q1:Nat→ax:=fun _=>default
def SM:Nat→Nat:=fun n=>match n with|0=>12|1=>44|2=>16|_=>0
theorem ae2:aE Tryz.prog ao aq 51 Tryz.f51 Q1:=aj Tryz.func51 (by kernel_rfl)
def Q0:Nat→ax:=fun n=>match n with|1=>⟨[(0,false),(1,false),(2,false),(3,false),(4,false),(5,false),(6,false),(7,false),(8,false),(9,false),(10,false)],none,[],[11]⟩|2=>⟨[(0,false),(1,false),(2,false),(3,false),(4,false),(5,false),(6,false)],none,[4],[7,8,9,10]⟩|_=>default
def SL:Nat→Nat:=fun n=>match n with|0=>9|1=>9|2=>0|_=>0
theorem ae1:aE Tryz.prog ao aq 52 Tryz.f52 Q0:=aj Tryz.func52 (by kernel_rfl)
def Lp:Nat→ax:=fun n=>match n with|7=>⟨[(0,false),(1,false),(2,false),(3,false),(4,false),(5,false),(6,true),(7,false),(8,false),(9,true),(10,false)],none,[1],[11]⟩|_=>default
def Eg:Nat→Nat:=fun n=>match n with|0=>6|1=>14|2=>14|3=>14|4=>57356|5=>122892|6=>57388|7=>57356|8=>57356|9=>4|_=>0
theorem ae0:aE Tryz.prog ao aq 53 Tryz.f53 Lp:=aj Tryz.func53 (by kernel_rfl)
def Lo:Nat→ax:=fun _=>default
def Jz:Nat→Nat:=fun n=>match n with|0=>3|1=>16|_=>0
theorem aeZ:aE Tryz.prog ao aq 54 Tryz.f54 Lo:=aj Tryz.func54 (by kernel_rfl)
def QZ:Nat→ax:=fun _=>default
def SK:Nat→Nat:=fun n=>match n with|0=>6|1=>8|_=>0
theorem aeY:aE Tryz.prog ao aq 55 Tryz.f55 QZ:=aj Tryz.func55 (by kernel_rfl)
def QY:Nat→ax:=fun n=>match n with|1=>⟨[(0,false),(1,false),(2,false),(3,false),(4,false),(5,false),(6,false),(7,false),(8,false),(9,false),(10,false),(11,false)],none,[],[12]⟩|_=>default
def SJ:Nat→Nat:=fun n=>match n with|0=>5|1=>5|2=>0|_=>0
theorem aeX:aE Tryz.prog ao aq 56 Tryz.f56 QY:=aj Tryz.func56 (by kernel_rfl)
def Ln:Nat→ax:=fun _=>default
def Jy:Nat→Nat:=fun n=>match n with|0=>2|1=>34|2=>4|3=>16384|4=>4|5=>4|_=>0
theorem aeW:aE Tryz.prog ao aq 57 Tryz.f57 Ln:=aj Tryz.func57 (by kernel_rfl)
def QX:Nat→ax:=fun _=>default
def SI:Nat→Nat:=fun n=>match n with|0=>6|1=>4|_=>0
theorem aeV:aE Tryz.prog ao aq 58 Tryz.f58 QX:=aj Tryz.func58 (by kernel_rfl)
def Lm:Nat→ax:=fun _=>default
def Jx:Nat→Nat:=fun n=>match n with|0=>9|1=>104|2=>16|_=>0
theorem aeU:aE Tryz.prog ao aq 59 Tryz.f59 Lm:=aj Tryz.func59 (by kernel_rfl)
def QW:Nat→ax:=fun _=>default
def SH:Nat→Nat:=fun n=>match n with|0=>28|1=>16|_=>0
theorem aeT:aE Tryz.prog ao aq 60 Tryz.f60 QW:=aj Tryz.func60 (by kernel_rfl)
def wK:Nat→ax:=fun n=>match n with|12=>⟨[(0,false),(1,false),(2,false),(3,false),(4,false),(5,false),(6,false),(7,false),(8,false),(9,false)],none,[],[10,11]⟩|_=>default
def ny:Nat→Nat:=fun n=>match n with|0=>12|1=>140|2=>16|3=>524300|4=>16|5=>2147483660|6=>16|7=>8796093022220|8=>16|9=>44|10=>9223372036854775852|11=>44|12=>108|13=>302231454903657293676652|14=>16|15=>16|_=>0
theorem aeS:aE Tryz.prog ao aq 61 Tryz.f61 wK:=aj Tryz.func61 (by kernel_rfl)
def QV:Nat→ax:=fun n=>match n with|1=>⟨[(0,false),(1,false),(2,false),(3,false),(4,false),(5,false),(6,false),(7,false),(8,false),(9,false)],none,[],[]⟩|4=>⟨[(0,false),(1,false),(2,false),(3,false),(4,false),(5,false),(6,false),(7,false),(8,false),(9,false),(10,false),(11,false)],none,[],[12,13]⟩|_=>default
def SG:Nat→Nat:=fun n=>match n with|0=>3|1=>16387|2=>16|3=>3|4=>16|_=>0
theorem aeR:aE Tryz.prog ao aq 64 Tryz.f64 QV:=aj Tryz.func64 (by kernel_rfl)
def wJ:Nat→ax:=fun n=>match n with|5=>⟨[(0,false),(1,false),(2,true),(3,false),(4,false)],none,[],[5,6]⟩|_=>default
def rV:Nat→Nat:=fun n=>match n with|0=>271|1=>783|2=>4879|3=>256|4=>8389391|5=>256|6=>4294967567|7=>256|8=>256|_=>0
theorem aeQ:aE Tryz.prog ao aq 65 Tryz.f65 wJ:=aj Tryz.func65 (by kernel_rfl)
def Gs:Nat→ax:=fun _=>default
def rU:Nat→Nat:=fun n=>match n with|0=>3|1=>387|2=>899|3=>419|4=>65955|5=>16|6=>387|7=>16|_=>0
theorem aeP:aE Tryz.prog ao aq 67 Tryz.f67 Gs:=aj Tryz.func67 (by kernel_rfl)
def CA:Nat→ax:=fun _=>default
def Am:Nat→Nat:=fun n=>match n with|0=>3|1=>16|_=>0
theorem aeO:aE Tryz.prog ao aq 69 Tryz.f69 CA:=aj Tryz.func69 (by kernel_rfl)
def QU:Nat→ax:=fun _=>default
def SF:Nat→Nat:=fun n=>match n with|0=>6|1=>8|_=>0
theorem aeN:aE Tryz.prog ao aq 70 Tryz.f70 QU:=aj Tryz.func70 (by kernel_rfl)
def Cz:Nat→ax:=fun _=>default
def pf:Nat→Nat:=fun n=>match n with|0=>199|1=>33554503|2=>69|3=>325|4=>30064771333|5=>64424509701|6=>30064772357|7=>30064771333|8=>30064771333|9=>123145302310917|10=>263882790666245|11=>123145302315013|12=>123145302310917|13=>123145302310917|_=>0
theorem aeM:aE Tryz.prog ao aq 71 Tryz.f71 Cz:=aj Tryz.func71 (by kernel_rfl)
def YN:Nat→ax:=fun _=>default
def aas:Nat→Nat:=fun n=>match n with|0=>1|1=>8|2=>8|3=>4|_=>0
theorem aeL:aE Tryz.prog ao aq 72 Tryz.f72 YN:=aj Tryz.func72 (by kernel_rfl)
def QT:Nat→ax:=fun _=>default
def SE:Nat→Nat:=fun n=>match n with|0=>2|1=>4|_=>0
theorem aeK:aE Tryz.prog ao aq 73 Tryz.f73 QT:=aj Tryz.func73 (by kernel_rfl)
def Ll:Nat→ax:=fun _=>default
def Jw:Nat→Nat:=fun n=>match n with|0=>3|1=>3|2=>2|3=>48|_=>0
theorem aeJ:aE Tryz.prog ao aq 74 Tryz.f74 Ll:=aj Tryz.func74 (by kernel_rfl)
def YM:Nat→ax:=fun _=>default
def aaq:Nat→Nat:=fun n=>match n with|0=>1|1=>4|_=>0
theorem aeI:aE Tryz.prog ao aq 75 Tryz.f75 YM:=aj Tryz.func75 (by kernel_rfl)
def iT:Nat→ax:=fun _=>default
def gu:Nat→Nat:=fun n=>match n with|0=>9|1=>41|2=>521|3=>0|4=>0|5=>1048617|6=>0|7=>16777257|8=>0|9=>268435497|10=>0|11=>68719476777|12=>0|13=>4398046511145|14=>0|15=>281474976710665|16=>0|_=>0
theorem aeH:aE Tryz.prog ao aq 76 Tryz.f76 iT:=aj Tryz.func76 (by kernel_rfl)
def Lk:Nat→ax:=fun _=>default
def Jv:Nat→Nat:=fun n=>match n with|0=>3|1=>3|2=>0|3=>16|_=>0
theorem aeG:aE Tryz.prog ao aq 77 Tryz.f77 Lk:=aj Tryz.func77 (by kernel_rfl)
def YL:Nat→ax:=fun n=>match n with|1=>⟨[],none,[],[1000000]⟩|_=>default
def aap:Nat→Nat:=fun n=>match n with|0=>1|1=>4|_=>0
theorem aeF:aE Tryz.prog ao aq 78 Tryz.f78 YL:=aj Tryz.func78 (by kernel_rfl)
def QS:Nat→ax:=fun _=>default
def SD:Nat→Nat:=fun n=>match n with|0=>1|1=>1|_=>0
theorem aeE:aE Tryz.prog ao aq 82 Tryz.f82 QS:=aj Tryz.func82 (by kernel_rfl)
def Gr:Nat→ax:=fun n=>match n with|9=>⟨[(0,false),(1,false),(2,false),(3,false),(4,false),(5,false),(6,false),(7,true),(8,false),(9,true),(10,false)],none,[1],[11]⟩|_=>default
def Al:Nat→Nat:=fun n=>match n with|0=>271|1=>783|2=>525071|3=>256|4=>1295|5=>3343|6=>7439|7=>68719484175|8=>7439|9=>7439|10=>256|_=>0
theorem aeD:aE Tryz.prog ao aq 83 Tryz.f83 Gr:=aj Tryz.func83 (by kernel_rfl)
def QR:Nat→ax:=fun _=>default
def SC:Nat→Nat:=fun n=>match n with|0=>5|1=>4|_=>0
theorem aeC:aE Tryz.prog ao aq 84 Tryz.f84 QR:=aj Tryz.func84 (by kernel_rfl)
def QQ:Nat→ax:=fun _=>default
def SB:Nat→Nat:=fun n=>match n with|0=>28|1=>16|_=>0
theorem aeB:aE Tryz.prog ao aq 85 Tryz.f85 QQ:=aj Tryz.func85 (by kernel_rfl)
def QP:Nat→ax:=fun _=>default
def SA:Nat→Nat:=fun n=>match n with|0=>1|1=>1|_=>0
theorem aeA:aE Tryz.prog ao aq 86 Tryz.f86 QP:=aj Tryz.func86 (by kernel_rfl)
def QO:Nat→ax:=fun _=>default
def Sz:Nat→Nat:=fun n=>match n with|0=>1|1=>4|_=>0
theorem aez:aE Tryz.prog ao aq 87 Tryz.f87 QO:=aj Tryz.func87 (by kernel_rfl)
def QN:Nat→ax:=fun _=>default
def Sy:Nat→Nat:=fun n=>match n with|0=>3|1=>16|_=>0
theorem aey:aE Tryz.prog ao aq 88 Tryz.f88 QN:=aj Tryz.func88 (by kernel_rfl)
def QM:Nat→ax:=fun _=>default
def Sx:Nat→Nat:=fun n=>match n with|0=>12|1=>16|_=>0
theorem aex:aE Tryz.prog ao aq 89 Tryz.f89 QM:=aj Tryz.func89 (by kernel_rfl)
def QL:Nat→ax:=fun _=>default
def Sw:Nat→Nat:=fun n=>match n with|0=>12|1=>16|_=>0
theorem aew:aE Tryz.prog ao aq 90 Tryz.f90 QL:=aj Tryz.func90 (by kernel_rfl)
def QK:Nat→ax:=fun _=>default
def Sv:Nat→Nat:=fun n=>match n with|0=>12|1=>16|_=>0
theorem aev:aE Tryz.prog ao aq 91 Tryz.f91 QK:=aj Tryz.func91 (by kernel_rfl)
def wI:Nat→ax:=fun _=>default
def nu:Nat→Nat:=fun n=>match n with|0=>7|1=>16391|2=>64|3=>229382|4=>491526|5=>229766|6=>230150|7=>1073971206|8=>64|9=>229382|10=>64|_=>0
theorem aeu:aE Tryz.prog ao aq 92 Tryz.f92 wI:=aj Tryz.func92 (by kernel_rfl)
def Gq:Nat→ax:=fun n=>match n with|3=>⟨[(0,false),(1,false),(2,false),(3,false),(4,false),(5,false),(6,false),(7,true),(8,true),(9,false),(10,false),(11,false),(12,false),(13,false),(14,false),(15,false)],none,[],[16,17,18]⟩|8=>⟨[(0,false),(1,false),(2,false),(3,false),(4,false),(5,false),(6,true),(7,false),(8,false),(9,false),(10,false),(11,false),(12,false),(13,false),(14,false),(15,false),(16,false)],none,[],[17,18,19]⟩|13=>⟨[(0,false),(1,false),(2,false),(3,false),(4,false),(5,false),(6,false),(7,false),(8,false),(9,false),(10,false),(11,false),(12,false)],none,[],[]⟩|_=>default
def pe:Nat→Nat:=fun n=>match n with|0=>2|1=>536870914|2=>4|3=>281474976710658|4=>4|5=>10|6=>9007199254741002|7=>10|8=>37778931862957161709578|9=>4|10=>26|11=>302231454903657293676570|12=>26|13=>9903520314283042199192993818|14=>4|15=>4|_=>0
theorem aet:aE Tryz.prog ao aq 93 Tryz.f93 Gq:=aj Tryz.func93 (by kernel_rfl)
def Gp:Nat→ax:=fun n=>match n with|11=>⟨[(0,false),(1,false),(2,false),(3,false),(4,false),(5,false),(8,false),(6,true),(7,false),(9,true),(10,false),(11,true),(12,false)],none,[1],[13]⟩|_=>default
def Ak:Nat→Nat:=fun n=>match n with|0=>78|1=>206|2=>206|3=>65742|4=>974|5=>67109838|6=>64|7=>206|8=>120259084494|9=>257698037966|10=>120259087566|11=>120259084494|12=>120259084494|13=>64|_=>0
theorem aes:aE Tryz.prog ao aq 94 Tryz.f94 Gp:=aj Tryz.func94 (by kernel_rfl)
def Gn:Nat→ax:=fun _=>default
def Ee:Nat→Nat:=fun n=>match n with|0=>7|1=>135|2=>524421|3=>96|4=>96|_=>0
theorem aer:aE Tryz.prog ao aq 95 Tryz.f95 Gn:=aj Tryz.func95 (by kernel_rfl)
def YK:Nat→ax:=fun _=>default
def aao:Nat→Nat:=fun n=>match n with|0=>1|1=>8|2=>4|3=>4|_=>0
theorem aeq:aE Tryz.prog ao aq 96 Tryz.f96 YK:=aj Tryz.func96 (by kernel_rfl)
def wH:Nat→ax:=fun _=>default
def jj:Nat→Nat:=fun n=>match n with|0=>3|1=>387|2=>899|3=>419|4=>65955|5=>16|6=>387|7=>16|_=>0
theorem aep:aE Tryz.prog ao aq 99 Tryz.f99 wH:=aj Tryz.func99 (by kernel_rfl)
def D5:Nat→ax:=fun _=>default
def En:Nat→Nat:=fun n=>match n with|0=>2|1=>10|2=>8|3=>4|_=>0
theorem acn:aE Tryz.prog ao aq 100 Tryz.f100 D5:=aj Tryz.func100 (by kernel_rfl)
def R6:Nat→ax:=fun _=>default
def WY:Nat→Nat:=fun n=>match n with|0=>1|1=>4|_=>0
theorem acm:aE Tryz.prog ao aq 101 Tryz.f101 R6:=aj Tryz.func101 (by kernel_rfl)
def R5:Nat→ax:=fun _=>default
def WX:Nat→Nat:=fun n=>match n with|0=>5|1=>0|_=>0
theorem ack:aE Tryz.prog ao aq 102 Tryz.f102 R5:=aj Tryz.func102 (by kernel_rfl)
def R4:Nat→ax:=fun _=>default
def WW:Nat→Nat:=fun n=>match n with|0=>33|1=>161|2=>41|3=>8225|_=>0
theorem acj:aE Tryz.prog ao aq 103 Tryz.f103 R4:=aj Tryz.func103 (by kernel_rfl)
def R0:Nat→ax:=fun _=>default
def WV:Nat→Nat:=fun n=>match n with|0=>65|1=>0|2=>524288|_=>0
theorem aci:aE Tryz.prog ao aq 104 Tryz.f104 R0:=aj Tryz.func104 (by kernel_rfl)
def RZ:Nat→ax:=fun _=>default
def WU:Nat→Nat:=fun n=>match n with|0=>1|1=>4|_=>0
theorem ach:aE Tryz.prog ao aq 105 Tryz.f105 RZ:=aj Tryz.func105 (by kernel_rfl)
def zZ:Nat→ax:=fun _=>default
def tN:Nat→Nat:=fun n=>match n with|0=>5|1=>28673|2=>61441|3=>28801|4=>28801|5=>28673|6=>28673|7=>0|_=>0
theorem acg:aE Tryz.prog ao aq 106 Tryz.f106 zZ:=aj Tryz.func106 (by kernel_rfl)
def RY:Nat→ax:=fun _=>default
def WT:Nat→Nat:=fun n=>match n with|0=>1|1=>4|_=>0
theorem acf:aE Tryz.prog ao aq 111 Tryz.f111 RY:=aj Tryz.func111 (by kernel_rfl)
def D4:Nat→ax:=fun _=>default
def ym:Nat→Nat:=fun n=>match n with|0=>3|1=>35|2=>547|3=>35|4=>131107|5=>16|6=>16|_=>0
theorem ace:aE Tryz.prog ao aq 112 Tryz.f112 D4:=aj Tryz.func112 (by kernel_rfl)
def RX:Nat→ax:=fun _=>default
def WS:Nat→Nat:=fun n=>match n with|0=>1|1=>4|_=>0
theorem acd:aE Tryz.prog ao aq 113 Tryz.f113 RX:=aj Tryz.func113 (by kernel_rfl)
def RW:Nat→ax:=fun _=>default
def WR:Nat→Nat:=fun n=>match n with|0=>1|1=>4|_=>0
theorem acb:aE Tryz.prog ao aq 114 Tryz.f114 RW:=aj Tryz.func114 (by kernel_rfl)
def D3:Nat→ax:=fun _=>default
def lH:Nat→Nat:=fun n=>match n with|0=>3|1=>387|2=>899|3=>419|4=>65955|5=>16|6=>387|7=>16|_=>0
theorem aca:aE Tryz.prog ao aq 115 Tryz.f115 D3:=aj Tryz.func115 (by kernel_rfl)
def Jj:Nat→ax:=fun _=>default
def L7:Nat→Nat:=fun n=>match n with|0=>2|1=>10|2=>4|3=>4096|4=>4|5=>4|_=>0
theorem ab9:aE Tryz.prog ao aq 116 Tryz.f116 Jj:=aj Tryz.func116 (by kernel_rfl)
def Ji:Nat→ax:=fun _=>default
def L5:Nat→Nat:=fun n=>match n with|0=>2|1=>4|_=>0
theorem ab8:aE Tryz.prog ao aq 117 Tryz.f117 Ji:=aj Tryz.func117 (by kernel_rfl)
def Jh:Nat→ax:=fun _=>default
def L4:Nat→Nat:=fun n=>match n with|0=>3|1=>16|_=>0
theorem ab7:aE Tryz.prog ao aq 118 Tryz.f118 Jh:=aj Tryz.func118 (by kernel_rfl)
def D2:Nat→ax:=fun _=>default
def Em:Nat→Nat:=fun n=>match n with|0=>2|1=>10|2=>8|3=>4|_=>0
theorem ab6:aE Tryz.prog ao aq 119 Tryz.f119 D2:=aj Tryz.func119 (by kernel_rfl)
def Jg:Nat→ax:=fun _=>default
def L3:Nat→Nat:=fun n=>match n with|0=>3|1=>8|_=>0
theorem ab5:aE Tryz.prog ao aq 120 Tryz.f120 Jg:=aj Tryz.func120 (by kernel_rfl)
def D1:Nat→ax:=fun n=>match n with|1=>⟨[(0,false),(1,false),(2,false),(3,false),(5,false),(6,false),(7,false),(8,false),(10,false),(11,false),(12,false),(13,false),(15,false),(16,false),(17,false),(18,false),(19,false),(20,false),(4,true),(9,true),(14,true)],none,[],[21,22,23,24]⟩|5=>⟨[(0,false),(1,false),(2,false),(3,false),(4,false),(5,false),(6,false),(7,false),(8,false),(9,false)],none,[],[10,11]⟩|_=>default
def nD:Nat→Nat:=fun n=>match n with|0=>12|1=>44|2=>108|3=>549755813996|4=>108|5=>108|6=>16|_=>0
theorem ab4:aE Tryz.prog ao aq 121 Tryz.f121 D1:=aj Tryz.func121 (by kernel_rfl)
def zY:Nat→ax:=fun _=>default
def tM:Nat→Nat:=fun n=>match n with|0=>1|1=>131073|2=>4|3=>9|4=>2097161|5=>9|6=>17179869193|7=>4|8=>4|_=>0
theorem ab3:aE Tryz.prog ao aq 122 Tryz.f122 zY:=aj Tryz.func122 (by kernel_rfl)
def Jf:Nat→ax:=fun _=>default
def L2:Nat→Nat:=fun n=>match n with|0=>1|1=>4|_=>0
theorem ab2:aE Tryz.prog ao aq 123 Tryz.f123 Jf:=aj Tryz.func123 (by kernel_rfl)
def DZ:Nat→ax:=fun _=>default
def El:Nat→Nat:=fun n=>match n with|0=>6|1=>38|2=>16|_=>0
theorem ab1:aE Tryz.prog ao aq 124 Tryz.f124 DZ:=aj Tryz.func124 (by kernel_rfl)
def DY:Nat→ax:=fun n=>match n with|6=>⟨[(0,false),(1,false),(2,false),(3,true),(4,false),(5,true),(6,false)],none,[1],[7]⟩|_=>default
def yl:Nat→Nat:=fun n=>match n with|0=>6|1=>14|2=>14|3=>3596|4=>7692|5=>3628|6=>3596|7=>3596|8=>4|_=>0
theorem ab0:aE Tryz.prog ao aq 125 Tryz.f125 DY:=aj Tryz.func125 (by kernel_rfl)
def Je:Nat→ax:=fun _=>default
def L1:Nat→Nat:=fun n=>match n with|0=>6|1=>2048|2=>16|3=>16|_=>0
theorem abZ:aE Tryz.prog ao aq 126 Tryz.f126 Je:=aj Tryz.func126 (by kernel_rfl)
def Jd:Nat→ax:=fun _=>default
def L0:Nat→Nat:=fun n=>match n with|0=>6|1=>2048|2=>16|3=>16|_=>0
theorem abY:aE Tryz.prog ao aq 127 Tryz.f127 Jd:=aj Tryz.func127 (by kernel_rfl)
def zX:Nat→ax:=fun _=>default
def tL:Nat→Nat:=fun n=>match n with|0=>6|1=>262|2=>6|3=>114690|4=>245762|5=>114722|6=>114690|7=>114690|_=>0
theorem abX:aE Tryz.prog ao aq 128 Tryz.f128 zX:=aj Tryz.func128 (by kernel_rfl)
def RV:Nat→ax:=fun _=>default
def WQ:Nat→Nat:=fun n=>match n with|0=>6|1=>68|4=>16|_=>0
theorem abW:aE Tryz.prog ao aq 129 Tryz.f129 RV:=aj Tryz.func129 (by kernel_rfl)
def RT:Nat→ax:=fun n=>match n with|17=>⟨[(0,false),(1,false),(2,false),(3,false),(4,false),(5,false),(6,false),(7,false),(8,false),(9,false),(10,false),(11,false)],none,[],[12,13,14]⟩|_=>default
def WO:Nat→Nat:=fun n=>match n with|0=>271|1=>783|2=>1807|3=>8390415|4=>0|5=>536872719|6=>0|7=>34359740175|8=>1807|9=>1807|10=>7951|11=>1125899906850575|12=>3855|13=>3855|14=>7951|15=>295147905179352829711|16=>4722366482869645217551|17=>154742504910672534362394383|18=>8973|19=>783|20=>50191|21=>17935|22=>214543|23=>475663|24=>10384593717069655257060992658915855|25=>17167|26=>17165|27=>783|28=>17167|29=>17163|30=>783|_=>0
theorem abV:aE Tryz.prog ao aq 130 Tryz.f130 RT:=aj Tryz.func130 (by kernel_rfl)
def RS:Nat→ax:=fun _=>default
def WN:Nat→Nat:=fun n=>match n with|0=>1|1=>4|2=>4|_=>0
theorem abU:aE Tryz.prog ao aq 131 Tryz.f131 RS:=aj Tryz.func131 (by kernel_rfl)
def RR:Nat→ax:=fun _=>default
def WM:Nat→Nat:=fun n=>match n with|0=>3|1=>2051|2=>131073|3=>16|4=>33|5=>97|6=>8388705|7=>97|8=>225|9=>161|10=>17179869344|11=>160|12=>16|13=>16|14=>512|15=>16|_=>0
theorem abT:aE Tryz.prog ao aq 133 Tryz.f133 RR:=aj Tryz.func133 (by kernel_rfl)
def RQ:Nat→ax:=fun _=>default
def WL:Nat→Nat:=fun n=>match n with|0=>1|1=>4|_=>0
theorem abS:aE Tryz.prog ao aq 135 Tryz.f135 RQ:=aj Tryz.func135 (by kernel_rfl)
def DX:Nat→ax:=fun _=>default
def yk:Nat→Nat:=fun n=>match n with|0=>2|1=>10|2=>904|3=>1928|4=>936|5=>904|6=>904|7=>4|_=>0
theorem abR:aE Tryz.prog ao aq 136 Tryz.f136 DX:=aj Tryz.func136 (by kernel_rfl)
def DW:Nat→ax:=fun _=>default
def yj:Nat→Nat:=fun n=>match n with|0=>2|1=>10|2=>904|3=>1928|4=>936|5=>904|6=>904|7=>4|_=>0
theorem abQ:aE Tryz.prog ao aq 137 Tryz.f137 DW:=aj Tryz.func137 (by kernel_rfl)
def Jc:Nat→ax:=fun _=>default
def LZ:Nat→Nat:=fun n=>match n with|0=>2|1=>4|_=>0
theorem abP:aE Tryz.prog ao aq 138 Tryz.f138 Jc:=aj Tryz.func138 (by kernel_rfl)
def zW:Nat→ax:=fun n=>match n with|6=>⟨[(0,false),(1,false),(2,false),(3,false),(4,true),(5,false)],none,[],[6,7]⟩|_=>default
def qm:Nat→Nat:=fun n=>match n with|0=>6|1=>32774|2=>16|3=>917510|4=>1966086|5=>917606|6=>2148401158|7=>16|8=>917510|9=>16|_=>0
theorem abO:aE Tryz.prog ao aq 139 Tryz.f139 zW:=aj Tryz.func139 (by kernel_rfl)
def Jb:Nat→ax:=fun _=>default
def LY:Nat→Nat:=fun n=>match n with|0=>2|1=>4|_=>0
theorem abN:aE Tryz.prog ao aq 140 Tryz.f140 Jb:=aj Tryz.func140 (by kernel_rfl)
def DV:Nat→ax:=fun _=>default
def tK:Nat→Nat:=fun n=>match n with|0=>3|1=>387|2=>899|3=>419|4=>65955|5=>16|6=>387|7=>16|_=>0
theorem abM:aE Tryz.prog ao aq 141 Tryz.f141 DV:=aj Tryz.func141 (by kernel_rfl)
def vm:Nat→ax:=fun n=>match n with|6=>⟨[(0,false),(1,false),(2,false),(3,false),(6,false),(4,true),(5,false)],none,[],[7]⟩|_=>default
def ql:Nat→Nat:=fun n=>match n with|0=>14|1=>65550|2=>14|3=>117440526|4=>251658254|5=>117440718|6=>117440526|7=>117440526|_=>0
theorem abL:aE Tryz.prog ao aq 142 Tryz.f142 vm:=aj Tryz.func142 (by kernel_rfl)
def DU:Nat→ax:=fun _=>default
def nC:Nat→Nat:=fun n=>match n with|0=>1|1=>9|2=>456|3=>968|4=>488|5=>16872|6=>4|7=>456|8=>4|_=>0
theorem abK:aE Tryz.prog ao aq 143 Tryz.f143 DU:=aj Tryz.func143 (by kernel_rfl)
def Ja:Nat→ax:=fun _=>default
def LX:Nat→Nat:=fun n=>match n with|0=>3|1=>35|2=>99|3=>2115|4=>4096|5=>16|6=>16|7=>8195|8=>16|9=>65539|10=>16|11=>524288|12=>16|13=>16|_=>0
theorem abJ:aE Tryz.prog ao aq 144 Tryz.f144 Ja:=aj Tryz.func144 (by kernel_rfl)
def I9:Nat→ax:=fun _=>default
def LW:Nat→Nat:=fun n=>match n with|0=>3|1=>35|2=>99|3=>2115|4=>4096|5=>16|6=>16|7=>8195|8=>16|9=>65539|10=>16|11=>524288|12=>16|13=>16|_=>0
theorem abI:aE Tryz.prog ao aq 145 Tryz.f145 I9:=aj Tryz.func145 (by kernel_rfl)
def RP:Nat→ax:=fun _=>default
def WK:Nat→Nat:=fun n=>match n with|0=>1|1=>4|_=>0
theorem abH:aE Tryz.prog ao aq 146 Tryz.f146 RP:=aj Tryz.func146 (by kernel_rfl)
def RO:Nat→ax:=fun _=>default
def WJ:Nat→Nat:=fun n=>match n with|0=>1|1=>4|_=>0
theorem abG:aE Tryz.prog ao aq 147 Tryz.f147 RO:=aj Tryz.func147 (by kernel_rfl)
def I8:Nat→ax:=fun _=>default
def LV:Nat→Nat:=fun n=>match n with|0=>2|1=>4|_=>0
theorem abF:aE Tryz.prog ao aq 148 Tryz.f148 I8:=aj Tryz.func148 (by kernel_rfl)
def I7:Nat→ax:=fun _=>default
def LU:Nat→Nat:=fun n=>match n with|0=>2|1=>10|2=>4|3=>4096|4=>4|5=>4|_=>0
theorem abE:aE Tryz.prog ao aq 149 Tryz.f149 I7:=aj Tryz.func149 (by kernel_rfl)
def DT:Nat→ax:=fun _=>default
def tJ:Nat→Nat:=fun n=>match n with|0=>2|1=>1026|2=>4|3=>10|4=>32778|5=>10|6=>16777226|7=>4|8=>4|_=>0
theorem abD:aE Tryz.prog ao aq 150 Tryz.f150 DT:=aj Tryz.func150 (by kernel_rfl)
def zV:Nat→ax:=fun _=>default
def yi:Nat→Nat:=fun n=>match n with|0=>51|1=>65555|2=>0|_=>0
theorem abC:aE Tryz.prog ao aq 151 Tryz.f151 zV:=aj Tryz.func151 (by kernel_rfl)
def RM:Nat→ax:=fun n=>match n with|4=>⟨[(0,false),(1,false),(2,false),(3,false),(4,false),(5,false),(6,false),(7,false),(8,false),(9,false),(10,false),(11,false),(12,false)],none,[],[13,14]⟩|6=>⟨[],some 999999,[],[]⟩|_=>default
def WI:Nat→Nat:=fun n=>match n with|0=>71|1=>4167|2=>71|3=>199|4=>1073742023|5=>199|6=>199|_=>0
theorem abB:aE Tryz.prog ao aq 152 Tryz.f152 RM:=aj Tryz.func152 (by kernel_rfl)
def RL:Nat→ax:=fun n=>match n with|10=>⟨[],some 999999,[],[]⟩|_=>default
def WH:Nat→Nat:=fun n=>match n with|0=>71|1=>199|2=>449|3=>961|4=>525249|5=>961|6=>961|7=>1217|8=>1073743041|9=>1217|10=>1217|11=>1217|_=>0
theorem abA:aE Tryz.prog ao aq 153 Tryz.f153 RL:=aj Tryz.func153 (by kernel_rfl)
def RK:Nat→ax:=fun n=>match n with|10=>⟨[],some 999999,[],[]⟩|_=>default
def WG:Nat→Nat:=fun n=>match n with|0=>67|1=>32835|2=>195|3=>451|4=>963|5=>8589935555|6=>963|7=>1987|8=>8796093024195|9=>1987|10=>963|_=>0
theorem abz:aE Tryz.prog ao aq 154 Tryz.f154 RK:=aj Tryz.func154 (by kernel_rfl)
def RJ:Nat→ax:=fun _=>default
def WE:Nat→Nat:=fun n=>match n with|0=>7|1=>259|2=>771|3=>1795|4=>3843|5=>7937|6=>4294975233|7=>17179876865|8=>7681|9=>7681|10=>7681|11=>2560|12=>562949953423360|13=>192|14=>2814749767108608|15=>192|16=>18014398509484032|17=>192|_=>0
theorem aby:aE Tryz.prog ao aq 155 Tryz.f155 RJ:=aj Tryz.func155 (by kernel_rfl)
def RI:Nat→ax:=fun n=>match n with|3=>⟨[(0,false),(1,false),(2,false),(3,false),(4,false),(5,false),(6,false),(7,false),(8,false),(9,false),(10,false),(11,false),(12,false),(13,true),(14,false),(15,true)],none,[],[]⟩|_=>default
def WD:Nat→Nat:=fun n=>match n with|0=>69|1=>193|2=>8385|3=>193|4=>193|5=>193|_=>0
theorem abx:aE Tryz.prog ao aq 156 Tryz.f156 RI:=aj Tryz.func156 (by kernel_rfl)
def RH:Nat→ax:=fun n=>match n with|5=>⟨[(0,false),(1,false),(2,false),(3,false),(4,false),(5,false),(6,false),(7,false),(8,false),(9,false),(10,false),(11,false),(12,false)],none,[],[13,14,15]⟩|11=>⟨[],some 999999,[],[]⟩|16=>⟨[(0,false),(1,false),(2,false),(3,false),(4,false),(5,false),(6,false),(7,false),(8,false)],none,[],[9,10]⟩|17=>⟨[],some 999999,[],[]⟩|22=>⟨[(0,false),(1,false),(2,false),(3,false),(4,false),(5,false),(6,false),(7,false),(8,false)],none,[],[9,10]⟩|23=>⟨[],some 999999,[],[]⟩|_=>default
def WC:Nat→Nat:=fun n=>match n with|0=>7|1=>135|2=>391|3=>16775|4=>391|5=>4294967687|6=>391|7=>137438953863|8=>64|9=>2199023255943|10=>64|11=>391|12=>2305843009213694343|13=>903|14=>36893488147419104135|15=>903|16=>302231454903657293677447|17=>903|18=>316912650057057350374175801735|19=>1415|20=>10141204801825835211973625644423|21=>1415|22=>83076749736557242056487941267522951|23=>1415|24=>64|_=>0
theorem abw:aE Tryz.prog ao aq 157 Tryz.f157 RH:=aj Tryz.func157 (by kernel_rfl)
def RG:Nat→ax:=fun _=>default
def WA:Nat→Nat:=fun n=>match n with|0=>3|1=>16|_=>0
theorem abv:aE Tryz.prog ao aq 158 Tryz.f158 RG:=aj Tryz.func158 (by kernel_rfl)
def RE:Nat→ax:=fun n=>match n with|1=>⟨[(0,false),(1,false),(2,false),(3,false),(4,false),(5,false),(6,false),(7,false),(8,false),(9,false),(10,false),(11,false),(12,false),(13,true),(14,false),(15,true)],none,[],[]⟩|3=>⟨[(0,false),(1,false),(2,false),(3,false),(4,false),(5,false),(6,false),(7,false),(8,false),(9,false),(10,false),(11,false)],none,[],[12,13,14]⟩|5=>⟨[(0,false),(1,false),(2,false),(3,false),(4,false),(5,false),(6,false),(7,false),(8,false),(9,false),(10,false),(11,false)],none,[],[12,13]⟩|8=>⟨[(0,false),(1,false),(2,false),(3,false),(4,false),(5,false),(6,false),(7,false),(8,false),(9,false),(10,false),(11,false),(12,false),(13,true),(14,false),(15,true)],none,[],[]⟩|_=>default
def Wz:Nat→Nat:=fun n=>match n with|0=>15|1=>7|2=>1539|3=>8796093023747|4=>1539|5=>576460752303425027|6=>1539|7=>18446744073709553155|8=>1539|9=>1539|10=>1539|11=>256|_=>0
theorem abu:aE Tryz.prog ao aq 159 Tryz.f159 RE:=aj Tryz.func159 (by kernel_rfl)
def RD:Nat→ax:=fun n=>match n with|1=>⟨[(0,false),(1,false),(2,false),(3,false),(4,false),(5,false),(6,false),(7,false),(8,false),(9,false),(10,false),(11,false),(12,false),(13,true),(14,false),(15,true)],none,[],[]⟩|3=>⟨[(0,false),(1,false),(2,false),(3,false),(4,false),(5,false),(6,false),(7,false),(8,false),(9,false),(10,false),(11,false)],none,[],[12,13]⟩|5=>⟨[(0,false),(1,false),(2,false),(3,false),(4,false),(5,false),(6,false),(7,false),(8,false),(9,false),(10,false),(11,false)],none,[],[12,13,14]⟩|8=>⟨[(0,false),(1,false),(2,false),(3,false),(4,false),(5,false),(6,false),(7,false),(8,false),(9,false),(10,false),(11,false),(12,false),(13,true),(14,false),(15,true)],none,[],[]⟩|10=>⟨[(0,false),(1,false),(2,false),(3,false),(4,false),(5,false),(6,false),(7,false),(8,false),(9,false),(10,false),(11,false),(12,false),(13,true),(14,false),(15,true)],none,[],[]⟩|13=>⟨[(0,false),(1,false),(2,false),(3,false),(4,false),(5,false),(6,false),(7,false),(8,false),(9,false),(10,false),(11,false)],none,[],[12,13]⟩|15=>⟨[(0,false),(1,false),(2,false),(3,false),(4,false),(5,false),(6,false),(7,false),(8,false),(9,false),(10,false),(11,false)],none,[],[12,13,14]⟩|18=>⟨[(0,false),(1,false),(2,false),(3,false),(4,false),(5,false),(6,false),(7,false),(8,false),(9,false),(10,false),(11,false),(12,false),(13,true),(14,false),(15,true)],none,[],[]⟩|21=>⟨[(0,false),(1,false),(2,false),(3,false),(4,false),(5,false),(6,false),(7,false),(8,false),(9,false),(10,false),(11,false),(12,false),(13,true),(14,false),(15,true)],none,[],[]⟩|_=>default
def Wy:Nat→Nat:=fun n=>match n with|0=>15|1=>7|2=>3075|3=>8796093025283|4=>3075|5=>1152921504606850051|6=>3075|7=>36893488147419106307|8=>2048|9=>768|10=>3075|11=>3075|12=>3075|13=>5192296858534827628530496329223171|14=>3075|15=>680564733841876926926749214863536425987|16=>3075|17=>21778071482940061661655974875633165536259|18=>3075|19=>3075|20=>3075|21=>2048|22=>768|_=>0
theorem abt:aE Tryz.prog ao aq 160 Tryz.f160 RD:=aj Tryz.func160 (by kernel_rfl)
def RC:Nat→ax:=fun _=>default
def Wx:Nat→Nat:=fun n=>match n with|0=>5|1=>21|2=>1|3=>5|4=>261|5=>5|6=>5|7=>4|_=>0
theorem abr:aE Tryz.prog ao aq 161 Tryz.f161 RC:=aj Tryz.func161 (by kernel_rfl)
def RB:Nat→ax:=fun _=>default
def Ww:Nat→Nat:=fun n=>match n with|0=>5|1=>21|2=>1|3=>5|4=>261|5=>5|6=>5|7=>16389|8=>5|9=>5|10=>4|_=>0
theorem abq:aE Tryz.prog ao aq 162 Tryz.f162 RB:=aj Tryz.func162 (by kernel_rfl)
def RA:Nat→ax:=fun _=>default
def Wv:Nat→Nat:=fun n=>match n with|0=>1|1=>17|2=>4|3=>4|_=>0
theorem abp:aE Tryz.prog ao aq 163 Tryz.f163 RA:=aj Tryz.func163 (by kernel_rfl)
def Rz:Nat→ax:=fun _=>default
def Wu:Nat→Nat:=fun n=>match n with|0=>1|1=>9|2=>4|_=>0
theorem abo:aE Tryz.prog ao aq 164 Tryz.f164 Rz:=aj Tryz.func164 (by kernel_rfl)
def Ry:Nat→ax:=fun n=>match n with|7=>⟨[],some 999999,[],[]⟩|8=>⟨[],some 999999,[],[]⟩|9=>⟨[],some 999999,[],[]⟩|10=>⟨[],some 999999,[],[]⟩|17=>⟨[],some 999999,[],[]⟩|18=>⟨[],some 999999,[],[]⟩|23=>⟨[],some 999999,[],[]⟩|_=>default
def Wt:Nat→Nat:=fun n=>match n with|0=>19|1=>1048595|2=>51|3=>51|4=>211|5=>851|6=>3859|7=>3347|8=>3091|9=>1043|10=>19|11=>19|12=>4113|13=>633825300114114700748351606801|14=>12305|15=>12305|16=>53265|17=>20497|18=>4113|19=>4113|20=>696898287454081973172991196020261297066001|21=>69649|22=>69649|23=>4113|24=>4113|25=>2923003274661805836407369665432566039311865090049|26=>0|_=>0
theorem abn:aE Tryz.prog ao aq 165 Tryz.f165 Ry:=aj Tryz.func165 (by kernel_rfl)
def Rx:Nat→ax:=fun _=>default
def Ws:Nat→Nat:=fun n=>match n with|0=>3103|1=>268438559|2=>3103|3=>7199|4=>15391|5=>1073757215|6=>15391|7=>17179884575|8=>31775|9=>64543|10=>130075|11=>70368744307739|12=>130075|13=>130075|14=>130075|15=>15387|16=>15385|17=>146459|18=>295147905179352972315|19=>146459|20=>408603|21=>408601|22=>146459|23=>15387|24=>15385|25=>618970019642690137449577489|26=>15377|27=>15377|28=>19807040628566084398386002945|29=>3072|30=>3072|_=>0
theorem abm:aE Tryz.prog ao aq 166 Tryz.f166 Rx:=aj Tryz.func166 (by kernel_rfl)
def I6:Nat→ax:=fun _=>default
def LS:Nat→Nat:=fun n=>match n with|0=>2|1=>1048578|2=>4|3=>4194306|4=>12582914|5=>12582914|6=>4|7=>1077936130|8=>4|9=>4503599631564802|10=>4|11=>288230376155906050|12=>4|13=>18446744073713745922|14=>4|15=>1208925819614629174706178|16=>4|17=>4|_=>0
theorem abl:aE Tryz.prog ao aq 167 Tryz.f167 I6:=aj Tryz.func167 (by kernel_rfl)
def I5:Nat→ax:=fun _=>default
def LR:Nat→Nat:=fun n=>match n with|0=>2|1=>4|_=>0
theorem abk:aE Tryz.prog ao aq 168 Tryz.f168 I5:=aj Tryz.func168 (by kernel_rfl)
def I4:Nat→ax:=fun _=>default
def LQ:Nat→Nat:=fun n=>match n with|0=>2|1=>4|_=>0
theorem abj:aE Tryz.prog ao aq 169 Tryz.f169 I4:=aj Tryz.func169 (by kernel_rfl)
def zU:Nat→ax:=fun _=>default
def yh:Nat→Nat:=fun n=>match n with|0=>51|1=>65555|2=>0|_=>0
theorem abi:aE Tryz.prog ao aq 170 Tryz.f170 zU:=aj Tryz.func170 (by kernel_rfl)
def I3:Nat→ax:=fun _=>default
def LP:Nat→Nat:=fun n=>match n with|0=>1|1=>4|_=>0
theorem abh:aE Tryz.prog ao aq 171 Tryz.f171 I3:=aj Tryz.func171 (by kernel_rfl)
def I2:Nat→ax:=fun _=>default
def LO:Nat→Nat:=fun n=>match n with|0=>1|1=>4|_=>0
theorem abg:aE Tryz.prog ao aq 172 Tryz.f172 I2:=aj Tryz.func172 (by kernel_rfl)
def Rw:Nat→ax:=fun _=>default
def Wr:Nat→Nat:=fun n=>match n with|0=>1|1=>4|_=>0
theorem abf:aE Tryz.prog ao aq 173 Tryz.f173 Rw:=aj Tryz.func173 (by kernel_rfl)
def vl:Nat→ax:=fun n=>match n with|6=>⟨[(0,false),(1,false),(2,false),(3,false),(4,false),(5,false),(6,false),(7,false),(10,false),(8,true),(9,false)],none,[],[11,12]⟩|_=>default
def nB:Nat→Nat:=fun n=>match n with|0=>14|1=>65550|2=>14|3=>142|4=>134217870|5=>142|6=>142|7=>64|_=>0
theorem abe:aE Tryz.prog ao aq 174 Tryz.f174 vl:=aj Tryz.func174 (by kernel_rfl)
def DS:Nat→ax:=fun _=>default
def tI:Nat→Nat:=fun n=>match n with|0=>2|1=>10|2=>26|3=>538|4=>26|5=>26|6=>4|_=>0
theorem abd:aE Tryz.prog ao aq 175 Tryz.f175 DS:=aj Tryz.func175 (by kernel_rfl)
def DR:Nat→ax:=fun _=>default
def tH:Nat→Nat:=fun n=>match n with|0=>2|1=>10|2=>26|3=>538|4=>26|5=>26|6=>4|_=>0
theorem abc:aE Tryz.prog ao aq 176 Tryz.f176 DR:=aj Tryz.func176 (by kernel_rfl)
def fB:Nat→ax:=fun _=>default
def dj:Nat→Nat:=fun n=>match n with|0=>2|1=>10|2=>67108874|3=>4|4=>268435466|5=>4|6=>805306378|7=>805306378|8=>4|9=>17448304650|10=>4|11=>281475245146122|12=>4611686018427387914|13=>4|14=>26|15=>36893488147419103258|16=>26|17=>18889465931478580854810|18=>4|19=>37778931862957430145034|20=>302231454903657293676554|21=>4|22=>604462909807314855788554|23=>4835703278458516698824714|24=>4|25=>9671406556917033397649418|26=>19807040628566084398385987594|27=>4|28=>42|29=>158456325028528675187087900714|30=>42|31=>81129638414606681695789005144106|32=>4|33=>4|_=>0
theorem abb:aE Tryz.prog ao aq 177 Tryz.f177 fB:=aj Tryz.func177 (by kernel_rfl)
def I1:Nat→ax:=fun _=>default
def LN:Nat→Nat:=fun n=>match n with|0=>2|1=>4|_=>0
theorem aba:aE Tryz.prog ao aq 178 Tryz.f178 I1:=aj Tryz.func178 (by kernel_rfl)
def Rv:Nat→ax:=fun _=>default
def Wq:Nat→Nat:=fun n=>match n with|0=>3|1=>67|2=>451|3=>33219|4=>963|5=>134218691|6=>451|7=>451|8=>48|_=>0
theorem aa9:aE Tryz.prog ao aq 179 Tryz.f179 Rv:=aj Tryz.func179 (by kernel_rfl)
def Ru:Nat→ax:=fun n=>match n with|11=>⟨[(0,false),(1,false),(2,false),(3,false),(4,false),(5,false),(6,false),(7,false)],none,[],[8]⟩|15=>⟨[(0,false),(1,false),(2,false),(3,false),(4,false),(5,false),(6,false),(7,false)],none,[],[8]⟩|_=>default
def Wp:Nat→Nat:=fun n=>match n with|0=>7|1=>7|2=>135|3=>65671|4=>64|5=>391|6=>4194695|7=>64|8=>2147484039|9=>647|10=>643|11=>512|12=>64|13=>391|14=>295147905179352826247|15=>7|16=>1|17=>64|18=>131|19=>1|20=>64|_=>0
theorem aa8:aE Tryz.prog ao aq 180 Tryz.f180 Ru:=aj Tryz.func180 (by kernel_rfl)
def Rt:Nat→ax:=fun n=>match n with|3=>⟨[(0,false),(1,false),(2,false),(3,false),(4,false),(5,false),(6,false),(7,false),(8,false),(9,false),(10,false),(11,false),(12,false),(13,false),(14,false),(15,false),(16,false),(17,false)],none,[],[18,19]⟩|5=>⟨[(0,false),(1,false),(2,false),(3,false),(4,false),(5,false),(6,false),(7,false),(8,false),(9,false),(10,false),(11,false)],none,[],[12,13]⟩|6=>⟨[],some 999999,[],[]⟩|_=>default
def Wo:Nat→Nat:=fun n=>match n with|0=>269|1=>781|2=>66317|3=>68719477517|4=>781|5=>4503599627371277|6=>525|7=>269|_=>0
theorem aa7:aE Tryz.prog ao aq 181 Tryz.f181 Rt:=aj Tryz.func181 (by kernel_rfl)
def Rs:Nat→ax:=fun _=>default
def Wn:Nat→Nat:=fun n=>match n with|0=>1|1=>4|_=>0
theorem aa6:aE Tryz.prog ao aq 182 Tryz.f182 Rs:=aj Tryz.func182 (by kernel_rfl)
def Rr:Nat→ax:=fun n=>match n with|1=>⟨[(0,false),(1,false),(2,false),(3,false),(4,false),(5,false),(6,false),(7,false),(8,false)],none,[],[9]⟩|2=>⟨[(0,false),(1,false),(2,false),(3,false),(4,false),(5,false),(6,false),(7,false),(8,false)],none,[],[9]⟩|3=>⟨[(0,false),(1,false),(2,false),(3,false),(4,false),(5,false),(6,false),(7,false),(8,false)],none,[],[9]⟩|_=>default
def Wm:Nat→Nat:=fun n=>match n with|0=>1|1=>1|2=>1|3=>1|4=>4|_=>0
theorem aa5:aE Tryz.prog ao aq 183 Tryz.f183 Rr:=aj Tryz.func183 (by kernel_rfl)
def Rq:Nat→ax:=fun _=>default
def Wl:Nat→Nat:=fun n=>match n with|0=>7|1=>64|_=>0
theorem aa4:aE Tryz.prog ao aq 184 Tryz.f184 Rq:=aj Tryz.func184 (by kernel_rfl)
def Rp:Nat→ax:=fun _=>default
def Wk:Nat→Nat:=fun n=>match n with|0=>31|1=>31|2=>23|3=>4|4=>1024|_=>0
theorem aa3:aE Tryz.prog ao aq 185 Tryz.f185 Rp:=aj Tryz.func185 (by kernel_rfl)
def Ro:Nat→ax:=fun _=>default
def Wj:Nat→Nat:=fun n=>match n with|0=>1|1=>4|_=>0
theorem aa2:aE Tryz.prog ao aq 186 Tryz.f186 Ro:=aj Tryz.func186 (by kernel_rfl)
def Rn:Nat→ax:=fun _=>default
def Wi:Nat→Nat:=fun n=>match n with|0=>1|1=>8|2=>4|3=>4|_=>0
theorem aa1:aE Tryz.prog ao aq 187 Tryz.f187 Rn:=aj Tryz.func187 (by kernel_rfl)
def Rm:Nat→ax:=fun _=>default
def Wh:Nat→Nat:=fun n=>match n with|0=>1|1=>4|_=>0
theorem aa0:aE Tryz.prog ao aq 188 Tryz.f188 Rm:=aj Tryz.func188 (by kernel_rfl)
def Rl:Nat→ax:=fun _=>default
def Wg:Nat→Nat:=fun n=>match n with|0=>1|1=>4|2=>4|_=>0
theorem aaZ:aE Tryz.prog ao aq 189 Tryz.f189 Rl:=aj Tryz.func189 (by kernel_rfl)
def Rk:Nat→ax:=fun _=>default
def Wf:Nat→Nat:=fun n=>match n with|0=>3|1=>67|2=>451|3=>33219|4=>963|5=>134218691|6=>451|7=>451|8=>48|_=>0
theorem aaY:aE Tryz.prog ao aq 190 Tryz.f190 Rk:=aj Tryz.func190 (by kernel_rfl)
def Rj:Nat→ax:=fun n=>match n with|11=>⟨[(0,false),(1,false),(2,false),(3,false),(4,false),(5,false),(6,false),(7,false)],none,[],[8]⟩|15=>⟨[(0,false),(1,false),(2,false),(3,false),(4,false),(5,false),(6,false),(7,false)],none,[],[8]⟩|_=>default
def We:Nat→Nat:=fun n=>match n with|0=>7|1=>7|2=>135|3=>65671|4=>64|5=>391|6=>4194695|7=>64|8=>2147484039|9=>647|10=>643|11=>512|12=>64|13=>391|14=>295147905179352826247|15=>7|16=>1|17=>64|18=>131|19=>1|20=>64|_=>0
theorem aaX:aE Tryz.prog ao aq 191 Tryz.f191 Rj:=aj Tryz.func191 (by kernel_rfl)
def zT:Nat→ax:=fun n=>match n with|6=>⟨[(0,false),(1,false),(2,false),(3,false),(5,false),(6,false),(8,false),(9,false),(10,false),(4,true),(7,true)],none,[],[2000000,11,12]⟩|_=>default
def tG:Nat→Nat:=fun n=>match n with|0=>3|1=>35|2=>131107|3=>35|4=>2147483683|5=>16|6=>16|_=>0
theorem aaW:aE Tryz.prog ao aq 192 Tryz.f192 zT:=aj Tryz.func192 (by kernel_rfl)
def Ri:Nat→ax:=fun _=>default
def Wd:Nat→Nat:=fun n=>match n with|0=>1|1=>4|_=>0
theorem aaV:aE Tryz.prog ao aq 193 Tryz.f193 Ri:=aj Tryz.func193 (by kernel_rfl)
def Rh:Nat→ax:=fun _=>default
def Wc:Nat→Nat:=fun n=>match n with|0=>0|_=>0
theorem aaU:aE Tryz.prog ao aq 195 Tryz.f195 Rh:=aj Tryz.func195 (by kernel_rfl)
def Rg:Nat→ax:=fun n=>match n with|1=>⟨[(0,false),(1,false),(2,false),(3,false),(4,false),(5,false),(6,false),(7,false)],none,[],[8]⟩|_=>default
def Wb:Nat→Nat:=fun n=>match n with|0=>15|1=>262158|2=>6|3=>768|4=>768|_=>0
theorem aaT:aE Tryz.prog ao aq 196 Tryz.f196 Rg:=aj Tryz.func196 (by kernel_rfl)
def Rf:Nat→ax:=fun _=>default
def Wa:Nat→Nat:=fun n=>match n with|0=>1|1=>17|2=>4|3=>4|_=>0
theorem aaS:aE Tryz.prog ao aq 197 Tryz.f197 Rf:=aj Tryz.func197 (by kernel_rfl)
def Re:Nat→ax:=fun _=>default
def V9:Nat→Nat:=fun n=>match n with|0=>1|1=>17|2=>4|3=>4|_=>0
theorem aaR:aE Tryz.prog ao aq 198 Tryz.f198 Re:=aj Tryz.func198 (by kernel_rfl)
def Rc:Nat→ax:=fun _=>default
def V8:Nat→Nat:=fun n=>match n with|0=>3|1=>16|_=>0
theorem aaQ:aE Tryz.prog ao aq 199 Tryz.f199 Rc:=aj Tryz.func199 (by kernel_rfl)
def Ra:Nat→ax:=fun _=>default
def V7:Nat→Nat:=fun n=>match n with|0=>1|1=>4|_=>0
theorem aaP:aE Tryz.prog ao aq 200 Tryz.f200 Ra:=aj Tryz.func200 (by kernel_rfl)
def Q9:Nat→ax:=fun _=>default
def V6:Nat→Nat:=fun n=>match n with|0=>0|_=>0
theorem aaO:aE Tryz.prog ao aq 202 Tryz.f202 Q9:=aj Tryz.func202 (by kernel_rfl)
def Q8:Nat→ax:=fun _=>default
def V5:Nat→Nat:=fun n=>match n with|0=>3|1=>1|2=>0|_=>0
theorem aaN:aE Tryz.prog ao aq 203 Tryz.f203 Q8:=aj Tryz.func203 (by kernel_rfl)
def Q7:Nat→ax:=fun _=>default
def V4:Nat→Nat:=fun n=>match n with|0=>3|1=>1|2=>0|_=>0
theorem aaM:aE Tryz.prog ao aq 204 Tryz.f204 Q7:=aj Tryz.func204 (by kernel_rfl)
def Q6:Nat→ax:=fun n=>match n with|3=>⟨[(0,false),(1,false),(2,false),(3,false),(4,false),(5,false),(6,false),(7,false),(8,false),(9,false),(10,false),(11,false),(12,false),(13,true),(14,false),(15,true)],none,[],[]⟩|_=>default
def V3:Nat→Nat:=fun n=>match n with|0=>13|1=>525|2=>13|3=>13|_=>0
theorem aaL:aE Tryz.prog ao aq 205 Tryz.f205 Q6:=aj Tryz.func205 (by kernel_rfl)
def Q5:Nat→ax:=fun n=>match n with|3=>⟨[(0,false),(1,false),(2,false),(3,false),(4,false),(5,false),(6,false),(7,false),(8,false),(9,false),(10,false),(11,false),(12,false),(13,true),(14,false),(15,true)],none,[],[]⟩|_=>default
def V2:Nat→Nat:=fun n=>match n with|0=>13|1=>525|2=>13|3=>13|_=>0
theorem aaK:aE Tryz.prog ao aq 206 Tryz.f206 Q5:=aj Tryz.func206 (by kernel_rfl)
noncomputable def J0:aO:=(.node (.node (.node (.node (.node (.node (.node (.node .nil 8 Tryz.f8 VL LM .nil) 9 Tryz.f9 aae YU .nil) 10 Tryz.f10 LC Eo (.node (.node .nil 11 Tryz.f11 YR aaw .nil) 13 Tryz.f13 RU SS .nil)) 15 Tryz.f15 RN SR (.node (.node (.node .nil 16 Tryz.f16 LB JD .nil) 17 Tryz.f17 Gu vu .nil) 18 Tryz.f18 LA Ek (.node .nil 19 Tryz.f19 Ly Ej .nil))) 20 Tryz.f20 Rb SQ (.node (.node (.node (.node .nil 21 Tryz.f21 Q4 SP .nil) 23 Tryz.f23 CC pj .nil) 24 Tryz.f24 Q3 SO (.node (.node .nil 25 Tryz.f25 CB ph .nil) 28 Tryz.f28 Lx jk .nil)) 30 Tryz.f30 zS rW (.node (.node (.node .nil 32 Tryz.f32 Lw Ei .nil) 36 Tryz.f36 Lv Eh .nil) 37 Tryz.f37 zR pg (.node .nil 39 Tryz.f39 Lu JC .nil)))) 40 Tryz.f40 Lt Ao (.node (.node (.node (.node (.node .nil 41 Tryz.f41 Ls nA .nil) 43 Tryz.f43 YQ aav .nil) 44 Tryz.f44 YP aau (.node (.node .nil 45 Tryz.f45 YO aat .nil) 46 Tryz.f46 Lr JB .nil)) 47 Tryz.f47 Q2 SN (.node (.node (.node .nil 48 Tryz.f48 fU dV .nil) 49 Tryz.f49 Lq JA .nil) 50 Tryz.f50 Gt An (.node .nil 51 Tryz.f51 Q1 SM .nil))) 52 Tryz.f52 Q0 SL (.node (.node (.node (.node .nil 53 Tryz.f53 Lp Eg .nil) 54 Tryz.f54 Lo Jz .nil) 55 Tryz.f55 QZ SK (.node .nil 56 Tryz.f56 QY SJ .nil)) 57 Tryz.f57 Ln Jy (.node (.node (.node .nil 58 Tryz.f58 QX SI .nil) 59 Tryz.f59 Lm Jx .nil) 60 Tryz.f60 QW SH (.node .nil 61 Tryz.f61 wK ny .nil))))) 64 Tryz.f64 QV SG (.node (.node (.node (.node (.node (.node .nil 65 Tryz.f65 wJ rV .nil) 67 Tryz.f67 Gs rU .nil) 69 Tryz.f69 CA Am (.node (.node .nil 70 Tryz.f70 QU SF .nil) 71 Tryz.f71 Cz pf .nil)) 72 Tryz.f72 YN aas (.node (.node (.node .nil 73 Tryz.f73 QT SE .nil) 74 Tryz.f74 Ll Jw .nil) 75 Tryz.f75 YM aaq (.node .nil 76 Tryz.f76 iT gu .nil))) 77 Tryz.f77 Lk Jv (.node (.node (.node (.node .nil 78 Tryz.f78 YL aap .nil) 82 Tryz.f82 QS SD .nil) 83 Tryz.f83 Gr Al (.node (.node .nil 84 Tryz.f84 QR SC .nil) 85 Tryz.f85 QQ SB .nil)) 86 Tryz.f86 QP SA (.node (.node (.node .nil 87 Tryz.f87 QO Sz .nil) 88 Tryz.f88 QN Sy .nil) 89 Tryz.f89 QM Sx (.node .nil 90 Tryz.f90 QL Sw .nil)))) 91 Tryz.f91 QK Sv (.node (.node (.node (.node (.node .nil 92 Tryz.f92 wI nu .nil) 93 Tryz.f93 Gq pe .nil) 94 Tryz.f94 Gp Ak (.node (.node .nil 95 Tryz.f95 Gn Ee .nil) 96 Tryz.f96 YK aao .nil)) 99 Tryz.f99 wH jj (.node (.node (.node .nil 100 Tryz.f100 D5 En .nil) 101 Tryz.f101 R6 WY .nil) 102 Tryz.f102 R5 WX (.node .nil 103 Tryz.f103 R4 WW .nil))) 104 Tryz.f104 R0 WV (.node (.node (.node (.node .nil 105 Tryz.f105 RZ WU .nil) 106 Tryz.f106 zZ tN .nil) 111 Tryz.f111 RY WT (.node .nil 112 Tryz.f112 D4 ym .nil)) 113 Tryz.f113 RX WS (.node (.node (.node .nil 114 Tryz.f114 RW WR .nil) 115 Tryz.f115 D3 lH .nil) 116 Tryz.f116 Jj L7 (.node .nil 117 Tryz.f117 Ji L5 .nil)))))) 118 Tryz.f118 Jh L4 (.node (.node (.node (.node (.node (.node (.node .nil 119 Tryz.f119 D2 Em .nil) 120 Tryz.f120 Jg L3 .nil) 121 Tryz.f121 D1 nD (.node (.node .nil 122 Tryz.f122 zY tM .nil) 123 Tryz.f123 Jf L2 .nil)) 124 Tryz.f124 DZ El (.node (.node (.node .nil 125 Tryz.f125 DY yl .nil) 126 Tryz.f126 Je L1 .nil) 127 Tryz.f127 Jd L0 (.node .nil 128 Tryz.f128 zX tL .nil))) 129 Tryz.f129 RV WQ (.node (.node (.node (.node .nil 130 Tryz.f130 RT WO .nil) 131 Tryz.f131 RS WN .nil) 133 Tryz.f133 RR WM (.node (.node .nil 135 Tryz.f135 RQ WL .nil) 136 Tryz.f136 DX yk .nil)) 137 Tryz.f137 DW yj (.node (.node (.node .nil 138 Tryz.f138 Jc LZ .nil) 139 Tryz.f139 zW qm .nil) 140 Tryz.f140 Jb LY (.node .nil 141 Tryz.f141 DV tK .nil)))) 142 Tryz.f142 vm ql (.node (.node (.node (.node (.node .nil 143 Tryz.f143 DU nC .nil) 144 Tryz.f144 Ja LX .nil) 145 Tryz.f145 I9 LW (.node (.node .nil 146 Tryz.f146 RP WK .nil) 147 Tryz.f147 RO WJ .nil)) 148 Tryz.f148 I8 LV (.node (.node (.node .nil 149 Tryz.f149 I7 LU .nil) 150 Tryz.f150 DT tJ .nil) 151 Tryz.f151 zV yi (.node .nil 152 Tryz.f152 RM WI .nil))) 153 Tryz.f153 RL WH (.node (.node (.node (.node .nil 154 Tryz.f154 RK WG .nil) 155 Tryz.f155 RJ WE .nil) 156 Tryz.f156 RI WD (.node .nil 157 Tryz.f157 RH WC .nil)) 158 Tryz.f158 RG WA (.node (.node (.node .nil 159 Tryz.f159 RE Wz .nil) 160 Tryz.f160 RD Wy .nil) 161 Tryz.f161 RC Wx (.node .nil 162 Tryz.f162 RB Ww .nil))))) 163 Tryz.f163 RA Wv (.node (.node (.node (.node (.node (.node .nil 164 Tryz.f164 Rz Wu .nil) 165 Tryz.f165 Ry Wt .nil) 166 Tryz.f166 Rx Ws (.node (.node .nil 167 Tryz.f167 I6 LS .nil) 168 Tryz.f168 I5 LR .nil)) 169 Tryz.f169 I4 LQ (.node (.node (.node .nil 170 Tryz.f170 zU yh .nil) 171 Tryz.f171 I3 LP .nil) 172 Tryz.f172 I2 LO (.node .nil 173 Tryz.f173 Rw Wr .nil))) 174 Tryz.f174 vl nB (.node (.node (.node (.node .nil 175 Tryz.f175 DS tI .nil) 176 Tryz.f176 DR tH .nil) 177 Tryz.f177 fB dj (.node .nil 178 Tryz.f178 I1 LN .nil)) 179 Tryz.f179 Rv Wq (.node (.node (.node .nil 180 Tryz.f180 Ru Wp .nil) 181 Tryz.f181 Rt Wo .nil) 182 Tryz.f182 Rs Wn (.node .nil 183 Tryz.f183 Rr Wm .nil)))) 184 Tryz.f184 Rq Wl (.node (.node (.node (.node (.node .nil 185 Tryz.f185 Rp Wk .nil) 186 Tryz.f186 Ro Wj .nil) 187 Tryz.f187 Rn Wi (.node (.node .nil 188 Tryz.f188 Rm Wh .nil) 189 Tryz.f189 Rl Wg .nil)) 190 Tryz.f190 Rk Wf (.node (.node (.node .nil 191 Tryz.f191 Rj We .nil) 192 Tryz.f192 zT tG .nil) 193 Tryz.f193 Ri Wd (.node .nil 195 Tryz.f195 Rh Wc .nil))) 196 Tryz.f196 Rg Wb (.node (.node (.node (.node .nil 197 Tryz.f197 Rf Wa .nil) 198 Tryz.f198 Re V9 .nil) 199 Tryz.f199 Rc V8 (.node .nil 200 Tryz.f200 Ra V7 .nil)) 202 Tryz.f202 Q9 V6 (.node (.node (.node .nil 203 Tryz.f203 Q8 V5 .nil) 204 Tryz.f204 Q7 V4 .nil) 205 Tryz.f205 Q6 V3 (.node .nil 206 Tryz.f206 Q5 V2 .nil)))))))
theorem tT:FOk Tryz.prog ao aq J0.find:=aO.ok (aO.ae (aO.ae (aO.ae (aO.ae (aO.ae (aO.ae (aO.ae (aO.ae aO.all_nil agm aO.all_nil) agl aO.all_nil) afw (aO.ae (aO.ae aO.all_nil afv aO.all_nil) afu aO.all_nil)) aft (aO.ae (aO.ae (aO.ae aO.all_nil afs aO.all_nil) afr aO.all_nil) afq (aO.ae aO.all_nil afp aO.all_nil))) afo (aO.ae (aO.ae (aO.ae (aO.ae aO.all_nil afn aO.all_nil) afm aO.all_nil) afk (aO.ae (aO.ae aO.all_nil afj aO.all_nil) afi aO.all_nil)) afh (aO.ae (aO.ae (aO.ae aO.all_nil afg aO.all_nil) aff aO.all_nil) afe (aO.ae aO.all_nil afd aO.all_nil)))) afc (aO.ae (aO.ae (aO.ae (aO.ae (aO.ae aO.all_nil afb aO.all_nil) afa aO.all_nil) ae9 (aO.ae (aO.ae aO.all_nil ae8 aO.all_nil) ae7 aO.all_nil)) ae6 (aO.ae (aO.ae (aO.ae aO.all_nil ae5 aO.all_nil) ae4 aO.all_nil) ae3 (aO.ae aO.all_nil ae2 aO.all_nil))) ae1 (aO.ae (aO.ae (aO.ae (aO.ae aO.all_nil ae0 aO.all_nil) aeZ aO.all_nil) aeY (aO.ae aO.all_nil aeX aO.all_nil)) aeW (aO.ae (aO.ae (aO.ae aO.all_nil aeV aO.all_nil) aeU aO.all_nil) aeT (aO.ae aO.all_nil aeS aO.all_nil))))) aeR (aO.ae (aO.ae (aO.ae (aO.ae (aO.ae (aO.ae aO.all_nil aeQ aO.all_nil) aeP aO.all_nil) aeO (aO.ae (aO.ae aO.all_nil aeN aO.all_nil) aeM aO.all_nil)) aeL (aO.ae (aO.ae (aO.ae aO.all_nil aeK aO.all_nil) aeJ aO.all_nil) aeI (aO.ae aO.all_nil aeH aO.all_nil))) aeG (aO.ae (aO.ae (aO.ae (aO.ae aO.all_nil aeF aO.all_nil) aeE aO.all_nil) aeD (aO.ae (aO.ae aO.all_nil aeC aO.all_nil) aeB aO.all_nil)) aeA (aO.ae (aO.ae (aO.ae aO.all_nil aez aO.all_nil) aey aO.all_nil) aex (aO.ae aO.all_nil aew aO.all_nil)))) aev (aO.ae (aO.ae (aO.ae (aO.ae (aO.ae aO.all_nil aeu aO.all_nil) aet aO.all_nil) aes (aO.ae (aO.ae aO.all_nil aer aO.all_nil) aeq aO.all_nil)) aep (aO.ae (aO.ae (aO.ae aO.all_nil acn aO.all_nil) acm aO.all_nil) ack (aO.ae aO.all_nil acj aO.all_nil))) aci (aO.ae (aO.ae (aO.ae (aO.ae aO.all_nil ach aO.all_nil) acg aO.all_nil) acf (aO.ae aO.all_nil ace aO.all_nil)) acd (aO.ae (aO.ae (aO.ae aO.all_nil acb aO.all_nil) aca aO.all_nil) ab9 (aO.ae aO.all_nil ab8 aO.all_nil)))))) ab7 (aO.ae (aO.ae (aO.ae (aO.ae (aO.ae (aO.ae (aO.ae aO.all_nil ab6 aO.all_nil) ab5 aO.all_nil) ab4 (aO.ae (aO.ae aO.all_nil ab3 aO.all_nil) ab2 aO.all_nil)) ab1 (aO.ae (aO.ae (aO.ae aO.all_nil ab0 aO.all_nil) abZ aO.all_nil) abY (aO.ae aO.all_nil abX aO.all_nil))) abW (aO.ae (aO.ae (aO.ae (aO.ae aO.all_nil abV aO.all_nil) abU aO.all_nil) abT (aO.ae (aO.ae aO.all_nil abS aO.all_nil) abR aO.all_nil)) abQ (aO.ae (aO.ae (aO.ae aO.all_nil abP aO.all_nil) abO aO.all_nil) abN (aO.ae aO.all_nil abM aO.all_nil)))) abL (aO.ae (aO.ae (aO.ae (aO.ae (aO.ae aO.all_nil abK aO.all_nil) abJ aO.all_nil) abI (aO.ae (aO.ae aO.all_nil abH aO.all_nil) abG aO.all_nil)) abF (aO.ae (aO.ae (aO.ae aO.all_nil abE aO.all_nil) abD aO.all_nil) abC (aO.ae aO.all_nil abB aO.all_nil))) abA (aO.ae (aO.ae (aO.ae (aO.ae aO.all_nil abz aO.all_nil) aby aO.all_nil) abx (aO.ae aO.all_nil abw aO.all_nil)) abv (aO.ae (aO.ae (aO.ae aO.all_nil abu aO.all_nil) abt aO.all_nil) abr (aO.ae aO.all_nil abq aO.all_nil))))) abp (aO.ae (aO.ae (aO.ae (aO.ae (aO.ae (aO.ae aO.all_nil abo aO.all_nil) abn aO.all_nil) abm (aO.ae (aO.ae aO.all_nil abl aO.all_nil) abk aO.all_nil)) abj (aO.ae (aO.ae (aO.ae aO.all_nil abi aO.all_nil) abh aO.all_nil) abg (aO.ae aO.all_nil abf aO.all_nil))) abe (aO.ae (aO.ae (aO.ae (aO.ae aO.all_nil abd aO.all_nil) abc aO.all_nil) abb (aO.ae aO.all_nil aba aO.all_nil)) aa9 (aO.ae (aO.ae (aO.ae aO.all_nil aa8 aO.all_nil) aa7 aO.all_nil) aa6 (aO.ae aO.all_nil aa5 aO.all_nil)))) aa4 (aO.ae (aO.ae (aO.ae (aO.ae (aO.ae aO.all_nil aa3 aO.all_nil) aa2 aO.all_nil) aa1 (aO.ae (aO.ae aO.all_nil aa0 aO.all_nil) aaZ aO.all_nil)) aaY (aO.ae (aO.ae (aO.ae aO.all_nil aaX aO.all_nil) aaW aO.all_nil) aaV (aO.ae aO.all_nil aaU aO.all_nil))) aaT (aO.ae (aO.ae (aO.ae (aO.ae aO.all_nil aaS aO.all_nil) aaR aO.all_nil) aaQ (aO.ae aO.all_nil aaP aO.all_nil)) aaO (aO.ae (aO.ae (aO.ae aO.all_nil aaN aO.all_nil) aaM aO.all_nil) aaL (aO.ae aO.all_nil aaK aO.all_nil)))))))
end Go.Proofs.YtiihadmgkoamoaaGreatDoor
namespace Go.Tp
open Go.Proofs Go.Shelf Go.RowKit Go.Maps
section
variable {P:Program} {ρ:Ren} {G:bL}
theorem sU {N:Name->Option Nat} {next b:Nat} (hnx:∀o b,N (.out o)=some b->o < next):∀m c,N m=some c->bN N (.out next) b m=some c:=fun m c hm=>by
 have hne:m≠.out next:=by
  rintro rfl
  have:=hnx next c hm
  omega
 simp[bN,hne,hm]
theorem tv {N N':Name->Option Nat} (h:∀m c,N m=some c->N' m=some c):∀m c,outs N m=some c->outs N' m=some c:=fun m c hm=>by
 cases m with
 | loc i=>simp[outs] at hm
 | out o=>exact h _ _ hm
end
end Go.Tp
namespace Go.Proofs.YtiihadmgkoamoaaGreatDoor
open Go.Tp Go.Shelf
def encS (l:List (List UInt8)):List ap:=l.map fun b=>.flat (.string ⟨⟨b⟩⟩)
def oE:List (List UInt8):=[[65,110,121],[78,101,118,101,114],[116,117,112,108,101],[117,110,105,111,110],[101,120,105,115,116,115]]
def iK:List (List UInt8):=[[88,97],[88,98],[88,99],[88,100]]
def fL:List (List UInt8):=[[73,110,116],[66,111,111,108],[83,116,114,105,110,103],[78,105,108]]
def cN:bL:=fun g=>match g with|0=>some [.slice (encS iK)]|1=>some [.slice (encS fL)]|2=>some [.slice (encS oE)]|4=>some [.slice (encS oE)]|_=>none
theorem Kf:(env ay.aN).Ok Tryz.prog:=by rw[Tv];exact acD
def W0:jx:=fun _ _ _ _=>none
theorem WZ:Ig Tryz.prog cN W0:=by intro f args heap next r h;simp[W0] at h
noncomputable def X:jx:=AV (env ay.aN) cN ao aq J0.find W0 3000 60
theorem br:Ig Tryz.prog cN X:=fun f args heap next r h=>pz 3000 Kf tT (M:=W0) WZ 60 f args heap next r h
theorem XX (ls bs:List Nat) {g:FuncId} {x:gU} (hx:J0.find g=some x) {args:List ac} {heap:Heap} {next:Nat} {r:ey} (h:(Qu (UP ls) (UP bs) (env ay.aN) cN ao aq x g args heap next).Ok Tryz.prog cN (fun y=>y=r)) :
  aB Tryz.prog cN g args heap next (XQ r):=Dn (Lf Kf tT hx (fun _ _=>h))
abbrev KD:=du Tryz.prog cN
abbrev KC:=aB Tryz.prog cN
theorem co (ls bs:List Nat) {g:FuncId} {x:gU} {args:List ac} {heap:Heap} {next:Nat} {r:ey} (h:(Qu (UP ls) (UP bs) (env ay.aN) cN ao aq x g args heap next).Ok Tryz.prog cN (fun y=>y=r)) (hx:J0.find g=some x:=by kernel_rfl):aB Tryz.prog cN g args heap next (XQ r):=XX ls bs hx h
theorem aC (ls bs:List Nat) {H:Hints} {n:Nat} {live:Nat->Nat} {c:Code} (hc:cQ H c=true) {f:ab} {T:Exit->aa->Prop}
  (h:(tq (UP ls) (UP bs) (env ay.aN) cN H n live c f (fun r=>.fin r)).Ok Tryz.prog cN (fun r=>T r.1 (r.2.aw n))):du Tryz.prog cN c T (f.aw n):=Nn Kf live hc h
theorem ad7 {α:Type} {T:α->Prop} {q:Qy α} {c b:Bool} (hc:c=b) (e:q.Bl=some (!c)) (h:(q.ofB (!b)).Ok Tryz.prog cN T):q.Ok Tryz.prog cN T:=bp (by rw[hc]) e h
abbrev ag (g:FuncId) (args:List ac) (v:ac):Prop:=aB Tryz.prog cN g args [] 0 (XQ ⟨v,[],0⟩)
def i64 (n:Int):ap:=.flat (.int .i64 n)
def sb (b:List UInt8):ap:=.flat (.string ⟨⟨b⟩⟩)
def nl:ap:=.flat (.slice none 0 0)
def sl:List ap->ap
 | []=>nl
 | d::r=>.slice (d::r)
inductive Ty where
 |mk (k:Int) (nm:List UInt8) (ix:Int) (args:List Ty)
mutual
def Ty.cells:Ty->List ap
 | .mk k nm ix args=>[i64 k,sb nm,i64 ix,sl (au args)]
def au:List Ty->List ap
 | []=>[]
 | t::r=>.agg t.cells::au r
end
def Ty.enc (t:Ty):ap:=.agg t.cells
def Ty.args:Ty->List Ty
 | .mk _ _ _ a=>a
theorem pF:∀l:List Ty,au l=l.map Ty.enc
 | []=>by simp[au]
 | t::r=>by simp[au,pF r,Ty.enc]
theorem aF (l:List Ty):(au l).length=l.length:=by simp[pF]
theorem TF {l:List Ty} {i:Nat} {t:Ty} (h:l[i]?=some t):(au l)[i]?=some t.enc:=by simp[pF,h]
mutual
def Ty.size:Ty->Nat
 | .mk _ _ _ args=>aU args+1
def aU:List Ty->Nat
 | []=>0
 | t::r=>t.size+aU r
end
theorem jb {l:List Ty} {i:Nat} {t:Ty} (h:l[i]?=some t):aU (l.take (i+1))=aU (l.take i)+t.size:=by
 induction l generalizing i with
 | nil=>simp at h
 | cons x r ih=>
  cases i with
  | zero=>simp at h;subst h;simp[aU]
  | succ i=>
   simp at h;simp only[List.take_succ_cons,aU];rw[ih h];omega
theorem oQ {l:List Ty} (i:Nat):aU (l.take i)<=aU l:=by
 induction l generalizing i with
 | nil=>simp[aU]
 | cons x r ih=>
  cases i with
  | zero=>simp[aU]
  | succ i=>simp only[List.take_succ_cons,aU];have:=ih i;omega
theorem wrap_add {n m:Nat} (h:n+m < 9223372036854775808):aH .i64 (Int.ofNat n+Int.ofNat m)=Int.ofNat (n+m):=by
 rw[dP];exact wrap_i64 (by simp;omega) (by simp;omega)
noncomputable def tiT:TI:=match Go.Tp.elemOf (env ay.aN) 30 with|some t=>t|none=>default
theorem O4:Go.Tp.elemOf (env ay.aN) 30=some tiT:=by kernel_rfl
theorem yK:tiT.size=4:=by kernel_rfl
theorem jZ {l:List Ty} {i:Nat} {t:Ty} (h:l[i]?=some t):aK (env ay.aN) 30 [.dat (.slice (au l)),.dat (.flat (.int .i64 (Int.ofNat i)))]=some ⟨.ref t.cells,.keep⟩:=
 uB O4 rfl (TF h) (by rw[yK];cases t;rfl) (by rw[yK];decide)
theorem get_mem {l:List Ty} {i:Nat} (h:i < (au l).length):∃t,l[i]?=some t/\t∈l:=by
 rw[aF] at h;exact⟨l[i],List.getElem?_eq_getElem h,List.getElem_mem h⟩
noncomputable def Y3:Hints:=⟨ao,DX,aq,rowsOf aq 136⟩
def lU (l:List Ty) (i n:Int):ab:=⟨[(9,iv i),(8,iv (Int.ofNat (au l).length)),(7,.dat (.slice (au l))),(3,iv n)],[],[],0⟩
def qa (l:List Ty) (n:Int):ab:=⟨[(10,bv false),(9,iv (Int.ofNat (au l).length)),(8,iv (Int.ofNat (au l).length)),(7,.dat (.slice (au l))),(3,iv n)],[],[],0⟩
theorem Vl {k:Int} {nm:List UInt8} {ix:Int} {l:List Ty} (ih:∀t∈l,ag 136 [.dat t.enc] (iv (Int.ofNat t.size))) (hb:aU l < 1000000000) :
  ag 136 [.dat (.agg [i64 k,sb nm,i64 ix,.slice (au l)])] (iv (Int.ofNat (aU l+1))):=by
 have hlen:l.length<=aU l:=by
  clear ih hb
  induction l with
  | nil=>simp[aU]
  | cons t r ih=>cases t;simp only[List.length_cons,aU,Ty.size];omega
 refine co [] [] (x:=.of Tryz.f136 DX yk) ?_;refine iD (n:=Tryz.f136.ntmps) (c:=roundOf Tryz.f136 0) (f:=lU l (Int.ofNat 0) (Int.ofNat (1+aU (l.take 0)))) (L:=fun e s=>e=.exit 0/\s=(qa l (Int.ofNat (1+aU l))).aw Tryz.f136.ntmps) (by kernel_rfl) (by kernel_rfl) ?_ ?_
 ·refine bb (St:=fun i=>(lU l (Int.ofNat i) (Int.ofNat (1+aU (l.take i)))).aw Tryz.f136.ntmps) (au l).length ?_ ?_ (i:=0) (Nat.zero_le _)
  ·intro i hi;obtain⟨t,ht,hm⟩:=get_mem hi;have hs:=jb ht;have hle:=oQ (l:=l) (i+1);rw[aF] at hi;have hi':i < (au l).length:=by rw[aF];exact hi
   have e:lm (fun s=>s=(lU l (Int.ofNat (i+1)) (Int.ofNat (1+aU (l.take (i+1))))).aw Tryz.f136.ntmps) (fun e s=>e=.exit 0/\s=(qa l (Int.ofNat (1+aU l))).aw Tryz.f136.ntmps) .normal
     ((lU l (aH .i64 (Int.ofNat i+1)) (aH .i64 (Int.ofNat (1+aU (l.take i))+Int.ofNat t.size))).aw Tryz.f136.ntmps):=by
    rw[bg (by omega),wrap_add (by omega),hs];show _=_;rw[Nat.add_assoc]
   have hc:=ih t hm;clear hs hle ih hb hlen;obtain⟨k2,nm2,ix2,a2⟩:=t
   rcases a2 with _|⟨b,c⟩ <;>
   ·refine aC [10] [11] (H:=Y3) (live:=yk) (by kernel_rfl) ?_;refine bp (b:=true) (bA hi') (by kernel_rfl) ?_;refine oo (jZ ht) ?_;refine on hc ?_;exact cj (ex:=.normal) (lU l (aH .i64 (Int.ofNat i+1)) (aH .i64 (Int.ofNat (1+aU (l.take i))+Int.ofNat (Ty.size _)))) (by kernel_rfl) (by kernel_rfl) e
  refine aC [10] [11] (H:=Y3) (live:=yk) (by kernel_rfl) ?_;refine bp (b:=false) (bC (i:=(au l).length) (L:=(au l).length) (by omega)) (by kernel_rfl) ?_;refine cj (ex:=.exit 0) (qa l (Int.ofNat (1+aU (l.take (au l).length)))) (by kernel_rfl) (by kernel_rfl) ⟨rfl,?_⟩;rw[aF,List.take_length]
 rintro e s ⟨rfl,rfl⟩;refine⟨_,rfl,bh (a:=⟨iv (Int.ofNat (1+aU l)),[],0⟩) (by kernel_rfl) ?_⟩;rw[Nat.add_comm]
theorem PR {k:Int} {nm:List UInt8} {ix:Int}:ag 136 [.dat (.agg [i64 k,sb nm,i64 ix,nl])] (iv (Int.ofNat 1)):=br _ _ _ _ _ (by kernel_rfl)
mutual
theorem Uc:∀t:Ty,t.size < 1000000000->ag 136 [.dat t.enc] (iv (Int.ofNat t.size))
 | .mk k nm ix [],_=>PR
 | .mk k nm ix (t::r),h=>by
  have h2:aU (t::r) < 1000000000:=by simp only[Ty.size] at h;omega
  have:=Vl (k:=k) (nm:=nm) (ix:=ix) (l:=t::r) (Mu (t::r) h2) h2
  exact this
theorem Mu:∀l:List Ty,aU l < 1000000000->∀t∈l,ag 136 [.dat t.enc] (iv (Int.ofNat t.size))
 | [],_,t,ht=>by simp at ht
 | u::r,h,t,ht=>by
  simp only[aU] at h
  rcases List.mem_cons.1 ht with h1|ht
  ·rw[h1];exact Uc u (by omega)
  exact Mu r (by omega) t ht
end
mutual
def Ty.depth:Ty->Nat
 | .mk _ _ _ args=>bV args+1
def bV:List Ty->Nat
 | []=>0
 | t::r=>max t.depth (bV r)
end
theorem xf {l:List Ty} {i:Nat} {t:Ty} (h:l[i]?=some t):bV (l.take (i+1))=max (bV (l.take i)) t.depth:=by
 induction l generalizing i with
 | nil=>simp at h
 | cons x r ih=>
  cases i with
  | zero=>simp at h;subst h;simp[bV]
  | succ i=>
   simp at h;simp only[List.take_succ_cons,bV];rw[ih h,Nat.max_assoc]
mutual
theorem jr:∀t:Ty,t.depth<=t.size
 | .mk _ _ _ args=>by simp only[Ty.depth,Ty.size];have:=jU args;omega
theorem jU:∀l:List Ty,bV l<=aU l
 | []=>by simp[bV,aU]
 | t::r=>by simp only[bV,aU];have:=jr t;have:=jU r;omega
end
theorem aeb {n m:Nat}:ay.aN.mx (Int.ofNat n) (Int.ofNat m)=Int.ofNat (max n m):=by
 show (match bq (Int.ofNat n) (Int.ofNat m) with|true=>Int.ofNat m|false=>Int.ofNat n)=_;rw[iE]
 by_cases h:n < m
 ·rw[decide_eq_true h];simp;omega
 rw[decide_eq_false h];simp;omega
theorem eG (l:List Ty):l.length<=aU l:=by
 induction l with
 | nil=>simp[aU]
 | cons t r ih=>cases t;simp only[List.length_cons,aU,Ty.size];omega
noncomputable def Ta:Hints:=⟨ao,DW,aq,rowsOf aq 137⟩
theorem TP {k:Int} {nm:List UInt8} {ix:Int} {l:List Ty} (ih:∀t∈l,ag 137 [.dat t.enc] (iv (Int.ofNat t.depth))) (hb:aU l < 1000000000) :
  ag 137 [.dat (.agg [i64 k,sb nm,i64 ix,.slice (au l)])] (iv (Int.ofNat (bV l+1))):=by
 have hlen:=eG l;have hdl:=jU l;rw[←bg (by omega)];refine co [] [] (x:=.of Tryz.f137 DW yj) ?_;refine iD (n:=Tryz.f137.ntmps) (c:=roundOf Tryz.f137 0) (f:=lU l (Int.ofNat 0) (Int.ofNat (bV (l.take 0)))) (L:=fun e s=>e=.exit 0/\s=(qa l (Int.ofNat (bV l))).aw Tryz.f137.ntmps) (by kernel_rfl) (by kernel_rfl) ?_ ?_
 ·refine bb (St:=fun i=>(lU l (Int.ofNat i) (Int.ofNat (bV (l.take i)))).aw Tryz.f137.ntmps) (au l).length ?_ ?_ (i:=0) (Nat.zero_le _)
  ·intro i hi;obtain⟨t,ht,hm⟩:=get_mem hi;have e:lm (fun s=>s=(lU l (Int.ofNat (i+1)) (Int.ofNat (bV (l.take (i+1))))).aw Tryz.f137.ntmps) (fun e s=>e=.exit 0/\s=(qa l (Int.ofNat (bV l))).aw Tryz.f137.ntmps) .normal
     ((lU l (aH .i64 (Int.ofNat i+1)) (ay.aN.mx (Int.ofNat (bV (l.take i))) (Int.ofNat t.depth))).aw Tryz.f137.ntmps):=by
    rw[aF] at hi;rw[bg (by omega),aeb,xf ht];rfl
   have hc:=ih t hm;clear ih hb hlen hdl;obtain⟨k2,nm2,ix2,a2⟩:=t
   rcases a2 with _|⟨b,c⟩ <;>
   ·refine aC [10] [11] (H:=Ta) (live:=yj) (by kernel_rfl) ?_;refine bp (b:=true) (bA hi) (by kernel_rfl) ?_;refine oo (jZ ht) ?_;refine on hc ?_;exact cj (ex:=.normal) (lU l (aH .i64 (Int.ofNat i+1)) (ay.aN.mx (Int.ofNat (bV (l.take i))) (Int.ofNat (Ty.depth _)))) (by kernel_rfl) (by kernel_rfl) e
  refine aC [10] [11] (H:=Ta) (live:=yj) (by kernel_rfl) ?_;refine bp (b:=false) (bC (i:=(au l).length) (L:=(au l).length) (by omega)) (by kernel_rfl) ?_;refine cj (ex:=.exit 0) (qa l (Int.ofNat (bV (l.take (au l).length)))) (by kernel_rfl) (by kernel_rfl) ⟨rfl,?_⟩;rw[aF,List.take_length]
 rintro e s ⟨rfl,rfl⟩;exact⟨_,rfl,bh (by kernel_rfl) rfl⟩
theorem Og {k:Int} {nm:List UInt8} {ix:Int}:ag 137 [.dat (.agg [i64 k,sb nm,i64 ix,nl])] (iv (Int.ofNat 1)):=br _ _ _ _ _ (by kernel_rfl)
mutual
theorem My:∀t:Ty,t.size < 1000000000->ag 137 [.dat t.enc] (iv (Int.ofNat t.depth))
 | .mk k nm ix [],_=>Og
 | .mk k nm ix (t::r),h=>by
  have h2:aU (t::r) < 1000000000:=by simp only[Ty.size] at h;omega
  have:=TP (k:=k) (nm:=nm) (ix:=ix) (l:=t::r) (HS (t::r) h2) h2
  exact this
theorem HS:∀l:List Ty,aU l < 1000000000->∀t∈l,ag 137 [.dat t.enc] (iv (Int.ofNat t.depth))
 | [],_,t,ht=>by simp at ht
 | u::r,h,t,ht=>by
  simp only[aU] at h
  rcases List.mem_cons.1 ht with h1|ht
  ·rw[h1];exact My u (by omega)
  exact HS r (by omega) t ht
end
def db (k:Int) (i:Nat):Nat:=if aP k 6=true/\i=1 then 1 else 0
mutual
def Ty.closed:Ty->Nat->Bool
 | .mk k _ ix args,u=>!(aP k 5&&!bq ix (Int.ofNat u))&&eV k 0 args u
def eV (k:Int):Nat->List Ty->Nat->Bool
 | _,[],_=>true
 | i,t::r,u=>t.closed (u+db k i)&&eV k (i+1) r u
end
theorem vT (k:Int) (nm:List UInt8) (ix:Int) (a:ap) (ha:a=nl∨∃es,a=.slice es) (i:Nat):ag 126 [.dat (.agg [i64 k,sb nm,i64 ix,a]),iv (Int.ofNat i)] (iv (Int.ofNat (db k i))):=by
 rcases ha with rfl|⟨es,rfl⟩ <;>
 ·refine co [7,10] [] (x:=.of Tryz.f126 Je L1) ?_;refine Gy (c:=aP k 6) (by kernel_rfl) (fun h6=>?_) (fun h6=>?_)
  ·refine Gy (c:=aP (Int.ofNat i) (Int.ofNat 1)) (by kernel_rfl) (fun h1=>?_) (fun h1=>?_)
   ·rw[sf,decide_eq_true_eq] at h1
    have:db k i=1:=by unfold db;rw[if_pos ⟨h6,h1⟩]
    rw[this];exact fi
   rw[sf,decide_eq_false_iff_not] at h1
   have:db k i=0:=by unfold db;rw[if_neg (fun h=>h1 h.2)]
   rw[this];exact fi
  have:db k i=0:=by unfold db;rw[if_neg (fun h=>by rw[h6] at h;simp at h)]
  rw[this];exact fi
noncomputable def Ex:Hints:=⟨ao,zW,aq,rowsOf aq 139⟩
def aef (k:Int) (nm:List UInt8) (ix:Int) (l:List Ty):Heap:=[(.loc 2,.cells [iv k,.dat (sb nm),iv ix,.dat (.slice (au l))])]
def Vi (k:Int) (nm:List UInt8) (ix:Int) (l:List Ty) (u:Nat) (i:Int):ab:=⟨[(19,iv i),(18,iv (Int.ofNat (au l).length)),(17,.dat (.slice (au l))),(2,.ptr (.loc 2) 0),(1,iv (Int.ofNat u))],aef k nm ix l,[],0⟩
def PH (k:Int) (nm:List UInt8) (ix:Int) (l:List Ty) (u:Nat):ab:=⟨[(20,bv false),(19,iv (Int.ofNat (au l).length)),(18,iv (Int.ofNat (au l).length)),(17,.dat (.slice (au l))),(2,.ptr (.loc 2) 0),(1,iv (Int.ofNat u))],aef k nm ix l,[],0⟩
def PI:ab:=⟨[(4,bv false)],[],[],0⟩
theorem iL {l:List Ty} {i:Nat} {t:Ty} (h:l[i]?=some t):l.drop i=t::l.drop (i+1):=by
 obtain⟨hi,rfl⟩:=List.getElem?_eq_some_iff.1 h;exact List.drop_eq_getElem_cons hi
theorem HJ {k:Int} {nm:List UInt8} {ix:Int} {l:List Ty} {u:Nat} (ih:∀t∈l,∀v,v<=u+1->ag 139 [.dat t.enc,iv (Int.ofNat v)] (bv (t.closed v))) (hb:aU l < 1000000000) (hu:u < 2000000000) :
  KD (.loop (roundOf Tryz.f139 0)) (fun e s=>(e=.exit 0/\eV k 0 l u=true/\s=(PH k nm ix l u).aw Tryz.f139.ntmps)∨(e=.ret/\eV k 0 l u=false/\s=PI.aw Tryz.f139.ntmps)) ((Vi k nm ix l u (Int.ofNat 0)).aw Tryz.f139.ntmps):=by
 have hlen:=eG l;refine cI (St:=fun i=>(Vi k nm ix l u (Int.ofNat i)).aw Tryz.f139.ntmps) (fun i=>eV k 0 l u=eV k i (l.drop i) u) (au l).length ?_ ?_ (i:=0) (Nat.zero_le _) rfl
 ·intro i hi hI;obtain⟨t,ht,hm⟩:=get_mem hi;have hcl:eV k i (l.drop i) u=(t.closed (u+db k i)&&eV k (i+1) (l.drop (i+1)) u):=by rw[iL ht];rfl
  have hbn:db k i<=1:=by unfold db;split <;> omega
  have hc:ag 139 [.dat t.enc,iv (aH .i64 (Int.ofNat u+Int.ofNat (db k i)))] (bv (t.closed (u+db k i))):=by
   rw[wrap_add (by omega)];exact ih t hm _ (by omega)
  have hw:aH .i64 (Int.ofNat i+1)=Int.ofNat (i+1):=bg (by rw[aF] at hi;omega);have hbi:=vT k nm ix (.slice (au l)) (.inr ⟨_,rfl⟩) i;generalize ht2:t.closed (u+db k i)=tc at hc hcl;clear ih hb hlen hu hbn ht2;obtain⟨k2,nm2,ix2,a2⟩:=t
  rcases a2 with _|⟨b,c⟩ <;> cases tc <;>
  ·refine aC [20] [22] (H:=Ex) (live:=qm) (by kernel_rfl) ?_;refine bp (b:=true) (bA hi) (by kernel_rfl) ?_;refine oo (jZ ht) ?_;refine on hbi ?_;refine on hc ?_
   first
    |exact cj (ex:=.normal) (Vi k nm ix l u (aH .i64 (Int.ofNat i+1))) (by kernel_rfl) (by kernel_rfl) ⟨by rw[hw],by rw[hI,hcl];rfl⟩
    |exact cj (ex:=.ret) PI (by kernel_rfl) (by kernel_rfl) (.inr ⟨rfl,by rw[hI,hcl];rfl,rfl⟩)
 intro hI;have h1:eV k 0 l u=true:=by
  rw[hI,aF,List.drop_length];rfl
 refine aC [20] [22] (H:=Ex) (live:=qm) (by kernel_rfl) ?_;refine bp (b:=false) (bC (i:=(au l).length) (L:=(au l).length) (by omega)) (by kernel_rfl) ?_;exact cj (ex:=.exit 0) (PH k nm ix l u) (by kernel_rfl) (by kernel_rfl) (.inl ⟨rfl,h1,rfl⟩)
theorem B1 (k:Int) (nm:List UInt8) (ix:Int) (l:List Ty) (u:Nat):(Ty.mk k nm ix l).closed u=(!(aP k 5&&!bq ix (Int.ofNat u))&&eV k 0 l u):=by rw[Ty.closed]
theorem Oq {k:Int} {nm:List UInt8} {ix:Int} {l:List Ty} {u:Nat} (ih:∀t∈l,∀v,v<=u+1->ag 139 [.dat t.enc,iv (Int.ofNat v)] (bv (t.closed v))) (hb:aU l < 1000000000) (hu:u < 2000000000) :
  ag 139 [.dat (.agg [i64 k,sb nm,i64 ix,.slice (au l)]),iv (Int.ofNat u)] (bv ((Ty.mk k nm ix l).closed u)):=by
 have hl:=HJ (k:=k) (nm:=nm) (ix:=ix) ih hb hu;rw[B1];clear ih hb hu;have key:∀c5:Bool,c5=aP k 5->∀cu:Bool,cu=!bq ix (Int.ofNat u)->ag 139 [.dat (.agg [i64 k,sb nm,i64 ix,.slice (au l)]),iv (Int.ofNat u)] (bv (!(c5&&cu)&&eV k 0 l u)):=by
  intro c5 h5 cu hcu;refine co [9,14] [] (x:=.of Tryz.f139 zW qm) ?_;refine bp (b:=c5) h5.symm (by kernel_rfl) ?_;have go:∀{q:Qy ey} (hs:q.GP.aw Tryz.f139.ntmps=(Vi k nm ix l u (Int.ofNat 0)).aw Tryz.f139.ntmps) (e:q.CH=some (Tryz.f139.ntmps,roundOf Tryz.f139 0))
    (e1:(q.ofL (.exit 0,PH k nm ix l u)).J7=some ⟨bv true,[],0⟩) (e2:(q.ofL (.ret,PI)).J7=some ⟨bv false,[],0⟩),q.Ok Tryz.prog cN (fun y=>y=⟨bv (eV k 0 l u),[],0⟩):=by
   intro q hs e e1 e2;refine iD (n:=Tryz.f139.ntmps) e hs hl ?_;rintro ex s (⟨rfl,hc,rfl⟩|⟨rfl,hc,rfl⟩)
   ·rw[hc];exact⟨_,rfl,bh e1 rfl⟩
   rw[hc];exact⟨_,rfl,bh e2 rfl⟩
  cases c5 with
  | false=>exact go (by kernel_rfl) (by kernel_rfl) (by kernel_rfl) (by kernel_rfl)
  | true=>
   refine bp (b:=cu) hcu.symm (by kernel_rfl) ?_
   cases cu
   ·exact go (by kernel_rfl) (by kernel_rfl) (by kernel_rfl) (by kernel_rfl)
   exact fi
 exact key _ rfl _ rfl
def YE (k:Int) (nm:List UInt8) (ix:Int) (u:Nat):ab:=⟨[(19,iv 0),(18,iv 0),(17,.dat nl),(2,.ptr (.loc 2) 0),(1,iv (Int.ofNat u))],[(.loc 2,.cells [iv k,.dat (sb nm),iv ix,.dat nl])],[],0⟩
def PJ (k:Int) (nm:List UInt8) (ix:Int) (u:Nat):ab:=⟨[(20,bv false),(19,iv 0),(18,iv 0),(17,.dat nl),(2,.ptr (.loc 2) 0),(1,iv (Int.ofNat u))],[(.loc 2,.cells [iv k,.dat (sb nm),iv ix,.dat nl])],[],0⟩
theorem HI (k:Int) (nm:List UInt8) (ix:Int) (u:Nat):iJ X (env ay.aN) cN Ex Tryz.f139.ntmps qm 3000 (.loop (roundOf Tryz.f139 0)) (YE k nm ix u)=some (.exit 0,PJ k nm ix u):=by kernel_rfl
theorem Kp (k:Int) (nm:List UInt8) (ix:Int) (u:Nat):ag 139 [.dat (.agg [i64 k,sb nm,i64 ix,nl]),iv (Int.ofNat u)] (bv ((Ty.mk k nm ix []).closed u)):=by
 rw[B1];have key:∀c5:Bool,c5=aP k 5->∀cu:Bool,cu=!bq ix (Int.ofNat u)->ag 139 [.dat (.agg [i64 k,sb nm,i64 ix,nl]),iv (Int.ofNat u)] (bv (!(c5&&cu)&&eV k 0 [] u)):=by
  intro c5 h5 cu hcu;refine co [9,14] [] (x:=.of Tryz.f139 zW qm) ?_;refine bp (b:=c5) h5.symm (by kernel_rfl) ?_;have go:∀{q:Qy ey} (hs:q.GP.aw Tryz.f139.ntmps=(YE k nm ix u).aw Tryz.f139.ntmps) (e:q.CH=some (Tryz.f139.ntmps,roundOf Tryz.f139 0))
    (e1:(q.ofL (.exit 0,PJ k nm ix u)).J7=some ⟨bv true,[],0⟩),q.Ok Tryz.prog cN (fun y=>y=⟨bv true,[],0⟩):=by
   intro q hs e e1;refine iD (n:=Tryz.f139.ntmps) e hs (T1 Kf br 3000 (by kernel_rfl) (HI k nm ix u)) ?_;rintro ex s ⟨rfl,rfl⟩;exact⟨_,rfl,bh e1 rfl⟩
  cases c5 with
  | false=>exact go (by kernel_rfl) (by kernel_rfl) (by kernel_rfl)
  | true=>
   refine bp (b:=cu) hcu.symm (by kernel_rfl) ?_
   cases cu
   ·exact go (by kernel_rfl) (by kernel_rfl) (by kernel_rfl)
   exact fi
 exact key _ rfl _ rfl
mutual
theorem HT:∀(t:Ty) (u:Nat),t.size < 1000000000->u+t.depth < 2000000000->ag 139 [.dat t.enc,iv (Int.ofNat u)] (bv (t.closed u))
 | .mk k nm ix [],u,_,_=>Kp k nm ix u
 | .mk k nm ix (t::r),u,h,hu=>by
  have h2:aU (t::r) < 1000000000:=by simp only[Ty.size] at h;omega
  have h3:u+1+bV (t::r) < 2000000000:=by simp only[Ty.depth] at hu;omega
  exact Oq (l:=t::r) (fun x hx v hv=>vS (t::r) v h2 (by omega) x hx) h2 (by omega)
theorem vS:∀(l:List Ty) (u:Nat),aU l < 1000000000->u+bV l < 2000000000->∀t∈l,ag 139 [.dat t.enc,iv (Int.ofNat u)] (bv (t.closed u))
 | [],_,_,_,t,ht=>by simp at ht
 | x::r,u,h,hu,t,ht=>by
  simp only[aU] at h;simp only[bV] at hu
  rcases List.mem_cons.1 ht with h1|ht
  ·rw[h1];exact HT x u (by omega) (by omega)
  exact vS r u (by omega) (by omega) t ht
end
mutual
def Ty.thin:Ty->Prop
 | .mk _ _ _ l=>l.length < 1000000000/\fT l
def fT:List Ty->Prop
 | []=>True
 | t::r=>t.thin/\fT r
end
mutual
theorem nf:∀t:Ty,t.size < 1000000000->t.thin
 | .mk _ _ _ l,h=>by
  simp only[Ty.size] at h
  have:=eG l
  simp only[Ty.thin];exact⟨by omega,Fu l (by omega)⟩
theorem Fu:∀l:List Ty,aU l < 1000000000->fT l
 | [],_=>by simp[fT]
 | t::r,h=>by
  simp only[aU] at h;simp only[fT];exact⟨nf t (by omega),Fu r (by omega)⟩
end
theorem pZ:∀{l:List Ty},fT l->∀t∈l,t.thin
 | [],_,t,ht=>by simp at ht
 | x::r,h,t,ht=>by
  simp only[fT] at h
  rcases List.mem_cons.1 ht with h1|ht
  ·rw[h1];exact h.1
  exact pZ h.2 t ht
theorem Bc (ls bs:List Nat) {g:FuncId} {x:gU} (hx:J0.find g=some x) {args:List ac} {heap:Heap} {next:Nat} {T:ey->Prop} (h:(Qu (UP ls) (UP bs) (env ay.aN) cN ao aq x g args heap next).Ok Tryz.prog cN T) :
  KC g args heap next (fun v h m=>T ⟨v,h,m⟩):=Lf Kf tT hx (fun _ _=>h)
def oc (b:Bool) (v:ac):Prop:=∃j:Int,v=iv j/\bq j (Int.ofNat 0)=!b
theorem H7 {l:List Ty} {p:Ty->Bool} {i:Nat} {t:Ty} (h:l[i]?=some t):(l.drop i).any p=(p t||(l.drop (i+1)).any p):=by rw[iL h];rfl
noncomputable def yr:Hints:=⟨ao,wH,aq,rowsOf aq 99⟩
def iI:ac:=.fn (.func 169) [] []
def jy (l:List Ty) (i:Int):ab:=⟨[(8,iv i),(7,iv (Int.ofNat (au l).length)),(0,.dat (.slice (au l))),(1,iI)],[],[],0⟩
def oM (l:List Ty):ab:=⟨[(9,bv false),(8,iv (Int.ofNat (au l).length)),(7,iv (Int.ofNat (au l).length)),(0,.dat (.slice (au l))),(1,iI)],[],[],0⟩
def oN (i:Nat):ab:=⟨[(4,iv (Int.ofNat i))],[],[],0⟩
theorem xO {l:List Ty} {p:Ty->Bool} (hp:∀t∈l,ag 169 [.dat t.enc] (bv (p t))) (hb:l.length < 1000000000) :
  KC 99 [.dat (.slice (au l)),iI] [] 0 (fun v h m=>oc (l.any p) v/\h=[]/\m=0):=by
 have hl:KD (.loop (roundOf Tryz.f99 0)) (fun e s=>(e=.exit 0/\l.any p=false/\s=(oM l).aw Tryz.f99.ntmps)∨(e=.ret/\l.any p=true/\∃i:Nat,s=(oN i).aw Tryz.f99.ntmps)) ((jy l (Int.ofNat 0)).aw Tryz.f99.ntmps):=by
  refine cI (St:=fun i=>(jy l (Int.ofNat i)).aw Tryz.f99.ntmps) (fun i=>l.any p=(l.drop i).any p) (au l).length ?_ ?_ (i:=0) (Nat.zero_le _) rfl
  ·intro i hi hI;obtain⟨t,ht,hm⟩:=get_mem hi;have ha:=H7 (p:=p) ht;have hw:aH .i64 (Int.ofNat i+1)=Int.ofNat (i+1):=bg (by rw[aF] at hi;omega);have hc:=hp t hm;generalize ht2:p t=tc at hc ha;clear hp hb ht2;obtain⟨k2,nm2,ix2,a2⟩:=t
   rcases a2 with _|⟨b,c⟩ <;> cases tc <;>
   ·refine aC [9] [14] (H:=yr) (live:=jj) (by kernel_rfl) ?_;refine bp (b:=true) (bA hi) (by kernel_rfl) ?_;refine oo (jZ ht) ?_;refine on hc ?_
    first
     |exact cj (ex:=.normal) (jy l (aH .i64 (Int.ofNat i+1))) (by kernel_rfl) (by kernel_rfl) ⟨by rw[hw],by rw[hI,ha];rfl⟩
     |exact cj (ex:=.ret) (oN i) (by kernel_rfl) (by kernel_rfl) (.inr ⟨rfl,by rw[hI,ha];rfl,i,rfl⟩)
  intro hI;have h1:l.any p=false:=by rw[hI,aF,List.drop_length];rfl
  refine aC [9] [14] (H:=yr) (live:=jj) (by kernel_rfl) ?_;refine bp (b:=false) (bC (i:=(au l).length) (L:=(au l).length) (by omega)) (by kernel_rfl) ?_;exact cj (ex:=.exit 0) (oM l) (by kernel_rfl) (by kernel_rfl) (.inl ⟨rfl,h1,rfl⟩)
 clear hp hb;refine Bc [] [] (x:=gU.of Tryz.f99 wH jj) (T:=fun r=>oc (l.any p) r.val/\r.heap=[]/\r.next=0) (by kernel_rfl) ?_;refine iD (n:=Tryz.f99.ntmps) (c:=roundOf Tryz.f99 0) (f:=jy l (Int.ofNat 0)) (by kernel_rfl) (by kernel_rfl) hl ?_;rintro ex s (⟨rfl,hc,rfl⟩|⟨rfl,hc,i,rfl⟩)
 ·rw[hc];exact⟨_,rfl,bh (a:=⟨iv (-1),[],0⟩) (by kernel_rfl) ⟨⟨_,rfl,rfl⟩,rfl,rfl⟩⟩
 rw[hc];exact⟨_,rfl,bh (a:=⟨iv (Int.ofNat i),[],0⟩) (by kernel_rfl) ⟨⟨_,rfl,bC (by omega)⟩,rfl,rfl⟩⟩
theorem BU {l:List Ty} {p:Ty->Bool} (hp:∀t∈l,ag 169 [.dat t.enc] (bv (p t))) (hb:l.length < 1000000000) :
  ag 69 [.dat (sl (au l)),iI] (bv (l.any p)):=by
 cases l with
 | nil=>exact br _ _ _ _ _ (by kernel_rfl)
 | cons t r=>
  have h:=xO hp hb;generalize (t::r).any p=c at h;show ag 69 [.dat (.slice (au (t::r))),iI] (bv c);refine co [8] [] (x:=.of Tryz.f69 CA Am) ?_;refine Jk (Q:=oc c) h (by kernel_rfl) (by kernel_rfl) (by rintro v ⟨j,rfl,_⟩;rfl) ?_;rintro v ⟨j,rfl,hj⟩ _;refine bp (b:=c) (c:=!bq j (Int.ofNat 0)) (by rw[hj];simp) (by kernel_rfl) ?_;exact bh (a:=⟨bv c,[],0⟩) (by cases c <;> kernel_rfl) rfl
def gX:ac:=.fn (.func 168) [] []
def ir (l:List Ty) (i:Int):ab:=⟨[(8,iv i),(7,iv (Int.ofNat (au l).length)),(0,.dat (.slice (au l))),(1,gX)],[],[],0⟩
def om (l:List Ty):ab:=⟨[(9,bv false),(8,iv (Int.ofNat (au l).length)),(7,iv (Int.ofNat (au l).length)),(0,.dat (.slice (au l))),(1,gX)],[],[],0⟩
def oq (i:Nat):ab:=⟨[(4,iv (Int.ofNat i))],[],[],0⟩
theorem vB {l:List Ty} {p:Ty->Bool} (hp:∀t∈l,ag 168 [.dat t.enc] (bv (p t))) (hb:l.length < 1000000000) :
  KC 99 [.dat (.slice (au l)),gX] [] 0 (fun v h m=>oc (l.any p) v/\h=[]/\m=0):=by
 have hl:KD (.loop (roundOf Tryz.f99 0)) (fun e s=>(e=.exit 0/\l.any p=false/\s=(om l).aw Tryz.f99.ntmps)∨(e=.ret/\l.any p=true/\∃i:Nat,s=(oq i).aw Tryz.f99.ntmps)) ((ir l (Int.ofNat 0)).aw Tryz.f99.ntmps):=by
  refine cI (St:=fun i=>(ir l (Int.ofNat i)).aw Tryz.f99.ntmps) (fun i=>l.any p=(l.drop i).any p) (au l).length ?_ ?_ (i:=0) (Nat.zero_le _) rfl
  ·intro i hi hI;obtain⟨t,ht,hm⟩:=get_mem hi;have ha:=H7 (p:=p) ht;have hw:aH .i64 (Int.ofNat i+1)=Int.ofNat (i+1):=bg (by rw[aF] at hi;omega);have hc:=hp t hm;generalize ht2:p t=tc at hc ha;clear hp hb ht2;obtain⟨k2,nm2,ix2,a2⟩:=t
   rcases a2 with _|⟨b,c⟩ <;> cases tc <;>
   ·refine aC [9] [14] (H:=yr) (live:=jj) (by kernel_rfl) ?_;refine bp (b:=true) (bA hi) (by kernel_rfl) ?_;refine oo (jZ ht) ?_;refine on hc ?_
    first
     |exact cj (ex:=.normal) (ir l (aH .i64 (Int.ofNat i+1))) (by kernel_rfl) (by kernel_rfl) ⟨by rw[hw],by rw[hI,ha];rfl⟩
     |exact cj (ex:=.ret) (oq i) (by kernel_rfl) (by kernel_rfl) (.inr ⟨rfl,by rw[hI,ha];rfl,i,rfl⟩)
  intro hI;have h1:l.any p=false:=by rw[hI,aF,List.drop_length];rfl
  refine aC [9] [14] (H:=yr) (live:=jj) (by kernel_rfl) ?_;refine bp (b:=false) (bC (i:=(au l).length) (L:=(au l).length) (by omega)) (by kernel_rfl) ?_;exact cj (ex:=.exit 0) (om l) (by kernel_rfl) (by kernel_rfl) (.inl ⟨rfl,h1,rfl⟩)
 clear hp hb;refine Bc [] [] (x:=gU.of Tryz.f99 wH jj) (T:=fun r=>oc (l.any p) r.val/\r.heap=[]/\r.next=0) (by kernel_rfl) ?_;refine iD (n:=Tryz.f99.ntmps) (c:=roundOf Tryz.f99 0) (f:=ir l (Int.ofNat 0)) (by kernel_rfl) (by kernel_rfl) hl ?_;rintro ex s (⟨rfl,hc,rfl⟩|⟨rfl,hc,i,rfl⟩)
 ·rw[hc];exact⟨_,rfl,bh (a:=⟨iv (-1),[],0⟩) (by kernel_rfl) ⟨⟨_,rfl,rfl⟩,rfl,rfl⟩⟩
 rw[hc];exact⟨_,rfl,bh (a:=⟨iv (Int.ofNat i),[],0⟩) (by kernel_rfl) ⟨⟨_,rfl,bC (by omega)⟩,rfl,rfl⟩⟩
theorem Bu {l:List Ty} {p:Ty->Bool} (hp:∀t∈l,ag 168 [.dat t.enc] (bv (p t))) (hb:l.length < 1000000000) :
  ag 69 [.dat (sl (au l)),gX] (bv (l.any p)):=by
 cases l with
 | nil=>exact br _ _ _ _ _ (by kernel_rfl)
 | cons t r=>
  have h:=vB hp hb;generalize (t::r).any p=c at h;show ag 69 [.dat (.slice (au (t::r))),gX] (bv c);refine co [8] [] (x:=.of Tryz.f69 CA Am) ?_;refine Jk (Q:=oc c) h (by kernel_rfl) (by kernel_rfl) (by rintro v ⟨j,rfl,_⟩;rfl) ?_;rintro v ⟨j,rfl,hj⟩ _;refine bp (b:=c) (c:=!bq j (Int.ofNat 0)) (by rw[hj];simp) (by kernel_rfl) ?_;exact bh (a:=⟨bv c,[],0⟩) (by cases c <;> kernel_rfl) rfl
mutual
def Ty.plain:Ty->Bool
 | .mk k nm ix args=>aP k 5||(Ty.mk k nm ix args).closed 0||(aP k 2&&!gZ args)
def gZ:List Ty->Bool
 | []=>false
 | t::r=>!t.plain||gZ r
end
theorem Dk:∀l:List Ty,gZ l=l.any (fun t=>!t.plain)
 | []=>by simp[gZ]
 | t::r=>by simp[gZ,Dk r]
theorem xn {k:Int} {nm:List UInt8} {ix:Int} {l:List Ty} (hp:∀t∈l,ag 117 [.dat t.enc] (bv t.plain)) (hb:l.length < 1000000000):ag 140 [.dat (Ty.mk k nm ix l).enc] (bv (!gZ l)):=by
 have h1:∀t∈l,ag 169 [.dat t.enc] (bv (!t.plain)):=by
  intro t ht;have hc:=hp t ht;generalize t.plain=c at hc;obtain⟨k2,nm2,ix2,a2⟩:=t
  rcases a2 with _|⟨b,d⟩ <;> cases c <;>
  ·refine co [] [] (x:=.of Tryz.f169 I4 LQ) ?_;refine on hc ?_;exact fi
 have h2:=BU h1 hb;rw[Dk];generalize l.any (fun t=>!t.plain)=c at h2
 rcases l with _|⟨b,d⟩ <;> cases c <;>
 ·refine co [] [] (x:=.of Tryz.f140 Jb LY) ?_;refine on h2 ?_;exact fi
theorem IZ {k:Int} {nm:List UInt8} {ix:Int} {l:List Ty} (hp:∀t∈l,ag 117 [.dat t.enc] (bv t.plain)) (hs:(Ty.mk k nm ix l).size < 1000000000):ag 117 [.dat (Ty.mk k nm ix l).enc] (bv (Ty.mk k nm ix l).plain):=by
 have hb:l.length < 1000000000:=by have:=eG l;simp only[Ty.size] at hs;omega
 have h1:=HT (Ty.mk k nm ix l) 0 hs (by have:=jr (Ty.mk k nm ix l);omega);have h2:=xn (k:=k) (nm:=nm) (ix:=ix) hp hb;have e:(Ty.mk k nm ix l).plain=(aP k 5||(Ty.mk k nm ix l).closed 0||(aP k 2&&!gZ l)):=by rw[Ty.plain]
 rw[e];clear e hp hs hb;generalize (Ty.mk k nm ix l).closed 0=cc at h1;generalize (!gZ l)=ca at h2;generalize h5:aP k 5=c5;generalize h6:aP k 2=c2
 rcases l with _|⟨b,d⟩ <;>
 ·refine co [5,13] [] (x:=.of Tryz.f117 Ji L5) ?_;refine ob h5 ?_
  cases c5
  ·refine on h1 ?_
   cases cc
   ·refine ob h6 ?_
    cases c2 with
    | false=>exact fi
    | true=>
     refine on h2 ?_
     cases ca <;> exact fi
   exact fi
  exact fi
mutual
theorem Mw:∀t:Ty,t.size < 1000000000->ag 117 [.dat t.enc] (bv t.plain)
 | .mk k nm ix l,h=>IZ (Be l (by simp only[Ty.size] at h;omega)) h
theorem Be:∀l:List Ty,aU l < 1000000000->∀t∈l,ag 117 [.dat t.enc] (bv t.plain)
 | [],_,t,ht=>by simp at ht
 | x::r,h,t,ht=>by
  simp only[aU] at h
  rcases List.mem_cons.1 ht with h1|ht
  ·rw[h1];exact Mw x (by omega)
  exact Be r (by omega) t ht
end
def jA (n:Nat):Bool:=(Nat.ble 97 n&&Nat.ble n 122)||(Nat.ble 65 n&&Nat.ble n 90)
def BZ (n:Nat):Bool:=jA n||(Nat.ble 48 n&&Nat.ble n 57)||Nat.beq n 95||Nat.beq n 45
def dN (n:Nat):Bool:=!Nat.beq n 45&&BZ n
def isIdent:List UInt8->Bool
 | []=>false
 | c::r=>Nat.ble (r.length+1) 24&&jA c.toNat&&(c::r).all (fun c=>dN c.toNat)
def OL (n:Nat):ac:=.dat (.flat (.int .u8 (Int.ofNat n)))
def KL (p:Nat->Bool):Nat->Bool
 | 0=>true
 | k+1=>p k&&KL p k
theorem uE {p:Nat->Bool}:∀{k:Nat},KL p k=true->∀i,i < k->p i=true
 | 0,_,i,hi=>by omega
 | k+1,h,i,hi=>by
  simp only[KL,Bool.and_eq_true] at h
  rcases Nat.lt_or_ge i k with h1|h1
  ·exact uE h.2 i h1
  have:i=k:=by omega
  subst this;exact h.1
def Df (c:Bool):Option ey->Bool
 | some ⟨.dat (.flat (.bool b)),[],0⟩=>match b with|true=>c|false=>!c
 | _=>false
theorem uw {c:Bool} {r:Option ey} (h:Df c r=true):r=some ⟨bv c,[],0⟩:=by
 unfold Df at h
 split at h
 ·rename_i b
  cases b <;> simp at h <;> subst h <;> rfl
 simp at h
theorem JE:KL (fun n=>Df (jA n) (X 111 [OL n] [] 0)) 256=true:=by kernel_rfl
theorem Ku (c:UInt8):ag 111 [OL c.toNat] (bv (jA c.toNat)):=br _ _ _ _ _ (uw (uE JE _ c.toNat_lt))
theorem NP:KL (fun n=>Df (dN n) (X 113 [OL n] [] 0)) 256=true:=by kernel_rfl
theorem Ug (c:UInt8):ag 113 [OL c.toNat] (bv (dN c.toNat)):=br _ _ _ _ _ (uw (uE NP _ c.toNat_lt))
theorem afC:(env ay.aN).desc 9=some .string:=by kernel_rfl
theorem uC {b:List UInt8} {i:Nat} {c:UInt8} (h:b[i]?=some c):we (env ay.aN) 9 [.dat (sb b),.dat (.flat (.int .i64 (Int.ofNat i)))]=some ⟨OL c.toNat,.keep⟩:=by
 have hg:ay.aN.byte ⟨⟨b⟩⟩ (Int.ofNat i)=some c:=Xj h;have hp:(env ay.aN).pr=ay.aN:=rfl;simp only[we,sb,afC,hp,hg];rfl
def fnI:ac:=.fn (.func 113) [] []
noncomputable def S9:Hints:=⟨ao,D4,aq,rowsOf aq 112⟩
def Vh (b:List UInt8) (i:Int):ab:=⟨[(5,iv i),(0,.dat (sb b)),(1,fnI)],[],[],0⟩
def YA (b:List UInt8):ab:=⟨[(9,bv false),(5,iv (Int.ofNat b.length)),(0,.dat (sb b)),(1,fnI)],[],[],0⟩
def YB:ab:=⟨[(4,bv false)],[],[],0⟩
theorem XZ {b:List UInt8} (hb:b.length < 1000000000):ag 112 [.dat (sb b),fnI] (bv (b.all (fun c=>dN c.toNat))):=by
 have hl:KD (.loop (roundOf Tryz.f112 0)) (fun e s=>(e=.exit 0/\b.all (fun c=>dN c.toNat)=true/\s=(YA b).aw Tryz.f112.ntmps)∨(e=.ret/\b.all (fun c=>dN c.toNat)=false/\s=YB.aw Tryz.f112.ntmps)) ((Vh b (Int.ofNat 0)).aw Tryz.f112.ntmps):=by
  refine cI (St:=fun i=>(Vh b (Int.ofNat i)).aw Tryz.f112.ntmps) (fun i=>b.all (fun c=>dN c.toNat)=(b.drop i).all (fun c=>dN c.toNat)) b.length ?_ ?_ (i:=0) (Nat.zero_le _) rfl
  ·intro i hi hI;have hg:b[i]?=some b[i]:=List.getElem?_eq_getElem hi;have hd:(b.drop i).all (fun c=>dN c.toNat)=(dN b[i].toNat&&(b.drop (i+1)).all (fun c=>dN c.toNat)):=by rw[List.drop_eq_getElem_cons hi];rfl
   have hw:aH .i64 (Int.ofNat i+1)=Int.ofNat (i+1):=bg (by omega);have hc:=Ug b[i];generalize b[i]=c at hg hd hc;generalize dN c.toNat=tc at hd hc;refine aC [9] [15] (H:=S9) (live:=ym) (by kernel_rfl) ?_;refine bp (b:=true) (bA hi) (by kernel_rfl) ?_;refine oo (uC hg) ?_;refine on hc ?_
   cases tc
   ·exact cj (ex:=.ret) YB (by kernel_rfl) (by kernel_rfl) (.inr ⟨rfl,by rw[hI,hd];rfl,rfl⟩)
   exact cj (ex:=.normal) (Vh b (aH .i64 (Int.ofNat i+1))) (by kernel_rfl) (by kernel_rfl) ⟨by rw[hw],by rw[hI,hd];rfl⟩
  intro hI;have h1:b.all (fun c=>dN c.toNat)=true:=by rw[hI,List.drop_length];rfl
  refine aC [9] [15] (H:=S9) (live:=ym) (by kernel_rfl) ?_;refine bp (b:=false) (bC (i:=b.length) (L:=b.length) (by omega)) (by kernel_rfl) ?_;exact cj (ex:=.exit 0) (YA b) (by kernel_rfl) (by kernel_rfl) (.inl ⟨rfl,h1,rfl⟩)
 generalize b.all (fun c=>dN c.toNat)=c at hl;refine co [] [] (x:=.of Tryz.f112 D4 ym) ?_;refine iD (n:=Tryz.f112.ntmps) (c:=roundOf Tryz.f112 0) (f:=Vh b (Int.ofNat 0)) (by kernel_rfl) (by kernel_rfl) hl ?_;rintro ex s (⟨rfl,rfl,rfl⟩|⟨rfl,rfl,rfl⟩) <;>
 ·exact⟨_,rfl,bh (by kernel_rfl) rfl⟩
theorem vR (b:List UInt8):ag 87 [.dat (sb b)] (bv (isIdent b)):=by
 cases b with
 | nil=>exact br _ _ _ _ _ (by kernel_rfl)
 | cons c r=>
  have hev:Nat.ble (r.length+1) 24=true->ag 112 [.dat (sb (c::r)),fnI] (bv ((c::r).all (fun c=>dN c.toNat))):=fun h=>XZ (by have:=fe h;simp;omega)
  have hle:=Ku c;have e:isIdent (c::r)=(Nat.ble (r.length+1) 24&&jA c.toNat&&(c::r).all (fun c=>dN c.toNat)):=rfl;rw[e];generalize (c::r).all (fun c=>dN c.toNat)=ca at hev;generalize jA c.toNat=cl at hle;have hlt:bq (Int.ofNat 24) (Int.ofNat (r.length+1))=!Nat.ble (r.length+1) 24:=by
   rw[iE]
   by_cases h:24 < r.length+1
   ·rw[decide_eq_true h,show Nat.ble (r.length+1) 24=false from by rw[Bool.eq_false_iff];intro e;have:=fe e;omega];rfl
   rw[decide_eq_false h,fS (by omega)];rfl
  generalize Nat.ble (r.length+1) 24=cb at hlt hev;refine co [8] [12] (x:=.of Tryz.f87 QO Sz) ?_;refine bp (b:=cb) (c:=!bq (Int.ofNat 24) (Int.ofNat (r.length+1))) (by rw[hlt];simp) (by kernel_rfl) ?_
  cases cb with
  | false=>exact fi
  | true=>
   refine oo (uC (b:=c::r) (i:=0) rfl) ?_;refine on hle ?_
   cases cl with
   | false=>exact fi
   | true=>
    refine on (hev rfl) ?_
    cases ca <;> exact fi
def gO (b:List UInt8):Bool:=oE.any (fun r=>dU b r)
noncomputable def qq:Hints:=⟨ao,D3,aq,rowsOf aq 115⟩
def FB (b:List UInt8) (i:Int):ab:=⟨[(8,iv i),(7,iv 5),(0,.dat (.slice (encS oE))),(1,.dat (sb b))],[],[],0⟩
def Yy (b:List UInt8):ab:=⟨[(9,bv false),(8,iv 5),(7,iv 5),(0,.dat (.slice (encS oE))),(1,.dat (sb b))],[],[],0⟩
def Cf (i:Nat):ab:=⟨[(4,iv (Int.ofNat i))],[],[],0⟩
theorem Uf (b:List UInt8):KC 115 [.dat (.slice (encS oE)),.dat (sb b)] [] 0 (fun v h m=>oc (gO b) v/\h=[]/\m=0):=by
 have hl:KD (.loop (roundOf Tryz.f115 0)) (fun e s=>(e=.exit 0/\gO b=false/\s=(Yy b).aw Tryz.f115.ntmps)∨(e=.ret/\gO b=true/\∃i:Nat,s=(Cf i).aw Tryz.f115.ntmps)) ((FB b (Int.ofNat 0)).aw Tryz.f115.ntmps):=by
  refine cI (St:=fun i=>(FB b (Int.ofNat i)).aw Tryz.f115.ntmps) (fun i=>gO b=(oE.drop i).any (fun r=>dU b r)) 5 ?_ ?_ (i:=0) (Nat.zero_le _) rfl
  ·intro i hi hI;have hcases:i=0∨i=1∨i=2∨i=3∨i=4:=by omega
   have hd:(oE.drop i).any (fun r=>dU b r)=(dU b (oE.getD i [])||(oE.drop (i+1)).any (fun r=>dU b r)):=by rcases hcases with rfl|rfl|rfl|rfl|rfl <;> rfl
   rw[hd] at hI;clear hd;generalize hcw:dU b (oE.getD i [])=cw at hI
   rcases hcases with rfl|rfl|rfl|rfl|rfl
   ·refine aC [16] [] (H:=qq) (live:=lH) (by kernel_rfl) ?_;refine ob hcw ?_
    cases cw
    ·exact cj (ex:=.normal) (FB b (Int.ofNat (0+1))) (by kernel_rfl) (by kernel_rfl) ⟨rfl,hI⟩
    exact cj (ex:=.ret) (Cf 0) (by kernel_rfl) (by kernel_rfl) (.inr ⟨rfl,hI,0,rfl⟩)
   ·refine aC [16] [] (H:=qq) (live:=lH) (by kernel_rfl) ?_;refine ob hcw ?_
    cases cw
    ·exact cj (ex:=.normal) (FB b (Int.ofNat (1+1))) (by kernel_rfl) (by kernel_rfl) ⟨rfl,hI⟩
    exact cj (ex:=.ret) (Cf 1) (by kernel_rfl) (by kernel_rfl) (.inr ⟨rfl,hI,1,rfl⟩)
   ·refine aC [16] [] (H:=qq) (live:=lH) (by kernel_rfl) ?_;refine ob hcw ?_
    cases cw
    ·exact cj (ex:=.normal) (FB b (Int.ofNat (2+1))) (by kernel_rfl) (by kernel_rfl) ⟨rfl,hI⟩
    exact cj (ex:=.ret) (Cf 2) (by kernel_rfl) (by kernel_rfl) (.inr ⟨rfl,hI,2,rfl⟩)
   ·refine aC [16] [] (H:=qq) (live:=lH) (by kernel_rfl) ?_;refine ob hcw ?_
    cases cw
    ·exact cj (ex:=.normal) (FB b (Int.ofNat (3+1))) (by kernel_rfl) (by kernel_rfl) ⟨rfl,hI⟩
    exact cj (ex:=.ret) (Cf 3) (by kernel_rfl) (by kernel_rfl) (.inr ⟨rfl,hI,3,rfl⟩)
   refine aC [16] [] (H:=qq) (live:=lH) (by kernel_rfl) ?_;refine ob hcw ?_
   cases cw
   ·exact cj (ex:=.normal) (FB b (Int.ofNat (4+1))) (by kernel_rfl) (by kernel_rfl) ⟨rfl,hI⟩
   exact cj (ex:=.ret) (Cf 4) (by kernel_rfl) (by kernel_rfl) (.inr ⟨rfl,hI,4,rfl⟩)
  intro hI;have h1:gO b=false:=by rw[hI];rfl
  refine aC [16] [] (H:=qq) (live:=lH) (by kernel_rfl) ?_;exact cj (ex:=.exit 0) (Yy b) (by kernel_rfl) (by kernel_rfl) (.inl ⟨rfl,h1,rfl⟩)
 generalize gO b=c at hl;refine Bc [] [] (x:=gU.of Tryz.f115 D3 lH) (T:=fun r=>oc c r.val/\r.heap=[]/\r.next=0) (by kernel_rfl) ?_;refine iD (n:=Tryz.f115.ntmps) (c:=roundOf Tryz.f115 0) (f:=FB b (Int.ofNat 0)) (by kernel_rfl) (by kernel_rfl) hl ?_;rintro ex s (⟨rfl,rfl,rfl⟩|⟨rfl,rfl,i,rfl⟩)
 ·exact⟨_,rfl,bh (a:=⟨iv (-1),[],0⟩) (by kernel_rfl) ⟨⟨_,rfl,rfl⟩,rfl,rfl⟩⟩
 exact⟨_,rfl,bh (a:=⟨iv (Int.ofNat i),[],0⟩) (by kernel_rfl) ⟨⟨_,rfl,bC (by omega)⟩,rfl,rfl⟩⟩
theorem xo (b:List UInt8):ag 88 [.dat (.slice (encS oE)),.dat (sb b)] (bv (gO b)):=by
 have h:=Uf b;generalize gO b=c at h;refine co [8] [] (x:=.of Tryz.f88 QN Sy) ?_;refine Jk (Q:=oc c) h (by kernel_rfl) (by kernel_rfl) (by rintro v ⟨j,rfl,_⟩;rfl) ?_;rintro v ⟨j,rfl,hj⟩ _;refine bp (b:=c) (c:=!bq j (Int.ofNat 0)) (by rw[hj];simp) (by kernel_rfl) ?_
 cases c <;> exact fi
def fG (x y:Int):Int:=match bq x y with|true=>-1|false=>(match bq y x with|true=>1|false=>0)
def pJ (x y:List UInt8):Int:=match mu x y with|true=>-1|false=>(match !(mu x y||dU x y) with|true=>1|false=>0)
def BF:List Int->Int
 | []=>0
 | x::r=>match aP x 0 with|true=>BF r|false=>x
theorem dG (x:Int):aP x x=true:=by rw[gQ];simp
theorem jT (x:List UInt8):dU x x=true:=by rw[jo];simp
theorem Um (x:Int):ag 171 [iv x] (bv false):=by
 refine co [5] [] (x:=.of Tryz.f171 I3 LP) ?_;refine bp (b:=false) (c:=!aP x x) (by rw[dG];rfl) (by kernel_rfl) ?_;exact fi
theorem Ul (x:List UInt8):ag 172 [.dat (sb x)] (bv false):=by
 refine co [5] [] (x:=.of Tryz.f172 I2 LO) ?_;refine bp (b:=false) (c:=!dU x x) (by rw[jT];rfl) (by kernel_rfl) ?_;exact fi
theorem Kw (x y:Int):ag 144 [iv x,iv y] (iv (fG x y)):=by
 unfold fG;generalize h1:bq x y=a;generalize h2:bq y x=b;refine co [16,19] [] (x:=.of Tryz.f144 Ja LX) ?_;refine on (Um x) ?_;refine on (Um y) ?_;refine ob h1 ?_
 cases a
 ·refine ob h2 ?_
  cases b <;> exact fi
 exact fi
theorem acM (x y:List UInt8):ag 145 [.dat (sb x),.dat (sb y)] (iv (pJ x y)):=by
 unfold pJ;generalize h2:(!(mu x y||dU x y))=b;generalize h1:mu x y=a;refine co [16,19] [] (x:=.of Tryz.f145 I9 LW) ?_;refine on (Ul x) ?_;refine on (Ul y) ?_;refine ob h1 ?_
 cases a
 ·refine ob h2 ?_
  cases b <;> exact fi
 exact fi
noncomputable def hOr:Hints:=⟨ao,DU,aq,rowsOf aq 143⟩
def ID (a b c d:Int) (i:Int):ab:=⟨[(8,iv i),(7,iv 4),(6,.dat (.slice [i64 a,i64 b,i64 c,i64 d])),(3,iv 0)],[],[],0⟩
def Ys (a b c d:Int):ab:=⟨[(9,bv false),(8,iv 4),(7,iv 4),(6,.dat (.slice [i64 a,i64 b,i64 c,i64 d])),(3,iv 0)],[],[],0⟩
def FA (a:Int):ab:=⟨[(2,iv a)],[],[],0⟩
theorem agr (a b c d:Int):ag 143 [.dat (.slice [i64 a,i64 b,i64 c,i64 d])] (iv (BF [a,b,c,d])):=by
 have hl:KD (.loop (roundOf Tryz.f143 0)) (fun e s=>(e=.exit 0/\BF [a,b,c,d]=0/\s=(Ys a b c d).aw Tryz.f143.ntmps)∨(e=.ret/\s=(FA (BF [a,b,c,d])).aw Tryz.f143.ntmps)) ((ID a b c d (Int.ofNat 0)).aw Tryz.f143.ntmps):=by
  refine cI (St:=fun i=>(ID a b c d (Int.ofNat i)).aw Tryz.f143.ntmps) (fun i=>BF [a,b,c,d]=BF ([a,b,c,d].drop i)) 4 ?_ ?_ (i:=0) (Nat.zero_le _) rfl
  ·intro i hi hI;have hcases:i=0∨i=1∨i=2∨i=3:=by omega
   have hd:BF ([a,b,c,d].drop i)=(match aP ([a,b,c,d].getD i 0) 0 with|true=>BF ([a,b,c,d].drop (i+1))|false=>[a,b,c,d].getD i 0):=by rcases hcases with rfl|rfl|rfl|rfl <;> rfl
   rw[hd] at hI;clear hd;generalize hcw:aP ([a,b,c,d].getD i 0) 0=cw at hI
   rcases hcases with rfl|rfl|rfl|rfl
   ·refine aC [14] [] (H:=hOr) (live:=nC) (by kernel_rfl) ?_;refine bp (b:=!cw) (c:=!aP ([a,b,c,d].getD 0 0) 0) (by rw[hcw]) (by kernel_rfl) ?_
    cases cw with
    | false=>exact cj (ex:=.ret) (FA ([a,b,c,d].getD 0 0)) (by kernel_rfl) (by kernel_rfl) (.inr ⟨rfl,by rw[hI]⟩)
    | true=>exact cj (ex:=.normal) (ID a b c d (Int.ofNat (0+1))) (by kernel_rfl) (by kernel_rfl) ⟨rfl,hI⟩
   ·refine aC [14] [] (H:=hOr) (live:=nC) (by kernel_rfl) ?_;refine bp (b:=!cw) (c:=!aP ([a,b,c,d].getD 1 0) 0) (by rw[hcw]) (by kernel_rfl) ?_
    cases cw with
    | false=>exact cj (ex:=.ret) (FA ([a,b,c,d].getD 1 0)) (by kernel_rfl) (by kernel_rfl) (.inr ⟨rfl,by rw[hI]⟩)
    | true=>exact cj (ex:=.normal) (ID a b c d (Int.ofNat (1+1))) (by kernel_rfl) (by kernel_rfl) ⟨rfl,hI⟩
   ·refine aC [14] [] (H:=hOr) (live:=nC) (by kernel_rfl) ?_;refine bp (b:=!cw) (c:=!aP ([a,b,c,d].getD 2 0) 0) (by rw[hcw]) (by kernel_rfl) ?_
    cases cw with
    | false=>exact cj (ex:=.ret) (FA ([a,b,c,d].getD 2 0)) (by kernel_rfl) (by kernel_rfl) (.inr ⟨rfl,by rw[hI]⟩)
    | true=>exact cj (ex:=.normal) (ID a b c d (Int.ofNat (2+1))) (by kernel_rfl) (by kernel_rfl) ⟨rfl,hI⟩
   refine aC [14] [] (H:=hOr) (live:=nC) (by kernel_rfl) ?_;refine bp (b:=!cw) (c:=!aP ([a,b,c,d].getD 3 0) 0) (by rw[hcw]) (by kernel_rfl) ?_
   cases cw with
   | false=>exact cj (ex:=.ret) (FA ([a,b,c,d].getD 3 0)) (by kernel_rfl) (by kernel_rfl) (.inr ⟨rfl,by rw[hI]⟩)
   | true=>exact cj (ex:=.normal) (ID a b c d (Int.ofNat (3+1))) (by kernel_rfl) (by kernel_rfl) ⟨rfl,hI⟩
  intro hI;have h1:BF [a,b,c,d]=0:=by rw[hI];rfl
  refine aC [14] [] (H:=hOr) (live:=nC) (by kernel_rfl) ?_;exact cj (ex:=.exit 0) (Ys a b c d) (by kernel_rfl) (by kernel_rfl) (.inl ⟨rfl,h1,rfl⟩)
 generalize BF [a,b,c,d]=r at hl;refine co [] [] (x:=.of Tryz.f143 DU nC) ?_;refine iD (n:=Tryz.f143.ntmps) (c:=roundOf Tryz.f143 0) (f:=ID a b c d (Int.ofNat 0)) (by kernel_rfl) (by kernel_rfl) hl ?_;rintro ex s (⟨rfl,rfl,rfl⟩|⟨rfl,rfl⟩)
 ·exact⟨_,rfl,bh (by kernel_rfl) rfl⟩
 exact⟨_,rfl,bh (by kernel_rfl) rfl⟩
mutual
def nS:Ty->Ty->Int
 | .mk k nm ix l,.mk k2 nm2 ix2 l2=>match aP (BF [fG k k2,pJ nm nm2,fG ix ix2,fG (Int.ofNat (au l).length) (Int.ofNat (au l2).length)]) 0 with
  | true=>qN l l2
  | false=>BF [fG k k2,pJ nm nm2,fG ix ix2,fG (Int.ofNat (au l).length) (Int.ofNat (au l2).length)]
def qN:List Ty->List Ty->Int
 | t::r,u::v=>match aP (nS t u) 0 with|true=>qN r v|false=>nS t u
 | _,_=>0
end
def aei (k:Int) (nm:List UInt8) (ix:Int) (l:List Ty) (k2:Int) (nm2:List UInt8) (ix2:Int) (l2:List Ty):Int:=BF [fG k k2,pJ nm nm2,fG ix ix2,fG (Int.ofNat (au l).length) (Int.ofNat (au l2).length)]
theorem pE {x:Int} (h:aP x 0=true):x=0:=by rw[gQ] at h;simpa using h
theorem Aa:∀{l:List Int},BF l=0->∀x∈l,x=0
 | [],_,x,hx=>by simp at hx
 | y::r,h,x,hx=>by
  unfold BF at h
  split at h
  ·rename_i hy
   rcases List.mem_cons.1 hx with h1|hx
   ·rw[h1];exact pE hy
   exact Aa h x hx
  rename_i hy;subst h;rw[dG] at hy;simp at hy
theorem vO {x y:Int} (h:fG x y=0):x=y:=by
 unfold fG at h
 cases h1:bq x y with
 | true=>rw[h1] at h;simp at h
 | false=>
  rw[h1] at h
  cases h2:bq y x with
  | true=>rw[h2] at h;simp at h
  | false=>
   rw[gr] at h1 h2;simp at h1 h2;omega
theorem AB {k:Int} {nm:List UInt8} {ix:Int} {l:List Ty} {k2:Int} {nm2:List UInt8} {ix2:Int} {l2:List Ty} (h:aP (aei k nm ix l k2 nm2 ix2 l2) 0=true):l.length=l2.length:=by
 have h1:=Aa (pE h) (fG (Int.ofNat (au l).length) (Int.ofNat (au l2).length)) (by simp);have h2:=vO h1;rw[aF,aF] at h2;exact Int.ofNat.inj h2
def mT (l l2:List Ty) (c0:Int):Nat->Int
 | 0=>c0
 | i+1=>match l[i]?,l2[i]? with|some t,some u=>nS t u|_,_=>0
noncomputable def po:Hints:=⟨ao,D1,aq,rowsOf aq 121⟩
def qY (k:Int) (nm:List UInt8) (ix:Int) (l:List Ty) (k2:Int) (nm2:List UInt8) (ix2:Int) (l2:List Ty):Heap:=[(.loc 3,.cells [iv k2,.dat (sb nm2),iv ix2,.dat (.slice (au l2))]),(.loc 2,.cells [iv k,.dat (sb nm),iv ix,.dat (.slice (au l))])]
def oO (lo:Heap) (i c:Int):ab:=⟨[(6,iv i),(5,iv c),(3,.ptr (.loc 3) 0),(2,.ptr (.loc 2) 0)],lo,[],0⟩
def kP (lo:Heap) (i c:Int):ab:=⟨[(39,bv false),(6,iv i),(5,iv c),(3,.ptr (.loc 3) 0),(2,.ptr (.loc 2) 0)],lo,[],0⟩
theorem T5 {k:Int} {nm:List UInt8} {ix:Int} {l:List Ty} {k2:Int} {nm2:List UInt8} {ix2:Int} {l2:List Ty} {c0:Int} (hlen:aP c0 0=true->l.length=l2.length)
  (ih:∀t∈l,∀u∈l2,ag 121 [.dat t.enc,.dat u.enc] (iv (nS t u))) (hb:l.length < 1000000000) :
  KD (.loop (roundOf Tryz.f121 0)) (fun e s=>e=.exit 0/\∃i:Nat,s=(kP (qY k nm ix l k2 nm2 ix2 l2) (Int.ofNat i) (match aP c0 0 with|true=>qN l l2|false=>c0)).aw Tryz.f121.ntmps) ((oO (qY k nm ix l k2 nm2 ix2 l2) (Int.ofNat 0) c0).aw Tryz.f121.ntmps):=by
 generalize hfin:(match aP c0 0 with|true=>qN l l2|false=>c0)=fin;refine cI (St:=fun i=>(oO (qY k nm ix l k2 nm2 ix2 l2) (Int.ofNat i) (mT l l2 c0 i)).aw Tryz.f121.ntmps) (fun i=>(0 < i->aP c0 0=true)/\fin=(match aP (mT l l2 c0 i) 0 with|true=>qN (l.drop i) (l2.drop i)|false=>mT l l2 c0 i)) (au l).length ?_ ?_ (i:=0) (Nat.zero_le _) ⟨fun h=>absurd h (Nat.lt_irrefl 0),hfin.symm⟩
 ·rintro i hi ⟨hz,hI⟩;have hz2:aP (mT l l2 c0 i) 0=true->aP c0 0=true:=by
   intro h
   cases i with
   | zero=>exact h
   | succ i=>exact hz (Nat.succ_pos i)
  obtain⟨t,ht,hm⟩:=get_mem hi;have hi2:=hi;rw[aF] at hi2;have hw:aH .i64 (Int.ofNat i+1)=Int.ofNat (i+1):=bg (by omega);generalize hca:mT l l2 c0 i=ca at hI hz2;generalize hcz:aP ca 0=cz at hI hz2
  cases cz with
  | false=>
   refine aC [32,38] [45,50] (H:=po) (live:=nD) (by kernel_rfl) ?_;refine ob hcz ?_;refine cj (ex:=.exit 0) (kP (qY k nm ix l k2 nm2 ix2 l2) (Int.ofNat i) ca) (by kernel_rfl) (by kernel_rfl) ⟨rfl,i,?_⟩;rw[hI]
  | true=>
   have hle:=hlen (hz2 rfl);have hu:l2[i]?=some l2[i]:=List.getElem?_eq_getElem (by omega);have hmu:l2[i]∈l2:=List.getElem_mem _;generalize l2[i]=u at hu hmu;have hc:=ih t hm u hmu;have hat:mT l l2 c0 (i+1)=nS t u:=by simp only[mT,ht,hu]
   have hnew:fin=(match aP (mT l l2 c0 (i+1)) 0 with|true=>qN (l.drop (i+1)) (l2.drop (i+1))|false=>mT l l2 c0 (i+1)):=by
    rw[hI,hat];show qN (l.drop i) (l2.drop i)=_;rw[iL ht,iL hu,qN]
   have hz3:=hz2 rfl;rw[hat] at hnew;have e:lm (fun s=>s=(oO (qY k nm ix l k2 nm2 ix2 l2) (Int.ofNat (i+1)) (mT l l2 c0 (i+1))).aw Tryz.f121.ntmps/\(0 < i+1->aP c0 0=true)/\fin=(match aP (mT l l2 c0 (i+1)) 0 with|true=>qN (l.drop (i+1)) (l2.drop (i+1))|false=>mT l l2 c0 (i+1)))
     (fun e s=>e=.exit 0/\∃i:Nat,s=(kP (qY k nm ix l k2 nm2 ix2 l2) (Int.ofNat i) fin).aw Tryz.f121.ntmps) .normal ((oO (qY k nm ix l k2 nm2 ix2 l2) (aH .i64 (Int.ofNat i+1)) (nS t u)).aw Tryz.f121.ntmps):=by
    rw[hw,hat];exact⟨rfl,fun _=>hz3,hnew⟩
   generalize nS t u=cc at hc e;have hx1:=jZ ht;have hx2:=jZ hu;clear ih hlen hI hat hnew hz hz2 hu hmu ht hm;obtain⟨k3,nm3,ix3,a3⟩:=t;obtain⟨k4,nm4,ix4,a4⟩:=u
   rcases a3 with _|⟨b3,d3⟩ <;> rcases a4 with _|⟨b4,d4⟩ <;>
   ·refine aC [32,38] [45,50] (H:=po) (live:=nD) (by kernel_rfl) ?_;refine ob hcz ?_;refine bp (b:=true) (bA hi) (by kernel_rfl) ?_;refine oo hx1 ?_;refine oo hx2 ?_;refine on hc ?_;exact cj (ex:=.normal) (oO (qY k nm ix l k2 nm2 ix2 l2) (aH .i64 (Int.ofNat i+1)) cc) (by kernel_rfl) (by kernel_rfl) e
 rintro⟨hz,hI⟩;generalize hca:mT l l2 c0 (au l).length=ca at hI;generalize hcz:aP ca 0=cz at hI;refine aC [32,38] [45,50] (H:=po) (live:=nD) (by kernel_rfl) ?_;refine ob hcz ?_
 cases cz with
 | false=>
  refine cj (ex:=.exit 0) (kP (qY k nm ix l k2 nm2 ix2 l2) (Int.ofNat (au l).length) ca) (by kernel_rfl) (by kernel_rfl) ⟨rfl,(au l).length,?_⟩;rw[hI]
 | true=>
  have h0:ca=fin:=by
   rw[hI,aF,List.drop_length];exact pE hcz
  refine bp (b:=false) (bC (i:=(au l).length) (L:=(au l).length) (by omega)) (by kernel_rfl) ?_;refine cj (ex:=.exit 0) (kP (qY k nm ix l k2 nm2 ix2 l2) (Int.ofNat (au l).length) ca) (by kernel_rfl) (by kernel_rfl) ⟨rfl,(au l).length,?_⟩;rw[h0]
def jY (k:Int) (nm:List UInt8) (ix:Int) (a:ap) (k2:Int) (nm2:List UInt8) (ix2:Int) (a2:ap):Heap:=[(.loc 3,.cells [iv k2,.dat (sb nm2),iv ix2,.dat a2]),(.loc 2,.cells [iv k,.dat (sb nm),iv ix,.dat a])]
theorem Mq (k:Int) (nm:List UInt8) (ix:Int) (k2:Int) (nm2:List UInt8) (ix2:Int) (a2:ap) (ha:a2=nl∨∃es,a2=.slice es) (c0:Int) :
  KD (.loop (roundOf Tryz.f121 0)) (fun e s=>e=.exit 0/\∃i:Nat,s=(kP (jY k nm ix nl k2 nm2 ix2 a2) (Int.ofNat i) c0).aw Tryz.f121.ntmps) ((oO (jY k nm ix nl k2 nm2 ix2 a2) (Int.ofNat 0) c0).aw Tryz.f121.ntmps):=by
 refine bb (St:=fun _=>(oO (jY k nm ix nl k2 nm2 ix2 a2) (Int.ofNat 0) c0).aw Tryz.f121.ntmps) 0 (fun i hi=>absurd hi (Nat.not_lt_zero i)) ?_ (i:=0) (Nat.le_refl _);generalize hcz:aP c0 0=cz
 rcases ha with rfl|⟨es,rfl⟩ <;>
 ·refine aC [32,38] [45,50] (H:=po) (live:=nD) (by kernel_rfl) ?_;refine ob hcz ?_
  cases cz with
  | false=>exact cj (ex:=.exit 0) (kP (jY k nm ix nl k2 nm2 ix2 _) (Int.ofNat 0) c0) (by kernel_rfl) (by kernel_rfl) ⟨rfl,0,rfl⟩
  | true=>
   refine bp (b:=false) (c:=bq (Int.ofNat 0) (Int.ofNat 0)) rfl (by kernel_rfl) ?_;exact cj (ex:=.exit 0) (kP (jY k nm ix nl k2 nm2 ix2 _) (Int.ofNat 0) c0) (by kernel_rfl) (by kernel_rfl) ⟨rfl,0,rfl⟩
theorem XU (k:Int) (nm:List UInt8) (ix:Int) (es:List ap) (k2:Int) (nm2:List UInt8) (ix2:Int) (c0:Int) (hcz:aP c0 0=false) :
  KD (.loop (roundOf Tryz.f121 0)) (fun e s=>e=.exit 0/\∃i:Nat,s=(kP (jY k nm ix (.slice es) k2 nm2 ix2 nl) (Int.ofNat i) c0).aw Tryz.f121.ntmps) ((oO (jY k nm ix (.slice es) k2 nm2 ix2 nl) (Int.ofNat 0) c0).aw Tryz.f121.ntmps):=by
 refine bb (St:=fun _=>(oO (jY k nm ix (.slice es) k2 nm2 ix2 nl) (Int.ofNat 0) c0).aw Tryz.f121.ntmps) 0 (fun i hi=>absurd hi (Nat.not_lt_zero i)) ?_ (i:=0) (Nat.le_refl _);refine aC [32,38] [45,50] (H:=po) (live:=nD) (by kernel_rfl) ?_;refine ob hcz ?_;exact cj (ex:=.exit 0) (kP (jY k nm ix (.slice es) k2 nm2 ix2 nl) (Int.ofNat 0) c0) (by kernel_rfl) (by kernel_rfl) ⟨rfl,0,rfl⟩
theorem EV {k:Int} {nm:List UInt8} {ix:Int} {a:ap} {k2:Int} {nm2:List UInt8} {ix2:Int} {a2:ap} (ha:a=nl∨∃es,a=.slice es) (ha2:a2=nl∨∃es,a2=.slice es) {n m:Nat} {r:Int}
  (hn:a=nl/\n=0∨∃es,a=.slice es/\n=es.length) (hm:a2=nl/\m=0∨∃es,a2=.slice es/\m=es.length)
  (hl:KD (.loop (roundOf Tryz.f121 0)) (fun e s=>e=.exit 0/\∃i:Nat,s=(kP (jY k nm ix a k2 nm2 ix2 a2) (Int.ofNat i) r).aw Tryz.f121.ntmps)
   ((oO (jY k nm ix a k2 nm2 ix2 a2) (Int.ofNat 0) (BF [fG k k2,pJ nm nm2,fG ix ix2,fG (Int.ofNat n) (Int.ofNat m)])).aw Tryz.f121.ntmps)) :
  ag 121 [.dat (.agg [i64 k,sb nm,i64 ix,a]),.dat (.agg [i64 k2,sb nm2,i64 ix2,a2])] (iv r):=by
 have h1:=Kw k k2;have h2:=acM nm nm2;have h3:=Kw ix ix2;have h4:=Kw (Int.ofNat n) (Int.ofNat m);generalize fG k k2=x1 at h1 hl;generalize pJ nm nm2=x2 at h2 hl;generalize fG ix ix2=x3 at h3 hl;generalize fG (Int.ofNat n) (Int.ofNat m)=x4 at h4 hl;have h5:=agr x1 x2 x3 x4;generalize BF [x1,x2,x3,x4]=c0 at h5 hl;clear ha ha2
 rcases hn with⟨rfl,rfl⟩|⟨es,rfl,rfl⟩ <;> rcases hm with⟨rfl,rfl⟩|⟨es2,rfl,rfl⟩ <;>
 ·refine co [] [] (x:=.of Tryz.f121 D1 nD) ?_;refine on h1 ?_;refine on h2 ?_;refine on h3 ?_;refine on h4 ?_;refine on h5 ?_;refine iD (n:=Tryz.f121.ntmps) (c:=roundOf Tryz.f121 0) (f:=oO (jY k nm ix _ k2 nm2 ix2 _) (Int.ofNat 0) c0) (by kernel_rfl) (by kernel_rfl) hl ?_;rintro ex s ⟨rfl,i,rfl⟩;exact⟨_,rfl,bh (by kernel_rfl) rfl⟩
theorem ET {k:Int} {nm:List UInt8} {ix:Int} {l:List Ty} {k2:Int} {nm2:List UInt8} {ix2:Int} {l2:List Ty} (ih:∀t∈l,∀u∈l2,ag 121 [.dat t.enc,.dat u.enc] (iv (nS t u))) (hb:l.length < 1000000000) :
  ag 121 [.dat (Ty.mk k nm ix l).enc,.dat (Ty.mk k2 nm2 ix2 l2).enc] (iv (nS (.mk k nm ix l) (.mk k2 nm2 ix2 l2))):=by
 rw[nS]
 cases l with
 | nil=>
  have hr:(match aP (BF [fG k k2,pJ nm nm2,fG ix ix2,fG (Int.ofNat (au []).length) (Int.ofNat (au l2).length)]) 0 with|true=>qN [] l2|false=>BF [fG k k2,pJ nm nm2,fG ix ix2,fG (Int.ofNat (au []).length) (Int.ofNat (au l2).length)])=BF [fG k k2,pJ nm nm2,fG ix ix2,fG (Int.ofNat (au []).length) (Int.ofNat (au l2).length)]:=by
   split
   ·rename_i h;rw[pE h,qN];simp
   rfl
  rw[hr]
  cases l2 with
  | nil=>exact EV (a:=nl) (a2:=nl) (n:=0) (m:=0) (.inl rfl) (.inl rfl) (.inl ⟨rfl,rfl⟩) (.inl ⟨rfl,rfl⟩) (Mq k nm ix k2 nm2 ix2 nl (.inl rfl) _)
  | cons u v=>exact EV (a:=nl) (a2:=.slice (au (u::v))) (n:=0) (m:=(au (u::v)).length) (.inl rfl) (.inr ⟨_,rfl⟩) (.inl ⟨rfl,rfl⟩) (.inr ⟨_,rfl,rfl⟩) (Mq k nm ix k2 nm2 ix2 _ (.inr ⟨_,rfl⟩) _)
 | cons t r=>
  cases l2 with
  | nil=>
   have hcz:aP (BF [fG k k2,pJ nm nm2,fG ix ix2,fG (Int.ofNat (au (t::r)).length) (Int.ofNat (au []).length)]) 0=false:=by
    rw[Bool.eq_false_iff];intro h
    have:=AB (l:=t::r) (l2:=[]) h
    simp at this
   rw[hcz];exact EV (a:=.slice (au (t::r))) (a2:=nl) (n:=(au (t::r)).length) (m:=0) (.inr ⟨_,rfl⟩) (.inl rfl) (.inr ⟨_,rfl,rfl⟩) (.inl ⟨rfl,rfl⟩) (XU k nm ix _ k2 nm2 ix2 _ hcz)
  | cons u v=>
   exact EV (a:=.slice (au (t::r))) (a2:=.slice (au (u::v))) (n:=(au (t::r)).length) (m:=(au (u::v)).length) (.inr ⟨_,rfl⟩) (.inr ⟨_,rfl⟩) (.inr ⟨_,rfl,rfl⟩) (.inr ⟨_,rfl,rfl⟩)
    (T5 (l:=t::r) (l2:=u::v) (fun h=>AB (l:=t::r) (l2:=u::v) h) ih hb)
mutual
theorem Bg:∀(t u:Ty),t.thin->ag 121 [.dat t.enc,.dat u.enc] (iv (nS t u))
 | .mk k nm ix l,.mk k2 nm2 ix2 l2,h=>by
  simp only[Ty.thin] at h;exact ET (fun t ht u _=>xp l h.2 t ht u) h.1
theorem xp:∀(l:List Ty),fT l->∀t∈l,∀u:Ty,ag 121 [.dat t.enc,.dat u.enc] (iv (nS t u))
 | [],_,t,ht,_=>by simp at ht
 | x::r,h,t,ht,u=>by
  simp only[fT] at h
  rcases List.mem_cons.1 ht with h1|ht
  ·rw[h1];exact Bg x u h.1
  exact xp r h.2 t ht u
end
def N6 (t u:Ty):Bool:=aP (nS t u) 0
theorem Ui (t u:Ty) (h:t.thin):ag 91 [.dat t.enc,.dat u.enc] (bv (N6 t u)):=by
 have hc:=Bg t u h;unfold N6;generalize nS t u=c at hc;generalize hcz:aP c 0=cz;clear h;obtain⟨k3,nm3,ix3,a3⟩:=t;obtain⟨k4,nm4,ix4,a4⟩:=u
 rcases a3 with _|⟨b3,d3⟩ <;> rcases a4 with _|⟨b4,d4⟩ <;>
 ·refine co [8] [] (x:=.of Tryz.f91 QK Sv) ?_;refine on hc ?_;refine ob hcz ?_
  cases cz <;> exact fi
theorem Mx (t u:Ty) (h:t.size < 1000000000):ag 91 [.dat t.enc,.dat u.enc] (bv (N6 t u)):=Ui t u (nf t h)
def QH:List Ty->ac
 | []=>.dat nl
 | t::r=>.own (au (t::r))
theorem TE {l:List Ty} {d:ap} (h:d∈au l):∃t,d=Ty.enc t:=by
 rw[pF] at h;obtain⟨t,_,rfl⟩:=List.mem_map.1 h;exact⟨t,rfl⟩
theorem Hw (a b:List Ty):au (a++b)=au a++au b:=by simp[pF]
theorem Oc (t:Ty):t.enc.cells.length=4:=by cases t;rfl
theorem AX (l:List Ty):sizedB 4 (au l)=true:=ig (fun d hd=>by obtain⟨t,rfl⟩:=TE hd;exact Oc t)
theorem Kg (l:List Ty):ew (au l)=false:=by
 cases l with
 | nil=>rfl
 | cons t r=>cases t;rfl
theorem UC {pre:List Ty} {t:Ty} (hl:pre.length < 1000000000):cJ (env ay.aN) false 30 [.own (au pre),.dat (.slice [t.enc])] none=some ⟨.own (au (pre++[t])),.keep⟩:=by
 rw[Hw];refine qF (i:=tiT) (ds:=[t.enc]) (k:=3) O4 rfl yK ?_ ?_ (by kernel_rfl) ?_ ?_ ?_ (by simp)
 ·exact AX [t]
 ·exact AX pre
 ·have h1:tiT.bytes<=1000:=fe (by kernel_rfl);rw[aF]
  calc (pre.length+1)*tiT.bytes<=1000000000*1000:=Nat.mul_le_mul (by omega) h1
   _<=140737488355328:=by decide
 ·rw[aF];simp[lim];omega
 unfold fQ;rw[show au pre++[t.enc]=au (pre++[t]) by rw[Hw];rfl,Kg]
theorem dC {α:Type} {l:List α} {i:Nat} {t:α} (h:l[i]?=some t):l.take (i+1)=l.take i++[t]:=by rw[List.take_add_one,h];rfl
noncomputable def Tc:Hints:=⟨ao,DY,aq,rowsOf aq 125⟩
def LL (k:Int) (nm:List UInt8) (ix:Int) (pre:List Ty):Heap:=[(.loc 3,.cells [iv k,.dat (sb nm),iv ix,QH pre]),(.loc 2,.cells [iv 0,.dat (sb []),iv 0,.dat nl])]
def sN (k:Int) (nm:List UInt8) (ix:Int) (es:List ap) (pre:List Ty) (i:Int):ab:=⟨[(11,iv i),(10,iv (Int.ofNat es.length)),(9,.dat (.slice es)),(3,.ptr (.loc 3) 0),(2,.ptr (.loc 2) 0)],LL k nm ix pre,[],0⟩
def FE (k:Int) (nm:List UInt8) (ix:Int) (es:List ap) (pre:List Ty) (i:Int):ab:=⟨[(12,bv false),(11,iv i),(10,iv (Int.ofNat es.length)),(9,.dat (.slice es)),(3,.ptr (.loc 3) 0),(2,.ptr (.loc 2) 0)],LL k nm ix pre,[],0⟩
theorem HK {k:Int} {nm:List UInt8} {ix:Int} {l pre:List Ty} {i:Nat} {t:Ty} (hi:i < (au l).length) (ht:l[i]?=some t) (hc:ag 125 [.dat t.enc] (.dat t.enc)) (hp:pre.length < 1000000000) {T:Exit->aa->Prop}
  (e:T .normal ((sN k nm ix (au l) (pre++[t]) (aH .i64 (Int.ofNat i+1))).aw Tryz.f125.ntmps)) :
  KD (roundOf Tryz.f125 0) T ((sN k nm ix (au l) pre (Int.ofNat i)).aw Tryz.f125.ntmps):=by
 have h1:=bA hi;have h2:=jZ ht;have h3:=UC (t:=t) hp;clear ht hi hp
 rcases pre with _|⟨d,r⟩ <;>
 ·refine aC [12] [13,20] (H:=Tc) (live:=yl) (by kernel_rfl) ?_;refine ob h1 ?_;refine oo h2 ?_;obtain⟨v0,v1,v2,v3⟩:=t
  rcases v3 with _|⟨v4,v5⟩ <;>
  ·refine on hc ?_;refine oo h3 ?_;exact oe e
theorem Kq {k:Int} {nm:List UInt8} {ix:Int} {l pre:List Ty} {T:Exit->aa->Prop}
  (e:T (.exit 0) ((FE k nm ix (au l) pre (Int.ofNat (au l).length)).aw Tryz.f125.ntmps)) :
  KD (roundOf Tryz.f125 0) T ((sN k nm ix (au l) pre (Int.ofNat (au l).length)).aw Tryz.f125.ntmps):=by
 have h1:=bC (i:=(au l).length) (L:=(au l).length) (by omega)
 rcases pre with _|⟨d,r⟩ <;>
 ·refine aC [12] [] (H:=Tc) (live:=yl) (by kernel_rfl) ?_;refine ob h1 ?_;exact oe e
theorem T6 {k:Int} {nm:List UInt8} {ix:Int} {b:Ty} {d:List Ty} (ih:∀t∈b::d,ag 125 [.dat t.enc] (.dat t.enc)) (hb:(b::d).length < 1000000000) :
  ag 125 [.dat (Ty.mk k nm ix (b::d)).enc] (.dat (Ty.mk k nm ix (b::d)).enc):=by
 have hl:KD (.loop (roundOf Tryz.f125 0)) (fun e s=>e=.exit 0/\s=(FE k nm ix (au (b::d)) (b::d) (Int.ofNat (au (b::d)).length)).aw Tryz.f125.ntmps)
   ((sN k nm ix (au (b::d)) [] (Int.ofNat 0)).aw Tryz.f125.ntmps):=by
  refine bb (St:=fun i=>(sN k nm ix (au (b::d)) ((b::d).take i) (Int.ofNat i)).aw Tryz.f125.ntmps) (au (b::d)).length ?_ ?_ (i:=0) (Nat.zero_le _)
  ·intro i hi;obtain⟨t,ht,hm⟩:=get_mem hi;refine HK hi ht (ih t hm) (by simp at hb ⊢;omega) ?_;rw[aF] at hi;rw[bg (by omega),←dC ht];rfl
  refine Kq ⟨rfl,?_⟩;rw[aF,List.take_length]
 clear ih hb;refine co [] [] (x:=.of Tryz.f125 DY yl) ?_;refine lo hl ?_;rintro ex s ⟨rfl,rfl⟩;refine⟨_,rfl,?_⟩;exact fi
theorem Ou {k:Int} {nm:List UInt8} {ix:Int}:ag 125 [.dat (Ty.mk k nm ix []).enc] (.dat (Ty.mk k nm ix []).enc):=br _ _ _ _ _ (by kernel_rfl)
mutual
theorem HU:∀t:Ty,t.thin->ag 125 [.dat t.enc] (.dat t.enc)
 | .mk k nm ix [],_=>Ou
 | .mk k nm ix (t::r),h=>by
  simp only[Ty.thin] at h;exact T6 (Dc (t::r) h.2) h.1
theorem Dc:∀l:List Ty,fT l->∀t∈l,ag 125 [.dat t.enc] (.dat t.enc)
 | [],_,t,ht=>by simp at ht
 | u::r,h,t,ht=>by
  simp only[fT] at h
  rcases List.mem_cons.1 ht with h1|ht
  ·rw[h1];exact HU u h.1
  exact Dc r h.2 t ht
end
def instAt (ls:List Ty) (ix:Int) (u:Nat):Option Ty:=match bq ix (Int.ofNat u) with
 | true=>none
 | false=>ls[(ix - Int.ofNat u).toNat]?
mutual
def Ty.inst (ls:List Ty):Ty->Nat->Ty
 | .mk k nm ix args,u=>match aP k 5,instAt ls ix u with
  | true,some t=>t
  | _,_=>.mk k nm ix (instL ls k 0 args u)
def instL (ls:List Ty) (k:Int):Nat->List Ty->Nat->List Ty
 | _,[],_=>[]
 | i,t::r,u=>t.inst ls (u+db k i)::instL ls k (i+1) r u
end
theorem yE {u j:Nat} (h:u+j < 9223372036854775808):aH .i64 (Int.ofNat (u+j) - Int.ofNat u)=Int.ofNat j:=by
 rw[dP];rw[show (Int.ofNat (u+j) - Int.ofNat u:Int)=Int.ofNat j by simp;omega];exact wrap_i64 (by simp <;> omega) (by simp <;> omega)
def aag:ap:=.flat (.pointer none)
theorem inst1_lo {ls:List Ty} {ix:Int} {u:Nat} (h:bq ix (Int.ofNat u)=true):ag 95 [iv ix,iv (Int.ofNat u),.ref [sl (au ls)]] (.tup [.dat aag,iv ix]):=by
 refine co [13] [] (x:=.of Tryz.f95 Gn Ee) ?_;refine ox h ?_;exact fi
theorem inst1_hi {ls:List Ty} {j:Nat} {u:Nat} (hb:u+j < 1000000000) (h:¬j < (au ls).length):ag 95 [iv (Int.ofNat (u+j)),iv (Int.ofNat u),.ref [sl (au ls)]] (.tup [.dat aag,iv (Int.ofNat (u+j))]):=by
 have h1:=bC (i:=u+j) (L:=u) (by omega);have h2:=bC h;have h4:bq (aH .i64 (Int.ofNat (u+j) - Int.ofNat u)) (Int.ofNat (au ls).length)=false:=by rw[yE (by omega)];exact h2
 clear h;refine co [13,18] [] (x:=.of Tryz.f95 Gn Ee) ?_;refine ox h1 ?_
 rcases ls with _|⟨v0,v1⟩ <;>
 ·refine ob h4 ?_;exact fi
theorem inst1_in {ls:List Ty} {j:Nat} {u:Nat} {t:Ty} (hb:u+j < 1000000000) (h:ls[j]?=some t):ag 95 [iv (Int.ofNat (u+j)),iv (Int.ofNat u),.ref [sl (au ls)]] (.tup [.ref t.cells,iv 0]):=by
 have h1:=bC (i:=u+j) (L:=u) (by omega);have hj:j < (au ls).length:=by rw[aF];exact (List.getElem?_eq_some_iff.1 h).1
 have h2:=bA hj;have h4:bq (aH .i64 (Int.ofNat (u+j) - Int.ofNat u)) (Int.ofNat (au ls).length)=true:=by rw[yE (by omega)];exact h2
 have h5:aK (env ay.aN) 30 [.dat (.slice (au ls)),.dat (.flat (.int .i64 (aH .i64 (Int.ofNat (u+j) - Int.ofNat u))))]=some ⟨.ref t.cells,.keep⟩:=by rw[yE (by omega)];exact jZ h
 clear h hj;refine co [13,18] [22] (x:=.of Tryz.f95 Gn Ee) ?_;refine ox h1 ?_
 rcases ls with _|⟨v0,v1⟩ <;>
 ·refine ob h4 ?_;refine oo h5 ?_;exact fi
noncomputable def Y4:Hints:=⟨ao,Gp,aq,rowsOf aq 94⟩
def px (ls:List Ty):ac:=.fn (.func 95) [] [.ref [sl (au ls)]]
def Ss (k:Int) (nm:List UInt8) (ix:Int) (a:ap) (pre:List Ty):Heap:=[(.loc 7,.cells [iv k,.dat (sb nm),iv ix,QH pre]),(.loc 6,.cells [iv 0,.dat (sb []),iv 0,.dat nl]),(.loc 3,.cells [iv k,.dat (sb nm),iv ix,.dat a])]
def uT (ls:List Ty) (u:Nat) (k:Int) (nm:List UInt8) (ix:Int) (a:ap) (n:Nat) (pre:List Ty) (i:Int):ab:=⟨[(36,iv i),(35,iv (Int.ofNat n)),(34,.dat a),(7,.ptr (.loc 7) 0),(6,.ptr (.loc 6) 0),(3,.ptr (.loc 3) 0),(1,iv (Int.ofNat u)),(2,px ls)],Ss k nm ix a pre,[],0⟩
def Dx (ls:List Ty) (u:Nat) (k:Int) (nm:List UInt8) (ix:Int) (a:ap) (n:Nat) (pre:List Ty) (i:Int):ab:=⟨[(37,bv false),(36,iv i),(35,iv (Int.ofNat n)),(34,.dat a),(7,.ptr (.loc 7) 0),(6,.ptr (.loc 6) 0),(3,.ptr (.loc 3) 0),(1,iv (Int.ofNat u)),(2,px ls)],Ss k nm ix a pre,[],0⟩
theorem IM {ls:List Ty} {u:Nat} {k:Int} {nm:List UInt8} {ix:Int} {l pre:List Ty} {i:Nat} {t t2:Ty} (hi:i < (au l).length) (ht:l[i]?=some t) (hc:ag 94 [.dat t.enc,iv (aH .i64 (Int.ofNat u+Int.ofNat (db k i))),px ls] (.dat t2.enc)) (hp:pre.length < 1000000000) {T:Exit->aa->Prop}
  (e:T .normal ((uT ls u k nm ix (.slice (au l)) (au l).length (pre++[t2]) (aH .i64 (Int.ofNat i+1))).aw Tryz.f94.ntmps)) :
  KD (roundOf Tryz.f94 0) T ((uT ls u k nm ix (.slice (au l)) (au l).length pre (Int.ofNat i)).aw Tryz.f94.ntmps):=by
 have h1:=bA hi;have h2:=jZ ht;have h3:=UC (t:=t2) hp;have h4:=vT k nm ix (.slice (au l)) (.inr ⟨_,rfl⟩) i;clear ht hi hp
 rcases pre with _|⟨d,r⟩ <;>
 ·refine aC [37] [39,52] (H:=Y4) (live:=Ak) (by kernel_rfl) ?_;refine ob h1 ?_;refine oo h2 ?_;obtain⟨v0,v1,v2,v3⟩:=t
  rcases v3 with _|⟨v8,v9⟩
  ·refine on h4 ?_;refine on hc ?_;obtain⟨v4,v5,v6,v7⟩:=t2;refine oo h3 ?_;exact oe e
  refine on h4 ?_;refine on hc ?_;obtain⟨v10,v11,v12,v13⟩:=t2;refine oo h3 ?_;exact oe e
theorem Nc {ls:List Ty} {u:Nat} {k:Int} {nm:List UInt8} {ix:Int} {a:ap} {n:Nat} {pre:List Ty} {T:Exit->aa->Prop}
  (e:T (.exit 0) ((Dx ls u k nm ix a n pre (Int.ofNat n)).aw Tryz.f94.ntmps)) :
  KD (roundOf Tryz.f94 0) T ((uT ls u k nm ix a n pre (Int.ofNat n)).aw Tryz.f94.ntmps):=by
 have h1:=bC (i:=n) (L:=n) (by omega)
 rcases pre with _|⟨d,r⟩ <;>
 ·refine aC [37] [] (H:=Y4) (live:=Ak) (by kernel_rfl) ?_;refine ob h1 ?_;exact oe e
mutual
def Ty.dR:Ty->Prop
 | .mk k _ ix args=>(aP k 5=true->bq ix 100=true)/\cV args
def cV:List Ty->Prop
 | []=>True
 | t::r=>t.dR/\cV r
end
theorem instL_get {ls:List Ty} {k:Int} {u:Nat}:∀{l:List Ty} {i j:Nat} {t:Ty},l[i]?=some t->(instL ls k j l u)[i]?=some (t.inst ls (u+db k (j+i)))
 | [],i,j,t,h=>by simp at h
 | x::r,0,j,t,h=>by simp at h;subst h;simp[instL]
 | x::r,i+1,j,t,h=>by
  simp only[instL,List.getElem?_cons_succ] at h ⊢;rw[instL_get h,show j+1+i=j+(i+1) by omega]
theorem instL_length {ls:List Ty} {k:Int} {u:Nat}:∀{l:List Ty} {j:Nat},(instL ls k j l u).length=l.length
 | [],_=>by simp[instL]
 | x::r,_=>by simp[instL,instL_length]
theorem Uv (k:Int) (i:Nat):db k i<=1:=by unfold db;split <;> omega
theorem Nb {ls:List Ty} {u:Nat} {k:Int} {nm:List UInt8} {ix:Int} {l:List Ty} {a:ap} (ha:a=sl (au l)) (hu:u < 1000000000000000) (hb:l.length < 1000000000)
  (ih:∀t∈l,∀v,v<=u+1->ag 94 [.dat t.enc,iv (Int.ofNat v),px ls] (.dat (t.inst ls v).enc)) :
  KD (.loop (roundOf Tryz.f94 0)) (fun e s=>e=.exit 0/\s=(Dx ls u k nm ix a (au l).length (instL ls k 0 l u) (Int.ofNat (au l).length)).aw Tryz.f94.ntmps)
   ((uT ls u k nm ix a (au l).length [] (Int.ofNat 0)).aw Tryz.f94.ntmps):=by
 refine bb (St:=fun i=>(uT ls u k nm ix a (au l).length ((instL ls k 0 l u).take i) (Int.ofNat i)).aw Tryz.f94.ntmps) (au l).length ?_ ?_ (i:=0) (Nat.zero_le _)
 ·intro i hi;obtain⟨t,ht,hm⟩:=get_mem hi;have hbn:=Uv k i;have hg:=instL_get (ls:=ls) (k:=k) (u:=u) (j:=0) ht;rw[Nat.zero_add] at hg;have ha2:a=.slice (au l):=by
   rw[ha]
   cases l with
   | nil=>simp at ht
   | cons x r=>rfl
  subst ha2;refine IM (t2:=t.inst ls (u+db k i)) hi ht ?_ (by rw[List.length_take,instL_length];omega) ?_
  ·rw[wrap_add (by omega)];exact ih t hm _ (by omega)
  rw[aF] at hi;rw[bg (by omega),←dC hg];rfl
 refine Nc ⟨rfl,?_⟩;rw[aF,show l.length=(instL ls k 0 l u).length by rw[instL_length],List.take_length]
theorem va {ls:List Ty} {u:Nat} {k:Int} {nm:List UInt8} {ix:Int} {l:List Ty} {ck:Bool} (hk:aP k 5=ck) (hc:ck=true->ag 95 [iv ix,iv (Int.ofNat u),.ref [sl (au ls)]] (.tup [.dat aag,iv ix])) {r:List Ty}
  (hl:KD (.loop (roundOf Tryz.f94 0)) (fun e s=>e=.exit 0/\s=(Dx ls u k nm ix (sl (au l)) (au l).length r (Int.ofNat (au l).length)).aw Tryz.f94.ntmps)
   ((uT ls u k nm ix (sl (au l)) (au l).length [] (Int.ofNat 0)).aw Tryz.f94.ntmps)) :
  ag 94 [.dat (Ty.mk k nm ix l).enc,iv (Int.ofNat u),px ls] (.dat (Ty.mk k nm ix r).enc):=by
 refine co [16] [] (x:=.of Tryz.f94 Gp Ak) ?_
 rcases l with _|⟨v4,v5⟩
 ·refine ob hk ?_
  cases ck
  ·refine lo hl ?_;rintro ex s ⟨rfl,rfl⟩;refine⟨_,rfl,?_⟩
   rcases r with _|⟨v2,v3⟩ <;>
   ·exact fi
  refine on (hc rfl) ?_;refine lo hl ?_;rintro ex s ⟨rfl,rfl⟩;refine⟨_,rfl,?_⟩
  rcases r with _|⟨v0,v1⟩ <;>
  ·exact fi
 refine ob hk ?_
 cases ck
 ·refine lo hl ?_;rintro ex s ⟨rfl,rfl⟩;refine⟨_,rfl,?_⟩
  rcases r with _|⟨v8,v9⟩ <;>
  ·exact fi
 refine on (hc rfl) ?_;refine lo hl ?_;rintro ex s ⟨rfl,rfl⟩;refine⟨_,rfl,?_⟩
 rcases r with _|⟨v6,v7⟩ <;>
 ·exact fi
theorem Na {ls:List Ty} {u:Nat} {k:Int} {nm:List UInt8} {ix:Int} {l:List Ty} {t:Ty} (hk:aP k 5=true) (hc:ag 95 [iv ix,iv (Int.ofNat u),.ref [sl (au ls)]] (.tup [.ref t.cells,iv 0])) (hcl:ag 125 [.dat t.enc] (.dat t.enc)) :
  ag 94 [.dat (Ty.mk k nm ix l).enc,iv (Int.ofNat u),px ls] (.dat t.enc):=by
 refine co [16] [] (x:=.of Tryz.f94 Gp Ak) ?_
 rcases l with _|⟨v6,v7⟩
 ·refine ob hk ?_;refine on hc ?_;obtain⟨v0,v1,v2,v3⟩:=t;refine on hcl ?_
  rcases v3 with _|⟨v4,v5⟩ <;>
  ·exact fi
 refine ob hk ?_;refine on hc ?_;obtain⟨v8,v9,v10,v11⟩:=t;refine on hcl ?_
 rcases v11 with _|⟨v12,v13⟩ <;>
 ·exact fi
theorem instAt_lo {ls:List Ty} {ix:Int} {u:Nat} (h:bq ix (Int.ofNat u)=true):instAt ls ix u=none:=by unfold instAt;rw[h]
theorem instAt_at {ls:List Ty} {u j:Nat}:instAt ls (Int.ofNat (u+j)) u=ls[j]?:=by
 unfold instAt;rw[bC (by omega)];show ls[(Int.ofNat (u+j) - Int.ofNat u).toNat]?=_;rw[show (Int.ofNat (u+j) - Int.ofNat u:Int)=Int.ofNat j by simp;omega];rfl
theorem inst_none {ls:List Ty} {k:Int} {nm:List UInt8} {ix:Int} {l:List Ty} {u:Nat} (h:aP k 5=false∨instAt ls ix u=none):(Ty.mk k nm ix l).inst ls u=.mk k nm ix (instL ls k 0 l u):=by
 rw[Ty.inst]
 rcases h with h|h
 ·rw[h]
 rw[h];cases aP k 5 <;> rfl
theorem inst_some {ls:List Ty} {k:Int} {nm:List UInt8} {ix:Int} {l:List Ty} {u:Nat} {t:Ty} (hk:aP k 5=true) (h:instAt ls ix u=some t):(Ty.mk k nm ix l).inst ls u=t:=by
 rw[Ty.inst,hk,h]
theorem NA {ix:Int} {u:Nat} (h:bq ix (Int.ofNat u)=false) (h2:bq ix 100=true):∃j:Nat,ix=Int.ofNat (u+j)/\u+j < 100:=by
 rw[gr] at h h2;simp only[decide_eq_false_iff_not,decide_eq_true_eq] at h h2;refine⟨(ix - u).toNat,?_,?_⟩
 ·simp only[Int.ofNat_eq_natCast] at h ⊢;omega
 simp only[Int.ofNat_eq_natCast] at h;omega
mutual
theorem Da {ls:List Ty} (hls:∀t∈ls,ag 125 [.dat t.enc] (.dat t.enc)):∀(t:Ty) (u:Nat),t.thin->t.dR->u+t.depth < 1000000000000000->ag 94 [.dat t.enc,iv (Int.ofNat u),px ls] (.dat (t.inst ls u).enc)
 | .mk k nm ix l,u,hs,hx,hd=>by
  simp only[Ty.thin] at hs;simp only[Ty.depth] at hd;simp only[Ty.dR] at hx;have ih:=Bd hls l u hs.2 hx.2 (by omega);have hl:=Nb (ls:=ls) (u:=u) (k:=k) (nm:=nm) (ix:=ix) (l:=l) (a:=sl (au l)) rfl (by omega) hs.1 ih
  cases hk:aP k 5 with
  | false=>
   rw[inst_none (.inl hk)];exact va hk (fun h=>by simp at h) hl
  | true=>
   cases hlo:bq ix (Int.ofNat u) with
   | true=>
    rw[inst_none (.inr (instAt_lo hlo))];exact va hk (fun _=>inst1_lo hlo) hl
   | false=>
    obtain⟨j,rfl,hj⟩:=NA hlo (hx.1 hk)
    by_cases hin:j < ls.length
    ·have hg:ls[j]?=some ls[j]:=List.getElem?_eq_getElem hin;rw[inst_some hk (instAt_at.trans hg)];exact Na hk (inst1_in (by omega) hg) (hls _ (List.getElem_mem hin))
    rw[inst_none (.inr (instAt_at.trans (List.getElem?_eq_none (by omega))))];exact va hk (fun _=>inst1_hi (by omega) (by rw[aF];exact hin)) hl
theorem Bd {ls:List Ty} (hls:∀t∈ls,ag 125 [.dat t.enc] (.dat t.enc)):∀(l:List Ty) (u:Nat),fT l->cV l->u+bV l+1 < 1000000000000000->∀t∈l,∀v,v<=u+1->ag 94 [.dat t.enc,iv (Int.ofNat v),px ls] (.dat (t.inst ls v).enc)
 | [],_,_,_,_,t,ht,_,_=>by simp at ht
 | x::r,u,hs,hx,hd,t,ht,v,hv=>by
  simp only[fT] at hs;simp only[bV] at hd;simp only[cV] at hx
  rcases List.mem_cons.1 ht with h1|ht
  ·rw[h1];exact Da hls x v hs.1 hx.1 (by omega)
  exact Bd hls r u hs.2 hx.2 (by omega) t ht v hv
end
theorem Un {t:Ty} {ls:List Ty} (hls:∀t∈ls,ag 125 [.dat t.enc] (.dat t.enc)) (hs:t.thin) (hx:t.dR) (hd:t.depth < 1000000000000000):ag 60 [.dat t.enc,.dat (sl (au ls))] (.dat (t.inst ls 0).enc):=by
 have h:=Da hls t 0 hs hx (by omega);generalize t.inst ls 0=r at h;clear hls hs hx hd;refine co [] [] (x:=.of Tryz.f60 QW SH) ?_;obtain⟨v0,v1,v2,v3⟩:=t
 rcases v3 with _|⟨v18,v19⟩
 ·rcases ls with _|⟨v10,v11⟩
  ·refine on h ?_;obtain⟨v4,v5,v6,v7⟩:=r
   rcases v7 with _|⟨v8,v9⟩ <;>
   ·exact fi
  refine on h ?_;obtain⟨v12,v13,v14,v15⟩:=r
  rcases v15 with _|⟨v16,v17⟩ <;>
  ·exact fi
 rcases ls with _|⟨v26,v27⟩
 ·refine on h ?_;obtain⟨v20,v21,v22,v23⟩:=r
  rcases v23 with _|⟨v24,v25⟩ <;>
  ·exact fi
 refine on h ?_;obtain⟨v28,v29,v30,v31⟩:=r
 rcases v31 with _|⟨v32,v33⟩ <;>
 ·exact fi
mutual
theorem inst_nil:∀(t:Ty) (u:Nat),t.inst [] u=t
 | .mk k nm ix l,u=>by
  have h:instAt [] ix u=none:=by unfold instAt;split <;> simp
  rw[inst_none (.inr h),instL_nil l]
theorem instL_nil:∀(l:List Ty) {k:Int} {i u:Nat},instL [] k i l u=l
 | [],_,_,_=>by rw[instL]
 | t::r,k,i,u=>by rw[instL,inst_nil t,instL_nil r]
end
theorem uq {t:Ty} (hs:t.thin) (hx:t.dR) (hd:t.depth < 1000000000000000):ag 58 [.dat t.enc] (.dat t.enc):=by
 have h:=Un (t:=t) (ls:=[]) (fun t ht=>by simp at ht) hs hx hd;rw[inst_nil] at h;clear hs hx hd;refine co [] [] (x:=.of Tryz.f58 QX SI) ?_;obtain⟨v0,v1,v2,v3⟩:=t
 rcases v3 with _|⟨v4,v5⟩ <;>
 ·refine on h ?_;exact fi
theorem HV {t:Ty} (hs:t.size < 1000000000) (hx:t.dR) (hd:t.depth < 500000000):ag 58 [.dat t.enc] (.dat t.enc):=uq (nf t hs) hx (by omega)
structure dq where
 nm:List UInt8
 ty:Ty
structure aQ where
 nm:List UInt8
 ar:Int
 sup:Ty
 con:Bool
 fl:List dq
def bl (b:Bool):ap:=.flat (.bool b)
def dq.cells (f:dq):List ap:=sb f.nm::f.ty.cells
def dq.enc (f:dq):ap:=.agg f.cells
def aJ:List dq->List ap
 | []=>[]
 | f::r=>f.enc::aJ r
def aQ.cells (d:aQ):List ap:=sb d.nm::i64 d.ar::(d.sup.cells++[bl d.con,sl (aJ d.fl)])
def aQ.enc (d:aQ):ap:=.agg d.cells
def aQ.zero:aQ:=⟨[],0,.mk 0 [] 0 [],false,[]⟩
def av (l:List ap):List ac:=l.map .dat
def bK:List aQ->List ap
 | []=>[]
 | d::r=>d.cells++bK r
def ent (d:aQ) (i:Nat):Go.Value×ap:=(.string ⟨⟨d.nm⟩⟩,i64 (Int.ofNat i))
def bE:List aQ->Nat->List (Go.Value×ap)
 | [],_=>[]
 | d::r,i=>ent d i::bE r (i+1)
def hP:ac:=.ptr (.out 1) 0
def hG (r:Nat) (cs:List ac) (es:List (Go.Value×ap)) (n:Nat):Heap:=[(.out r,.cells cs),(.out 1,.cells [.win (.out r) 8 0 n,.map (.out 0)]),(.out 0,.map es)]
theorem jz (k:Nat):∀cs:List ap,dM k (av cs)=false
 | []=>rfl
 | d::r=>by show (dB k (.dat d)||dM k (av r))=false;rw[jz k r];rfl
theorem rD (ρ:Nat->Nat):∀cs:List ap,gD ρ (av cs)=av cs
 | []=>rfl
 | d::r=>by show fg ρ (.dat d)::gD ρ (av r)=_;rw[rD ρ r];rfl
theorem gcG {v:ac} {r m n:Nat} {cs:List ap} {es:List (Go.Value×ap)} (hv:dB m v=false) (hr:Nat.blt r m=true) (hm:Nat.blt 1 m=true):qJ m ⟨v,hG r (av cs) es n,m⟩=⟨v,hG r (av cs) es n,m⟩:=by
 have h0:Nat.blt 0 m=true:=by simp[Nat.blt_eq] at *;omega
 have hr2:Nat.ble m r=false:=by rw[Nat.blt_eq] at hr;rw[Bool.eq_false_iff,ne_eq,Nat.ble_eq];omega
 have hr3:Nat.ble m 0=false:=by rw[Nat.blt_eq] at h0;rw[Bool.eq_false_iff,ne_eq,Nat.ble_eq];omega
 have h1:eF m (hG r (av cs) es n)=hG r (av cs) es n:=by simp[eF,hG,kl,h0,hr,hm]
 have h2:cG m (hG r (av cs) es n)=false:=by simp[cG,hG,lY,jz,dM,dB,hr2,hr3]
 unfold qJ;dsimp only;rw[h1,h2,hv];rfl
def eh (nm:List UInt8) (ar k:Int) (nm2:List UInt8) (ix:Int) (la:List ap) (con:Bool) (lb:List ap):ap:=.agg [sb nm,i64 ar,i64 k,sb nm2,i64 ix,sl la,bl con,sl lb]
theorem Tq {cs:List ap} {es:List (Go.Value×ap)} {n i:Nat} {nm nm1 nm2:List UInt8} {ar k ix:Int} {con:Bool} {la lb:List ap}
  (h1:eL (env ay.aN) 80 true [.map (.out 0),.dat (sb nm)] (some (.map es))=some ⟨.tup [.dat (i64 (Int.ofNat i)),bv true],.keep⟩)
  (h2:aK (env ay.aN) 23 [.win (.out 2) 8 0 n,iv (Int.ofNat i)]=some ⟨.ptr (.out 2) (0+i*8),.keep⟩)
  (h3:lg (env ay.aN) false 35 [.ptr (.out 2) (0+i*8)] (some (.cells (av cs)))=some ⟨.dat (eh nm1 ar k nm2 ix la con lb),.keep⟩)
  : KC 49 [hP,.dat (sb nm)] (hG 2 (av cs) es n) 3 (XQ ⟨.tup [.dat (eh nm1 ar k nm2 ix la con lb),bv true],hG 2 (av cs) es n,3⟩):=by
 have hg:=gcG (v:=.tup [.dat (eh nm1 ar k nm2 ix la con lb),bv true]) (r:=2) (m:=3) (n:=n) (cs:=cs) (es:=es) rfl rfl rfl
 rcases la with _|⟨x,la⟩ <;>
 ·rcases lb with _|⟨y,lb⟩ <;>
  ·refine co [] [14,25,26] (x:=.of Tryz.f49 Lq JA) ?_;refine oo h1 ?_;refine oo h2 ?_;refine oo h3 ?_;exact bh (by kernel_rfl) hg
theorem Xy {cs:List ap} {es:List (Go.Value×ap)} {n:Nat} {nm:List UInt8} 
  (h1:eL (env ay.aN) 80 true [.map (.out 0),.dat (sb nm)] (some (.map es))=some ⟨.tup [.dat (i64 0),bv false],.keep⟩)
  : KC 49 [hP,.dat (sb nm)] (hG 2 (av cs) es n) 3 (XQ ⟨.tup [.dat aQ.zero.enc,bv false],hG 2 (av cs) es n,3⟩):=by
 have hg:=gcG (v:=.tup [.dat aQ.zero.enc,bv false]) (r:=2) (m:=3) (n:=n) (cs:=cs) (es:=es) rfl rfl rfl;refine co [] [14] (x:=.of Tryz.f49 Lq JA) ?_;refine oo h1 ?_;exact bh (by kernel_rfl) hg
def fX:List aQ->List UInt8->Option Nat
 | [],_=>none
 | d::r,nm=>match dU nm d.nm with|true=>some 0|false=>(fX r nm).map (·+1)
def aD:List aQ->List UInt8->Option aQ
 | [],_=>none
 | d::r,nm=>match dU nm d.nm with|true=>some d|false=>aD r nm
theorem jK:∀{ds:List aQ} {nm:List UInt8} {k:Nat},fX ds nm=some k->∃d,ds[k]?=some d/\aD ds nm=some d/\dU nm d.nm=true
 | [],nm,k,h=>by simp[fX] at h
 | d::r,nm,k,h=>by
  unfold fX at h;unfold aD
  cases he:dU nm d.nm with
  | true=>rw[he] at h;simp at h;subst h;exact⟨d,rfl,rfl,he⟩
  | false=>
   rw[he] at h;simp only[Option.map_eq_some_iff] at h;obtain⟨j,hj,rfl⟩:=h;exact jK hj
theorem qf:∀{ds:List aQ} {nm:List UInt8},fX ds nm=none->aD ds nm=none
 | [],nm,h=>rfl
 | d::r,nm,h=>by
  unfold fX at h;unfold aD
  cases he:dU nm d.nm with
  | true=>rw[he] at h;simp at h
  | false=>
   rw[he] at h;simp only[Option.map_eq_none_iff] at h;exact qf h
theorem mM:∀(ds:List aQ) (nm:List UInt8) (i j:Nat),findF .string (.string ⟨⟨nm⟩⟩) (bE ds i) j=some ((fX ds nm).map fun k=>(j+k,i64 (Int.ofNat (i+k))))
 | [],nm,i,j=>rfl
 | d::r,nm,i,j=>by
  show (match sV .string (.string ⟨⟨nm⟩⟩) (.string ⟨⟨d.nm⟩⟩) with|some true=>some (some (j,i64 (Int.ofNat i)))|some false=>findF .string (.string ⟨⟨nm⟩⟩) (bE r (i+1)) (j+1)|none=>none)=_;rw[show sV .string (.string ⟨⟨nm⟩⟩) (.string ⟨⟨d.nm⟩⟩)=some (dU nm d.nm) from rfl];unfold fX
  cases he:dU nm d.nm with
  | true=>rfl
  | false=>
   dsimp only;rw[mM r nm (i+1) (j+1)]
   cases fX r nm with
   | none=>rfl
   | some k=>simp only[Option.map_some];rw[show j+1+k=j+(k+1) by omega,show i+1+k=i+(k+1) by omega]
theorem NB {ds:List aQ} {nm:List UInt8} {k:Nat} (h:fX ds nm=some k):eL (env ay.aN) 80 true [.map (.out 0),.dat (sb nm)] (some (.map (bE ds 0)))=some ⟨.tup [.dat (i64 (Int.ofNat k)),bv true],.keep⟩:=by
 have h1:eL (env ay.aN) 80 true [.map (.out 0),.dat (sb nm)] (some (.map (bE ds 0)))=(match findF .string (.string ⟨⟨nm⟩⟩) (bE ds 0) 0 with
  | some (some (_,d))=>some (found true d true)|some none=>some ⟨.tup [.dat (i64 0),bv false],.keep⟩|none=>none):=by kernel_rfl
 rw[h1,mM,h];simp only[Option.map_some,Nat.zero_add];rfl
theorem ND {ds:List aQ} {nm:List UInt8} (h:fX ds nm=none):eL (env ay.aN) 80 true [.map (.out 0),.dat (sb nm)] (some (.map (bE ds 0)))=some ⟨.tup [.dat (i64 0),bv false],.keep⟩:=by
 have h1:eL (env ay.aN) 80 true [.map (.out 0),.dat (sb nm)] (some (.map (bE ds 0)))=(match findF .string (.string ⟨⟨nm⟩⟩) (bE ds 0) 0 with
  | some (some (_,d))=>some (found true d true)|some none=>some ⟨.tup [.dat (i64 0),bv false],.keep⟩|none=>none):=by kernel_rfl
 rw[h1,mM,h];rfl
theorem yq {r n k:Nat} (h:k < n):aK (env ay.aN) 23 [.win (.out r) 8 0 n,iv (Int.ofNat k)]=some ⟨.ptr (.out r) (0+k*8),.keep⟩:=by
 have h1:aK (env ay.aN) 23 [.win (.out r) 8 0 n,iv (Int.ofNat k)]=(if (Nat.blt k n&&Nat.beq 8 8)=true then some ⟨.ptr (.out r) (0+k*8),.keep⟩ else none):=by kernel_rfl
 rw[h1,if_pos];simp[Nat.blt_eq,h]
theorem jH:∀ds:List aQ,(bK ds).length=ds.length*8
 | []=>rfl
 | d::r=>by
  have:d.cells.length=8:=by obtain⟨a,b,⟨e,f,g,h⟩,i,j⟩:=d;rfl
  simp only[bK,List.length_append,this,jH r,List.length_cons];omega
theorem Cl:∀{ds:List aQ} {k:Nat} {d:aQ} {tl:List ap},ds[k]?=some d->((bK ds++tl).drop (0+k*8)).take 8=d.cells
 | [],k,d,tl,h=>by simp at h
 | x::r,k,d,tl,h=>by
  have h8:x.cells.length=8:=by obtain⟨a,b,⟨e,f,g,h⟩,i,j⟩:=x;rfl
  cases k with
  | zero=>
   simp at h;subst h;simp only[bK,Nat.zero_mul,Nat.add_zero,List.drop_zero,List.append_assoc];rw[List.take_append_of_le_length (by omega),List.take_of_length_le (by omega)]
  | succ k=>
   simp at h
   have:=Cl (tl:=tl) h
   rw[←this];simp only[bK,List.append_assoc];rw[show 0+(k+1)*8=x.cells.length+(0+k*8) by omega,List.drop_length_add_append]
theorem Fw (n:Nat):∀l:List ap,fj n (av l)=av (l.take n):=by
 intro l;induction l generalizing n with
 | nil=>cases n <;> rfl
 | cons x r ih=>cases n with|zero=>rfl|succ n=>show ac.dat x::fj n (av r)=_;rw[ih];rfl
theorem TO (n:Nat):∀l:List ap,gY n (av l)=av (l.drop n):=by
 intro l;induction l generalizing n with
 | nil=>cases n <;> rfl
 | cons x r ih=>cases n with|zero=>rfl|succ n=>show gY n (av r)=_;rw[ih];rfl
theorem GQ {ds:List aQ} {k r:Nat} {d:aQ} {tl:List ap} (h:ds[k]?=some d):lg (env ay.aN) false 35 [.ptr (.out r) (0+k*8)] (some (.cells (av (bK ds++tl))))=some ⟨.dat d.enc,.keep⟩:=by
 have h1:∀cs,lg (env ay.aN) false 35 [.ptr (.out r) (0+k*8)] (some (.cells cs))=wM (if (fj 8 (gY (0+k*8) cs)).length=8 then some (kd (bu (fj 8 (gY (0+k*8) cs)))) else none):=fun cs=>by kernel_rfl
 rw[h1,TO,Fw,Cl h];obtain⟨a,b,⟨e,f,g,i⟩,j,l⟩:=d
 rcases i with _|⟨x,i⟩ <;> rcases l with _|⟨y,l⟩ <;> rfl
def iO (o:Option aQ):aQ:=match o with|some d=>d|none=>aQ.zero
def eg {α:Type} (o:Option α):Bool:=match o with|some _=>true|none=>false
def hH (r:Nat) (ds:List aQ) (tl:List ap):Heap:=hG r (av (bK ds++tl)) (bE ds 0) ds.length
theorem nW (ds:List aQ) (tl:List ap) (nm:List UInt8):KC 49 [hP,.dat (sb nm)] (hH 2 ds tl) 3 (XQ ⟨.tup [.dat (iO (aD ds nm)).enc,bv (eg (aD ds nm))],hH 2 ds tl,3⟩):=by
 cases h:fX ds nm with
 | none=>
  rw[qf h];exact Xy (ND h)
 | some k=>
  obtain⟨d,hd,hf,_⟩:=jK h;rw[hf];have hk:k < ds.length:=by
   rcases Nat.lt_or_ge k ds.length with h|h
   ·exact h
   rw[List.getElem?_eq_none h] at hd;simp at hd
  have h3:=GQ (r:=2) (tl:=tl) hd;obtain⟨a,b,⟨e,f,g,i⟩,j,l⟩:=d;exact Tq (NB h) (yq hk) h3
theorem aB.jf {g:FuncId} {args:List ac} {heap:Heap} {next:Nat} {Q Q':ac->Heap->Nat->Prop} (h:KC g args heap next Q) (hq:∀v h m,Q v h m->∃h2,h.Perm h2/\Q' v h2 m):KC g args heap next Q':=by
 intro w R N cargs bsA bsH bsF ha hh hnd hnx hg hF;refine (h w R N cargs bsA bsH bsF ha hh hnd hnx hg hF).mono ?_;rintro e w' ⟨v,cv,h1,next',R',N',bsV,bsH',rfl,hq1,hv,hh',hnd',hnx',hk,hN⟩;obtain⟨h2,hp,hq2⟩:=hq _ _ _ hq1;obtain⟨bs2,k1,k2⟩:=hh'.perm hp;refine⟨v,cv,h2,next',R',N',bsV,bs2,rfl,hq2,hv,k1,?_,hnx',hk,hN⟩;exact (List.Perm.nodup_iff (List.Perm.append_left _ (List.Perm.append_right _ k2))).1 hnd'
def UM (r o:Nat):Nat:=match Nat.beq o 2 with|true=>r|false=>o
abbrev cR (g:FuncId) (args:List ac) (cs:List ap) (es:List (Go.Value×ap)) (n:Nat) (v:ac):Prop:=KC g args (hG 2 (av cs) es n) 3 (XQ ⟨v,hG 2 (av cs) es n,3⟩)
theorem qd {g:FuncId} {args:List ac} {v:ac} {cs:List ap} {es:List (Go.Value×ap)} {n r m:Nat} (ha:dM 3 args=false) (he:gD (UM r) args=args) (hv:fg (iG (UM r) 3 m) v=v) (pre:Heap) (h:cR g args cs es n v) :
  KC g args (pre++hG r (av cs) es n) m (XQ ⟨v,pre++hG r (av cs) es n,m⟩):=by
 have e1:∀ρ:Nat->Nat,ρ 0=0->ρ 1=1->ρ 2=r->lk ρ (hG 2 (av cs) es n)=hG r (av cs) es n:=by
  intro ρ h0 h1 h2;simp[hG,lk,mC,qT,rD,gD,fg,h0,h1,h2]
 have hf:=aB.frame h (UM r) (heap:=pre++hG r (av cs) es n) (rest:=pre) (next:=m) (by rw[e1 _ rfl rfl rfl];exact List.perm_append_comm) (by rfl) (by simp[cG,hG,lY,jz,dM,dB];exact⟨rfl,rfl⟩) (by rfl) ha;rw[he] at hf;refine aB.jf hf ?_;rintro v' h' m' ⟨v0,h1,n1,⟨rfl,rfl,rfl⟩,rfl,rfl,rfl⟩;rw[hv,e1 _ rfl rfl rfl];exact⟨_,List.perm_append_comm,rfl,rfl,rfl⟩
theorem E5 (r m:Nat) (pre:Heap) (ds:List aQ) (tl:List ap) (nm:List UInt8):KC 49 [hP,.dat (sb nm)] (pre++hH r ds tl) m (XQ ⟨.tup [.dat (iO (aD ds nm)).enc,bv (eg (aD ds nm))],pre++hH r ds tl,m⟩):=
 qd rfl rfl rfl pre (nW ds tl nm)
theorem US (v:ac) (cs:List ap) (es:List (Go.Value×ap)) (n:Nat) (hv:dB 3 v=false):qJ 3 ⟨v,hG 2 (av cs) es n,3⟩=⟨v,hG 2 (av cs) es n,3⟩:=gcG hv rfl rfl
theorem ER {cs:List ap} {es:List (Go.Value×ap)} {n:Nat} {nm:List UInt8} {k ix:Int} {l:List ap} {nm1 nm2:List UInt8} {ar k1 ix1:Int} {con c:Bool} {la lb:List ap}
  (hf:cR 49 [hP,.dat (sb nm)] cs es n (.tup [.dat (eh nm1 ar k1 nm2 ix1 la con lb),bv true])) (hc:aP ar (Int.ofNat l.length)=c) :
  cR 59 [hP,.dat (.agg [i64 k,sb nm,i64 ix,sl l])] cs es n (bv c):=by
 have hg:=fun b=>US (bv b) cs es n rfl
 have hg1:=hg true;have hg2:=hg false
 rcases l with _|⟨z,l⟩ <;>
 ·rcases la with _|⟨x,la⟩ <;>
  ·rcases lb with _|⟨y,lb⟩ <;>
   ·refine co [21] [] (x:=.of Tryz.f59 Lm Jx) ?_;refine oh hf ?_;refine ob hc ?_
    cases c
    ·exact bh (by kernel_rfl) hg2
    exact bh (by kernel_rfl) hg1
theorem HE {cs:List ap} {es:List (Go.Value×ap)} {n:Nat} {nm:List UInt8} {k ix:Int} {l:List ap}
  (hf:cR 49 [hP,.dat (sb nm)] cs es n (.tup [.dat aQ.zero.enc,bv false])) :
  cR 59 [hP,.dat (.agg [i64 k,sb nm,i64 ix,sl l])] cs es n (bv false):=by
 have hg:=US (bv false) cs es n rfl
 rcases l with _|⟨z,l⟩ <;>
 ·refine co [] [] (x:=.of Tryz.f59 Lm Jx) ?_;refine oh hf ?_;exact bh (by kernel_rfl) hg
def box:Name×aR:=(.out 3,.cells [hP])
def hB (cs:List ap) (es:List (Go.Value×ap)) (n:Nat):Heap:=box::hG 2 (av cs) es n
def bP:ac:=.ptr (.out 3) 0
theorem gcC (v:ac) (cs:List ap) (es:List (Go.Value×ap)) (n:Nat) (hv:dB 4 v=false):qJ 4 ⟨v,hB cs es n,4⟩=⟨v,hB cs es n,4⟩:=by
 have h1:eF 4 (hB cs es n)=hB cs es n:=rfl;have h2:cG 4 (hB cs es n)=false:=by simp[cG,hB,hG,lY,jz,dM,dB,box,hP];exact⟨rfl,rfl,rfl⟩
 unfold qJ;dsimp only;rw[h1,h2,hv];rfl
theorem gcD (v:ac) (cs:List ap) (es:List (Go.Value×ap)) (n:Nat) (hv:dB 3 v=false):qJ 3 ⟨v,hB cs es n,4⟩=⟨v,hG 2 (av cs) es n,3⟩:=by
 have h1:eF 3 (hB cs es n)=hG 2 (av cs) es n:=rfl;have h2:cG 3 (hG 2 (av cs) es n)=false:=by simp[cG,hG,lY,jz,dM,dB];exact⟨rfl,rfl⟩
 unfold qJ;dsimp only;rw[h1,h2,hv];rfl
abbrev Fi (g:FuncId) (args:List ac) (cs:List ap) (es:List (Go.Value×ap)) (n:Nat) (v:ac):Prop:=KC g args (hB cs es n) 4 (XQ ⟨v,hB cs es n,4⟩)
theorem NH {cs:List ap} {es:List (Go.Value×ap)} {n:Nat} {k ix:Int} {nm:List UInt8} {l:List ap} {c:Bool} (h:Fi 39 [hP,.dat (.agg [i64 k,sb nm,i64 ix,sl l])] cs es n (bv c)) :
  Fi 70 [.dat (.agg [i64 k,sb nm,i64 ix,sl l]),bP] cs es n (bv (!c)):=by
 have hg:=gcC (bv (!c)) cs es n rfl
 rcases l with _|⟨z,l⟩ <;>
 ·refine co [] [] (x:=.of Tryz.f70 QU SF) ?_;refine oh h ?_;exact bh (by kernel_rfl) hg
theorem dL {α:Type} {l:List α} {i:Nat} {t:α} (h:l[i]?=some t):l.drop i=t::l.drop (i+1):=by
 obtain⟨hi,rfl⟩:=List.getElem?_eq_some_iff.1 h;exact List.drop_eq_getElem_cons hi
def uN {α:Type} (p:α->Bool):List α->Nat->Int
 | [],_=>-1
 | x::r,i=>match p x with|true=>Int.ofNat i|false=>uN p r (i+1)
theorem Eu {α:Type} {p:α->Bool}:∀{l:List α} {i:Nat},bq (uN p l i) 0=!(l.any p)
 | [],_=>rfl
 | x::r,i=>by
  simp only[uN,List.any_cons]
  cases p x with
  | true=>exact bC (i:=i) (L:=0) (by omega)
  | false=>rw[Eu,Bool.false_or]
theorem Aw {α:Type} {p:α->Bool} {l:List α} {i:Nat} {t:α} (h:l[i]?=some t):uN p (l.drop i) i=match p t with|true=>Int.ofNat i|false=>uN p (l.drop (i+1)) (i+1):=by rw[dL h];rfl
noncomputable def Xf:Hints:=⟨ao,wH,aq,rowsOf aq 99⟩
def Xv:ac:=.fn (.func 70) [] [bP]
def stI (H:Heap) (nx:Nat) (l:List ap) (i:Int):ab:=⟨[(8,iv i),(7,iv (Int.ofNat l.length)),(0,.dat (.slice l)),(1,Xv)],[],H,nx⟩
def adQ (H:Heap) (nx:Nat) (l:List ap):ab:=⟨[(9,bv false),(8,iv (Int.ofNat l.length)),(7,iv (Int.ofNat l.length)),(0,.dat (.slice l)),(1,Xv)],[],H,nx⟩
def adR (H:Heap) (nx:Nat) (i:Nat):ab:=⟨[(4,iv (Int.ofNat i))],[],H,nx⟩
def ZS (H:Heap) (nx:Nat):ab:=⟨[(8,iv 0),(7,iv 0),(0,.dat nl),(1,Xv)],[],H,nx⟩
def Yx (H:Heap) (nx:Nat):ab:=⟨[(9,bv false),(8,iv 0),(7,iv 0),(0,.dat nl),(1,Xv)],[],H,nx⟩
theorem G1 {l:List Ty} {t:Ty} {H:Heap} {nx i:Nat} {c:Bool} {T:Exit->aa->Prop} (hi:i < (au l).length) (ht:l[i]?=some t) (hc:KC 70 [.dat t.enc,bP] H nx (XQ ⟨bv c,H,nx⟩))
  (e1:c=false->T .normal ((stI H nx (au l) (aH .i64 (Int.ofNat i+1))).aw Tryz.f99.ntmps)) (e2:c=true->T .ret ((adR H nx i).aw Tryz.f99.ntmps)) :
  KD (roundOf Tryz.f99 0) T ((stI H nx (au l) (Int.ofNat i)).aw Tryz.f99.ntmps):=by
 have h1:=bA hi;have h2:=jZ ht;generalize au l=es at *;clear ht hi;obtain⟨k2,nm2,ix2,a2⟩:=t
 rcases a2 with _|⟨b,d⟩ <;>
 ·cases c
  ·refine aC [9] [14] (H:=Xf) (live:=jj) (by kernel_rfl) ?_;refine ob h1 ?_;refine oo h2 ?_;refine oh hc ?_;exact oe (e1 rfl)
  refine aC [9] [14] (H:=Xf) (live:=jj) (by kernel_rfl) ?_;refine ob h1 ?_;refine oo h2 ?_;refine oh hc ?_;exact oe (e2 rfl)
theorem NN {l:List ap} {H:Heap} {nx:Nat} {T:Exit->aa->Prop} (e1:T (.exit 0) ((adQ H nx l).aw Tryz.f99.ntmps)) :
  KD (roundOf Tryz.f99 0) T ((stI H nx l (Int.ofNat l.length)).aw Tryz.f99.ntmps):=by
 have h1:=bC (i:=l.length) (L:=l.length) (by omega);refine aC [9] [] (H:=Xf) (live:=jj) (by kernel_rfl) ?_;refine ob h1 ?_;exact oe e1
theorem JU {H:Heap} {nx:Nat} {T:Exit->aa->Prop} (e1:T (.exit 0) ((Yx H nx).aw Tryz.f99.ntmps)) :
  KD (roundOf Tryz.f99 0) T ((ZS H nx).aw Tryz.f99.ntmps):=by
 refine aC [] [] (H:=Xf) (live:=jj) (by kernel_rfl) ?_;exact oe e1
theorem JW {l:List Ty} {p:Ty->Bool} {H:Heap} {nx:Nat} {x:ap} {r:List ap} (hl0:au l=x::r) (hg:∀v,dB nx v=false->qJ nx ⟨v,H,nx⟩=⟨v,H,nx⟩) (hp:∀t∈l,KC 70 [.dat t.enc,bP] H nx (XQ ⟨bv (p t),H,nx⟩)) (hb:l.length < 1000000000) :
  KC 99 [.dat (.slice (x::r)),Xv] H nx (XQ ⟨iv (uN p l 0),H,nx⟩):=by
 have hl:KD (.loop (roundOf Tryz.f99 0)) (fun e s=>(e=.exit 0/\uN p l 0=-1/\s=(adQ H nx (x::r)).aw Tryz.f99.ntmps)∨(e=.ret/\∃i:Nat,uN p l 0=Int.ofNat i/\s=(adR H nx i).aw Tryz.f99.ntmps)) ((stI H nx (x::r) (Int.ofNat 0)).aw Tryz.f99.ntmps):=by
  rw[←hl0];refine cI (St:=fun i=>(stI H nx (au l) (Int.ofNat i)).aw Tryz.f99.ntmps) (fun i=>uN p l 0=uN p (l.drop i) i) (au l).length ?_ ?_ (i:=0) (Nat.zero_le _) rfl
  ·intro i hi hI;obtain⟨t,ht,hm⟩:=get_mem hi;have ha:=Aw (p:=p) ht;have hw:aH .i64 (Int.ofNat i+1)=Int.ofNat (i+1):=bg (by rw[aF] at hi;omega);have hc:=hp t hm;rw[←hI] at ha;generalize p t=c at hc ha;refine G1 hi ht hc ?_ ?_
   ·rintro rfl;rw[hw];exact⟨rfl,ha⟩
   rintro rfl;exact .inr ⟨rfl,i,ha,rfl⟩
  intro hI;refine NN (.inl ⟨rfl,?_,rfl⟩);rw[hI,aF,List.drop_length];rfl
 have hg1:=hg (iv (uN p l 0)) rfl;clear hp hb hg;generalize hj:uN p l 0=j at hg1 hl;clear hj hl0;refine co [] [] (x:=.of Tryz.f99 wH jj) ?_;refine lo hl ?_;rintro ex s (⟨rfl,rfl,rfl⟩|⟨rfl,⟨x0,rfl,rfl⟩⟩) <;>
 ·refine⟨_,rfl,?_⟩;exact bh (by kernel_rfl) hg1
theorem acT {l:List Ty} {p:Ty->Bool} {H:Heap} {nx:Nat} (hg:∀v,dB nx v=false->qJ nx ⟨v,H,nx⟩=⟨v,H,nx⟩) (hp:∀t∈l,KC 70 [.dat t.enc,bP] H nx (XQ ⟨bv (p t),H,nx⟩)) (hb:l.length < 1000000000) :
  KC 69 [.dat (sl (au l)),Xv] H nx (XQ ⟨bv (l.any p),H,nx⟩):=by
 cases l with
 | nil=>
  have h0:KC 99 [.dat nl,Xv] H nx (XQ ⟨iv (-1),H,nx⟩):=by
   have hg1:=hg (iv (-1)) rfl;have hl:KD (.loop (roundOf Tryz.f99 0)) (fun e s=>(e=.exit 0/\s=(Yx H nx).aw Tryz.f99.ntmps)) ((ZS H nx).aw Tryz.f99.ntmps):=by
    refine bb (St:=fun _=>(ZS H nx).aw Tryz.f99.ntmps) 0 (fun i hi=>absurd hi (Nat.not_lt_zero i)) ?_ (i:=0) (Nat.le_refl _);exact JU ⟨rfl,rfl⟩
   clear hg hp hb;refine co [] [] (x:=.of Tryz.f99 wH jj) ?_;refine lo hl ?_;rintro ex s ⟨rfl,rfl⟩;refine⟨_,rfl,?_⟩;exact bh (by kernel_rfl) hg1
  have hg1:=hg (bv false) rfl;clear hg hp hb;refine co [] [] (x:=.of Tryz.f69 CA Am) ?_;refine oh h0 ?_;exact bh (by kernel_rfl) hg1
 | cons t r=>
  have h:=JW (l:=t::r) (x:=t.enc) (r:=au r) rfl hg hp hb;have h3:=Eu (p:=p) (l:=t::r) (i:=0);have hg1:=hg (bv (!(!((t::r).any p)))) rfl;generalize (t::r).any p=c at h3 hg1;have hg2:qJ nx ⟨bv (!(!c)),H,nx⟩=⟨bv c,H,nx⟩:=by rw[hg1,Bool.not_not]
  clear hg1;generalize uN p (t::r) 0=j at h3 h;show KC 69 [.dat (.slice (t.enc::au r)),Xv] H nx _;generalize t.enc=x at h;generalize au r=xs at h;clear hp hb hg;refine co [8] [] (x:=.of Tryz.f69 CA Am) ?_;refine oh h ?_;refine ox h3 ?_;exact bh (by kernel_rfl) hg2
theorem SW {cs:List ap} {es:List (Go.Value×ap)} {n:Nat} {k ix:Int} {nm:List UInt8} {l:List ap} {c kn d:Bool} (hk:aP k 2=kn) (hd:cR 59 [hP,.dat (.agg [i64 k,sb nm,i64 ix,sl l])] cs es n (bv d))
  (h:Fi 69 [.dat (sl l),Xv] cs es n (bv c)) :
  cR 39 [hP,.dat (.agg [i64 k,sb nm,i64 ix,sl l])] cs es n (bv (!(kn&&!d)&&!c)):=by
 have hg1:=gcD (bv (!c)) cs es n rfl;have hg3:=US (bv false) cs es n rfl
 rcases l with _|⟨z,l⟩
 ·refine co [7] [] (x:=.of Tryz.f39 Lu JC) ?_;refine ob hk ?_
  cases kn
  ·refine oh h ?_;exact bh (by kernel_rfl) hg1
  refine oh hd ?_
  cases d
  ·exact bh (by kernel_rfl) hg3
  refine oh h ?_;exact bh (by kernel_rfl) hg1
 refine co [7] [] (x:=.of Tryz.f39 Lu JC) ?_;refine ob hk ?_
 cases kn
 ·refine oh h ?_;exact bh (by kernel_rfl) hg1
 refine oh hd ?_
 cases d
 ·exact bh (by kernel_rfl) hg3
 refine oh h ?_;exact bh (by kernel_rfl) hg1
def fx (ds:List aQ) (t:Ty):Bool:=match t with|.mk _ nm _ l=>(match aD ds nm with|some d=>aP d.ar (Int.ofNat (au l).length)|none=>false)
mutual
def cy (ds:List aQ):Ty->Bool
 | .mk k nm ix l=>!(aP k 2&&!fx ds (.mk k nm ix l))&&!fC ds l
def fC (ds:List aQ):List Ty->Bool
 | []=>false
 | t::r=>!cy ds t||fC ds r
end
theorem Ac (ds:List aQ):∀l:List Ty,fC ds l=l.any (fun t=>!cy ds t)
 | []=>by simp[fC]
 | t::r=>by simp[fC,Ac ds r]
abbrev og (g:FuncId) (args:List ac) (ds:List aQ) (tl:List ap) (v:ac):Prop:=cR g args (bK ds++tl) (bE ds 0) ds.length v
theorem nX (ds:List aQ) (tl:List ap) (t:Ty):og 59 [hP,.dat t.enc] ds tl (bv (fx ds t)):=by
 obtain⟨k,nm,ix,l⟩:=t;have h:=nW ds tl nm;have e:fx ds (.mk k nm ix l)=(match aD ds nm with|some d=>aP d.ar (Int.ofNat (au l).length)|none=>false):=rfl;rw[e];clear e
 cases hf:aD ds nm with
 | none=>rw[hf] at h;exact HE h
 | some d=>
  rw[hf] at h;obtain⟨a,b,⟨k2,nm2,ix2,l2⟩,j,fl⟩:=d;exact ER h rfl
mutual
theorem yA (ds:List aQ) (tl:List ap):∀t:Ty,t.size < 1000000000->og 39 [hP,.dat t.enc] ds tl (bv (cy ds t))
 | .mk k nm ix l,hs=>by
  have hsl:aU l < 1000000000:=by simp only[Ty.size] at hs;omega
  have hlen:=eG l;have ih:=HQ ds tl l hsl;have h1:∀t∈l,Fi 70 [.dat t.enc,bP] (bK ds++tl) (bE ds 0) ds.length (bv (!cy ds t)):=by
   intro t ht;have h2:=qd (r:=2) (m:=4) rfl rfl rfl [box] (ih t ht);obtain⟨k2,nm2,ix2,l2⟩:=t;exact NH h2
  have h3:=acT (p:=fun t=>!cy ds t) (fun v hv=>gcC v _ _ _ hv) h1 (by omega);rw[←Ac] at h3;have h4:=SW rfl (nX ds tl (.mk k nm ix l)) h3;rw[cy];exact h4
theorem HQ (ds:List aQ) (tl:List ap):∀l:List Ty,aU l < 1000000000->∀t∈l,og 39 [hP,.dat t.enc] ds tl (bv (cy ds t))
 | [],_,t,ht=>by simp at ht
 | x::r,h,t,ht=>by
  simp only[aU] at h
  rcases List.mem_cons.1 ht with h1|ht
  ·rw[h1];exact yA ds tl x (by omega)
  exact HQ ds tl r (by omega) t ht
end
noncomputable def tiF:TI:=match Go.Tp.elemOf (env ay.aN) 33 with|some t=>t|none=>default
theorem O7:Go.Tp.elemOf (env ay.aN) 33=some tiF:=by kernel_rfl
theorem yM:tiF.size=5:=by kernel_rfl
theorem pG:∀l:List dq,aJ l=l.map dq.enc
 | []=>by simp[aJ]
 | t::r=>by simp[aJ,pG r]
theorem bd (l:List dq):(aJ l).length=l.length:=by simp[pG]
theorem TH {l:List dq} {i:Nat} {t:dq} (h:l[i]?=some t):(aJ l)[i]?=some t.enc:=by simp[pG,h]
theorem Tu (f:dq):f.enc.cells.length=5:=by obtain⟨a,⟨b,c,d,e⟩⟩:=f;rfl
theorem rZ {l:List dq} {i:Nat} {t:dq} (h:l[i]?=some t):aK (env ay.aN) 33 [.dat (.slice (aJ l)),.dat (.flat (.int .i64 (Int.ofNat i)))]=some ⟨.ref t.cells,.keep⟩:=
 uB O7 rfl (TH h) (by rw[yM];exact Tu t) (by rw[yM];decide)
theorem gv {l:List dq} {i:Nat} (h:i < (aJ l).length):∃t,l[i]?=some t/\t∈l:=by
 rw[bd] at h;exact⟨l[i],List.getElem?_eq_getElem h,List.getElem_mem h⟩
def rQ:List dq->ac
 | []=>.dat nl
 | t::r=>.own (aJ (t::r))
theorem TG {l:List dq} {d:ap} (h:d∈aJ l):∃t,d=dq.enc t:=by
 rw[pG] at h;obtain⟨t,_,rfl⟩:=List.mem_map.1 h;exact⟨t,rfl⟩
theorem Hy (a b:List dq):aJ (a++b)=aJ a++aJ b:=by simp[pG]
theorem AY (l:List dq):sizedB 5 (aJ l)=true:=ig (fun d hd=>by obtain⟨t,rfl⟩:=TG hd;exact Tu t)
theorem Kh (l:List dq):ew (aJ l)=false:=by
 cases l with
 | nil=>rfl
 | cons t r=>rfl
theorem afN {pre:List dq} {t:dq} (hl:pre.length < 1000000000):cJ (env ay.aN) false 33 [.own (aJ pre),.dat (.slice [t.enc])] none=some ⟨.own (aJ (pre++[t])),.keep⟩:=by
 rw[Hy];refine qF (i:=tiF) (ds:=[t.enc]) (k:=4) O7 rfl yM ?_ ?_ (by kernel_rfl) ?_ ?_ ?_ (by simp)
 ·exact AY [t]
 ·exact AY pre
 ·have h1:tiF.bytes<=1000:=fe (by kernel_rfl);rw[bd]
  calc (pre.length+1)*tiF.bytes<=1000000000*1000:=Nat.mul_le_mul (by omega) h1
   _<=140737488355328:=by decide
 ·rw[bd];simp[lim];omega
 unfold fQ;rw[show aJ pre++[t.enc]=aJ (pre++[t]) by rw[Hy];rfl,Kh]
noncomputable def Mg:Hints:=⟨ao,Lp,aq,rowsOf aq 53⟩
def Ju (nm:List UInt8) (ar k:Int) (nm2:List UInt8) (ix:Int) (a:ac) (con:Bool) (b:ac):Heap:=[(.loc 3,.cells [.dat (sb nm),iv ar,iv k,.dat (sb nm2),iv ix,a,.dat (bl con),b]),(.loc 2,.cells [.dat (sb []),iv 0,iv 0,.dat (sb []),iv 0,.dat nl,.dat (bl false),.dat nl])]
def PK (lo:Heap) (a:ap) (n:Nat) (i:Int):ab:=⟨[(15,iv i),(14,iv (Int.ofNat n)),(13,.dat a),(3,.ptr (.loc 3) 0),(2,.ptr (.loc 2) 0)],lo,[],0⟩
def YF (lo:Heap) (a:ap) (n:Nat) (i:Int):ab:=⟨[(16,bv false),(15,iv i),(14,iv (Int.ofNat n)),(13,.dat a),(3,.ptr (.loc 3) 0),(2,.ptr (.loc 2) 0)],lo,[],0⟩
theorem T9 {nm:List UInt8} {ar k:Int} {nm2:List UInt8} {ix:Int} {la:List ap} {con:Bool} {l pre:List dq} {i:Nat} {t:dq} (hi:i < (aJ l).length) (ht:l[i]?=some t) (hc:ag 58 [.dat t.ty.enc] (.dat t.ty.enc)) (hp:pre.length < 1000000000) {T:Exit->aa->Prop}
  (e:T .normal ((PK (Ju nm ar k nm2 ix (.dat (sl la)) con (rQ (pre++[t]))) (.slice (aJ l)) (aJ l).length (aH .i64 (Int.ofNat i+1))).aw Tryz.f53.ntmps)) :
  KD (roundOf Tryz.f53 0) T ((PK (Ju nm ar k nm2 ix (.dat (sl la)) con (rQ pre)) (.slice (aJ l)) (aJ l).length (Int.ofNat i)).aw Tryz.f53.ntmps):=by
 have h1:=bA hi;have h2:=rZ ht;have h3:=afN (t:=t) hp;clear ht hi hp;obtain⟨fn,k2,fnm,fix,fl⟩:=t;generalize aJ l=es at *
 rcases pre with _|⟨d,r⟩ <;>
 ·rcases la with _|⟨x,la⟩ <;>
  ·rcases fl with _|⟨y,fl⟩ <;>
   ·refine aC [16] [17,28] (H:=Mg) (live:=Eg) (by kernel_rfl) ?_;refine ob h1 ?_;refine oo h2 ?_;refine on hc ?_;refine oo h3 ?_;exact oe e
theorem XW {nm:List UInt8} {ar k:Int} {nm2:List UInt8} {ix:Int} {la:List ap} {con:Bool} {pre:List dq} {a:ap} {n:Nat} {T:Exit->aa->Prop}
  (e:T (.exit 0) ((YF (Ju nm ar k nm2 ix (.dat (sl la)) con (rQ pre)) a n (Int.ofNat n)).aw Tryz.f53.ntmps)) :
  KD (roundOf Tryz.f53 0) T ((PK (Ju nm ar k nm2 ix (.dat (sl la)) con (rQ pre)) a n (Int.ofNat n)).aw Tryz.f53.ntmps):=by
 have h1:=bC (i:=n) (L:=n) (by omega)
 rcases pre with _|⟨d,r⟩ <;>
 ·refine aC [16] [] (H:=Mg) (live:=Eg) (by kernel_rfl) ?_;refine ob h1 ?_;exact oe e
theorem XV {nm:List UInt8} {ar k:Int} {nm2:List UInt8} {ix:Int} {la:List ap} {con:Bool} {l:List dq} {a:ap} (ha:a=sl (aJ l)) (ih:∀t∈l,ag 58 [.dat t.ty.enc] (.dat t.ty.enc)) (hb:l.length < 1000000000) :
  KD (.loop (roundOf Tryz.f53 0)) (fun e s=>e=.exit 0/\s=(YF (Ju nm ar k nm2 ix (.dat (sl la)) con (rQ l)) a (aJ l).length (Int.ofNat (aJ l).length)).aw Tryz.f53.ntmps)
   ((PK (Ju nm ar k nm2 ix (.dat (sl la)) con (rQ [])) a (aJ l).length (Int.ofNat 0)).aw Tryz.f53.ntmps):=by
 refine bb (St:=fun i=>(PK (Ju nm ar k nm2 ix (.dat (sl la)) con (rQ (l.take i))) a (aJ l).length (Int.ofNat i)).aw Tryz.f53.ntmps) (aJ l).length ?_ ?_ (i:=0) (Nat.zero_le _)
 ·intro i hi;obtain⟨t,ht,hm⟩:=gv hi;have ha2:a=.slice (aJ l):=by
   rw[ha]
   cases l with
   | nil=>simp at ht
   | cons x r=>rfl
  subst ha2;refine T9 hi ht (ih t hm) (by rw[List.length_take];omega) ?_;rw[bd] at hi;rw[bg (by omega),←dC ht];rfl
 refine XW ⟨rfl,?_⟩;rw[bd,List.take_length]
theorem acK {nm:List UInt8} {ar k ix:Int} {nm2:List UInt8} {la:List ap} {con:Bool} {l:List dq} (hs:ag 58 [.dat (.agg [i64 k,sb nm2,i64 ix,sl la])] (.dat (.agg [i64 k,sb nm2,i64 ix,sl la])))
  (ih:∀t∈l,ag 58 [.dat t.ty.enc] (.dat t.ty.enc)) (hb:l.length < 1000000000) :
  ag 53 [.dat (eh nm ar k nm2 ix la con (aJ l))] (.dat (eh nm ar k nm2 ix la con (aJ l))):=by
 have hl:=XV (nm:=nm) (ar:=ar) (k:=k) (nm2:=nm2) (ix:=ix) (la:=la) (con:=con) (l:=l) rfl ih hb;clear ih hb
 rcases l with _|⟨f,l⟩ <;>
 ·rcases la with _|⟨x,la⟩ <;>
  ·refine co [] [] (x:=.of Tryz.f53 Lp Eg) ?_;refine on hs ?_;refine lo hl ?_;rintro ex s ⟨rfl,rfl⟩;refine⟨_,rfl,?_⟩;exact fi
def Ty.cB (t:Ty):Prop:=t.size < 100000000/\t.dR
def aQ.cB (d:aQ):Prop:=d.sup.cB/\(∀f∈d.fl,f.ty.cB)/\d.fl.length < 1000000000
theorem HW {t:Ty} (h:t.cB):ag 58 [.dat t.enc] (.dat t.enc):=HV (by have:=h.1;omega) h.2 (by have:=h.1;have:=jr t;omega)
theorem xt {d:aQ} (h:d.cB):ag 53 [.dat d.enc] (.dat d.enc):=by
 obtain⟨h1,h2,h3⟩:=h;obtain⟨a,b,⟨k2,nm2,ix2,l2⟩,j,fl⟩:=d;exact acK (HW h1) (fun t ht=>HW (h2 t ht)) h3
theorem agq {nm nm2:List UInt8} {t u:Ty} {c d:Bool} (h1:dU nm nm2=c) (h:ag 91 [.dat t.enc,.dat u.enc] (bv d)) :
  ag 90 [.dat (dq.enc ⟨nm,t⟩),.dat (dq.enc ⟨nm2,u⟩)] (bv (c&&d)):=by
 obtain⟨k,tn,ix,l⟩:=t;obtain⟨k2,tn2,ix2,l2⟩:=u
 rcases l with _|⟨x,l⟩ <;>
 ·rcases l2 with _|⟨x2,l2⟩ <;>
  ·refine co [9] [] (x:=.of Tryz.f90 QL Sw) ?_;refine ob h1 ?_
   cases c
   ·exact fi
   refine on h ?_;exact fi
def fnE:ac:=.fn (.func 90) [] []
noncomputable def aaG:Hints:=⟨ao,wI,aq,rowsOf aq 92⟩
def stE (a b:ap) (n:Nat) (i:Int):ab:=⟨[(17,iv i),(16,iv (Int.ofNat n)),(15,.dat a),(1,.dat b),(2,fnE)],[],[],0⟩
def ZV (a b:ap) (n:Nat) (i:Int):ab:=⟨[(18,bv false),(17,iv i),(16,iv (Int.ofNat n)),(15,.dat a),(1,.dat b),(2,fnE)],[],[],0⟩
def ZW (c:Bool):ab:=⟨[(6,bv c)],[],[],0⟩
def dq.eq (f g:dq):Bool:=dU f.nm g.nm&&N6 f.ty g.ty
def sh:List dq->List dq->Bool
 | f::r,g::s=>f.eq g&&sh r s
 | _,_=>true
theorem TM {l l2:List dq} {t u:dq} {i:Nat} {c:Bool} {T:Exit->aa->Prop} (hi:i < (aJ l).length) (ht:l[i]?=some t) (hu:l2[i]?=some u) (hc:ag 90 [.dat t.enc,.dat u.enc] (bv c))
  (e1:c=true->T .normal ((stE (.slice (aJ l)) (.slice (aJ l2)) (aJ l).length (aH .i64 (Int.ofNat i+1))).aw Tryz.f92.ntmps)) (e2:c=false->T .ret ((ZW false).aw Tryz.f92.ntmps)) :
  KD (roundOf Tryz.f92 0) T ((stE (.slice (aJ l)) (.slice (aJ l2)) (aJ l).length (Int.ofNat i)).aw Tryz.f92.ntmps):=by
 have h1:=bA hi;have h2:=rZ ht;have h3:=rZ hu;generalize aJ l=es at *;generalize aJ l2=es2 at *;clear ht hi hu;obtain⟨nm,k,tn,ix,a⟩:=t;obtain⟨nm2,k2,tn2,ix2,b⟩:=u
 rcases a with _|⟨x,a⟩ <;>
 ·rcases b with _|⟨y,b⟩ <;>
  ·cases c
   ·refine aC [18] [20,24] (H:=aaG) (live:=nu) (by kernel_rfl) ?_;refine ob h1 ?_;refine oo h2 ?_;refine oo h3 ?_;refine on hc ?_;exact oe (e2 rfl)
   refine aC [18] [20,24] (H:=aaG) (live:=nu) (by kernel_rfl) ?_;refine ob h1 ?_;refine oo h2 ?_;refine oo h3 ?_;refine on hc ?_;exact oe (e1 rfl)
theorem XH {a b:ap} {n:Nat} {T:Exit->aa->Prop} (e:T (.exit 0) ((ZV a b n (Int.ofNat n)).aw Tryz.f92.ntmps)) :
  KD (roundOf Tryz.f92 0) T ((stE a b n (Int.ofNat n)).aw Tryz.f92.ntmps):=by
 have h1:=bC (i:=n) (L:=n) (by omega);refine aC [18] [] (H:=aaG) (live:=nu) (by kernel_rfl) ?_;refine ob h1 ?_;exact oe e
theorem C0 {l l2:List dq} {i:Nat} {t u:dq} (ht:l[i]?=some t) (hu:l2[i]?=some u):sh (l.drop i) (l2.drop i)=(t.eq u&&sh (l.drop (i+1)) (l2.drop (i+1))):=by rw[dL ht,dL hu];rfl
theorem XG {l l2:List dq} {a b:ap} (ha:a=sl (aJ l)) (hb:b=sl (aJ l2)) (hlen:l.length=l2.length) (hn:l.length < 1000000000) (hc:∀t∈l,∀u∈l2,ag 90 [.dat t.enc,.dat u.enc] (bv (t.eq u))) :
  KD (.loop (roundOf Tryz.f92 0)) (fun e s=>(e=.exit 0/\sh l l2=true/\s=(ZV a b (aJ l).length (Int.ofNat (aJ l).length)).aw Tryz.f92.ntmps)∨(e=.ret/\sh l l2=false/\s=(ZW false).aw Tryz.f92.ntmps)) ((stE a b (aJ l).length (Int.ofNat 0)).aw Tryz.f92.ntmps):=by
 refine cI (St:=fun i=>(stE a b (aJ l).length (Int.ofNat i)).aw Tryz.f92.ntmps) (fun i=>sh l l2=sh (l.drop i) (l2.drop i)) (aJ l).length ?_ ?_ (i:=0) (Nat.zero_le _) rfl
 ·intro i hi hI;obtain⟨t,ht,hm⟩:=gv hi;have hi2:=hi;rw[bd] at hi2;have hu:l2[i]?=some l2[i]:=List.getElem?_eq_getElem (by omega);have hm2:l2[i]∈l2:=List.getElem_mem _;generalize l2[i]=u at hu hm2;have h:=hc t hm u hm2;have hd:=C0 ht hu;rw[←hI] at hd;have hw:aH .i64 (Int.ofNat i+1)=Int.ofNat (i+1):=bg (by omega);have ha2:a=.slice (aJ l):=by
   rw[ha]
   cases l with
   | nil=>simp at ht
   | cons x r=>rfl
  have hb2:b=.slice (aJ l2):=by
   rw[hb]
   cases l2 with
   | nil=>simp at hu
   | cons x r=>rfl
  subst ha2;subst hb2;generalize t.eq u=c at h hd;refine TM hi ht hu h ?_ ?_
  ·rintro rfl;rw[hw];exact⟨rfl,hd⟩
  rintro rfl;exact .inr ⟨rfl,hd,rfl⟩
 intro hI;refine XH (.inl ⟨rfl,?_,rfl⟩);rw[hI,bd,List.drop_length]
 cases l2.drop l.length <;> rfl
def acB (l l2:List dq):Bool:=aP (Int.ofNat (aJ l).length) (Int.ofNat (aJ l2).length)&&sh l l2
theorem Mn {l l2:List dq} {c:Bool} (h:aP (Int.ofNat (aJ l).length) (Int.ofNat (aJ l2).length)=c):c=true->l.length=l2.length:=by
 rintro rfl;rw[sf,bd,bd] at h;simpa using h
theorem acE {a b:ap} {la lb:List ap} (ha:a=sl la) (hb:b=sl lb) {c d:Bool} (h:aP (Int.ofNat la.length) (Int.ofNat lb.length)=c)
  (hl:c=true->KD (.loop (roundOf Tryz.f92 0)) (fun e s=>(e=.exit 0/\d=true/\s=(ZV a b la.length (Int.ofNat la.length)).aw Tryz.f92.ntmps)∨(e=.ret/\d=false/\s=(ZW false).aw Tryz.f92.ntmps)) ((stE a b la.length (Int.ofNat 0)).aw Tryz.f92.ntmps)) :
  ag 92 [.dat a,.dat b,fnE] (bv (c&&d)):=by
 subst ha;subst hb
 rcases la with _|⟨x,la⟩
 ·rcases lb with _|⟨y,lb⟩
  ·cases c
   ·exact Bool.noConfusion (show true=false from h)
   have hl2:=hl rfl;clear hl;refine co [] [] (x:=.of Tryz.f92 wI nu) ?_;refine lo hl2 ?_;rintro ex s (⟨rfl,rfl,rfl⟩|⟨rfl,rfl,rfl⟩) <;>
   ·refine⟨_,rfl,?_⟩;exact fi
  cases c
  ·refine co [] [] (x:=.of Tryz.f92 wI nu) ?_;exact fi
  exact Bool.noConfusion (show false=true from h)
 rcases lb with _|⟨y,lb⟩
 ·cases c
  ·refine co [] [] (x:=.of Tryz.f92 wI nu) ?_;exact fi
  exact Bool.noConfusion (show false=true from h)
 cases c
 ·refine co [14] [] (x:=.of Tryz.f92 wI nu) ?_;refine ox h ?_;exact fi
 have hl2:=hl rfl;clear hl;refine co [14] [] (x:=.of Tryz.f92 wI nu) ?_;refine ox h ?_;refine lo hl2 ?_;rintro ex s (⟨rfl,rfl,rfl⟩|⟨rfl,rfl,rfl⟩) <;>
 ·refine⟨_,rfl,?_⟩;exact fi
def aQ.eq (a b:aQ):Bool:=dU a.nm b.nm&&(aP a.ar b.ar&&((a.con==b.con)&&(N6 a.sup b.sup&&acB a.fl b.fl)))
theorem XF {nm nm2:List UInt8} {ar ar2:Int} {con con2:Bool} {k ix k2 ix2:Int} {tn tn2:List UInt8} {la la2 lb lb2:List ap} {c1 c2 c4 c5:Bool} (h1:dU nm nm2=c1) (h2:aP ar ar2=c2)
  (h4:ag 91 [.dat (.agg [i64 k,sb tn,i64 ix,sl la]),.dat (.agg [i64 k2,sb tn2,i64 ix2,sl la2])] (bv c4)) (h5:ag 92 [.dat (sl lb),.dat (sl lb2),fnE] (bv c5)) :
  ag 51 [.dat (eh nm ar k tn ix la con lb),.dat (eh nm2 ar2 k2 tn2 ix2 la2 con2 lb2)] (bv (c1&&(c2&&((con==con2)&&(c4&&c5))))):=by
 rcases la with _|⟨x,la⟩ <;>
 ·rcases la2 with _|⟨x2,la2⟩ <;>
  ·rcases lb with _|⟨y,lb⟩ <;>
   ·rcases lb2 with _|⟨y2,lb2⟩ <;>
    ·refine co [10,16] [] (x:=.of Tryz.f51 Q1 SM) ?_;refine ob h1 ?_
     cases c1
     ·exact fi
     refine ob h2 ?_
     cases c2
     ·exact fi
     cases con
     ·cases con2
      ·refine on h4 ?_
       cases c4
       ·exact fi
       refine on h5 ?_;exact fi
      exact fi
     cases con2
     ·exact fi
     refine on h4 ?_
     cases c4
     ·exact fi
     refine on h5 ?_;exact fi
theorem E6 {a b:aQ} (ha:a.cB) (hb:b.cB):ag 51 [.dat a.enc,.dat b.enc] (bv (a.eq b)):=by
 obtain⟨a1,a2,a3⟩:=ha;obtain⟨b1,b2,b3⟩:=hb;have h4:ag 91 [.dat a.sup.enc,.dat b.sup.enc] (bv (N6 a.sup b.sup)):=Mx _ _ (by have:=a1.1;omega);have hf:∀t∈a.fl,∀u∈b.fl,ag 90 [.dat t.enc,.dat u.enc] (bv (t.eq u)):=by
  intro t ht u hu;exact agq rfl (Mx _ _ (by have:=(a2 t ht).1;omega))
 have h5:ag 92 [.dat (sl (aJ a.fl)),.dat (sl (aJ b.fl)),fnE] (bv (acB a.fl b.fl)):=
  acE rfl rfl rfl (fun h=>XG rfl rfl (Mn rfl h) a3 hf)
 obtain⟨anm,aar,⟨k,tn,ix,la⟩,acon,afl⟩:=a;obtain⟨bnm,bar,⟨k2,tn2,ix2,la2⟩,bcon,bfl⟩:=b;exact XF rfl rfl h4 h5
end Go.Proofs.YtiihadmgkoamoaaGreatDoor
